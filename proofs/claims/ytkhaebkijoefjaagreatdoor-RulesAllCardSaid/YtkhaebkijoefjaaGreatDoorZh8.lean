/- Zh8: addresses, parts, slices, conversions, lengths. -/
import Derived.Test.YtkhaebkijoefjaaGreatDoorZh7
namespace Go.Zh
open Go.RowKit
set_option linter.unusedVariables false

variable {B : Nat} {gl : List Nat} {φ : Phi} {A : AH} {w w' : World} {P : Program} {β : Type}

/-! ### addresses -/
def afaddr (off : Nat) (p : Value) (k : Value → Option β) : Option β :=
  match p with
  | .pointer (some ⟨b, o, s⟩) => natK (o + off) fun o => k (.pointer (some ⟨b, o, s⟩))
  | _ => none

def fieldOff (P : Program) (s : TypeId) (f : Nat) : Option Nat :=
  match P.underlying s with
  | some (.struct fs) => match fs[f]? with
    | some x => match P.info? x.type with
      | some i => bif Nat.beq i.size 0 then none else some x.offset
      | none => none
    | none => none
  | _ => none

theorem faddr_sim {st : TypeId} {f off : Nat} (ho : fieldOff P st f = some off) {p p' : Value} (hp : VR φ p p') {k : Value → Option β} {r : β} (hk : afaddr off p k = some r) :
    ∃ v v', k v = some r ∧ (Instr.fieldAt st p' f).run P w = .ok v' w ∧ VR φ v v' := by
  unfold fieldOff at ho
  split at ho
  case h_2 => cases ho
  rename_i fs hfs
  split at ho
  case h_2 => cases ho
  rename_i x hx
  split at ho
  case h_2 => cases ho
  rename_i i hi
  cases hz : Nat.beq i.size 0 with
  | true => rw [hz] at ho; cases ho
  | false =>
    rw [hz] at ho
    cases ho
    have hz : ¬ i.size = 0 := fun e => by rw [e] at hz; cases hz
    unfold afaddr at hk
    split at hk
    case h_2 => cases hk
    rename_i b o s
    rw [natK_eq] at hk
    cases hp with
    | ptr hφ =>
    rename_i pb
    refine ⟨_, .pointer (some ⟨pb.r, o + x.offset, none⟩), hk, ?_, .ptr hφ⟩
    simp only [Instr.fieldAt, Sem.run_bind, run_underlying hfs, Result.andThen_ok, hx, Instr.sureAddr, Sem.run_pure, fieldPlace, sizeOf, typeInfo, run_program, hi, Sem.run_ite, if_neg hz, addr_add]

/-- The address of an element of a slice. -/
def aidxS (e : Nat) (x i : Value) (k : Value → Option β) : Option β :=
  match x, i with
  | .slice (some ⟨b, o, s⟩) len _, .int _ n => match n with
    | .ofNat m => bif Nat.ble (m + 1) len then natK (o + m * e) fun o => k (.pointer (some ⟨b, o, s⟩)) else none
    | .negSucc _ => none
  | _, _ => none

theorem idxS_sim {t e : TypeId} {i : TypeInfo} (ht : P.underlying t = some (.slice e)) (hi : P.info? e = some i) {x x' n n' : Value} (hx : VR φ x x') (hn : VR φ n n') {k : Value → Option β} {r : β}
    (hk : aidxS i.size x n k = some r) : ∃ v v', k v = some r ∧ (Instr.indexAt t x' n').run P w = .ok v' w ∧ VR φ v v' := by
  unfold aidxS at hk
  split at hk
  case h_2 => cases hk
  rename_i b o s len cap kd n
  split at hk
  case h_2 => cases hk
  rename_i m
  cases hm : Nat.ble (m + 1) len with
  | false => rw [hm] at hk; cases hk
  | true =>
    rw [hm, cond_true, natK_eq] at hk
    have hm := Nat.ble_iff hm
    cases hn
    cases hx with
    | slice hφ hoff hcap hlim =>
    rename_i pb o' cap'
    have ho : o' = o := by
      rcases hoff with e1 | e1
      · exact e1
      · have := e1.2; omega
    subst ho
    refine ⟨_, .pointer (some ⟨pb.r, o' + m * i.size, none⟩), hk, ?_, .ptr hφ⟩
    have h1 : (0 : Int) ≤ Int.ofNat m ∧ Int.ofNat m < (len : Int) := ⟨Int.natCast_nonneg m, by show (m : Int) < len; omega⟩
    have h2 : (Int.ofNat m).toNat = m := rfl
    simp only [Instr.indexAt, asIntOf, Sem.run_bind, Sem.run_pure, Result.andThen_ok, run_underlying ht, Bool.and_false, Sem.run_ite, if_pos h1, sizeOf, typeInfo, run_program, hi, h2, addr_add]

/-- The address of an element of an array. -/
def aidxA (e len : Nat) (x i : Value) (k : Value → Option β) : Option β :=
  match x, i with
  | .pointer (some ⟨b, o, s⟩), .int _ n => match n with
    | .ofNat m => bif Nat.ble (m + 1) len then natK (o + m * e) fun o => k (.pointer (some ⟨b, o, s⟩)) else none
    | .negSucc _ => none
  | _, _ => none

theorem idxA_sim {t e : TypeId} {len : Nat} {i : TypeInfo} (ht : P.underlying t = some (.array len e)) (hi : P.info? e = some i) {x x' n n' : Value} (hx : VR φ x x') (hn : VR φ n n') {k : Value → Option β} {r : β}
    (hk : aidxA i.size len x n k = some r) : ∃ v v', k v = some r ∧ (Instr.indexAt t x' n').run P w = .ok v' w ∧ VR φ v v' := by
  unfold aidxA at hk
  split at hk
  case h_2 => cases hk
  rename_i b o s kd n
  split at hk
  case h_2 => cases hk
  rename_i m
  cases hm : Nat.ble (m + 1) len with
  | false => rw [hm] at hk; cases hk
  | true =>
    rw [hm, cond_true, natK_eq] at hk
    have hm := Nat.ble_iff hm
    cases hn
    cases hx with
    | ptr hφ =>
    rename_i pb
    refine ⟨_, .pointer (some ⟨pb.r, o + m * i.size, none⟩), hk, ?_, .ptr hφ⟩
    have h1 : (0 : Int) ≤ Int.ofNat m ∧ Int.ofNat m < (len : Int) := ⟨Int.natCast_nonneg m, by show (m : Int) < len; omega⟩
    have h2 : (Int.ofNat m).toNat = m := rfl
    simp only [Instr.indexAt, asIntOf, Sem.run_bind, Sem.run_pure, Result.andThen_ok, run_underlying ht, Instr.sureAddr, Sem.run_ite, if_pos h1, sizeOf, typeInfo, run_program, hi, h2, addr_add]

/-- A byte of a text. -/
def aidxT (x i : Value) (k : Value → Option β) : Option β :=
  match x, i with
  | .string s, .int _ n => match n with
    | .ofNat m => match s.data.toList[m]? with
      | some b => natK b.toNat fun b => k (.int .u8 b)
      | none => none
    | .negSucc _ => none
  | _, _ => none

theorem idxT_sim {t : TypeId} (ht : P.underlying t = some .string) {x x' n n' : Value} (hx : VR φ x x') (hn : VR φ n n') {k : Value → Option β} {r : β}
    (hk : aidxT x n k = some r) : ∃ v v', k v = some r ∧ (Instr.index t x' n').run P w = .ok v' w ∧ VR φ v v' := by
  unfold aidxT at hk
  split at hk
  case h_2 => cases hk
  rename_i s kd n
  split at hk
  case h_2 => cases hk
  rename_i m
  split at hk
  case h_2 => cases hk
  rename_i b hb
  rw [natK_eq] at hk
  cases hn; cases hx
  refine ⟨_, .int .u8 b.toNat, hk, ?_, .int _ _⟩
  have h1 : (0 : Int) ≤ Int.ofNat m := Int.natCast_nonneg m
  have h2 : (Int.ofNat m).toNat = m := rfl
  have h3 : s[m]? = some b := by
    rw [← hb]
    by_cases hm : m < s.size
    · rw [getElem?_pos s m hm, Array.getElem?_toList, Array.getElem?_eq_getElem hm]; rfl
    · rw [getElem?_neg s m hm, List.getElem?_eq_none (by rw [Lib.size_eq] at hm; omega)]
  simp only [Instr.index, asIntOf, Sem.run_bind, Sem.run_pure, Result.andThen_ok, run_underlying ht, if_pos h1, h2, h3]

/-- A part of a struct or an array that stands as a value. -/
def apart (off : Nat) (n : Option Nat) (x : Value) (k : Value → Option β) : Option β :=
  match x with
  | .agg c => match n with
    | none => match c.toList[off]? with
      | some v => k v
      | none => none
    | some m => bif Nat.ble (off + m) c.toList.length then listK ((c.toList.drop off).take m) fun l => k (.agg ⟨l⟩) else none
  | _ => none

theorem part_sim {t : TypeId} {n : Option Nat} (hn : loadKind P t = some n) {off : Nat} {c c' : Array Value} (hc : VRs φ c.toList c'.toList) {k : Value → Option β} {r : β}
    (hk : apart off n (.agg c) k = some r) : ∃ v v', k v = some r ∧ (part t c' off).run P w = .ok v' w ∧ VR φ v v' := by
  unfold loadKind at hn
  split at hn
  case h_2 => cases hn
  rename_i d i hd hi
  cases hn
  unfold apart at hk
  dsimp only at hk
  cases hg : isAggD d with
  | false =>
    rw [hg] at hk
    simp only [cond_false] at hk
    split at hk
    case h_2 => cases hk
    rename_i v hv
    obtain ⟨v', e, hr⟩ := hc.get hv
    refine ⟨v, v', hk, ?_, hr⟩
    rw [Array.getElem?_toList] at e
    simp only [part, Sem.run_bind, run_isAgg hd, hg, Result.andThen_ok, Bool.false_eq_true, if_false, e, Sem.run_pure]
  | true =>
    rw [hg] at hk
    simp only [cond_true] at hk
    cases hb : Nat.ble (off + i.size) c.toList.length with
    | false => rw [hb] at hk; cases hk
    | true =>
      rw [hb, cond_true, listK_eq] at hk
      have hb := Nat.ble_iff hb
      have hr := (hc.drop off).take i.size
      have he : (c'.extract off (off + i.size)).toList = (c'.toList.drop off).take i.size := by
        simp [Array.toList_extract, List.extract_eq_take_drop]
      rw [← he] at hr
      refine ⟨_, .agg (c'.extract off (off + i.size)), hk, ?_, .agg hr.1 hr.2⟩
      simp only [part, Sem.run_bind, run_isAgg hd, hg, Result.andThen_ok, if_true, sizeOf, typeInfo, run_program, hi, Sem.run_pure]

/-- A part of an array by its number. -/
def aidxV (e len : Nat) (n : Option Nat) (x i : Value) (k : Value → Option β) : Option β :=
  match i with
  | .int _ (.ofNat m) => bif Nat.ble (m + 1) len then natK (m * e) fun o => apart o n x k else none
  | _ => none

theorem idxV_sim {t e : TypeId} {len : Nat} {i : TypeInfo} {n : Option Nat} (ht : P.underlying t = some (.array len e)) (hi : P.info? e = some i) (hn : loadKind P e = some n) {x x' m m' : Value} (hx : VR φ x x') (hm : VR φ m m')
    {k : Value → Option β} {r : β} (hk : aidxV i.size len n x m k = some r) : ∃ v v', k v = some r ∧ (Instr.index t x' m').run P w = .ok v' w ∧ VR φ v v' := by
  unfold aidxV at hk
  split at hk
  case h_2 => cases hk
  rename_i kd j
  cases hj : Nat.ble (j + 1) len with
  | false => rw [hj] at hk; cases hk
  | true =>
    rw [hj, cond_true, natK_eq] at hk
    have hj := Nat.ble_iff hj
    cases hm
    cases hx with
    | agg h1 h2 =>
      obtain ⟨v, v', g1, g2, g3⟩ := part_sim (w := w) hn (off := j * i.size) ⟨h1, h2⟩ hk
      refine ⟨v, v', g1, ?_, g3⟩
      have e1 : (0 : Int) ≤ Int.ofNat j ∧ Int.ofNat j < (len : Int) := ⟨Int.natCast_nonneg j, by show (j : Int) < len; omega⟩
      have e2 : (Int.ofNat j).toNat = j := rfl
      simp only [Instr.index, asIntOf, Sem.run_bind, Sem.run_pure, Result.andThen_ok, run_underlying ht, if_pos e1, sizeOf, typeInfo, run_program, hi, e2]
      exact g2
    | _ => simp [apart] at hk

/-- The lesser, the greater of two numbers. -/
def amm (mx : Bool) (x y : Value) (k : Value → Option β) : Option β :=
  match x, y with
  | .int kd a, .int _ b => match mx with
    | false => match decide (b < a) with
      | true => k (.int kd b)
      | false => k (.int kd a)
    | true => match decide (b > a) with
      | true => k (.int kd b)
      | false => k (.int kd a)
  | _, _ => none

theorem mm_sim {mx : Bool} {x x' y y' : Value} {ts : Array TypeId} {ty : TypeId} (hx : VR φ x x') (hy : VR φ y y') {k : Value → Option β} {r : β} (hk : amm mx x y k = some r) :
    ∃ v v', k v = some r ∧ (match mx with | false => (Builtin.min_ ts ty #[x', y']).run P w | true => (Builtin.max_ ts ty #[x', y']).run P w) = .ok v' w ∧ VR φ v v' := by
  unfold amm at hk
  split at hk
  case h_2 => cases hk
  rename_i kd a l b
  cases hx; cases hy
  cases mx with
  | false =>
    dsimp only at hk ⊢
    by_cases h : b < a
    · simp only [h, decide_true] at hk
      exact ⟨_, _, hk, by simp [Builtin.min_, Builtin.min2, h], .int _ _⟩
    · simp only [h, decide_false] at hk
      exact ⟨_, _, hk, by simp [Builtin.min_, Builtin.min2, h], .int _ _⟩
  | true =>
    dsimp only at hk ⊢
    by_cases h : b > a
    · simp only [h, decide_true] at hk
      exact ⟨_, _, hk, by simp [Builtin.max_, Builtin.max2, h], .int _ _⟩
    · simp only [h, decide_false] at hk
      exact ⟨_, _, hk, by simp [Builtin.max_, Builtin.max2, h], .int _ _⟩

/-! ### slices -/
def bound (x : Option Value) (dflt : Nat) : Option Nat :=
  match x with
  | none => some dflt
  | some (.int _ (.ofNat n)) => some n
  | _ => none

/-- A piece of a text. -/
def asliceT (x : Value) (lo hi : Option Value) (k : Value → Option β) : Option β :=
  match x with
  | .string s => match bound lo 0, bound hi s.data.toList.length with
    | some l, some h => bif Nat.ble l h && Nat.ble h s.data.toList.length then strK ((s.data.toList.drop l).take (h - l)) k else none
    | _, _ => none
  | _ => none

theorem bound_some (m : Value) (a b : Nat) : bound (some m) a = bound (some m) b := by
  cases m with
  | int k n => cases n <;> rfl
  | _ => rfl

def VRo (φ : Phi) : Option Value → Option Value → Prop
  | none, none => True
  | some v, some v' => VR φ v v'
  | _, _ => False

theorem bound_sim {x x' : Option Value} (hx : VRo φ x x') {d n y : Nat} (h : bound x d = some n) {code : BoundsCode} (hy : n ≤ y) :
    (x' = none ∧ n = d) ∨ (∃ v, x' = some v ∧ ∀ w, (Instr.sliceBound v y code).run P w = .ok n w) := by
  unfold bound at h
  split at h
  · cases h
    cases x' with
    | none => exact .inl ⟨rfl, rfl⟩
    | some v => exact absurd hx (by simp [VRo])
  · cases h
    cases x' with
    | none => exact absurd hx (by simp [VRo])
    | some v =>
      simp only [VRo] at hx
      cases hx
      refine .inr ⟨_, rfl, fun w => ?_⟩
      have h1 : (0 : Int) ≤ Int.ofNat n ∧ Int.ofNat n ≤ (y : Int) := ⟨Int.natCast_nonneg n, by show (n : Int) ≤ y; omega⟩
      simp only [Instr.sliceBound, asIntOf, Sem.run_bind, Sem.run_pure, Result.andThen_ok, Sem.run_ite, if_pos h1]
      rfl
  · cases h

/-- The bounds of a slice, without a third index. -/
theorem bounds_sim {lo lo' hi hi' : Option Value} (hl : VRo φ lo lo') (hh : VRo φ hi hi') {isS : Bool} {len cap l h : Nat} (e1 : bound lo 0 = some l) (e2 : bound hi len = some h) (h1 : l ≤ h) (h2 : h ≤ cap) :
    (Instr.sliceBounds isS len cap lo' hi' none).run P w = .ok (l, h, cap) w := by
  have b2 := bound_sim (P := P) hh e2 (code := if isS then .sliceAcap else .sliceAlen) h2
  have b1 := bound_sim (P := P) hl e1 (code := .sliceB) h1
  rcases b2 with ⟨rfl, rfl⟩ | ⟨v, rfl, hv⟩ <;> rcases b1 with ⟨rfl, rfl⟩ | ⟨u, rfl, hu⟩
  all_goals simp [Instr.sliceBounds, *]

theorem sliceT_sim {t : TypeId} (ht : P.underlying t = some .string) {x x' : Value} {lo lo' hi hi' : Option Value} (hx : VR φ x x') (hl : VRo φ lo lo') (hh : VRo φ hi hi') {k : Value → Option β} {r : β}
    (hk : asliceT x lo hi k = some r) : ∃ v v', k v = some r ∧ (Instr.sliceAt t x' lo' hi' none).run P w = .ok v' w ∧ VR φ v v' := by
  unfold asliceT at hk
  split at hk
  case h_2 => cases hk
  rename_i s
  split at hk
  case h_2 => cases hk
  rename_i l h e1 e2
  cases hc : (Nat.ble l h && Nat.ble h s.data.toList.length) with
  | false => rw [hc] at hk; cases hk
  | true =>
    rw [hc, cond_true] at hk
    unfold strK at hk
    rw [listK_eq] at hk
    rw [Bool.and_eq_true] at hc
    have h1 := Nat.ble_iff hc.1
    have h2 := Nat.ble_iff hc.2
    cases hx
    have hs : s.size = s.data.toList.length := Lib.size_eq s
    refine ⟨_, .string (s.extract l h), hk, ?_, ?_⟩
    · simp only [Instr.sliceAt, Sem.run_bind, run_underlying ht, Result.andThen_ok, Instr.slice, Option.isSome_none, Bool.false_eq_true, if_false,
        bounds_sim (P := P) (w := w) (isS := false) hl hh (len := s.size) (cap := s.size) e1 (by rw [hs]; exact e2) h1 (by omega), Sem.run_pure]
    · have : s.extract l h = ⟨⟨(s.data.toList.drop l).take (h - l)⟩⟩ := by
        apply ByteArray.ext
        apply Array.ext'
        exact Lib.extract_data s l h
      rw [this]
      exact .string _

theorem bounds3_sim {lo lo' hi hi' mx mx' : Option Value} (hl : VRo φ lo lo') (hh : VRo φ hi hi') (hm : VRo φ mx mx') {len cap l h m : Nat} (hs : hi ≠ none) (ms : mx ≠ none)
    (e1 : bound lo 0 = some l) (e2 : bound hi len = some h) (e3 : bound mx cap = some m) (h1 : l ≤ h) (h2 : h ≤ m) (h3 : m ≤ cap) :
    (Instr.sliceBounds true len cap lo' hi' mx').run P w = .ok (l, h, m) w := by
  have b3 := bound_sim (P := P) hm e3 (code := .slice3Acap) h3
  have b2 := bound_sim (P := P) hh e2 (code := .slice3B) h2
  have b1 := bound_sim (P := P) hl e1 (code := .slice3C) h1
  rcases b3 with ⟨rfl, rfl⟩ | ⟨x, rfl, hx⟩
  · cases mx with
    | none => exact absurd rfl ms
    | some v => exact absurd hm (by simp [VRo])
  · rcases b2 with ⟨rfl, rfl⟩ | ⟨v, rfl, hv⟩
    · cases hi with
      | none => exact absurd rfl hs
      | some v => exact absurd hh (by simp [VRo])
    · rcases b1 with ⟨rfl, rfl⟩ | ⟨u, rfl, hu⟩
      all_goals simp [Instr.sliceBounds, *]

def cutS (b o e len' cap' l m : Nat) (k : Value → Option β) : Option β :=
  bif Nat.beq m l then k (.slice (some ⟨b, o, none⟩) len' cap') else natK (o + l * e) fun o => k (.slice (some ⟨b, o, none⟩) len' cap')

/-- A piece of a slice. -/
def asliceS (A : AH) (e : Nat) (x : Value) (lo up mx : Option Value) (k : Value → Option β) : Option β :=
  match x with
  | .slice none 0 0 => match mx with
    | none => match bound lo 0, bound up 0 with
      | some 0, some 0 => k (.slice none 0 0)
      | _, _ => none
    | some m => match up with
      | none => none
      | some u => match bound lo 0, bound (some u) 0, bound (some m) 0 with
        | some 0, some 0, some 0 => k (.slice none 0 0)
        | _, _, _ => none
  | .slice (some ⟨b, o, none⟩) len cap => match mx with
    | none => match bound lo 0, bound up len with
      | some l, some h => bif Nat.ble l h && Nat.ble h cap then natK (h - l) fun n => natK (cap - l) fun c => cutS b o e n c l cap k else none
      | _, _ => none
    | some m => match up with
      | none => none
      | some u => match bound lo 0, bound (some u) len, bound (some m) cap with
        | some l, some h, some m => bif Nat.ble l h && Nat.ble h m && Nat.ble m cap then natK (h - l) fun n => natK (m - l) fun c => cutS b o e n c l m k else none
        | _, _, _ => none
  | .slice (some ⟨b, o, some γ⟩) len cap => match mx with
    | none => match bound lo 0, bound up len with
      | some l, some h => bif Nat.ble l h && Nat.ble h len && eOK A b e then
          natK (h - l) fun n => natK (cap - 2 * l) fun c => natK (o + l * e) fun o => k (.slice (some ⟨b, o, some γ⟩) n c)
        else none
      | _, _ => none
    | some m => match up with
      | none => none
      | some u => match bound lo 0, bound (some u) len, bound (some m) 0 with
        | some 0, some 0, some 0 => k (.slice (some ⟨b, o, some γ⟩) 0 1)
        | _, _, _ => none
  | _ => none

theorem R.eOK (h : R B gl φ A w) {b e : Nat} (he : Zh.eOK A b e = true) {s : Option Nat} {pb : PB} (hp : φ b s = some pb) : pb.e = e := by
  unfold Zh.eOK at he
  split at he
  · rename_i q hq
    rw [h.elem _ _ _ _ (AH.blk_some hq) hp]
    exact Nat.beq_iff he
  · cases he

theorem R.sliceS (h : R B gl φ A w) {t e : TypeId} {i : TypeInfo} (ht : P.underlying t = some (.slice e)) (hinf : P.info? e = some i) {x x' : Value} {lo lo' up up' mx mx' : Option Value}
    (hx : VR φ x x') (hl : VRo φ lo lo') (hh : VRo φ up up') (hm : VRo φ mx mx') {k : Value → Option β} {r : β} (hk : asliceS A i.size x lo up mx k = some r) :
    ∃ v v', k v = some r ∧ (Instr.sliceAt t x' lo' up' mx').run P w = .ok v' w ∧ VR φ v v' := by
  have run2 : ∀ (base : Option Addr) (len cap l h m : Nat) (w : World), (Instr.sliceBounds true len cap lo' up' mx').run P w = .ok (l, h, m) w →
      (Instr.sliceAt t (.slice base len cap) lo' up' mx').run P w = .ok (.slice (if m = l then base else base.map (·.add (l * i.size))) (h - l) (m - l)) w := by
    intro base len cap l h m w hb
    simp only [Instr.sliceAt, Sem.run_bind, run_underlying ht, Result.andThen_ok, Instr.slice, hb, sizeOf, typeInfo, run_program, hinf, Sem.run_pure]
  have nomx : mx = none → mx' = none := fun e => by
    subst e
    cases mx' with
    | none => rfl
    | some v => exact absurd hm (by simp [VRo])
  unfold asliceS at hk
  split at hk
  · cases hx
    cases mx with
    | none =>
      cases nomx rfl
      dsimp only at hk
      split at hk
      case h_2 => cases hk
      rename_i e1 e2
      refine ⟨_, .slice none 0 0, hk, ?_, .sliceNil⟩
      rw [run2 _ _ _ _ _ _ _ (bounds_sim (P := P) (w := w) (isS := true) hl hh e1 e2 (Nat.le_refl _) (Nat.le_refl _))]
      rfl
    | some m =>
      cases up with
      | none => cases hk
      | some u =>
      dsimp only at hk
      split at hk
      case h_2 => cases hk
      rename_i e1 e2 e3
      refine ⟨_, .slice none 0 0, hk, ?_, .sliceNil⟩
      rw [run2 _ _ _ _ _ _ _ (bounds3_sim (P := P) (w := w) (len := 0) (cap := 0) hl hh hm (by simp) (by simp) e1 e2 e3 (Nat.le_refl _) (Nat.le_refl _) (Nat.le_refl _))]
      rfl
  · rename_i b o len cap
    cases hx with
    | slice hφ hoff hcap hlim =>
    rename_i pb o' cap'
    have ho : o' = o := by
      rcases hoff with e1 | e1
      · exact e1
      · exact absurd rfl e1.1
    subst ho
    simp only [capOK] at hcap
    subst hcap
    have fin : ∀ (l h m : Nat), (Instr.sliceBounds true len cap' lo' up' mx').run P w = .ok (l, h, m) w → cutS b o' i.size (h - l) (m - l) l m k = some r →
        ∃ v v', k v = some r ∧ (Instr.sliceAt t (.slice (some ⟨pb.r, o', none⟩) len cap') lo' up' mx').run P w = .ok v' w ∧ VR φ v v' := by
      intro l h m hb hk
      rw [run2 _ _ _ _ _ _ _ hb]
      unfold cutS at hk
      cases hq : Nat.beq m l with
      | true =>
        rw [hq, cond_true] at hk
        rw [if_pos (Nat.beq_iff hq)]
        exact ⟨_, _, hk, rfl, .slice hφ (.inl rfl) rfl (fun e => absurd rfl e)⟩
      | false =>
        rw [hq, cond_false, natK_eq] at hk
        rw [if_neg (fun e => by rw [e] at hq; simp at hq)]
        refine ⟨_, _, hk, rfl, ?_⟩
        simp only [Option.map_some, addr_add]
        exact .slice hφ (.inl rfl) rfl (fun e => absurd rfl e)
    cases mx with
    | none =>
      cases nomx rfl
      dsimp only at hk
      split at hk
      case h_2 => cases hk
      rename_i l h1 e1 e2
      cases hc : (Nat.ble l h1 && Nat.ble h1 cap') with
      | false => rw [hc] at hk; cases hk
      | true =>
        rw [hc, cond_true, natK_eq, natK_eq] at hk
        rw [Bool.and_eq_true] at hc
        exact fin l h1 cap' (bounds_sim (P := P) (w := w) (isS := true) hl hh e1 e2 (Nat.ble_iff hc.1) (Nat.ble_iff hc.2)) hk
    | some m =>
      cases up with
      | none => cases hk
      | some u =>
      dsimp only at hk
      split at hk
      case h_2 => cases hk
      rename_i l h1 m1 e1 e2 e3
      cases hc : (Nat.ble l h1 && Nat.ble h1 m1 && Nat.ble m1 cap') with
      | false => rw [hc] at hk; cases hk
      | true =>
        rw [hc, cond_true, natK_eq, natK_eq] at hk
        simp only [Bool.and_eq_true] at hc
        exact fin l h1 m1 (bounds3_sim (P := P) (w := w) hl hh hm (by simp) (by simp) e1 e2 e3 (Nat.ble_iff hc.1.1) (Nat.ble_iff hc.1.2) (Nat.ble_iff hc.2)) hk
  · rename_i b o γ len cap
    cases hx with
    | slice hφ hoff hcap hlim =>
    rename_i pb o' cap'
    obtain ⟨hlc, hin⟩ := hlim (by simp)
    cases mx with
    | none =>
      cases nomx rfl
      dsimp only at hk
      split at hk
      case h_2 => cases hk
      rename_i l h1 e1 e2
      cases hc : (Nat.ble l h1 && Nat.ble h1 len && Zh.eOK A b i.size) with
      | false => rw [hc] at hk; cases hk
      | true =>
        rw [hc, cond_true, natK_eq, natK_eq, natK_eq] at hk
        simp only [Bool.and_eq_true] at hc
        obtain ⟨⟨c1, c2⟩, c3⟩ := hc
        have c1 := Nat.ble_iff c1
        have c2 := Nat.ble_iff c2
        have c3 := h.eOK c3 hφ
        refine ⟨_, _, hk, run2 _ _ _ _ _ _ _ (bounds_sim (P := P) (w := w) (isS := true) hl hh e1 e2 c1 (by omega)), ?_⟩
        have hcap2 : capOK (some γ) (cap - 2 * l) (cap' - l) := by
          simp only [capOK] at hcap ⊢
          split at hcap
          · rw [if_pos (by omega)]; omega
          · rw [if_neg (by omega)]; omega
        by_cases hq : cap' = l
        · rw [if_pos hq]
          have hle : len = l := by omega
          have hz : cap' - l = 0 := by omega
          refine .slice hφ ?_ hcap2 (fun _ => ⟨by omega, by rw [hz, Nat.zero_mul]; omega⟩)
          by_cases hl0 : l = 0
          · subst hl0
            rcases hoff with e4 | e4
            · exact .inl (by omega)
            · exact .inr ⟨by simp, by omega, by omega⟩
          · exact .inr ⟨by simp, by omega, by omega⟩
        · rw [if_neg hq]
          have ho : o' = o := by
            rcases hoff with e4 | e4
            · exact e4
            · have := e4.2; omega
          subst ho
          simp only [Option.map_some, addr_add]
          refine .slice hφ (.inl rfl) hcap2 (fun _ => ⟨by omega, ?_⟩)
          rw [c3] at hin ⊢
          rw [Nat.add_assoc, ← Nat.add_mul, show l + (cap' - l) = cap' from by omega]
          exact hin
    | some m =>
      cases up with
      | none => cases hk
      | some u =>
      dsimp only at hk
      split at hk
      case h_2 => cases hk
      rename_i e1 e2 e3
      have e3' : bound (some m) cap' = some 0 := (bound_some m cap' 0).trans e3
      have e2' : bound (some u) len = some 0 := e2
      refine ⟨_, _, hk, run2 _ _ _ _ _ _ _ (bounds3_sim (P := P) (w := w) (l := 0) (h := 0) (m := 0) hl hh hm (by simp) (by simp) e1 e2' e3' (Nat.le_refl _) (Nat.le_refl _) (Nat.zero_le _)), ?_⟩
      rw [if_pos rfl]
      refine .slice hφ ?_ (by simp [capOK]) (fun _ => ⟨Nat.le_refl _, by simp; omega⟩)
      rcases hoff with e4 | e4
      · exact .inl e4
      · exact .inr ⟨by simp, rfl, rfl⟩
  · cases hk

end Go.Zh
