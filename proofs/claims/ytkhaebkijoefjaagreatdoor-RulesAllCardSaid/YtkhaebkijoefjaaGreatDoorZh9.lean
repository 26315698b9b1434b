/- Zh9: values that are built, made, turned into others. -/
import Derived.Test.YtkhaebkijoefjaaGreatDoorZh8
import Derived.Laws.MakeOwn
namespace Go.Zh
open Go.RowKit
set_option linter.unusedVariables false

variable {B : Nat} {gl : List Nat} {φ : Phi} {A : AH} {w w' : World} {P : Program} {β : Type}

theorem run_mapM_list {α γ : Type} {f : α → Sem γ} {g : α → γ} : ∀ (l : List α), (∀ x, x ∈ l → (f x).run P w = .ok (g x) w) → (l.mapM f).run P w = .ok (l.map g) w
  | [], _ => rfl
  | x :: l, h => by
    rw [List.mapM_cons]
    simp only [Sem.run_bind, h x (by simp), Result.andThen_ok, run_mapM_list l (fun y hy => h y (by simp [hy])), Sem.run_pure, List.map_cons]

theorem run_mapM {α γ : Type} {f : α → Sem γ} {g : α → γ} (a : Array α) (h : ∀ x, x ∈ a → (f x).run P w = .ok (g x) w) : (a.mapM f).run P w = .ok (a.map g) w := by
  rw [Array.mapM_eq_mapM_toList, Sem.run_map, run_mapM_list a.toList (fun x hx => h x (by simpa using hx)), Result.andThen_ok]
  congr 1
  apply Array.ext'
  simp

/-- A struct type's fields: where each begins, and its cells. -/
def places (P : Program) (fs : Array Field) : Option (List (Nat × Nat)) :=
  go fs.toList
where
  go : List Field → Option (List (Nat × Nat))
    | [] => some []
    | f :: l => match P.info? f.type with
      | some i => match go l with
        | some r => some ((f.offset, i.size) :: r)
        | none => none
      | none => none

theorem places_go {l : List Field} {r : List (Nat × Nat)} (h : places.go P l = some r) : r = l.map (fun f => (f.offset, P.cellsOf f.type)) ∧ ∀ f, f ∈ l → ∃ i, P.info? f.type = some i ∧ i.size = P.cellsOf f.type := by
  induction l generalizing r with
  | nil => cases h; simp
  | cons f l ih =>
    simp only [places.go] at h
    split at h
    case h_2 => cases h
    rename_i i hi
    split at h
    case h_2 => cases h
    rename_i r' hr
    cases h
    obtain ⟨h1, h2⟩ := ih hr
    have hc : i.size = P.cellsOf f.type := by simp [Program.cellsOf, hi]
    refine ⟨by simp [h1, hc], fun g hg => ?_⟩
    rcases List.mem_cons.1 hg with rfl | hg
    · exact ⟨i, hi, hc⟩
    · exact h2 g hg

/-- The zero of a type, as cells. -/
def zeroOf (P : Program) (t : TypeId) : Option (List Value) :=
  match P.info? t with
  | some i => match i.zero with
    | some z => bif z.cells.toList.all plainConst && Nat.beq z.cells.size i.size then some z.cells.toList else none
    | none => none
  | none => none

theorem zeroOf_spec {t : TypeId} {l : List Value} (h : zeroOf P t = some l) :
    ∃ i z, P.info? t = some i ∧ i.zero = some z ∧ z.cells.toList = l ∧ z.cells.size = i.size ∧ (∀ φ, VRs φ l l) ∧ ∀ w, (zeroValue t).run P w = .ok z w := by
  unfold zeroOf at h
  split at h
  case h_2 => cases h
  rename_i i hi
  split at h
  case h_2 => cases h
  rename_i z hz
  cases hc : (z.cells.toList.all plainConst && Nat.beq z.cells.size i.size) with
  | false => rw [hc] at h; cases h
  | true =>
    rw [hc] at h
    cases h
    rw [Bool.and_eq_true] at hc
    exact ⟨i, z, hi, hz, rfl, Nat.beq_iff hc.2, fun φ => plainConsts_vrs hc.1, fun w => by simp [zeroValue, typeInfo, hi, hz]⟩

def abuild (z : List Value) (ps : List (Nat × Nat × Value)) (k : Value → Option β) : Option β := afill z ps fun c => k (.agg ⟨c⟩)

/-- A struct is built: 'ps': of each part its place among the fields. -/
theorem build_sim {t : TypeId} {fs : Array Field} {pl : List (Nat × Nat)} {z : List Value} (ht : P.underlying t = some (.struct fs)) (hpl : places P fs = some pl) (hz : zeroOf P t = some z)
    {parts : Array (Nat × Value)} {aps : List (Nat × Nat × Value)} (hlen : parts.toList.length = aps.length)
    (hps : ∀ (i : Nat) p q, parts.toList[i]? = some p → aps[i]? = some q → pl[p.1]? = some (q.1, q.2.1) ∧ VR φ q.2.2 p.2) {k : Value → Option β} {r : β} (hk : abuild z aps k = some r) :
    ∃ v v', k v = some r ∧ (Instr.build t parts).run P w = .ok v' w ∧ VR φ v v' := by
  obtain ⟨i, zv, h1, h2, h3, h4, h5, h6⟩ := zeroOf_spec hz
  obtain ⟨e1, e2⟩ := places_go hpl
  subst h3
  have hm : (fs.mapM (fun f => do pure (f.offset, ← sizeOf f.type) : Field → Sem (Nat × Nat))).run P w = .ok (fs.map fun f => (f.offset, P.cellsOf f.type)) w := by
    refine run_mapM fs (fun f hf => ?_)
    obtain ⟨i, hi, hc⟩ := e2 f (by simpa using hf)
    simp [sizeOf, typeInfo, hi, hc]
  obtain ⟨c2, c2', hk', hf, hr⟩ := fill_sim (place := ((fs.map fun f => (f.offset, P.cellsOf f.type))[·]?)) parts.toList aps zv.cells.toList zv.cells _ r hlen
    (fun i p q hp hq => by
      obtain ⟨a, b⟩ := hps i p q hp hq
      refine ⟨?_, b⟩
      rw [e1] at a
      simpa using a) (h5 φ) hk
  refine ⟨_, .agg c2', hk', ?_, .agg hr.1 hr.2⟩
  simp only [Instr.build, Sem.run_bind, h6, Result.andThen_ok, run_underlying ht, hm, hf, Sem.run_pure]

/-- Zeros. -/
def repK (z : List Value) : Nat → (List Value → β) → β
  | 0, k => k []
  | n + 1, k => repK z n fun l => appK z l k
def rep (z : List Value) : Nat → List Value
  | 0 => []
  | n + 1 => z ++ rep z n
theorem repK_eq (z : List Value) : ∀ (n : Nat) (k : List Value → β), repK z n k = k (rep z n)
  | 0, k => rfl
  | n + 1, k => by simp [repK, rep, repK_eq z n, appK_eq]
theorem rep_length (z : List Value) (n : Nat) : (rep z n).length = n * z.length := by
  induction n with
  | zero => simp [rep]
  | succ n ih => simp [rep, ih, Nat.add_mul]; omega
theorem rep_get {z : List Value} (hz : 0 < z.length) : ∀ (n i : Nat), i < n * z.length → (rep z n)[i]? = z[i % z.length]?
  | 0, i, h => by simp at h
  | n + 1, i, h => by
    simp only [rep]
    by_cases hi : i < z.length
    · rw [List.getElem?_append_left hi, Nat.mod_eq_of_lt hi]
    · rw [Nat.succ_mul] at h
      rw [List.getElem?_append_right (by omega), rep_get hz n (i - z.length) (by omega), ← Nat.mod_eq_sub_mod (by omega)]
theorem made_eq {z : Array Value} {n : Nat} (hz : z.size ≠ 0) : ((Array.range (n * z.size)).map (z[· % z.size]!)).toList = rep z.toList n := by
  apply List.ext_getElem?
  intro i
  by_cases hi : i < n * z.size
  · rw [rep_get (by simp; omega) n i (by simpa using hi)]
    have hm : i % z.size < z.size := Nat.mod_lt _ (by omega)
    simp [hi, hm]
  · rw [List.getElem?_eq_none (by simp; omega), List.getElem?_eq_none (by rw [rep_length]; simp; omega)]
theorem rep_vrs {z : List Value} (h : ∀ φ, VRs φ z z) (n : Nat) (φ : Phi) : VRs φ (rep z n) (rep z n) := by
  induction n with
  | zero => exact VRs.nil _
  | succ n ih => exact (h φ).append ih

/-- A literal of a slice: 'z': all its cells as zeros. -/
noncomputable def abslice (A : AH) (e len : Nat) (z : List Value) (ps : List (Nat × Nat × Value)) (k : Value → AH → Option β) : Option β :=
  afill z ps fun c => anew A (plainBlk c e) fun b A => k (.slice (some ⟨b, 0, none⟩) len len) A

theorem R.bslice (h : R B gl φ A w) {t e : TypeId} {i : TypeInfo} {z : List Value} (ht : P.underlying t = some (.slice e)) (hi : P.info? e = some i) (hz : zeroOf P e = some z) {len : Nat} (hne : i.size ≠ 0)
    (hlen : len * i.size ≤ 16777216) {parts : Array (Nat × Value)} {aps : List (Nat × Nat × Value)} (hpl : parts.toList.length = aps.length)
    (hps : ∀ (j : Nat) p q, parts.toList[j]? = some p → aps[j]? = some q → q.1 = p.1 * i.size ∧ q.2.1 = i.size ∧ VR φ q.2.2 p.2) {k : Value → AH → Option β} {r : β} (hk : abslice A i.size len (rep z len) aps k = some r) :
    ∃ v A', k v A' = some r ∧ AppOK B gl P φ w ((Instr.buildSlice t len parts).run P w) A' v := by
  obtain ⟨i', zv, h1, h2, h3, h4, h5, h6⟩ := zeroOf_spec hz
  rw [hi] at h1
  cases h1
  unfold abslice at hk
  have hm : ((Array.range (len * i.size)).map (zv.cells[· % zv.cells.size]!)).toList = rep z len := by
    rw [← h4, made_eq (by rw [h4]; exact hne), h3]
  obtain ⟨c2, c2', hk', hf, hr⟩ := fill_sim (place := fun j => some (j * i.size, i.size)) parts.toList aps (rep z len) ((Array.range (len * i.size)).map (zv.cells[· % zv.cells.size]!)) _ r hpl
    (fun j p q hp hq => by
      obtain ⟨a, b, c⟩ := hps j p q hp hq
      exact ⟨by rw [a, b], c⟩) (by rw [hm]; exact rep_vrs h5 len φ) hk
  obtain ⟨b, A', ψ, k1, k2, k3, k4, k5⟩ := h.anew (T := e) hk' hr
  refine ⟨_, _, k1, _, _, ψ, ?_, k2, k3, .slice k4 (.inl rfl) rfl (fun e => absurd rfl e), k5⟩
  have hle : ¬ (len * i.size > 2 ^ 24) := by omega
  by_cases h0 : len * i.size = 0
  · have hl0 : len = 0 := by
      rcases Nat.mul_eq_zero.1 h0 with h0 | h0
      · exact h0
      · exact absurd h0 hne
    subst hl0
    have hf' : Instr.fill (fun j => some (j * i.size, i.size)) #[] parts.toList = some c2' := by
      have : ((Array.range (0 * i.size)).map (zv.cells[· % zv.cells.size]!)) = #[] := by simp
      rw [this] at hf
      exact hf
    have hr0 : ∀ f : Nat → Value, (Array.range (0 * i.size)).map f = #[] := fun f => by simp
    simp only [Instr.buildSlice, Sem.run_bind, run_underlying ht, Result.andThen_ok, sizeOf, typeInfo, run_program, hi, Sem.run_pure, if_neg hle, if_pos h0]
    rw [hr0, hf']
    rfl
  · simp only [Instr.buildSlice, Sem.run_bind, run_underlying ht, Result.andThen_ok, sizeOf, typeInfo, run_program, hi, Sem.run_pure, if_neg hle, if_neg h0, h6, hf, newRow, run_newObj]
    rfl

/-- make. -/
noncomputable def amake (A : AH) (e bytes : Nat) (z : List Value) (l c : Value) (k : Value → AH → Option β) : Option β :=
  match l, c with
  | .int _ (.ofNat l), .int _ (.ofNat c) => bif Nat.ble l c && Nat.ble (bytes * c) 140737488355328 && Nat.ble c 4611686018427387904 then
      repK z c fun cs => anew A (plainBlk cs e) fun b A => k (.slice (some ⟨b, 0, none⟩) l c) A
    else none
  | _, _ => none

theorem R.make (h : R B gl φ A w) {t e : TypeId} {i : TypeInfo} {z : List Value} (ht : P.underlying t = some (.slice e)) (hi : P.info? e = some i) (hz : zeroOf P e = some z) (hne : i.size ≠ 0)
    {l l' c c' : Value} (hl : VR φ l l') (hc : VR φ c c') {k : Value → AH → Option β} {r : β} (hk : amake A i.size i.bytes z l c k = some r) :
    ∃ v A', k v A' = some r ∧ AppOK B gl P φ w ((Instr.makeSlice t l' c').run P w) A' v := by
  obtain ⟨i', zv, h1, h2, h3, h4, h5, h6⟩ := zeroOf_spec hz
  rw [hi] at h1
  cases h1
  unfold amake at hk
  split at hk
  case h_2 => cases hk
  rename_i kl l kc c
  cases hl; cases hc
  cases hb : (Nat.ble l c && Nat.ble (i.bytes * c) 140737488355328 && Nat.ble c 4611686018427387904) with
  | false => rw [hb] at hk; cases hk
  | true =>
    rw [hb, cond_true, repK_eq] at hk
    simp only [Bool.and_eq_true] at hb
    have b1 := Nat.ble_iff hb.1.1
    have b2 := Nat.ble_iff hb.1.2
    have b3 := Nat.ble_iff hb.2
    have hm : (madeCells zv.cells (c * i.size)).toList = rep z c := by
      rw [← h3, ← h4]
      exact made_eq (by rw [h4]; exact hne)
    obtain ⟨b, A', ψ, k1, k2, k3, k4, k5⟩ := h.anew (T := e) (c' := madeCells zv.cells (c * i.size)) hk (by rw [hm]; exact rep_vrs h5 c φ)
    refine ⟨_, _, k1, _, _, ψ, ?_, k2, k3, .slice k4 (.inl rfl) rfl (fun e => absurd rfl e), k5⟩
    have := run_make (P := P) w t e i zv ht hi h2 kl kc (Int.ofNat l) (Int.ofNat c) (Int.natCast_nonneg l) (by show (l : Int) ≤ c; omega) (by show ((i.bytes : Int) * (c : Int)) ≤ _; rw [← Int.natCast_mul]; omega) (by show (c : Int) ≤ _; omega)
    exact this

/-! ### conversions, lengths, components -/
def acint (kd : IntKind) (x : Value) (k : Value → Option β) : Option β :=
  match x with
  | .int _ n => intK (kd.wrap n) fun n => k (.int kd n)
  | _ => none

theorem cint_sim {s d : TypeId} {kd : IntKind} {sd : TypeDesc} (hs : P.underlying s = some sd) (hd : P.underlying d = some (.int kd)) {x x' : Value} (hx : VR φ x x') {k : Value → Option β} {r : β} (hk : acint kd x k = some r) :
    ∃ v v', k v = some r ∧ (convert s d x').run P w = .ok v' w ∧ VR φ v v' := by
  unfold acint at hk
  split at hk
  case h_2 => cases hk
  rw [intK_eq] at hk
  cases hx
  refine ⟨_, _, hk, ?_, .int _ _⟩
  simp [convert, run_underlying hs, run_underlying hd, Conv.intToInt]

def acstr (x : Value) (k : Value → Option β) : Option β :=
  match x with
  | .int _ n => strK (Utf8.encode n).data.toList k
  | _ => none

theorem cstr_sim {s d : TypeId} {sd : TypeDesc} (hs : P.underlying s = some sd) (hd : P.underlying d = some .string) {x x' : Value} (hx : VR φ x x') {k : Value → Option β} {r : β} (hk : acstr x k = some r) :
    ∃ v v', k v = some r ∧ (convert s d x').run P w = .ok v' w ∧ VR φ v v' := by
  unfold acstr at hk
  split at hk
  case h_2 => cases hk
  unfold strK at hk
  rw [listK_eq] at hk
  cases hx
  refine ⟨_, _, hk, ?_, .string _⟩
  simp [convert, run_underlying hs, run_underlying hd, Conv.intToString]

def alen (A : AH) (x : Value) (k : Value → Option β) : Option β :=
  match x with
  | .string s => natK s.data.toList.length fun n => k (.int .i64 n)
  | .slice _ n _ => k (.int .i64 n)
  | .map none => k (.int .i64 0)
  | .map (some b) => match Zh.amap A b with
    | some es => natK es.length fun n => k (.int .i64 n)
    | none => none
  | _ => none

def lenD : TypeDesc → Value → Bool
  | .string, .string _ => true
  | .slice _, .slice _ _ _ => true
  | .map _ _, .map _ => true
  | _, _ => false

theorem R.len (h : R B gl φ A w) {t ty : TypeId} {d : TypeDesc} (ht : P.underlying t = some d) {x x' : Value} (hx : VR φ x x') (hd : lenD d x = true) {k : Value → Option β} {r : β} (hk : alen A x k = some r) :
    ∃ v v', k v = some r ∧ (Builtin.len_ #[t] ty #[x']).run P w = .ok v' w ∧ VR φ v v' := by
  unfold alen at hk
  split at hk
  · rw [natK_eq] at hk
    cases hx
    cases d <;> simp [lenD] at hd
    refine ⟨_, _, hk, ?_, .int _ _⟩
    have := Lib.size_eq ‹ByteArray›
    simp only [Builtin.len_, List.getElem?_toArray, List.getElem?_cons_zero, Sem.run_bind, run_underlying ht, Result.andThen_ok, Sem.run_pure, goInt]
    rw [this]
  · cases hx with
    | sliceNil =>
      cases d <;> simp [lenD] at hd
      exact ⟨_, _, hk, by simp [Builtin.len_, run_underlying ht, goInt], .int _ _⟩
    | slice hφ hoff hcap hlim =>
      cases d <;> simp [lenD] at hd
      exact ⟨_, _, hk, by simp [Builtin.len_, run_underlying ht, goInt], .int _ _⟩
  · cases hx
    cases d <;> simp [lenD] at hd
    exact ⟨_, _, hk, by simp [Builtin.len_, run_underlying ht, goInt], .int _ _⟩
  · rename_i b
    cases hx with
    | map hφ =>
    rename_i pb
    cases d <;> simp [lenD] at hd
    split at hk
    case h_2 => cases hk
    rename_i es hes
    rw [natK_eq] at hk
    obtain ⟨_, pb', en, cl, e1, e2, e3, e4⟩ := h.amap hes
    rw [hφ] at e1
    cases e1
    refine ⟨_, .int .i64 en.size, hk, ?_, ?_⟩
    · simp [Builtin.len_, run_underlying ht, goInt, run_getObj e2]
    · have : es.length = en.size := by have := e3.1; simpa using this
      rw [this]; exact .int _ _
  · cases hk

def aext (x : Value) (i : Nat) (k : Value → Option β) : Option β :=
  match x with
  | .tuple c => match c.toList[i]? with
    | some v => k v
    | none => none
  | _ => none

theorem ext_sim {x x' : Value} (hx : VR φ x x') {i : Nat} {k : Value → Option β} {r : β} (hk : aext x i k = some r) :
    ∃ v v', k v = some r ∧ (Instr.extract x' i).run P w = .ok v' w ∧ VR φ v v' := by
  unfold aext at hk
  split at hk
  case h_2 => cases hk
  split at hk
  case h_2 => cases hk
  rename_i v hv
  cases hx with
  | tuple hc hc' =>
  rename_i c c'
  obtain ⟨v', e, hr⟩ := VRs.get ⟨hc, hc'⟩ hv
  rw [Array.getElem?_toList] at e
  exact ⟨v, v', hk, by simp [Instr.extract, e], hr⟩

/-! ### '==' of flat structs -/
def plainD : TypeDesc → Bool
  | .int _ | .string | .bool => true
  | _ => false

def flatF (P : Program) : List Field → Option (List (Nat × TypeDesc))
  | [] => some []
  | f :: l => match P.underlying f.type with
    | some d => bif plainD d && f.name != "_" then match flatF P l with
        | some r => some ((f.offset, d) :: r)
        | none => none
      else none
    | none => none

def aeqF : List (Nat × TypeDesc) → List Value → List Value → Option Bool
  | [], _, _ => some true
  | (off, d) :: l, xs, ys => match xs[off]?, ys[off]? with
    | some a, some b => bif plainKey d a then match keyEq a b with
        | some true => aeqF l xs ys
        | some false => some false
        | none => none
      else none
    | _, _ => none

theorem equalIn_plain {d : TypeDesc} {t : TypeId} (ht : P.underlying t = some d) {x x' y y' : Value} (hd : plainKey d x = true) (hx : VR φ x x') (hy : VR φ y y') {b : Bool} (h : keyEq x y = some b) (n : Nat) (w : World) :
    (Op.equalIn (n + 1) t x' y').run P w = .ok b w := by
  unfold keyEq at h
  split at h
  · rename_i k a k' b'
    cases hx; cases hy
    cases hk : kindEq k k' with
    | false => rw [hk] at h; cases h
    | true =>
      rw [hk, cond_true] at h
      cases h
      have hk := kindEq_eq hk
      subst hk
      cases d <;> simp [plainKey] at hd
      exact run_equalIn_int w n t k _ _ _ ht
  · rename_i s s'
    cases hx; cases hy
    cases h
    cases d <;> simp [plainKey] at hd
    rw [run_equalIn_string w n t _ _ ht, bytesEq_eq, ByteArray.toList_eq, ByteArray.toList_eq]
  · cases hx; cases hy
    cases h
    cases d <;> simp [plainKey] at hd
    exact run_equalIn_bool w n t _ _ ht
  · cases h

theorem aeqF_sim {xs xs' ys ys' : Array Value} (hx : VRs φ xs.toList xs'.toList) (hy : VRs φ ys.toList ys'.toList) (n : Nat) (w : World) : ∀ {fs : List Field} {l : List (Nat × TypeDesc)} {b : Bool}, flatF P fs = some l →
    aeqF l xs.toList ys.toList = some b → (Op.eqFields (n + 1) xs' ys' fs).run P w = .ok b w
  | [], l, b, hf, h => by
    cases hf
    cases h
    rfl
  | f :: fs, l, b, hf, h => by
    simp only [flatF] at hf
    split at hf
    case h_2 => cases hf
    rename_i d hd
    cases hc : (plainD d && f.name != "_") with
    | false => rw [hc] at hf; cases hf
    | true =>
      rw [hc, cond_true] at hf
      split at hf
      case h_2 => cases hf
      rename_i r hr
      cases hf
      rw [Bool.and_eq_true] at hc
      have hname : f.name ≠ "_" := by simpa using hc.2
      have hagg : ∀ w, (isAgg f.type).run P w = .ok false w := fun w => by
        rw [run_isAgg hd]
        cases d <;> first | rfl | (simp [plainD] at hc)
      simp only [aeqF] at h
      split at h
      case h_2 => cases h
      rename_i a b' ha hb
      cases hp : plainKey d a with
      | false => rw [hp] at h; cases h
      | true =>
        rw [hp, cond_true] at h
        obtain ⟨a', ea, ra⟩ := hx.get ha
        obtain ⟨b2, eb, rb⟩ := hy.get hb
        rw [Array.getElem?_toList] at ea eb
        have hpa : (part f.type xs' f.offset).run P w = .ok a' w := by simp [part, hagg, ea]
        have hpb : (part f.type ys' f.offset).run P w = .ok b2 w := by simp [part, hagg, eb]
        simp only [Op.eqFields, if_pos hname, Sem.run_bind, hpa, hpb, Result.andThen_ok]
        split at h
        · rename_i hq
          rw [equalIn_plain hd hp ra rb hq]
          simp only [Result.andThen_ok, Bool.not_true, Bool.false_eq_true, if_false]
          exact aeqF_sim hx hy n w hr h
        · rename_i hq
          cases h
          rw [equalIn_plain hd hp ra rb hq]
          simp
        · cases h

def aeqs (neg : Bool) (l : List (Nat × TypeDesc)) (x y : Value) (k : Value → Option β) : Option β :=
  match x, y with
  | .agg a, .agg b => match aeqF l a.toList b.toList with
    | some true => k (.bool !neg)
    | some false => k (.bool neg)
    | none => none
  | _, _ => none

/-- Struct types that can be compared so. -/
def flatT (P : Program) (t : TypeId) : Option (List (Nat × TypeDesc)) :=
  match P.underlying t with
  | some (.struct fs) => bif P.stoodInHeld t || P.eqGuardType P.depth t then none else flatF P fs.toList
  | _ => none

theorem eqs_sim {t : TypeId} {l : List (Nat × TypeDesc)} (hl : flatT P t = some l) {neg : Bool} {xo yo : Operand} {x x' y y' : Value} (hx : VR φ x x') (hy : VR φ y y') {k : Value → Option β} {r : β}
    (hk : aeqs neg l x y k = some r) : ∃ v, k v = some r ∧ Bin P (if neg then .neq else .eql) t xo yo x' y' v ∧ ∀ φ, VR φ v v := by
  unfold flatT at hl
  split at hl
  case h_2 => cases hl
  rename_i fs hfs
  cases hc : (P.stoodInHeld t || P.eqGuardType P.depth t) with
  | true => rw [hc] at hl; cases hl
  | false =>
    rw [hc, cond_false] at hl
    rw [Bool.or_eq_false_iff] at hc
    unfold aeqs at hk
    split at hk
    case h_2 => cases hk
    rename_i a b
    cases hx with
    | agg ha ha' =>
    rename_i a'
    cases hy with
    | agg hb hb' =>
    rename_i b'
    have hfo : P.fieldsOf t = fs := by simp [Program.fieldsOf, hfs]
    have main : ∀ res, aeqF l a.toList b.toList = some res → ∀ w, (Op.equal t (.agg a') (.agg b')).run P w = .ok res w := by
      intro res hres w
      have := run_equalIn_struct (P := P) w 9999 t a' b' (by rw [hfo]; exact hfs) hc.1
      rw [hfo] at this
      exact this.trans (aeqF_sim ⟨ha, ha'⟩ ⟨hb, hb'⟩ 9998 w hl hres)
    have hg := fun (op : BinOp) (w : World) => run_eqGuard_agg (P := P) w op t xo yo a' b' hc.2
    split at hk
    · rename_i hres
      refine ⟨_, hk, fun w => ?_, fun φ => .bool _⟩
      cases neg <;> simp only [if_true, if_false, Bool.false_eq_true, Sem.run_bind, hg, Result.andThen_ok, binOp, main _ hres, Sem.run_pure] <;> rfl
    · rename_i hres
      refine ⟨_, hk, fun w => ?_, fun φ => .bool _⟩
      cases neg <;> simp only [if_true, if_false, Bool.false_eq_true, Sem.run_bind, hg, Result.andThen_ok, binOp, main _ hres, Sem.run_pure] <;> rfl
    · cases hk

end Go.Zh
