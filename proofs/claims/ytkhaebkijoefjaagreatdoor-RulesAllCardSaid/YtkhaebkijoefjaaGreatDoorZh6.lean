/- Zh6: the operations on memory, as the abstract machine has them and as the world follows. -/
import Derived.Test.YtkhaebkijoefjaaGreatDoorZh5
namespace Go.Zh
open Go.RowKit
set_option linter.unusedVariables false

variable {B : Nat} {gl : List Nat} {φ : Phi} {A : AH} {w w' : World} {P : Program} {β : Type}

def vcells : Value → List Value
  | .agg c => c.toList
  | v => [v]

theorem VR.cells {v v' : Value} (h : VR φ v v') : VRs φ (vcells v) v'.cells.toList := by
  cases h with
  | agg hc hc' => exact ⟨hc, hc'⟩
  | _ => exact VRs.cons (by constructor <;> assumption) (VRs.nil _)

/-! ### load and store -/
def aload (A : AH) (n : Option Nat) (p : Value) (k : Value → Option β) : Option β :=
  match p with
  | .pointer (some ⟨b, o, s⟩) => match n with
    | none => match ald A b o s 1 with
      | some [u] => k u
      | _ => none
    | some m => match ald A b o s m with
      | some l => listK l fun l => k (.agg ⟨l⟩)
      | none => none
  | _ => none

def isAggD : TypeDesc → Bool
  | .struct _ | .array _ _ => true
  | _ => false

/-- How a type is loaded: one cell, or so many. -/
def loadKind (P : Program) (t : TypeId) : Option (Option Nat) :=
  match P.underlying t, P.info? t with
  | some d, some i => some (bif isAggD d then some i.size else none)
  | _, _ => none

theorem run_isAgg {t : TypeId} {d : TypeDesc} (h : P.underlying t = some d) (w : World) : (isAgg t).run P w = .ok (isAggD d) w := by
  unfold isAgg
  rw [Sem.run_bind, run_underlying h, Result.andThen_ok]
  cases d <;> rfl

theorem R.load (h : R B gl φ A w) {t : TypeId} {n : Option Nat} (hk : loadKind P t = some n) {p p' : Value} (hp : VR φ p p') {k : Value → Option β} {r : β} (hl : aload A n p k = some r) :
    ∃ v v', k v = some r ∧ (Instr.loadAt t p').run P w = .ok v' w ∧ VR φ v v' := by
  unfold loadKind at hk
  split at hk
  case h_2 => cases hk
  rename_i d i hd hi
  cases hk
  unfold aload at hl
  split at hl
  case h_2 => cases hl
  rename_i b o s
  cases hp with
  | ptr hφ =>
  rename_i pb
  cases hg : isAggD d with
  | false =>
    rw [hg] at hl
    simp only [cond_false] at hl
    split at hl
    case h_2 => cases hl
    rename_i u hu
    obtain ⟨pb', l', h1, h2, h3, h4, h5⟩ := h.ald hu
    rw [hφ] at h1
    cases h1
    obtain ⟨u', e, hr⟩ := h3.get (i := 0) (v := u) rfl
    refine ⟨u, u', hl, ?_, hr⟩
    have := h5 0 u' e
    simp only [Instr.loadAt, Instr.sureAddr, Sem.run_bind, Sem.run_pure, Result.andThen_ok, loadVar, run_isAgg hd, hg]
    simp only [Bool.false_eq_true, if_false, run_load]
    rw [show o = o + 0 from rfl, this]
  | true =>
    rw [hg] at hl
    simp only [cond_true] at hl
    split at hl
    case h_2 => cases hl
    rename_i l hu
    rw [listK_eq] at hl
    obtain ⟨pb', l', h1, h2, h3, h4, h5⟩ := h.ald hu
    rw [hφ] at h1
    cases h1
    refine ⟨_, .agg l'.toArray, hl, ?_, .agg (by simpa using h3.1) (by simpa using h3.2)⟩
    simp only [Instr.loadAt, Instr.sureAddr, Sem.run_bind, Sem.run_pure, Result.andThen_ok, loadVar, run_isAgg hd, hg, if_true, sizeOf, typeInfo, run_program, hi, h2 P]

noncomputable def astore (A : AH) (n : Nat) (p v : Value) (k : AH → Option β) : Option β :=
  match p with
  | .pointer (some ⟨b, o, s⟩) => bif Nat.beq (vcells v).length n then ast A b o s (vcells v) k else none
  | _ => none

theorem R.store (h : R B gl φ A w) {t : TypeId} {i : TypeInfo} (hi : P.info? t = some i) {p p' v v' : Value} (hp : VR φ p p') (hv : VR φ v v') {k : AH → Option β} {r : β}
    (hs : astore A i.size p v k = some r) : ∃ A' w', k A' = some r ∧ (Instr.storeAt t p' v').run P w = .ok () w' ∧ R B gl φ A' w' ∧ Below B w w' := by
  unfold astore at hs
  split at hs
  case h_2 => cases hs
  rename_i b o s
  cases hp with
  | ptr hφ =>
  rename_i pb
  cases hn : Nat.beq (vcells v).length i.size with
  | false => rw [hn] at hs; cases hs
  | true =>
    rw [hn, cond_true] at hs
    have hn := Nat.beq_iff hn
    obtain ⟨A', pb', _, hk, h1, h2, _⟩ := h.ast hs hv.cells
    rw [hφ] at h1
    cases h1
    obtain ⟨w2, h3, h4, h5⟩ := h2 P
    refine ⟨A', w2, hk, ?_, h4, h5⟩
    have hsz : v'.cells.size = i.size := by rw [← hn, hv.cells.1]; simp
    simp only [Instr.storeAt, Instr.sureAddr, Sem.run_bind, Sem.run_pure, Result.andThen_ok, storeVar, sizeOf, typeInfo, run_program, hi, hsz, ne_eq, not_true, if_false, h3]

/-! ### new variables -/
/-- A new variable with these cells. -/
noncomputable def avar (A : AH) (c : List Value) (k : Value → AH → Option β) : Option β := anew A (plainBlk c 0) fun b A => k (.pointer (some ⟨b, 0, none⟩)) A

theorem R.var (h : R B gl φ A w) {t : TypeId} {c : List Value} {v' : Value} (hv : VRs φ c v'.cells.toList) {k : Value → AH → Option β} {r : β} (hk : avar A c k = some r) :
    ∃ v A', k v A' = some r ∧ AppOK B gl P φ w ((do pure (.pointer (some (← newVar t v'))) : Sem Value).run P w) A' v := by
  obtain ⟨b, A', ψ, h1, h2, h3, h4, h5⟩ := h.anew (T := t) hk hv
  exact ⟨_, _, h1, _, _, ψ, rfl, h2, h3, .ptr h4, h5⟩

/-! ### build -/
def afill (c : List Value) : List (Nat × Nat × Value) → (List Value → Option β) → Option β
  | [], k => k c
  | (off, size, v) :: l, k => bif Nat.beq (vcells v).length size && Nat.ble (off + (vcells v).length) c.length then spK c off (vcells v) fun c => afill c l k else none

theorem fold_set (vs : List Value) : ∀ (cs : Array Value) (off j : Nat), off + j + vs.length ≤ cs.size →
    ((vs.zipIdx j).foldl (fun cs (x : Value × Nat) => cs.setIfInBounds (off + x.2) x.1) cs).toList = splice cs.toList (off + j) vs := by
  induction vs with
  | nil => intro cs off j h; simp [splice]
  | cons v vs ih =>
    intro cs off j h
    simp only [List.length_cons] at h
    rw [List.zipIdx_cons, List.foldl_cons, ih _ _ _ (by simp; omega), Array.toList_setIfInBounds, show off + (j + 1) = off + (j + 1) from rfl]
    exact splice_cons (by simp; omega)

theorem fill_sim {place : Nat → Option (Nat × Nat)} : ∀ (parts : List (Nat × Value)) (aparts : List (Nat × Nat × Value)) (c : List Value) (c' : Array Value) (k : List Value → Option β) (r : β),
    parts.length = aparts.length → (∀ (i : Nat) p q, parts[i]? = some p → aparts[i]? = some q → place p.1 = some (q.1, q.2.1) ∧ VR φ q.2.2 p.2) → VRs φ c c'.toList → afill c aparts k = some r →
    ∃ c2 c2', k c2 = some r ∧ Instr.fill place c' parts = some c2' ∧ VRs φ c2 c2'.toList
  | [], [], c, c', k, r, _, _, hc, hk => ⟨c, c', hk, rfl, hc⟩
  | [], _ :: _, _, _, _, _, hl, _, _, _ => by simp at hl
  | _ :: _, [], _, _, _, _, hl, _, _, _ => by simp at hl
  | (i, v') :: parts, (off, size, v) :: aparts, c, c', k, r, hl, hp, hc, hk => by
    obtain ⟨h1, h2⟩ := hp 0 _ _ rfl rfl
    dsimp only at h1 h2
    simp only [afill] at hk
    cases hb : (Nat.beq (vcells v).length size && Nat.ble (off + (vcells v).length) c.length) with
    | false => rw [hb] at hk; cases hk
    | true =>
      rw [hb, cond_true] at hk
      simp only [Bool.and_eq_true] at hb
      have hb1 := Nat.beq_iff hb.1
      have hb2 := Nat.ble_iff hb.2
      rw [spK_eq _ _ _ _ hb2] at hk
      have hcs := h2.cells
      have hlen : v'.cells.size = (vcells v).length := by rw [hcs.1]; simp
      have hclen : c.length = c'.size := by simpa using hc.1
      simp only [Instr.fill, h1]
      rw [if_neg (by simp; omega)]
      refine fill_sim parts aparts _ _ k r (by simpa using hl) (fun i p q ha hb => hp (i + 1) p q ha hb) ?_ hk
      have hf : (v'.cells.zipIdx.foldl (fun cs (x : Value × Nat) => cs.setIfInBounds (off + x.2) x.1) c').toList = splice c'.toList off v'.cells.toList := by
        rw [← Array.foldl_toList, Array.toList_zipIdx]
        have := fold_set v'.cells.toList c' off 0 (by simp; omega)
        simpa using this
      have := hc.splice hcs off
      rw [← hf] at this
      exact this

theorem VRs.tail {v v' : Value} {l l' : List Value} (h : VRs φ (v :: l) (v' :: l')) : VRs φ l l' :=
  ⟨Nat.succ.inj h.1, fun j a b ha hb => h.2 (j + 1) a b ha hb⟩

/-! ### maps -/
def keyEq : Value → Value → Option Bool
  | .int k a, .int k' b => bif kindEq k k' then some (a == b) else none
  | .string a, .string b => some (bytesEq a.data.toList b.data.toList)
  | .bool a, .bool b => some (a == b)
  | _, _ => none

def afind (x : Value) : List (Value × Value) → Nat → Option (Option (Nat × Value))
  | [], _ => some none
  | (y, v) :: es, i => match keyEq x y with
    | some true => some (some (i, v))
    | some false => afind x es (i + 1)
    | none => none

/-- The kinds of keys that are asked. -/
def plainKey : TypeDesc → Value → Bool
  | .int _, .int _ _ => true
  | .string, .string _ => true
  | .bool, .bool _ => true
  | _, _ => false

theorem keyEq_sim {d : TypeDesc} {x x' y y' : Value} (hd : plainKey d x = true) (hx : VR φ x x') (hy : VR φ y y') {b : Bool} (h : keyEq x y = some b) :
    Instr.sameNow d x' y' = some b ∧ (b = true → Instr.sameBits 10000 y' x' = true) := by
  unfold keyEq at h
  split at h
  · rename_i k n k' n'
    cases hx; cases hy
    cases hk : kindEq k k' with
    | false => rw [hk] at h; cases h
    | true =>
      rw [hk, cond_true] at h
      cases h
      have hk := kindEq_eq hk
      subst hk
      cases d <;> simp [plainKey] at hd
      exact ⟨by simp [Instr.sameNow], fun e => by simp at e; simp [Instr.sameBits, e]⟩
  · rename_i s s'
    cases hx; cases hy
    have e : (s == s') = bytesEq s.data.toList s'.data.toList := by rw [bytesEq_eq, ← ByteArray.toList_eq, ← ByteArray.toList_eq]; exact beq_toListBytes s s'
    rw [← e] at h
    cases h
    cases d <;> simp [plainKey] at hd
    exact ⟨rfl, fun q => by
      show (s' == s) = true
      rw [beq_toListBytes] at q ⊢
      exact beq_iff_eq.2 (beq_iff_eq.1 q).symm⟩
  · cases hx; cases hy
    cases h
    cases d <;> simp [plainKey] at hd
    exact ⟨rfl, fun e => by simp at e; simp [Instr.sameBits, e]⟩
  · cases h

theorem afind_sim {d : TypeDesc} {x x' : Value} (hd : plainKey d x = true) (hx : VR φ x x') : ∀ (es : List (Value × Value)) (en : List MapEntry) (i : Nat) (res : Option (Nat × Value)),
    VRs φ (es.map (·.1)) (en.map (·.key)) → VRs φ (es.map (·.2)) (en.map (·.val)) → afind x es i = some res →
    (res = none → Instr.findNow d x' en i = some none) ∧
    (∀ j v, res = some (j, v) → i ≤ j ∧ ∃ e, en[j - i]? = some e ∧ VR φ v e.val ∧ Instr.findNow d x' en i = some (some (j, e.val)) ∧ Instr.sameBits 10000 e.key x' = true)
  | [], [], i, res, _, _, h => by
    simp only [afind, Option.some.injEq] at h
    subst h
    exact ⟨(fun _ => rfl), (fun j v e => by cases e)⟩
  | [], _ :: _, _, _, hk, _, _ => by have := hk.1; simp at this
  | _ :: _, [], _, _, hk, _, _ => by have := hk.1; simp at this
  | (y, v) :: es, e :: en, i, res, hk, hv, h => by
    have hy : VR φ y e.key := hk.2 0 _ _ rfl rfl
    have hvv : VR φ v e.val := hv.2 0 _ _ rfl rfl
    simp only [afind] at h
    split at h
    · rename_i hq
      cases h
      obtain ⟨h1, h2⟩ := keyEq_sim hd hx hy hq
      refine ⟨(fun e => by cases e), (fun j u hj => ?_)⟩
      cases hj
      exact ⟨Nat.le_refl _, e, by simp, hvv, by simp [Instr.findNow, h1], h2 rfl⟩
    · rename_i hq
      obtain ⟨h1, _⟩ := keyEq_sim hd hx hy hq
      obtain ⟨h2, h3⟩ := afind_sim hd hx es en (i + 1) res (VRs.tail hk) (VRs.tail hv) h
      refine ⟨fun e => by simp [Instr.findNow, h1, h2 e], fun j u hj => ?_⟩
      obtain ⟨h4, e', h5, h6, h7, h8⟩ := h3 j u hj
      refine ⟨by omega, e', ?_, h6, by simp [Instr.findNow, h1, h7], h8⟩
      rw [show j - i = (j - (i + 1)) + 1 from by omega, List.getElem?_cons_succ]
      exact h5
    · cases h

theorem run_checkKey {kt : TypeId} {d : TypeDesc} {x : Value} (ht : P.underlying kt = some d) (hd : plainKey d x = true) (b : Bool) (n : Nat) (w : World) : (Instr.checkKey b (n + 1) kt x).run P w = .ok () w := by
  unfold plainKey at hd
  split at hd <;> first | (cases hd; done) | simp [Instr.checkKey, run_underlying ht]

def amap (A : AH) (b : Nat) : Option (List (Value × Value)) :=
  match A.t.get b with
  | some (.map es) => some es
  | _ => none

theorem R.amap (h : R B gl φ A w) {b : Nat} {es : List (Value × Value)} (he : amap A b = some es) :
    A.t.get b = some (.map es) ∧ ∃ pb en cl, φ b none = some pb ∧ w.heap[pb.r]? = some (.map en cl) ∧ VRs φ (es.map (·.1)) (en.toList.map (·.key)) ∧ VRs φ (es.map (·.2)) (en.toList.map (·.val)) := by
  unfold Zh.amap at he
  split at he
  case h_2 => cases he
  rename_i es' hb
  cases he
  exact ⟨hb, h.obj _ _ hb⟩

def alookup (A : AH) (kd : TypeDesc) (zero : Value) (m x : Value) (ok : Bool) (k : Value → Option β) : Option β :=
  let out (v : Value) (b : Bool) : Option β := bif ok then k (.tuple ⟨[v, .bool b]⟩) else k v
  bif plainKey kd x then
    match m with
    | .map none => out zero false
    | .map (some b) => match Zh.amap A b with
      | some es => match afind x es 0 with
        | some (some (_, v)) => out v true
        | some none => out zero false
        | none => none
      | none => none
    | _ => none
  else none

theorem R.lookup (h : R B gl φ A w) {t kt et : TypeId} {kd : TypeDesc} {i : TypeInfo} {z : Value} (ht : P.underlying t = some (.map kt et)) (hkt : P.underlying kt = some kd) (hi : P.info? et = some i)
    (hz : i.zero = some z) (hzv : VR φ z z) {m m' x x' : Value} (hm : VR φ m m') (hx : VR φ x x') {ok : Bool} {k : Value → Option β} {r : β} (hl : alookup A kd z m x ok k = some r) :
    ∃ v v', k v = some r ∧ (Instr.lookup t m' x' ok).run P w = .ok v' w ∧ VR φ v v' := by
  unfold alookup at hl
  cases hd : plainKey kd x with
  | false => rw [hd] at hl; cases hl
  | true =>
    rw [hd, cond_true] at hl
    have hd' : plainKey kd x' = true := by cases hx <;> first | exact hd | (cases kd <;> simp [plainKey] at hd)
    have out : ∀ (v v' : Value) (b : Bool), VR φ v v' → (bif ok then k (.tuple ⟨[v, .bool b]⟩) else k v) = some r →
        ∃ u u', k u = some r ∧ u' = (if ok then .tuple #[v', .bool b] else v') ∧ VR φ u u' := by
      intro v v' b hv hk
      cases ok with
      | true => exact ⟨_, _, hk, rfl, by
          have : VRs φ [v, .bool b] [v', .bool b] := VRs.cons hv (VRs.cons (.bool b) (VRs.nil _))
          exact .tuple this.1 this.2⟩
      | false => exact ⟨_, _, hk, rfl, hv⟩
    split at hl
    · cases hm
      obtain ⟨u, u', h1, h2, h3⟩ := out z z false hzv hl
      refine ⟨u, u', h1, ?_, h3⟩
      rw [h2]
      simp only [Instr.lookup, Sem.run_bind, run_underlying ht, Result.andThen_ok, Sem.run_pure, run_checkKey hkt hd' _ 9999]
      simp [Instr.findKey, run_underlying hkt, Instr.findNow, zeroValue, typeInfo, hi, hz]
    · rename_i b
      cases hm with
      | map hφ =>
      rename_i pb
      split at hl
      case h_2 => cases hl
      rename_i es hes
      obtain ⟨_, pb', en, cl, e1, e2, e3, e4⟩ := h.amap hes
      rw [hφ] at e1
      cases e1
      have hget : ∀ w0, w0 = w → (getObj pb.r).run P w0 = .ok (.map en cl) w := by
        intro w0 e
        subst e
        simp [getObj, Sem.run, e2]
      split at hl
      · rename_i j v hf
        obtain ⟨_, f2⟩ := afind_sim hd hx es en.toList 0 _ e3 e4 hf
        obtain ⟨_, e, f3, f4, f5, _⟩ := f2 j v rfl
        obtain ⟨u, u', h1, h2, h3⟩ := out v e.val true f4 hl
        refine ⟨u, u', h1, ?_, h3⟩
        rw [h2]
        simp only [Instr.lookup, Sem.run_bind, run_underlying ht, Result.andThen_ok, Sem.run_pure, hget _ rfl, run_checkKey hkt hd' _ 9999, Instr.findKey, run_underlying hkt, f5]
      · rename_i hf
        obtain ⟨f1, _⟩ := afind_sim hd hx es en.toList 0 _ e3 e4 hf
        obtain ⟨u, u', h1, h2, h3⟩ := out z z false hzv hl
        refine ⟨u, u', h1, ?_, h3⟩
        rw [h2]
        simp only [Instr.lookup, Sem.run_bind, run_underlying ht, Result.andThen_ok, Sem.run_pure, hget _ rfl, run_checkKey hkt hd' _ 9999, Instr.findKey, run_underlying hkt, f1 rfl]
        simp [zeroValue, typeInfo, hi, hz]
      · cases hl
    · cases hl

end Go.Zh
