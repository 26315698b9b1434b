/- Zh7: more operations: map stores, iterators over texts, addresses, slices, lengths, making. -/
import Derived.Test.YtkhaebkijoefjaaGreatDoorZh6
namespace Go.Zh
open Go.RowKit
set_option linter.unusedVariables false

variable {B : Nat} {gl : List Nat} {φ : Phi} {A : AH} {w w' : World} {P : Program} {β : Type}

/-! ### map stores -/
def mapTurn (es : List (Value × Value)) (x v : Value) : Option (Nat × Value) → (List (Value × Value) → Option β) → Option β
  | none, k => appK es [(x, v)] k
  | some (i, _), k => listK (es.set i (x, v)) k

noncomputable def amapset (A : AH) (kd : TypeDesc) (m x v : Value) (k : AH → Option β) : Option β :=
  bif plainKey kd x then
    match m with
    | .map (some b) => match Zh.amap A b with
      | some es => match afind x es 0 with
        | some res => mapTurn es x v res fun es => Tr.putK A.t b (.map es) fun t => k ⟨t, A.next⟩
        | none => none
      | none => none
    | _ => none
  else none

theorem run_getObj {r : Nat} {o : Obj} (h : w.heap[r]? = some o) (ho : ∀ c e f, o ≠ .cells c e f) : (getObj r).run P w = .ok o w := by
  unfold getObj
  cases o <;> first | (exact absurd rfl (ho _ _ _)) | simp [Sem.run, h]

theorem run_setObj {r : Nat} {o o' : Obj} (h : w.heap[r]? = some o) (ho : ∀ c e f, o ≠ .cells c e f) :
    ∃ w', (setObj r o').run P w = .ok () w' ∧ But r w w' ∧ w'.heap[r]? = some o' := by
  refine ⟨{ w with heap := w.heap.setIfInBounds r o' }, ?_, ⟨rfl, rfl, rfl, by simp, fun k hk => ?_⟩, ?_⟩
  · unfold setObj
    cases o <;> first | (exact absurd rfl (ho _ _ _)) | simp [Sem.run, h]
  · have : ¬ r = k := fun e => hk e.symm
    simp [this]
  · have : r < w.heap.size := by
      rcases Nat.lt_or_ge r w.heap.size with h' | h'
      · exact h'
      · rw [Array.getElem?_eq_none h'] at h; cases h
    simp [this]

theorem R.mapset (h : R B gl φ A w) {t kt et : TypeId} {kd : TypeDesc} (ht : P.underlying t = some (.map kt et)) (hkt : P.underlying kt = some kd)
    {m m' x x' v v' : Value} (hm : VR φ m m') (hx : VR φ x x') (hv : VR φ v v') {k : AH → Option β} {r : β} (hl : amapset A kd m x v k = some r) :
    ∃ A' w', k A' = some r ∧ (Instr.mapUpdate t m' x' v').run P w = .ok () w' ∧ R B gl φ A' w' ∧ Below B w w' := by
  unfold amapset at hl
  cases hd : plainKey kd x with
  | false => rw [hd] at hl; cases hl
  | true =>
    rw [hd, cond_true] at hl
    have hd' : plainKey kd x' = true := by cases hx <;> first | exact hd | (cases kd <;> simp [plainKey] at hd)
    split at hl
    case h_2 => cases hl
    rename_i b
    cases hm with
    | map hφ =>
    rename_i pb
    split at hl
    case h_2 => cases hl
    rename_i es hes
    split at hl
    case h_2 => cases hl
    rename_i res hf
    obtain ⟨hget, pb', en, cl, e1, e2, e3, e4⟩ := h.amap hes
    rw [hφ] at e1
    cases e1
    obtain ⟨f1, f2⟩ := afind_sim hd hx es en.toList 0 _ e3 e4 hf
    have key : ∃ es2 en2 cl2, mapTurn es x v res (fun es => Tr.putK A.t b (.map es) fun t => k ⟨t, A.next⟩) = Tr.putK A.t b (.map es2) (fun t => k ⟨t, A.next⟩) ∧
        (∃ w', (Instr.mapUpdate t (.map (some pb.r)) x' v').run P w = .ok () w' ∧ But pb.r w w' ∧ w'.heap[pb.r]? = some (.map en2 cl2)) ∧
        VRs φ (es2.map (·.1)) (en2.toList.map (·.key)) ∧ VRs φ (es2.map (·.2)) (en2.toList.map (·.val)) := by
      cases res with
      | none =>
        obtain ⟨w2, g1, g2, g3⟩ := run_setObj (P := P) (o' := .map (en.push { key := x', val := v', born := cl }) (cl + 1)) e2 (by simp)
        refine ⟨es ++ [(x, v)], en.push { key := x', val := v', born := cl }, cl + 1, by simp [mapTurn, appK_eq], ⟨w2, ?_, g2, g3⟩, ?_, ?_⟩
        · simp only [Instr.mapUpdate, Sem.run_bind, run_underlying ht, Result.andThen_ok, run_getObj e2 (by simp), run_checkKey hkt hd' _ 9999, Instr.findKey, run_underlying hkt, f1 rfl, Sem.run_pure, g1]
        · simp only [List.map_append, Array.toList_push]
          exact e3.append (VRs.cons hx (VRs.nil _))
        · simp only [List.map_append, Array.toList_push]
          exact e4.append (VRs.cons hv (VRs.nil _))
      | some res =>
        obtain ⟨i, u⟩ := res
        obtain ⟨_, e, g4, g5, g6, g7⟩ := f2 i u rfl
        simp only [Nat.sub_zero] at g4
        have hkey : (en[i]?.map (·.key)).getD x' = e.key := by rw [← Array.getElem?_toList, g4]; rfl
        have hstay : ∀ w0, (Instr.keyThatStays e.key x').run P w0 = .ok x' w0 := fun w0 => by simp [Instr.keyThatStays, g7]
        obtain ⟨w2, g1, g2, g3⟩ := run_setObj (P := P) (o' := .map (en.modify i fun e => { e with key := x', val := v' }) cl) e2 (by simp)
        refine ⟨es.set i (x, v), en.modify i (fun e => { e with key := x', val := v' }), cl, by simp [mapTurn, listK_eq], ⟨w2, ?_, g2, g3⟩, ?_, ?_⟩
        · simp only [Instr.mapUpdate, Sem.run_bind, run_underlying ht, Result.andThen_ok, run_getObj e2 (by simp), run_checkKey hkt hd' _ 9999, Instr.findKey, run_underlying hkt, g6, Sem.run_pure, hkey, hstay, g1]
        · have h1 : (en.modify i (fun e => { e with key := x', val := v' })).toList.map (·.key) = (en.toList.map (·.key)).set i x' := by
            apply List.ext_getElem?
            intro j
            simp only [Array.toList_modify, List.getElem?_map, List.getElem?_modify, List.getElem?_set, List.length_map]
            by_cases hj : i = j
            · subst hj
              simp only [if_true]
              rw [g4]
              have : i < en.toList.length := by
                rcases Nat.lt_or_ge i en.toList.length with h' | h'
                · exact h'
                · rw [List.getElem?_eq_none h'] at g4; cases g4
              simp
              simpa using this
            · simp [hj]
          rw [h1, List.map_set]
          exact e3.set hx i
        · have h1 : (en.modify i (fun e => { e with key := x', val := v' })).toList.map (·.val) = (en.toList.map (·.val)).set i v' := by
            apply List.ext_getElem?
            intro j
            simp only [Array.toList_modify, List.getElem?_map, List.getElem?_modify, List.getElem?_set, List.length_map]
            by_cases hj : i = j
            · subst hj
              simp only [if_true]
              rw [g4]
              have : i < en.toList.length := by
                rcases Nat.lt_or_ge i en.toList.length with h' | h'
                · exact h'
                · rw [List.getElem?_eq_none h'] at g4; cases g4
              simp
              simpa using this
            · simp [hj]
          rw [h1, List.map_set]
          exact e4.set hv i
    obtain ⟨es2, en2, cl2, k1, ⟨w2, k2, k3, k4⟩, k5, k6⟩ := key
    rw [k1, Tr.putK_eq] at hl
    obtain ⟨hR, hB⟩ := h.turn (o' := .map es2) hget rfl hφ k3 ⟨pb, en2, cl2, hφ, k4, k5, k6⟩ (fun q G γ e => by cases e) (fun q e => by cases e)
    exact ⟨_, w2, hl, k2, hR, hB⟩

/-! ### new maps, iterators -/
noncomputable def aobj (A : AH) (o : AObj) (k : Nat → AH → Option β) : Option β :=
  natK (A.next + 1) fun n => Tr.putK A.t A.next o fun t => k A.next ⟨t, n⟩

theorem R.mkmap (h : R B gl φ A w) {k : Nat → AH → Option β} {r : β} (hk : aobj A (.map []) k = some r) :
    ∃ b A' ψ, k b A' = some r ∧ Ext φ ψ ∧ R B gl ψ A' (w.alloc (.map #[] 0)) ∧ ψ b none = some ⟨w.heap.size, 0, 0⟩ ∧ Below B w (w.alloc (.map #[] 0)) := by
  unfold aobj at hk
  rw [natK_eq, Tr.putK_eq] at hk
  obtain ⟨hx, hR⟩ := h.new (.map []) (.map #[] 0) none 0 0 ⟨_, #[], 0, Phi.put_same _ _ _, by show (w.heap.push _)[w.heap.size]? = _; simp, VRs.nil _, VRs.nil _⟩ (fun q G γ e => by cases e) (fun q e => by cases e)
  exact ⟨A.next, _, _, hk, hx, hR, Phi.put_same _ _ _, (Below.refl _ _).alloc h.base _⟩

theorem R.mkiter (h : R B gl φ A w) {s : ByteArray} {k : Nat → AH → Option β} {r : β} (hk : aobj A (.iter s 0) k = some r) :
    ∃ b A' ψ, k b A' = some r ∧ Ext φ ψ ∧ R B gl ψ A' (w.alloc (.stringIter s 0)) ∧ ψ b none = some ⟨w.heap.size, 0, 0⟩ ∧ Below B w (w.alloc (.stringIter s 0)) := by
  unfold aobj at hk
  rw [natK_eq, Tr.putK_eq] at hk
  obtain ⟨hx, hR⟩ := h.new (.iter s 0) (.stringIter s 0) none 0 0 ⟨_, Phi.put_same _ _ _, by show (w.heap.push _)[w.heap.size]? = _; simp⟩ (fun q G γ e => by cases e) (fun q e => by cases e)
  exact ⟨A.next, _, _, hk, hx, hR, Phi.put_same _ _ _, (Below.refl _ _).alloc h.base _⟩

noncomputable def arangeS (A : AH) (x : Value) (k : Value → AH → Option β) : Option β :=
  match x with
  | .string s => aobj A (.iter s 0) fun b A => k (.pointer (some ⟨b, 0, none⟩)) A
  | _ => none

theorem R.rangeS (h : R B gl φ A w) {t : TypeId} (ht : P.underlying t = some .string) {x x' : Value} (hx : VR φ x x') {k : Value → AH → Option β} {r : β} (hk : arangeS A x k = some r) :
    ∃ v A', k v A' = some r ∧ AppOK B gl P φ w ((Instr.range t x').run P w) A' v := by
  unfold arangeS at hk
  split at hk
  case h_2 => cases hk
  rename_i s
  cases hx
  obtain ⟨b, A', ψ, h1, h2, h3, h4, h5⟩ := h.mkiter hk
  refine ⟨_, _, h1, _, _, ψ, ?_, h2, h3, .ptr h4, h5⟩
  simp only [Instr.range, Sem.run_bind, run_underlying ht, Result.andThen_ok, Sem.run_pure, run_newObj]
  rfl

noncomputable def anextS (A : AH) (x : Value) (k : Value → AH → Option β) : Option β :=
  match x with
  | .pointer (some ⟨b, 0, none⟩) => match A.t.get b with
    | some (.iter s pos) =>
      match s.data.toList.drop pos with
      | [] => k (.tuple ⟨[.bool false]⟩) A
      | c :: _ =>
        bif Nat.ble 128 c.toNat then
          natK (Utf8.decode s pos).1 fun r => natK (pos + (Utf8.decode s pos).2) fun pos' => Tr.putK A.t b (.iter s pos') fun t =>
            k (.tuple ⟨[.bool true, .int .i64 pos, .int .i32 r]⟩) ⟨t, A.next⟩
        else
          natK c.toNat fun r => natK (pos + 1) fun pos' => Tr.putK A.t b (.iter s pos') fun t =>
            k (.tuple ⟨[.bool true, .int .i64 pos, .int .i32 r]⟩) ⟨t, A.next⟩
    | _ => none
  | _ => none

theorem plainConsts_vrs' {l : Array Value} (h : l.toList.all plainConst = true) : VR φ (.tuple l) (.tuple l) :=
  let t := plainConsts_vrs (φ := φ) h; .tuple t.1 t.2

theorem decode_small {s : ByteArray} {pos : Nat} {c : UInt8} {l : List UInt8} (h : s.data.toList.drop pos = c :: l) (hc : Nat.ble 128 c.toNat = false) : Utf8.decode s pos = (c.toNat, 1) := by
  have hlt : c.toNat < 128 := by
    rcases Nat.lt_or_ge c.toNat 128 with h' | h'
    · exact h'
    · rw [Nat.ble_eq_true_of_le h'] at hc; cases hc
  have hg : s.data.toList[pos]? = some c := by
    have := List.getElem?_drop (xs := s.data.toList) (i := pos) (j := 0)
    rw [h] at this
    simpa using this.symm
  have hpos : pos < s.data.size := by
    rcases Nat.lt_or_ge pos s.data.size with h' | h'
    · exact h'
    · rw [List.getElem?_eq_none (by simpa using h')] at hg; cases hg
  have hget : s.get! (pos + 0) = c := by
    show s.data[pos + 0]! = c
    rw [Nat.add_zero, getElem!_pos s.data pos hpos]
    rw [Array.getElem?_toList, Array.getElem?_eq_getElem hpos] at hg
    exact Option.some.inj hg
  unfold Utf8.decode
  simp only [hget, hlt, if_true]

theorem R.nextS (h : R B gl φ A w) {ty : TypeId} {x x' : Value} (hx : VR φ x x') {k : Value → AH → Option β} {r : β} (hk : anextS A x k = some r) :
    ∃ v A', k v A' = some r ∧ AppOK B gl P φ w ((Instr.next x' true ty).run P w) A' v := by
  unfold anextS at hk
  split at hk
  case h_2 => cases hk
  rename_i b
  split at hk
  case h_2 => cases hk
  rename_i s pos hb
  obtain ⟨pb0, g1, g2⟩ := h.obj _ _ hb
  cases hx with
  | ptr hφ =>
  rename_i pb
  rw [hφ] at g1
  cases g1
  split at hk
  · rename_i hd
    have hpos : ¬ pos < s.size := by
      rw [List.drop_eq_nil_iff] at hd
      rw [Lib.size_eq]; omega
    refine ⟨_, _, hk, .tuple #[.bool false], w, φ, ?_, Ext.refl _, h, ?_, Below.refl _ _⟩
    · simp only [Instr.next, Sem.run_bind, run_getObj g2 (by simp), Result.andThen_ok, if_neg hpos, Sem.run_pure]
    · exact plainConsts_vrs' rfl
  · rename_i c l hd
    have hpos : pos < s.size := by
      rw [Lib.size_eq]
      rcases Nat.lt_or_ge pos s.data.toList.length with h' | h'
      · exact h'
      · rw [List.drop_eq_nil_of_le h'] at hd; cases hd
    have key : ∀ (cp wd : Nat), Utf8.decode s pos = (cp, wd) → k (.tuple ⟨[.bool true, .int .i64 pos, .int .i32 cp]⟩) ⟨A.t.set b (.iter s (pos + wd)), A.next⟩ = some r →
        ∃ v A', k v A' = some r ∧ AppOK B gl P φ w ((Instr.next (.pointer (some ⟨pb0.r, 0, none⟩)) true ty).run P w) A' v := by
      intro cp wd he hk
      obtain ⟨w2, k1, k2, k3⟩ := run_setObj (P := P) (o' := .stringIter s (pos + wd)) g2 (by simp)
      obtain ⟨hR, hB⟩ := h.turn (o' := .iter s (pos + wd)) hb rfl hφ k2 ⟨pb0, hφ, k3⟩ (fun q G γ e => by cases e) (fun q e => by cases e)
      refine ⟨_, _, hk, .tuple #[.bool true, goInt pos, .int .i32 cp], w2, φ, ?_, Ext.refl _, hR, ?_, hB⟩
      · simp only [Instr.next, Sem.run_bind, run_getObj g2 (by simp), Result.andThen_ok, if_pos hpos, he, k1, Sem.run_pure]
      · exact plainConsts_vrs' rfl
    cases hc : Nat.ble 128 c.toNat with
    | true =>
      rw [hc, cond_true, natK_eq, natK_eq, Tr.putK_eq] at hk
      exact key _ _ rfl hk
    | false =>
      rw [hc, cond_false, natK_eq, natK_eq, Tr.putK_eq] at hk
      exact key _ _ (decode_small hd hc) hk

end Go.Zh
