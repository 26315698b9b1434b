/- Zh2: what becomes of 'R' when the world makes a row, writes one, draws. -/
import Derived.Test.YtkhaebkijoefjaaGreatDoorZh1
namespace Go.Zh
open Go.RowKit
set_option linter.unusedVariables false

/-! ### worlds that differ at one row -/
structure But (r : Nat) (w w' : World) : Prop where
  os : w'.os = w.os
  tape : w'.tape = w.tape
  output : w'.output = w.output
  size : w'.heap.size = w.heap.size
  block : ∀ k, k ≠ r → w'.heap[k]? = w.heap[k]?

theorem But.below {r B : Nat} {w w' : World} (h : But r w w') (hr : B ≤ r) : Below B w w' :=
  ⟨h.os, h.tape, h.output, by rw [h.size]; exact Nat.le_refl _, fun k hk => h.block k (by omega)⟩

def splice (c : List Value) (o : Nat) (vs : List Value) : List Value := c.take o ++ vs ++ c.drop (o + vs.length)

theorem splice_length {c : List Value} {o : Nat} {vs : List Value} (h : o + vs.length ≤ c.length) : (splice c o vs).length = c.length := by
  simp [splice]; omega

theorem splice_get {c : List Value} {o : Nat} {vs : List Value} (h : o + vs.length ≤ c.length) (j : Nat) :
    (splice c o vs)[j]? = if j < o then c[j]? else if j < o + vs.length then vs[j - o]? else c[j]? := by
  unfold splice
  rw [List.append_assoc]
  have hm : min o c.length = o := Nat.min_eq_left (by omega)
  by_cases h1 : j < o
  · rw [if_pos h1, List.getElem?_append_left (by rw [List.length_take, hm]; exact h1), List.getElem?_take, if_pos h1]
  · rw [if_neg h1, List.getElem?_append_right (by rw [List.length_take, hm]; omega), List.length_take, hm]
    by_cases h2 : j < o + vs.length
    · rw [if_pos h2, List.getElem?_append_left (by omega)]
    · rw [if_neg h2, List.getElem?_append_right (by omega), List.getElem?_drop]
      congr 1
      omega

theorem splice_cons {c : List Value} {o i : Nat} {v : Value} {vs : List Value} (h : o + i + (vs.length + 1) ≤ c.length) :
    splice (c.set (o + i) v) (o + (i + 1)) vs = splice c (o + i) (v :: vs) := by
  apply List.ext_getElem?
  intro j
  rw [splice_get (by simp; omega), splice_get (by simp; omega), List.getElem?_set]
  simp only [List.length_cons]
  by_cases h1 : j < o + i
  · rw [if_pos (by omega), if_neg (by omega), if_pos h1]
  · rw [if_neg h1]
    by_cases h2 : j = o + i
    · subst h2
      rw [if_pos (by omega), if_pos rfl, if_pos (by omega), if_pos (by omega)]
      simp
    · rw [if_neg (show ¬ j < o + (i + 1) by omega), if_neg (show ¬ o + i = j by omega)]
      by_cases h3 : j < o + (i + 1) + vs.length
      · rw [if_pos h3, if_pos (by omega), show j - (o + i) = (j - (o + (i + 1))) + 1 from by omega, List.getElem?_cons_succ]
      · rw [if_neg h3, if_neg (by omega)]

theorem VRs.splice {φ : Phi} {a a' b b' : List Value} (h : VRs φ a a') (k : VRs φ b b') (o : Nat) : VRs φ (splice a o b) (splice a' o b') := by
  unfold Zh.splice
  rw [← k.1]
  exact ((h.take o).append k).append (h.drop _)

theorem cell?_of_row {w : World} {r : Nat} {c : Array Value} {T : TypeId} {fz : Nat × Nat} (h : w.heap[r]? = some (.cells c T fz)) (o : Nat) :
    w.cell? ⟨r, o, none⟩ = c[o]? := by simp [World.cell?, h]

theorem setCell_row {w : World} {r : Nat} {c : Array Value} {T : TypeId} {fz : Nat × Nat} (h : w.heap[r]? = some (.cells c T fz)) (o : Nat) (v : Value) :
    But r w (w.setCell ⟨r, o, none⟩ v) ∧ (w.setCell ⟨r, o, none⟩ v).heap[r]? = some (.cells (c.setIfInBounds o v) T fz) := by
  refine ⟨⟨rfl, rfl, rfl, by simp [World.setCell], fun k hk => ?_⟩, ?_⟩
  · simp only [World.setCell, Array.getElem?_modify]
    rw [if_neg (fun e => hk e.symm)]
  · simp [World.setCell, Array.getElem?_modify, h]

theorem run_storeCells {P : Program} : ∀ (vs : List Value) (w : World) (r o i : Nat) (c : Array Value) (T : TypeId), w.heap[r]? = some (.cells c T (0, 0)) →
    (∀ v, v ∈ vs → v.oneCell' = true) → o + i + vs.length ≤ c.size →
    ∃ w' c2, (storeCells ⟨r, o, none⟩ vs i).run P w = .ok () w' ∧ But r w w' ∧ w'.heap[r]? = some (.cells c2 T (0, 0)) ∧ c2.toList = splice c.toList (o + i) vs
  | [], w, r, o, i, c, T, h, _, _ => ⟨w, c, by simp [storeCells], ⟨rfl, rfl, rfl, rfl, fun _ _ => rfl⟩, h, by simp [splice]⟩
  | v :: vs, w, r, o, i, c, T, h, h1, hl => by
    have hv := h1 v (by simp)
    simp only [List.length_cons] at hl
    have ha : (Addr.add ⟨r, o, none⟩ i) = ⟨r, o + i, none⟩ := by
      unfold Addr.add
      split
      · rename_i h0; subst h0; rfl
      · rfl
    obtain ⟨hb, hrow⟩ := setCell_row h (o + i) v
    obtain ⟨w', c2, hrun, hbut, hrow2, hc2⟩ := run_storeCells (P := P) vs (w.setCell ⟨r, o + i, none⟩ v) r o (i + 1) _ T hrow (fun u hu => h1 u (by simp [hu])) (by simp; omega)
    refine ⟨w', c2, ?_, ⟨hbut.os.trans hb.os, hbut.tape.trans hb.tape, hbut.output.trans hb.output, hbut.size.trans hb.size, fun k hk => (hbut.block k hk).trans (hb.block k hk)⟩, hrow2, ?_⟩
    · have hcell : w.cell? ⟨r, o + i, none⟩ = some (c[o + i]'(by omega)) := by rw [cell?_of_row h, Array.getElem?_eq_getElem]
      have hfz : w.frozen? ⟨r, o + i, none⟩ = false := by simp [World.frozen?, h]
      simp only [storeCells, Sem.run_bind, ha, run_store P w _ v _ hv, hcell, hfz]
      simpa using hrun
    · rw [hc2, Array.toList_setIfInBounds]
      exact splice_cons (by simp; omega)

theorem run_loadCells_row {P : Program} {w : World} {r o n : Nat} {c : Array Value} {T : TypeId} {fz : Nat × Nat} (h : w.heap[r]? = some (.cells c T fz)) (hn : o + n ≤ c.size) :
    (loadCells ⟨r, o, none⟩ n).run P w = .ok ((c.toList.drop o).take n).toArray w := by
  have hl : ((c.toList.drop o).take n).length = n := by simp; omega
  have := run_loadCells_list (P := P) w ⟨r, o, none⟩ ((c.toList.drop o).take n) (fun j v hv => by
    rw [List.getElem?_take] at hv
    split at hv
    · rw [List.getElem?_drop] at hv
      have ha : (Addr.add ⟨r, o, none⟩ j) = ⟨r, o + j, none⟩ := by
        unfold Addr.add
        split
        · rename_i h0; subst h0; rfl
        · rfl
      rw [ha, cell?_of_row h]
      simpa using hv
    · cases hv)
  rwa [hl] at this

/-! ### R -/
theorem OR.keep {φ ψ : Phi} {w w' : World} {b : Nat} {o : AObj} (h : OR φ w b o) (hx : Ext φ ψ) (hw : ∀ s pb, φ b s = some pb → w'.heap[pb.r]? = w.heap[pb.r]?) : OR ψ w' b o := by
  cases o with
  | cells k =>
    unfold OR at h ⊢
    cases hg : k.g with
    | none =>
      simp only [hg] at h ⊢
      obtain ⟨pb, c', T, fz, h1, h2, h3, h4, h5, h6⟩ := h
      exact ⟨pb, c', T, fz, hx _ _ _ h1, (hw _ _ h1).trans h2, h3.ext hx, h4, h5, h6⟩
    | some G =>
      simp only [hg] at h ⊢
      refine ⟨h.1, h.2.1, fun γ h1 h2 => ?_⟩
      obtain ⟨pb, c', T, a1, a2, a3, a4, a5⟩ := h.2.2 γ h1 h2
      exact ⟨pb, c', T, hx _ _ _ a1, (hw _ _ a1).trans a2, a3, a4, fun i v hi hv => let ⟨v', e, r⟩ := a5 i v hi hv; ⟨v', e, r.ext hx⟩⟩
  | map es =>
    obtain ⟨pb, en, cl, h1, h2, h3, h4⟩ := h
    exact ⟨pb, en, cl, hx _ _ _ h1, (hw _ _ h1).trans h2, h3.ext hx, h4.ext hx⟩
  | iter s pos =>
    obtain ⟨pb, h1, h2⟩ := h
    exact ⟨pb, hx _ _ _ h1, (hw _ _ h1).trans h2⟩

variable {B : Nat} {gl : List Nat} {φ : Phi} {A : AH} {w w' : World}

theorem R.drew (h : R B gl φ A w) : R B gl φ A w.drew :=
  ⟨fun b o hb => (h.obj b o hb).keep (Ext.refl _) (fun _ _ _ => rfl), h.inj, h.dom, h.own, h.base, h.glob, h.fresh, h.elem, h.gens⟩

/-- The heap may have grown, and all that stands for something is as it was. -/
theorem R.same (h : R B gl φ A w) (hs : w.heap.size ≤ w'.heap.size) (hw : ∀ k, k < w.heap.size → w'.heap[k]? = w.heap[k]?) : R B gl φ A w' :=
  ⟨fun b o hb => (h.obj b o hb).keep (Ext.refl _) (fun s pb hp => hw _ (h.dom _ _ _ hp).2), h.inj, fun b s pb hp => ⟨(h.dom _ _ _ hp).1, Nat.lt_of_lt_of_le (h.dom _ _ _ hp).2 hs⟩, h.own,
    Nat.le_trans h.base hs, h.glob, h.fresh, h.elem, h.gens⟩

def Phi.put (φ : Phi) (b : Nat) (s : Option Nat) (pb : PB) : Phi := fun b' s' => if b' = b ∧ s' = s then some pb else φ b' s'

theorem Phi.put_ext {b : Nat} {s : Option Nat} {pb : PB} (h : φ b s = none) : Ext φ (φ.put b s pb) := by
  intro b' s' pb' hp
  unfold Phi.put
  split
  · rename_i e; rw [e.1, e.2, h] at hp; cases hp
  · exact hp

@[simp] theorem Phi.put_same (b : Nat) (s : Option Nat) (pb : PB) : φ.put b s pb b s = some pb := by simp [Phi.put]

theorem R.unmapped (h : R B gl φ A w) (s : Option Nat) : φ A.next s = none := by
  cases e : φ A.next s with
  | none => rfl
  | some pb => exact absurd (h.dom _ _ _ e).1 (Nat.lt_irrefl _)

/-- A new object, that stands for a new block of the world. -/
theorem R.new (h : R B gl φ A w) (o : AObj) (x : Obj) (s : Option Nat) (n e : Nat)
    (hor : OR (φ.put A.next s ⟨w.heap.size, n, e⟩) (w.alloc x) A.next o)
    (hgen : ∀ (q : Blk) (G γ : Nat), o = .cells q → q.g = some G → G < γ → s ≠ some γ) (helem : ∀ q, o = .cells q → e = q.e) :
    Ext φ (φ.put A.next s ⟨w.heap.size, n, e⟩) ∧ R B gl (φ.put A.next s ⟨w.heap.size, n, e⟩) ⟨A.t.set A.next o, A.next + 1⟩ (w.alloc x) := by
  have hx : Ext φ (φ.put A.next s ⟨w.heap.size, n, e⟩) := Phi.put_ext (h.unmapped s)
  have old : ∀ b s' pb, b ≠ A.next → (φ.put A.next s ⟨w.heap.size, n, e⟩) b s' = some pb → φ b s' = some pb := by
    intro b s' pb hb hp
    unfold Phi.put at hp
    rwa [if_neg (fun e => hb e.1)] at hp
  have new : ∀ s' pb, (φ.put A.next s ⟨w.heap.size, n, e⟩) A.next s' = some pb → pb.r = w.heap.size := by
    intro s' pb hp
    unfold Phi.put at hp
    split at hp
    · cases hp; rfl
    · rw [h.unmapped] at hp; cases hp
  refine ⟨hx, ⟨?_, ?_, ?_, ?_, ?_, ?_, ?_, ?_, ?_⟩⟩
  · intro b o' hb
    rw [Tr.get_set] at hb
    split at hb
    · rename_i e; cases hb; subst e; exact hor
    · exact (h.obj b o' hb).keep hx (fun s pb hp => Below.heap_alloc _ _ _ (h.dom _ _ _ hp).2)
  · intro b s1 pb b' s2 pb' h1 h2 hr
    by_cases e1 : b = A.next
    · by_cases e2 : b' = A.next
      · rw [e1, e2]
      · rw [e1] at h1
        have := (h.dom _ _ _ (old _ _ _ e2 h2)).2
        have := new _ _ h1
        omega
    · by_cases e2 : b' = A.next
      · rw [e2] at h2
        have := (h.dom _ _ _ (old _ _ _ e1 h1)).2
        have := new _ _ h2
        omega
      · exact h.inj _ _ _ _ _ _ (old _ _ _ e1 h1) (old _ _ _ e2 h2) hr
  · intro b s' pb hp
    by_cases e1 : b = A.next
    · rw [e1] at hp
      have := new _ _ hp
      exact ⟨by rw [e1]; exact Nat.lt_succ_self _, by simp; omega⟩
    · have := h.dom _ _ _ (old _ _ _ e1 hp)
      exact ⟨Nat.lt_succ_of_lt this.1, by simp; omega⟩
  · intro b o' s' pb hb ho hp
    by_cases e1 : b = A.next
    · rw [e1] at hp
      have := new _ _ hp
      have := h.base
      omega
    · rw [Tr.get_set, if_neg e1] at hb
      exact h.own _ _ _ _ hb ho (old _ _ _ e1 hp)
  · have := h.base; simp; omega
  · intro g hg
    obtain ⟨pb, h1, h2⟩ := h.glob g hg
    exact ⟨pb, hx _ _ _ h1, h2⟩
  · intro b o' hb
    rw [Tr.get_set] at hb
    split at hb
    · rename_i e; rw [e]; exact Nat.lt_succ_self _
    · exact Nat.lt_succ_of_lt (h.fresh _ _ hb)
  · intro b q s' pb hb hp
    rw [Tr.get_set] at hb
    split at hb
    · rename_i e'
      cases hb
      subst e'
      unfold Phi.put at hp
      split at hp
      · cases hp; exact helem q rfl
      · rw [h.unmapped] at hp; cases hp
    · rename_i e'
      exact h.elem b q s' pb hb (old _ _ _ e' hp)
  · intro b q G γ hb hq hγ
    rw [Tr.get_set] at hb
    split at hb
    · rename_i e
      cases hb
      subst e
      unfold Phi.put
      rw [if_neg (fun e => hgen q G γ rfl hq hγ e.2.symm)]
      exact h.unmapped _
    · rename_i e
      unfold Phi.put
      rw [if_neg (fun e' => e e'.1)]
      exact h.gens b q G γ hb hq hγ

/-- An object is turned, and the one block that stands for it now. -/
theorem R.turn (h : R B gl φ A w) {b : Nat} {o o' : AObj} (hb : A.t.get b = some o) (ho : o.own = true) {s : Option Nat} {pb : PB} (hp : φ b s = some pb) (hbut : But pb.r w w')
    (hor : OR φ w' b o') (hgen : ∀ (q : Blk) (G γ : Nat), o' = .cells q → q.g = some G → G < γ → φ b (some γ) = none)
    (helem : ∀ q', o' = .cells q' → ∃ q, o = .cells q ∧ q.e = q'.e) : R B gl φ ⟨A.t.set b o', A.next⟩ w' ∧ Below B w w' := by
  refine ⟨⟨?_, h.inj, ?_, ?_, ?_, h.glob, ?_, ?_, ?_⟩, hbut.below (h.own _ _ _ _ hb ho hp)⟩
  · intro b' o2 hb'
    rw [Tr.get_set] at hb'
    split at hb'
    · rename_i e; cases hb'; subst e; exact hor
    · rename_i e
      exact (h.obj b' o2 hb').keep (Ext.refl _) (fun s' pb' hp' => hbut.block _ (fun e' => e (h.inj _ _ _ _ _ _ hp' hp e')))
  · intro b' s' pb' hp'
    have := h.dom _ _ _ hp'
    exact ⟨this.1, by rw [hbut.size]; exact this.2⟩
  · intro b' o2 s' pb' hb' ho' hp'
    rw [Tr.get_set] at hb'
    split at hb'
    · rename_i e; subst e; exact h.own _ _ _ _ hb ho hp'
    · exact h.own _ _ _ _ hb' ho' hp'
  · rw [hbut.size]; exact h.base
  · intro b' o2 hb'
    rw [Tr.get_set] at hb'
    split at hb'
    · rename_i e; subst e; exact h.fresh _ _ hb
    · exact h.fresh _ _ hb'
  · intro b' q s' pb' hb' hp'
    rw [Tr.get_set] at hb'
    split at hb'
    · rename_i e
      cases hb'
      subst e
      obtain ⟨q0, e0, e1⟩ := helem q rfl
      rw [← e1]
      exact h.elem _ _ _ _ (by rw [hb, e0]) hp'
    · exact h.elem _ _ _ _ hb' hp'
  · intro b' q G γ hb' hq hγ
    rw [Tr.get_set] at hb'
    split at hb'
    · rename_i e; cases hb'; subst e; exact hgen q G γ rfl hq hγ
    · exact h.gens b' q G γ hb' hq hγ

/-- A row may be grown: it has a further time from now on. -/
theorem R.regen (h : R B gl φ A w) {b : Nat} {q q2 : Blk} {γ : Nat} (hb : A.t.get b = some (.cells q)) (ho : q.own = true) (hg : q.g = some γ) {pb pb2 : PB} (hp : φ b (some γ) = some pb)
    (hg2 : q2.g = some (γ + 1)) (he2 : q2.e = q.e) (hpe : pb2.e = q.e) (hos : w'.os = w.os) (htape : w'.tape = w.tape) (hout : w'.output = w.output) (hsz : w.heap.size ≤ w'.heap.size)
    (hblk : ∀ k, k < w.heap.size → k ≠ pb.r → w'.heap[k]? = w.heap[k]?) (hr : pb2.r = pb.r ∨ (pb2.r = w.heap.size ∧ w.heap.size < w'.heap.size))
    (hor : OR (φ.put b (some (γ + 1)) pb2) w' b (.cells q2)) :
    Ext φ (φ.put b (some (γ + 1)) pb2) ∧ R B gl (φ.put b (some (γ + 1)) pb2) ⟨A.t.set b (.cells q2), A.next⟩ w' ∧ Below B w w' := by
  have hx : Ext φ (φ.put b (some (γ + 1)) pb2) := Phi.put_ext (h.gens b q γ (γ + 1) hb hg (Nat.lt_succ_self _))
  have hB : B ≤ pb.r := h.own _ _ _ _ hb ho hp
  have hd := h.dom _ _ _ hp
  have cases2 : ∀ b' s' pb', (φ.put b (some (γ + 1)) pb2) b' s' = some pb' → (b' = b ∧ s' = some (γ + 1) ∧ pb' = pb2) ∨ φ b' s' = some pb' := by
    intro b' s' pb' hp'
    unfold Phi.put at hp'
    split at hp'
    · rename_i e; cases hp'; exact .inl ⟨e.1, e.2, rfl⟩
    · exact .inr hp'
  refine ⟨hx, ⟨?_, ?_, ?_, ?_, Nat.le_trans h.base hsz, ?_, ?_, ?_, ?_⟩, ⟨hos, htape, hout, hsz, fun k hk => hblk k (by have := h.base; omega) (by omega)⟩⟩
  · intro b' o2 hb'
    rw [Tr.get_set] at hb'
    split at hb'
    · rename_i e; cases hb'; subst e; exact hor
    · rename_i e
      exact (h.obj b' o2 hb').keep hx (fun s' pb' hp' => hblk _ (h.dom _ _ _ hp').2 (fun e' => e (h.inj _ _ _ _ _ _ hp' hp e')))
  · intro b1 s1 pb1 b2 s2 pb3 h1 h2 hr'
    rcases cases2 _ _ _ h1 with ⟨e1, _, e3⟩ | k1
    · rcases cases2 _ _ _ h2 with ⟨e1', _, _⟩ | k2
      · rw [e1, e1']
      · rcases hr with hr | hr
        · rw [e1]; exact h.inj _ _ _ _ _ _ hp k2 (by rw [← hr, ← e3, hr'])
        · have := (h.dom _ _ _ k2).2; rw [e3] at hr'; omega
    · rcases cases2 _ _ _ h2 with ⟨e1', _, e3⟩ | k2
      · rcases hr with hr | hr
        · rw [e1']; exact h.inj _ _ _ _ _ _ k1 hp (by rw [← hr, ← e3, hr'])
        · have := (h.dom _ _ _ k1).2; rw [e3] at hr'; omega
      · exact h.inj _ _ _ _ _ _ k1 k2 hr'
  · intro b' s' pb' hp'
    rcases cases2 _ _ _ hp' with ⟨e1, _, e3⟩ | hp'
    · subst e1; subst e3
      refine ⟨hd.1, ?_⟩
      rcases hr with hr | hr <;> omega
    · have := h.dom _ _ _ hp'; exact ⟨this.1, by omega⟩
  · intro b' o2 s' pb' hb' ho' hp'
    rcases cases2 _ _ _ hp' with ⟨e1, _, e3⟩ | k1
    · subst e3
      have := h.base
      rcases hr with hr | hr <;> omega
    · rw [Tr.get_set] at hb'
      split at hb'
      · rename_i e; subst e; exact h.own _ _ _ _ hb ho k1
      · exact h.own _ _ _ _ hb' ho' k1
  · intro g hg'
    obtain ⟨pb', h1, h2⟩ := h.glob g hg'
    exact ⟨pb', hx _ _ _ h1, h2⟩
  · intro b' o2 hb'
    rw [Tr.get_set] at hb'
    split at hb'
    · rename_i e; subst e; exact hd.1
    · exact h.fresh _ _ hb'
  · intro b' q' s' pb' hb' hp'
    rw [Tr.get_set] at hb'
    split at hb'
    · rename_i e
      cases hb'
      subst e
      rcases cases2 _ _ _ hp' with ⟨_, _, e3⟩ | k1
      · rw [e3, hpe, he2]
      · rw [he2]; exact h.elem _ _ _ _ hb k1
    · rename_i e
      rcases cases2 _ _ _ hp' with ⟨e1, _, _⟩ | k1
      · exact absurd e1 e
      · exact h.elem _ _ _ _ hb' k1
  · intro b' q' G γ' hb' hq hγ
    rw [Tr.get_set] at hb'
    split at hb'
    · rename_i e
      cases hb'
      subst e
      have : γ + 1 < γ' := by rw [hg2] at hq; cases hq; exact hγ
      unfold Phi.put
      rw [if_neg (fun e => by have := e.2; injection this; omega)]
      exact h.gens b' q γ γ' hb hg (by omega)
    · rename_i e
      unfold Phi.put
      rw [if_neg (fun e' => e e'.1)]
      exact h.gens b' q' G γ' hb' hq hγ

end Go.Zh
