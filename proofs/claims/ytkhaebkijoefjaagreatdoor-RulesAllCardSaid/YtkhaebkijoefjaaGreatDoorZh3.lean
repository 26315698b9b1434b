/- Zh3: what the abstract machine does with memory, and that the world follows. -/
import Derived.Test.YtkhaebkijoefjaaGreatDoorZh2
namespace Go.Zh
open Go.RowKit
set_option linter.unusedVariables false

variable {B : Nat} {gl : List Nat} {φ : Phi} {A : AH} {w w' : World} {P : Program} {β : Type}

/-! ### handing on what is written out -/
def natK : Nat → (Nat → β) → β
  | 0, k => k 0
  | n + 1, k => k (n + 1)
theorem natK_eq (n : Nat) (k : Nat → β) : natK n k = k n := by cases n <;> rfl
def intK : Int → (Int → β) → β
  | .ofNat n, k => natK n fun n => k (.ofNat n)
  | .negSucc n, k => natK n fun n => k (.negSucc n)
theorem intK_eq (n : Int) (k : Int → β) : intK n k = k n := by cases n <;> simp [intK, natK_eq]
def listK {α : Type} : List α → (List α → β) → β
  | [], k => k []
  | x :: l, k => listK l fun l => k (x :: l)
theorem listK_eq {α : Type} (l : List α) (k : List α → β) : listK l k = k l := by
  induction l generalizing k with
  | nil => rfl
  | cons x l ih => simp [listK, ih]
def appK {α : Type} : List α → List α → (List α → β) → β
  | [], b, k => k b
  | x :: l, b, k => appK l b fun l => k (x :: l)
theorem appK_eq {α : Type} (l b : List α) (k : List α → β) : appK l b k = k (l ++ b) := by
  induction l generalizing k with
  | nil => rfl
  | cons x l ih => simp [appK, ih]
def overK : List Value → List Value → (List Value → β) → β
  | c, [], k => k c
  | [], _ :: _, k => k []
  | _ :: c, v :: vs, k => overK c vs fun c => k (v :: c)
def spK : List Value → Nat → List Value → (List Value → β) → β
  | c, 0, vs, k => overK c vs k
  | [], _ + 1, _, k => k []
  | x :: c, o + 1, vs, k => spK c o vs fun c => k (x :: c)
theorem overK_eq (vs : List Value) : ∀ (c : List Value) (k : List Value → β), vs.length ≤ c.length → overK c vs k = k (vs ++ c.drop vs.length) := by
  induction vs with
  | nil => intro c k _; cases c <;> simp [overK]
  | cons v vs ih =>
    intro c k h
    cases c with
    | nil => simp at h
    | cons x c => simp only [overK]; rw [ih _ _ (by simpa using h)]; simp
theorem spK_eq (vs : List Value) : ∀ (o : Nat) (c : List Value) (k : List Value → β), o + vs.length ≤ c.length → spK c o vs k = k (splice c o vs) := by
  intro o
  induction o with
  | zero =>
    intro c k h
    have : spK c 0 vs k = overK c vs k := by cases c <;> rfl
    rw [this, overK_eq vs c k (by omega)]
    simp [splice]
  | succ o ih =>
    intro c k h
    cases c with
    | nil => simp at h
    | cons x c =>
      simp only [spK]
      rw [ih _ _ (by simp at h; omega)]
      simp [splice, show o + 1 + vs.length = (o + vs.length) + 1 from by omega]

noncomputable def overR (vs : List Value) : List Value → (List Value → β) → β :=
  @List.rec Value (fun _ => List Value → (List Value → β) → β) (fun c k => k c)
    (fun v _ ih c k => @List.rec Value (fun _ => β) (k []) (fun _ c _ => ih c fun c => k (v :: c)) c) vs
noncomputable def spR (c : List Value) : Nat → List Value → (List Value → β) → β :=
  @List.rec Value (fun _ => Nat → List Value → (List Value → β) → β) (fun o vs k => @Nat.rec (fun _ => β) (overR vs [] k) (fun _ _ => k []) o)
    (fun x c ih o vs k => @Nat.rec (fun _ => β) (overR vs (x :: c) k) (fun m _ => ih m vs fun c => k (x :: c)) o) c
theorem overR_eq (vs : List Value) : ∀ (c : List Value) (k : List Value → β), overR vs c k = overK c vs k := by
  induction vs with
  | nil => intro c k; cases c <;> rfl
  | cons v vs ih =>
    intro c k
    cases c with
    | nil => rfl
    | cons x c => exact ih c _
theorem spR_eq (c : List Value) : ∀ (o : Nat) (vs : List Value) (k : List Value → β), spR c o vs k = spK c o vs k := by
  induction c with
  | nil =>
    intro o vs k
    cases o with
    | zero => show overR vs [] k = _; rw [overR_eq]; rfl
    | succ o => rfl
  | cons x c ih =>
    intro o vs k
    cases o with
    | zero => show overR vs (x :: c) k = _; rw [overR_eq]; rfl
    | succ o => exact ih o vs _

noncomputable def lenGe {α : Type} (l : List α) : Nat → Bool :=
  @List.rec α (fun _ => Nat → Bool) (fun n => Nat.beq n 0) (fun _ _ ih n => @Nat.rec (fun _ => Bool) true (fun m _ => ih m) n) l
theorem lenGe_eq {α : Type} (l : List α) : ∀ n, lenGe l n = Nat.ble n l.length := by
  induction l with
  | nil => intro n; cases n <;> rfl
  | cons x l ih =>
    intro n
    cases n with
    | zero => rfl
    | succ m =>
      show lenGe l m = _
      rw [ih, Bool.eq_iff_iff]
      simp

/-! ### load -/
def Blk.cut (k : Blk) (s : Option Nat) (o n : Nat) : Option (List Value) :=
  match k.lim s with
  | some l => bif Nat.ble (o + n) l then some ((k.c.drop o).take n) else none
  | none => none

def AH.blk (A : AH) (b : Nat) : Option Blk :=
  match A.t.get b with
  | some (.cells k) => some k
  | _ => none

theorem AH.blk_some {A : AH} {b : Nat} {k : Blk} (h : A.blk b = some k) : A.t.get b = some (.cells k) := by
  unfold AH.blk at h
  split at h
  · rename_i e; cases h; exact e
  · cases h

noncomputable def AH.blkK (A : AH) (b : Nat) (k : Blk → Option β) : Option β :=
  A.t.getK b fun x => @AObj.rec (fun _ => Option β) (fun q => k q) (fun _ => none) (fun _ _ => none) x
theorem AH.blkK_eq (A : AH) (b : Nat) (k : Blk → Option β) : A.blkK b k = (match A.blk b with | some q => k q | none => none) := by
  unfold AH.blkK AH.blk
  rw [Tr.getK_eq]
  cases A.t.get b with
  | none => rfl
  | some x => cases x <;> rfl

def ald (A : AH) (b o : Nat) (s : Option Nat) (n : Nat) : Option (List Value) :=
  match A.blk b with
  | some k => k.cut s o n
  | none => none

theorem Nat.ble_iff {a b : Nat} (h : Nat.ble a b = true) : a ≤ b := Nat.le_of_ble_eq_true h
theorem Nat.beq_iff {a b : Nat} (h : Nat.beq a b = true) : a = b := Nat.eq_of_beq_eq_true h

/-- What can be read abstractly lies in the world's row. -/
theorem R.cut (h : R B gl φ A w) {b : Nat} {k : Blk} (hk : A.blk b = some k) {s : Option Nat} {o n : Nat} {l : List Value} (hl : k.cut s o n = some l) :
    ∃ pb c' T fz, φ b s = some pb ∧ w.heap[pb.r]? = some (.cells c' T fz) ∧ o + n ≤ c'.size ∧ VRs φ l ((c'.toList.drop o).take n) ∧ l.length = n ∧ pb.e = k.e ∧ pb.n = c'.size := by
  have hor := h.obj _ _ (AH.blk_some hk)
  unfold Blk.cut at hl
  split at hl
  case h_2 => cases hl
  rename_i lim hlim
  cases hb : Nat.ble (o + n) lim with
  | false => rw [hb] at hl; cases hl
  | true =>
    rw [hb] at hl
    simp only [cond_true, Option.some.injEq] at hl
    have hle := Nat.ble_iff hb
    unfold Blk.lim at hlim
    simp only [OR] at hor
    cases s with
    | none =>
      cases hg : k.g with
      | some G => simp [hg] at hlim
      | none =>
        simp only [hg, Option.some.injEq] at hlim hor
        obtain ⟨pb, c', T, fz, h1, h2, h3, h4, h5, h6⟩ := hor
        have hsz : k.c.length = c'.size := by simpa using h3.1
        refine ⟨pb, c', T, fz, h1, h2, by omega, ?_, ?_, h5, h4⟩
        · rw [← hl]; exact (h3.drop o).take n
        · rw [← hl]; simp; omega
    | some γ =>
      cases hg : k.g with
      | none => simp [hg] at hlim
      | some G =>
        simp only [hg] at hlim hor
        have key : ∃ lim', lim = lim' ∧ k.m ≤ γ ∧ γ ≤ G ∧ (lim' = if γ = G then k.c.length else k.p) ∧ lim' ≤ k.c.length := by
          cases hq : Nat.beq γ G with
          | true =>
            have e := Nat.beq_iff hq
            rw [hq] at hlim
            simp only [cond_true, Option.some.injEq] at hlim
            exact ⟨lim, rfl, by rw [e]; exact hor.1, by omega, by rw [if_pos e]; exact hlim.symm, by omega⟩
          | false =>
            rw [hq] at hlim
            simp only [cond_false] at hlim
            cases hc : (Nat.ble k.m γ && Nat.ble γ G) with
            | false => rw [hc] at hlim; cases hlim
            | true =>
              rw [hc] at hlim
              simp only [cond_true, Option.some.injEq] at hlim
              rw [Bool.and_eq_true] at hc
              have hne : γ ≠ G := fun e => by rw [e] at hq; simp at hq
              exact ⟨lim, rfl, Nat.ble_iff hc.1, Nat.ble_iff hc.2, by rw [if_neg hne]; exact hlim.symm, by rw [← hlim]; exact hor.2.1⟩
        obtain ⟨lim', e1, hm, hG, hlim', hlc⟩ := key
        subst e1
        obtain ⟨pb, c', T, a1, a2, a3, a4, a5⟩ := hor.2.2 γ hm hG
        have hall : ∀ i v, i < lim → k.c[i]? = some v → ∃ v', c'[i]? = some v' ∧ VR φ v v' := by
          intro i v hi hv
          refine a5 i v ?_ hv
          rw [hlim'] at hi
          split
          · rename_i e; rwa [if_pos e] at hi
          · rename_i e; rwa [if_neg e] at hi
        have hsz : n = 0 ∨ o + n ≤ c'.size := by
          rcases Nat.eq_zero_or_pos n with h0 | hp
          · exact .inl h0
          · right
            obtain ⟨v', hv', _⟩ := hall (o + n - 1) (k.c[o + n - 1]'(by omega)) (by omega) (List.getElem?_eq_getElem _)
            rcases Nat.lt_or_ge (o + n - 1) c'.size with h' | h'
            · omega
            · rw [Array.getElem?_eq_none h'] at hv'; cases hv'
        have hoff : o ≤ c'.size := by
          rcases Nat.eq_zero_or_pos o with h0 | hp
          · omega
          · obtain ⟨v', hv', _⟩ := hall (o - 1) (k.c[o - 1]'(by omega)) (by omega) (List.getElem?_eq_getElem _)
            rcases Nat.lt_or_ge (o - 1) c'.size with h' | h'
            · omega
            · rw [Array.getElem?_eq_none h'] at hv'; cases hv'
        have hfull : o + n ≤ c'.size := by rcases hsz with h0 | h0 <;> omega
        refine ⟨pb, c', T, (0, 0), a1, a2, hfull, ?_, ?_, a4, a3⟩
        · rw [← hl]
          refine ⟨by simp; omega, fun i v v' hv hv' => ?_⟩
          rw [List.getElem?_take] at hv hv'
          split at hv
          · rename_i hi
            rw [if_pos hi, List.getElem?_drop] at hv'
            rw [List.getElem?_drop] at hv
            obtain ⟨u, hu, hr⟩ := hall (o + i) v (by omega) hv
            rw [Array.getElem?_toList] at hv'
            rw [hu] at hv'
            cases hv'
            exact hr
          · cases hv
        · rw [← hl]; simp; omega

theorem R.ald (h : R B gl φ A w) {b o : Nat} {s : Option Nat} {n : Nat} {l : List Value} (hl : Zh.ald A b o s n = some l) :
    ∃ pb l', φ b s = some pb ∧ (∀ P : Program, (loadCells ⟨pb.r, o, none⟩ n).run P w = .ok l'.toArray w) ∧ VRs φ l l' ∧ l.length = n ∧
      (∀ i v', l'[i]? = some v' → w.cell? ⟨pb.r, o + i, none⟩ = some v') := by
  unfold Zh.ald at hl
  split at hl
  case h_2 => cases hl
  rename_i k hk
  obtain ⟨pb, c', T, fz, h1, h2, h3, h4, h5, h6, h7⟩ := h.cut hk hl
  refine ⟨pb, _, h1, fun P => run_loadCells_row h2 h3, h4, h5, fun i v' hv => ?_⟩
  rw [cell?_of_row h2]
  rw [List.getElem?_take] at hv
  split at hv
  · rw [List.getElem?_drop] at hv; simpa using hv
  · cases hv

/-! ### store -/
def Blk.put (k : Blk) (c : List Value) : Blk :=
  match k.g with
  | none => { k with c := c }
  | some G => { k with c := c, m := G, p := c.length }

def sameTime : Option Nat → Option Nat → Bool
  | none, none => true
  | some a, some b => Nat.beq a b
  | _, _ => false
theorem sameTime_eq {a b : Option Nat} (h : sameTime a b = true) : a = b := by
  cases a <;> cases b <;> simp [sameTime] at h ⊢
  exact h

def ones : List Value → Bool
  | [] => true
  | v :: l => match v with
    | .agg _ => false
    | .tuple _ => false
    | _ => ones l
theorem ones_spec : ∀ {l : List Value}, ones l = true → ∀ v, v ∈ l → v.oneCell' = true
  | [], _, v, hv => by simp at hv
  | x :: l, h, v, hv => by
    have hx : x.oneCell' = true ∧ ones l = true := by
      cases x <;> simp [ones, Value.oneCell'] at h ⊢ <;> exact h
    rcases List.mem_cons.1 hv with rfl | hv
    · exact hx.1
    · exact ones_spec hx.2 v hv

def Blk.putF (q : Blk) (c : List Value) : Blk :=
  match q with
  | ⟨_, e, none, m, p, own⟩ => ⟨c, e, none, m, p, own⟩
  | ⟨_, e, some G, _, _, own⟩ => ⟨c, e, some G, G, c.length, own⟩
theorem Blk.putF_eq (q : Blk) (c : List Value) : q.putF c = q.put c := by
  obtain ⟨c0, e, g, m, p, own⟩ := q
  cases g <;> rfl

/-- Cells are written. -/
noncomputable def ast (A : AH) (b o : Nat) (s : Option Nat) (vs : List Value) (k : AH → Option β) : Option β :=
  A.blkK b fun q => match q.own && sameTime s q.g && lenGe q.c (Nat.add o vs.length) && ones vs with
    | true => spR q.c o vs fun c => Tr.putK A.t b (.cells (q.putF c)) fun t => k ⟨t, A.next⟩
    | false => none

theorem VR.one {v v' : Value} (h : VR φ v v') : v'.oneCell' = v.oneCell' := by cases h <;> rfl

theorem VRs.ones {l l' : List Value} (h : VRs φ l l') (ho : ones l = true) : ∀ v, v ∈ l' → v.oneCell' = true := by
  intro v hv
  obtain ⟨i, hi⟩ := List.mem_iff_getElem?.1 hv
  obtain ⟨u, hu, hr⟩ := h.get' hi
  rw [hr.one]
  exact ones_spec ho u (List.mem_iff_getElem?.2 ⟨i, hu⟩)

/-- The row behind an address at which one may write. -/
theorem R.row (h : R B gl φ A w) {b : Nat} {q : Blk} (hk : A.blk b = some q) (ho : q.own = true) :
    ∃ pb c' T, φ b q.g = some pb ∧ w.heap[pb.r]? = some (.cells c' T (0, 0)) ∧ q.c.length ≤ c'.size ∧ pb.n = c'.size ∧ pb.e = q.e ∧
      (q.g = none → VRs φ q.c c'.toList) ∧ (∀ (i : Nat) (v : Value), q.c[i]? = some v → ∃ v', c'[i]? = some v' ∧ VR φ v v') := by
  have hor := h.obj _ _ (AH.blk_some hk)
  simp only [OR] at hor
  cases hg : q.g with
  | none =>
    simp only [hg] at hor
    obtain ⟨pb, c', T, fz, h1, h2, h3, h4, h5, h6⟩ := hor
    rw [h6 ho] at h2
    exact ⟨pb, c', T, h1, h2, by have := h3.1; simp at this; omega, h4, h5, fun _ => h3, fun i v hv => by obtain ⟨v', e, r⟩ := h3.get hv; exact ⟨v', by simpa using e, r⟩⟩
  | some G =>
    simp only [hg] at hor
    obtain ⟨pb, c', T, a1, a2, a3, a4, a5⟩ := hor.2.2 G hor.1 (Nat.le_refl _)
    have hall : ∀ i v, q.c[i]? = some v → ∃ v', c'[i]? = some v' ∧ VR φ v v' := fun i v hv => a5 i v (by
      rw [if_pos rfl]
      rcases Nat.lt_or_ge i q.c.length with h' | h'
      · exact h'
      · rw [List.getElem?_eq_none h'] at hv; cases hv) hv
    refine ⟨pb, c', T, a1, a2, ?_, a3, a4, (fun e => by cases e), hall⟩
    rcases Nat.eq_zero_or_pos q.c.length with h0 | hp
    · omega
    · obtain ⟨v', hv', _⟩ := hall (q.c.length - 1) (q.c[q.c.length - 1]'(by omega)) (List.getElem?_eq_getElem _)
      rcases Nat.lt_or_ge (q.c.length - 1) c'.size with h' | h'
      · omega
      · rw [Array.getElem?_eq_none h'] at hv'; cases hv'

theorem R.ast (h : R B gl φ A w) {b o : Nat} {s : Option Nat} {vs vs' : List Value} {k : AH → Option β} {r : β} (hst : Zh.ast A b o s vs k = some r) (hv : VRs φ vs vs') :
    ∃ A' pb w', k A' = some r ∧ φ b s = some pb ∧ (∀ P : Program, ∃ w', (storeCells ⟨pb.r, o, none⟩ vs').run P w = .ok () w' ∧ R B gl φ A' w' ∧ Below B w w') ∧ w' = w := by
  unfold Zh.ast at hst
  rw [AH.blkK_eq] at hst
  split at hst
  case h_2 => cases hst
  rename_i q hq
  rw [lenGe_eq] at hst
  cases hc : (q.own && sameTime s q.g && Nat.ble (Nat.add o vs.length) q.c.length && ones vs) with
  | false => rw [hc] at hst; cases hst
  | true =>
    rw [hc] at hst
    simp only [Bool.and_eq_true] at hc
    obtain ⟨⟨⟨ho, hs⟩, hle⟩, hone⟩ := hc
    have hs := sameTime_eq hs
    have hle := Nat.ble_iff hle
    have hle : o + vs.length ≤ q.c.length := hle
    dsimp only at hst
    rw [spR_eq, spK_eq _ _ _ _ hle, Tr.putK_eq, Blk.putF_eq] at hst
    obtain ⟨pb, c', T, hpb, hrow, hlen, hn, he, hex, hall⟩ := h.row hq ho
    refine ⟨_, pb, w, hst, by rw [hs]; exact hpb, fun P => ?_, rfl⟩
    obtain ⟨w', c2, hrun, hbut, hrow2, hc2⟩ := run_storeCells (P := P) vs' w pb.r o 0 c' T hrow (hv.ones hone) (by rw [← hv.1]; omega)
    have hsz2 : c2.size = c'.size := by
      have : c2.toList.length = c'.toList.length := by rw [hc2]; exact splice_length (by rw [← hv.1]; simp; omega)
      simpa using this
    have hor : OR φ w' b (.cells (q.put (splice q.c o vs))) := by
      cases hg : q.g with
      | none =>
        simp only [Blk.put, hg, OR]
        rw [hg] at hpb
        exact ⟨pb, c2, T, (0, 0), hpb, hrow2, by rw [hc2]; simpa using (hex hg).splice hv o, by rw [hn, hsz2], he, fun _ => rfl⟩
      | some G =>
        simp only [Blk.put, hg, OR]
        rw [hg] at hpb
        refine ⟨Nat.le_refl _, Nat.le_refl _, fun γ h1 h2 => ?_⟩
        have hγ : γ = G := by omega
        subst hγ
        refine ⟨pb, c2, T, hpb, hrow2, by rw [hn, hsz2], he, fun i v hi hv' => ?_⟩
        rw [splice_get hle] at hv'
        have hget : c2[i]? = (splice c'.toList o vs')[i]? := by rw [← Array.getElem?_toList, hc2, Nat.add_zero]
        rw [hget, splice_get (by rw [← hv.1]; simp; omega), ← hv.1]
        by_cases h1 : i < o
        · rw [if_pos h1] at hv' ⊢; simpa using hall i v hv'
        · rw [if_neg h1] at hv' ⊢
          by_cases h2 : i < o + vs.length
          · rw [if_pos h2] at hv' ⊢; exact hv.get hv'
          · rw [if_neg h2] at hv' ⊢; simpa using hall i v hv'
    obtain ⟨hR, hB⟩ := h.turn (o' := .cells (q.put (splice q.c o vs))) (AH.blk_some hq) ho hpb hbut hor (fun q' G γ e hg hγ => by
      cases e
      refine h.gens b q G γ (AH.blk_some hq) ?_ hγ
      unfold Blk.put at hg
      split at hg <;> simp_all) (fun q' e => by
      cases e
      refine ⟨q, rfl, ?_⟩
      unfold Blk.put
      split <;> rfl)
    exact ⟨w', hrun, hR, hB⟩

/-! ### a new row -/
noncomputable def anew (A : AH) (q : Blk) (k : Nat → AH → Option β) : Option β :=
  natK (A.next + 1) fun n => Tr.putK A.t A.next (.cells q) fun t => k A.next ⟨t, n⟩

/-- A row of one's own whose capacity is known. -/
def plainBlk (c : List Value) (e : Nat) : Blk := { c, e, g := none, m := 0, p := 0, own := true }

theorem R.anew (h : R B gl φ A w) {c : List Value} {e : Nat} {c' : Array Value} {T : TypeId} {k : Nat → AH → Option β} {r : β} (hk : Zh.anew A (plainBlk c e) k = some r) (hv : VRs φ c c'.toList) :
    ∃ b A' ψ, k b A' = some r ∧ Ext φ ψ ∧ R B gl ψ A' (w.alloc (.cells c' T)) ∧ ψ b none = some ⟨w.heap.size, c'.size, e⟩ ∧ Below B w (w.alloc (.cells c' T)) := by
  unfold Zh.anew at hk
  rw [natK_eq, Tr.putK_eq] at hk
  obtain ⟨hx, hR⟩ := h.new (.cells (plainBlk c e)) (.cells c' T) none c'.size e (by
    simp only [OR, plainBlk]
    refine ⟨_, c', T, (0, 0), Phi.put_same _ _ _, ?_, hv.ext (Phi.put_ext (h.unmapped _)), rfl, rfl, fun _ => rfl⟩
    show (w.heap.push _)[w.heap.size]? = _
    simp) (fun q G γ e hg hγ => by cases e; cases hg) (fun q e => by cases e; rfl)
  exact ⟨A.next, _, _, hk, hx, hR, Phi.put_same _ _ _, (Below.refl _ _).alloc h.base _⟩

/-- A row of one's own that may be grown. -/
def growBlk (c : List Value) (e : Nat) : Blk := { c, e, g := some 0, m := 0, p := c.length, own := true }

theorem R.anewGrow (h : R B gl φ A w) {c rest : List Value} {e : Nat} {c' : Array Value} {T : TypeId} {k : Nat → AH → Option β} {r : β} (hk : Zh.anew A (growBlk c e) k = some r)
    {l : List Value} (hv : VRs φ c l) (hc' : c'.toList = l ++ rest) :
    ∃ b A' ψ, k b A' = some r ∧ Ext φ ψ ∧ R B gl ψ A' (w.alloc (.cells c' T)) ∧ ψ b (some 0) = some ⟨w.heap.size, c'.size, e⟩ ∧ Below B w (w.alloc (.cells c' T)) := by
  unfold Zh.anew at hk
  rw [natK_eq, Tr.putK_eq] at hk
  obtain ⟨hx, hR⟩ := h.new (.cells (growBlk c e)) (.cells c' T) (some 0) c'.size e (by
    simp only [OR, growBlk]
    refine ⟨Nat.le_refl _, Nat.le_refl _, fun γ h1 h2 => ?_⟩
    have hγ : γ = 0 := by omega
    subst hγ
    refine ⟨_, c', T, Phi.put_same _ _ _, ?_, rfl, rfl, fun i v hi hv' => ?_⟩
    · show (w.heap.push _)[w.heap.size]? = _
      simp
    · rw [if_pos rfl] at hi
      obtain ⟨v', e', hr⟩ := hv.get hv'
      refine ⟨v', ?_, hr.ext (Phi.put_ext (h.unmapped _))⟩
      rw [← Array.getElem?_toList, hc', List.getElem?_append_left (by rw [← hv.1]; exact hi)]
      exact e') (fun q G γ e hg hγ => by cases e; cases hg; intro e; cases e; omega) (fun q e => by cases e; rfl)
  exact ⟨A.next, _, _, hk, hx, hR, Phi.put_same _ _ _, (Below.refl _ _).alloc h.base _⟩

end Go.Zh
