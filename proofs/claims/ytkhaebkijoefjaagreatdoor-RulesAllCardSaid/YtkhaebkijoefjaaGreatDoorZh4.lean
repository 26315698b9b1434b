/- Zh4: append, abstractly and in the world: whether the row is grown in its place or copied, the abstract machine says the same. -/
import Derived.Test.YtkhaebkijoefjaaGreatDoorZh3
namespace Go.Zh
open Go.RowKit
set_option linter.unusedVariables false

variable {B : Nat} {gl : List Nat} {φ : Phi} {A : AH} {w w' : World} {P : Program} {β : Type}

/-! ### the world's side -/
theorem run_append_place {t xt ty e : TypeId} {i : TypeInfo} {d : TypeDesc} (ht : P.underlying t = some (.slice e)) (hi : P.info? e = some i) (hx : P.underlying xt = some d)
    (hd : ∀ k, d ≠ .int k) {x : Value} {n : Nat} {news : Array Value} (hn : (Builtin.lenOf x).run P w = .ok n w) (hf : (Builtin.firstCells i.size n x).run P w = .ok news w)
    {base : Option Addr} {sLen sCap : Nat} (hc : sLen + n ≤ sCap) :
    (Builtin.append_ #[t, xt] ty #[.slice base sLen sCap, x]).run P w =
      match base with
      | some a => ((storeCells (a.add (sLen * i.size)) news.toList).run P w).andThen fun _ w' => .ok (.slice base (sLen + n) sCap) w'
      | none => .ok (.slice none (sLen + n) sCap) w := by
  cases base with
  | none => simp [Builtin.append_, run_underlying ht, run_underlying hx, sizeOf, typeInfo, hi, hn, hf, hc]
  | some a => simp [Builtin.append_, run_underlying ht, run_underlying hx, sizeOf, typeInfo, hi, hn, hf, hc]

theorem run_append_new {t xt ty e : TypeId} {i : TypeInfo} {z : Value} {d : TypeDesc} (ht : P.underlying t = some (.slice e)) (hi : P.info? e = some i) (hzv : i.zero = some z)
    (hx : P.underlying xt = some d) (hd : ∀ k, d ≠ .int k) {x : Value} {n : Nat} {news olds : Array Value} (hn : (Builtin.lenOf x).run P w = .ok n w)
    (hf : (Builtin.firstCells i.size n x).run P w.drew = .ok news w.drew) {base : Option Addr} {sLen sCap : Nat}
    (ho : (Builtin.firstCells i.size sLen (.slice base sLen sCap)).run P w.drew = .ok olds w.drew) (hc : sCap < sLen + n) (h62 : sLen + n ≤ 4611686018427387904)
    (h47 : (sLen + n) * i.bytes ≤ 140737488355328) :
    ∃ newCap rest, sLen + n ≤ newCap ∧ rest = Builtin.zeroCells z.cells (newCap - (sLen + n)) ∧ (Builtin.append_ #[t, xt] ty #[.slice base sLen sCap, x]).run P w =
      .ok (.slice (some ⟨w.heap.size, 0, none⟩) (sLen + n) newCap) (w.drew.alloc (.cells (olds ++ news ++ rest) e)) := by
  have h1 : ¬ (sLen + n ≤ sCap) := by omega
  have h63 : ¬ (9223372036854775807 < ((sLen : Int) + (n : Int))) := by omega
  have h48 : ¬ (281474976710656 < Builtin.nextslicecap (sLen + n) sCap * i.bytes) := by have := growslice_fits hc h47; omega
  refine ⟨grownCap w (sLen + n) sCap e, _, ?_, rfl, ?_⟩
  · unfold grownCap Question.cut
    simp
  · simp [Builtin.append_, run_underlying ht, run_underlying hx, sizeOf, typeInfo, zeroValue, hi, hzv, hn, hf, ho, h1, h63, h48, Question.forced, newRow, grownCap]

/-! ### the abstract side -/
/-- What is appended. -/
def anews (A : AH) (e : Nat) : Value → Option (Nat × List Value)
  | .slice none _ _ => some (0, [])
  | .slice (some a) n _ => (ald A a.block a.off a.spot (n * e)).map fun l => (n, l)
  | _ => none

def fits (need bytes : Nat) : Bool := Nat.ble (need * bytes) 140737488355328 && Nat.ble need 4611686018427387904

/-- A row of one's own, by copying. -/
noncomputable def acopy (A : AH) (e bytes need : Nat) (c : List Value) (k : Value → AH → Option β) : Option β :=
  bif fits need bytes then anew A (growBlk c e) fun b A => k (.slice (some ⟨b, 0, some 0⟩) need (2 * need)) A else none

/-- The row is grown where it ends, or cut and grown: it may stay in its place, it may be copied. -/
noncomputable def agrow (A : AH) (b γ e bytes len need : Nat) (news : List Value) (k : Value → AH → Option β) : Option β :=
  match A.blk b with
  | some q => bif fits need bytes && q.own && sameTime q.g (some γ) && Nat.beq q.e e && Nat.ble (len * e) q.c.length && ones news then
      appK (q.c.take (len * e)) news fun c => natK (γ + 1) fun γ' =>
        bif Nat.beq (len * e) q.c.length then
          Tr.putK A.t b (.cells { c, e := q.e, g := some γ', m := q.m, p := q.p, own := true }) fun t => k (.slice (some ⟨b, 0, some γ'⟩) need (2 * need)) ⟨t, A.next⟩
        else
          Tr.putK A.t b (.cells { c, e := q.e, g := some γ', m := γ', p := c.length, own := true }) fun t => k (.slice (some ⟨b, 0, some γ'⟩) need (2 * need)) ⟨t, A.next⟩
    else none
  | none => none

def eOK (A : AH) (b e : Nat) : Bool :=
  match A.blk b with
  | some q => Nat.beq q.e e
  | none => false

noncomputable def aapp (A : AH) (e bytes : Nat) (s : Value) (n : Nat) (news : List Value) (k : Value → AH → Option β) : Option β :=
  match s with
  | .slice none len cap =>
    match len, cap, n with
    | 0, 0, 0 => k (.slice none 0 0) A
    | 0, 0, n + 1 => acopy A e bytes (n + 1) news k
    | _, _, _ => none
  | .slice (some ⟨b, o, none⟩) len cap =>
    natK (len + n) fun need =>
    bif Nat.ble need cap then ast A b (o + len * e) none news fun A => k (.slice (some ⟨b, o, none⟩) need cap) A
    else match ald A b o none (len * e) with
      | some old => appK old news fun c => acopy A e bytes need c k
      | none => none
  | .slice (some ⟨b, o, some γ⟩) len cap =>
    match n with
    | 0 => k (.slice (some ⟨b, o, some γ⟩) len cap) A
    | n + 1 =>
      natK (len + (n + 1)) fun need =>
      bif Nat.beq (cap % 2) 0 then
        bif Nat.ble need (cap / 2) && eOK A b e then ast A b (o + len * e) (some γ) news fun A => k (.slice (some ⟨b, o, some γ⟩) need cap) A
        else match o with
          | 0 => agrow A b γ e bytes len need news k
          | _ + 1 => none
      else
        bif Nat.ble need (cap / 2) then
          bif eOK A b e then ast A b (o + len * e) (some γ) news fun A => k (.slice (some ⟨b, o, some γ⟩) need cap) A else none
        else match ald A b o (some γ) (len * e) with
          | some old => appK old news fun c => acopy A e bytes need c k
          | none => none
  | _ => none

/-! ### they agree -/
/-- What 'append' comes to. -/
def AppOK (B : Nat) (gl : List Nat) (P : Program) (φ : Phi) (w : World) (run : Result Value) (A' : AH) (v : Value) : Prop :=
  ∃ v' w' ψ, run = .ok v' w' ∧ Ext φ ψ ∧ R B gl ψ A' w' ∧ VR ψ v v' ∧ Below B w w'

theorem R.acopy (h : R B gl φ A w) {t xt ty e : TypeId} {i : TypeInfo} {z : Value} {d : TypeDesc} (ht : P.underlying t = some (.slice e)) (hi : P.info? e = some i) (hzv : i.zero = some z)
    (hx : P.underlying xt = some d) (hd : ∀ k, d ≠ .int k) {x : Value} {n : Nat} {news olds : Array Value} (hn : (Builtin.lenOf x).run P w = .ok n w)
    (hf : (Builtin.firstCells i.size n x).run P w.drew = .ok news w.drew) {base : Option Addr} {sLen sCap : Nat}
    (ho : (Builtin.firstCells i.size sLen (.slice base sLen sCap)).run P w.drew = .ok olds w.drew) (hc : sCap < sLen + n)
    {c : List Value} (hv : VRs φ c (olds ++ news).toList) (hcl : (olds ++ news).toList.length = (sLen + n) * i.size) (hzs : z.cells.size = i.size)
    {k : Value → AH → Option β} {r : β} (hk : Zh.acopy A i.size i.bytes (sLen + n) c k = some r) :
    ∃ v A', k v A' = some r ∧ AppOK B gl P φ w ((Builtin.append_ #[t, xt] ty #[.slice base sLen sCap, x]).run P w) A' v := by
  unfold Zh.acopy at hk
  cases hfit : fits (sLen + n) i.bytes with
  | false => rw [hfit] at hk; cases hk
  | true =>
    rw [hfit, cond_true] at hk
    simp only [fits, Bool.and_eq_true] at hfit
    obtain ⟨newCap, rest, hle, hrest, hrun⟩ := run_append_new (ty := ty) ht hi hzv hx hd hn hf ho hc (Nat.ble_iff hfit.2) (Nat.ble_iff hfit.1)
    obtain ⟨b, A', ψ, h1, h2, h3, h4, h5⟩ := h.drew.anewGrow (rest := rest.toList) (c' := olds ++ news ++ rest) (T := e) hk hv (by simp)
    refine ⟨_, _, h1, _, _, ψ, hrun, h2, h3, ?_, (Below.refl _ _).drew.trans h5⟩
    refine VR.slice h4 (.inl rfl) ?_ (fun _ => ⟨hle, ?_⟩)
    · simp only [capOK]
      rw [if_pos (by omega)]; omega
    · have hl : (olds ++ news ++ rest).size = (sLen + n) * i.size + (newCap - (sLen + n)) * i.size := by
        have : (olds ++ news).size = (sLen + n) * i.size := by simpa using hcl
        rw [Array.size_append, this, hrest]
        simp [Builtin.zeroCells, hzs]
      show 0 + newCap * i.size ≤ (olds ++ news ++ rest).size
      rw [hl, ← Nat.add_mul, Nat.zero_add]
      exact Nat.mul_le_mul_right _ (by omega)

theorem R.agrow (h : R B gl φ A w) {t xt ty e : TypeId} {i : TypeInfo} {z : Value} {d : TypeDesc} (ht : P.underlying t = some (.slice e)) (hi : P.info? e = some i) (hzv : i.zero = some z)
    (hx : P.underlying xt = some d) (hd : ∀ k, d ≠ .int k) {x : Value} {n : Nat} {news : Array Value} (hn : ∀ w, (Builtin.lenOf x).run P w = .ok n w)
    (hf : (Builtin.firstCells i.size n x).run P w = .ok news w) (hf2 : (Builtin.firstCells i.size n x).run P w.drew = .ok news w.drew)
    {vs : List Value} (hvs : VRs φ vs news.toList) (hl : vs.length = n * i.size) (hzs : z.cells.size = i.size) (hn0 : 0 < n)
    {b γ len cap cap' : Nat} {base : Option Addr} (hs : VR φ (.slice (some ⟨b, 0, some γ⟩) len cap) (.slice base len cap'))
    {k : Value → AH → Option β} {r : β} (hk : Zh.agrow A b γ i.size i.bytes len (len + n) vs k = some r) :
    ∃ v A', k v A' = some r ∧ AppOK B gl P φ w ((Builtin.append_ #[t, xt] ty #[.slice base len cap', x]).run P w) A' v := by
  unfold Zh.agrow at hk
  split at hk
  case h_2 => cases hk
  rename_i q hq
  cases hc : (fits (len + n) i.bytes && q.own && sameTime q.g (some γ) && Nat.beq q.e i.size && Nat.ble (len * i.size) q.c.length && ones vs) with
  | false => rw [hc] at hk; cases hk
  | true =>
    rw [hc, cond_true, appK_eq, natK_eq] at hk
    simp only [Bool.and_eq_true] at hc
    obtain ⟨⟨⟨⟨⟨hfit, ho⟩, hg⟩, he⟩, hle⟩, hone⟩ := hc
    have hg := sameTime_eq hg
    have he := Nat.beq_iff he
    have hle := Nat.ble_iff hle
    simp only [fits, Bool.and_eq_true] at hfit
    obtain ⟨pb, c', T, hpb, hrow, hlen, hpn, hpe, _, hall⟩ := h.row hq ho
    rw [hg] at hpb
    have hor0 := h.obj _ _ (AH.blk_some hq)
    simp only [OR, hg] at hor0
    obtain ⟨hmγ, hpl, hold⟩ := hor0
    cases hs with
    | slice hφ hoff hcap hlim =>
    rename_i pb0 o'
    rw [hpb] at hφ
    cases hφ
    obtain ⟨hlc, hin⟩ := hlim (by simp)
    -- what is to be shown of the new list
    generalize hC : q.c.take (len * i.size) ++ vs = C at hk
    have hClen : C.length = (len + n) * i.size := by
      rw [← hC, List.length_append, List.length_take, hl, Nat.min_eq_left hle, Nat.add_mul]
    have hCget : ∀ j, j < len * i.size → C[j]? = q.c[j]? := fun j hj => by
      rw [← hC, List.getElem?_append_left (by rw [List.length_take]; omega), List.getElem?_take, if_pos hj]
    have hCnew : ∀ j, len * i.size ≤ j → C[j]? = vs[j - len * i.size]? := fun j hj => by
      rw [← hC, List.getElem?_append_right (by rw [List.length_take]; omega), List.length_take, Nat.min_eq_left hle]
    -- either way: a row pb2 in a world w2 with the right cells
    have main : ∃ (w2 : World) (pb2 : PB) (cap2 : Nat) (c2 : Array Value) (T2 : TypeId), (Builtin.append_ #[t, xt] ty #[.slice (some ⟨pb.r, o', none⟩) len cap', x]).run P w = .ok (.slice (some ⟨pb2.r, 0, none⟩) (len + n) cap2) w2 ∧
        w2.os = w.os ∧ w2.tape = w.tape ∧ w2.output = w.output ∧ w.heap.size ≤ w2.heap.size ∧ (∀ k, k < w.heap.size → k ≠ pb.r → w2.heap[k]? = w.heap[k]?) ∧
        (pb2.r = pb.r ∨ (pb2.r = w.heap.size ∧ w.heap.size < w2.heap.size)) ∧ w2.heap[pb2.r]? = some (.cells c2 T2 (0, 0)) ∧ pb2.n = c2.size ∧ pb2.e = i.size ∧
        (∀ (j : Nat) (v : Value), C[j]? = some v → ∃ v', c2[j]? = some v' ∧ VR φ v v') ∧ len + n ≤ cap2 ∧ cap2 * i.size ≤ c2.size ∧
        (pb2.r ≠ pb.r → w2.heap[pb.r]? = w.heap[pb.r]?) ∧ (pb2.r = pb.r → T2 = T ∧ c2.size = c'.size ∧ ∀ j, j < len * i.size → c2[j]? = c'[j]?) := by
      by_cases hroom : len + n ≤ cap'
      · have ho' : o' = 0 := by
          rcases hoff with h1 | h1
          · exact h1
          · omega
        subst ho'
        have hcells : (len + n) * i.size ≤ c'.size := by
          have h1 : (len + n) * i.size ≤ cap' * i.size := Nat.mul_le_mul_right _ hroom
          rw [hpe, he, hpn] at hin
          omega
        rw [Nat.add_mul] at hcells
        have hnl : news.toList.length = n * i.size := by rw [← hvs.1, hl]
        obtain ⟨w2, c2, hrun, hbut, hrow2, hc2⟩ := run_storeCells (P := P) news.toList w pb.r (len * i.size) 0 c' T hrow (hvs.ones hone) (by omega)
        have hadd : (Addr.add ⟨pb.r, 0, none⟩ (len * i.size)) = ⟨pb.r, len * i.size, none⟩ := by
          unfold Addr.add
          split
          · rename_i h0; rw [h0]
          · simp
        have hsz2 : c2.size = c'.size := by
          have : c2.toList.length = c'.toList.length := by rw [hc2]; exact splice_length (by simp at hnl ⊢; omega)
          simpa using this
        have hget2 : ∀ j, c2[j]? = (splice c'.toList (len * i.size) news.toList)[j]? := fun j => by rw [← Array.getElem?_toList, hc2, Nat.add_zero]
        refine ⟨w2, pb, cap', c2, T, ?_, hbut.os, hbut.tape, hbut.output, by rw [hbut.size]; exact Nat.le_refl _, fun k _ hk => hbut.block k hk, .inl rfl, hrow2, by rw [hpn, hsz2], by rw [hpe, he], ?_, hroom, ?_, fun h => absurd rfl h, fun _ => ⟨rfl, hsz2, fun j hj => ?_⟩⟩
        · rw [run_append_place ht hi hx hd (hn w) hf hroom]
          simp only [hadd, hrun, Result.andThen_ok]
        · intro j v hv
          rw [hget2, splice_get (by simp at hnl ⊢; omega)]
          by_cases h1 : j < len * i.size
          · rw [if_pos h1]
            rw [hCget j h1] at hv
            simpa using hall j v hv
          · rw [if_neg h1]
            rw [hCnew j (by omega)] at hv
            obtain ⟨v', hv', hr'⟩ := hvs.get hv
            have hj : j - len * i.size < news.toList.length := by
              rcases Nat.lt_or_ge (j - len * i.size) news.toList.length with h' | h'
              · exact h'
              · rw [List.getElem?_eq_none h'] at hv'; cases hv'
            rw [if_pos (by omega)]
            exact ⟨v', hv', hr'⟩
        · rw [hsz2]
          rw [hpe, he, hpn] at hin
          omega
        · rw [hget2, splice_get (by simp at hnl ⊢; omega), if_pos hj]
          simp
      · have hload : (Builtin.firstCells i.size len (.slice (some ⟨pb.r, o', none⟩) len cap')).run P w.drew = .ok ((c'.toList.drop 0).take (len * i.size)).toArray w.drew := by
          unfold Builtin.firstCells
          rcases hoff with h1 | h1
          · subst h1
            exact run_loadCells_row (P := P) (w := w.drew) (o := 0) (n := len * i.size) hrow (by omega)
          · rw [h1.2.1]; simp [loadCells, loadCellsFrom]
        obtain ⟨newCap, rest, hcapn, hrest, hrun⟩ := run_append_new (ty := ty) ht hi hzv hx hd (hn w) hf2 hload (by omega) (Nat.ble_iff hfit.2) (Nat.ble_iff hfit.1)
        have hol : (((c'.toList.drop 0).take (len * i.size)).toArray).toList.length = len * i.size := by simp; omega
        have hnl : news.toList.length = n * i.size := by rw [← hvs.1, hl]
        refine ⟨_, ⟨w.heap.size, (((c'.toList.drop 0).take (len * i.size)).toArray ++ news ++ rest).size, i.size⟩, newCap, _, e, hrun, rfl, rfl, rfl, by simp, fun k hk _ => Below.heap_alloc _ _ _ hk, .inr ⟨rfl, by simp⟩, ?_, rfl, rfl, ?_, hcapn, ?_, fun _ => Below.heap_alloc _ _ _ (h.dom _ _ _ hpb).2, fun e => ?_⟩
        · show (w.heap.push _)[w.heap.size]? = _
          simp
        · intro j v hv
          by_cases h1 : j < len * i.size
          · rw [hCget j h1] at hv
            obtain ⟨v', hv', hr'⟩ := hall j v hv
            refine ⟨v', ?_, hr'⟩
            rw [← Array.getElem?_toList, Array.toList_append, Array.toList_append, List.append_assoc, List.getElem?_append_left (by rw [hol]; exact h1)]
            simp [h1]
            simpa using hv'
          · rw [hCnew j (by omega)] at hv
            obtain ⟨v', hv', hr'⟩ := hvs.get hv
            refine ⟨v', ?_, hr'⟩
            have hj : j - len * i.size < news.toList.length := by
              rcases Nat.lt_or_ge (j - len * i.size) news.toList.length with h' | h'
              · exact h'
              · rw [List.getElem?_eq_none h'] at hv'; cases hv'
            rw [← Array.getElem?_toList, Array.toList_append, Array.toList_append, List.append_assoc, List.getElem?_append_right (by rw [hol]; omega), hol, List.getElem?_append_left hj]
            exact hv'
        · have h2 : rest.size = (newCap - (len + n)) * i.size := by rw [hrest]; simp [Builtin.zeroCells, hzs]
          have h3 : (((c'.toList.drop 0).take (len * i.size)).toArray).size = len * i.size := by simpa using hol
          have h4 : news.size = n * i.size := by simpa using hnl
          rw [Array.size_append, Array.size_append, h2, h3, h4, ← Nat.add_mul, ← Nat.add_mul]
          exact Nat.mul_le_mul_right _ (by omega)
        · have := (h.dom _ _ _ hpb).2
          simp at e
          omega
    obtain ⟨w2, pb2, cap2, c2, T2, hrun, hos, htape, hout, hsz, hblk, hr2, hrow2, hn2, he2', hget, hcap2, hfit2, hother, hsame⟩ := main
    have hnew : ∀ ψ : Phi, Ext φ ψ → ∀ (i : Nat) (v : Value), C[i]? = some v → ∃ v', c2[i]? = some v' ∧ VR ψ v v' := fun ψ hψ i v hv => by
      obtain ⟨v', a, b⟩ := hget i v hv; exact ⟨v', a, b.ext hψ⟩
    have hxt : Ext φ (φ.put b (some (γ + 1)) pb2) := Phi.put_ext (h.gens b q γ (γ + 1) (AH.blk_some hq) hg (Nat.lt_succ_self _))
    have hval : VR (φ.put b (some (γ + 1)) pb2) (.slice (some ⟨b, 0, some (γ + 1)⟩) (len + n) (2 * (len + n))) (.slice (some ⟨pb2.r, 0, none⟩) (len + n) cap2) :=
      .slice (Phi.put_same _ _ _) (.inl rfl) (by simp only [capOK]; rw [if_pos (by omega)]; omega) (fun _ => ⟨hcap2, by rw [he2', hn2]; omega⟩)
    cases hfr : Nat.beq (len * i.size) q.c.length with
    | true =>
      rw [hfr, cond_true, Tr.putK_eq] at hk
      have hfr := Nat.beq_iff hfr
      obtain ⟨h1, h2, h3⟩ := h.regen (q2 := { c := C, e := q.e, g := some (γ + 1), m := q.m, p := q.p, own := true }) (AH.blk_some hq) ho hg hpb rfl rfl (by rw [he2', he]) hos htape hout hsz hblk hr2 (by
        simp only [OR]
        refine ⟨by omega, by rw [hClen, Nat.add_mul]; omega, fun γ' h1 h2 => ?_⟩
        by_cases e1 : γ' = γ + 1
        · subst e1
          exact ⟨pb2, c2, T2, Phi.put_same _ _ _, hrow2, hn2, by rw [he2', he], fun i v _ hv => hnew _ hxt i v hv⟩
        · obtain ⟨pb3, c3, T3, a1, a2, a3, a4, a5⟩ := hold γ' h1 (by omega)
          have hd3 := (h.dom _ _ _ a1).2
          have a5' : ∀ (j : Nat) (v : Value), j < q.p → q.c[j]? = some v → ∃ v', c3[j]? = some v' ∧ VR φ v v' := fun j v hj hv => a5 j v (by split <;> omega) hv
          have hjc : ∀ (j : Nat) (v : Value), j < q.p → C[j]? = some v → q.c[j]? = some v := fun j v hj hv => by rwa [hCget j (by omega)] at hv
          by_cases e2 : pb3.r = pb.r
          · by_cases e3 : pb2.r = pb.r
            · obtain ⟨s1, s2, s3⟩ := hsame e3
              have hc3 : c3 = c' ∧ T3 = T := by
                rw [e2, hrow] at a2; cases a2; exact ⟨rfl, rfl⟩
              refine ⟨pb3, c2, T, hxt _ _ _ a1, by rw [e2, ← e3, hrow2, s1], by rw [a3, hc3.1, s2], a4, fun j v hj hv => ?_⟩
              rw [if_neg e1] at hj
              obtain ⟨v', b1, b2⟩ := a5' j v hj (hjc j v hj hv)
              exact ⟨v', by rw [s3 j (by omega), ← hc3.1]; exact b1, b2.ext hxt⟩
            · refine ⟨pb3, c3, T3, hxt _ _ _ a1, by rw [e2, hother e3, ← e2]; exact a2, a3, a4, fun j v hj hv => ?_⟩
              rw [if_neg e1] at hj
              obtain ⟨v', b1, b2⟩ := a5' j v hj (hjc j v hj hv)
              exact ⟨v', b1, b2.ext hxt⟩
          · refine ⟨pb3, c3, T3, hxt _ _ _ a1, by rw [hblk _ hd3 e2]; exact a2, a3, a4, fun j v hj hv => ?_⟩
            rw [if_neg e1] at hj
            obtain ⟨v', b1, b2⟩ := a5' j v hj (hjc j v hj hv)
            exact ⟨v', b1, b2.ext hxt⟩)
      exact ⟨_, _, hk, _, _, _, hrun, h1, h2, hval, h3⟩
    | false =>
      rw [hfr, cond_false, Tr.putK_eq] at hk
      obtain ⟨h1, h2, h3⟩ := h.regen (q2 := { c := C, e := q.e, g := some (γ + 1), m := γ + 1, p := C.length, own := true }) (AH.blk_some hq) ho hg hpb rfl rfl (by rw [he2', he]) hos htape hout hsz hblk hr2 (by
        simp only [OR]
        refine ⟨Nat.le_refl _, Nat.le_refl _, fun γ' h1 h2 => ?_⟩
        have e1 : γ' = γ + 1 := by omega
        subst e1
        exact ⟨pb2, c2, T2, Phi.put_same _ _ _, hrow2, hn2, by rw [he2', he], fun i v _ hv => hnew _ hxt i v hv⟩)
      exact ⟨_, _, hk, _, _, _, hrun, h1, h2, hval, h3⟩

theorem addr_add (r o n : Nat) : (Addr.add ⟨r, o, none⟩ n) = ⟨r, o + n, none⟩ := by
  unfold Addr.add
  split
  · rename_i h0; rw [h0]; rfl
  · rfl

theorem R.news (h : R B gl φ A w) {e n : Nat} {x x' : Value} {vs : List Value} (hx : VR φ x x') (hn : anews A e x = some (n, vs)) :
    ∃ news : Array Value, VRs φ vs news.toList ∧ vs.length = n * e ∧ (∀ (P : Program) w, (Builtin.lenOf x').run P w = .ok n w) ∧ (∀ P : Program, (Builtin.firstCells e n x').run P w = .ok news w) ∧
      (∀ P : Program, (Builtin.firstCells e n x').run P w.drew = .ok news w.drew) := by
  unfold anews at hn
  split at hn
  · cases hn
    cases hx
    exact ⟨#[], VRs.nil _, by simp, fun P w => rfl, fun P => rfl, fun P => rfl⟩
  · rename_i a n' cap
    obtain ⟨b, o, s⟩ := a
    dsimp only at hn
    cases hl : Zh.ald A b o s (n' * e) with
    | none => rw [hl] at hn; cases hn
    | some l =>
      rw [hl] at hn
      cases hn
      obtain ⟨pb, l', h1, h2, h3, h4, _⟩ := h.ald hl
      obtain ⟨pb2, l2, k1, k2, k3, k4, _⟩ := h.drew.ald hl
      cases hx with
      | slice hφ hoff hcap hlim =>
      rename_i pb0 o' cap'
      rw [hφ] at h1 k1
      cases h1
      cases k1
      rcases hoff with e1 | e1
      · subst e1
        refine ⟨l'.toArray, by simpa using h3, h4, fun P w => rfl, fun P => h2 P, fun P => ?_⟩
        have := k2 P
        have e2 : l2 = l' := by
          have a1 := k2 P
          have hor := h2 P
          have hq : Zh.ald A b o' s (n * e) = some vs := hl
          unfold Zh.ald at hq
          split at hq
          case h_2 => cases hq
          rename_i q hb
          obtain ⟨pb3, c3, T3, fz, m1, m2, m3, _⟩ := h.cut hb hq
          rw [hφ] at m1
          cases m1
          rw [run_loadCells_row (P := P) m2 m3] at hor
          rw [run_loadCells_row (P := P) (w := w.drew) m2 m3] at a1
          have q1 := congrArg Array.toList (Result.ok.inj hor).1
          have q2 := congrArg Array.toList (Result.ok.inj a1).1
          simp only at q1 q2
          rw [← q1, ← q2]
        rw [e2] at this
        exact this
      · have hn0 : n = 0 := e1.2.1
        subst hn0
        have : vs = [] := List.eq_nil_of_length_eq_zero (by rw [h4]; simp)
        subst this
        exact ⟨#[], VRs.nil _, by simp, fun P w => rfl, fun P => by simp [Builtin.firstCells, loadCells, loadCellsFrom], fun P => by simp [Builtin.firstCells, loadCells, loadCellsFrom]⟩
  · cases hn

theorem R.app (h : R B gl φ A w) {t xt ty e : TypeId} {i : TypeInfo} {z : Value} {d : TypeDesc} (ht : P.underlying t = some (.slice e)) (hi : P.info? e = some i) (hzv : i.zero = some z)
    (hx : P.underlying xt = some d) (hd : ∀ k, d ≠ .int k) (hzs : z.cells.size = i.size) {x x' s s' : Value} (hxr : VR φ x x') {n : Nat} {vs : List Value}
    (hnews : anews A i.size x = some (n, vs)) (hs : VR φ s s') {k : Value → AH → Option β} {r : β} (hk : aapp A i.size i.bytes s n vs k = some r) :
    ∃ v A', k v A' = some r ∧ AppOK B gl P φ w ((Builtin.append_ #[t, xt] ty #[s', x']).run P w) A' v := by
  obtain ⟨news, hvs, hl, hlen, hf, hf2⟩ := h.news hxr hnews
  unfold aapp at hk
  split at hk
  · -- nil
    rename_i len cap
    cases hs
    split at hk
    · refine ⟨_, _, hk, _, _, _, ?_, Ext.refl _, h, .sliceNil, Below.refl _ _⟩
      rw [run_append_place ht hi hx hd (hlen P w) (hf P) (Nat.le_refl _)]
    · rename_i n
      refine h.acopy ht hi hzv hx hd (hlen P w) (hf2 P) (olds := #[]) (by simp [Builtin.firstCells]) (by omega) (by simpa using hvs) ?_ hzs (by simpa using hk)
      simp
      rw [← Array.length_toList, ← hvs.1, hl]
    · cases hk
  · -- a known capacity
    rename_i b o len cap
    cases hs with
    | slice hφ hoff hcap hlim =>
    rename_i pb o' cap'
    have ho : o' = o := by
      rcases hoff with e1 | e1
      · exact e1
      · exact absurd rfl e1.1
    subst ho
    simp only [capOK] at hcap
    subst hcap
    rw [natK_eq] at hk
    cases hroom : Nat.ble (len + n) cap' with
    | true =>
      rw [hroom, cond_true] at hk
      have hroom := Nat.ble_iff hroom
      obtain ⟨A', pb', _, hk', hφ', hrun, _⟩ := h.ast hk hvs
      rw [hφ] at hφ'
      cases hφ'
      obtain ⟨w2, hrun, hR, hB⟩ := hrun P
      refine ⟨_, _, hk', _, w2, φ, ?_, Ext.refl _, hR, .slice hφ (.inl rfl) rfl (fun e => absurd rfl e), hB⟩
      rw [run_append_place ht hi hx hd (hlen P w) (hf P) hroom]
      simp only [addr_add, hrun, Result.andThen_ok]
    | false =>
      rw [hroom, cond_false] at hk
      split at hk
      case h_2 => cases hk
      rename_i old hold
      rw [appK_eq] at hk
      obtain ⟨pb2, l2, k1, k2, k3, k4, _⟩ := h.drew.ald hold
      rw [hφ] at k1
      cases k1
      refine h.acopy ht hi hzv hx hd (hlen P w) (hf2 P) (olds := l2.toArray) (base := some ⟨pb.r, o', none⟩) (sCap := cap') (k2 P) ?_ (by simpa using k3.append hvs) ?_ hzs hk
      · rcases Nat.lt_or_ge cap' (len + n) with h' | h'
        · exact h'
        · rw [Nat.ble_eq_true_of_le h'] at hroom; cases hroom
      · simp
        rw [← k3.1, k4, ← Array.length_toList, ← hvs.1, hl, Nat.add_mul]
  · -- a capacity that hangs on the tape
    rename_i b o γ len cap
    split at hk
    · refine ⟨_, _, hk, ?_⟩
      cases hs with
      | slice hφ hoff hcap hlim =>
      rename_i pb o' cap'
      have hnil : news.toList = [] := List.eq_nil_of_length_eq_zero (by rw [← hvs.1, hl]; simp)
      have hlc := (hlim (by simp)).1
      refine ⟨_, w, φ, ?_, Ext.refl _, h, .slice hφ hoff hcap hlim, Below.refl _ _⟩
      rw [run_append_place ht hi hx hd (hlen P w) (hf P) (by omega)]
      simp [hnil, storeCells]
    · rename_i n
      rw [natK_eq] at hk
      cases hpar : Nat.beq (cap % 2) 0 with
      | true =>
        rw [hpar, cond_true] at hk
        have hpar := Nat.beq_iff hpar
        cases hroom : (Nat.ble (len + (n + 1)) (cap / 2) && eOK A b i.size) with
        | true =>
          rw [hroom, cond_true] at hk
          rw [Bool.and_eq_true] at hroom
          have hroom := Nat.ble_iff hroom.1
          cases hs with
          | slice hφ hoff hcap hlim =>
          rename_i pb o' cap'
          simp only [capOK] at hcap
          rw [if_pos hpar] at hcap
          have ho : o' = o := by
            rcases hoff with e1 | e1
            · exact e1
            · have := e1.2; omega
          subst ho
          obtain ⟨A', pb', _, hk', hφ', hrun, _⟩ := h.ast hk hvs
          rw [hφ] at hφ'
          cases hφ'
          obtain ⟨w2, hrun, hR, hB⟩ := hrun P
          refine ⟨_, _, hk', _, w2, φ, ?_, Ext.refl _, hR, .slice (cap' := cap') hφ (.inl rfl) (by simp only [capOK]; rw [if_pos hpar]; exact hcap) (fun e => ⟨by omega, (hlim e).2⟩), hB⟩
          rw [run_append_place ht hi hx hd (hlen P w) (hf P) (by omega)]
          simp only [addr_add, hrun, Result.andThen_ok]
        | false =>
          rw [hroom, cond_false] at hk
          split at hk
          · cases hs with
            | slice hφ hoff hcap hlim =>
            exact h.agrow ht hi hzv hx hd (hlen P) (hf P) (hf2 P) hvs hl hzs (by omega) (.slice hφ hoff hcap hlim) hk
          · cases hk
      | false =>
        rw [hpar, cond_false] at hk
        have hpar : ¬ cap % 2 = 0 := fun e => by rw [e] at hpar; simp at hpar
        cases hs with
        | slice hφ hoff hcap hlim =>
        rename_i pb o' cap'
        simp only [capOK] at hcap
        rw [if_neg hpar] at hcap
        cases hroom : Nat.ble (len + (n + 1)) (cap / 2) with
        | true =>
          rw [hroom, cond_true] at hk
          have hroom := Nat.ble_iff hroom
          cases he : eOK A b i.size with
          | false => rw [he] at hk; cases hk
          | true =>
          rw [he, cond_true] at hk
          have ho : o' = o := by
            rcases hoff with e1 | e1
            · exact e1
            · have := e1.2; omega
          subst ho
          obtain ⟨A', pb', _, hk', hφ', hrun, _⟩ := h.ast hk hvs
          rw [hφ] at hφ'
          cases hφ'
          obtain ⟨w2, hrun, hR, hB⟩ := hrun P
          refine ⟨_, _, hk', _, w2, φ, ?_, Ext.refl _, hR, .slice (cap' := cap') hφ (.inl rfl) (by simp only [capOK]; rw [if_neg hpar]; exact hcap) (fun e => ⟨by omega, (hlim e).2⟩), hB⟩
          rw [run_append_place ht hi hx hd (hlen P w) (hf P) (by omega)]
          simp only [addr_add, hrun, Result.andThen_ok]
        | false =>
          rw [hroom, cond_false] at hk
          have hroom : cap / 2 < len + (n + 1) := by
            rcases Nat.lt_or_ge (cap / 2) (len + (n + 1)) with h' | h'
            · exact h'
            · rw [Nat.ble_eq_true_of_le h'] at hroom; cases hroom
          split at hk
          case h_2 => cases hk
          rename_i old hold
          rw [appK_eq] at hk
          obtain ⟨pb2, l2, k1, k2, k3, k4, _⟩ := h.drew.ald hold
          rw [hφ] at k1
          cases k1
          have hload : (Builtin.firstCells i.size len (.slice (some ⟨pb.r, o', none⟩) len cap')).run P w.drew = .ok l2.toArray w.drew := by
            rcases hoff with e1 | e1
            · rw [e1]; exact k2 P
            · have h0 : len = 0 := e1.2.1
              subst h0
              have : l2 = [] := List.eq_nil_of_length_eq_zero (by rw [← k3.1, k4]; simp)
              subst this
              simp [Builtin.firstCells, loadCells, loadCellsFrom]
          refine h.acopy ht hi hzv hx hd (hlen P w) (hf2 P) (olds := l2.toArray) hload (by omega) (by simpa using k3.append hvs) ?_ hzs hk
          simp
          rw [← k3.1, k4, ← Array.length_toList, ← hvs.1, hl, Nat.add_mul]
  · cases hk

end Go.Zh
