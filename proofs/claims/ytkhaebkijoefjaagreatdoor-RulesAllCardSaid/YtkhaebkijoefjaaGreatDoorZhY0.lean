/- ZhY0: what the listed package-level variables lay in memory, for the abstract machine. -/
import Derived.Test.YtkhaebkijoefjaaGreatDoorZhU0
import Derived.Test.YtkhaebkijoefjaaGreatDoorRows
import Derived.ProofKit
import Derived.OpenShut
import Derived.Lib.LaidTab
import Derived.MakeChecks
namespace Go.Zh
open Go.RowKit
set_option linter.unusedVariables false

theorem chunk_flat {α β : Type} (c : Nat) (f : β → List α) : ∀ (zs : List β) (cs : List α), cs.length = zs.length * c → (∀ (i : Nat) z, zs[i]? = some z → (cs.drop (i * c)).take c = f z) → cs = zs.flatMap f
  | [], cs, hl, _ => by
    have : cs.length = 0 := by simpa using hl
    simpa using this
  | z :: zs, cs, hl, h => by
    rw [List.flatMap_cons]
    have h0 := h 0 z rfl
    rw [Nat.zero_mul, List.drop_zero] at h0
    have hl' : (cs.drop c).length = zs.length * c := by
      rw [List.length_drop, hl, List.length_cons, Nat.succ_mul]; omega
    have := chunk_flat c f zs (cs.drop c) hl' (fun i y hy => by
      have := h (i + 1) y (by simpa using hy)
      rw [List.drop_drop, show c + i * c = (i + 1) * c from by rw [Nat.succ_mul]; omega]
      exact this)
    rw [← this, ← h0, List.take_append_drop]

/-- An array of pairs of integers that reads as a table holds the table's numbers, cell for cell. -/
theorem cells_of_pairs {H : Type} {enc : TypeId × Value → H} {P : Program} {w : World} {base : Nat} {sp : Nat → Bool} {held : Bool} {fuel : Nat} {t e : TypeId} {n : Nat} {k : IntKind} {f0 f1 : Field} {cs : List Value} {zs : List (Int × Int)} {p : List MemPlace}
    (ht : P.underlying t = some (.array n e)) (he : P.underlying e = some (.struct #[f0, f1])) (h0 : P.underlying f0.type = some (.int k)) (h1 : P.underlying f1.type = some (.int k)) (c0 : P.cellsOf f0.type = 1) (c1 : P.cellsOf f1.type = 1)
    (o0 : f0.offset = 0) (o1 : f1.offset = 1) (hce : P.cellsOf e = 2) (hct : P.cellsOf t = n * 2)
    (h : DataW.trod enc P w base sp held fuel t cs = some (.agg (zs.map fun z => .agg [.lit (.int k z.1), .lit (.int k z.2)]), p)) : cs = zs.flatMap fun z => [Value.int k z.1, Value.int k z.2] := by
  obtain ⟨xs, m, _, hx, hl, hlen, hel⟩ := DataW.trod_array ht h
  have hxs : zs.map (fun z => (DataW.agg [.lit (.int k z.1), .lit (.int k z.2)] : DataW H)) = xs.map (·.1) := by
    have := congrArg Prod.fst hx
    simpa using this
  have hzl : zs.length = n := by
    have := congrArg List.length hxs
    simp at this
    omega
  refine chunk_flat 2 _ zs cs (by rw [hl, hct, hzl]) fun i z hz => ?_
  have hi : i < n := by
    rw [← hzl]
    rcases Nat.lt_or_ge i zs.length with h' | h'
    · exact h'
    · rw [List.getElem?_eq_none h'] at hz; cases hz
  have := hel i hi
  rw [hce, List.getElem?_eq_getElem (by omega)] at this
  obtain ⟨y0, y1, m', ey, hcl, g0, g1⟩ := ChangeShapes.trod_struct2 he this
  have e1 : (xs[i]'(by omega)).1 = DataW.agg [.lit (.int k z.1), .lit (.int k z.2)] := by
    have h2 : (xs.map (·.1))[i]? = some (DataW.agg [.lit (.int k z.1), .lit (.int k z.2)] : DataW H) := by rw [← hxs, List.getElem?_map, hz]; rfl
    rw [List.getElem?_map, List.getElem?_eq_getElem (by omega)] at h2
    simpa using h2
  rw [ey] at e1
  simp only [DataW.agg.injEq, List.cons.injEq, and_true] at e1
  rw [c0, o0, List.drop_zero] at g0
  rw [c1, o1] at g1
  obtain ⟨a, ha, rfl, _⟩ := DataW.trod_int h0 g0
  obtain ⟨b, hb, rfl, _⟩ := DataW.trod_int h1 g1
  simp only [DataW.lit.injEq, Lit.int.injEq, true_and] at e1
  obtain ⟨rfl, rfl⟩ := e1
  rw [hce] at hcl
  generalize (cs.drop (i * 2)).take 2 = c at *
  match c, hcl with
  | [x, y], _ =>
    simp at ha hb
    rw [ha, hb]

theorem var_block {P : Program} {w : World} {nm : String} {g : Nat} {cs : Array Value} (hg : P.globalNamed nm = some g) (h : w.var? P nm = some cs) : ∃ T fz, w.heap[g]? = some (.cells cs T fz) := by
  unfold World.var? at h
  rw [hg, Option.bind_some] at h
  split at h
  · rename_i cs' T fz hb
    cases h
    exact ⟨T, fz, hb⟩
  · cases h

theorem laid_at {P : Program} {w : World} : ∀ {l : List (String × DataW Unit)} {ps : List MemPlace}, DataW.LaidVars P w l ps → ∀ {nm : String} {d : DataW Unit}, (nm, d) ∈ l →
    ∃ g t cs fuel p, P.globalNamed nm = some g ∧ (P.globals[g]?).map (·.type) = some t ∧ w.var? P nm = some cs ∧ DataW.trod (fun _ => ()) P w 0 (fun _ => true) false fuel t cs.toList = some (d, p)
  | [], _, _, _, _, hm => by cases hm
  | (n, d) :: r, ps, h, nm, d', hm => by
    obtain ⟨g, t, cs, fuel, p, q, h1, h2, h3, h4, h5, _⟩ := h
    cases hm with
    | head => exact ⟨g, t, cs, fuel, p, h1, h2, h3, h4⟩
    | tail _ hm => exact laid_at h5 hm

/-- A table of integers, laid. -/
theorem laid_ints {P : Program} {w : World} {l : List (String × DataW Unit)} (h : laidMet P l w) {nm : String} {d : DataW Unit} (hm : (nm, d) ∈ l) {g : Nat} {t e : TypeId} {n : Nat} {k : IntKind} {zs : List Int} (hd : d = Lib.tabData k zs)
    (hg : P.globalNamed nm = some g) (hty : (P.globals[g]?).map (·.type) = some t) (ht : P.underlying t = some (.array n e)) (he : P.underlying e = some (.int k)) (hce : P.cellsOf e = 1) (hct : P.cellsOf t = n) :
    ∃ c T fz, w.heap[g]? = some (.cells c T fz) ∧ c.toList = zs.map fun z => Value.int k z := by
  obtain ⟨ps, hv, _⟩ := h
  obtain ⟨g', t', cs, fuel, p, h1, h2, h3, h4⟩ := laid_at hv hm
  obtain rfl := Option.some.inj (hg.symm.trans h1)
  obtain rfl := Option.some.inj (hty.symm.trans h2)
  obtain ⟨T, fz, hb⟩ := var_block hg h3
  subst hd
  exact ⟨cs, T, fz, hb, Lib.cells_of_tab ht he hce hct h4⟩

theorem laid_pairs {P : Program} {w : World} {l : List (String × DataW Unit)} (h : laidMet P l w) {nm : String} {d : DataW Unit} (hm : (nm, d) ∈ l) {g : Nat} {t e : TypeId} {n : Nat} {k : IntKind} {f0 f1 : Field} {zs : List (Int × Int)}
    (hd : d = .agg (zs.map fun z => .agg [.lit (.int k z.1), .lit (.int k z.2)]))
    (hg : P.globalNamed nm = some g) (hty : (P.globals[g]?).map (·.type) = some t) (ht : P.underlying t = some (.array n e)) (he : P.underlying e = some (.struct #[f0, f1])) (h0 : P.underlying f0.type = some (.int k)) (h1 : P.underlying f1.type = some (.int k))
    (c0 : P.cellsOf f0.type = 1) (c1 : P.cellsOf f1.type = 1) (o0 : f0.offset = 0) (o1 : f1.offset = 1) (hce : P.cellsOf e = 2) (hct : P.cellsOf t = n * 2) :
    ∃ c T fz, w.heap[g]? = some (.cells c T fz) ∧ c.toList = zs.flatMap fun z => [Value.int k z.1, Value.int k z.2] := by
  obtain ⟨ps, hv, _⟩ := h
  obtain ⟨g', t', cs, fuel, p, g1, g2, g3, g4⟩ := laid_at hv hm
  obtain rfl := Option.some.inj (hg.symm.trans g1)
  obtain rfl := Option.some.inj (hty.symm.trans g2)
  obtain ⟨T, fz, hb⟩ := var_block hg g3
  subst hd
  exact ⟨cs, T, fz, hb, cells_of_pairs ht he h0 h1 c0 c1 o0 o1 hce hct g4⟩

def datInts : DataW Unit → List Int
  | .agg l => l.map fun | .lit (.int _ z) => z | _ => 0
  | _ => []
def datPairs : DataW Unit → List (Int × Int)
  | .agg l => l.map fun | .agg [.lit (.int _ z), .lit (.int _ y)] => (z, y) | _ => (0, 0)
  | _ => []

end Go.Zh

namespace Go.Zh.T
open Go Go.Zh Go.RowKit Go.Proofs Go.Proofs.YtkhaebkijoefjaaGreatDoor
set_option linter.unusedVariables false
set_option maxRecDepth 100000

def laidL : List (String × DataW Unit) := [("unicode/utf8.acceptRanges", Rows.laid_unicode_utf8_acceptRanges), ("unicode.White_Space", Rows.laid_unicode_White_Space), ("strings.asciiSpace", Rows.laid_strings_asciiSpace), ("sorrel/runes.letters", Rows.laid_sorrel_runes_letters), ("sorrel/runes.zeros", Rows.laid_sorrel_runes_zeros), ("unicode/utf8.first", Rows.laid_unicode_utf8_first)]

def row0 (b : Nat) : List Value := match A0.blk b with
  | some q => q.c
  | none => []
def sz0 (b : Nat) : Nat := match A0.blk b with
  | some q => q.e
  | none => 1

theorem A0_get : ∀ (b : Nat) (o : AObj), A0.t.get b = some o → (b = 0 ∨ b = 3 ∨ b = 4 ∨ b = 5 ∨ b = 6) ∧ ∃ q, o = .cells q ∧ A0.blk b = some q ∧ q.g = none ∧ q.own = false ∧ q.c.all plainV = true := by
  have : ∀ (b : Nat) (o : AObj), A0.t.get b = some o → (fun b o => (b = 0 ∨ b = 3 ∨ b = 4 ∨ b = 5 ∨ b = 6) ∧ ∃ q, o = .cells q ∧ A0.blk b = some q ∧ q.g = none ∧ q.own = false ∧ q.c.all plainV = true) b o :=
    allT_nd (fun x h => by cases h; exact ⟨.inl rfl, _, rfl, rfl, rfl, rfl, by kernel_rfl⟩)
      (allT_nd (fun x h => nomatch h) (allT_nd (fun x h => by cases h; exact ⟨.inr (.inl rfl), _, rfl, rfl, rfl, rfl, by kernel_rfl⟩) (allT_nil _) (allT_nil _)) (allT_nd (fun x h => by cases h; exact ⟨.inr (.inr (.inr (.inl rfl))), _, rfl, rfl, rfl, rfl, by kernel_rfl⟩) (allT_nil _) (allT_nil _)))
      (allT_nd (fun x h => nomatch h) (allT_nd (fun x h => by cases h; exact ⟨.inr (.inr (.inl rfl)), _, rfl, rfl, rfl, rfl, by kernel_rfl⟩) (allT_nil _) (allT_nil _)) (allT_nd (fun x h => by cases h; exact ⟨.inr (.inr (.inr (.inr rfl))), _, rfl, rfl, rfl, rfl, by kernel_rfl⟩) (allT_nil _) (allT_nil _)))
  exact this

/-- **The start.** -/
theorem start {W : World} (hs : 8 ≤ W.heap.size) (h : laidMet Tryz.prog laidL W) : ∃ φ, R W.heap.size glT φ A0 W := by
  have b0 : ∃ c T fz, W.heap[0]? = some (.cells c T fz) ∧ c.toList = row0 0 := by
    obtain ⟨c, T, fz, h1, h2⟩ := laid_ints h (nm := "strings.asciiSpace") (d := Rows.laid_strings_asciiSpace) (by simp [laidL]) (g := 0) (t := 190) (e := 5) (n := 256) (k := .u8) (zs := datInts Rows.laid_strings_asciiSpace) (by kernel_rfl) (by kernel_rfl) (by kernel_rfl)
      Tryz.underlying190 Tryz.underlying5 (by kernel_rfl) (by kernel_rfl)
    exact ⟨c, T, fz, h1, h2.trans (by kernel_rfl)⟩
  have b3 : ∃ c T fz, W.heap[3]? = some (.cells c T fz) ∧ c.toList = row0 3 := by
    obtain ⟨c, T, fz, h1, h2⟩ := laid_pairs h (nm := "sorrel/runes.letters") (d := Rows.laid_sorrel_runes_letters) (by simp [laidL]) (g := 3) (t := 305) (e := 304) (n := 13) (k := .i32) (zs := datPairs Rows.laid_sorrel_runes_letters) (by kernel_rfl) (by kernel_rfl) (by kernel_rfl)
      Tryz.underlying305 Tryz.underlying304 Tryz.underlying21 Tryz.underlying21 (by kernel_rfl) (by kernel_rfl) rfl rfl (by kernel_rfl) (by kernel_rfl)
    exact ⟨c, T, fz, h1, h2.trans (by kernel_rfl)⟩
  have b4 : ∃ c T fz, W.heap[4]? = some (.cells c T fz) ∧ c.toList = row0 4 := by
    obtain ⟨c, T, fz, h1, h2⟩ := laid_ints h (nm := "sorrel/runes.zeros") (d := Rows.laid_sorrel_runes_zeros) (by simp [laidL]) (g := 4) (t := 339) (e := 21) (n := 3) (k := .i32) (zs := datInts Rows.laid_sorrel_runes_zeros) (by kernel_rfl) (by kernel_rfl) (by kernel_rfl)
      Tryz.underlying339 Tryz.underlying21 (by kernel_rfl) (by kernel_rfl)
    exact ⟨c, T, fz, h1, h2.trans (by kernel_rfl)⟩
  have b5 : ∃ c T fz, W.heap[5]? = some (.cells c T fz) ∧ c.toList = row0 5 := by
    obtain ⟨c, T, fz, h1, h2⟩ := laid_ints h (nm := "unicode/utf8.first") (d := Rows.laid_unicode_utf8_first) (by simp [laidL]) (g := 5) (t := 190) (e := 5) (n := 256) (k := .u8) (zs := datInts Rows.laid_unicode_utf8_first) (by kernel_rfl) (by kernel_rfl) (by kernel_rfl)
      Tryz.underlying190 Tryz.underlying5 (by kernel_rfl) (by kernel_rfl)
    exact ⟨c, T, fz, h1, h2.trans (by kernel_rfl)⟩
  have b6 : ∃ c T fz, W.heap[6]? = some (.cells c T fz) ∧ c.toList = row0 6 := by
    obtain ⟨c, T, fz, h1, h2⟩ := laid_pairs h (nm := "unicode/utf8.acceptRanges") (d := Rows.laid_unicode_utf8_acceptRanges) (by simp [laidL]) (g := 6) (t := 353) (e := 352) (n := 16) (k := .u8) (zs := datPairs Rows.laid_unicode_utf8_acceptRanges) (by kernel_rfl) (by kernel_rfl) (by kernel_rfl)
      Tryz.underlying353 Tryz.underlying352 Tryz.underlying5 Tryz.underlying5 (by kernel_rfl) (by kernel_rfl) rfl rfl (by kernel_rfl) (by kernel_rfl)
    exact ⟨c, T, fz, h1, h2.trans (by kernel_rfl)⟩
  let φ : Phi := fun b s => match s with
    | none => if b < 8 then some ⟨b, (row0 b).length, sz0 b⟩ else none
    | some _ => none
  have hφ : ∀ b s pb, φ b s = some pb → s = none ∧ b < 8 ∧ pb = ⟨b, (row0 b).length, sz0 b⟩ := by
    intro b s pb hp
    cases s with
    | some _ => cases hp
    | none =>
      simp only [φ] at hp
      split at hp
      · cases hp; exact ⟨rfl, by assumption, rfl⟩
      · cases hp
  have hφ' : ∀ b, b < 8 → φ b none = some ⟨b, (row0 b).length, sz0 b⟩ := fun b hb => if_pos hb
  refine ⟨φ, ?_, ?_, ?_, ?_, Nat.le_refl _, ?_, ?_, ?_, ?_⟩
  · intro b o hb
    obtain ⟨h1, q, rfl, h2, h3, h4, h5⟩ := A0_get b o hb
    have hrow : row0 b = q.c := by unfold row0; rw [h2]
    have hsz : sz0 b = q.e := by unfold sz0; rw [h2]
    have key : ∃ c T fz, W.heap[b]? = some (.cells c T fz) ∧ c.toList = row0 b := by
      rcases h1 with rfl | rfl | rfl | rfl | rfl <;> assumption
    obtain ⟨c, T, fz, g1, g2⟩ := key
    have hb8 : b < 8 := by omega
    simp only [OR, h3]
    refine ⟨_, c, T, fz, hφ' b hb8, g1, ?_, ?_, hsz, fun e => (by rw [h4] at e; cases e)⟩
    · rw [g2, hrow]; exact plainVs_refl h5
    · show (row0 b).length = c.size
      rw [← g2]; simp
  · intro b s pb b' s' pb' h1 h2 h3
    obtain ⟨_, _, rfl⟩ := hφ _ _ _ h1
    obtain ⟨_, _, rfl⟩ := hφ _ _ _ h2
    exact h3
  · intro b s pb hp
    obtain ⟨_, h1, rfl⟩ := hφ _ _ _ hp
    exact ⟨h1, Nat.lt_of_lt_of_le h1 hs⟩
  · intro b o s pb hb ho
    obtain ⟨_, q, rfl, _, _, h4, _⟩ := A0_get b o hb
    rw [show (AObj.cells q).own = q.own from rfl, h4] at ho
    cases ho
  · intro g hg
    have : g < 8 := by
      simp only [glT, List.mem_cons, List.mem_nil_iff, or_false] at hg
      omega
    exact ⟨_, hφ' g this, rfl⟩
  · intro b o hb
    obtain ⟨h1, _⟩ := A0_get b o hb
    show b < 8
    omega
  · intro b q s pb hb hp
    obtain ⟨_, q', hq, h2, _⟩ := A0_get b _ hb
    cases hq
    obtain ⟨_, _, rfl⟩ := hφ _ _ _ hp
    show sz0 b = q.e
    unfold sz0
    rw [h2]
  · intro b q G γ hb hg
    obtain ⟨_, q', hq, _, h3, _⟩ := A0_get b _ hb
    cases hq
    rw [h3] at hg
    cases hg

end Go.Zh.T
