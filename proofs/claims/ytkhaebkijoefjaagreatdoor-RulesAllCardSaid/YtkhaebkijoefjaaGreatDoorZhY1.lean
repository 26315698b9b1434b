/- ZhY1: RulesAll: the row and the card. -/
import Derived.Test.YtkhaebkijoefjaaGreatDoorZhW1
import Derived.Test.YtkhaebkijoefjaaGreatDoorZhY0
import Derived.Test.YtkhaebkijoefjaaGreatDoorTie
import Derived.Test.YtkhaebkijoefjaaGreatDoorCards
import Derived.LaidMore
import Derived.Lay
import Derived.SevenTiedAt
import Derived.Stop.Joined
namespace Go.Proofs.YtkhaebkijoefjaaGreatDoor
open Go Go.ChangeShapes Go.WideShapes Go.ChangeAt Go.RowKit Go.Zh Go.Zh.T
set_option linter.unusedVariables false
set_option maxRecDepth 100000

theorem own : ownKnob Tryz.prog.godebug = none := by kernel_rfl

theorem size_of_shaped {W : World} (h : W.ShapedOpen Tryz.prog) : 8 ≤ W.heap.size := by
  have h7 : (((begin Tryz.prog (fun _ _ => 0) default).world.heap[7]?).bind Obj.row?).isSome = true := by kernel_rfl
  obtain ⟨⟨zero, t⟩, hz⟩ := Option.isSome_iff_exists.1 h7
  obtain ⟨cs, h1, _⟩ := h.1 7 zero t (Nat.lt_of_lt_of_eq (by decide : 7 < 8) (by kernel_rfl)) hz
  rcases Nat.lt_or_ge 7 W.heap.size with h' | h'
  · exact h'
  · rw [Array.getElem?_eq_none h'] at h1; cases h1

/-- A law's contract, where the tables are laid: it is handed how the start stands for the abstract machine's. -/
theorem handed {os : Os} {f : FuncId} {fn : Func} {s : ChangeSpec} {X : World → Prop} (hX : ∀ (w w' : World), w.heap = w'.heap → X w → X w') (started : os.Started) (noInit : Tryz.prog.inits.idxOf? f = none) (hfn : Tryz.prog.funcs[f]? = some fn)
    {H : Type} {enc : TypeId × Value → H} {conds : List PathCond} {apart fresh handsOn again : Bool}
    (witness : ∃ (w : World) (tape : Tape) (i : Input), w.os = os ∧ (w.forCall tape i).Shaped Tryz.prog ∧ i.vars = [] ∧ Input.okWide Tryz.prog (w.forCall tape i) .any w.heap.size f i ∧
      ((s.pre enc Tryz.prog fn conds apart (w.forCall tape i).memory i.args ∧ X (w.forCall tape i).memory) ∧ sizedMet enc Tryz.prog fn (OpenSpec.ofChange s) apart (w.forCall tape i).memory i.args) ∧ ({} : Assume).holds Tryz.prog (lone (Frame.enter Tryz.prog f i.args .normal) [] (w.forCall tape i)))
    (contract : ∀ (W : World) (base : Nat) (args : Array Value) (ds gs : List (DataW H)) (before : List MemPlace), 8 ≤ W.heap.size →
      (∀ (j : Nat) t v, fn.params[j]? = some t → args[j]? = some v → Value.okWide Tryz.prog W .any base t v) → DataW.Whole enc Tryz.prog fn.params.toList s.vars apart W args.toList ds gs before →
      conds.all (PathCond.test Tryz.prog ⟨fn.params.toList, ds, s.plain.varTypes Tryz.prog, gs⟩) = true → X W →
      Calls Tryz.prog f args W fun e W' => ∃ v, e = .returned v ∧ s.post enc Tryz.prog fn apart fresh handsOn again W args v W') :
    ReturnsInHanded {} Tryz.checked os f .any (fun w args => (s.pre enc Tryz.prog fn conds apart w args ∧ X w) ∧ sizedMet enc Tryz.prog fn (OpenSpec.ofChange s) apart w args) (s.post enc Tryz.prog fn apart fresh handsOn again) := by
  refine returnsInHanded_of_calls (C := Tryz.checked) own started noInit witness ?_
  intro w tape i _ hsh _ hok hpre _
  obtain ⟨_, _, _, fn', hfn', _, _, _, _, hval⟩ := hok
  obtain rfl : fn' = fn := Option.some.inj (hfn'.symm.trans hfn)
  obtain ⟨⟨⟨ds, gs, before, hw, hc⟩, hx⟩, _⟩ := hpre
  refine (contract (w.forCall tape i) w.heap.size i.args ds gs before (size_of_shaped hsh) hval (DataW.Whole.of_heap (w' := w.forCall tape i) (by rfl) hw) hc (hX _ _ (by rfl) hx)).mono fun e W' ⟨v, he, hp⟩ => ?_
  subst he
  exact ChangeSpec.post_blind hp

theorem rules_all (a0 : Int) {W : World} {φ : Phi} (hR : R W.heap.size glT φ A0 W) : Calls Tryz.prog 3 #[.int .i64 a0] W fun e w' => e = .returned (.bool true) ∧ Below W.heap.size W w' := by
  have hG : Glob W.heap.size glT A0 W := ⟨φ, hR, fun b s pb hp => (hR.dom b s pb hp).2⟩
  refine (inner3_ok (B0 := W.heap.size) W.heap.size (Nat.le_refl _) Bool 3 [.int .i64 a0] A0 _ true (law_run a0) φ W [.int .i64 a0] hG hR (plainVs_refl rfl)).2.mono ?_
  rintro e w' ⟨v, A', v', ψ, h1, rfl, _, _, h5, h6⟩
  refine ⟨?_, h6⟩
  split at h1
  · cases h5; rfl
  · cases h1

theorem laidMetH_met {W : World} (h : laidMetH Tryz.prog laidL W) : laidMet Tryz.prog laidL W := by
  rwa [MakeChecks.laidMetH_plain _ _ _ (by kernel_rfl)] at h

theorem rulesAll_lifted (os : Os) (started : os.Started) (H : Type) (enc : TypeId × Value → H) :
    ReturnsInHanded {} Tryz.checked os 3 .any (fun w args => (Rows.rulesAllSpec.pre enc Tryz.prog Tryz.f3 Rows.rulesAllRow.domain false w args ∧ laidMetH Tryz.prog laidL w) ∧ sizedMet enc Tryz.prog Tryz.f3 (OpenSpec.ofChange Rows.rulesAllSpec) false w args)
      (Rows.rulesAllSpec.post enc Tryz.prog Tryz.f3 false true false false) := by
  refine handed (X := fun w => laidMetH Tryz.prog laidL w) (fun _ _ hh h => h.of_heap hh) started (by kernel_rfl) Tryz.func3
    (ChangeSpec.witness_shaped (enc := enc) (C := Tryz.checked) (os := os) (X := fun w _ => laidMetH Tryz.prog laidL w) false (World.laidAll Tryz.prog os laidL) #[.int .i64 0] 8 (World.laidAll_os _ _ _)
      (World.shaped_of_ZipB (by kernel_rfl) (by kernel_rfl)) (by kernel_rfl) (by kernel_rfl) (by kernel_rfl)
      (by rw [MakeChecks.laidMetH_plain _ _ _ (by kernel_rfl)]; exact laidMet_laidAll _ (by kernel_rfl) (by kernel_rfl))) ?_
  intro W base args ds gs before hs hval0 hW _ hL
  have hval : ∀ (j : Nat) t v, Tryz.f3.params[j]? = some t → args[j]? = some v → Value.okWide Tryz.prog W .any base t v := hval0
  have hW' := hW
  obtain ⟨p, q, hA0, hV, rfl, hfz, hnd⟩ := hW
  have hA : DataW.TrodAll enc Tryz.prog W 0 (fun _ => true) true Tryz.f3.params.toList args.toList ds p := hA0
  rw [Tryz.params3] at hA hval
  obtain ⟨v0, vs0, d0, ds0, p0, q0, hargs, rfl, rfl, h0, r0⟩ := trodAll_cons hA
  obtain ⟨rfl, rfl, rfl⟩ := trodAll_nil r0
  obtain rfl : args = #[v0] := by cases args; simp_all
  obtain ⟨rfl, rfl⟩ := trodVars_none hV
  obtain ⟨a0, rfl, rfl, rfl, w0⟩ := open_int Tryz.underlying3 (hval 0 3 v0 rfl rfl) h0
  simp only [List.append_nil] at hW'
  obtain ⟨φ, hR⟩ := Go.Zh.T.start hs (laidMetH_met hL)
  refine (rules_all a0 hR).mono fun e W' ⟨he, hb⟩ => ?_
  subst he
  exact ⟨_, rfl, _, _, _, [], [], [], hW', trodAll_cons_mk (shut_bool Tryz.underlying4 _) trodAll_mk0, trodAll_cons_mk (shut_int Tryz.underlying3 w0) trodAll_mk0, rfl, hb.frame _, fun h => by cases h⟩

theorem rulesAll_row : Rows.RulesAllSaid :=
  OpenClaim.holds_of_wide 3 Tryz.f3 rfl rfl rfl rfl rfl rfl rfl ⟨rfl, rfl, rfl, rfl, rfl⟩ rfl rfl rfl rfl rfl (by kernel_rfl) Tryz.func3 (by kernel_rfl)
    (of_decide_eq_true (by kernel_rfl)) (by unfold Func.isWrapper; first | (rw [if_pos (by decide +kernel)]; kernel_rfl) | (rw [if_neg (by decide +kernel)]; exact ⟨rfl, rfl⟩))
    (fun os started H enc _ => rulesAll_lifted os started H enc)

/-- **The statement.** -/
theorem rulesAll_holds : Rows.RulesAllCardSaid :=
  Claim7.holds_tied_plain_at .later [] [.data, .listed, .data, .data, .data, .pinned] true (true, "8ca11509afc0d0d39fe2e426f1dd0341854dfb5d3b0b1cd08918a8cb1ad49a94") true rulesAll_row (fun _ h => by cases h) (by kernel_rfl) (fun _ h => by cases h) rulesAll_row_tie rfl ⟨rfl, rfl⟩ (by kernel_rfl) rfl
    (fun f fn hf hfn => by
      obtain rfl : f = 3 := Option.some.inj ((show Tryz.prog.funcNamed "sorrel/sorrellaw17.RulesAll" = some 3 by kernel_rfl).symm.trans hf) |>.symm
      obtain rfl : fn = Tryz.f3 := (Option.some.inj (Tryz.func3.symm.trans hfn)).symm
      exact ⟨by kernel_rfl, fun j t ht => by
        rw [Tryz.params3] at ht
        have hm : t ∈ [3] := by simpa using Array.mem_of_getElem? ht
        have hall : ([3].all fun u => !Tryz.prog.wantsStandIn u) = true := by kernel_rfl
        exact (show Tryz.prog.wantsStandIn t = false by simpa using List.all_eq_true.1 hall t hm)⟩)
    (by kernel_rfl)
#print axioms rulesAll_holds
end Go.Proofs.YtkhaebkijoefjaaGreatDoor
