/- ZhS2: parse.read's deferred call, where nothing panicked. -/
import Derived.Test.YtkhaebkijoefjaaGreatDoorZhS1
import Derived.Recover
namespace Go.Proofs
set_option linter.unusedVariables false

theorem zS_recover {P : Program} {ops : Array Oper} {Q : Exit → Act → List Frame → World → Prop} {i : Nat} {rest : List Nat} {a : Act} {cs : List Frame} {w : World} {o : Oper} (ho : ops[i]? = some o)
    (hw : Region.wanted o (yielded ops a.tmps) = true) (he : (execOp a.eval o).run P w = .ok .recover w) (hr : recoverD cs = none) (h : wpOpsS P ops Q rest (a.put o.dst .nilIface) cs w) : wpOpsS P ops Q (i :: rest) a cs w := by
  simp only [wpOpsS, ho]
  rw [if_pos hw, he]
  simp only [hr]
  exact h

theorem zS_value {P : Program} {ops : Array Oper} {Q : Exit → Act → List Frame → World → Prop} {i : Nat} {rest : List Nat} {a : Act} {cs : List Frame} {w : World} {o : Oper} {v : Value} (ho : ops[i]? = some o)
    (hw : Region.wanted o (yielded ops a.tmps) = true) (he : (execOp a.eval o).run P w = .ok (.value v) w) (h : wpOpsS P ops Q rest (a.put o.dst v) cs w) : wpOpsS P ops Q (i :: rest) a cs w := by
  simp only [wpOpsS, ho]
  rw [if_pos hw, he]
  exact h

theorem zS_nil {P : Program} {ops : Array Oper} {next : Act → List Frame → World → Prop} {Q : Exit → Act → List Frame → World → Prop} {a : Act} {cs : List Frame} {w : World} (h : next a cs w) : wpOpsS P ops (Exit.thenS next Q) [] a cs w := h

theorem zS_nil' {P : Program} {ops : Array Oper} {next : Act → List Frame → World → Prop} {Q : Exit → Act → List Frame → World → Prop} {a : Act} {cs : List Frame} {w : World} (p : Act → Prop) (hp : p a) (h : ∀ a, p a → next a cs w) :
    wpOpsS P ops (Exit.thenS next Q) [] a cs w := h a hp

theorem Tryz.z156neq (w : World) : (do eqGuard .neq 20 (.tmp 7) (.const .nilIface) .nilIface .nilIface; binOp .neq 20 .nilIface .nilIface : Sem Value).run Tryz.prog w = .ok (.bool false) w := by kernel_rfl

theorem Tryz.z156b {Q : Exit → Act → List Frame → World → Prop} {a : Act} {cs : List Frame} {w : World} {x : Code} (h3 : a.eval (.tmp 3) = .nilIface) (hz : a.tmps.size = 21)
    (hq : Q .normal ((a.put (some 7) .nilIface).put (some 8) (.bool false)) cs w) :
    Code.wpS Tryz.prog (.seq (.region 1 #[⟨some 7, .move (.tmp 3), 20, "parse.go:276", #[], none⟩, ⟨some 8, .binOp .neq 20 (.tmp 7) (.const .nilIface) 20, 4, "parse.go:276", #[⟨0, .data⟩], none⟩] false) (.cond (.tmp 8) x .skip)) Q a cs w := by
  refine wpS_seq (wpS_region ?_)
  show wpOpsS _ _ _ [0, 1] _ _ _
  refine zS_value (o := ⟨some 7, .move (.tmp 3), 20, "parse.go:276", #[], none⟩) (v := .nilIface) rfl rfl ?_ ?_
  · show (pure (.value (a.eval (.tmp 3))) : Sem Next).run Tryz.prog w = _
    rw [h3]; rfl
  refine zS_value (o := ⟨some 8, .binOp .neq 20 (.tmp 7) (.const .nilIface) 20, 4, "parse.go:276", #[⟨0, .data⟩], none⟩) (v := .bool false) rfl rfl ?_ (zS_nil ?_)
  · have h7 : (a.put (some 7) .nilIface).eval (.tmp 7) = .nilIface := by simp [Act.eval, Act.put, hz]
    show (do pure (.value (← (do eqGuard .neq 20 (.tmp 7) (.const .nilIface) ((a.put (some 7) .nilIface).eval (.tmp 7)) .nilIface; binOp .neq 20 ((a.put (some 7) .nilIface).eval (.tmp 7)) .nilIface))) : Sem Next).run Tryz.prog w = _
    rw [h7, Sem.run_bind, Tryz.z156neq]
    rfl
  refine wpS_cond (t := false) ?_ ?_
  · simp [Act.eval, Act.put, hz]
  · rw [if_neg (by simp)]
    exact wpS_of_wp (wp_skip hq)

set_option maxHeartbeats 1000000 in
set_option maxRecDepth 100000 in
theorem Tryz.z156 (p2 p3 p4 : Value) (w : World) : CallsD Tryz.prog 156 #[p2, p3, p4] .returning w fun e u w' => e = .returned (.tuple #[]) ∧ u = .returning ∧ w' = w := by
  refine callsD_of_wpS Tryz.func156 rfl ?_
  intro c₀ cs hu
  have hrec : recoverD (c₀ :: cs) = none := by simp [recoverD, hu]
  refine wpS_seq (wpS_region ?_)
  show wpOpsS _ _ _ [0, 1] _ _ _
  refine zS_recover rfl (by kernel_rfl) (by kernel_rfl) hrec ?_
  refine zS_value (v := .nilIface) rfl (by kernel_rfl) (by kernel_rfl) (zS_nil' (fun a => a.eval (.tmp 3) = .nilIface ∧ a.tmps.size = 21 ∧ a.defers = []) ⟨by kernel_rfl, by kernel_rfl, by kernel_rfl⟩ ?_)
  rintro a ⟨h3, hz, hd⟩
  refine Tryz.z156b h3 hz ?_
  refine ⟨?_, .returning, ?_, .tuple #[], results_none (by kernel_rfl) _ _ _, rfl, rfl, rfl⟩
  · simp [Act.put, hd]
  · cases c₀
    subst hu
    rfl
end Go.Proofs
