/- ZhTb1: each compiled function is what the program gives. WRITTEN BY PROGRAM (wip/tools/mkseat.py). -/
import Derived.Test.YtkhaebkijoefjaaGreatDoorZhTaB
import Derived.Test.YtkhaebkijoefjaaGreatDoorZhS3
import Derived.Test.YtkhaebkijoefjaaGreatDoorZh22
namespace Go.Zh.T
open Go Go.Zh Go.RowKit Go.Proofs
set_option linter.unusedVariables false
set_option maxRecDepth 100000
variable {B F : Nat} {G : World → Prop}
theorem p8 (hst : ∀ w w', G w → Below B w w' → G w') : FnOK B glT Tryz.prog G F 8 c8 := fn_ok hst (by kernel_rfl) (by kernel_rfl) ⟨_, Tryz.func8, by kernel_rfl, rfl⟩
theorem p12 (hst : ∀ w w', G w → Below B w w' → G w') : FnOK B glT Tryz.prog G F 12 c12 := fn_ok hst (by kernel_rfl) (by kernel_rfl) ⟨_, Tryz.func12, by kernel_rfl, rfl⟩
theorem p34 (hst : ∀ w w', G w → Below B w w' → G w') : FnOK B glT Tryz.prog G F 34 c34 := fn_ok hst (by kernel_rfl) (by kernel_rfl) ⟨_, Tryz.func34, by kernel_rfl, rfl⟩
theorem p38 (hst : ∀ w w', G w → Below B w w' → G w') : FnOK B glT Tryz.prog G F 38 c38 := fn_ok hst (by kernel_rfl) (by kernel_rfl) ⟨_, Tryz.func38, by kernel_rfl, rfl⟩
theorem p52 (hst : ∀ w w', G w → Below B w w' → G w') : FnOK B glT Tryz.prog G F 52 c52 := fn_ok hst (by kernel_rfl) (by kernel_rfl) ⟨_, Tryz.func52, by kernel_rfl, rfl⟩
theorem p78 (hst : ∀ w w', G w → Below B w w' → G w') : FnOK B glT Tryz.prog G F 78 c78 := fn_ok hst (by kernel_rfl) (by kernel_rfl) ⟨_, Tryz.func78, by kernel_rfl, rfl⟩
theorem p82 (hst : ∀ w w', G w → Below B w w' → G w') : FnOK B glT Tryz.prog G F 82 c82 := fn_ok hst (by kernel_rfl) (by kernel_rfl) ⟨_, Tryz.func82, by kernel_rfl, rfl⟩
theorem p86 (hst : ∀ w w', G w → Below B w w' → G w') : FnOK B glT Tryz.prog G F 86 c86 := fn_ok hst (by kernel_rfl) (by kernel_rfl) ⟨_, Tryz.func86, by kernel_rfl, rfl⟩
theorem p111 (hst : ∀ w w', G w → Below B w w' → G w') : FnOK B glT Tryz.prog G F 111 c111 := fn_ok hst (by kernel_rfl) (by kernel_rfl) ⟨_, Tryz.func111, by kernel_rfl, rfl⟩
theorem p123 (hst : ∀ w w', G w → Below B w w' → G w') : FnOK B glT Tryz.prog G F 123 c123 := fn_ok hst (by kernel_rfl) (by kernel_rfl) ⟨_, Tryz.func123, by kernel_rfl, rfl⟩
theorem p130 (hst : ∀ w w', G w → Below B w w' → G w') : FnOK B glT Tryz.prog G F 130 c130 := fn_ok hst (by kernel_rfl) (by kernel_rfl) ⟨_, Tryz.func130, by kernel_rfl, rfl⟩
theorem p155 (hst : ∀ w w', G w → Below B w w' → G w') : FnOK B glT Tryz.prog G F 155 c155 := fn_ok hst (by kernel_rfl) (by kernel_rfl) ⟨_, Tryz.func155, by kernel_rfl, rfl⟩
theorem p160 (hst : ∀ w w', G w → Below B w w' → G w') : FnOK B glT Tryz.prog G F 160 c160 := fn_ok hst (by kernel_rfl) (by kernel_rfl) ⟨_, Tryz.func160, by kernel_rfl, rfl⟩
theorem p164 (hst : ∀ w w', G w → Below B w w' → G w') : FnOK B glT Tryz.prog G F 164 c164 := fn_ok hst (by kernel_rfl) (by kernel_rfl) ⟨_, Tryz.func164, by kernel_rfl, rfl⟩
theorem p170 (hst : ∀ w w', G w → Below B w w' → G w') : FnOK B glT Tryz.prog G F 170 c170 := fn_ok hst (by kernel_rfl) (by kernel_rfl) ⟨_, Tryz.func170, by kernel_rfl, rfl⟩
theorem p174 (hst : ∀ w w', G w → Below B w w' → G w') : FnOK B glT Tryz.prog G F 174 c174 := fn_ok hst (by kernel_rfl) (by kernel_rfl) ⟨_, Tryz.func174, by kernel_rfl, rfl⟩
theorem p196 (hst : ∀ w w', G w → Below B w w' → G w') : FnOK B glT Tryz.prog G F 196 c196 := fn_ok hst (by kernel_rfl) (by kernel_rfl) ⟨_, Tryz.func196, by kernel_rfl, rfl⟩
theorem p209 (hst : ∀ w w', G w → Below B w w' → G w') : FnOK B glT Tryz.prog G F 209 c209 := fn_ok hst (by kernel_rfl) (by kernel_rfl) ⟨_, Tryz.func209, by kernel_rfl, rfl⟩
theorem p214 (hst : ∀ w w', G w → Below B w w' → G w') : FnOK B glT Tryz.prog G F 214 c214 := fn_ok hst (by kernel_rfl) (by kernel_rfl) ⟨_, Tryz.func214, by kernel_rfl, rfl⟩
theorem p218 (hst : ∀ w w', G w → Below B w w' → G w') : FnOK B glT Tryz.prog G F 218 c218 := fn_ok hst (by kernel_rfl) (by kernel_rfl) ⟨_, Tryz.func218, by kernel_rfl, rfl⟩
theorem p222 (hst : ∀ w w', G w → Below B w w' → G w') : FnOK B glT Tryz.prog G F 222 c222 := fn_ok hst (by kernel_rfl) (by kernel_rfl) ⟨_, Tryz.func222, by kernel_rfl, rfl⟩
theorem p227 (hst : ∀ w w', G w → Below B w w' → G w') : FnOK B glT Tryz.prog G F 227 c227 := fn_ok hst (by kernel_rfl) (by kernel_rfl) ⟨_, Tryz.func227, by kernel_rfl, rfl⟩
theorem p250 (hst : ∀ w w', G w → Below B w w' → G w') : FnOK B glT Tryz.prog G F 250 c250 := fn_ok hst (by kernel_rfl) (by kernel_rfl) ⟨_, Tryz.func250, by kernel_rfl, rfl⟩
theorem p263 (hst : ∀ w w', G w → Below B w w' → G w') : FnOK B glT Tryz.prog G F 263 c263 := fn_ok hst (by kernel_rfl) (by kernel_rfl) ⟨_, Tryz.func263, by kernel_rfl, rfl⟩
theorem p278 (hst : ∀ w w', G w → Below B w w' → G w') : FnOK B glT Tryz.prog G F 278 c278 := fn_ok hst (by kernel_rfl) (by kernel_rfl) ⟨_, Tryz.func278, by kernel_rfl, rfl⟩
theorem p287 (hst : ∀ w w', G w → Below B w w' → G w') : FnOK B glT Tryz.prog G F 287 c287 := fn_ok hst (by kernel_rfl) (by kernel_rfl) ⟨_, Tryz.func287, by kernel_rfl, rfl⟩
theorem p293 (hst : ∀ w w', G w → Below B w w' → G w') : FnOK B glT Tryz.prog G F 293 c293 := fn_ok hst (by kernel_rfl) (by kernel_rfl) ⟨_, Tryz.func293, by kernel_rfl, rfl⟩
end Go.Zh.T
