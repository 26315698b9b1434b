/- ZhTb0: each compiled function is what the program gives. WRITTEN BY PROGRAM (wip/tools/mkseat.py). -/
import Derived.Test.YtkhaebkijoefjaaGreatDoorZhTaB
import Derived.Test.YtkhaebkijoefjaaGreatDoorZhS3
import Derived.Test.YtkhaebkijoefjaaGreatDoorZh22
namespace Go.Zh.T
open Go Go.Zh Go.RowKit Go.Proofs
set_option linter.unusedVariables false
set_option maxRecDepth 100000
variable {B F : Nat} {G : World → Prop}
theorem p3 (hst : ∀ w w', G w → Below B w w' → G w') : FnOK B glT Tryz.prog G F 3 c3 := fn_ok hst (by kernel_rfl) (by kernel_rfl) ⟨_, Tryz.func3, by kernel_rfl, rfl⟩
theorem p11 (hst : ∀ w w', G w → Below B w w' → G w') : FnOK B glT Tryz.prog G F 11 c11 := fn_ok hst (by kernel_rfl) (by kernel_rfl) ⟨_, Tryz.func11, by kernel_rfl, rfl⟩
theorem p33 (hst : ∀ w w', G w → Below B w w' → G w') : FnOK B glT Tryz.prog G F 33 c33 := fn_ok hst (by kernel_rfl) (by kernel_rfl) ⟨_, Tryz.func33, by kernel_rfl, rfl⟩
theorem p37 (hst : ∀ w w', G w → Below B w w' → G w') : FnOK B glT Tryz.prog G F 37 c37 := fn_ok hst (by kernel_rfl) (by kernel_rfl) ⟨_, Tryz.func37, by kernel_rfl, rfl⟩
theorem p50 (hst : ∀ w w', G w → Below B w w' → G w') : FnOK B glT Tryz.prog G F 50 c50 := fn_ok hst (by kernel_rfl) (by kernel_rfl) ⟨_, Tryz.func50, by kernel_rfl, rfl⟩
theorem p65 (hst : ∀ w w', G w → Below B w w' → G w') : FnOK B glT Tryz.prog G F 65 c65 := fn_ok hst (by kernel_rfl) (by kernel_rfl) ⟨_, Tryz.func65, by kernel_rfl, rfl⟩
theorem p81 (hst : ∀ w w', G w → Below B w w' → G w') : FnOK B glT Tryz.prog G F 81 c81 := fn_ok hst (by kernel_rfl) (by kernel_rfl) ⟨_, Tryz.func81, by kernel_rfl, rfl⟩
theorem p85 (hst : ∀ w w', G w → Below B w w' → G w') : FnOK B glT Tryz.prog G F 85 c85 := fn_ok hst (by kernel_rfl) (by kernel_rfl) ⟨_, Tryz.func85, by kernel_rfl, rfl⟩
theorem p98 (hst : ∀ w w', G w → Below B w w' → G w') : FnOK B glT Tryz.prog G F 98 c98 := fn_ok hst (by kernel_rfl) (by kernel_rfl) ⟨_, Tryz.func98, by kernel_rfl, rfl⟩
theorem p122 (hst : ∀ w w', G w → Below B w w' → G w') : FnOK B glT Tryz.prog G F 122 c122 := fn_ok hst (by kernel_rfl) (by kernel_rfl) ⟨_, Tryz.func122, by kernel_rfl, rfl⟩
theorem p126 (hst : ∀ w w', G w → Below B w w' → G w') : FnOK B glT Tryz.prog G F 126 c126 := fn_ok hst (by kernel_rfl) (by kernel_rfl) ⟨_, Tryz.func126, by kernel_rfl, rfl⟩
theorem p153 (hst : ∀ w w', G w → Below B w w' → G w') : FnOK B glT Tryz.prog G F 153 c153 := fn_ok hst (by kernel_rfl) (by kernel_rfl) ⟨_, Tryz.func153, by kernel_rfl, rfl⟩
theorem p159 (hst : ∀ w w', G w → Below B w w' → G w') : FnOK B glT Tryz.prog G F 159 c159 := fn_ok hst (by kernel_rfl) (by kernel_rfl) ⟨_, Tryz.func159, by kernel_rfl, rfl⟩
theorem p163 (hst : ∀ w w', G w → Below B w w' → G w') : FnOK B glT Tryz.prog G F 163 c163 := fn_ok hst (by kernel_rfl) (by kernel_rfl) ⟨_, Tryz.func163, by kernel_rfl, rfl⟩
theorem p167 (hst : ∀ w w', G w → Below B w w' → G w') : FnOK B glT Tryz.prog G F 167 c167 := fn_ok hst (by kernel_rfl) (by kernel_rfl) ⟨_, Tryz.func167, by kernel_rfl, rfl⟩
theorem p173 (hst : ∀ w w', G w → Below B w w' → G w') : FnOK B glT Tryz.prog G F 173 c173 := fn_ok hst (by kernel_rfl) (by kernel_rfl) ⟨_, Tryz.func173, by kernel_rfl, rfl⟩
theorem p195 (hst : ∀ w w', G w → Below B w w' → G w') : FnOK B glT Tryz.prog G F 195 c195 := fn_ok hst (by kernel_rfl) (by kernel_rfl) ⟨_, Tryz.func195, by kernel_rfl, rfl⟩
theorem p208 (hst : ∀ w w', G w → Below B w w' → G w') : FnOK B glT Tryz.prog G F 208 c208 := fn_ok hst (by kernel_rfl) (by kernel_rfl) ⟨_, Tryz.func208, by kernel_rfl, rfl⟩
theorem p213 (hst : ∀ w w', G w → Below B w w' → G w') : FnOK B glT Tryz.prog G F 213 c213 := fn_ok hst (by kernel_rfl) (by kernel_rfl) ⟨_, Tryz.func213, by kernel_rfl, rfl⟩
theorem p217 (hst : ∀ w w', G w → Below B w w' → G w') : FnOK B glT Tryz.prog G F 217 c217 := fn_ok hst (by kernel_rfl) (by kernel_rfl) ⟨_, Tryz.func217, by kernel_rfl, rfl⟩
theorem p221 (hst : ∀ w w', G w → Below B w w' → G w') : FnOK B glT Tryz.prog G F 221 c221 := fn_ok hst (by kernel_rfl) (by kernel_rfl) ⟨_, Tryz.func221, by kernel_rfl, rfl⟩
theorem p226 (hst : ∀ w w', G w → Below B w w' → G w') : FnOK B glT Tryz.prog G F 226 c226 := fn_ok hst (by kernel_rfl) (by kernel_rfl) ⟨_, Tryz.func226, by kernel_rfl, rfl⟩
theorem p249 (hst : ∀ w w', G w → Below B w w' → G w') : FnOK B glT Tryz.prog G F 249 c249 := fn_ok hst (by kernel_rfl) (by kernel_rfl) ⟨_, Tryz.func249, by kernel_rfl, rfl⟩
theorem p262 (hst : ∀ w w', G w → Below B w w' → G w') : FnOK B glT Tryz.prog G F 262 c262 := fn_ok hst (by kernel_rfl) (by kernel_rfl) ⟨_, Tryz.func262, by kernel_rfl, rfl⟩
theorem p277 (hst : ∀ w w', G w → Below B w w' → G w') : FnOK B glT Tryz.prog G F 277 c277 := fn_ok hst (by kernel_rfl) (by kernel_rfl) ⟨_, Tryz.func277, by kernel_rfl, rfl⟩
theorem p286 (hst : ∀ w w', G w → Below B w w' → G w') : FnOK B glT Tryz.prog G F 286 c286 := fn_ok hst (by kernel_rfl) (by kernel_rfl) ⟨_, Tryz.func286, by kernel_rfl, rfl⟩
theorem p292 (hst : ∀ w w', G w → Below B w w' → G w') : FnOK B glT Tryz.prog G F 292 c292 := fn_ok hst (by kernel_rfl) (by kernel_rfl) ⟨_, Tryz.func292, by kernel_rfl, rfl⟩
end Go.Zh.T
