/- ZhTb2: each compiled function is what the program gives. WRITTEN BY PROGRAM (wip/tools/mkseat.py). -/
import Derived.Test.YtkhaebkijoefjaaGreatDoorZhTaB
import Derived.Test.YtkhaebkijoefjaaGreatDoorZhS3
import Derived.Test.YtkhaebkijoefjaaGreatDoorZh22
namespace Go.Zh.T
open Go Go.Zh Go.RowKit Go.Proofs
set_option linter.unusedVariables false
set_option maxRecDepth 100000
variable {B F : Nat} {G : World → Prop}
theorem p9 (hst : ∀ w w', G w → Below B w w' → G w') : FnOK B glT Tryz.prog G F 9 c9 := fn_ok hst (by kernel_rfl) (by kernel_rfl) ⟨_, Tryz.func9, by kernel_rfl, rfl⟩
theorem p13 (hst : ∀ w w', G w → Below B w w' → G w') : FnOK B glT Tryz.prog G F 13 c13 := fn_ok hst (by kernel_rfl) (by kernel_rfl) ⟨_, Tryz.func13, by kernel_rfl, rfl⟩
theorem p35 (hst : ∀ w w', G w → Below B w w' → G w') : FnOK B glT Tryz.prog G F 35 c35 := fn_ok hst (by kernel_rfl) (by kernel_rfl) ⟨_, Tryz.func35, by kernel_rfl, rfl⟩
theorem p45 (hst : ∀ w w', G w → Below B w w' → G w') : FnOK B glT Tryz.prog G F 45 c45 := fn_ok hst (by kernel_rfl) (by kernel_rfl) ⟨_, Tryz.func45, by kernel_rfl, rfl⟩
theorem p59 (hst : ∀ w w', G w → Below B w w' → G w') : FnOK B glT Tryz.prog G F 59 c59 := fn_ok hst (by kernel_rfl) (by kernel_rfl) ⟨_, Tryz.func59, by kernel_rfl, rfl⟩
theorem p79 (hst : ∀ w w', G w → Below B w w' → G w') : FnOK B glT Tryz.prog G F 79 c79 := fn_ok hst (by kernel_rfl) (by kernel_rfl) ⟨_, Tryz.func79, by kernel_rfl, rfl⟩
theorem p83 (hst : ∀ w w', G w → Below B w w' → G w') : FnOK B glT Tryz.prog G F 83 c83 := fn_ok hst (by kernel_rfl) (by kernel_rfl) ⟨_, Tryz.func83, by kernel_rfl, rfl⟩
theorem p88 (hst : ∀ w w', G w → Below B w w' → G w') : FnOK B glT Tryz.prog G F 88 c88 := fn_ok hst (by kernel_rfl) (by kernel_rfl) ⟨_, Tryz.func88, by kernel_rfl, rfl⟩
theorem p119 (hst : ∀ w w', G w → Below B w w' → G w') : FnOK B glT Tryz.prog G F 119 c119 := fn_ok hst (by kernel_rfl) (by kernel_rfl) ⟨_, Tryz.func119, by kernel_rfl, rfl⟩
theorem p124 (hst : ∀ w w', G w → Below B w w' → G w') : FnOK B glT Tryz.prog G F 124 c124 := fn_ok hst (by kernel_rfl) (by kernel_rfl) ⟨_, Tryz.func124, by kernel_rfl, rfl⟩
theorem p137 (hst : ∀ w w', G w → Below B w w' → G w') : FnOK B glT Tryz.prog G F 137 c137 := fn_ok hst (by kernel_rfl) (by kernel_rfl) ⟨_, Tryz.func137, by kernel_rfl, rfl⟩
theorem p157 (hst : ∀ w w', G w → Below B w w' → G w') : FnOK B glT Tryz.prog G F 157 c157 := fn_ok hst (by kernel_rfl) (by kernel_rfl) ⟨_, Tryz.func157, by kernel_rfl, rfl⟩
theorem p161 (hst : ∀ w w', G w → Below B w w' → G w') : FnOK B glT Tryz.prog G F 161 c161 := fn_ok hst (by kernel_rfl) (by kernel_rfl) ⟨_, Tryz.func161, by kernel_rfl, rfl⟩
theorem p165 (hst : ∀ w w', G w → Below B w w' → G w') : FnOK B glT Tryz.prog G F 165 c165 := fn_ok hst (by kernel_rfl) (by kernel_rfl) ⟨_, Tryz.func165, by kernel_rfl, rfl⟩
theorem p171 (hst : ∀ w w', G w → Below B w w' → G w') : FnOK B glT Tryz.prog G F 171 c171 := fn_ok hst (by kernel_rfl) (by kernel_rfl) ⟨_, Tryz.func171, by kernel_rfl, rfl⟩
theorem p177 (hst : ∀ w w', G w → Below B w w' → G w') : FnOK B glT Tryz.prog G F 177 c177 := fn_ok hst (by kernel_rfl) (by kernel_rfl) ⟨_, Tryz.func177, by kernel_rfl, rfl⟩
theorem p197 (hst : ∀ w w', G w → Below B w w' → G w') : FnOK B glT Tryz.prog G F 197 c197 := fn_ok hst (by kernel_rfl) (by kernel_rfl) ⟨_, Tryz.func197, by kernel_rfl, rfl⟩
theorem p211 (hst : ∀ w w', G w → Below B w w' → G w') : FnOK B glT Tryz.prog G F 211 c211 := fn_ok hst (by kernel_rfl) (by kernel_rfl) ⟨_, Tryz.func211, by kernel_rfl, rfl⟩
theorem p215 (hst : ∀ w w', G w → Below B w w' → G w') : FnOK B glT Tryz.prog G F 215 c215 := fn_ok hst (by kernel_rfl) (by kernel_rfl) ⟨_, Tryz.func215, by kernel_rfl, rfl⟩
theorem p219 (hst : ∀ w w', G w → Below B w w' → G w') : FnOK B glT Tryz.prog G F 219 c219 := fn_ok hst (by kernel_rfl) (by kernel_rfl) ⟨_, Tryz.func219, by kernel_rfl, rfl⟩
theorem p223 (hst : ∀ w w', G w → Below B w w' → G w') : FnOK B glT Tryz.prog G F 223 c223 := fn_ok hst (by kernel_rfl) (by kernel_rfl) ⟨_, Tryz.func223, by kernel_rfl, rfl⟩
theorem p228 (hst : ∀ w w', G w → Below B w w' → G w') : FnOK B glT Tryz.prog G F 228 c228 := fn_ok hst (by kernel_rfl) (by kernel_rfl) ⟨_, Tryz.func228, by kernel_rfl, rfl⟩
theorem p251 (hst : ∀ w w', G w → Below B w w' → G w') : FnOK B glT Tryz.prog G F 251 c251 := fn_ok hst (by kernel_rfl) (by kernel_rfl) ⟨_, Tryz.func251, by kernel_rfl, rfl⟩
theorem p264 (hst : ∀ w w', G w → Below B w w' → G w') : FnOK B glT Tryz.prog G F 264 c264 := fn_ok hst (by kernel_rfl) (by kernel_rfl) ⟨_, Tryz.func264, by kernel_rfl, rfl⟩
theorem p279 (hst : ∀ w w', G w → Below B w w' → G w') : FnOK B glT Tryz.prog G F 279 c279 := fn_ok hst (by kernel_rfl) (by kernel_rfl) ⟨_, Tryz.func279, by kernel_rfl, rfl⟩
theorem p288 (hst : ∀ w w', G w → Below B w w' → G w') : FnOK B glT Tryz.prog G F 288 c288 := fn_ok hst (by kernel_rfl) (by kernel_rfl) ⟨_, Tryz.func288, by kernel_rfl, rfl⟩
end Go.Zh.T
