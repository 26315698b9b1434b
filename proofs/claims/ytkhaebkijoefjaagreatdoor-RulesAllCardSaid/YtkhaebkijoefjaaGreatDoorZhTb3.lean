/- ZhTb3: each compiled function is what the program gives. WRITTEN BY PROGRAM (wip/tools/mkseat.py). -/
import Derived.Test.YtkhaebkijoefjaaGreatDoorZhTaB
import Derived.Test.YtkhaebkijoefjaaGreatDoorZhS3
import Derived.Test.YtkhaebkijoefjaaGreatDoorZh22
namespace Go.Zh.T
open Go Go.Zh Go.RowKit Go.Proofs
set_option linter.unusedVariables false
set_option maxRecDepth 100000
variable {B F : Nat} {G : World → Prop}
theorem p10 (hst : ∀ w w', G w → Below B w w' → G w') : FnOK B glT Tryz.prog G F 10 c10 := fn_ok hst (by kernel_rfl) (by kernel_rfl) ⟨_, Tryz.func10, by kernel_rfl, rfl⟩
theorem p19 (hst : ∀ w w', G w → Below B w w' → G w') : FnOK B glT Tryz.prog G F 19 c19 := fn_ok hst (by kernel_rfl) (by kernel_rfl) ⟨_, Tryz.func19, by kernel_rfl, rfl⟩
theorem p36 (hst : ∀ w w', G w → Below B w w' → G w') : FnOK B glT Tryz.prog G F 36 c36 := fn_ok hst (by kernel_rfl) (by kernel_rfl) ⟨_, Tryz.func36, by kernel_rfl, rfl⟩
theorem p48 (hst : ∀ w w', G w → Below B w w' → G w') : FnOK B glT Tryz.prog G F 48 c48 := fn_ok hst (by kernel_rfl) (by kernel_rfl) ⟨_, Tryz.func48, by kernel_rfl, rfl⟩
theorem p62 (hst : ∀ w w', G w → Below B w w' → G w') : FnOK B glT Tryz.prog G F 62 c62 := fn_ok hst (by kernel_rfl) (by kernel_rfl) ⟨_, Tryz.func62, by kernel_rfl, rfl⟩
theorem p80 (hst : ∀ w w', G w → Below B w w' → G w') : FnOK B glT Tryz.prog G F 80 c80 := fn_ok hst (by kernel_rfl) (by kernel_rfl) ⟨_, Tryz.func80, by kernel_rfl, rfl⟩
theorem p84 (hst : ∀ w w', G w → Below B w w' → G w') : FnOK B glT Tryz.prog G F 84 c84 := fn_ok hst (by kernel_rfl) (by kernel_rfl) ⟨_, Tryz.func84, by kernel_rfl, rfl⟩
theorem p89 (hst : ∀ w w', G w → Below B w w' → G w') : FnOK B glT Tryz.prog G F 89 c89 := fn_ok hst (by kernel_rfl) (by kernel_rfl) ⟨_, Tryz.func89, by kernel_rfl, rfl⟩
theorem p121 (hst : ∀ w w', G w → Below B w w' → G w') : FnOK B glT Tryz.prog G F 121 c121 := fn_ok hst (by kernel_rfl) (by kernel_rfl) ⟨_, Tryz.func121, by kernel_rfl, rfl⟩
theorem p125 (hst : ∀ w w', G w → Below B w w' → G w') : FnOK B glT Tryz.prog G F 125 c125 := fn_ok hst (by kernel_rfl) (by kernel_rfl) ⟨_, Tryz.func125, by kernel_rfl, rfl⟩
theorem p142 (hst : ∀ w w', G w → Below B w w' → G w') : FnOK B glT Tryz.prog G F 142 c142 := fn_ok hst (by kernel_rfl) (by kernel_rfl) ⟨_, Tryz.func142, by kernel_rfl, rfl⟩
theorem p158 (hst : ∀ w w', G w → Below B w w' → G w') : FnOK B glT Tryz.prog G F 158 c158 := fn_ok hst (by kernel_rfl) (by kernel_rfl) ⟨_, Tryz.func158, by kernel_rfl, rfl⟩
theorem p162 (hst : ∀ w w', G w → Below B w w' → G w') : FnOK B glT Tryz.prog G F 162 c162 := fn_ok hst (by kernel_rfl) (by kernel_rfl) ⟨_, Tryz.func162, by kernel_rfl, rfl⟩
theorem p166 (hst : ∀ w w', G w → Below B w w' → G w') : FnOK B glT Tryz.prog G F 166 c166 := fn_ok hst (by kernel_rfl) (by kernel_rfl) ⟨_, Tryz.func166, by kernel_rfl, rfl⟩
theorem p172 (hst : ∀ w w', G w → Below B w w' → G w') : FnOK B glT Tryz.prog G F 172 c172 := fn_ok hst (by kernel_rfl) (by kernel_rfl) ⟨_, Tryz.func172, by kernel_rfl, rfl⟩
theorem p189 (hst : ∀ w w', G w → Below B w w' → G w') : FnOK B glT Tryz.prog G F 189 c189 := fn_ok hst (by kernel_rfl) (by kernel_rfl) ⟨_, Tryz.func189, by kernel_rfl, rfl⟩
theorem p198 (hst : ∀ w w', G w → Below B w w' → G w') : FnOK B glT Tryz.prog G F 198 c198 := fn_ok hst (by kernel_rfl) (by kernel_rfl) ⟨_, Tryz.func198, by kernel_rfl, rfl⟩
theorem p212 (hst : ∀ w w', G w → Below B w w' → G w') : FnOK B glT Tryz.prog G F 212 c212 := fn_ok hst (by kernel_rfl) (by kernel_rfl) ⟨_, Tryz.func212, by kernel_rfl, rfl⟩
theorem p216 (hst : ∀ w w', G w → Below B w w' → G w') : FnOK B glT Tryz.prog G F 216 c216 := fn_ok hst (by kernel_rfl) (by kernel_rfl) ⟨_, Tryz.func216, by kernel_rfl, rfl⟩
theorem p220 (hst : ∀ w w', G w → Below B w w' → G w') : FnOK B glT Tryz.prog G F 220 c220 := fn_ok hst (by kernel_rfl) (by kernel_rfl) ⟨_, Tryz.func220, by kernel_rfl, rfl⟩
theorem p224 (hst : ∀ w w', G w → Below B w w' → G w') : FnOK B glT Tryz.prog G F 224 c224 := fn_ok hst (by kernel_rfl) (by kernel_rfl) ⟨_, Tryz.func224, by kernel_rfl, rfl⟩
theorem p229 (hst : ∀ w w', G w → Below B w w' → G w') : FnOK B glT Tryz.prog G F 229 c229 := fn_ok hst (by kernel_rfl) (by kernel_rfl) ⟨_, Tryz.func229, by kernel_rfl, rfl⟩
theorem p261 (hst : ∀ w w', G w → Below B w w' → G w') : FnOK B glT Tryz.prog G F 261 c261 := fn_ok hst (by kernel_rfl) (by kernel_rfl) ⟨_, Tryz.func261, by kernel_rfl, rfl⟩
theorem p276 (hst : ∀ w w', G w → Below B w w' → G w') : FnOK B glT Tryz.prog G F 276 c276 := fn_ok hst (by kernel_rfl) (by kernel_rfl) ⟨_, Tryz.func276, by kernel_rfl, rfl⟩
theorem p280 (hst : ∀ w w', G w → Below B w w' → G w') : FnOK B glT Tryz.prog G F 280 c280 := fn_ok hst (by kernel_rfl) (by kernel_rfl) ⟨_, Tryz.func280, by kernel_rfl, rfl⟩
theorem p289 (hst : ∀ w w', G w → Below B w w' → G w') : FnOK B glT Tryz.prog G F 289 c289 := fn_ok hst (by kernel_rfl) (by kernel_rfl) ⟨_, Tryz.func289, by kernel_rfl, rfl⟩
end Go.Zh.T
