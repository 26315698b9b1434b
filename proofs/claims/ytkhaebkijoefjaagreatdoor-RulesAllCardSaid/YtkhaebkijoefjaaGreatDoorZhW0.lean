/- ZhW0: runs with the lines as summaries. WRITTEN BY PROGRAM (wip/tools/mkw0.py). -/
import Derived.Test.YtkhaebkijoefjaaGreatDoorZhV0
import Derived.Test.YtkhaebkijoefjaaGreatDoorZhV1
import Derived.Test.YtkhaebkijoefjaaGreatDoorZhV2
import Derived.Test.YtkhaebkijoefjaaGreatDoorZhV3
import Derived.Test.YtkhaebkijoefjaaGreatDoorZhV4
import Derived.Test.YtkhaebkijoefjaaGreatDoorZhV5
import Derived.Test.YtkhaebkijoefjaaGreatDoorZhV6
import Derived.Test.YtkhaebkijoefjaaGreatDoorZhV7
namespace Go.Zh.T
open Go Go.Zh Go.RowKit Go.Proofs
set_option linter.unusedVariables false
set_option maxRecDepth 100000

theorem all_nil {B0 f : Nat} : ∀ S ∈ ([] : List Sum), S.f = f ∧ SumOK B0 glT A0 Tryz.prog S := fun S hS => nomatch hS
theorem all_cons {B0 f : Nat} {x : Sum} {l : List Sum} (hf : x.f = f) (hx : SumOK B0 glT A0 Tryz.prog x) (hl : ∀ S ∈ l, S.f = f ∧ SumOK B0 glT A0 Tryz.prog S) : ∀ S ∈ x :: l, S.f = f ∧ SumOK B0 glT A0 Tryz.prog S := fun S hS => by
  cases hS with
  | head => exact ⟨hf, hx⟩
  | tail _ h => exact hl S h

def lines34 : List Sum := [s34_0, s34_1, s34_2, s34_3, s34_4, s34_5, s34_6, s34_7, s34_8, s34_9, s34_10, s34_11, s34_12, s34_13, s34_14, s34_15, s34_16, s34_17, s34_18, s34_19, s34_20, s34_21, s34_22, s34_23, s34_24, s34_25, s34_26, s34_27, s34_28, s34_29, s34_30, s34_31, s34_32, s34_33, s34_34, s34_35, s34_36, s34_37, s34_38, s34_39, s34_40, s34_41, s34_42, s34_43]
theorem lines34_ok {B0 : Nat} : ∀ S ∈ lines34, S.f = 34 ∧ SumOK B0 glT A0 Tryz.prog S := (all_cons rfl s34_0_ok (all_cons rfl s34_1_ok (all_cons rfl s34_2_ok (all_cons rfl s34_3_ok (all_cons rfl s34_4_ok (all_cons rfl s34_5_ok (all_cons rfl s34_6_ok (all_cons rfl s34_7_ok (all_cons rfl s34_8_ok (all_cons rfl s34_9_ok (all_cons rfl s34_10_ok (all_cons rfl s34_11_ok (all_cons rfl s34_12_ok (all_cons rfl s34_13_ok (all_cons rfl s34_14_ok (all_cons rfl s34_15_ok (all_cons rfl s34_16_ok (all_cons rfl s34_17_ok (all_cons rfl s34_18_ok (all_cons rfl s34_19_ok (all_cons rfl s34_20_ok (all_cons rfl s34_21_ok (all_cons rfl s34_22_ok (all_cons rfl s34_23_ok (all_cons rfl s34_24_ok (all_cons rfl s34_25_ok (all_cons rfl s34_26_ok (all_cons rfl s34_27_ok (all_cons rfl s34_28_ok (all_cons rfl s34_29_ok (all_cons rfl s34_30_ok (all_cons rfl s34_31_ok (all_cons rfl s34_32_ok (all_cons rfl s34_33_ok (all_cons rfl s34_34_ok (all_cons rfl s34_35_ok (all_cons rfl s34_36_ok (all_cons rfl s34_37_ok (all_cons rfl s34_38_ok (all_cons rfl s34_39_ok (all_cons rfl s34_40_ok (all_cons rfl s34_41_ok (all_cons rfl s34_42_ok (all_cons rfl s34_43_ok all_nil))))))))))))))))))))))))))))))))))))))))))))
def lines36 : List Sum := [s36_0, s36_1, s36_2, s36_3, s36_4, s36_5, s36_6, s36_7, s36_8, s36_9, s36_10, s36_11, s36_12, s36_13, s36_14, s36_15, s36_16, s36_17, s36_18, s36_19, s36_20, s36_21, s36_22, s36_23, s36_24, s36_25, s36_26, s36_27, s36_28, s36_29, s36_30, s36_31, s36_32, s36_33, s36_34, s36_35, s36_36, s36_37, s36_38, s36_39, s36_40, s36_41, s36_42, s36_43]
theorem lines36_ok {B0 : Nat} : ∀ S ∈ lines36, S.f = 36 ∧ SumOK B0 glT A0 Tryz.prog S := (all_cons rfl s36_0_ok (all_cons rfl s36_1_ok (all_cons rfl s36_2_ok (all_cons rfl s36_3_ok (all_cons rfl s36_4_ok (all_cons rfl s36_5_ok (all_cons rfl s36_6_ok (all_cons rfl s36_7_ok (all_cons rfl s36_8_ok (all_cons rfl s36_9_ok (all_cons rfl s36_10_ok (all_cons rfl s36_11_ok (all_cons rfl s36_12_ok (all_cons rfl s36_13_ok (all_cons rfl s36_14_ok (all_cons rfl s36_15_ok (all_cons rfl s36_16_ok (all_cons rfl s36_17_ok (all_cons rfl s36_18_ok (all_cons rfl s36_19_ok (all_cons rfl s36_20_ok (all_cons rfl s36_21_ok (all_cons rfl s36_22_ok (all_cons rfl s36_23_ok (all_cons rfl s36_24_ok (all_cons rfl s36_25_ok (all_cons rfl s36_26_ok (all_cons rfl s36_27_ok (all_cons rfl s36_28_ok (all_cons rfl s36_29_ok (all_cons rfl s36_30_ok (all_cons rfl s36_31_ok (all_cons rfl s36_32_ok (all_cons rfl s36_33_ok (all_cons rfl s36_34_ok (all_cons rfl s36_35_ok (all_cons rfl s36_36_ok (all_cons rfl s36_37_ok (all_cons rfl s36_38_ok (all_cons rfl s36_39_ok (all_cons rfl s36_40_ok (all_cons rfl s36_41_ok (all_cons rfl s36_42_ok (all_cons rfl s36_43_ok all_nil))))))))))))))))))))))))))))))))))))))))))))

def tab2 : Tr (List Sum) := (.nd (.nd .nil none (.nd .nil none (.nd .nil none (.nd (.nd .nil none (.nd (.nd .nil (some kinds173) .nil) none .nil)) none .nil)))) none (.nd (.nd .nil none (.nd (.nd (.nd (.nd .nil none (.nd .nil (some kinds196) .nil)) (some lines36) .nil) none .nil) none .nil)) none (.nd (.nd (.nd (.nd .nil (some lines34) .nil) none .nil) none .nil) none .nil)))
theorem tab2_ok {B0 : Nat} : ∀ (f : Nat) (l : List Sum), tab2.get f = some l → ∀ S ∈ l, S.f = f ∧ SumOK B0 glT A0 Tryz.prog S :=
  allT_nd (fun x h => nomatch h) (allT_nd (fun x h => nomatch h) (allT_nil _) (allT_nd (fun x h => nomatch h) (allT_nil _) (allT_nd (fun x h => nomatch h) (allT_nil _) (allT_nd (fun x h => nomatch h) (allT_nd (fun x h => nomatch h) (allT_nil _) (allT_nd (fun x h => nomatch h) (allT_nd (fun x h => by cases h; exact kinds173_ok) (allT_nil _) (allT_nil _)) (allT_nil _))) (allT_nil _))))) (allT_nd (fun x h => nomatch h) (allT_nd (fun x h => nomatch h) (allT_nil _) (allT_nd (fun x h => nomatch h) (allT_nd (fun x h => nomatch h) (allT_nd (fun x h => by cases h; exact lines36_ok) (allT_nd (fun x h => nomatch h) (allT_nil _) (allT_nd (fun x h => by cases h; exact kinds196_ok) (allT_nil _) (allT_nil _))) (allT_nil _)) (allT_nil _)) (allT_nil _))) (allT_nd (fun x h => nomatch h) (allT_nd (fun x h => nomatch h) (allT_nd (fun x h => nomatch h) (allT_nd (fun x h => by cases h; exact lines34_ok) (allT_nil _) (allT_nil _)) (allT_nil _)) (allT_nil _)) (allT_nil _)))

noncomputable def base2 : PolyCall := sumCall tab2 bStr
theorem base2_ok {B0 : Nat} : ∀ B', B0 ≤ B' → ∀ β, CallOK B' glT Tryz.prog (Glob B0 glT A0) (base2 β) := sumCall_ok tab2_ok fun B' hB β => bStr_ok β
noncomputable def inner2 : PolyCall := acall tbl2 5000 base2 200
theorem inner2_ok {B0 : Nat} : ∀ B', B0 ≤ B' → ∀ β, CallOK B' glT Tryz.prog (Glob B0 glT A0) (inner2 β) := fun B' hB β =>
  acall_ok (tbl2_ok (fun w w' h hb => Glob.keep' hB w w' h hb)) (fun β => base2_ok B' hB β) 200 β
end Go.Zh.T
