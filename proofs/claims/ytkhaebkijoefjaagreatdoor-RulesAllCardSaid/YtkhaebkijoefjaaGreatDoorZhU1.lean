/- ZhU1: runs with the kinds of characters as summaries. WRITTEN BY PROGRAM (wip/tools/mku1.py). -/
import Derived.Test.YtkhaebkijoefjaaGreatDoorZhU0
namespace Go.Zh.T
open Go Go.Zh Go.RowKit Go.Proofs
set_option linter.unusedVariables false
set_option maxRecDepth 100000

def tabK : Tr (List Sum) := (.nd (.nd .nil none (.nd .nil none (.nd .nil none (.nd (.nd .nil none (.nd (.nd .nil (some kinds173) .nil) none .nil)) none .nil)))) none (.nd (.nd .nil none (.nd (.nd (.nd (.nd .nil none (.nd .nil (some kinds196) .nil)) none .nil) none .nil) none .nil)) none .nil))
theorem tabK_ok {B0 : Nat} : ∀ (f : Nat) (l : List Sum), tabK.get f = some l → ∀ S ∈ l, S.f = f ∧ SumOK B0 glT A0 Tryz.prog S :=
  allT_nd (fun x h => nomatch h) (allT_nd (fun x h => nomatch h) (allT_nil _) (allT_nd (fun x h => nomatch h) (allT_nil _) (allT_nd (fun x h => nomatch h) (allT_nil _) (allT_nd (fun x h => nomatch h) (allT_nd (fun x h => nomatch h) (allT_nil _) (allT_nd (fun x h => nomatch h) (allT_nd (fun x h => by cases h; exact kinds173_ok) (allT_nil _) (allT_nil _)) (allT_nil _))) (allT_nil _))))) (allT_nd (fun x h => nomatch h) (allT_nd (fun x h => nomatch h) (allT_nil _) (allT_nd (fun x h => nomatch h) (allT_nd (fun x h => nomatch h) (allT_nd (fun x h => nomatch h) (allT_nd (fun x h => nomatch h) (allT_nil _) (allT_nd (fun x h => by cases h; exact kinds196_ok) (allT_nil _) (allT_nil _))) (allT_nil _)) (allT_nil _)) (allT_nil _))) (allT_nil _))

noncomputable def base1 : PolyCall := sumCall tabK bStr
theorem base1_ok {B0 : Nat} : ∀ B', B0 ≤ B' → ∀ β, CallOK B' glT Tryz.prog (Glob B0 glT A0) (base1 β) := sumCall_ok tabK_ok fun B' hB β => bStr_ok β
noncomputable def inner1 : PolyCall := acall tbl1 5000 base1 200
theorem inner1_ok {B0 : Nat} : ∀ B', B0 ≤ B' → ∀ β, CallOK B' glT Tryz.prog (Glob B0 glT A0) (inner1 β) := fun B' hB β =>
  acall_ok (tbl1_ok (fun w w' h hb => Glob.keep' hB w w' h hb)) (fun β => base1_ok B' hB β) 200 β
end Go.Zh.T
