/- ZhW1: the law's runs. WRITTEN BY PROGRAM. -/
import Derived.Test.YtkhaebkijoefjaaGreatDoorZhX2
namespace Go.Zh.T
open Go Go.Zh Go.RowKit Go.Proofs
set_option linter.unusedVariables false
set_option maxRecDepth 100000
noncomputable def lawRun (k : Int) : Option Bool := inner3 Bool 3 [.int .i64 k] A0 fun v _ => match v with
  | .bool true => some true
  | _ => none
theorem law_neg (n : Nat) : lawRun (.negSucc n) = some true := by kernel_rfl
theorem law_big (n : Nat) : lawRun (.ofNat (n + 44)) = some true := by kernel_rfl
theorem law_0 : lawRun (.ofNat 0) = some true := by kernel_rfl
theorem law_1 : lawRun (.ofNat 1) = some true := by kernel_rfl
theorem law_2 : lawRun (.ofNat 2) = some true := by kernel_rfl
theorem law_3 : lawRun (.ofNat 3) = some true := by kernel_rfl
theorem law_4 : lawRun (.ofNat 4) = some true := by kernel_rfl
theorem law_5 : lawRun (.ofNat 5) = some true := by kernel_rfl
theorem law_6 : lawRun (.ofNat 6) = some true := by kernel_rfl
theorem law_7 : lawRun (.ofNat 7) = some true := by kernel_rfl
theorem law_8 : lawRun (.ofNat 8) = some true := by kernel_rfl
theorem law_9 : lawRun (.ofNat 9) = some true := by kernel_rfl
theorem law_10 : lawRun (.ofNat 10) = some true := by kernel_rfl
theorem law_11 : lawRun (.ofNat 11) = some true := by kernel_rfl
theorem law_12 : lawRun (.ofNat 12) = some true := by kernel_rfl
theorem law_13 : lawRun (.ofNat 13) = some true := by kernel_rfl
theorem law_14 : lawRun (.ofNat 14) = some true := by kernel_rfl
theorem law_15 : lawRun (.ofNat 15) = some true := by kernel_rfl
theorem law_16 : lawRun (.ofNat 16) = some true := by kernel_rfl
theorem law_17 : lawRun (.ofNat 17) = some true := by kernel_rfl
theorem law_18 : lawRun (.ofNat 18) = some true := by kernel_rfl
theorem law_19 : lawRun (.ofNat 19) = some true := by kernel_rfl
theorem law_20 : lawRun (.ofNat 20) = some true := by kernel_rfl
theorem law_21 : lawRun (.ofNat 21) = some true := by kernel_rfl
theorem law_22 : lawRun (.ofNat 22) = some true := by kernel_rfl
theorem law_23 : lawRun (.ofNat 23) = some true := by kernel_rfl
theorem law_24 : lawRun (.ofNat 24) = some true := by kernel_rfl
theorem law_25 : lawRun (.ofNat 25) = some true := by kernel_rfl
theorem law_26 : lawRun (.ofNat 26) = some true := by kernel_rfl
theorem law_27 : lawRun (.ofNat 27) = some true := by kernel_rfl
theorem law_28 : lawRun (.ofNat 28) = some true := by kernel_rfl
theorem law_29 : lawRun (.ofNat 29) = some true := by kernel_rfl
theorem law_30 : lawRun (.ofNat 30) = some true := by kernel_rfl
theorem law_31 : lawRun (.ofNat 31) = some true := by kernel_rfl
theorem law_32 : lawRun (.ofNat 32) = some true := by kernel_rfl
theorem law_33 : lawRun (.ofNat 33) = some true := by kernel_rfl
theorem law_34 : lawRun (.ofNat 34) = some true := by kernel_rfl
theorem law_35 : lawRun (.ofNat 35) = some true := by kernel_rfl
theorem law_36 : lawRun (.ofNat 36) = some true := by kernel_rfl
theorem law_37 : lawRun (.ofNat 37) = some true := by kernel_rfl
theorem law_38 : lawRun (.ofNat 38) = some true := by kernel_rfl
theorem law_39 : lawRun (.ofNat 39) = some true := by kernel_rfl
theorem law_40 : lawRun (.ofNat 40) = some true := by kernel_rfl
theorem law_41 : lawRun (.ofNat 41) = some true := by kernel_rfl
theorem law_42 : lawRun (.ofNat 42) = some true := by kernel_rfl
theorem law_43 : lawRun (.ofNat 43) = some true := by kernel_rfl
theorem law_nat : ∀ (n : Nat), lawRun (.ofNat n) = some true
  | 0 => law_0
  | 1 => law_1
  | 2 => law_2
  | 3 => law_3
  | 4 => law_4
  | 5 => law_5
  | 6 => law_6
  | 7 => law_7
  | 8 => law_8
  | 9 => law_9
  | 10 => law_10
  | 11 => law_11
  | 12 => law_12
  | 13 => law_13
  | 14 => law_14
  | 15 => law_15
  | 16 => law_16
  | 17 => law_17
  | 18 => law_18
  | 19 => law_19
  | 20 => law_20
  | 21 => law_21
  | 22 => law_22
  | 23 => law_23
  | 24 => law_24
  | 25 => law_25
  | 26 => law_26
  | 27 => law_27
  | 28 => law_28
  | 29 => law_29
  | 30 => law_30
  | 31 => law_31
  | 32 => law_32
  | 33 => law_33
  | 34 => law_34
  | 35 => law_35
  | 36 => law_36
  | 37 => law_37
  | 38 => law_38
  | 39 => law_39
  | 40 => law_40
  | 41 => law_41
  | 42 => law_42
  | 43 => law_43
  | n + 44 => law_big n
theorem law_run : ∀ (k : Int), lawRun k = some true
  | .ofNat n => law_nat n
  | .negSucc n => law_neg n
end Go.Zh.T
