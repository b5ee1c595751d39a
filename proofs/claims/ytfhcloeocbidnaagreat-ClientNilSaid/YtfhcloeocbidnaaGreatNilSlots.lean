/- The law at the slots from 1 to 8. -/
import Derived.Test.YtfhcloeocbidnaaGreatNilRuns
set_option linter.all false
namespace Go.Proofs.YtfhcloeocbidnaaGreat.nil
open Go Go.Ideal Go.Proofs
set_option maxRecDepth 100000
theorem run_1 (len cap : Nat) (part : Int) : seen (runN mid 1 (some_ len cap) part) = some ([(.bool (decide ((len : Int) > 500)), false)], .bool true) := by kernel_rfl
theorem run0_1 (part : Int) : seen (runN mid 1 (.slice none 0 0) part) = some ([(.bool false, false)], .bool true) := by kernel_rfl
theorem run_2 (len cap : Nat) (part : Int) : seen (runN mid 2 (some_ len cap) part) = some ([(.bool (decide ((len : Int) > 500)), false)], .bool true) := by kernel_rfl
theorem run0_2 (part : Int) : seen (runN mid 2 (.slice none 0 0) part) = some ([(.bool false, false)], .bool true) := by kernel_rfl
theorem run_3 (len cap : Nat) (part : Int) : seen (runN mid 3 (some_ len cap) part) = some ([(.bool (decide ((len : Int) > 500)), false)], .bool true) := by kernel_rfl
theorem run0_3 (part : Int) : seen (runN mid 3 (.slice none 0 0) part) = some ([(.bool false, false)], .bool true) := by kernel_rfl
theorem run_4 (len cap : Nat) (part : Int) : seen (runN mid 4 (some_ len cap) part) = some ([(.bool (decide ((len : Int) > 500)), false)], .bool true) := by kernel_rfl
theorem run0_4 (part : Int) : seen (runN mid 4 (.slice none 0 0) part) = some ([(.bool false, false)], .bool true) := by kernel_rfl
theorem run_5 (len cap : Nat) (part : Int) : seen (runN mid 5 (some_ len cap) part) = some ([(.bool (decide ((len : Int) > 500)), false)], .bool true) := by kernel_rfl
theorem run0_5 (part : Int) : seen (runN mid 5 (.slice none 0 0) part) = some ([(.bool false, false)], .bool true) := by kernel_rfl
theorem run_6 (len cap : Nat) (part : Int) : seen (runN mid 6 (some_ len cap) part) = some ([(.bool (decide ((len : Int) > 500)), false)], .bool true) := by kernel_rfl
theorem run0_6 (part : Int) : seen (runN mid 6 (.slice none 0 0) part) = some ([(.bool false, false)], .bool true) := by kernel_rfl
theorem run_7 (len cap : Nat) (part : Int) : seen (runN mid 7 (some_ len cap) part) = some ([(.bool (decide ((len : Int) > 500)), false)], .bool true) := by kernel_rfl
theorem run0_7 (part : Int) : seen (runN mid 7 (.slice none 0 0) part) = some ([(.bool false, false)], .bool true) := by kernel_rfl
theorem run_8 (len cap : Nat) (part : Int) : seen (runN mid 8 (some_ len cap) part) = some ([(.bool (decide ((len : Int) > 500)), false)], .bool true) := by kernel_rfl
theorem run0_8 (part : Int) : seen (runN mid 8 (.slice none 0 0) part) = some ([(.bool false, false)], .bool true) := by kernel_rfl
end Go.Proofs.YtfhcloeocbidnaaGreat.nil
