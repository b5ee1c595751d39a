/- The law over arguments that are not known: runs in the kernel, each with what it supposes of the arguments. -/
import Derived.Test.YtfhcloeocbidnaaGreatNilAwake
import Derived.Test.YtfhcloeocbidnaaGreatEng2
set_option linter.all false
namespace Go.Proofs.YtfhcloeocbidnaaGreat.nil
open Go Go.Ideal Go.Proofs
set_option maxRecDepth 100000

def lz : FuncId → Bool := fun f => Nat.beq f 5 || Nat.beq f 25 || Nat.beq f 27 || Nat.beq f 19 || Nat.beq f 8
def seen (x : Option (Go.Ideal.Told × Value × IHeap)) : Option (List (Value × Bool) × Value) := match x with | some (s, v, _) => some (s.cons, v) | _ => none
def start : IHeap := ⟨1, 0, .node (some (.ro [])) .leaf .leaf⟩
noncomputable def runN (l : List (Option Bool)) (slot : Int) (b : Value) (part : Int) : Option (Go.Ideal.Told × Value × IHeap) :=
  icallO (Env.of Tryz.prog) (onePrim 6 (.bool true)) lz 100000 5 [.int .i64 slot, b, .int .u8 part] ⟨l, []⟩ start
def some_ (len cap : Nat) : Value := .slice (some ⟨0, 0, none⟩) len cap
def long : List (Option Bool) := [none, none, none, none, some true]
def mid : List (Option Bool) := [none, none, none, none, some false]
def low : List (Option Bool) := [none, none, none, none, some false, none, none, none, none, none, some true, some true, some true, some true, none, none, none, none, none, none, none, some false, some false, some false]
def high : List (Option Bool) := [none, none, none, none, some false, none, none, none, none, none, some false, some false, some false, some true, none, none, none, none, none, none, none, some true, some true, some true] ++ List.replicate 47 none ++ List.replicate 8 (some true)

theorem run_long (slot : Int) (len cap : Nat) (part : Int) : seen (runN long slot (some_ len cap) part) = some ([(.bool (decide ((len : Int) > 500)), true)], .bool true) := by kernel_rfl
theorem run_low (slot : Int) (len cap : Nat) (part : Int) : seen (runN low slot (some_ len cap) part) = some ([
    (.bool (decide (slot ≥ 1)), false), (.bool (decide (slot ≥ 1)), false), (.bool (decide (slot ≥ 1)), false),
    (.bool true, true), (.bool (decide (slot < 1)), true), (.bool (decide (slot < 1)), true), (.bool (decide (slot < 1)), true), (.bool (decide ((len : Int) > 500)), false)], .bool true) := by kernel_rfl
theorem run_high (slot : Int) (len cap : Nat) (part : Int) : seen (runN high slot (some_ len cap) part) = some (List.replicate 8 (.bool (false == decide (slot ≤ 8)), true) ++ [
    (.bool (decide (slot ≥ 1)), true), (.bool (decide (slot ≥ 1)), true), (.bool (decide (slot ≥ 1)), true),
    (.bool (decide (slot > 8)), true), (.bool (decide (slot < 1)), false), (.bool (decide (slot < 1)), false), (.bool (decide (slot < 1)), false), (.bool (decide ((len : Int) > 500)), false)], .bool true) := by kernel_rfl
theorem run_low0 (slot : Int) (part : Int) : seen (runN low slot (.slice none 0 0) part) = some ([
    (.bool (decide (slot ≥ 1)), false), (.bool (decide (slot ≥ 1)), false), (.bool (decide (slot ≥ 1)), false),
    (.bool true, true), (.bool (decide (slot < 1)), true), (.bool (decide (slot < 1)), true), (.bool (decide (slot < 1)), true), (.bool false, false)], .bool true) := by kernel_rfl
theorem run_high0 (slot : Int) (part : Int) : seen (runN high slot (.slice none 0 0) part) = some (List.replicate 8 (.bool (false == decide (slot ≤ 8)), true) ++ [
    (.bool (decide (slot ≥ 1)), true), (.bool (decide (slot ≥ 1)), true), (.bool (decide (slot ≥ 1)), true),
    (.bool (decide (slot > 8)), true), (.bool (decide (slot < 1)), false), (.bool (decide (slot < 1)), false), (.bool (decide (slot < 1)), false), (.bool false, false)], .bool true) := by kernel_rfl

end Go.Proofs.YtfhcloeocbidnaaGreat.nil
