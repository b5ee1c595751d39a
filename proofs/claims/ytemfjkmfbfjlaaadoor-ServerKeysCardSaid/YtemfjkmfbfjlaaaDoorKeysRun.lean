/- ServerKeys over whatever seed: the run, its branches told. -/
import Derived.Test.YtemfjkmfbfjlaaaDoorRows
import Derived.KernelRfl
import Derived.Test.YtemfjkmfbfjlaaaDoorEng2
set_option linter.all false
namespace Go.Proofs.YtemfjkmfbfjlaaaDoor.keys
open Go Go.Ideal Go.Proofs

def key (s c : Int) : Int := IntKind.u32.wrap ((BitVec.ofInt IntKind.u32.bits (IntKind.u32.wrap s) ^^^ BitVec.ofInt IntKind.u32.bits (IntKind.u32.wrap (IntKind.u32.wrap c * 2654435761))).toNat : Nat)
def alike (s a b : Int) : Prop := Value.bool (key s a == key s b) = .bool false
def turned (s a b : Int) : Prop := Value.bool (key s a == IntKind.u32.wrap (4294967295 - key s b)) = .bool false

def pairs : List (Nat × Nat) := [1, 2, 3, 4, 5, 6, 7, 8].flatMap fun a => [1, 2, 3, 4, 5, 6, 7, 8].map fun b => (a, b)
def told : List (Nat × Tip) := pairs.flatMap fun p =>
  let more := if p.2 = 1 then (if p.1 = 1 then 1 else 2) else 0
  if p.1 = p.2 then [(more + 10, .b false)] else [(more + 5, .b false), (0, .b false), (0, .b false), (0, .b false), (0, .b false), (0, .b false)]
def conds (s : Int) : List Prop := (pairs.flatMap fun p =>
  if p.1 = p.2 then [turned s p.1 p.2] else [alike s p.1 p.2, alike s p.1 p.2, alike s p.1 p.2, alike s p.1 p.2, alike s p.1 p.2, turned s p.1 p.2]).reverse

def awakeD : FuncId → Option PrimD := fun f => match Nat.beq f 5 with | true => some fun args h => (match args with | [] => some (True, .bool true, h) | _ => none) | false => none

set_option maxRecDepth 100000 in
theorem run (s : Int) : icallT (Env.of Tryd.prog) (fun _ => false) awakeD 1000 3 [.int .u64 s] ⟨told, []⟩ IHeap.empty = some (⟨[], True :: conds s⟩, .bool true, IHeap.empty) := by kernel_rfl

end Go.Proofs.YtemfjkmfbfjlaaaDoor.keys
