/- The law's fixed fact: awake() answers true, by a run in the kernel. -/
import Derived.Test.YtfhcloeocbidnaaGreatRows
import Derived.KernelRfl
import Derived.Test.YtfhcloeocbidnaaGreatEng2
import Derived.Test.YtfhcloeocbidnaaGreatEng1
set_option linter.all false
namespace Go.Proofs.YtfhcloeocbidnaaGreat.nil
open Go Go.Ideal Go.Proofs

def isTrue (x : Option (Value × IHeap)) : Bool := match x with | some (.bool true, _) => true | _ => false

set_option maxRecDepth 100000 in
theorem awake_true : isTrue (icallF (Env.of Tryz.prog) (fun _ => none) 100000 6 [] IHeap.empty) = true := by kernel_rfl

theorem awake_run : ∃ h1, icall (Env.of Tryz.prog) (fun _ => none) 100000 6 [] IHeap.empty = some (.bool true, h1) := by
  have h := awake_true
  unfold isTrue at h
  split at h
  · rename_i h1 e
    exact ⟨h1, icallF_sound _ _ _ _ _ _ _ e⟩
  · cases h

theorem follows : Tryz.prog.follows .mixedOrders = true := by kernel_rfl

theorem prims : PrimsOK Tryz.prog (onePrim 6 (.bool true)) := by
  obtain ⟨h1, e⟩ := awake_run
  exact onePrim_ok follows e rfl

end Go.Proofs.YtfhcloeocbidnaaGreat.nil
