/- The law's fixed fact: awake() answers true, by a run in the kernel; and so it may stand for the call. -/
import Derived.Test.YtemfjkmfbfjlaaaDoorInsRuns
import Derived.Test.YtemfjkmfbfjlaaaDoorKeysLaw
import Derived.Test.YtemfjkmfbfjlaaaDoorEng2
set_option linter.all false
namespace Go.Proofs.YtemfjkmfbfjlaaaDoor.keys
open Go Go.Ideal Go.Proofs
set_option linter.all false

def isTrue (x : Option (Value × IHeap)) : Bool := match x with | some (.bool true, _) => true | _ => false

set_option maxRecDepth 100000 in
theorem awake_true : isTrue (icallF (Env.of Tryd.prog) (insPrim 28) 100000 5 [] IHeap.empty) = true := by kernel_rfl

theorem awake_run : ∃ h1, icall (Env.of Tryd.prog) (insPrim 28) 100000 5 [] IHeap.empty = some (.bool true, h1) := by
  have h := awake_true
  unfold isTrue at h
  split at h
  · rename_i h1 e
    exact ⟨h1, icallF_sound _ _ _ _ _ _ _ e⟩
  · cases h

theorem awakeD_closed {f : FuncId} {g : List Value → IHeap → Option (Value × IHeap)} (e : primsOf awakeD f = some g) : f = 5 ∧ ∀ args h r, g args h = some r → closedPrim (.bool true) args h = some r := by
  unfold primsOf awakeD at e
  cases hb : Nat.beq f 5 with
  | false => simp [hb] at e
  | true =>
    simp only [hb, Option.some.injEq] at e
    subst e
    refine ⟨Nat.eq_of_beq_eq_true hb, fun args h r k => ?_⟩
    cases args with
    | nil => simp only [if_true, Option.some.injEq] at k; subst k; rfl
    | cons a l => cases k

theorem awake_ok : PrimsOK Tryd.prog (primsOf awakeD) := by
  obtain ⟨h1, hr⟩ := awake_run
  refine ⟨fun f g e => ?_, fun f g e => ?_⟩
  · obtain ⟨_, k⟩ := awakeD_closed e
    intro _ args h v h' he hw
    exact closed_mono (.bool true) 0 args h v h' (k _ _ _ he) hw
  · obtain ⟨rfl, k⟩ := awakeD_closed e
    exact fun args h u h' he φ w args' hw hh _ ha => closed_sim ins_ok follows hr rfl args h u h' (k _ _ _ he) φ w args' hw hh ha

end Go.Proofs.YtemfjkmfbfjlaaaDoor.keys
