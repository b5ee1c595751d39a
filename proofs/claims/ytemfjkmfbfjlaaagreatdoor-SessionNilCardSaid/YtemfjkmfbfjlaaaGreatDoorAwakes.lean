/- The laws' fixed facts, by runs in the kernel; and so they may stand for the calls. -/
import Derived.Test.YtemfjkmfbfjlaaaGreatDoorInsRuns
import Derived.Test.YtemfjkmfbfjlaaaGreatDoorEng2
set_option linter.all false
namespace Go.Proofs.YtemfjkmfbfjlaaaGreatDoor.nil
open Go Go.Ideal Go.Proofs
set_option linter.all false

def isTrue (x : Option (Value × IHeap)) : Bool := match x with | some (.bool true, _) => true | _ => false

set_option maxRecDepth 100000 in
theorem awake_true5 : isTrue (icallF (Env.of Tryz.prog) (insPrim 81) 100000 5 [] IHeap.empty) = true := by kernel_rfl
set_option maxRecDepth 100000 in
theorem awake_true16 : isTrue (icallF (Env.of Tryz.prog) (insPrim 81) 100000 16 [] IHeap.empty) = true := by kernel_rfl

theorem run_of {f : FuncId} (h : isTrue (icallF (Env.of Tryz.prog) (insPrim 81) 100000 f [] IHeap.empty) = true) : ∃ h1, icall (Env.of Tryz.prog) (insPrim 81) 100000 f [] IHeap.empty = some (.bool true, h1) := by
  unfold isTrue at h
  split at h
  · rename_i h1 e
    exact ⟨h1, icallF_sound _ _ _ _ _ _ _ e⟩
  · cases h

def awakeD (a : Nat) : FuncId → Option PrimD := fun f => match Nat.beq f a with | true => some fun args h => (match args with | [] => some (True, .bool true, h) | _ => none) | false => none

theorem awakeD_closed {a : Nat} {f : FuncId} {g : List Value → IHeap → Option (Value × IHeap)} (e : primsOf (awakeD a) f = some g) : f = a ∧ ∀ args h r, g args h = some r → closedPrim (.bool true) args h = some r := by
  unfold primsOf awakeD at e
  cases hb : Nat.beq f a with
  | false => simp [hb] at e
  | true =>
    simp only [hb, Option.some.injEq] at e
    subst e
    refine ⟨Nat.eq_of_beq_eq_true hb, fun args h r k => ?_⟩
    cases args with
    | nil => simp only [if_true, Option.some.injEq] at k; subst k; rfl
    | cons a l => cases k

theorem awake_ok {a : Nat} (ht : isTrue (icallF (Env.of Tryz.prog) (insPrim 81) 100000 a [] IHeap.empty) = true) : PrimsOK Tryz.prog (primsOf (awakeD a)) := by
  obtain ⟨h1, hr⟩ := run_of ht
  refine ⟨fun f g e => ?_, fun f g e => ?_⟩
  · obtain ⟨_, k⟩ := awakeD_closed e
    intro _ args h v h' he hw
    exact closed_mono (.bool true) 0 args h v h' (k _ _ _ he) hw
  · obtain ⟨rfl, k⟩ := awakeD_closed e
    exact fun args h u h' he φ w args' hw hh _ ha => closed_sim ins_ok follows hr rfl args h u h' (k _ _ _ he) φ w args' hw hh ha

end Go.Proofs.YtemfjkmfbfjlaaaGreatDoor.nil
