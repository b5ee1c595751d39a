/- The keys of one seed differ, and none is another one turned. -/
import Derived.Test.YtemfjkmfbfjlaaaDoorKeysRun
set_option linter.all false
namespace Go.Proofs.YtemfjkmfbfjlaaaDoor.keys
open Go Go.Ideal Go.Proofs

theorem wrap_u32 (n : Nat) (h : n < 4294967296) : IntKind.u32.wrap (n : Int) = n := by
  simp [IntKind.wrap, IntKind.signed, IntKind.bits]; omega
theorem wrap_u32' (n : Nat) (h : n < 4294967296) : IntKind.u32.wrap (4294967295 - (n : Int)) = (4294967295 - n : Nat) := by
  simp [IntKind.wrap, IntKind.signed, IntKind.bits]; omega

def part (c : Int) : BitVec 32 := BitVec.ofInt 32 (IntKind.u32.wrap (IntKind.u32.wrap c * 2654435761))
theorem key_eq (s c : Int) : key s c = ((BitVec.ofInt 32 (IntKind.u32.wrap s) ^^^ part c).toNat : Nat) := wrap_u32 _ (BitVec.isLt _)

theorem alike_of (s a b : Int) (h : part a ≠ part b) : alike s a b := by
  unfold alike
  rw [key_eq, key_eq]
  generalize BitVec.ofInt 32 (IntKind.u32.wrap s) = x
  have : ¬ ((x ^^^ part a).toNat : Int) = ((x ^^^ part b).toNat : Int) := by
    intro e
    have e1 : x ^^^ part a = x ^^^ part b := BitVec.eq_of_toNat_eq (by omega)
    exact h (by simpa using congrArg (x ^^^ ·) e1)
  rw [beq_false_of_ne this]

theorem turned_of (s a b : Int) (h : part a ≠ ~~~ part b) : turned s a b := by
  unfold turned
  rw [key_eq, key_eq]
  generalize BitVec.ofInt 32 (IntKind.u32.wrap s) = x
  have hb := (x ^^^ part b).isLt
  rw [wrap_u32' _ hb]
  have : ¬ ((x ^^^ part a).toNat : Int) = ((4294967295 - (x ^^^ part b).toNat : Nat) : Int) := by
    intro e
    have e0 : (~~~ (x ^^^ part b)).toNat = 4294967295 - (x ^^^ part b).toNat := by rw [BitVec.toNat_not]
    have e1 : x ^^^ part a = ~~~ (x ^^^ part b) := BitVec.eq_of_toNat_eq (by rw [e0]; omega)
    refine h ?_
    have e2 : x ^^^ (x ^^^ part a) = x ^^^ ~~~ (x ^^^ part b) := congrArg (x ^^^ ·) e1
    rw [← BitVec.xor_assoc, BitVec.xor_self, BitVec.zero_xor] at e2
    rw [e2]
    ext i hi
    simp
  rw [beq_false_of_ne this]

theorem parts : ∀ p ∈ pairs, (p.1 = p.2 ∨ part p.1 ≠ part p.2) ∧ part p.1 ≠ ~~~ part p.2 := by decide +kernel

theorem met (s : Int) : (⟨[], True :: conds s⟩ : Tell).met := by
  intro q hq
  rcases List.mem_cons.1 hq with rfl | hq
  · trivial
  simp only [conds, List.mem_reverse, List.mem_flatMap] at hq
  obtain ⟨p, hp, hq⟩ := hq
  obtain ⟨h1, h2⟩ := parts p hp
  split at hq
  · simp only [List.mem_singleton] at hq
    subst hq
    exact turned_of _ _ _ h2
  · rename_i hne
    simp only [List.mem_cons, List.not_mem_nil, or_false] at hq
    rcases hq with rfl | rfl | rfl | rfl | rfl | rfl
    all_goals first | exact alike_of _ _ _ (h1.resolve_left hne) | exact turned_of _ _ _ h2

theorem answers (s : Int) : icall (Env.of Tryd.prog) (primsOf awakeD) 1000 3 [.int .u64 s] IHeap.empty = some (.bool true, IHeap.empty) := icallT_spec (fun _ h => by cases h) (run s) (met s)

end Go.Proofs.YtemfjkmfbfjlaaaDoor.keys
