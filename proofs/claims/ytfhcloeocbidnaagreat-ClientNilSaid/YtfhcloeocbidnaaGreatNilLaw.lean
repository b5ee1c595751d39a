/- ClientNil, whatever the slot, the bytes and the part: it answers true, and nothing that was there turns. -/
import Derived.Test.YtfhcloeocbidnaaGreatNilSlots
import Derived.Test.YtfhcloeocbidnaaGreatEng2
set_option linter.all false
namespace Go.Proofs.YtfhcloeocbidnaaGreat.nil
open Go Go.Ideal Go.Proofs

/- what a run says, its suppositions met -/
theorem ran {l : List (Option Bool)} {slot : Int} {b : Value} {part : Int} {cons : List (Value × Bool)} (h : seen (runN l slot b part) = some (cons, .bool true)) (hm : ∀ x ∈ cons, x.1 = .bool x.2) :
    ∃ h', icall (Env.of Tryz.prog) (onePrim 6 (.bool true)) 100000 5 [.int .i64 slot, b, .int .u8 part] start = some (.bool true, h') := by
  unfold seen at h
  split at h
  · rename_i s v h' e
    simp only [Option.some.injEq, Prod.mk.injEq] at h
    obtain ⟨rfl, rfl⟩ := h
    exact ⟨h', icallO_sound e hm⟩
  · cases h

theorem all_of (slot : Int) (len cap : Nat) (part : Int) : ∃ h', icall (Env.of Tryz.prog) (onePrim 6 (.bool true)) 100000 5 [.int .i64 slot, some_ len cap, .int .u8 part] start = some (.bool true, h') := by
  by_cases hl : (len : Int) > 500
  · exact ran (run_long slot len cap part) (by intro x hx; simp only [List.mem_singleton] at hx; subst hx; simp [hl])
  by_cases h1 : slot < 1
  · refine ran (run_low slot len cap part) ?_
    have h2 : ¬ slot ≥ 1 := by omega
    intro x hx
    simp only [List.mem_cons, List.not_mem_nil, or_false] at hx
    rcases hx with rfl | rfl | rfl | rfl | rfl | rfl | rfl | rfl <;> simp [h1, h2, hl]
  by_cases h8 : slot > 8
  · refine ran (run_high slot len cap part) ?_
    have h2 : slot ≥ 1 := by omega
    have h3 : ¬ slot ≤ 8 := by omega
    intro x hx
    simp only [List.replicate, List.cons_append, List.nil_append, List.mem_cons, List.not_mem_nil, or_false, or_self_left] at hx
    rcases hx with rfl | rfl | rfl | rfl | rfl | rfl | rfl | rfl | rfl | rfl | rfl | rfl | rfl | rfl | rfl | rfl <;> simp [h1, h2, h3, h8, hl]
  have hm : ∀ x ∈ [((.bool (decide ((len : Int) > 500)) : Value), false)], x.1 = .bool x.2 := by intro x hx; simp only [List.mem_singleton] at hx; subst hx; simp [hl]
  have hs : slot = 1 ∨ slot = 2 ∨ slot = 3 ∨ slot = 4 ∨ slot = 5 ∨ slot = 6 ∨ slot = 7 ∨ slot = 8 := by omega
  rcases hs with rfl | rfl | rfl | rfl | rfl | rfl | rfl | rfl
  · exact ran (run_1 len cap part) hm
  · exact ran (run_2 len cap part) hm
  · exact ran (run_3 len cap part) hm
  · exact ran (run_4 len cap part) hm
  · exact ran (run_5 len cap part) hm
  · exact ran (run_6 len cap part) hm
  · exact ran (run_7 len cap part) hm
  · exact ran (run_8 len cap part) hm

end Go.Proofs.YtfhcloeocbidnaaGreat.nil
