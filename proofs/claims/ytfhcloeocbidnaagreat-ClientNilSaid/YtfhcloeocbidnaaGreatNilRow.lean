/- ClientNil: from the ideal machine's answer to the row. -/
import Derived.Test.YtfhcloeocbidnaaGreatNilLaw
import Derived.WalkKit
import Derived.ProofKit
set_option linter.all false
namespace Go.Proofs.YtfhcloeocbidnaaGreat.nil
open Go Go.Ideal Go.Proofs Go.ChangeShapes Go.WideShapes Go.ChangeAt Go.RowKit

theorem all_of0 (slot : Int) (part : Int) : ∃ h', icall (Env.of Tryz.prog) (onePrim 6 (.bool true)) 100000 5 [.int .i64 slot, .slice none 0 0, .int .u8 part] start = some (.bool true, h') := by
  by_cases h1 : slot < 1
  · refine ran (run_low0 slot part) ?_
    have h2 : ¬ slot ≥ 1 := by omega
    intro x hx
    simp only [List.mem_cons, List.not_mem_nil, or_false] at hx
    rcases hx with rfl | rfl | rfl | rfl | rfl | rfl | rfl | rfl <;> simp [h1, h2]
  by_cases h8 : slot > 8
  · refine ran (run_high0 slot part) ?_
    have h2 : slot ≥ 1 := by omega
    have h3 : ¬ slot ≤ 8 := by omega
    intro x hx
    simp only [List.replicate, List.cons_append, List.nil_append, List.mem_cons, List.not_mem_nil, or_false, or_self_left] at hx
    rcases hx with rfl | rfl | rfl | rfl | rfl | rfl | rfl | rfl | rfl | rfl | rfl | rfl | rfl | rfl | rfl | rfl <;> simp [h1, h2, h3, h8]
  have hm : ∀ x ∈ [((.bool false : Value), false)], x.1 = .bool x.2 := by intro x hx; simp only [List.mem_singleton] at hx; subst hx; rfl
  have hs : slot = 1 ∨ slot = 2 ∨ slot = 3 ∨ slot = 4 ∨ slot = 5 ∨ slot = 6 ∨ slot = 7 ∨ slot = 8 := by omega
  rcases hs with rfl | rfl | rfl | rfl | rfl | rfl | rfl | rfl
  · exact ran (run0_1 part) hm
  · exact ran (run0_2 part) hm
  · exact ran (run0_3 part) hm
  · exact ran (run0_4 part) hm
  · exact ran (run0_5 part) hm
  · exact ran (run0_6 part) hm
  · exact ran (run0_7 part) hm
  · exact ran (run0_8 part) hm

/- the machine's walk -/
theorem walk_of {W : World} {φ : Emb} {b b' : Value} {slot part : Int} (hφ : ∀ x p, φ x = some p → x = 0 ∧ p.esz = 0 ∧ p.r < W.heap.size) (hb : VRel φ b b')
    (hr : ∃ h', icall (Env.of Tryz.prog) (onePrim 6 (.bool true)) 100000 5 [.int .i64 slot, b, .int .u8 part] start = some (.bool true, h')) :
    Calls Tryz.prog 5 #[.int .i64 slot, b', .int .u8 part] W fun e W' => e = .returned (.bool true) ∧ Grown W W' ∧ ∀ r, r < W.heap.size → W'.heap[r]? = W.heap[r]? := by
  obtain ⟨h', e⟩ := hr
  have hwf : start.wf := by
    intro x hx
    have : 1 ≤ x := hx
    obtain ⟨m, rfl⟩ : ∃ m, x = m + 1 := ⟨x - 1, by omega⟩
    simp only [IHeap.get, start, T.get]
    split <;> rfl
  have hget : ∀ x o, start.get x = some o → x = 0 ∧ o = .ro [] := by
    intro x o hx
    have hlt := hwf.lt hx
    have : x = 0 := by have : start.next = 1 := rfl; omega
    subst this
    cases hx; exact ⟨rfl, rfl⟩
  have hrel : HRel φ start W := by
    refine ⟨fun x p o h1 h2 => ?_, fun x p h1 _ => (hφ x p h1).2.2, fun x x' p p' o h1 h2 h3 h4 => ?_⟩
    · obtain ⟨rfl, rfl⟩ := hget x o h2
      exact ⟨(hφ _ p h1).2.1, fun i v hv => by simp at hv⟩
    · obtain ⟨rfl, rfl⟩ := hget x o h3; cases h4
  have hroom : Room φ start h' := by
    intro x h1 _
    cases e : φ x with
    | none => rfl
    | some p => have := (hφ x p e).1; have : start.next = 1 := rfl; omega
  refine (icall_sim prims follows 100000 5 _ start _ h' e φ W _ hwf hrel hroom (.cons (.int _ _) (.cons hb (.cons (.int _ _) (.nil _))))).mono ?_
  rintro x W' ⟨φ', v', rfl, r1, r2⟩
  have hro : ∀ x p o, φ x = some p → start.get x = some o → o.writes = true → h'.wrote x = false := by
    intro x p o _ h2 h3
    obtain ⟨rfl, rfl⟩ := hget x o h2; cases h3
  cases r1
  exact ⟨rfl, r2.grown hro, r2.same hro⟩

end Go.Proofs.YtfhcloeocbidnaaGreat.nil
