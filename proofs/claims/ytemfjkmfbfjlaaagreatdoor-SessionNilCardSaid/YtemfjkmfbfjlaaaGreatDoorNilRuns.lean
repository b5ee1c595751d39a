/- The two laws over whatever arguments: their runs. -/
import Derived.Test.YtemfjkmfbfjlaaaGreatDoorAwakes
set_option linter.all false
namespace Go.Proofs.YtemfjkmfbfjlaaaGreatDoor.nil
open Go Go.Ideal Go.Proofs
set_option linter.all false

def start : IHeap := ⟨1, 0, .node (some (.ro [])) .leaf .leaf⟩
noncomputable def serverNil (slot : Int) (len cap : Nat) (told : List (Nat × Tip)) :=
  icallT (Env.of Tryz.prog) (fun _ => false) (awakeD 5) 1000 3 [.int .i64 slot, .slice (some ⟨0, 0, none⟩) len cap] ⟨told, []⟩ start
noncomputable def serverNil0 (slot : Int) (told : List (Nat × Tip)) :=
  icallT (Env.of Tryz.prog) (fun _ => false) (awakeD 5) 1000 3 [.int .i64 slot, .slice none 0 0] ⟨told, []⟩ start
noncomputable def sessionNil (v0 v1 v2 v3 v4 v5 v6 v7 v8 : Value) (told : List (Nat × Tip)) :=
  icallT (Env.of Tryz.prog) (fun _ => false) (awakeD 16) 1000 4 [.agg #[v0, v1, v2, v3, v4, v5, v6, v7, v8]] ⟨told, []⟩ IHeap.empty
def seen (x : Option (Tell × Value × IHeap)) : Option (Tell × Value × Nat) := match x with | some (s, v, h) => some (s, v, h.wr % 2) | none => none

set_option maxRecDepth 100000 in
theorem server_long (slot : Int) (len cap : Nat) : seen (serverNil slot len cap [(4, Tip.b true)]) = some (⟨[], [True, Value.bool (decide ((len : Int) > 300)) = Value.bool true, True]⟩, .bool true, 0) := by kernel_rfl
set_option maxRecDepth 100000 in
theorem server_short (slot : Int) (len cap : Nat) : seen (serverNil slot len cap [(4, Tip.b false)]) = some (⟨[], [Value.bool (decide ((len : Int) > 300)) = Value.bool false, True]⟩, .bool true, 0) := by kernel_rfl
set_option maxRecDepth 100000 in
theorem server_none (slot : Int) : seen (serverNil0 slot []) = some (⟨[], [True]⟩, .bool true, 0) := by kernel_rfl
set_option maxRecDepth 100000 in
theorem session_all (v0 v1 v2 v3 v4 v5 v6 v7 v8 : Value) : seen (sessionNil v0 v1 v2 v3 v4 v5 v6 v7 v8 []) = some (⟨[], [True]⟩, .bool true, 0) := by kernel_rfl

theorem ran {E : Env} {pr : FuncId → Option PrimD} {f : FuncId} {args : List Value} {told : List (Nat × Tip)} {h0 : IHeap} {s : Tell} {k : Nat} (e : seen (icallT E (fun _ => false) pr 1000 f args ⟨told, []⟩ h0) = some (s, .bool true, k)) (m : s.met) :
    ∃ h', icall E (primsOf pr) 1000 f args h0 = some (.bool true, h') := by
  unfold seen at e
  split at e
  · rename_i s' v h' e'
    simp only [Option.some.injEq, Prod.mk.injEq] at e
    obtain ⟨rfl, rfl, _⟩ := e
    exact ⟨h', icallT_spec (fun _ h => by cases h) e' m⟩
  · cases e

theorem server_some (slot : Int) (len cap : Nat) : ∃ h', icall (Env.of Tryz.prog) (primsOf (awakeD 5)) 1000 3 [.int .i64 slot, .slice (some ⟨0, 0, none⟩) len cap] start = some (.bool true, h') := by
  by_cases hl : (len : Int) > 300
  · refine ran (server_long slot len cap) ?_
    intro p hp
    simp only [List.mem_cons, List.not_mem_nil, or_false] at hp
    rcases hp with rfl | rfl | rfl
    · trivial
    · rw [decide_eq_true hl]
    · trivial
  · refine ran (server_short slot len cap) ?_
    intro p hp
    simp only [List.mem_cons, List.not_mem_nil, or_false] at hp
    rcases hp with rfl | rfl
    · rw [decide_eq_false hl]
    · trivial
theorem server_nil (slot : Int) : ∃ h', icall (Env.of Tryz.prog) (primsOf (awakeD 5)) 1000 3 [.int .i64 slot, .slice none 0 0] start = some (.bool true, h') :=
  ran (server_none slot) (by intro p hp; simp only [List.mem_cons, List.not_mem_nil, or_false] at hp; subst hp; trivial)
theorem session_any (v0 v1 v2 v3 v4 v5 v6 v7 v8 : Value) : ∃ h', icall (Env.of Tryz.prog) (primsOf (awakeD 16)) 1000 4 [.agg #[v0, v1, v2, v3, v4, v5, v6, v7, v8]] IHeap.empty = some (.bool true, h') :=
  ran (session_all v0 v1 v2 v3 v4 v5 v6 v7 v8) (by intro p hp; simp only [List.mem_cons, List.not_mem_nil, or_false] at hp; subst hp; trivial)

end Go.Proofs.YtemfjkmfbfjlaaaGreatDoor.nil
