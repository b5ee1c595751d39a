/- What both laws' rows want of the program and of a world. -/
import Derived.Test.YtemfjkmfbfjlaaaGreatDoorNilRuns
import Derived.Test.YtemfjkmfbfjlaaaGreatDoorEng2
import Derived.WalkKit
import Derived.ProofKit
import Derived.OpenShut
import Derived.Deep.DeepHandedRow
import Derived.Lib.LaidTab
import Derived.Deep.Slices
set_option linter.all false
namespace Go.Proofs.YtemfjkmfbfjlaaaGreatDoor.nil
open Go Go.Ideal Go.Proofs Go.ChangeShapes Go.WideShapes Go.ChangeAt Go.RowKit
set_option linter.all false

theorem own : ownKnob Tryz.prog.godebug = none := by kernel_rfl
theorem laidOut : laidOutB Tryz.prog = true := by kernel_rfl
theorem rowed : mapsRowed Tryz.prog = true := by kernel_rfl
theorem wide_elems : (List.range Tryz.prog.types.size).all (fun t => match Tryz.prog.underlying t with | some (.slice e) => decide (0 < Tryz.prog.cellsOf e) | _ => true) = true := by kernel_rfl
theorem wide (t e : TypeId) (ht : t < Tryz.prog.types.size) (h : Tryz.prog.underlying t = some (.slice e)) : 0 < Tryz.prog.cellsOf e := by
  have := List.all_eq_true.1 wide_elems t (List.mem_range.2 ht)
  rw [h] at this
  exact of_decide_eq_true this
theorem cells5 : Tryz.prog.cellsOf 5 = 1 := by kernel_rfl

def table0 : Array Value := #[.int .u64 1, .int .u64 10, .int .u64 100, .int .u64 1000, .int .u64 10000, .int .u64 100000, .int .u64 1000000, .int .u64 10000000, .int .u64 100000000, .int .u64 1000000000, .int .u64 10000000000, .int .u64 100000000000, .int .u64 1000000000000, .int .u64 10000000000000, .int .u64 100000000000000, .int .u64 1000000000000000, .int .u64 10000000000000000, .int .u64 100000000000000000, .int .u64 1000000000000000000, .int .u64 10000000000000000000]
def table1 : Array Value := #[.int .u8 0, .int .u8 1, .int .u8 28, .int .u8 2, .int .u8 29, .int .u8 14, .int .u8 24, .int .u8 3, .int .u8 30, .int .u8 22, .int .u8 20, .int .u8 15, .int .u8 25, .int .u8 17, .int .u8 4, .int .u8 8, .int .u8 31, .int .u8 27, .int .u8 13, .int .u8 23, .int .u8 21, .int .u8 19, .int .u8 16, .int .u8 7, .int .u8 26, .int .u8 12, .int .u8 18, .int .u8 6, .int .u8 11, .int .u8 5, .int .u8 10, .int .u8 9]
def table2 : Array Value := #[.int .u8 0, .int .u8 1, .int .u8 56, .int .u8 2, .int .u8 57, .int .u8 49, .int .u8 28, .int .u8 3, .int .u8 61, .int .u8 58, .int .u8 42, .int .u8 50, .int .u8 38, .int .u8 29, .int .u8 17, .int .u8 4, .int .u8 62, .int .u8 47, .int .u8 59, .int .u8 36, .int .u8 45, .int .u8 43, .int .u8 51, .int .u8 22, .int .u8 53, .int .u8 39, .int .u8 33, .int .u8 30, .int .u8 24, .int .u8 18, .int .u8 12, .int .u8 5, .int .u8 63, .int .u8 55, .int .u8 48, .int .u8 27, .int .u8 60, .int .u8 41, .int .u8 37, .int .u8 16, .int .u8 46, .int .u8 35, .int .u8 44, .int .u8 21, .int .u8 52, .int .u8 32, .int .u8 23, .int .u8 11, .int .u8 54, .int .u8 26, .int .u8 40, .int .u8 15, .int .u8 34, .int .u8 20, .int .u8 31, .int .u8 10, .int .u8 25, .int .u8 14, .int .u8 19, .int .u8 9, .int .u8 13, .int .u8 8, .int .u8 7, .int .u8 6]
noncomputable def laidWorld (os : Os) : World := { World.holding Tryz.prog os ⟨#[], #[], []⟩ with heap := ((((World.holding Tryz.prog os ⟨#[], #[], []⟩).heap).modify 0 fun | .cells _ t frozen => .cells table0 t frozen | o => o).modify 1 fun | .cells _ t frozen => .cells table1 t frozen | o => o).modify 2 fun | .cells _ t frozen => .cells table2 t frozen | o => o }

/- the bytes that came, as the ideal machine has them -/
set_option maxRecDepth 100000 in
theorem bytes_of {H : Type} {enc : TypeId × Value → H} {W : World} {held : Bool} {v : Value} {d : DataW H} {ps : List MemPlace} {r : Reach} {b0 : Nat} (hv : Value.okWide Tryz.prog W r b0 22 v)
    (hd : DataW.Trod enc Tryz.prog W 0 (fun _ => true) held 22 v d ps) :
    ∃ (φ : Emb) (b : Value), (b = .slice none 0 0 ∨ ∃ len cap, b = .slice (some ⟨0, 0, none⟩) len cap) ∧ VRel φ b v ∧ ∀ x p, φ x = some p → x = 0 ∧ p.esz = 0 ∧ p.r < W.heap.size := by
  obtain ⟨n, h⟩ := hd
  obtain ⟨a', len', cap', rfl⟩ := okWide_slice Tryz.underlying22 hv
  rcases Go.Deep.open_slice1 (e := 5) Tryz.underlying22 cells5 h with ⟨h1, _⟩ | ⟨a, len, cap, m, k, V, D, Pl, h1, _, hl, _, hm, _, hx⟩
  · simp only [Value.cells, List.cons.injEq, and_true, Value.slice.injEq] at h1
    obtain ⟨rfl, rfl, rfl⟩ := h1
    exact ⟨fun _ => none, _, .inl rfl, .sliceNil, fun x p e => by cases e⟩
  · simp only [Value.cells, List.cons.injEq, and_true, Value.slice.injEq] at h1
    obtain ⟨rfl, rfl, rfl⟩ := h1
    simp only [if_true] at hm
    subst hm
    by_cases hc : m = 0
    · subst hc
      obtain rfl : len' = 0 := by omega
      exact ⟨fun x => none, .slice (some ⟨0, 0, none⟩) 0 0, .inr ⟨0, 0, rfl⟩, .sliceEmpty 0 0 a, fun x p e => by cases e⟩
    · have h0 := (hx 0 (by omega)).1
      have ha : (a.add 0) = a := rfl
      rw [ha] at h0
      unfold World.cell? at h0
      split at h0
      · rename_i c el fr hcell
        split at h0
        · cases h0
        · rename_i hs
          have hlt : a.block < W.heap.size := by
            rcases Nat.lt_or_ge a.block W.heap.size with h' | h'
            · exact h'
            · rw [Array.getElem?_eq_none h'] at hcell; cases hcell
          obtain ⟨r, off, sp⟩ := a
          cases sp with
          | some _ => simp at hs
          | none =>
            refine ⟨fun x => if x = 0 then some ⟨r, off, 0, 0, 0⟩ else none, .slice (some ⟨0, 0, none⟩) len' m, .inr ⟨len', m, rfl⟩, ?_, ?_⟩
            · exact ( .slice 0 0 len' m ⟨r, off, 0, 0, 0⟩ rfl)
            · intro x p e
              by_cases hx : x = 0
              · simp only [hx, if_true, Option.some.injEq] at e; subst e; exact ⟨hx, rfl, hlt⟩
              · simp [hx] at e
      · cases h0

theorem start_only {x : Nat} {o : IObj} (hx : start.get x = some o) : x = 0 ∧ o = .ro [] := by
  have hwf : start.wf := by
    intro x hx
    have : 1 ≤ x := hx
    obtain ⟨m, rfl⟩ : ∃ m, x = m + 1 := ⟨x - 1, by omega⟩
    simp only [IHeap.get, start, T.get]
    split <;> rfl
  have hlt := hwf.lt hx
  have : x = 0 := by have : start.next = 1 := rfl; omega
  subst this
  cases hx; exact ⟨rfl, rfl⟩
theorem start_wf : start.wf := by
  intro x hx
  have : 1 ≤ x := hx
  obtain ⟨m, rfl⟩ : ∃ m, x = m + 1 := ⟨x - 1, by omega⟩
  simp only [IHeap.get, start, T.get]
  split <;> rfl

/- the machine's walk of ServerNil -/
theorem server_walk {W : World} {φ : Emb} {b b' : Value} {slot : Int} (hφ : ∀ x p, φ x = some p → x = 0 ∧ p.esz = 0 ∧ p.r < W.heap.size) (hb : VRel φ b b')
    (hr : ∃ h', icall (Env.of Tryz.prog) (primsOf (awakeD 5)) 1000 3 [.int .i64 slot, b] start = some (.bool true, h')) :
    Calls Tryz.prog 3 #[.int .i64 slot, b'] W fun e W' => e = .returned (.bool true) ∧ Grown W W' ∧ ∀ r, r < W.heap.size → W'.heap[r]? = W.heap[r]? := by
  obtain ⟨h', e⟩ := hr
  have hrel : HRel φ start W := by
    refine ⟨fun x p o h1 h2 => ?_, fun x p h1 _ => (hφ x p h1).2.2, fun x x' p p' o h1 h2 h3 h4 => ?_⟩
    · obtain ⟨rfl, rfl⟩ := start_only h2
      exact ⟨(hφ _ p h1).2.1, fun i v hv => by simp at hv⟩
    · obtain ⟨rfl, rfl⟩ := start_only h3; cases h4
  have hroom : Room φ start h' := by
    intro x h1 _
    cases e : φ x with
    | none => rfl
    | some p => have := (hφ x p e).1; have : start.next = 1 := rfl; omega
  refine (icall_sim (awake_ok awake_true5) follows 1000 3 _ start _ h' e φ W _ start_wf hrel hroom (.cons (.int _ _) (.cons hb (.nil _)))).mono ?_
  rintro x W' ⟨φ', v', rfl, r1, r2⟩
  have hro : ∀ x p o, φ x = some p → start.get x = some o → o.writes = true → h'.wrote x = false := by
    intro x p o _ h2 h3
    obtain ⟨rfl, rfl⟩ := start_only h2; cases h3
  cases r1
  exact ⟨rfl, r2.grown hro, r2.same hro⟩

/- .. and of SessionNil -/
theorem session_walk {W : World} {v0 v1 v2 v3 v4 v5 v6 v7 v8 : Value} (hc : cleanB depthB (.agg #[v0, v1, v2, v3, v4, v5, v6, v7, v8]) = true) :
    Calls Tryz.prog 4 #[.agg #[v0, v1, v2, v3, v4, v5, v6, v7, v8]] W fun e W' => e = .returned (.bool true) ∧ Grown W W' ∧ ∀ r, r < W.heap.size → W'.heap[r]? = W.heap[r]? := by
  obtain ⟨h', e⟩ := session_any v0 v1 v2 v3 v4 v5 v6 v7 v8
  have hw0 : IHeap.empty.wf := fun b _ => rfl
  have hr0 : HRel (fun _ => none) IHeap.empty W := ⟨fun b p o e => (by cases e), fun b p e => (by cases e), fun b b' p p' o e => (by cases e)⟩
  refine (icall_sim (awake_ok awake_true16) follows 1000 4 _ IHeap.empty _ _ e (fun _ => none) W _ hw0 hr0 (fun _ _ _ => rfl) (.cons (.of_clean _ _ _ hc) (.nil _))).mono ?_
  rintro x W' ⟨φ', v', rfl, r1, r2⟩
  have hro : ∀ (b : Nat) (p : Pos) (o : IObj), (fun _ => none : Emb) b = some p → IHeap.empty.get b = some o → o.writes = true → h'.wrote b = false := fun b p o e => by cases e
  cases r1
  exact ⟨rfl, r2.grown hro, r2.same hro⟩

end Go.Proofs.YtemfjkmfbfjlaaaGreatDoor.nil
