/- slices.Insert over a block that shows all its room: the four ways. -/
import Derived.Test.YtemfjkmfbfjlaaaGreatDoorRows
import Derived.KernelRfl
import Derived.Test.YtemfjkmfbfjlaaaGreatDoorEng2
set_option linter.all false
namespace Go.Proofs.YtemfjkmfbfjlaaaGreatDoor.nil
open Go Go.Ideal Go.Proofs
set_option linter.all false

noncomputable def insRun (n cap k : Nat) (L V : List Value) (told : List (Nat × Tip)) :=
  icallT (Env.of Tryz.prog) (fun f => Nat.beq f 125) (fun _ => none) 1000 81 [.slice (some ⟨0, 0, none⟩) n cap, .int .i64 k, .slice (some ⟨1, 0, none⟩) 1 1] ⟨told, []⟩ (insH L V)
set_option maxRecDepth 100000 in
theorem ext125 : (Env.of Tryz.prog).ext 125 = true := by kernel_rfl
set_option maxRecDepth 100000 in
theorem exts (f : FuncId) (h : Nat.beq f 125 = true) : (Env.of Tryz.prog).ext f = true := by
  obtain rfl := Nat.eq_of_beq_eq_true h; exact ext125

def condsC (n cap k : Nat) (L V : List Value) : List Prop := [(0 : Nat) + n * (8 : Nat) + List.length (List.take (8 : Nat) (List.drop (0 : Nat) V)) ≤ List.length L, n + (1 : Nat) ≤ cap, List.length (List.take (8 : Nat) (List.drop (0 : Nat) V)) = (8 : Nat), (8 : Nat) ≤ List.length V, Value.bool ((↑k : Int) == (↑n : Int)) = Value.bool true, n ≤ cap, (0 : Int) ≤ (↑k : Int) ∧ (↑k : Int) ≤ (↑n : Int)]
def heapC (n cap k : Nat) (L V : List Value) : IHeap := { next := (2 : Nat), wr := (1 : Nat), t := T.node (some (IObj.cells (splice L ((0 : Nat) + n * (8 : Nat)) (List.take (8 : Nat) (List.drop (0 : Nat) V))) (0 : Nat))) (T.node (some (IObj.cells V (0 : Nat))) T.leaf T.leaf) T.leaf }
set_option maxRecDepth 100000 in
theorem pathC (n cap k : Nat) (L V : List Value) : insRun n cap k L V [(0, Tip.b true), (0, Tip.b true), (1, Tip.b true), (0, Tip.b true), (0, Tip.b true), (0, Tip.b true), (1, Tip.b true)] = some (⟨[], condsC n cap k L V⟩, Value.slice (some { block := (0 : Nat), off := (0 : Nat) }) (n + (1 : Nat)) cap, heapC n cap k L V) := by kernel_rfl

def condsD (n cap k : Nat) (L V : List Value) : List Prop := [(0 : Nat) + n * (8 : Nat) ≤ List.length L, ¬((64 : Nat) = (0 : Nat) ∨ (n + (1 : Nat)) * (64 : Nat) > (35184372088832 : Nat) ∨ (8 : Nat) = (0 : Nat)), ¬n + (1 : Nat) ≤ cap, List.length (List.take (8 : Nat) (List.drop (0 : Nat) V)) = (8 : Nat), (8 : Nat) ≤ List.length V, Value.bool ((↑k : Int) == (↑n : Int)) = Value.bool true, n ≤ cap, (0 : Int) ≤ (↑k : Int) ∧ (↑k : Int) ≤ (↑n : Int)]
def heapD (n cap k : Nat) (L V : List Value) : IHeap := { next := (3 : Nat), wr := (0 : Nat), t := T.node (some (IObj.cells L (0 : Nat))) (T.node (some (IObj.cells V (0 : Nat))) T.leaf T.leaf) (T.node (some (IObj.cells (List.take (n * (8 : Nat)) (List.drop (0 : Nat) L) ++ List.take (8 : Nat) (List.drop (0 : Nat) V)) (8 : Nat))) T.leaf T.leaf) }
set_option maxRecDepth 100000 in
theorem pathD (n cap k : Nat) (L V : List Value) : insRun n cap k L V [(0, Tip.b true), (0, Tip.b true), (1, Tip.b true), (0, Tip.b true), (0, Tip.b true), (0, Tip.b false), (0, Tip.b true), (0, Tip.b true)] = some (⟨[], condsD n cap k L V⟩, Value.slice (some { block := (2 : Nat), off := (0 : Nat) }) (n + (1 : Nat)) (n + (1 : Nat)), heapD n cap k L V) := by kernel_rfl

def condsA (n cap k : Nat) (L V : List Value) : List Prop := [(0 : Nat) + Int.toNat (IntKind.wrap IntKind.i64 ((↑k : Int) + (1 : Int))) * (8 : Nat) + List.length (List.take (min (n - Int.toNat (↑k : Int)) (Int.toNat (↑k : Int) - (0 : Nat) + Int.toNat (IntKind.wrap IntKind.i64 (IntKind.wrap IntKind.i64 ((↑n : Int) + (1 : Int)) - (↑k : Int))) - Int.toNat (IntKind.wrap IntKind.i64 ((↑k : Int) + (1 : Int)))) * (8 : Nat)) (List.drop ((0 : Nat) + Int.toNat (↑k : Int) * (8 : Nat)) L)) ≤ List.length (splice (List.take ((Int.toNat (↑k : Int) - (0 : Nat)) * (8 : Nat)) (List.drop (0 : Nat) L) ++ repeatL [Value.int IntKind.i64 (0 : Int), Value.int IntKind.i64 (0 : Int), Value.int IntKind.i64 (0 : Int), Value.int IntKind.i64 (0 : Int), Value.int IntKind.i64 (0 : Int), Value.int IntKind.i64 (0 : Int), Value.int IntKind.i64 (0 : Int), Value.int IntKind.i64 (0 : Int)] (Int.toNat (IntKind.wrap IntKind.i64 (IntKind.wrap IntKind.i64 ((↑n : Int) + (1 : Int)) - (↑k : Int))))) ((0 : Nat) + Int.toNat (↑k : Int) * (8 : Nat)) (List.take (min (1 : Nat) (Int.toNat (↑k : Int) - (0 : Nat) + Int.toNat (IntKind.wrap IntKind.i64 (IntKind.wrap IntKind.i64 ((↑n : Int) + (1 : Int)) - (↑k : Int))) - Int.toNat (↑k : Int)) * (8 : Nat)) (List.drop (0 : Nat) V))), List.length (List.take (min (n - Int.toNat (↑k : Int)) (Int.toNat (↑k : Int) - (0 : Nat) + Int.toNat (IntKind.wrap IntKind.i64 (IntKind.wrap IntKind.i64 ((↑n : Int) + (1 : Int)) - (↑k : Int))) - Int.toNat (IntKind.wrap IntKind.i64 ((↑k : Int) + (1 : Int)))) * (8 : Nat)) (List.drop ((0 : Nat) + Int.toNat (↑k : Int) * (8 : Nat)) L)) = min (n - Int.toNat (↑k : Int)) (Int.toNat (↑k : Int) - (0 : Nat) + Int.toNat (IntKind.wrap IntKind.i64 (IntKind.wrap IntKind.i64 ((↑n : Int) + (1 : Int)) - (↑k : Int))) - Int.toNat (IntKind.wrap IntKind.i64 ((↑k : Int) + (1 : Int)))) * (8 : Nat), ¬List.length (List.take (min (n - Int.toNat (↑k : Int)) (Int.toNat (↑k : Int) - (0 : Nat) + Int.toNat (IntKind.wrap IntKind.i64 (IntKind.wrap IntKind.i64 ((↑n : Int) + (1 : Int)) - (↑k : Int))) - Int.toNat (IntKind.wrap IntKind.i64 ((↑k : Int) + (1 : Int)))) * (8 : Nat)) (List.drop ((0 : Nat) + Int.toNat (↑k : Int) * (8 : Nat)) L)) = (0 : Nat), (0 : Nat) + Int.toNat (↑k : Int) * (8 : Nat) + min (n - Int.toNat (↑k : Int)) (Int.toNat (↑k : Int) - (0 : Nat) + Int.toNat (IntKind.wrap IntKind.i64 (IntKind.wrap IntKind.i64 ((↑n : Int) + (1 : Int)) - (↑k : Int))) - Int.toNat (IntKind.wrap IntKind.i64 ((↑k : Int) + (1 : Int)))) * (8 : Nat) ≤ List.length L, n ≤ cap, (0 : Int) ≤ (↑k : Int) ∧ (↑k : Int) ≤ (↑n : Int), Int.toNat (↑k : Int) - (0 : Nat) + Int.toNat (IntKind.wrap IntKind.i64 (IntKind.wrap IntKind.i64 ((↑n : Int) + (1 : Int)) - (↑k : Int))) ≤ Int.toNat (↑k : Int) - (0 : Nat) + Int.toNat (IntKind.wrap IntKind.i64 (IntKind.wrap IntKind.i64 ((↑n : Int) + (1 : Int)) - (↑k : Int))), (0 : Int) ≤ IntKind.wrap IntKind.i64 ((↑k : Int) + (1 : Int)) ∧ IntKind.wrap IntKind.i64 ((↑k : Int) + (1 : Int)) ≤ (↑(Int.toNat (↑k : Int) - (0 : Nat) + Int.toNat (IntKind.wrap IntKind.i64 (IntKind.wrap IntKind.i64 ((↑n : Int) + (1 : Int)) - (↑k : Int)))) : Int), (0 : Nat) + Int.toNat (↑k : Int) * (8 : Nat) + List.length (List.take (min (1 : Nat) (Int.toNat (↑k : Int) - (0 : Nat) + Int.toNat (IntKind.wrap IntKind.i64 (IntKind.wrap IntKind.i64 ((↑n : Int) + (1 : Int)) - (↑k : Int))) - Int.toNat (↑k : Int)) * (8 : Nat)) (List.drop (0 : Nat) V)) ≤ List.length (List.take ((Int.toNat (↑k : Int) - (0 : Nat)) * (8 : Nat)) (List.drop (0 : Nat) L) ++ repeatL [Value.int IntKind.i64 (0 : Int), Value.int IntKind.i64 (0 : Int), Value.int IntKind.i64 (0 : Int), Value.int IntKind.i64 (0 : Int), Value.int IntKind.i64 (0 : Int), Value.int IntKind.i64 (0 : Int), Value.int IntKind.i64 (0 : Int), Value.int IntKind.i64 (0 : Int)] (Int.toNat (IntKind.wrap IntKind.i64 (IntKind.wrap IntKind.i64 ((↑n : Int) + (1 : Int)) - (↑k : Int))))), List.length (List.take (min (1 : Nat) (Int.toNat (↑k : Int) - (0 : Nat) + Int.toNat (IntKind.wrap IntKind.i64 (IntKind.wrap IntKind.i64 ((↑n : Int) + (1 : Int)) - (↑k : Int))) - Int.toNat (↑k : Int)) * (8 : Nat)) (List.drop (0 : Nat) V)) = min (1 : Nat) (Int.toNat (↑k : Int) - (0 : Nat) + Int.toNat (IntKind.wrap IntKind.i64 (IntKind.wrap IntKind.i64 ((↑n : Int) + (1 : Int)) - (↑k : Int))) - Int.toNat (↑k : Int)) * (8 : Nat), ¬List.length (List.take (min (1 : Nat) (Int.toNat (↑k : Int) - (0 : Nat) + Int.toNat (IntKind.wrap IntKind.i64 (IntKind.wrap IntKind.i64 ((↑n : Int) + (1 : Int)) - (↑k : Int))) - Int.toNat (↑k : Int)) * (8 : Nat)) (List.drop (0 : Nat) V)) = (0 : Nat), (0 : Nat) + min (1 : Nat) (Int.toNat (↑k : Int) - (0 : Nat) + Int.toNat (IntKind.wrap IntKind.i64 (IntKind.wrap IntKind.i64 ((↑n : Int) + (1 : Int)) - (↑k : Int))) - Int.toNat (↑k : Int)) * (8 : Nat) ≤ List.length V, Int.toNat (↑k : Int) - (0 : Nat) + Int.toNat (IntKind.wrap IntKind.i64 (IntKind.wrap IntKind.i64 ((↑n : Int) + (1 : Int)) - (↑k : Int))) ≤ Int.toNat (↑k : Int) - (0 : Nat) + Int.toNat (IntKind.wrap IntKind.i64 (IntKind.wrap IntKind.i64 ((↑n : Int) + (1 : Int)) - (↑k : Int))), (0 : Int) ≤ (↑k : Int) ∧ (↑k : Int) ≤ (↑(Int.toNat (↑k : Int) - (0 : Nat) + Int.toNat (IntKind.wrap IntKind.i64 (IntKind.wrap IntKind.i64 ((↑n : Int) + (1 : Int)) - (↑k : Int)))) : Int), (0 : Nat) + (Int.toNat (↑k : Int) - (0 : Nat)) * (8 : Nat) ≤ List.length L, ¬((64 : Nat) = (0 : Nat) ∨ (Int.toNat (↑k : Int) - (0 : Nat) + Int.toNat (IntKind.wrap IntKind.i64 (IntKind.wrap IntKind.i64 ((↑n : Int) + (1 : Int)) - (↑k : Int)))) * (64 : Nat) > (35184372088832 : Nat) ∨ (8 : Nat) = (0 : Nat)), ¬Int.toNat (↑k : Int) - (0 : Nat) + Int.toNat (IntKind.wrap IntKind.i64 (IntKind.wrap IntKind.i64 ((↑n : Int) + (1 : Int)) - (↑k : Int))) ≤ cap - (0 : Nat), (0 : Int) ≤ IntKind.wrap IntKind.i64 (IntKind.wrap IntKind.i64 ((↑n : Int) + (1 : Int)) - (↑k : Int)) ∧ IntKind.wrap IntKind.i64 (IntKind.wrap IntKind.i64 ((↑n : Int) + (1 : Int)) - (↑k : Int)) ≤ (1000000 : Int) ∧ (64 : Nat) ≤ (1000000 : Nat), Int.toNat (↑k : Int) ≤ cap, (0 : Int) ≤ (↑k : Int) ∧ (↑k : Int) ≤ (↑cap : Int), Value.bool (decide (IntKind.wrap IntKind.i64 ((↑n : Int) + (1 : Int)) > (↑cap : Int))) = Value.bool true, Value.bool ((↑k : Int) == (↑n : Int)) = Value.bool false, n ≤ cap, (0 : Int) ≤ (↑k : Int) ∧ (↑k : Int) ≤ (↑n : Int)]
def heapA (n cap k : Nat) (L V : List Value) : IHeap := { next := (3 : Nat), wr := (4 : Nat), t := T.node (some (IObj.cells L (0 : Nat))) (T.node (some (IObj.cells V (0 : Nat))) T.leaf T.leaf) (T.node (some (IObj.cells (splice (splice (List.take ((Int.toNat (↑k : Int) - (0 : Nat)) * (8 : Nat)) (List.drop (0 : Nat) L) ++ repeatL [Value.int IntKind.i64 (0 : Int), Value.int IntKind.i64 (0 : Int), Value.int IntKind.i64 (0 : Int), Value.int IntKind.i64 (0 : Int), Value.int IntKind.i64 (0 : Int), Value.int IntKind.i64 (0 : Int), Value.int IntKind.i64 (0 : Int), Value.int IntKind.i64 (0 : Int)] (Int.toNat (IntKind.wrap IntKind.i64 (IntKind.wrap IntKind.i64 ((↑n : Int) + (1 : Int)) - (↑k : Int))))) ((0 : Nat) + Int.toNat (↑k : Int) * (8 : Nat)) (List.take (min (1 : Nat) (Int.toNat (↑k : Int) - (0 : Nat) + Int.toNat (IntKind.wrap IntKind.i64 (IntKind.wrap IntKind.i64 ((↑n : Int) + (1 : Int)) - (↑k : Int))) - Int.toNat (↑k : Int)) * (8 : Nat)) (List.drop (0 : Nat) V))) ((0 : Nat) + Int.toNat (IntKind.wrap IntKind.i64 ((↑k : Int) + (1 : Int))) * (8 : Nat)) (List.take (min (n - Int.toNat (↑k : Int)) (Int.toNat (↑k : Int) - (0 : Nat) + Int.toNat (IntKind.wrap IntKind.i64 (IntKind.wrap IntKind.i64 ((↑n : Int) + (1 : Int)) - (↑k : Int))) - Int.toNat (IntKind.wrap IntKind.i64 ((↑k : Int) + (1 : Int)))) * (8 : Nat)) (List.drop ((0 : Nat) + Int.toNat (↑k : Int) * (8 : Nat)) L))) (8 : Nat))) T.leaf T.leaf) }
set_option maxRecDepth 100000 in
theorem pathA (n cap k : Nat) (L V : List Value) : insRun n cap k L V [(0, Tip.b true), (0, Tip.b true), (1, Tip.b false), (0, Tip.b true), (0, Tip.b true), (0, Tip.b true), (0, Tip.b true), (0, Tip.b false), (0, Tip.b true), (0, Tip.b true), (0, Tip.b true), (0, Tip.b true), (0, Tip.b true), (0, Tip.b false), (0, Tip.b true), (0, Tip.b true), (0, Tip.b true), (0, Tip.b true), (0, Tip.b true), (0, Tip.b true), (0, Tip.b true), (0, Tip.b false), (0, Tip.b true), (0, Tip.b true)] = some (⟨[], condsA n cap k L V⟩, Value.slice (some { block := (2 : Nat), off := (0 : Nat) }) (Int.toNat (↑k : Int) - (0 : Nat) + Int.toNat (IntKind.wrap IntKind.i64 (IntKind.wrap IntKind.i64 ((↑n : Int) + (1 : Int)) - (↑k : Int)))) (Int.toNat (↑k : Int) - (0 : Nat) + Int.toNat (IntKind.wrap IntKind.i64 (IntKind.wrap IntKind.i64 ((↑n : Int) + (1 : Int)) - (↑k : Int)))), heapA n cap k L V) := by kernel_rfl

def condsB (n cap k : Nat) (L V : List Value) : List Prop := [(0 : Nat) + Int.toNat (↑k : Int) * (8 : Nat) + List.length (List.take (min (1 : Nat) (Int.toNat (IntKind.wrap IntKind.i64 ((↑n : Int) + (1 : Int))) - (0 : Nat) - Int.toNat (↑k : Int)) * (8 : Nat)) (List.drop (0 : Nat) V)) ≤ List.length (splice L ((0 : Nat) + Int.toNat (IntKind.wrap IntKind.i64 ((↑k : Int) + (1 : Int))) * (8 : Nat)) (List.take (min (Int.toNat (IntKind.wrap IntKind.i64 ((↑n : Int) + (1 : Int))) - (0 : Nat) - Int.toNat (↑k : Int)) (Int.toNat (IntKind.wrap IntKind.i64 ((↑n : Int) + (1 : Int))) - (0 : Nat) - Int.toNat (IntKind.wrap IntKind.i64 ((↑k : Int) + (1 : Int)))) * (8 : Nat)) (List.drop ((0 : Nat) + Int.toNat (↑k : Int) * (8 : Nat)) L))), List.length (List.take (min (1 : Nat) (Int.toNat (IntKind.wrap IntKind.i64 ((↑n : Int) + (1 : Int))) - (0 : Nat) - Int.toNat (↑k : Int)) * (8 : Nat)) (List.drop (0 : Nat) V)) = min (1 : Nat) (Int.toNat (IntKind.wrap IntKind.i64 ((↑n : Int) + (1 : Int))) - (0 : Nat) - Int.toNat (↑k : Int)) * (8 : Nat), ¬List.length (List.take (min (1 : Nat) (Int.toNat (IntKind.wrap IntKind.i64 ((↑n : Int) + (1 : Int))) - (0 : Nat) - Int.toNat (↑k : Int)) * (8 : Nat)) (List.drop (0 : Nat) V)) = (0 : Nat), (0 : Nat) + min (1 : Nat) (Int.toNat (IntKind.wrap IntKind.i64 ((↑n : Int) + (1 : Int))) - (0 : Nat) - Int.toNat (↑k : Int)) * (8 : Nat) ≤ List.length V, Int.toNat (IntKind.wrap IntKind.i64 ((↑n : Int) + (1 : Int))) - (0 : Nat) ≤ cap - (0 : Nat), (0 : Int) ≤ (↑k : Int) ∧ (↑k : Int) ≤ (↑(Int.toNat (IntKind.wrap IntKind.i64 ((↑n : Int) + (1 : Int))) - (0 : Nat)) : Int), (0 : Nat) + Int.toNat (IntKind.wrap IntKind.i64 ((↑k : Int) + (1 : Int))) * (8 : Nat) + List.length (List.take (min (Int.toNat (IntKind.wrap IntKind.i64 ((↑n : Int) + (1 : Int))) - (0 : Nat) - Int.toNat (↑k : Int)) (Int.toNat (IntKind.wrap IntKind.i64 ((↑n : Int) + (1 : Int))) - (0 : Nat) - Int.toNat (IntKind.wrap IntKind.i64 ((↑k : Int) + (1 : Int)))) * (8 : Nat)) (List.drop ((0 : Nat) + Int.toNat (↑k : Int) * (8 : Nat)) L)) ≤ List.length L, List.length (List.take (min (Int.toNat (IntKind.wrap IntKind.i64 ((↑n : Int) + (1 : Int))) - (0 : Nat) - Int.toNat (↑k : Int)) (Int.toNat (IntKind.wrap IntKind.i64 ((↑n : Int) + (1 : Int))) - (0 : Nat) - Int.toNat (IntKind.wrap IntKind.i64 ((↑k : Int) + (1 : Int)))) * (8 : Nat)) (List.drop ((0 : Nat) + Int.toNat (↑k : Int) * (8 : Nat)) L)) = min (Int.toNat (IntKind.wrap IntKind.i64 ((↑n : Int) + (1 : Int))) - (0 : Nat) - Int.toNat (↑k : Int)) (Int.toNat (IntKind.wrap IntKind.i64 ((↑n : Int) + (1 : Int))) - (0 : Nat) - Int.toNat (IntKind.wrap IntKind.i64 ((↑k : Int) + (1 : Int)))) * (8 : Nat), ¬List.length (List.take (min (Int.toNat (IntKind.wrap IntKind.i64 ((↑n : Int) + (1 : Int))) - (0 : Nat) - Int.toNat (↑k : Int)) (Int.toNat (IntKind.wrap IntKind.i64 ((↑n : Int) + (1 : Int))) - (0 : Nat) - Int.toNat (IntKind.wrap IntKind.i64 ((↑k : Int) + (1 : Int)))) * (8 : Nat)) (List.drop ((0 : Nat) + Int.toNat (↑k : Int) * (8 : Nat)) L)) = (0 : Nat), (0 : Nat) + Int.toNat (↑k : Int) * (8 : Nat) + min (Int.toNat (IntKind.wrap IntKind.i64 ((↑n : Int) + (1 : Int))) - (0 : Nat) - Int.toNat (↑k : Int)) (Int.toNat (IntKind.wrap IntKind.i64 ((↑n : Int) + (1 : Int))) - (0 : Nat) - Int.toNat (IntKind.wrap IntKind.i64 ((↑k : Int) + (1 : Int)))) * (8 : Nat) ≤ List.length L, Int.toNat (IntKind.wrap IntKind.i64 ((↑n : Int) + (1 : Int))) - (0 : Nat) ≤ cap - (0 : Nat), (0 : Int) ≤ (↑k : Int) ∧ (↑k : Int) ≤ (↑(Int.toNat (IntKind.wrap IntKind.i64 ((↑n : Int) + (1 : Int))) - (0 : Nat)) : Int), Int.toNat (IntKind.wrap IntKind.i64 ((↑n : Int) + (1 : Int))) - (0 : Nat) ≤ cap - (0 : Nat), (0 : Int) ≤ IntKind.wrap IntKind.i64 ((↑k : Int) + (1 : Int)) ∧ IntKind.wrap IntKind.i64 ((↑k : Int) + (1 : Int)) ≤ (↑(Int.toNat (IntKind.wrap IntKind.i64 ((↑n : Int) + (1 : Int))) - (0 : Nat)) : Int), (0 : Nat) < List.length L, Int.toNat (IntKind.wrap IntKind.i64 ((↑n : Int) + (1 : Int))) - (0 : Nat) ≤ cap - (0 : Nat), (0 : Int) ≤ IntKind.wrap IntKind.i64 ((↑k : Int) + (1 : Int)) ∧ IntKind.wrap IntKind.i64 ((↑k : Int) + (1 : Int)) ≤ (↑(Int.toNat (IntKind.wrap IntKind.i64 ((↑n : Int) + (1 : Int))) - (0 : Nat)) : Int), Int.toNat (IntKind.wrap IntKind.i64 ((↑n : Int) + (1 : Int))) ≤ cap, (0 : Int) ≤ IntKind.wrap IntKind.i64 ((↑n : Int) + (1 : Int)) ∧ IntKind.wrap IntKind.i64 ((↑n : Int) + (1 : Int)) ≤ (↑cap : Int), Value.bool (decide (IntKind.wrap IntKind.i64 ((↑n : Int) + (1 : Int)) > (↑cap : Int))) = Value.bool false, Value.bool ((↑k : Int) == (↑n : Int)) = Value.bool false, n ≤ cap, (0 : Int) ≤ (↑k : Int) ∧ (↑k : Int) ≤ (↑n : Int)]
def heapB (n cap k : Nat) (L V : List Value) : IHeap := { next := (2 : Nat), wr := (1 : Nat), t := T.node (some (IObj.cells (splice (splice L ((0 : Nat) + Int.toNat (IntKind.wrap IntKind.i64 ((↑k : Int) + (1 : Int))) * (8 : Nat)) (List.take (min (Int.toNat (IntKind.wrap IntKind.i64 ((↑n : Int) + (1 : Int))) - (0 : Nat) - Int.toNat (↑k : Int)) (Int.toNat (IntKind.wrap IntKind.i64 ((↑n : Int) + (1 : Int))) - (0 : Nat) - Int.toNat (IntKind.wrap IntKind.i64 ((↑k : Int) + (1 : Int)))) * (8 : Nat)) (List.drop ((0 : Nat) + Int.toNat (↑k : Int) * (8 : Nat)) L))) ((0 : Nat) + Int.toNat (↑k : Int) * (8 : Nat)) (List.take (min (1 : Nat) (Int.toNat (IntKind.wrap IntKind.i64 ((↑n : Int) + (1 : Int))) - (0 : Nat) - Int.toNat (↑k : Int)) * (8 : Nat)) (List.drop (0 : Nat) V))) (0 : Nat))) (T.node (some (IObj.cells V (0 : Nat))) T.leaf T.leaf) T.leaf }
set_option maxRecDepth 100000 in
theorem pathB (n cap k : Nat) (L V : List Value) : insRun n cap k L V [(0, Tip.b true), (0, Tip.b true), (1, Tip.b false), (0, Tip.b false), (0, Tip.b true), (0, Tip.b true), (0, Tip.b true), (0, Tip.b true), (0, Tip.b true), (1, Tip.b true), (0, Tip.b true), (0, Tip.b true), (0, Tip.b true), (0, Tip.b true), (0, Tip.b false), (0, Tip.b true), (0, Tip.b true), (0, Tip.b true), (0, Tip.b true), (0, Tip.b true), (0, Tip.b false), (0, Tip.b true), (0, Tip.b true)] = some (⟨[], condsB n cap k L V⟩, Value.slice (some { block := (0 : Nat), off := (0 : Nat) }) (Int.toNat (IntKind.wrap IntKind.i64 ((↑n : Int) + (1 : Int))) - (0 : Nat)) (cap - (0 : Nat)), heapB n cap k L V) := by kernel_rfl

theorem wrap_of (z : Int) (h1 : -9223372036854775808 ≤ z) (h2 : z ≤ 9223372036854775807) : IntKind.i64.wrap z = z := by
  have e1 : (2 : Int) ^ 64 = 18446744073709551616 := by decide
  have e2 : (2 : Int) ^ (64 - 1) = 9223372036854775808 := by decide
  simp only [IntKind.wrap, IntKind.signed, IntKind.bits, e1, e2, Bool.true_and, decide_eq_true_eq]
  split <;> omega
theorem of_bool {p : Prop} [Decidable p] {b : Bool} (h : b = decide p) : Value.bool (decide p) = Value.bool b := by rw [h]

section
variable {n cap k : Nat} {L V : List Value} (hk : k ≤ n) (h1 : 1 ≤ n) (h2 : n ≤ 100000) (hc : n ≤ cap) (hL : L.length = cap * 8) (hV : V.length = 8)
include hk h1 h2 hc hL hV

theorem metC (e : k = n) (hr : n + 1 ≤ cap) : (⟨[], condsC n cap k L V⟩ : Tell).met := by
  simp only [Tell.met, condsC, List.forall_mem_cons]
  repeat' apply And.intro
  all_goals first | omega | (simp only [List.length_take, List.length_drop, hL, hV]; omega) | (simp [e]; done) | trivial | (intro q hq; cases hq)

theorem metD (e : k = n) (hr : ¬ n + 1 ≤ cap) : (⟨[], condsD n cap k L V⟩ : Tell).met := by
  simp only [Tell.met, condsD, List.forall_mem_cons]
  repeat' apply And.intro
  all_goals first | omega | (simp only [List.length_take, List.length_drop, hL, hV]; omega) | (simp [e]; done) | trivial | (intro q hq; cases hq)

theorem metA (e : k < n) (hr : ¬ n + 1 ≤ cap) : (⟨[], condsA n cap k L V⟩ : Tell).met := by
  have w1 : IntKind.i64.wrap ((n : Int) + 1) = n + 1 := wrap_of _ (by omega) (by omega)
  have w2 : IntKind.i64.wrap ((k : Int) + 1) = k + 1 := wrap_of _ (by omega) (by omega)
  have w3 : IntKind.i64.wrap ((n : Int) + 1 - k) = n + 1 - k := wrap_of _ (by omega) (by omega)
  have g1 : ((k : Int) == (n : Int)) = false := by simp; omega
  have g2 : decide ((n : Int) + 1 > (cap : Int)) = true := by simp; omega
  have rl : ∀ (z : List Value) (m : Nat), (repeatL z m).length = m * z.length := repeatL_length
  simp only [Tell.met, condsA, List.forall_mem_cons, w1, w2, w3, g1, g2]
  repeat' apply And.intro
  all_goals first | omega | rfl | (simp only [splice_length', List.length_append, List.length_take, List.length_drop, rl, List.length_cons, List.length_nil, hL, hV]; omega) | trivial | (intro q hq; cases hq)

theorem metB (e : k < n) (hr : n + 1 ≤ cap) : (⟨[], condsB n cap k L V⟩ : Tell).met := by
  have w1 : IntKind.i64.wrap ((n : Int) + 1) = n + 1 := wrap_of _ (by omega) (by omega)
  have w2 : IntKind.i64.wrap ((k : Int) + 1) = k + 1 := wrap_of _ (by omega) (by omega)
  have g1 : ((k : Int) == (n : Int)) = false := by simp; omega
  have g2 : decide ((n : Int) + 1 > (cap : Int)) = false := by simp; omega
  simp only [Tell.met, condsB, List.forall_mem_cons, w1, w2, g1, g2]
  repeat' apply And.intro
  all_goals first | omega | rfl | (simp only [splice_length', List.length_append, List.length_take, List.length_drop, List.length_cons, List.length_nil, hL, hV]; omega) | trivial | (intro q hq; cases hq)
theorem ins_end : splice L (0 + n * 8) (List.take 8 (List.drop 0 V)) = insL n n L V ++ L.drop ((n + 1) * 8) := by
  have e : List.take 8 (List.drop 0 V) = V := by rw [List.drop_zero, List.take_of_length_le (by omega)]
  rw [e]
  unfold splice insL
  simp [hV, Nat.add_mul]

theorem ins_in (e : k < n) (hr : n + 1 ≤ cap) :
    splice (splice L (0 + (k + 1) * 8) (List.take (min (n + 1 - k) (n + 1 - (k + 1)) * 8) (List.drop (0 + k * 8) L))) (0 + k * 8) (List.take (min 1 (n + 1 - k) * 8) (List.drop 0 V)) = insL k n L V ++ L.drop ((n + 1) * 8) := by
  have e1 : List.take (min 1 (n + 1 - k) * 8) (List.drop 0 V) = V := by rw [List.drop_zero, List.take_of_length_le (by omega)]
  have e2 : min (n + 1 - k) (n + 1 - (k + 1)) * 8 = (n - k) * 8 := by omega
  rw [e1, e2]
  apply List.ext_getElem?
  intro i
  have hl : (List.take ((n - k) * 8) (List.drop (0 + k * 8) L)).length = (n - k) * 8 := by simp [hL]; omega
  rw [splice_get _ _ _ _ (by rw [splice_length _ _ _ (by rw [hl]; omega), hV]; omega), splice_get _ _ _ _ (by rw [hl]; omega)]
  simp only [insL, List.getElem?_append, List.getElem?_take, List.getElem?_drop, List.length_append, List.length_take, List.length_drop, hV, hL, hl]
  repeat' split
  all_goals first | rfl | omega | (congr 1; omega) | skip

theorem ins_new (e : k < n) (z : List Value) (hz : z.length = 8) :
    splice (splice (List.take ((k - 0) * 8) (List.drop 0 L) ++ repeatL z (n + 1 - k)) (0 + k * 8) (List.take (min 1 (k - 0 + (n + 1 - k) - k) * 8) (List.drop 0 V))) (0 + (k + 1) * 8) (List.take (min (n - k) (k - 0 + (n + 1 - k) - (k + 1)) * 8) (List.drop (0 + k * 8) L)) = insL k n L V := by
  have e1 : List.take (min 1 (k - 0 + (n + 1 - k) - k) * 8) (List.drop 0 V) = V := by rw [List.drop_zero, List.take_of_length_le (by omega)]
  have e2 : min (n - k) (k - 0 + (n + 1 - k) - (k + 1)) * 8 = (n - k) * 8 := by omega
  rw [e1, e2]
  have hl : (List.take ((n - k) * 8) (List.drop (0 + k * 8) L)).length = (n - k) * 8 := by simp [hL]; omega
  have hb : (List.take ((k - 0) * 8) (List.drop 0 L) ++ repeatL z (n + 1 - k)).length = (n + 1) * 8 := by
    rw [List.length_append, repeatL_length, hz]; simp [hL]; omega
  apply List.ext_getElem?
  intro i
  rw [splice_get _ _ _ _ (by rw [splice_length _ _ _ (by rw [hb, hV]; omega), hb, hl]; omega), splice_get _ _ _ _ (by rw [hb, hV]; omega)]
  simp only [insL, List.getElem?_append, List.getElem?_take, List.getElem?_drop, List.length_append, List.length_take, List.length_drop, hV, hL, hl]
  repeat' split
  all_goals first | rfl | omega | (congr 1; omega) | (rw [List.getElem?_eq_none (by rw [repeatL_length, hz]; omega)]) | skip
end

theorem no_prims : primsOf (fun _ => none) = fun _ => none := rfl
theorem runs_of {n cap k : Nat} {L V : List Value} {told : List (Nat × Tip)} {s : Tell} {v : Value} {h : IHeap} (e : insRun n cap k L V told = some (s, v, h)) (m : s.met) :
    icall (Env.of Tryz.prog) (fun _ => none) 1000 81 [.slice (some ⟨0, 0, none⟩) n cap, .int .i64 k, .slice (some ⟨1, 0, none⟩) 1 1] (insH L V) = some (v, h) := by
  rw [← no_prims]
  unfold insRun at e
  exact icallT_spec exts e m

theorem ins_runs : InsRuns Tryz.prog 81 := by
  intro n cap k L V hk h1 h2 hc hL hV
  have w1 : IntKind.i64.wrap ((n : Int) + 1) = ((n + 1 : Nat) : Int) := wrap_of _ (by omega) (by omega)
  have w2 : IntKind.i64.wrap ((k : Int) + 1) = ((k + 1 : Nat) : Int) := wrap_of _ (by omega) (by omega)
  have w3 : IntKind.i64.wrap (((n + 1 : Nat) : Int) - k) = ((n + 1 - k : Nat) : Int) := by rw [wrap_of _ (by omega) (by omega)]; omega
  by_cases hr : n + 1 ≤ cap
  · by_cases e : k = n
    · refine ⟨1000, _, _, runs_of (pathC n cap k L V) (metC hk h1 h2 hc hL hV e hr), (show Nat.testBit 1 1 = false by decide), .inl ⟨hr, rfl, rfl, ?_⟩⟩
      subst e
      show some (IObj.cells _ 0) = _
      rw [ins_end hk h1 h2 hc hL hV]
    · have e' : k < n := by omega
      refine ⟨1000, _, _, runs_of (pathB n cap k L V) (metB hk h1 h2 hc hL hV e' hr), (show Nat.testBit 1 1 = false by decide), .inl ⟨hr, ?_, rfl, ?_⟩⟩
      · rw [w1]; simp
      · show some (IObj.cells _ 0) = _
        rw [w1, w2]
        simp only [Int.toNat_natCast, Nat.sub_zero]
        rw [ins_in hk h1 h2 hc hL hV e' hr]
  · by_cases e : k = n
    · refine ⟨1000, _, _, runs_of (pathD n cap k L V) (metD hk h1 h2 hc hL hV e hr), (show Nat.testBit 0 1 = false by decide), .inr ⟨by omega, rfl, rfl, (show Nat.testBit 0 0 = false by decide), ?_⟩⟩
      subst e
      show some (IObj.cells _ 8) = _
      have e : List.take 8 (List.drop 0 V) = V := by rw [List.drop_zero, List.take_of_length_le (by omega)]
      rw [e]
      simp [insL]
    · have e' : k < n := by omega
      refine ⟨1000, _, _, runs_of (pathA n cap k L V) (metA hk h1 h2 hc hL hV e' hr), (show Nat.testBit 4 1 = false by decide), .inr ⟨by omega, ?_, rfl, (show Nat.testBit 4 0 = false by decide), ?_⟩⟩
      · rw [w1, w3]
        simp only [Int.toNat_natCast, Nat.sub_zero]
        rw [show k + (n + 1 - k) = n + 1 by omega]
      · show some (IObj.cells _ 8) = _
        rw [w1, w3, w2]
        simp only [Int.toNat_natCast]
        rw [ins_new hk h1 h2 hc hL hV e' _ rfl]

theorem follows : Tryz.prog.follows .mixedOrders = true := by kernel_rfl
theorem ins_ok : PrimsOK Tryz.prog (insPrim 81) := insPrim_ok follows ins_runs

end Go.Proofs.YtemfjkmfbfjlaaaGreatDoor.nil
