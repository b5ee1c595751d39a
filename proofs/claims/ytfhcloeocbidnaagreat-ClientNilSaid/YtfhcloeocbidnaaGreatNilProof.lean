/- 'ClientNil': for every slot, every bytes and every part the law answers true and changes nothing. No condition. -/
import Derived.Test.YtfhcloeocbidnaaGreatNilRow
import Derived.Deep.Slices
set_option linter.all false
namespace Go.Proofs.YtfhcloeocbidnaaGreat.nil
open Go Go.Ideal Go.Proofs Go.ChangeShapes Go.WideShapes Go.ChangeAt Go.RowKit
set_option linter.unusedVariables false

theorem own : ownKnob Tryz.prog.godebug = none := by kernel_rfl
theorem laidOut : laidOutB Tryz.prog = true := by kernel_rfl
theorem rowed : mapsRowed Tryz.prog = true := by kernel_rfl
theorem wide_elems : (List.range Tryz.prog.types.size).all (fun t => match Tryz.prog.underlying t with | some (.slice e) => decide (0 < Tryz.prog.cellsOf e) | _ => true) = true := by kernel_rfl
theorem wide (t e : TypeId) (ht : t < Tryz.prog.types.size) (h : Tryz.prog.underlying t = some (.slice e)) : 0 < Tryz.prog.cellsOf e := by
  have := List.all_eq_true.1 wide_elems t (List.mem_range.2 ht)
  rw [h] at this
  exact of_decide_eq_true this

theorem cells5 : Tryz.prog.cellsOf 5 = 1 := by kernel_rfl

/- the bytes that came, as the ideal machine has them -/
set_option maxRecDepth 100000 in
theorem bytes_of {H : Type} {enc : TypeId × Value → H} {W : World} {held : Bool} {v : Value} {d : DataW H} {ps : List MemPlace} {r : Reach} {b0 : Nat} (hv : Value.okWide Tryz.prog W r b0 44 v)
    (hd : DataW.Trod enc Tryz.prog W 0 (fun _ => true) held 44 v d ps) :
    ∃ (φ : Emb) (b : Value), (b = .slice none 0 0 ∨ ∃ len cap, b = some_ len cap) ∧ VRel φ b v ∧ ∀ x p, φ x = some p → x = 0 ∧ p.esz = 0 ∧ p.r < W.heap.size := by
  obtain ⟨n, h⟩ := hd
  obtain ⟨a', len', cap', rfl⟩ := okWide_slice Tryz.underlying44 hv
  rcases Go.Deep.open_slice1 (e := 5) Tryz.underlying44 cells5 h with ⟨h1, _⟩ | ⟨a, len, cap, m, k, V, D, Pl, h1, _, hl, _, hm, _, hx⟩
  · simp only [Value.cells, List.cons.injEq, and_true, Value.slice.injEq] at h1
    obtain ⟨rfl, rfl, rfl⟩ := h1
    exact ⟨fun _ => none, _, .inl rfl, .sliceNil, fun x p e => by cases e⟩
  · simp only [Value.cells, List.cons.injEq, and_true, Value.slice.injEq] at h1
    obtain ⟨rfl, rfl, rfl⟩ := h1
    simp only [if_true] at hm
    subst hm
    by_cases hc : m = 0
    · subst hc
      obtain rfl : len' = 0 := by omega
      exact ⟨fun x => none, some_ 0 0, .inr ⟨0, 0, rfl⟩, .sliceEmpty 0 0 a, fun x p e => by cases e⟩
    · have h0 := (hx 0 (by omega)).1
      have ha : (a.add 0) = a := rfl
      rw [ha] at h0
      unfold World.cell? at h0
      split at h0
      · rename_i c el fr hcell
        split at h0
        · cases h0
        · rename_i hs
          have hlt : a.block < W.heap.size := by
            rcases Nat.lt_or_ge a.block W.heap.size with h' | h'
            · exact h'
            · rw [Array.getElem?_eq_none h'] at hcell; cases hcell
          obtain ⟨r, off, sp⟩ := a
          cases sp with
          | some _ => simp at hs
          | none =>
            refine ⟨fun x => if x = 0 then some ⟨r, off, 0, 0, 0⟩ else none, some_ len' m, .inr ⟨len', m, rfl⟩, ?_, ?_⟩
            · exact ( .slice 0 0 len' m ⟨r, off, 0, 0, 0⟩ rfl)
            · intro x p e
              by_cases hx : x = 0
              · simp only [hx, if_true, Option.some.injEq] at e; subst e; exact ⟨hx, rfl, hlt⟩
              · simp [hx] at e
      · cases h0

set_option maxRecDepth 100000 in
theorem lifted (os : Os) (started : os.Started) (H : Type) (enc : TypeId × Value → H) :
    ReturnsInHanded {} Tryz.checked os 5 .any (Rows.clientNilSpec.pre6 enc Tryz.prog Tryz.f5 Rows.clientNilRow.domain false) (Rows.clientNilSpec.post enc Tryz.prog Tryz.f5 false true false false) := by
  refine returnsInHanded_of_change (C := Tryz.checked) own started (by kernel_rfl) Tryz.func5
    (ChangeSpec.witness6 (enc := enc) (C := Tryz.checked) false ⟨#[], #[.int .i64 0, .slice none 0 0, .int .u8 0], []⟩ 8 (by kernel_rfl) (by kernel_rfl) (by kernel_rfl) (by kernel_rfl)) ?_
  intro W base args ds gs before hval0 hW hcnd _
  have hval : ∀ (j : Nat) t v, Tryz.f5.params[j]? = some t → args[j]? = some v → Value.okWide Tryz.prog W .any base t v := hval0
  have hW' : DataW.Whole enc Tryz.prog Tryz.f5.params.toList Rows.clientNilSpec.vars false W args.toList ds gs before := hW
  obtain ⟨p, q, hA0, hV, rfl, hfz, hnd⟩ := hW
  have hA : DataW.TrodAll enc Tryz.prog W 0 (fun _ => true) true Tryz.f5.params.toList args.toList ds p := hA0
  have hpar := Tryz.params5
  rw [hpar] at hA hval
  obtain ⟨v0, v1, v2, d0, d1, d2, p0, p1, p2, rfl, rfl, rfl, h0, h1, h2⟩ := trodAll_three hA
  obtain ⟨slot, rfl, rfl, rfl, wa⟩ := open_int Tryz.underlying3 (hval 0 3 v0 rfl rfl) h0
  obtain ⟨part, rfl, rfl, rfl, wc⟩ := open_int Tryz.underlying5 (hval 2 5 v2 rfl rfl) h2
  obtain ⟨φ, b, hb, hrel, hφ⟩ := bytes_of (hval 1 44 v1 rfl rfl) h1
  have hr : ∃ h', icall (Env.of Tryz.prog) (onePrim 6 (.bool true)) 100000 5 [.int .i64 slot, b, .int .u8 part] start = some (.bool true, h') := by
    rcases hb with rfl | ⟨len, cap, rfl⟩
    · exact all_of0 slot part
    · exact all_of slot len cap part
  refine (walk_of hφ hrel hr).mono fun e W' ⟨he, hg, hs⟩ => ?_
  subst he
  refine ⟨_, rfl, law_post (s := Rows.clientNilSpec) rfl hW' laidOut rowed wide ?_ (tb := 4) (by kernel_rfl) Tryz.underlying4 rfl rfl rfl hg hs⟩
  intro t ht
  rw [hpar] at ht
  simp only [List.mem_cons, List.not_mem_nil, or_false] at ht
  rcases ht with rfl | rfl | rfl <;> exact of_decide_eq_true (by kernel_rfl)

theorem holds : Rows.ClientNilSaid :=
  OpenClaim.holds_of_wide 5 Tryz.f5 rfl rfl rfl rfl rfl rfl rfl ⟨rfl, rfl, rfl, rfl, rfl⟩ rfl rfl rfl rfl rfl (by kernel_rfl) Tryz.func5 (by kernel_rfl)
    (of_decide_eq_true (by kernel_rfl)) (by unfold Func.isWrapper; first | (rw [if_pos (by decide +kernel)]; kernel_rfl) | (rw [if_neg (by decide +kernel)]; exact ⟨rfl, rfl⟩))
    (fun os started H enc _ => lifted os started H enc)

end Go.Proofs.YtfhcloeocbidnaaGreat.nil
#print axioms Go.Proofs.YtfhcloeocbidnaaGreat.nil.holds
