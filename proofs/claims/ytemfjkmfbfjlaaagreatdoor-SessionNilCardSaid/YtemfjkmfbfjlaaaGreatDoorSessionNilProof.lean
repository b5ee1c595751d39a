/- 'SessionNil': for every item the law answers true and changes nothing. No condition but that the listed package variables start as the program's text lays them (the card ties them; they are never read). -/
import Derived.Test.YtemfjkmfbfjlaaaGreatDoorCards
import Derived.Test.YtemfjkmfbfjlaaaGreatDoorTie
import Derived.Test.YtemfjkmfbfjlaaaGreatDoorNilCommon
set_option linter.all false
namespace Go.Proofs.YtemfjkmfbfjlaaaGreatDoor.nil
open Go Go.Ideal Go.Proofs Go.ChangeShapes Go.WideShapes Go.ChangeAt Go.RowKit
set_option linter.all false

theorem cells51 : Tryz.prog.cellsOf 51 = 9 := by kernel_rfl
theorem cells3 : Tryz.prog.cellsOf 3 = 1 := by kernel_rfl
theorem cells4 : Tryz.prog.cellsOf 4 = 1 := by kernel_rfl
theorem cells49 : Tryz.prog.cellsOf 49 = 1 := by kernel_rfl

/- a reading of a number or a truth value is of one clean cell -/
theorem clean_int {H : Type} {enc : TypeId × Value → H} {W : World} {held : Bool} {n : Nat} {t : TypeId} {k : IntKind} (ht : Tryz.prog.underlying t = some (.int k)) {v : Value} {x : DataW H × List MemPlace}
    (h : DataW.trod enc Tryz.prog W 0 (fun _ => true) held n t [v] = some x) : oneB v = true ∧ cleanB 5 v = true := by
  cases n with
  | zero => simp [DataW.trod] at h
  | succ n =>
    unfold DataW.trod at h
    rw [ht] at h
    cases v <;> simp at h <;> exact ⟨rfl, rfl⟩
theorem clean_bool {H : Type} {enc : TypeId × Value → H} {W : World} {held : Bool} {n : Nat} {t : TypeId} (ht : Tryz.prog.underlying t = some .bool) {v : Value} {x : DataW H × List MemPlace}
    (h : DataW.trod enc Tryz.prog W 0 (fun _ => true) held n t [v] = some x) : oneB v = true ∧ cleanB 5 v = true := by
  cases n with
  | zero => simp [DataW.trod] at h
  | succ n =>
    unfold DataW.trod at h
    rw [ht] at h
    cases v <;> simp at h <;> exact ⟨rfl, rfl⟩

set_option maxRecDepth 100000 in
theorem item_of {H : Type} {enc : TypeId × Value → H} {W : World} {held : Bool} {v : Value} {d : DataW H} {ps : List MemPlace} {r : Reach} {b0 : Nat} (hv : Value.okWide Tryz.prog W r b0 51 v)
    (hd : DataW.Trod enc Tryz.prog W 0 (fun _ => true) held 51 v d ps) :
    ∃ v0 v1 v2 v3 v4 v5 v6 v7 v8, v = .agg #[v0, v1, v2, v3, v4, v5, v6, v7, v8] ∧ cleanB depthB v = true := by
  obtain ⟨fuel, h⟩ := hd
  obtain ⟨cs, rfl, hsz⟩ := okWide_struct Tryz.underlying51 hv
  rw [cells51] at hsz
  obtain ⟨l⟩ := cs
  match l, hsz with
  | [v0, v1, v2, v3, v4, v5, v6, v7, v8], _ =>
    refine ⟨v0, v1, v2, v3, v4, v5, v6, v7, v8, rfl, ?_⟩
    obtain ⟨xs, n, _, _, _, hl, hf⟩ := DataW.trod_struct Tryz.underlying51 h
    have hlen : xs.length = 9 := hl
    have at_ : ∀ i, i < 9 → ∃ x, xs[i]? = some x := fun i hi => ⟨xs[i], List.getElem?_eq_getElem (by omega)⟩
    have g : ∀ (i : Nat) (t : TypeId) (u : Value), i < 9 → (DataW.trod enc Tryz.prog W 0 (fun _ => true) held n t [u] = xs[i]?) → ∃ x, DataW.trod enc Tryz.prog W 0 (fun _ => true) held n t [u] = some x := by
      intro i t u hi e
      obtain ⟨x, hx⟩ := at_ i hi
      exact ⟨x, e.trans hx⟩
    have c0 := g 0 3 v0 (by omega) (by have := hf 0 _ rfl; simpa [Value.cells, cells3] using this)
    have c1 := g 1 3 v1 (by omega) (by have := hf 1 _ rfl; simpa [Value.cells, cells3] using this)
    have c2 := g 2 3 v2 (by omega) (by have := hf 2 _ rfl; simpa [Value.cells, cells3] using this)
    have c3 := g 3 49 v3 (by omega) (by have := hf 3 _ rfl; simpa [Value.cells, cells49] using this)
    have c4 := g 4 49 v4 (by omega) (by have := hf 4 _ rfl; simpa [Value.cells, cells49] using this)
    have c5 := g 5 4 v5 (by omega) (by have := hf 5 _ rfl; simpa [Value.cells, cells4] using this)
    have c6 := g 6 4 v6 (by omega) (by have := hf 6 _ rfl; simpa [Value.cells, cells4] using this)
    have c7 := g 7 5 v7 (by omega) (by have := hf 7 _ rfl; simpa [Value.cells, cells5] using this)
    have c8 := g 8 5 v8 (by omega) (by have := hf 8 _ rfl; simpa [Value.cells, cells5] using this)
    obtain ⟨_, c0⟩ := c0; obtain ⟨_, c1⟩ := c1; obtain ⟨_, c2⟩ := c2; obtain ⟨_, c3⟩ := c3; obtain ⟨_, c4⟩ := c4
    obtain ⟨_, c5⟩ := c5; obtain ⟨_, c6⟩ := c6; obtain ⟨_, c7⟩ := c7; obtain ⟨_, c8⟩ := c8
    have k0 := clean_int Tryz.underlying3 c0
    have k1 := clean_int Tryz.underlying3 c1
    have k2 := clean_int Tryz.underlying3 c2
    have k3 := clean_int Tryz.underlying49 c3
    have k4 := clean_int Tryz.underlying49 c4
    have k5 := clean_bool Tryz.underlying4 c5
    have k6 := clean_bool Tryz.underlying4 c6
    have k7 := clean_int Tryz.underlying5 c7
    have k8 := clean_int Tryz.underlying5 c8
    show ([v0, v1, v2, v3, v4, v5, v6, v7, v8].all fun c => oneB c && cleanB 5 c) = true
    simp only [List.all_cons, List.all_nil, k0.1, k1.1, k2.1, k3.1, k4.1, k5.1, k6.1, k7.1, k8.1, k0.2, k1.2, k2.2, k3.2, k4.2, k5.2, k6.2, k7.2, k8.2, Bool.and_self]

set_option maxRecDepth 100000 in
theorem session_contract (H : Type) (enc : TypeId × Value → H) (W : World) (base : Nat) (args : Array Value) (ds gs : List (DataW H)) (before : List MemPlace)
    (hval : ∀ (j : Nat) t v, Tryz.f4.params[j]? = some t → args[j]? = some v → Value.okWide Tryz.prog W .any base t v)
    (hW : DataW.Whole enc Tryz.prog Tryz.f4.params.toList Rows.sessionNilSpec.vars false W args.toList ds gs before) :
    Calls Tryz.prog 4 args W fun e W' => ∃ v, e = .returned v ∧ Rows.sessionNilSpec.post enc Tryz.prog Tryz.f4 false true false false W args v W' := by
  have hW' := hW
  obtain ⟨p, q, hA0, hV, rfl, hfz, hnd⟩ := hW
  have hA : DataW.TrodAll enc Tryz.prog W 0 (fun _ => true) true Tryz.f4.params.toList args.toList ds p := hA0
  have hpar := Tryz.params4
  rw [hpar] at hA hval
  obtain ⟨v0, vs0, d0, ds0, p0, q0, hargs, rfl, rfl, h0, r0⟩ := trodAll_cons hA
  obtain ⟨rfl, rfl, rfl⟩ := trodAll_nil r0
  obtain rfl : args = #[v0] := by cases args; simp_all
  obtain ⟨a0, a1, a2, a3, a4, a5, a6, a7, a8, rfl, hc⟩ := item_of (hval 0 51 v0 rfl rfl) h0
  refine (session_walk hc).mono fun e W' ⟨he, hg, hs⟩ => ?_
  subst he
  refine ⟨_, rfl, law_post (s := Rows.sessionNilSpec) rfl hW' laidOut rowed wide ?_ (tb := 4) (by kernel_rfl) Tryz.underlying4 rfl rfl rfl hg hs⟩
  intro t ht
  rw [hpar] at ht
  simp only [List.mem_cons, List.not_mem_nil, or_false] at ht
  subst ht
  exact of_decide_eq_true (by kernel_rfl)

def zero_item : Value := .agg #[.int .i64 0, .int .i64 0, .int .i64 0, .int .i8 0, .int .i8 0, .bool false, .bool false, .int .u8 0, .int .u8 0]
theorem session_laid_met (os : Os) : laidMet Tryz.prog Rows.sessionNilRow.laid ((laidWorld os).forCall (fun _ _ => 0) ⟨#[], #[zero_item], []⟩).memory :=
  laidMet_of_run' 8 (by kernel_rfl) (by kernel_rfl)
theorem session_reads (os : Os) {H : Type} (enc : TypeId × Value → H) : ∃ places, DataW.whole enc Tryz.prog ((laidWorld os).forCall (fun _ _ => 0) ⟨#[], #[zero_item], []⟩).memory Tryz.f4.params.toList Rows.sessionNilSpec.vars false #[zero_item].toList 8 =
    some ([.agg [.lit (.int .i64 0), .lit (.int .i64 0), .lit (.int .i64 0), .lit (.int .i8 0), .lit (.int .i8 0), .lit (.bool false), .lit (.bool false), .lit (.int .u8 0), .lit (.int .u8 0)]], [], places) :=
  ⟨[], by kernel_rfl⟩

set_option maxRecDepth 100000 in
theorem session_lifted (os : Os) (started : os.Started) (H : Type) (enc : TypeId × Value → H) (F : Stop.Interp) :
    ReturnsInHanded {} Tryz.checked os 4 .any ((OpenSpec.ofChange Rows.sessionNilSpec).preRow enc Tryz.prog Tryz.f4 Rows.sessionNilRow.domain false Rows.sessionNilRow.laid) (((OpenSpec.ofChange Rows.sessionNilSpec).at F).post enc Tryz.prog Tryz.f4 false true false false) := by
  obtain ⟨places, hx⟩ := session_reads os enc
  refine returnsInHanded_of_row (C := Tryz.checked) (s := OpenSpec.ofChange Rows.sessionNilSpec) own started (by kernel_rfl) Tryz.func4
    (witness_row_at (enc := enc) (C := Tryz.checked) false (laidWorld os) #[zero_item] rfl (by kernel_rfl) (by kernel_rfl) (by kernel_rfl)
      (OpenSpec.preRow_of_cond 8 hx (by kernel_rfl) (fun k hk => by cases hk) (by kernel_rfl) (session_laid_met os))) ?_
  intro W base args ds gs before hval hW _ _ _ hL _ _
  exact session_contract H enc W base args ds gs before hval hW

theorem session_said : Rows.SessionNilSaid :=
  OpenClaim.holds_of_cond 4 Tryz.f4 rfl rfl rfl rfl rfl rfl rfl ⟨rfl, rfl, rfl, rfl, rfl⟩ rfl rfl rfl rfl rfl (by kernel_rfl) Tryz.func4 (by kernel_rfl)
    (of_decide_eq_true (by kernel_rfl)) (by unfold Func.isWrapper; first | (rw [if_pos (by decide +kernel)]; kernel_rfl) | (rw [if_neg (by decide +kernel)]; exact ⟨rfl, rfl⟩))
    (fun os started H enc _ F => by rw [OpenClaim.pre_eq_preRow]; exact session_lifted os started H enc F)

theorem session_plain (f : FuncId) (fn : Func) (hf : Tryz.pinned.checked.prog.funcNamed "ricochet/ricochetlaw23.SessionNil" = some f) (hfn : Tryz.pinned.checked.prog.funcs[f]? = some fn) :
    false = Tryz.pinned.checked.prog.looks [] ∧ ∀ (j : Nat) t, fn.params[j]? = some t → Tryz.pinned.checked.prog.wantsStandIn t = false := by
  obtain rfl : f = 4 := Option.some.inj ((show Tryz.prog.funcNamed "ricochet/ricochetlaw23.SessionNil" = some 4 by kernel_rfl).symm.trans hf) |>.symm
  obtain rfl : fn = Tryz.f4 := (Option.some.inj (Tryz.func4.symm.trans hfn)).symm
  refine ⟨by kernel_rfl, fun j t ht => ?_⟩
  rw [Tryz.params4] at ht
  obtain rfl : t = 51 := by simpa using Array.mem_of_getElem? ht
  exact (show Tryz.prog.wantsStandIn 51 = false by kernel_rfl)

theorem session_card : Rows.SessionNilCardSaid :=
  Claim7.holds_tied_plain_at .later [] _ _ _ _ session_said (fun _ h => by cases h) (by kernel_rfl) (fun _ h => by cases h) sessionNil_row_tie rfl ⟨rfl, rfl⟩ (by kernel_rfl) rfl session_plain (by kernel_rfl)

end Go.Proofs.YtemfjkmfbfjlaaaGreatDoor.nil
#print axioms Go.Proofs.YtemfjkmfbfjlaaaGreatDoor.nil.session_card
