/- 'ServerNil': for every slot and every bytes the law answers true and changes nothing. No condition but that the listed package variables start as the program's text lays them (the card ties them; they are never read). -/
import Derived.Test.YtemfjkmfbfjlaaaGreatDoorCards
import Derived.Test.YtemfjkmfbfjlaaaGreatDoorTie
import Derived.Test.YtemfjkmfbfjlaaaGreatDoorNilCommon
set_option linter.all false
namespace Go.Proofs.YtemfjkmfbfjlaaaGreatDoor.nil
open Go Go.Ideal Go.Proofs Go.ChangeShapes Go.WideShapes Go.ChangeAt Go.RowKit
set_option linter.all false

set_option maxRecDepth 100000 in
theorem server_contract (H : Type) (enc : TypeId × Value → H) (W : World) (base : Nat) (args : Array Value) (ds gs : List (DataW H)) (before : List MemPlace)
    (hval : ∀ (j : Nat) t v, Tryz.f3.params[j]? = some t → args[j]? = some v → Value.okWide Tryz.prog W .any base t v)
    (hW : DataW.Whole enc Tryz.prog Tryz.f3.params.toList Rows.serverNilSpec.vars false W args.toList ds gs before) :
    Calls Tryz.prog 3 args W fun e W' => ∃ v, e = .returned v ∧ Rows.serverNilSpec.post enc Tryz.prog Tryz.f3 false true false false W args v W' := by
  have hW' := hW
  obtain ⟨p, q, hA0, hV, rfl, hfz, hnd⟩ := hW
  have hA : DataW.TrodAll enc Tryz.prog W 0 (fun _ => true) true Tryz.f3.params.toList args.toList ds p := hA0
  have hpar := Tryz.params3
  rw [hpar] at hA hval
  obtain ⟨v0, v1, d0, d1, p0, p1, rfl, rfl, rfl, h0, h1⟩ := trodAll_two hA
  obtain ⟨slot, rfl, rfl, rfl, w0⟩ := open_int Tryz.underlying3 (hval 0 3 v0 rfl rfl) h0
  obtain ⟨φ, b, hb, hrel, hφ⟩ := bytes_of (hval 1 22 v1 rfl rfl) h1
  have hr : ∃ h', icall (Env.of Tryz.prog) (primsOf (awakeD 5)) 1000 3 [.int .i64 slot, b] start = some (.bool true, h') := by
    rcases hb with rfl | ⟨len, cap, rfl⟩
    · exact server_nil slot
    · exact server_some slot len cap
  refine (server_walk hφ hrel hr).mono fun e W' ⟨he, hg, hs⟩ => ?_
  subst he
  refine ⟨_, rfl, law_post (s := Rows.serverNilSpec) rfl hW' laidOut rowed wide ?_ (tb := 4) (by kernel_rfl) Tryz.underlying4 rfl rfl rfl hg hs⟩
  intro t ht
  rw [hpar] at ht
  simp only [List.mem_cons, List.not_mem_nil, or_false] at ht
  rcases ht with rfl | rfl <;> exact of_decide_eq_true (by kernel_rfl)

theorem server_laid_met (os : Os) : laidMet Tryz.prog Rows.serverNilRow.laid ((laidWorld os).forCall (fun _ _ => 0) ⟨#[], #[.int .i64 0, .slice none 0 0], []⟩).memory :=
  laidMet_of_run' 8 (by kernel_rfl) (by kernel_rfl)
theorem server_reads (os : Os) {H : Type} (enc : TypeId × Value → H) : ∃ places, DataW.whole enc Tryz.prog ((laidWorld os).forCall (fun _ _ => 0) ⟨#[], #[.int .i64 0, .slice none 0 0], []⟩).memory Tryz.f3.params.toList Rows.serverNilSpec.vars false #[Value.int .i64 0, .slice none 0 0].toList 8 = some ([.lit (.int .i64 0), .nil], [], places) :=
  ⟨[], by kernel_rfl⟩

set_option maxRecDepth 100000 in
theorem server_lifted (os : Os) (started : os.Started) (H : Type) (enc : TypeId × Value → H) (F : Stop.Interp) :
    ReturnsInHanded {} Tryz.checked os 3 .any ((OpenSpec.ofChange Rows.serverNilSpec).preRow enc Tryz.prog Tryz.f3 Rows.serverNilRow.domain false Rows.serverNilRow.laid) (((OpenSpec.ofChange Rows.serverNilSpec).at F).post enc Tryz.prog Tryz.f3 false true false false) := by
  obtain ⟨places, hx⟩ := server_reads os enc
  refine returnsInHanded_of_row (C := Tryz.checked) (s := OpenSpec.ofChange Rows.serverNilSpec) own started (by kernel_rfl) Tryz.func3
    (witness_row_at (enc := enc) (C := Tryz.checked) false (laidWorld os) #[.int .i64 0, .slice none 0 0] rfl (by kernel_rfl) (by kernel_rfl) (by kernel_rfl)
      (OpenSpec.preRow_of_cond 8 hx (by kernel_rfl) (fun k hk => by cases hk) (by kernel_rfl) (server_laid_met os))) ?_
  intro W base args ds gs before hval hW _ _ _ hL _ _
  exact server_contract H enc W base args ds gs before hval hW

theorem server_said : Rows.ServerNilSaid :=
  OpenClaim.holds_of_cond 3 Tryz.f3 rfl rfl rfl rfl rfl rfl rfl ⟨rfl, rfl, rfl, rfl, rfl⟩ rfl rfl rfl rfl rfl (by kernel_rfl) Tryz.func3 (by kernel_rfl)
    (of_decide_eq_true (by kernel_rfl)) (by unfold Func.isWrapper; first | (rw [if_pos (by decide +kernel)]; kernel_rfl) | (rw [if_neg (by decide +kernel)]; exact ⟨rfl, rfl⟩))
    (fun os started H enc _ F => by rw [OpenClaim.pre_eq_preRow]; exact server_lifted os started H enc F)

theorem server_plain (f : FuncId) (fn : Func) (hf : Tryz.pinned.checked.prog.funcNamed "ricochet/ricochetlaw21.ServerNil" = some f) (hfn : Tryz.pinned.checked.prog.funcs[f]? = some fn) :
    false = Tryz.pinned.checked.prog.looks [] ∧ ∀ (j : Nat) t, fn.params[j]? = some t → Tryz.pinned.checked.prog.wantsStandIn t = false := by
  obtain rfl : f = 3 := Option.some.inj ((show Tryz.prog.funcNamed "ricochet/ricochetlaw21.ServerNil" = some 3 by kernel_rfl).symm.trans hf) |>.symm
  obtain rfl : fn = Tryz.f3 := (Option.some.inj (Tryz.func3.symm.trans hfn)).symm
  refine ⟨by kernel_rfl, fun j t ht => ?_⟩
  rw [Tryz.params3] at ht
  have ht' := Array.mem_of_getElem? ht
  simp only [List.mem_toArray, List.mem_cons, List.not_mem_nil, or_false] at ht'
  rcases ht' with rfl | rfl
  · exact (show Tryz.prog.wantsStandIn 3 = false by kernel_rfl)
  · exact (show Tryz.prog.wantsStandIn 22 = false by kernel_rfl)

theorem server_card : Rows.ServerNilCardSaid :=
  Claim7.holds_tied_plain_at .later [] _ _ _ _ server_said (fun _ h => by cases h) (by kernel_rfl) (fun _ h => by cases h) serverNil_row_tie rfl ⟨rfl, rfl⟩ (by kernel_rfl) rfl server_plain (by kernel_rfl)

end Go.Proofs.YtemfjkmfbfjlaaaGreatDoor.nil
#print axioms Go.Proofs.YtemfjkmfbfjlaaaGreatDoor.nil.server_card
