/- An ideal machine for the translated code, and that the model answers as it does: part 2. -/
import Derived.Test.YtfhcloeocbidnaaGreatEng1
import Derived.RowKit3
import Derived.ReadAgain
import Derived.ProofKit
import Derived.OpenShut
set_option linter.all false
/- More fuel gives the same answer. -/
namespace Go.Ideal
open Go

section
variable {E : Env} {pr : Prims}

theorem irun_mono (c c' : ICall) (hc : ∀ f a h r, c f a h = some r → c' f a h = some r) (ops l : List Oper) : ∀ tm h r, irun E c ops l tm h = some r → irun E c' ops l tm h = some r := by
  induction l with
  | nil => intro tm h r e; exact e
  | cons o rest ih =>
    intro tm h r e
    simp only [irun] at e ⊢
    split at e
    · rename_i hw
      rw [if_pos hw]
      split at e
      · rename_i hok
        rw [if_pos hok]
        cases hx : iop E c (ieval tm) o.op h with
        | none => rw [hx] at e; cases e
        | some x =>
          obtain ⟨v, h1⟩ := x
          rw [hx] at e
          rw [iop_mono E c c' hc _ _ _ _ hx]
          exact ih _ _ _ e
      · cases e
    · rename_i hw
      rw [if_neg hw]
      exact ih _ _ _ e

theorem irunDraw_mono (c c' : ICall) (hc : ∀ f a h r, c f a h = some r → c' f a h = some r) (ops : List Oper) (st : Nat) (l : List Oper) : ∀ j rd mu tm h r, irunDraw E c ops st l j rd mu tm h = some r → irunDraw E c' ops st l j rd mu tm h = some r := by
  induction l with
  | nil => intro j rd mu tm h r e; exact e
  | cons o rest ih =>
    intro j rd mu tm h r e
    simp only [irunDraw] at e ⊢
    split at e
    · rename_i hw
      rw [if_pos hw]
      split at e
      · rename_i hok
        rw [if_pos hok]
        cases hx : iop E c (ieval tm) o.op { next := h.next, wr := 0, t := h.t } with
        | none => rw [hx] at e; cases e
        | some x =>
          obtain ⟨v, h1⟩ := x
          rw [hx] at e
          rw [iop_mono E c c' hc _ _ _ _ hx]
          simp only at e ⊢
          cases hl : loadsOf (ieval tm) h.next o.op with
          | some b =>
            rw [hl] at e
            simp only at e ⊢
            split at e
            · rename_i hz; rw [if_pos hz]; exact ih _ _ _ _ _ _ e
            · cases e
          | none =>
            rw [hl] at e
            simp only at e ⊢
            split at e
            · rename_i hz; rw [if_pos hz]; exact ih _ _ _ _ _ _ e
            · rename_i hz; rw [if_neg hz]
              split at e
              · rename_i hz; rw [if_pos hz]; exact ih _ _ _ _ _ _ e
              · cases e
      · cases e
    · rename_i hw
      rw [if_neg hw]
      exact ih _ _ _ _ _ _ e

theorem icallBy_mono (run run' : Code → List Value → IHeap → Option (IEx × List Value × IHeap)) (hr : ∀ c tm h r, run c tm h = some r → run' c tm h = some r) (f : FuncId) (a : List Value) (h : IHeap) (r : Value × IHeap)
    (e : icallBy E pr run f a h = some r) : icallBy E pr run' f a h = some r := by
  unfold icallBy at e ⊢
  cases hp : pr f with
  | some g => rw [hp] at e; exact e
  | none =>
    rw [hp] at e
    simp only at e ⊢
    cases hf : E.fn f with
    | none => rw [hf] at e; cases e
    | some fn =>
      rw [hf] at e
      simp only at e ⊢
      cases hb : fn.body with
      | none => rw [hb] at e; cases e
      | some c =>
        rw [hb] at e
        simp only at e ⊢
        cases hx : run c (a ++ List.replicate (fn.ntmps - a.length) undef) h with
        | none => rw [hx] at e; cases e
        | some x => rw [hx] at e; rw [hr _ _ _ _ hx]; exact e

/- one step of the code, the rest run by run -/
def istep (E : Env) (pr : Prims) (run : Code → List Value → IHeap → Option (IEx × List Value × IHeap)) (c : Code) (tm : List Value) (h : IHeap) : Option (IEx × List Value × IHeap) :=
  match c with
  | .skip => some (.normal, tm, h)
  | .label _ => some (.normal, tm, h)
  | .region _ ops draw =>
    match (if draw then (if drawOK ops.toList then irunDraw E (icallBy E pr run) ops.toList h.next ops.toList 0 [] [] tm h else none) else irun E (icallBy E pr run) ops.toList ops.toList tm h) with
    | some (tm', h') => some (.normal, tm', h')
    | none => none
  | .seq a b =>
    match run a tm h with
    | some (.normal, tm', h') => run b tm' h'
    | r => r
  | .cond c x y =>
    match ieval tm c with
    | .bool true => run x tm h
    | .bool false => run y tm h
    | _ => none
  | .block id b =>
    match run b tm h with
    | some (.exit id', tm', h') => if id' = id then some (.normal, tm', h') else some (.exit id', tm', h')
    | r => r
  | .loop b =>
    match run b tm h with
    | some (.normal, tm', h') => run (.loop b) tm' h'
    | r => r
  | .exit id => some (.exit id, tm, h)
  | .ret => some (.ret, tm, h)
  | _ => none

theorem icode_step (n : Nat) (c : Code) (tm : List Value) (h : IHeap) : icode E pr (n + 1) c tm h = istep E pr (icode E pr n) c tm h := by
  cases c <;> rfl

theorem istep_mono (run run' : Code → List Value → IHeap → Option (IEx × List Value × IHeap)) (ih : ∀ c tm h r, run c tm h = some r → run' c tm h = some r) (c : Code) (tm : List Value) (h : IHeap) (r : IEx × List Value × IHeap)
    (e : istep E pr run c tm h = some r) : istep E pr run' c tm h = some r := by
  have hc := icallBy_mono (E := E) (pr := pr) run run' ih
  cases c with
  | region id ops draw =>
    simp only [istep] at e ⊢
    cases draw with
    | true =>
      simp only [if_true] at e ⊢
      split at e
      · rename_i tm' h' hx
        split at hx
        · rename_i hd
          rw [if_pos hd, irunDraw_mono _ _ hc _ _ _ _ _ _ _ _ _ hx]; exact e
        · cases hx
      · cases e
    | false =>
      simp only [Bool.false_eq_true, if_false] at e ⊢
      cases hx : irun E (icallBy E pr run) ops.toList ops.toList tm h with
      | none => rw [hx] at e; cases e
      | some x => rw [hx] at e; rw [irun_mono _ _ hc _ _ _ _ _ hx]; exact e
  | seq a b =>
    simp only [istep] at e ⊢
    cases hx : run a tm h with
    | none => rw [hx] at e; cases e
    | some x =>
      rw [hx] at e; rw [ih _ _ _ _ hx]
      obtain ⟨x1, x2, x3⟩ := x
      cases x1 with
      | normal => exact ih _ _ _ _ e
      | exit i => exact e
      | ret => exact e
  | cond c x y =>
    simp only [istep] at e ⊢
    split at e
    · rename_i hb; exact ih _ _ _ _ e
    · rename_i hb; exact ih _ _ _ _ e
    · cases e
  | block id b =>
    simp only [istep] at e ⊢
    cases hx : run b tm h with
    | none => rw [hx] at e; cases e
    | some x => rw [hx] at e; rw [ih _ _ _ _ hx]; exact e
  | loop b =>
    simp only [istep] at e ⊢
    cases hx : run b tm h with
    | none => rw [hx] at e; cases e
    | some x =>
      rw [hx] at e; rw [ih _ _ _ _ hx]
      obtain ⟨x1, x2, x3⟩ := x
      cases x1 with
      | normal => exact ih _ _ _ _ e
      | exit i => exact e
      | ret => exact e
  | _ => exact e

theorem icode_succ (n : Nat) : ∀ c tm h r, icode E pr n c tm h = some r → icode E pr (n + 1) c tm h = some r := by
  induction n with
  | zero => intro c tm h r e; cases e
  | succ n ih =>
    intro c tm h r e
    rw [icode_step] at e ⊢
    exact istep_mono _ _ ih c tm h r e

theorem icode_le {n m : Nat} (hnm : n ≤ m) {c : Code} {tm : List Value} {h : IHeap} {r : IEx × List Value × IHeap} (e : icode E pr n c tm h = some r) : icode E pr m c tm h = some r := by
  induction hnm with
  | refl => exact e
  | step _ ih => exact icode_succ _ _ _ _ _ ih

theorem icall_le {n m : Nat} (hnm : n ≤ m) {f : FuncId} {a : List Value} {h : IHeap} {r : Value × IHeap} (e : icall E pr n f a h = some r) : icall E pr m f a h = some r :=
  icallBy_mono _ _ (fun _ _ _ _ e => icode_le hnm e) f a h r e

end
end Go.Ideal

/- What a call of the ideal machine says of the model's: nothing that was there turns; a closed call is a primitive. -/
namespace Go.Ideal
open Go

section
variable {P : Program}

/- nothing that was there turns, if nothing of it may be written -/
theorem Step.same {φ φ' : Emb} {h h' : IHeap} {w w' : World} (s : Step φ h w φ' h' w') (hro : ∀ b p o, φ b = some p → h.get b = some o → o.writes = true → h'.wrote b = false) (r : Nat) (hr : r < w.heap.size) :
    w'.heap[r]? = w.heap[r]? := s.frame r hr fun b p o e1 _ e3 e4 => hro b p o e1 e3 e4

theorem Step.grown {φ φ' : Emb} {h h' : IHeap} {w w' : World} (s : Step φ h w φ' h' w') (hro : ∀ b p o, φ b = some p → h.get b = some o → o.writes = true → h'.wrote b = false) : RowKit.Grown w w' := by
  refine ⟨⟨s.calm.1, s.calm.2, fun i hi => ?_⟩, s.cold, s.size⟩
  rw [s.same hro i hi]
  cases w.heap[i]? with
  | none => rfl
  | some o => cases o <;> simp

/- a closed call's answer without an address, as a primitive that leaves the heap as it was -/
def closedPrim (v : Value) : List Value → IHeap → Option (Value × IHeap) := fun args h => match args with | [] => some (v, h) | _ => none

theorem closed_mono (v : Value) : CallMono fun _ => closedPrim v := by
  intro f args h u h' e hw
  simp only [closedPrim] at e
  split at e
  · cases e; exact ⟨.refl _, hw⟩
  · cases e

theorem closed_sim {pr : Prims} (hp : PrimsOK P pr) (hm : P.follows .mixedOrders = true) {n : Nat} {f : FuncId} {v : Value} {h1 : IHeap} (hr : icall (Env.of P) pr n f [] IHeap.empty = some (v, h1)) (hv : cleanB depthB v = true)
    (args : List Value) (h : IHeap) (u : Value) (h' : IHeap) (e : closedPrim v args h = some (u, h')) (φ : Emb) (w : World) (args' : List Value) (hw : h.wf) (hh : HRel φ h w) (ha : LRel φ args args') :
    Calls P f args'.toArray w fun e w' => ∃ φ' v', e = .returned v' ∧ VRel φ' u v' ∧ Step φ h w φ' h' w' := by
  unfold closedPrim at e
  split at e
  · simp only [Option.some.injEq, Prod.mk.injEq] at e
    obtain ⟨rfl, rfl⟩ := e
    obtain rfl := ha.nil_left
    have hw0 : IHeap.empty.wf := fun b _ => rfl
    have hr0 : HRel (fun _ => none) IHeap.empty w := ⟨fun b p o e => (by cases e), fun b p e => (by cases e), fun b b' p p' o e => (by cases e)⟩
    refine (icall_sim hp hm n f [] IHeap.empty v h1 hr (fun _ => none) w [] hw0 hr0 (fun _ _ _ => rfl) (.nil _)).mono ?_
    rintro x w' ⟨φ', v', rfl, r1, r2⟩
    refine ⟨φ, v', rfl, ?_, ?_⟩
    · rw [r1.clean _ hv]; exact .of_clean φ _ v hv
    · have same : ∀ r, r < w.heap.size → w'.heap[r]? = w.heap[r]? := fun r hr => r2.same (fun b p o e => by cases e) r hr
      exact {
        mono := .refl _
        wf := hw
        ext := φ.le_refl
        fresh := fun b p e e' => by rw [e] at e'; cases e'
        size := r2.size
        frame := fun r hr _ => same r hr
        rel := ⟨fun b p o e1 e2 => (hh.obj b p o e1 e2).keep φ.le_refl (same _ (hh.lt b p e1 (IHeap.live_of e2))), fun b p e1 e2 => Nat.lt_of_lt_of_le (hh.lt b p e1 e2) r2.size, hh.inj⟩
        calm := r2.calm
        cold := r2.cold }
  · cases e

/- a table of one closed call -/
def onePrim (f0 : FuncId) (v : Value) : Prims := fun f => match Nat.beq f f0 with | true => some (closedPrim v) | false => none

theorem onePrim_ok (hm : P.follows .mixedOrders = true) {n : Nat} {f0 : FuncId} {v : Value} {h1 : IHeap} (hr : icall (Env.of P) (fun _ => none) n f0 [] IHeap.empty = some (v, h1)) (hv : cleanB depthB v = true) : PrimsOK P (onePrim f0 v) := by
  refine ⟨fun f g e => ?_, fun f g e => ?_⟩
  · unfold onePrim at e
    split at e
    · cases e; exact closed_mono v
    · cases e
  · unfold onePrim at e
    split at e
    · rename_i hb
      cases e
      obtain rfl := Nat.eq_of_beq_eq_true hb
      exact fun args h u h' e φ w args' hw hh _ ha => closed_sim (PrimsOK.none P) hm hr hv args h u h' e φ w args' hw hh ha
    · cases e

end
end Go.Ideal

/- The ideal machine over arguments that are not known: at a branch that hangs on them it is told which way to go, and notes what that supposes. Functions that see no such value run strictly. -/
namespace Go.Ideal
open Go

/- what is told of the branches to come (none: look for yourself), and what was supposed -/
structure Told where
  ahead : List (Option Bool)
  cons : List (Value × Bool)

def Told.ask (s : Told) (v : Value) : Option (Bool × Told) :=
  match s.ahead with
  | some b :: r => some (b, ⟨r, (v, b) :: s.cons⟩)
  | none :: r => match v with | .bool true => some (true, ⟨r, s.cons⟩) | .bool false => some (false, ⟨r, s.cons⟩) | _ => none
  | [] => match v with | .bool true => some (true, s) | .bool false => some (false, s) | _ => none

def Told.met (s : Told) : Prop := ∀ x ∈ s.cons, x.1 = .bool x.2

abbrev OCall := FuncId → List Value → Told → IHeap → Option (Told × Value × IHeap)

def guardV (ops : List Oper) (tm : List Value) (j : Nat) : Value := match ops[j]? with | some o => (match o.dst with | some d => tm.getD d undef | none => undef) | none => undef

def iopO (E : Env) (call : OCall) (tm : List Value) (o : Op) (s : Told) (h : IHeap) : Option (Told × Value × IHeap) :=
  match o with
  | .call ⟨.value f, args, _⟩ => match ieval tm f with
    | .func (.func f) first captured => match goesOn E f with
      | true => call f (first.toList ++ (args.toList.map (ieval tm)) ++ captured.toList) s h
      | false => none
    | _ => none
  | .pick c a b => match s.ask (ieval tm c) with
    | some (true, s) => some (s, ieval tm a, h)
    | some (false, s) => some (s, ieval tm b, h)
    | none => none
  | o => match iop E (fun _ _ _ => none) (ieval tm) o h with | some (v, h') => some (s, v, h') | none => none

def irunO (E : Env) (call : OCall) (ops : List Oper) : List Oper → List Value → Told → IHeap → Option (Told × List Value × IHeap)
  | [], tm, s, h => some (s, tm, h)
  | o :: rest, tm, s, h =>
    match (match o.guard with | none => some (true, s) | some (j, want) => match s.ask (guardV ops tm j) with | some (b, s) => some (b == want, s) | none => none) with
    | some (true, s) =>
      match operOK o.op with
      | true => match iopO E call tm o.op s h with
        | some (s, v, h') => irunO E call ops rest (iput tm o.dst v) s h'
        | none => none
      | false => none
    | some (false, s) => irunO E call ops rest (iput tm o.dst undef) s h
    | none => none

def icallByO (E : Env) (pr : Prims) (lazy : FuncId → Bool) (strict : ICall) (run : Code → List Value → Told → IHeap → Option (Told × IEx × List Value × IHeap)) : OCall := fun f args s h =>
  match lazy f with
  | false => match strict f args h with | some (v, h') => some (s, v, h') | none => none
  | true =>
  match pr f with
  | some _ => none
  | none =>
  match E.fn f with
  | some fn => match fn.body with
    | some c => match run c (args ++ List.replicate (fn.ntmps - args.length) undef) s h with
      | some (s, .normal, tm, h') => match iresults E fn tm h' with | some v => some (s, v, h') | none => none
      | some (s, .ret, tm, h') => match iresults E fn tm h' with | some v => some (s, v, h') | none => none
      | _ => none
    | none => none
  | none => none

def icodeO (E : Env) (pr : Prims) (lazy : FuncId → Bool) : Nat → Code → List Value → Told → IHeap → Option (Told × IEx × List Value × IHeap)
  | 0, _, _, _, _ => none
  | n + 1, c, tm, s, h =>
    match c with
    | .skip => some (s, .normal, tm, h)
    | .label _ => some (s, .normal, tm, h)
    | .region _ ops draw =>
      match draw with
      | true => match drawOK ops.toList with
        | true => match irunDraw E (icallF E pr n) ops.toList h.next ops.toList 0 [] [] tm h with
          | some (tm', h') => some (s, .normal, tm', h')
          | none => none
        | false => none
      | false => match irunO E (icallByO E pr lazy (icallF E pr n) (icodeO E pr lazy n)) ops.toList ops.toList tm s h with
        | some (s, tm', h') => some (s, .normal, tm', h')
        | none => none
    | .seq a b =>
      match icodeO E pr lazy n a tm s h with
      | some (s, .normal, tm', h') => icodeO E pr lazy n b tm' s h'
      | r => r
    | .cond c x y =>
      match s.ask (ieval tm c) with
      | some (true, s) => icodeO E pr lazy n x tm s h
      | some (false, s) => icodeO E pr lazy n y tm s h
      | none => none
    | .block id b =>
      match icodeO E pr lazy n b tm s h with
      | some (s, .exit id', tm', h') => match Nat.beq id' id with | true => some (s, .normal, tm', h') | false => some (s, .exit id', tm', h')
      | r => r
    | .loop b =>
      match icodeO E pr lazy n b tm s h with
      | some (s, .normal, tm', h') => icodeO E pr lazy n (.loop b) tm' s h'
      | r => r
    | .exit id => some (s, .exit id, tm, h)
    | .ret => some (s, .ret, tm, h)
    | _ => none

def icallO (E : Env) (pr : Prims) (lazy : FuncId → Bool) (n : Nat) : OCall := icallByO E pr lazy (icallF E pr n) (icodeO E pr lazy n)

def Told.le (s s' : Told) : Prop := s'.met → s.met

theorem ask_spec {s s' : Told} {v : Value} {b : Bool} (e : s.ask v = some (b, s')) : s.le s' ∧ (s'.met → v = .bool b) := by
  unfold Told.ask at e
  split at e
  · cases e
    exact ⟨fun m x hx => m x (List.mem_cons_of_mem _ hx), fun m => m (v, _) (List.mem_cons_self ..)⟩
  · split at e
    · cases e; exact ⟨fun m => m, fun _ => rfl⟩
    · cases e; exact ⟨fun m => m, fun _ => rfl⟩
    · cases e
  · split at e
    · cases e; exact ⟨fun m => m, fun _ => rfl⟩
    · cases e; exact ⟨fun m => m, fun _ => rfl⟩
    · cases e

section
variable {E : Env} {pr : Prims} {lazy : FuncId → Bool}

def OSound (c : OCall) (c' : ICall) : Prop := ∀ f args s h s' v h', c f args s h = some (s', v, h') → s.le s' ∧ (s'.met → c' f args h = some (v, h'))

theorem iopO_sound {c : OCall} {c' : ICall} (hc : OSound c c') {tm : List Value} {o : Op} {s s' : Told} {h h' : IHeap} {v : Value} (e : iopO E c tm o s h = some (s', v, h')) : s.le s' ∧ (s'.met → iop E c' (ieval tm) o h = some (v, h')) := by
  have other : (match iop E (fun _ _ _ => none) (ieval tm) o h with | some (v, h') => some (s, v, h') | none => none) = some (s', v, h') → s.le s' ∧ (s'.met → iop E c' (ieval tm) o h = some (v, h')) := by
    intro e
    cases hx : iop E (fun _ _ _ => none) (ieval tm) o h with
    | none => rw [hx] at e; cases e
    | some x =>
      rw [hx] at e; cases e
      exact ⟨fun m => m, fun _ => iop_mono E _ c' (fun _ _ _ _ e => by cases e) _ _ _ _ hx⟩
  unfold iopO at e
  split at e
  · split at e
    · rename_i hf
      split at e
      · rename_i hg
        obtain ⟨k1, k2⟩ := hc _ _ _ _ _ _ _ e
        refine ⟨k1, fun m => ?_⟩
        simp only [iop, hf, hg, if_true]
        exact k2 m
      · cases e
    · cases e
  · split at e
    · rename_i hx; cases e
      obtain ⟨k1, k2⟩ := ask_spec hx
      exact ⟨k1, fun m => by simp only [iop, k2 m, if_true]⟩
    · rename_i hx; cases e
      obtain ⟨k1, k2⟩ := ask_spec hx
      exact ⟨k1, fun m => by simp only [iop, k2 m, Bool.false_eq_true, if_false]⟩
    · cases e
  · exact other e

theorem wanted_of {ops : List Oper} {tm : List Value} {o : Oper} {j : Nat} {want b : Bool} (hg : o.guard = some (j, want)) (hv : guardV ops tm j = .bool b) : iwanted ops tm o = (b == want) := by
  unfold iwanted
  rw [hg]
  simp only
  unfold guardV at hv
  unfold iyielded
  cases ho : ops[j]? with
  | none => rw [ho] at hv; cases hv
  | some x =>
    rw [ho] at hv
    simp only at hv ⊢
    cases hd : x.dst with
    | none => rw [hd] at hv; cases hv
    | some d =>
      rw [hd] at hv
      simp only at hv ⊢
      rw [List.getD_eq_getElem?_getD] at hv
      cases ht : tm[d]? with
      | none => rw [ht] at hv; cases hv
      | some u =>
        rw [ht] at hv
        simp only [Option.getD_some] at hv
        subst hv
        cases b <;> cases want <;> rfl

theorem irunO_sound {c : OCall} {c' : ICall} (hc : OSound c c') (ops l : List Oper) : ∀ tm s h s' tm' h', irunO E c ops l tm s h = some (s', tm', h') → s.le s' ∧ (s'.met → irun E c' ops l tm h = some (tm', h')) := by
  induction l with
  | nil => intro tm s h s' tm' h' e; simp only [irunO, Option.some.injEq, Prod.mk.injEq] at e; obtain ⟨rfl, rfl, rfl⟩ := e; exact ⟨fun m => m, fun _ => rfl⟩
  | cons o rest ih =>
    intro tm s h s' tm' h' e
    simp only [irunO] at e
    have hw : ∀ b s1, (match o.guard with | none => some (true, s) | some (j, want) => match s.ask (guardV ops tm j) with | some (b, s) => some (b == want, s) | none => none) = some (b, s1) → s.le s1 ∧ (s1.met → iwanted ops tm o = b) := by
      intro b s1 e
      cases hg : o.guard with
      | none => rw [hg] at e; cases e; exact ⟨fun m => m, fun _ => by unfold iwanted; rw [hg]⟩
      | some g =>
        obtain ⟨j, want⟩ := g
        rw [hg] at e
        simp only at e
        cases ha : s.ask (guardV ops tm j) with
        | none => rw [ha] at e; cases e
        | some x =>
          obtain ⟨b0, s0⟩ := x
          rw [ha] at e; cases e
          obtain ⟨k1, k2⟩ := ask_spec ha
          exact ⟨k1, fun m => wanted_of hg (k2 m)⟩
    split at e
    · rename_i s1 hs1
      obtain ⟨k1, k2⟩ := hw _ _ hs1
      split at e
      · rename_i hok
        split at e
        · rename_i s2 v h1 ho
          obtain ⟨k3, k4⟩ := iopO_sound hc ho
          obtain ⟨k5, k6⟩ := ih _ _ _ _ _ _ e
          refine ⟨fun m => k1 (k3 (k5 m)), fun m => ?_⟩
          simp only [irun, k2 (k3 (k5 m)), hok, if_true, k4 (k5 m)]
          exact k6 m
        · cases e
      · cases e
    · rename_i s1 hs1
      obtain ⟨k1, k2⟩ := hw _ _ hs1
      obtain ⟨k5, k6⟩ := ih _ _ _ _ _ _ e
      refine ⟨fun m => k1 (k5 m), fun m => ?_⟩
      simp only [irun, k2 (k5 m), Bool.false_eq_true, if_false]
      exact k6 m
    · cases e

def CSound (run : Code → List Value → Told → IHeap → Option (Told × IEx × List Value × IHeap)) (run' : Code → List Value → IHeap → Option (IEx × List Value × IHeap)) : Prop :=
  ∀ c tm s h s' e tm' h', run c tm s h = some (s', e, tm', h') → s.le s' ∧ (s'.met → run' c tm h = some (e, tm', h'))

theorem icallByO_sound {n : Nat} {run : Code → List Value → Told → IHeap → Option (Told × IEx × List Value × IHeap)} (hr : CSound run (icode E pr n)) : OSound (icallByO E pr lazy (icallF E pr n) run) (icall E pr n) := by
  intro f args s h s' v h' e
  unfold icallByO at e
  split at e
  · split at e
    · rename_i hx
      cases e
      exact ⟨fun m => m, fun _ => icallF_sound E pr n _ _ _ _ hx⟩
    · cases e
  · split at e
    · cases e
    · rename_i hp
      split at e
      · rename_i fn hf
        split at e
        · rename_i c hb
          split at e
          · rename_i s1 tm h1 hx
            obtain ⟨k1, k2⟩ := hr _ _ _ _ _ _ _ _ hx
            split at e
            · rename_i v1 hv; cases e
              refine ⟨k1, fun m => ?_⟩
              unfold icall icallBy
              simp only [hp, hf, hb, k2 m, hv]
            · cases e
          · rename_i s1 tm h1 hx
            obtain ⟨k1, k2⟩ := hr _ _ _ _ _ _ _ _ hx
            split at e
            · rename_i v1 hv; cases e
              refine ⟨k1, fun m => ?_⟩
              unfold icall icallBy
              simp only [hp, hf, hb, k2 m, hv]
            · cases e
          · cases e
        · cases e
      · cases e

theorem icodeO_sound (n : Nat) : CSound (icodeO E pr lazy n) (icode E pr n) := by
  induction n with
  | zero => intro c tm s h s' e tm' h' hr; cases hr
  | succ n ih =>
    intro c tm s h s' e tm' h' hr
    have hc := icallByO_sound (lazy := lazy) ih
    rw [icode_step]
    cases c with
    | skip => simp only [icodeO, Option.some.injEq, Prod.mk.injEq] at hr; obtain ⟨rfl, rfl, rfl, rfl⟩ := hr; exact ⟨fun m => m, fun _ => rfl⟩
    | label l => simp only [icodeO, Option.some.injEq, Prod.mk.injEq] at hr; obtain ⟨rfl, rfl, rfl, rfl⟩ := hr; exact ⟨fun m => m, fun _ => rfl⟩
    | exit l => simp only [icodeO, Option.some.injEq, Prod.mk.injEq] at hr; obtain ⟨rfl, rfl, rfl, rfl⟩ := hr; exact ⟨fun m => m, fun _ => rfl⟩
    | ret => simp only [icodeO, Option.some.injEq, Prod.mk.injEq] at hr; obtain ⟨rfl, rfl, rfl, rfl⟩ := hr; exact ⟨fun m => m, fun _ => rfl⟩
    | region id ops draw =>
      simp only [icodeO] at hr
      simp only [istep]
      cases draw with
      | true =>
        simp only at hr
        cases hd : drawOK ops.toList with
        | false => rw [hd] at hr; cases hr
        | true =>
          rw [hd] at hr
          simp only at hr
          cases hx : irunDraw E (icallF E pr n) ops.toList h.next ops.toList 0 [] [] tm h with
          | none => rw [hx] at hr; cases hr
          | some x =>
            rw [hx] at hr; cases hr
            refine ⟨fun m => m, fun _ => ?_⟩
            have := irunDraw_mono _ (icall E pr n) (icallF_sound E pr n) _ _ _ _ _ _ _ _ _ hx
            unfold icall at this
            simp only [if_true, this]
      | false =>
        simp only at hr
        cases hx : irunO E (icallByO E pr lazy (icallF E pr n) (icodeO E pr lazy n)) ops.toList ops.toList tm s h with
        | none => rw [hx] at hr; cases hr
        | some x =>
          obtain ⟨s1, tm1, h1⟩ := x
          rw [hx] at hr; cases hr
          obtain ⟨k1, k2⟩ := irunO_sound hc _ _ _ _ _ _ _ _ hx
          refine ⟨k1, fun m => ?_⟩
          have := k2 m
          unfold icall at this
          simp only [Bool.false_eq_true, if_false, this]
    | seq a b =>
      simp only [icodeO] at hr
      simp only [istep]
      cases hx : icodeO E pr lazy n a tm s h with
      | none => rw [hx] at hr; cases hr
      | some x =>
        obtain ⟨s1, e1, tm1, h1⟩ := x
        obtain ⟨k1, k2⟩ := ih _ _ _ _ _ _ _ _ hx
        rw [hx] at hr
        cases e1 with
        | normal =>
          obtain ⟨k3, k4⟩ := ih _ _ _ _ _ _ _ _ hr
          exact ⟨fun m => k1 (k3 m), fun m => by rw [k2 (k3 m)]; exact k4 m⟩
        | exit i => cases hr; exact ⟨k1, fun m => by rw [k2 m]⟩
        | ret => cases hr; exact ⟨k1, fun m => by rw [k2 m]⟩
    | cond c x y =>
      simp only [icodeO] at hr
      simp only [istep]
      cases ha : s.ask (ieval tm c) with
      | none => rw [ha] at hr; cases hr
      | some z =>
        obtain ⟨b, s1⟩ := z
        obtain ⟨k1, k2⟩ := ask_spec ha
        rw [ha] at hr
        cases b with
        | true => obtain ⟨k3, k4⟩ := ih _ _ _ _ _ _ _ _ hr; exact ⟨fun m => k1 (k3 m), fun m => by rw [k2 (k3 m)]; exact k4 m⟩
        | false => obtain ⟨k3, k4⟩ := ih _ _ _ _ _ _ _ _ hr; exact ⟨fun m => k1 (k3 m), fun m => by rw [k2 (k3 m)]; exact k4 m⟩
    | block id b =>
      simp only [icodeO] at hr
      simp only [istep]
      cases hx : icodeO E pr lazy n b tm s h with
      | none => rw [hx] at hr; cases hr
      | some x =>
        obtain ⟨s1, e1, tm1, h1⟩ := x
        obtain ⟨k1, k2⟩ := ih _ _ _ _ _ _ _ _ hx
        rw [hx] at hr
        cases e1 with
        | normal => cases hr; exact ⟨k1, fun m => by rw [k2 m]⟩
        | ret => cases hr; exact ⟨k1, fun m => by rw [k2 m]⟩
        | exit i =>
          simp only at hr
          cases hb : Nat.beq i id with
          | true => rw [hb] at hr; cases hr; exact ⟨k1, fun m => by rw [k2 m]; simp only; rw [if_pos (Nat.eq_of_beq_eq_true hb)]⟩
          | false => rw [hb] at hr; cases hr; exact ⟨k1, fun m => by rw [k2 m]; simp only; rw [if_neg (Nat.ne_of_beq_eq_false hb)]⟩
    | loop b =>
      simp only [icodeO] at hr
      simp only [istep]
      cases hx : icodeO E pr lazy n b tm s h with
      | none => rw [hx] at hr; cases hr
      | some x =>
        obtain ⟨s1, e1, tm1, h1⟩ := x
        obtain ⟨k1, k2⟩ := ih _ _ _ _ _ _ _ _ hx
        rw [hx] at hr
        cases e1 with
        | normal =>
          obtain ⟨k3, k4⟩ := ih _ _ _ _ _ _ _ _ hr
          exact ⟨fun m => k1 (k3 m), fun m => by rw [k2 (k3 m)]; exact k4 m⟩
        | exit i => cases hr; exact ⟨k1, fun m => by rw [k2 m]⟩
        | ret => cases hr; exact ⟨k1, fun m => by rw [k2 m]⟩
    | rangeFunc f p a b => simp only [icodeO] at hr; cases hr
    | scope b => simp only [icodeO] at hr; cases hr
    | goto l => simp only [icodeO] at hr; cases hr
    | refuse w => simp only [icodeO] at hr; cases hr

theorem icallO_sound {n : Nat} {f : FuncId} {args : List Value} {s s' : Told} {h h' : IHeap} {v : Value} (e : icallO E pr lazy n f args s h = some (s', v, h')) (m : s'.met) : icall E pr n f args h = some (v, h') :=
  (icallByO_sound (icodeO_sound n) _ _ _ _ _ _ _ e).2 m

end
end Go.Ideal

/- A law that answers true and turns nothing that was there meets its row: from the walk to the contract, whatever the parameters' types. -/
namespace Go.Ideal
open Go Go.ChangeShapes Go.WideShapes Go.ChangeAt Go.RowKit

section
variable {H : Type} {enc : TypeId × Value → H} {P : Program}

theorem trodAll_same {W W' : World} (hs : ∀ r, r < W.heap.size → W'.heap[r]? = W.heap[r]?) : ∀ {ts : List TypeId} {vs : List Value} {ds : List (DataW H)} {ps : List MemPlace}, (∀ p ∈ ps, p.block < W.heap.size) →
    DataW.TrodAll enc P W 0 (fun _ => true) true ts vs ds ps → DataW.TrodAll enc P W' 0 (fun _ => true) true ts vs ds ps
  | [], [], [], _, _, h => h
  | _ :: _, _ :: _, _ :: _, ps, hl, ⟨p, q, ⟨n, h1⟩, h2, e⟩ => by
    subst e
    refine ⟨p, q, ⟨n, DataW.trod_carry n _ _ _ h1 fun x hx => ?_⟩, trodAll_same hs (fun x hx => hl x (List.mem_append_right _ hx)) h2, rfl⟩
    have := hs x.block (hl x (List.mem_append_left _ hx))
    cases x with
    | cell b off => simp only [World.sameAt, World.cell?]; simp only [MemPlace.block] at this; rw [this]
    | map b => simpa only [World.sameAt, MemPlace.block] using this

theorem law_post {f : Func} {s : ChangeSpec} {apart fresh handsOn again : Bool} {W W' : World} {args : Array Value} {ds gs : List (DataW H)} {before : List MemPlace} (hvars : s.vars = [])
    (hW : DataW.Whole enc P f.params.toList s.vars apart W args.toList ds gs before) (hl : laidOutB P = true) (hm : mapsRowed P = true) (hz : ∀ t e, t < P.types.size → P.underlying t = some (.slice e) → 0 < P.cellsOf e)
    (hp : ∀ t ∈ f.params.toList, t < P.types.size) {tb : TypeId} (hr : f.resultTypes = #[tb]) (hb : P.underlying tb = some .bool)
    (hres : (s.fn H ds).results = [.lit (.bool true)]) (hargs : (s.fn H ds).args = ds) (hv : (s.fn H ds).vars = []) (hg : Grown W W') (hs : ∀ r, r < W.heap.size → W'.heap[r]? = W.heap[r]?) :
    s.post enc P f apart fresh handsOn again W args (.bool true) W' := by
  have hW' := hW
  have hlt : ∀ p ∈ before, p.block < W.heap.size := hW.lt
  obtain ⟨p, q, hA, hV, rfl, hfz, hnd⟩ := hW
  rw [hvars] at hV
  obtain ⟨rfl, rfl⟩ := trodVars_none hV
  simp only [List.append_nil] at hlt hW' ⊢
  have hk := kids_rows hl hm
  refine post_of_same (pa := p) (pv := []) hW' ?_ ?_ ?_ (by simp) (hg.frame _) hg.2.1 ?_
  · intro b sp hd
    rw [hr]
    simp only [List.append_nil, hres]
    exact trodAll_cons_mk (shut_bool hb _) trodAll_mk0
  · intro sp hsp
    simp only [List.append_nil, hargs]
    exact (trodAll_same hs hlt hA).respare hk hz hp hsp
  · intro sp _
    simp only [List.append_nil, hv, hvars]
    rfl
  · exact ok_one hr (by rfl) (okWide_bool_mk hb _)

end
end Go.Ideal
