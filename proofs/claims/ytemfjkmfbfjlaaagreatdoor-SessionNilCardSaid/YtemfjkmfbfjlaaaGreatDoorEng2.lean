/- An ideal machine for the translated code, and that the model answers as it does: part 2. -/
import Derived.Test.YtemfjkmfbfjlaaaGreatDoorEng0
import Derived.Test.YtemfjkmfbfjlaaaGreatDoorEng1
import Derived.RowKit3
import Derived.ReadAgain
import Derived.ProofKit
import Derived.OpenShut
set_option linter.all false
/- The ideal machine once more, strict (for the kernel's evaluation): each value, each list and each written path of the heap is brought to its constructors before the next step. It is equal to the plain one. -/
namespace Go.Ideal
open Go

section
variable {β : Type}

def seqNat (n : Nat) (k : Nat → β) : β := match n with | 0 => k 0 | m + 1 => k (m + 1)
theorem seqNat_eq (n : Nat) (k : Nat → β) : seqNat n k = k n := by cases n <;> rfl

def seqInt (n : Int) (k : Int → β) : β := match n with | .ofNat m => seqNat m fun m => k (.ofNat m) | .negSucc m => seqNat m fun m => k (.negSucc m)
theorem seqInt_eq (n : Int) (k : Int → β) : seqInt n k = k n := by cases n <;> simp [seqInt, seqNat_eq]

def seqL {α : Type} (f : α → (α → β) → β) : List α → (List α → β) → β
  | [], k => k []
  | a :: l, k => f a fun a => seqL f l fun l => k (a :: l)
theorem seqL_eq {α : Type} (f : α → (α → β) → β) (hf : ∀ a k, f a k = k a) (l : List α) (k : List α → β) : seqL f l k = k l := by
  induction l generalizing k with
  | nil => rfl
  | cons a l ih => simp [seqL, hf, ih]

def seqA {α : Type} (f : α → (α → β) → β) (a : Array α) (k : Array α → β) : β := match a with | ⟨l⟩ => seqL f l fun l => k ⟨l⟩
theorem seqA_eq {α : Type} (f : α → (α → β) → β) (hf : ∀ a k, f a k = k a) (a : Array α) (k : Array α → β) : seqA f a k = k a := by
  cases a; simp [seqA, seqL_eq f hf]

def seqAddr (a : Option Addr) (k : Option Addr → β) : β := match a with
  | none => k none
  | some ⟨b, o, none⟩ => seqNat b fun b => seqNat o fun o => k (some ⟨b, o, none⟩)
  | some a => k (some a)
theorem seqAddr_eq (a : Option Addr) (k : Option Addr → β) : seqAddr a k = k a := by
  unfold seqAddr; split <;> simp [seqNat_eq]

def seqV : Nat → Value → (Value → β) → β
  | 0, v, k => k v
  | d + 1, v, k => match v with
    | .int kd n => match kd with
      | .i8 => seqInt n fun n => k (.int .i8 n) | .i16 => seqInt n fun n => k (.int .i16 n) | .i32 => seqInt n fun n => k (.int .i32 n) | .i64 => seqInt n fun n => k (.int .i64 n)
      | .u8 => seqInt n fun n => k (.int .u8 n) | .u16 => seqInt n fun n => k (.int .u16 n) | .u32 => seqInt n fun n => k (.int .u32 n) | .u64 => seqInt n fun n => k (.int .u64 n)
    | .bool b => match b with | true => k (.bool true) | false => k (.bool false)
    | .pointer a => seqAddr a fun a => k (.pointer a)
    | .slice a l c => seqAddr a fun a => seqNat l fun l => seqNat c fun c => k (.slice a l c)
    | .map r => match r with | none => k (.map none) | some b => seqNat b fun b => k (.map (some b))
    | .agg cs => seqA (seqV d) cs fun cs => k (.agg cs)
    | .tuple cs => seqA (seqV d) cs fun cs => k (.tuple cs)
    | .iface t v => seqNat t fun t => seqV d v fun v => k (.iface t v)
    | .func (.func f) p q => seqNat f fun f => seqA (seqV d) p fun p => seqA (seqV d) q fun q => k (.func (.func f) p q)
    | v => k v
theorem seqV_eq (d : Nat) (v : Value) (k : Value → β) : seqV d v k = k v := by
  induction d generalizing v k with
  | zero => rfl
  | succ d ih =>
    unfold seqV
    split <;> (try split) <;> simp [seqInt_eq, seqAddr_eq, seqNat_eq, seqA_eq _ ih, ih]

def seqPair (p : Value × Value) (k : Value × Value → β) : β := match p with | (a, b) => seqV 6 a fun a => seqV 6 b fun b => k (a, b)
theorem seqPair_eq (p : Value × Value) (k : Value × Value → β) : seqPair p k = k p := by cases p; simp [seqPair, seqV_eq]

def seqObj (o : Option IObj) (k : Option IObj → β) : β := match o with
  | none => k none
  | some (.cells cs e) => seqL (seqV 6) cs fun cs => seqNat e fun e => k (some (.cells cs e))
  | some (.ro cs) => k (some (.ro cs))
  | some (.map es) => seqL seqPair es fun es => k (some (.map es))
  | some (.iter s p) => seqNat p fun p => k (some (.iter s p))
theorem seqObj_eq (o : Option IObj) (k : Option IObj → β) : seqObj o k = k o := by
  unfold seqObj; split <;> simp [seqNat_eq, seqL_eq _ (seqV_eq 6), seqL_eq _ seqPair_eq]

def seqT1 {α : Type} (t : T α) (k : T α → β) : β := match t with | .leaf => k .leaf | .node v l r => k (.node v l r)
theorem seqT1_eq {α : Type} (t : T α) (k : T α → β) : seqT1 t k = k t := by cases t <;> rfl

def forceAt : Nat → T IObj → Nat → (T IObj → β) → β
  | 0, t, _, k => k t
  | f + 1, t, n, k => match t with
    | .leaf => k .leaf
    | .node v l r => match n with
      | 0 => seqObj v fun v => seqT1 l fun l => seqT1 r fun r => k (.node v l r)
      | m + 1 => seqT1 l fun l => seqT1 r fun r => match v with
        | none => if m % 2 == 0 then forceAt f l (m / 2) fun l => k (.node none l r) else forceAt f r (m / 2) fun r => k (.node none l r)
        | some v => if m % 2 == 0 then forceAt f l (m / 2) fun l => k (.node (some v) l r) else forceAt f r (m / 2) fun r => k (.node (some v) l r)
theorem forceAt_eq (f : Nat) (t : T IObj) (n : Nat) (k : T IObj → β) : forceAt f t n k = k t := by
  induction f generalizing t n k with
  | zero => rfl
  | succ f ih =>
    unfold forceAt
    split
    · rfl
    · split
      · simp [seqObj_eq, seqT1_eq]
      · simp only [seqT1_eq]
        split <;> split <;> simp [ih]

def forceAll : List Nat → T IObj → (T IObj → β) → β
  | [], t, k => k t
  | n :: ns, t, k => forceAt 64 t n fun t => forceAll ns t k
theorem forceAll_eq (l : List Nat) (t : T IObj) (k : T IObj → β) : forceAll l t k = k t := by
  induction l generalizing t k with
  | nil => rfl
  | cons n ns ih => simp [forceAll, forceAt_eq, ih]

def forceH (l : List Nat) (h : IHeap) (k : IHeap → β) : β := match h with
  | ⟨n, w, t⟩ => seqNat n fun n => seqNat w fun w => forceAll l t fun t => k ⟨n, w, t⟩
theorem forceH_eq (l : List Nat) (h : IHeap) (k : IHeap → β) : forceH l h k = k h := by
  cases h; simp [forceH, seqNat_eq, forceAll_eq]

def blockOf : Value → List Nat
  | .pointer (some a) => [a.block]
  | .slice (some a) _ _ => [a.block]
  | .map (some b) => [b]
  | _ => []

/- the blocks that an operation may have written -/
def touched (ρ : Operand → Value) (o : Op) (h : IHeap) : List Nat :=
  match o with
  | .store _ a _ => blockOf (ρ a)
  | .alloc _ | .box _ _ | .buildSlice .. | .makeMap .. | .makeSlice .. | .range .. | .convert .. => [h.next]
  | .mapUpdate _ m _ _ => blockOf (ρ m)
  | .next it _ => blockOf (ρ it)
  | .call ⟨.builtin .append, args, _⟩ => h.next :: (args.toList.map ρ).flatMap blockOf
  | .call ⟨.builtin _, args, _⟩ => (args.toList.map ρ).flatMap blockOf
  | _ => []

end

/- the temporaries as a tree -/
structure TM where
  n : Nat
  t : T Value

def T.setK {α β : Type} : Nat → T α → Nat → α → (T α → β) → β
  | 0, t, _, _, k => k t
  | f + 1, t, n, v, k => match t with
    | .leaf => match n with
      | 0 => k (.node (some v) .leaf .leaf)
      | m + 1 => if m % 2 == 0 then T.setK f .leaf (m / 2) v fun l => k (.node none l .leaf) else T.setK f .leaf (m / 2) v fun r => k (.node none .leaf r)
    | .node v0 l r => match n with
      | 0 => k (.node (some v) l r)
      | m + 1 => if m % 2 == 0 then T.setK f l (m / 2) v fun l => k (.node v0 l r) else T.setK f r (m / 2) v fun r => k (.node v0 l r)

theorem T.setK_eq {α β : Type} (f : Nat) (t : T α) (n : Nat) (v : α) (k : T α → β) : T.setK f t n v k = k (T.set f t n (some v)) := by
  induction f generalizing t n k with
  | zero => rfl
  | succ f ih =>
    cases t with
    | leaf => cases n with
      | zero => rfl
      | succ m => simp only [T.setK, T.set]; split <;> simp [ih]
    | node v0 l r => cases n with
      | zero => rfl
      | succ m => simp only [T.setK, T.set]; split <;> simp [ih]

def TM.get (m : TM) (i : Nat) : Value := match m.t.get i with | some v => v | none => undef
def TM.put {β : Type} (m : TM) (d : Option Tmp) (v : Value) (k : TM → β) : β := match m, d with
  | ⟨n, t⟩, some d => match Nat.blt d n with
    | true => T.setK (d + 1) t d v fun t => k ⟨n, t⟩
    | false => k ⟨n, t⟩
  | m, none => k m

def TMR (m : TM) (tm : List Value) : Prop := m.n = tm.length ∧ ∀ i, (m.t.get i).getD undef = tm.getD i undef

theorem TMR.get {m : TM} {tm : List Value} (h : TMR m tm) (i : Nat) : m.get i = tm.getD i undef := by
  rw [← h.2 i]; unfold TM.get; cases m.t.get i <;> rfl

theorem TMR.put {β : Type} {m : TM} {tm : List Value} (h : TMR m tm) (d : Option Tmp) (v : Value) (k : TM → β) : ∃ m', m.put d v k = k m' ∧ TMR m' (iput tm d v) := by
  obtain ⟨n, t⟩ := m
  obtain ⟨h1, h2⟩ := h
  simp only at h1 h2
  cases d with
  | none => exact ⟨⟨n, t⟩, rfl, h1, h2⟩
  | some d =>
    simp only [TM.put, iput]
    cases hb : Nat.blt d n with
    | false =>
      have hge : ¬ d < tm.length := by rw [← h1, ← Nat.blt_eq, hb]; simp
      refine ⟨⟨n, t⟩, rfl, by simpa using h1, fun i => ?_⟩
      rw [List.set_eq_of_length_le (Nat.le_of_not_lt hge)]; exact h2 i
    | true =>
      have hl : d < n := by rw [← Nat.blt_eq, hb]
      refine ⟨⟨n, T.set (d + 1) t d (some v)⟩, by simp only [T.setK_eq], by simpa using h1, fun i => ?_⟩
      rw [T.get_set _ _ _ _ _ (Nat.lt_succ_self d)]
      by_cases hi : i = d
      · subst hi; simp [List.getD_eq_getElem?_getD, h1 ▸ hl]
      · rw [if_neg hi, h2 i]; simp [List.getD_eq_getElem?_getD, List.getElem?_set_ne (Ne.symm hi)]

def ievalT (m : TM) : Operand → Value
  | .tmp t => m.get t
  | .const v => v
  | .global g => .pointer (some ⟨g, 0, none⟩)
  | .func f => .func (.func f) #[] #[]

theorem TMR.eval {m : TM} {tm : List Value} (h : TMR m tm) : ievalT m = ieval tm := by
  funext x; cases x <;> simp [ievalT, ieval, h.get]

def iyieldedT (ops : List Oper) (m : TM) (j : Nat) : Option Bool :=
  match ops[j]? with
  | some o => match o.dst with
    | some d => match m.get d with
      | .bool b => some b
      | _ => none
    | none => none
  | none => none

def iwantedT (ops : List Oper) (m : TM) (o : Oper) : Bool :=
  match o.guard with
  | none => true
  | some (j, want) => iyieldedT ops m j == some want

theorem TMR.yielded {m : TM} {tm : List Value} (h : TMR m tm) (ops : List Oper) (j : Nat) : iyieldedT ops m j = iyielded ops tm j := by
  unfold iyieldedT iyielded
  cases ops[j]? with
  | none => rfl
  | some o' =>
    simp only
    cases o'.dst with
    | none => rfl
    | some d =>
      simp only
      rw [h.get d, List.getD_eq_getElem?_getD]
      cases tm[d]? with
      | none => rfl
      | some v => cases v <;> rfl

theorem TMR.wanted {m : TM} {tm : List Value} (h : TMR m tm) (ops : List Oper) (o : Oper) : iwantedT ops m o = iwanted ops tm o := by
  unfold iwantedT iwanted
  simp only [h.yielded]
  rfl

def TM.ofArgs {β : Type} : List Value → Nat → TM → (TM → β) → β
  | [], _, m, k => k m
  | v :: vs, i, m, k => m.put (some i) v fun m => seqNat (i + 1) fun i => TM.ofArgs vs i m k

def setAll : List Value → Nat → List Value → List Value
  | tm, _, [] => tm
  | tm, i, v :: vs => setAll (tm.set i v) (i + 1) vs

theorem setAll_eq (vs : List Value) : ∀ (pre : List Value) (r : Nat), setAll (pre ++ List.replicate (vs.length + r) undef) pre.length vs = pre ++ vs ++ List.replicate r undef := by
  induction vs with
  | nil => intro pre r; simp [setAll]
  | cons v vs ih =>
    intro pre r
    have e : (pre ++ List.replicate ((v :: vs).length + r) undef).set pre.length v = (pre ++ [v]) ++ List.replicate (vs.length + r) undef := by
      have : (v :: vs).length + r = (vs.length + r) + 1 := by simp; omega
      rw [this, List.replicate_succ, List.set_append_right _ _ (Nat.le_refl _)]
      simp
    simp only [setAll, e]
    have := ih (pre ++ [v]) r
    simp only [List.length_append, List.length_cons, List.length_nil] at this
    rw [this]; simp

theorem TM.ofArgs_eq {β : Type} (vs : List Value) : ∀ (i : Nat) (m : TM) (tm : List Value) (k : TM → β), TMR m tm → ∃ m', TM.ofArgs vs i m k = k m' ∧ TMR m' (setAll tm i vs) := by
  induction vs with
  | nil => exact fun i m tm k h => ⟨m, rfl, h⟩
  | cons v vs ih =>
    intro i m tm k h
    obtain ⟨m1, h1, h2⟩ := h.put (some i) v (fun m => seqNat (i + 1) fun i => TM.ofArgs vs i m k)
    obtain ⟨m2, h3, h4⟩ := ih (i + 1) m1 _ k h2
    exact ⟨m2, by simp only [TM.ofArgs]; rw [h1, seqNat_eq, h3], h4⟩

theorem TMR.fresh (n : Nat) : TMR ⟨n, .leaf⟩ (List.replicate n undef) := by
  refine ⟨by simp, fun i => ?_⟩
  simp only [T.get_leaf, Option.getD_none, List.getD_eq_getElem?_getD]
  rw [List.getElem?_replicate]; split <;> rfl

/- what a callee gives more often -/
theorem iop_mono (E : Env) (c c' : ICall) (hc : ∀ f a h r, c f a h = some r → c' f a h = some r) (ρ : Operand → Value) (o : Op) (h : IHeap) (r : Value × IHeap)
    (hr : iop E c ρ o h = some r) : iop E c' ρ o h = some r := by
  unfold iop at hr ⊢
  split at hr <;> first | exact hr | skip
  rename_i f args tys
  cases hf : ρ f with
  | func g p q =>
    rw [hf] at hr
    cases g with
    | func g =>
      simp only at hr ⊢
      split at hr
      · rename_i hg; rw [if_pos hg]; exact hc _ _ _ _ hr
      · rename_i hg; rw [if_neg hg]; exact hr
    | _ => cases hr
  | _ => rw [hf] at hr; cases hr

def irunF (E : Env) (call : ICall) (ops : List Oper) : List Oper → TM → IHeap → Option (TM × IHeap)
  | [], tm, h => some (tm, h)
  | o :: rest, tm, h =>
    match iwantedT ops tm o with
    | true =>
      match operOK o.op with
      | true =>
        match iop E call (ievalT tm) o.op h with
        | some (v, h') => forceH (touched (ievalT tm) o.op h) h' fun h' => seqV 6 v fun v => tm.put o.dst v fun tm => irunF E call ops rest tm h'
        | none => none
      | false => none
    | false => tm.put o.dst undef fun tm => irunF E call ops rest tm h

theorem irunF_sound (E : Env) (c c' : ICall) (hc : ∀ f a h r, c f a h = some r → c' f a h = some r) (ops l : List Oper) : ∀ (m : TM) (tm : List Value) (h : IHeap) (m' : TM) (h' : IHeap),
    TMR m tm → irunF E c ops l m h = some (m', h') → ∃ tm', irun E c' ops l tm h = some (tm', h') ∧ TMR m' tm' := by
  induction l with
  | nil => intro m tm h m' h' hm hr; simp only [irunF, Option.some.injEq, Prod.mk.injEq] at hr; obtain ⟨rfl, rfl⟩ := hr; exact ⟨tm, rfl, hm⟩
  | cons o rest ih =>
    intro m tm h m' h' hm hr
    simp only [irunF] at hr
    simp only [irun]
    rw [hm.wanted] at hr
    split at hr
    · rename_i hw
      simp only [hw, if_true]
      split at hr
      · rename_i hok
        simp only [hok, if_true]
        split at hr
        · rename_i v h1 ho
          rw [hm.eval] at ho
          rw [iop_mono E c c' hc _ _ _ _ ho]
          simp only [forceH_eq, seqV_eq] at hr
          obtain ⟨m1, e1, hm1⟩ := hm.put o.dst v (fun tm => irunF E c ops rest tm h1)
          rw [e1] at hr
          exact ih _ _ _ _ _ hm1 hr
        · cases hr
      · cases hr
    · rename_i hw
      simp only [hw, Bool.false_eq_true, if_false]
      obtain ⟨m1, e1, hm1⟩ := hm.put o.dst undef (fun tm => irunF E c ops rest tm h)
      rw [e1] at hr
      exact ih _ _ _ _ _ hm1 hr

def irunDrawF (E : Env) (call : ICall) (ops : List Oper) (st : Nat) : List Oper → Nat → List (Nat × Nat) → List (Nat × Nat) → TM → IHeap → Option (TM × IHeap)
  | [], _, _, _, tm, h => some (tm, h)
  | o :: rest, j, rd, mu, tm, h =>
    match iwantedT ops tm o with
    | true =>
      match operOK o.op with
      | true =>
        match iop E call (ievalT tm) o.op { next := h.next, wr := 0, t := h.t } with
        | some (v, h') =>
          forceH (touched (ievalT tm) o.op h) h' fun h' => seqV 6 v fun v => seqNat (h.wr ||| h'.wr) fun wr => seqNat (j + 1) fun j1 =>
          match loadsOf (ievalT tm) h.next o.op with
          | some b => seqNat b fun b =>
            match (allocOp o.op || mu.isEmpty || Nat.blt b st) && mu.all fun x => ordered ops 40 x.1 j || !x.2.testBit b with
            | true => tm.put o.dst v fun tm => irunDrawF E call ops st rest j1 ((j, b) :: rd) mu tm { next := h'.next, wr := wr, t := h'.t }
            | false => none
          | none =>
            match h'.wr % 2 ^ h.next == 0 with
            | true => tm.put o.dst v fun tm => irunDrawF E call ops st rest j1 rd mu tm { next := h'.next, wr := wr, t := h'.t }
            | false =>
              match barrier E ops j && rd.all fun x => ordered ops 40 x.1 j || !h'.wr.testBit x.2 with
              | true => tm.put o.dst v fun tm => irunDrawF E call ops st rest j1 rd ((j, h'.wr) :: mu) tm { next := h'.next, wr := wr, t := h'.t }
              | false => none
        | none => none
      | false => none
    | false => tm.put o.dst undef fun tm => seqNat (j + 1) fun j => irunDrawF E call ops st rest j rd mu tm h

theorem irunDrawF_sound (E : Env) (c c' : ICall) (hc : ∀ f a h r, c f a h = some r → c' f a h = some r) (ops : List Oper) (st : Nat) (l : List Oper) : ∀ (j : Nat) (rd mu : List (Nat × Nat)) (m : TM) (tm : List Value) (h : IHeap) (m' : TM) (h' : IHeap),
    TMR m tm → irunDrawF E c ops st l j rd mu m h = some (m', h') → ∃ tm', irunDraw E c' ops st l j rd mu tm h = some (tm', h') ∧ TMR m' tm' := by
  induction l with
  | nil => intro j rd mu m tm h m' h' hm hr; simp only [irunDrawF, Option.some.injEq, Prod.mk.injEq] at hr; obtain ⟨rfl, rfl⟩ := hr; exact ⟨tm, rfl, hm⟩
  | cons o rest ih =>
    intro j rd mu m tm h m' h' hm hr
    simp only [irunDrawF] at hr
    simp only [irunDraw]
    rw [hm.wanted] at hr
    split at hr
    · rename_i hw
      simp only [hw, if_true]
      split at hr
      · rename_i hok
        simp only [hok, if_true]
        split at hr
        · rename_i v h1 ho
          rw [hm.eval] at ho
          rw [iop_mono E c c' hc _ _ _ _ ho]
          simp only [forceH_eq, seqV_eq, seqNat_eq] at hr
          rw [hm.eval] at hr
          simp only
          split at hr
          · rename_i b hb
            rw [hb]
            simp only [seqNat_eq] at hr ⊢
            split at hr
            · rename_i hall
              rw [if_pos hall]
              obtain ⟨m1, e1, hm1⟩ := hm.put o.dst v (fun tm => irunDrawF E c ops st rest (j + 1) ((j, b) :: rd) mu tm { next := h1.next, wr := h.wr ||| h1.wr, t := h1.t })
              rw [e1] at hr
              exact ih _ _ _ _ _ _ _ _ hm1 hr
            · cases hr
          · rename_i hb
            rw [hb]
            simp only
            split at hr
            · rename_i hz
              rw [if_pos hz]
              obtain ⟨m1, e1, hm1⟩ := hm.put o.dst v (fun tm => irunDrawF E c ops st rest (j + 1) rd mu tm { next := h1.next, wr := h.wr ||| h1.wr, t := h1.t })
              rw [e1] at hr
              exact ih _ _ _ _ _ _ _ _ hm1 hr
            · rename_i hz
              rw [if_neg (by simp [hz])]
              split at hr
              · rename_i hall
                rw [if_pos hall]
                obtain ⟨m1, e1, hm1⟩ := hm.put o.dst v (fun tm => irunDrawF E c ops st rest (j + 1) rd ((j, h1.wr) :: mu) tm { next := h1.next, wr := h.wr ||| h1.wr, t := h1.t })
                rw [e1] at hr
                exact ih _ _ _ _ _ _ _ _ hm1 hr
              · cases hr
        · cases hr
      · cases hr
    · rename_i hw
      simp only [hw, Bool.false_eq_true, if_false]
      simp only [seqNat_eq] at hr
      obtain ⟨m1, e1, hm1⟩ := hm.put o.dst undef (fun tm => irunDrawF E c ops st rest (j + 1) rd mu tm h)
      rw [e1] at hr
      exact ih _ _ _ _ _ _ _ _ hm1 hr

def iresult1F (E : Env) (tm : TM) (h : IHeap) : ResultVar → Option Value
  | .tmp t => some (tm.get t)
  | .cell a t => iload E t (tm.get a) h

def iresultLF (E : Env) (tm : TM) (h : IHeap) : List ResultVar → Option (List Value)
  | [] => some []
  | r :: rs => match iresult1F E tm h r, iresultLF E tm h rs with
    | some v, some vs => some (v :: vs)
    | _, _ => none

def iresultsF (E : Env) (fn : Func) (tm : TM) (h : IHeap) : Option Value :=
  match iresultLF E tm h fn.results.toList with
  | some [v] => some v
  | some vs => some (.tuple vs.toArray)
  | none => none

theorem iresultLF_eq (E : Env) {m : TM} {tm : List Value} (hm : TMR m tm) (h : IHeap) (l : List ResultVar) : iresultLF E m h l = iresultL E tm h l := by
  induction l with
  | nil => rfl
  | cons r rs ih =>
    have : iresult1F E m h r = iresult1 E tm h r := by cases r <;> simp [iresult1F, iresult1, hm.get]
    simp only [iresultLF, iresultL, ih, this]
    rfl

theorem iresultsF_eq (E : Env) {m : TM} {tm : List Value} (hm : TMR m tm) (h : IHeap) (fn : Func) : iresultsF E fn m h = iresults E fn tm h := by
  unfold iresultsF iresults; rw [iresultLF_eq E hm]; rfl

def icallByF (E : Env) (pr : Prims) (run : Code → TM → IHeap → Option (IEx × TM × IHeap)) : ICall := fun f args h =>
  match pr f with
  | some g => match g args h with
    | some (v, h') => forceH (h.next :: args.flatMap blockOf) h' fun h' => seqV 6 v fun v => some (v, h')
    | none => none
  | none =>
  match E.fn f with
  | some fn => match fn.body with
    | some c => seqL (seqV 6) args fun args => seqNat (args.length + (fn.ntmps - args.length)) fun n => TM.ofArgs args 0 ⟨n, .leaf⟩ fun tm => match run c tm h with
      | some (.normal, tm, h') => match iresultsF E fn tm h' with | some v => seqV 6 v fun v => some (v, h') | none => none
      | some (.ret, tm, h') => match iresultsF E fn tm h' with | some v => seqV 6 v fun v => some (v, h') | none => none
      | _ => none
    | none => none
  | none => none

theorem icallByF_sound (E : Env) (pr : Prims) (run : Code → TM → IHeap → Option (IEx × TM × IHeap)) (run' : Code → List Value → IHeap → Option (IEx × List Value × IHeap))
    (hrun : ∀ c m tm h e m' h', TMR m tm → run c m h = some (e, m', h') → ∃ tm', run' c tm h = some (e, tm', h') ∧ TMR m' tm') (f : FuncId) (args : List Value) (h : IHeap) (r : Value × IHeap)
    (hr : icallByF E pr run f args h = some r) : icallBy E pr run' f args h = some r := by
  unfold icallByF at hr
  unfold icallBy
  cases hp : pr f with
  | some g =>
    rw [hp] at hr
    simp only at hr ⊢
    cases hg : g args h with
    | none => rw [hg] at hr; cases hr
    | some x => rw [hg] at hr; simpa only [forceH_eq, seqV_eq] using hr
  | none =>
  rw [hp] at hr
  simp only at hr ⊢
  cases hf : E.fn f with
  | none => rw [hf] at hr; cases hr
  | some fn =>
    rw [hf] at hr
    simp only at hr ⊢
    cases hb : fn.body with
    | none => rw [hb] at hr; cases hr
    | some c =>
      rw [hb] at hr
      simp only [seqL_eq _ (seqV_eq 6), seqNat_eq] at hr ⊢
      obtain ⟨m1, e1, hm1⟩ := TM.ofArgs_eq args 0 ⟨args.length + (fn.ntmps - args.length), .leaf⟩ _ (fun tm => match run c tm h with
        | some (.normal, tm, h') => match iresultsF E fn tm h' with | some v => seqV 6 v fun v => some (v, h') | none => none
        | some (.ret, tm, h') => match iresultsF E fn tm h' with | some v => seqV 6 v fun v => some (v, h') | none => none
        | _ => none) (TMR.fresh _)
      have hs := setAll_eq args [] (fn.ntmps - args.length)
      simp only [List.nil_append, List.length_nil] at hs
      rw [hs] at hm1
      rw [e1] at hr
      cases hx : run c m1 h with
      | none => rw [hx] at hr; cases hr
      | some x =>
        obtain ⟨e, m2, h2⟩ := x
        obtain ⟨tm2, hy, hm2⟩ := hrun _ _ _ _ _ _ _ hm1 hx
        rw [hx] at hr
        rw [hy]
        cases e <;> simp only [seqV_eq, iresultsF_eq E hm2] at hr ⊢ <;> exact hr

def icodeF (E : Env) (pr : Prims) : Nat → Code → TM → IHeap → Option (IEx × TM × IHeap)
  | 0, _, _, _ => none
  | n + 1, c, tm, h =>
    match c with
    | .skip => some (.normal, tm, h)
    | .label _ => some (.normal, tm, h)
    | .region _ ops draw =>
      match draw with
      | true => match drawOK ops.toList with
        | true => match irunDrawF E (icallByF E pr (icodeF E pr n)) ops.toList h.next ops.toList 0 [] [] tm h with
          | some (tm', h') => some (.normal, tm', h')
          | none => none
        | false => none
      | false => match irunF E (icallByF E pr (icodeF E pr n)) ops.toList ops.toList tm h with
        | some (tm', h') => some (.normal, tm', h')
        | none => none
    | .seq a b =>
      match icodeF E pr n a tm h with
      | some (.normal, tm', h') => icodeF E pr n b tm' h'
      | r => r
    | .cond c x y =>
      match ievalT tm c with
      | .bool true => icodeF E pr n x tm h
      | .bool false => icodeF E pr n y tm h
      | _ => none
    | .block id b =>
      match icodeF E pr n b tm h with
      | some (.exit id', tm', h') => match Nat.beq id' id with | true => some (.normal, tm', h') | false => some (.exit id', tm', h')
      | r => r
    | .loop b =>
      match icodeF E pr n b tm h with
      | some (.normal, tm', h') => icodeF E pr n (.loop b) tm' h'
      | r => r
    | .exit id => some (.exit id, tm, h)
    | .ret => some (.ret, tm, h)
    | _ => none

theorem icodeF_sound (E : Env) (pr : Prims) (n : Nat) : ∀ c m tm h e m' h', TMR m tm → icodeF E pr n c m h = some (e, m', h') → ∃ tm', icode E pr n c tm h = some (e, tm', h') ∧ TMR m' tm' := by
  induction n with
  | zero => intro c m tm h e m' h' _ hr; cases hr
  | succ n ih =>
    intro c m tm h e m' h' hm hr
    have hc := icallByF_sound E pr (icodeF E pr n) (icode E pr n) ih
    cases c with
    | skip => simp only [icodeF, Option.some.injEq, Prod.mk.injEq] at hr; obtain ⟨rfl, rfl, rfl⟩ := hr; exact ⟨tm, rfl, hm⟩
    | label l => simp only [icodeF, Option.some.injEq, Prod.mk.injEq] at hr; obtain ⟨rfl, rfl, rfl⟩ := hr; exact ⟨tm, rfl, hm⟩
    | exit l => simp only [icodeF, Option.some.injEq, Prod.mk.injEq] at hr; obtain ⟨rfl, rfl, rfl⟩ := hr; exact ⟨tm, rfl, hm⟩
    | ret => simp only [icodeF, Option.some.injEq, Prod.mk.injEq] at hr; obtain ⟨rfl, rfl, rfl⟩ := hr; exact ⟨tm, rfl, hm⟩
    | region id ops draw =>
      simp only [icodeF] at hr
      simp only [icode]
      cases draw with
      | true =>
        simp only at hr
        cases hd : drawOK ops.toList with
        | false => rw [hd] at hr; cases hr
        | true =>
          rw [hd] at hr
          simp only at hr
          cases hx : irunDrawF E (icallByF E pr (icodeF E pr n)) ops.toList h.next ops.toList 0 [] [] m h with
          | none => rw [hx] at hr; cases hr
          | some x =>
            obtain ⟨m2, h2⟩ := x
            rw [hx] at hr; simp only [Option.some.injEq, Prod.mk.injEq] at hr; obtain ⟨rfl, rfl, rfl⟩ := hr
            obtain ⟨tm2, hy, hm2⟩ := irunDrawF_sound E _ _ hc ops.toList h.next ops.toList 0 [] [] m tm h m2 h2 hm hx
            exact ⟨tm2, by simp [hy], hm2⟩
      | false =>
        simp only at hr
        cases hx : irunF E (icallByF E pr (icodeF E pr n)) ops.toList ops.toList m h with
        | none => rw [hx] at hr; cases hr
        | some x =>
          obtain ⟨m2, h2⟩ := x
          rw [hx] at hr; simp only [Option.some.injEq, Prod.mk.injEq] at hr; obtain ⟨rfl, rfl, rfl⟩ := hr
          obtain ⟨tm2, hy, hm2⟩ := irunF_sound E _ _ hc ops.toList ops.toList m tm h m2 h2 hm hx
          exact ⟨tm2, by simp [hy], hm2⟩
    | seq a b =>
      simp only [icodeF] at hr
      simp only [icode]
      cases hx : icodeF E pr n a m h with
      | none => rw [hx] at hr; cases hr
      | some x =>
        obtain ⟨e1, m1, h1⟩ := x
        obtain ⟨tm1, hy, hm1⟩ := ih _ _ _ _ _ _ _ hm hx
        rw [hx] at hr; rw [hy]
        cases e1 with
        | normal => exact ih _ _ _ _ _ _ _ hm1 hr
        | exit i => simp only [Option.some.injEq, Prod.mk.injEq] at hr; obtain ⟨rfl, rfl, rfl⟩ := hr; exact ⟨tm1, rfl, hm1⟩
        | ret => simp only [Option.some.injEq, Prod.mk.injEq] at hr; obtain ⟨rfl, rfl, rfl⟩ := hr; exact ⟨tm1, rfl, hm1⟩
    | cond c x y =>
      simp only [icodeF] at hr
      simp only [icode]
      rw [hm.eval] at hr
      split at hr
      · rename_i hb; rw [hb]; exact ih _ _ _ _ _ _ _ hm hr
      · rename_i hb; rw [hb]; exact ih _ _ _ _ _ _ _ hm hr
      · cases hr
    | block id b =>
      simp only [icodeF] at hr
      simp only [icode]
      cases hx : icodeF E pr n b m h with
      | none => rw [hx] at hr; cases hr
      | some x =>
        obtain ⟨e1, m1, h1⟩ := x
        obtain ⟨tm1, hy, hm1⟩ := ih _ _ _ _ _ _ _ hm hx
        rw [hx] at hr; rw [hy]
        cases e1 with
        | normal => simp only [Option.some.injEq, Prod.mk.injEq] at hr; obtain ⟨rfl, rfl, rfl⟩ := hr; exact ⟨tm1, rfl, hm1⟩
        | ret => simp only [Option.some.injEq, Prod.mk.injEq] at hr; obtain ⟨rfl, rfl, rfl⟩ := hr; exact ⟨tm1, rfl, hm1⟩
        | exit i =>
          simp only at hr ⊢
          cases hb : Nat.beq i id with
          | true =>
            rw [hb] at hr; simp only [Option.some.injEq, Prod.mk.injEq] at hr; obtain ⟨rfl, rfl, rfl⟩ := hr
            rw [if_pos (Nat.eq_of_beq_eq_true hb)]; exact ⟨tm1, rfl, hm1⟩
          | false =>
            rw [hb] at hr; simp only [Option.some.injEq, Prod.mk.injEq] at hr; obtain ⟨rfl, rfl, rfl⟩ := hr
            rw [if_neg (Nat.ne_of_beq_eq_false hb)]; exact ⟨tm1, rfl, hm1⟩
    | loop b =>
      simp only [icodeF] at hr
      simp only [icode]
      cases hx : icodeF E pr n b m h with
      | none => rw [hx] at hr; cases hr
      | some x =>
        obtain ⟨e1, m1, h1⟩ := x
        obtain ⟨tm1, hy, hm1⟩ := ih _ _ _ _ _ _ _ hm hx
        rw [hx] at hr; rw [hy]
        cases e1 with
        | normal => exact ih _ _ _ _ _ _ _ hm1 hr
        | exit i => simp only [Option.some.injEq, Prod.mk.injEq] at hr; obtain ⟨rfl, rfl, rfl⟩ := hr; exact ⟨tm1, rfl, hm1⟩
        | ret => simp only [Option.some.injEq, Prod.mk.injEq] at hr; obtain ⟨rfl, rfl, rfl⟩ := hr; exact ⟨tm1, rfl, hm1⟩
    | rangeFunc f p a b => simp only [icodeF] at hr; cases hr
    | scope b => simp only [icodeF] at hr; cases hr
    | goto l => simp only [icodeF] at hr; cases hr
    | refuse w => simp only [icodeF] at hr; cases hr

def icallF (E : Env) (pr : Prims) (n : Nat) : ICall := icallByF E pr (icodeF E pr n)

theorem icallF_sound (E : Env) (pr : Prims) (n : Nat) (f : FuncId) (args : List Value) (h : IHeap) (r : Value × IHeap) (hr : icallF E pr n f args h = some r) : icall E pr n f args h = some r :=
  icallByF_sound E pr _ _ (icodeF_sound E pr n) f args h r hr

end Go.Ideal

/- More fuel gives the same answer. -/
namespace Go.Ideal
open Go

section
variable {E : Env} {pr : Prims}

theorem irun_mono (c c' : ICall) (hc : ∀ f a h r, c f a h = some r → c' f a h = some r) (ops l : List Oper) : ∀ tm h r, irun E c ops l tm h = some r → irun E c' ops l tm h = some r := by
  induction l with
  | nil => intro tm h r e; exact e
  | cons o rest ih =>
    intro tm h r e
    simp only [irun] at e ⊢
    split at e
    · rename_i hw
      rw [if_pos hw]
      split at e
      · rename_i hok
        rw [if_pos hok]
        cases hx : iop E c (ieval tm) o.op h with
        | none => rw [hx] at e; cases e
        | some x =>
          obtain ⟨v, h1⟩ := x
          rw [hx] at e
          rw [iop_mono E c c' hc _ _ _ _ hx]
          exact ih _ _ _ e
      · cases e
    · rename_i hw
      rw [if_neg hw]
      exact ih _ _ _ e

theorem irunDraw_mono (c c' : ICall) (hc : ∀ f a h r, c f a h = some r → c' f a h = some r) (ops : List Oper) (st : Nat) (l : List Oper) : ∀ j rd mu tm h r, irunDraw E c ops st l j rd mu tm h = some r → irunDraw E c' ops st l j rd mu tm h = some r := by
  induction l with
  | nil => intro j rd mu tm h r e; exact e
  | cons o rest ih =>
    intro j rd mu tm h r e
    simp only [irunDraw] at e ⊢
    split at e
    · rename_i hw
      rw [if_pos hw]
      split at e
      · rename_i hok
        rw [if_pos hok]
        cases hx : iop E c (ieval tm) o.op { next := h.next, wr := 0, t := h.t } with
        | none => rw [hx] at e; cases e
        | some x =>
          obtain ⟨v, h1⟩ := x
          rw [hx] at e
          rw [iop_mono E c c' hc _ _ _ _ hx]
          simp only at e ⊢
          cases hl : loadsOf (ieval tm) h.next o.op with
          | some b =>
            rw [hl] at e
            simp only at e ⊢
            split at e
            · rename_i hz; rw [if_pos hz]; exact ih _ _ _ _ _ _ e
            · cases e
          | none =>
            rw [hl] at e
            simp only at e ⊢
            split at e
            · rename_i hz; rw [if_pos hz]; exact ih _ _ _ _ _ _ e
            · rename_i hz; rw [if_neg hz]
              split at e
              · rename_i hz; rw [if_pos hz]; exact ih _ _ _ _ _ _ e
              · cases e
      · cases e
    · rename_i hw
      rw [if_neg hw]
      exact ih _ _ _ _ _ _ e

theorem icallBy_mono (run run' : Code → List Value → IHeap → Option (IEx × List Value × IHeap)) (hr : ∀ c tm h r, run c tm h = some r → run' c tm h = some r) (f : FuncId) (a : List Value) (h : IHeap) (r : Value × IHeap)
    (e : icallBy E pr run f a h = some r) : icallBy E pr run' f a h = some r := by
  unfold icallBy at e ⊢
  cases hp : pr f with
  | some g => rw [hp] at e; exact e
  | none =>
    rw [hp] at e
    simp only at e ⊢
    cases hf : E.fn f with
    | none => rw [hf] at e; cases e
    | some fn =>
      rw [hf] at e
      simp only at e ⊢
      cases hb : fn.body with
      | none => rw [hb] at e; cases e
      | some c =>
        rw [hb] at e
        simp only at e ⊢
        cases hx : run c (a ++ List.replicate (fn.ntmps - a.length) undef) h with
        | none => rw [hx] at e; cases e
        | some x => rw [hx] at e; rw [hr _ _ _ _ hx]; exact e

/- one step of the code, the rest run by run -/
def istep (E : Env) (pr : Prims) (run : Code → List Value → IHeap → Option (IEx × List Value × IHeap)) (c : Code) (tm : List Value) (h : IHeap) : Option (IEx × List Value × IHeap) :=
  match c with
  | .skip => some (.normal, tm, h)
  | .label _ => some (.normal, tm, h)
  | .region _ ops draw =>
    match (if draw then (if drawOK ops.toList then irunDraw E (icallBy E pr run) ops.toList h.next ops.toList 0 [] [] tm h else none) else irun E (icallBy E pr run) ops.toList ops.toList tm h) with
    | some (tm', h') => some (.normal, tm', h')
    | none => none
  | .seq a b =>
    match run a tm h with
    | some (.normal, tm', h') => run b tm' h'
    | r => r
  | .cond c x y =>
    match ieval tm c with
    | .bool true => run x tm h
    | .bool false => run y tm h
    | _ => none
  | .block id b =>
    match run b tm h with
    | some (.exit id', tm', h') => if id' = id then some (.normal, tm', h') else some (.exit id', tm', h')
    | r => r
  | .loop b =>
    match run b tm h with
    | some (.normal, tm', h') => run (.loop b) tm' h'
    | r => r
  | .exit id => some (.exit id, tm, h)
  | .ret => some (.ret, tm, h)
  | _ => none

theorem icode_step (n : Nat) (c : Code) (tm : List Value) (h : IHeap) : icode E pr (n + 1) c tm h = istep E pr (icode E pr n) c tm h := by
  cases c <;> rfl

theorem istep_mono (run run' : Code → List Value → IHeap → Option (IEx × List Value × IHeap)) (ih : ∀ c tm h r, run c tm h = some r → run' c tm h = some r) (c : Code) (tm : List Value) (h : IHeap) (r : IEx × List Value × IHeap)
    (e : istep E pr run c tm h = some r) : istep E pr run' c tm h = some r := by
  have hc := icallBy_mono (E := E) (pr := pr) run run' ih
  cases c with
  | region id ops draw =>
    simp only [istep] at e ⊢
    cases draw with
    | true =>
      simp only [if_true] at e ⊢
      split at e
      · rename_i tm' h' hx
        split at hx
        · rename_i hd
          rw [if_pos hd, irunDraw_mono _ _ hc _ _ _ _ _ _ _ _ _ hx]; exact e
        · cases hx
      · cases e
    | false =>
      simp only [Bool.false_eq_true, if_false] at e ⊢
      cases hx : irun E (icallBy E pr run) ops.toList ops.toList tm h with
      | none => rw [hx] at e; cases e
      | some x => rw [hx] at e; rw [irun_mono _ _ hc _ _ _ _ _ hx]; exact e
  | seq a b =>
    simp only [istep] at e ⊢
    cases hx : run a tm h with
    | none => rw [hx] at e; cases e
    | some x =>
      rw [hx] at e; rw [ih _ _ _ _ hx]
      obtain ⟨x1, x2, x3⟩ := x
      cases x1 with
      | normal => exact ih _ _ _ _ e
      | exit i => exact e
      | ret => exact e
  | cond c x y =>
    simp only [istep] at e ⊢
    split at e
    · rename_i hb; exact ih _ _ _ _ e
    · rename_i hb; exact ih _ _ _ _ e
    · cases e
  | block id b =>
    simp only [istep] at e ⊢
    cases hx : run b tm h with
    | none => rw [hx] at e; cases e
    | some x => rw [hx] at e; rw [ih _ _ _ _ hx]; exact e
  | loop b =>
    simp only [istep] at e ⊢
    cases hx : run b tm h with
    | none => rw [hx] at e; cases e
    | some x =>
      rw [hx] at e; rw [ih _ _ _ _ hx]
      obtain ⟨x1, x2, x3⟩ := x
      cases x1 with
      | normal => exact ih _ _ _ _ e
      | exit i => exact e
      | ret => exact e
  | _ => exact e

theorem icode_succ (n : Nat) : ∀ c tm h r, icode E pr n c tm h = some r → icode E pr (n + 1) c tm h = some r := by
  induction n with
  | zero => intro c tm h r e; cases e
  | succ n ih =>
    intro c tm h r e
    rw [icode_step] at e ⊢
    exact istep_mono _ _ ih c tm h r e

theorem icode_le {n m : Nat} (hnm : n ≤ m) {c : Code} {tm : List Value} {h : IHeap} {r : IEx × List Value × IHeap} (e : icode E pr n c tm h = some r) : icode E pr m c tm h = some r := by
  induction hnm with
  | refl => exact e
  | step _ ih => exact icode_succ _ _ _ _ _ ih

theorem icall_le {n m : Nat} (hnm : n ≤ m) {f : FuncId} {a : List Value} {h : IHeap} {r : Value × IHeap} (e : icall E pr n f a h = some r) : icall E pr m f a h = some r :=
  icallBy_mono _ _ (fun _ _ _ _ e => icode_le hnm e) f a h r e

end
end Go.Ideal

/- What a call of the ideal machine says of the model's: nothing that was there turns; a closed call is a primitive. -/
namespace Go.Ideal
open Go

section
variable {P : Program}

/- nothing that was there turns, if nothing of it may be written -/
theorem Step.same {φ φ' : Emb} {h h' : IHeap} {w w' : World} (s : Step φ h w φ' h' w') (hro : ∀ b p o, φ b = some p → h.get b = some o → o.writes = true → h'.wrote b = false) (r : Nat) (hr : r < w.heap.size) :
    w'.heap[r]? = w.heap[r]? := s.frame r hr fun b p o e1 _ e3 e4 => hro b p o e1 e3 e4

theorem Step.grown {φ φ' : Emb} {h h' : IHeap} {w w' : World} (s : Step φ h w φ' h' w') (hro : ∀ b p o, φ b = some p → h.get b = some o → o.writes = true → h'.wrote b = false) : RowKit.Grown w w' := by
  refine ⟨⟨s.calm.1, s.calm.2, fun i hi => ?_⟩, s.cold, s.size⟩
  rw [s.same hro i hi]
  cases w.heap[i]? with
  | none => rfl
  | some o => cases o <;> simp

/- a closed call's answer without an address, as a primitive that leaves the heap as it was -/
def closedPrim (v : Value) : List Value → IHeap → Option (Value × IHeap) := fun args h => match args with | [] => some (v, h) | _ => none

theorem closed_mono (v : Value) : CallMono fun _ => closedPrim v := by
  intro f args h u h' e hw
  simp only [closedPrim] at e
  split at e
  · cases e; exact ⟨.refl _, hw⟩
  · cases e

theorem closed_sim {pr : Prims} (hp : PrimsOK P pr) (hm : P.follows .mixedOrders = true) {n : Nat} {f : FuncId} {v : Value} {h1 : IHeap} (hr : icall (Env.of P) pr n f [] IHeap.empty = some (v, h1)) (hv : cleanB depthB v = true)
    (args : List Value) (h : IHeap) (u : Value) (h' : IHeap) (e : closedPrim v args h = some (u, h')) (φ : Emb) (w : World) (args' : List Value) (hw : h.wf) (hh : HRel φ h w) (ha : LRel φ args args') :
    Calls P f args'.toArray w fun e w' => ∃ φ' v', e = .returned v' ∧ VRel φ' u v' ∧ Step φ h w φ' h' w' := by
  unfold closedPrim at e
  split at e
  · simp only [Option.some.injEq, Prod.mk.injEq] at e
    obtain ⟨rfl, rfl⟩ := e
    obtain rfl := ha.nil_left
    have hw0 : IHeap.empty.wf := fun b _ => rfl
    have hr0 : HRel (fun _ => none) IHeap.empty w := ⟨fun b p o e => (by cases e), fun b p e => (by cases e), fun b b' p p' o e => (by cases e)⟩
    refine (icall_sim hp hm n f [] IHeap.empty v h1 hr (fun _ => none) w [] hw0 hr0 (fun _ _ _ => rfl) (.nil _)).mono ?_
    rintro x w' ⟨φ', v', rfl, r1, r2⟩
    refine ⟨φ, v', rfl, ?_, ?_⟩
    · rw [r1.clean _ hv]; exact .of_clean φ _ v hv
    · have same : ∀ r, r < w.heap.size → w'.heap[r]? = w.heap[r]? := fun r hr => r2.same (fun b p o e => by cases e) r hr
      exact {
        mono := .refl _
        wf := hw
        ext := φ.le_refl
        fresh := fun b p e e' => by rw [e] at e'; cases e'
        size := r2.size
        frame := fun r hr _ => same r hr
        rel := ⟨fun b p o e1 e2 => (hh.obj b p o e1 e2).keep φ.le_refl (same _ (hh.lt b p e1 (IHeap.live_of e2))), fun b p e1 e2 => Nat.lt_of_lt_of_le (hh.lt b p e1 e2) r2.size, hh.inj⟩
        calm := r2.calm
        cold := r2.cold }
  · cases e

/- a table of one closed call -/
def onePrim (f0 : FuncId) (v : Value) : Prims := fun f => match Nat.beq f f0 with | true => some (closedPrim v) | false => none

theorem onePrim_ok (hm : P.follows .mixedOrders = true) {n : Nat} {f0 : FuncId} {v : Value} {h1 : IHeap} (hr : icall (Env.of P) (fun _ => none) n f0 [] IHeap.empty = some (v, h1)) (hv : cleanB depthB v = true) : PrimsOK P (onePrim f0 v) := by
  refine ⟨fun f g e => ?_, fun f g e => ?_⟩
  · unfold onePrim at e
    split at e
    · cases e; exact closed_mono v
    · cases e
  · unfold onePrim at e
    split at e
    · rename_i hb
      cases e
      obtain rfl := Nat.eq_of_beq_eq_true hb
      exact fun args h u h' e φ w args' hw hh _ ha => closed_sim (PrimsOK.none P) hm hr hv args h u h' e φ w args' hw hh ha
    · cases e

end
end Go.Ideal

/- A law that answers true and turns nothing that was there meets its row: from the walk to the contract, whatever the parameters' types. -/
namespace Go.Ideal
open Go Go.ChangeShapes Go.WideShapes Go.ChangeAt Go.RowKit

section
variable {H : Type} {enc : TypeId × Value → H} {P : Program}

theorem trodAll_same {W W' : World} (hs : ∀ r, r < W.heap.size → W'.heap[r]? = W.heap[r]?) : ∀ {ts : List TypeId} {vs : List Value} {ds : List (DataW H)} {ps : List MemPlace}, (∀ p ∈ ps, p.block < W.heap.size) →
    DataW.TrodAll enc P W 0 (fun _ => true) true ts vs ds ps → DataW.TrodAll enc P W' 0 (fun _ => true) true ts vs ds ps
  | [], [], [], _, _, h => h
  | _ :: _, _ :: _, _ :: _, ps, hl, ⟨p, q, ⟨n, h1⟩, h2, e⟩ => by
    subst e
    refine ⟨p, q, ⟨n, DataW.trod_carry n _ _ _ h1 fun x hx => ?_⟩, trodAll_same hs (fun x hx => hl x (List.mem_append_right _ hx)) h2, rfl⟩
    have := hs x.block (hl x (List.mem_append_left _ hx))
    cases x with
    | cell b off => simp only [World.sameAt, World.cell?]; simp only [MemPlace.block] at this; rw [this]
    | map b => simpa only [World.sameAt, MemPlace.block] using this

theorem law_post {f : Func} {s : ChangeSpec} {apart fresh handsOn again : Bool} {W W' : World} {args : Array Value} {ds gs : List (DataW H)} {before : List MemPlace} (hvars : s.vars = [])
    (hW : DataW.Whole enc P f.params.toList s.vars apart W args.toList ds gs before) (hl : laidOutB P = true) (hm : mapsRowed P = true) (hz : ∀ t e, t < P.types.size → P.underlying t = some (.slice e) → 0 < P.cellsOf e)
    (hp : ∀ t ∈ f.params.toList, t < P.types.size) {tb : TypeId} (hr : f.resultTypes = #[tb]) (hb : P.underlying tb = some .bool)
    (hres : (s.fn H ds).results = [.lit (.bool true)]) (hargs : (s.fn H ds).args = ds) (hv : (s.fn H ds).vars = []) (hg : Grown W W') (hs : ∀ r, r < W.heap.size → W'.heap[r]? = W.heap[r]?) :
    s.post enc P f apart fresh handsOn again W args (.bool true) W' := by
  have hW' := hW
  have hlt : ∀ p ∈ before, p.block < W.heap.size := hW.lt
  obtain ⟨p, q, hA, hV, rfl, hfz, hnd⟩ := hW
  rw [hvars] at hV
  obtain ⟨rfl, rfl⟩ := trodVars_none hV
  simp only [List.append_nil] at hlt hW' ⊢
  have hk := kids_rows hl hm
  refine post_of_same (pa := p) (pv := []) hW' ?_ ?_ ?_ (by simp) (hg.frame _) hg.2.1 ?_
  · intro b sp hd
    rw [hr]
    simp only [List.append_nil, hres]
    exact trodAll_cons_mk (shut_bool hb _) trodAll_mk0
  · intro sp hsp
    simp only [List.append_nil, hargs]
    exact (trodAll_same hs hlt hA).respare hk hz hp hsp
  · intro sp _
    simp only [List.append_nil, hv, hvars]
    rfl
  · exact ok_one hr (by rfl) (okWide_bool_mk hb _)

end
end Go.Ideal

/- One written block of the ideal heap gives way to a new one, whatever the machine did for it: what a primitive proved by hand owes. -/
namespace Go.Ideal
open Go

theorem HRel.ltp {φ : Emb} {h : IHeap} {w : World} (hr : HRel φ h w) {b : Nat} {p : Pos} {o : IObj} (hb : φ b = some p) (hg : h.get b = some o) : p.r < w.heap.size := hr.lt b p hb (IHeap.live_of hg)

/- the block b is buried, a new one made: it lies where b lay, or in a new block of the machine -/
theorem Step.lift1 {φ : Emb} {h : IHeap} {w w' : World} (hw : h.wf) (hr : HRel φ h w) (hf : φ h.next = none) {b : Nat} {pb : Pos} {ob : IObj} (hb : φ b = some pb) (hg : h.get b = some ob) (hk : ob.writes = true)
    (o : IObj) (p : Pos) (hkeep : ∀ r, r < w.heap.size → r ≠ pb.r → w'.heap[r]? = w.heap[r]?) (hsize : w.heap.size ≤ w'.heap.size)
    (hp : p.r = pb.r ∨ (w.heap.size ≤ p.r ∧ p.r < w'.heap.size)) (ho : ORel (φ.add h.next p) w' p o) (hko : o.writes = true) (calm : w'.os = w.os ∧ w'.output = w.output) (cold : ∀ a, w'.frozen? a = w.frozen? a) :
    Step φ h w (φ.add h.next p) ((h.new o).put b none) w' := by
  have hle := Emb.add_le hf p
  have hbn : b < h.next := hw.lt hg
  have hold : ∀ x q, x ≠ h.next → φ.add h.next p x = some q → φ x = some q := by
    intro x q hx e; simpa [Emb.add, hx] using e
  exact {
    mono := (IMono.new h o).trans (.put _ b ob none (by rw [IHeap.get_new, if_neg (by omega), hg]) fun x e => by cases e)
    wf := (hw.new o).put (by simp; omega) _
    ext := hle
    fresh := by
      intro x q e e'
      by_cases hx : x = h.next
      · subst hx
        simp only [Emb.add_self, Option.some.injEq] at e'; subst e'
        refine ⟨Nat.le_refl _, Nat.lt_succ_self _, ?_⟩
        rcases hp with h1 | ⟨h1, _⟩
        · exact .inr ⟨b, pb, ob, hb, h1.symm, hg, hk, by simp⟩
        · exact .inl h1
      · have := hold x q hx e'; rw [e] at this; cases this
    size := hsize
    frame := by
      intro r hlt hc
      refine hkeep r hlt fun e => ?_
      have := hc b pb ob hb e.symm hg hk
      simp at this
    calm := calm
    cold := cold
    rel := {
      obj := by
        intro x q y e e'
        rw [IHeap.get_put] at e'
        split at e'
        · cases e'
        · rename_i hxb
          rw [IHeap.get_new] at e'
          by_cases hx : x = h.next
          · subst hx
            simp only [Emb.add_self, Option.some.injEq] at e; subst e
            simp only [if_true, Option.some.injEq] at e'; subst e'
            exact ho
          · rw [if_neg hx] at e'
            have e0 := hold x q hx e
            refine (hr.obj x q y e0 e').keep hle (hkeep _ (hr.ltp e0 e') fun er => hxb ?_)
            exact (hr.inj b x pb q ob hb e0 hg hk (IHeap.live_of e') er.symm).symm
      lt := by
        intro x q e hl
        unfold IHeap.live at hl
        rw [IHeap.get_put] at hl
        split at hl
        · exact absurd rfl hl
        · rw [IHeap.get_new] at hl
          by_cases hx : x = h.next
          · subst hx
            simp only [Emb.add_self, Option.some.injEq] at e; subst e
            rcases hp with h1 | ⟨_, h2⟩
            · rw [h1]; exact Nat.lt_of_lt_of_le (hr.ltp hb hg) hsize
            · exact h2
          · rw [if_neg hx] at hl
            exact Nat.lt_of_lt_of_le (hr.lt x q (hold x q hx e) hl) hsize
      inj := by
        intro x x' q q' y e e' g k l er
        unfold IHeap.live at l
        rw [IHeap.get_put] at g l
        split at g
        · cases g
        · rename_i hxb
          split at l
          · exact absurd rfl l
          · rename_i hxb'
            rw [IHeap.get_new] at g l
            by_cases hx : x = h.next
            · by_cases hx' : x' = h.next
              · rw [hx, hx']
              · rw [if_neg hx'] at l
                subst hx
                simp only [Emb.add_self, Option.some.injEq] at e; subst e
                have e0 := hold x' q' hx' e'
                have hlt := hr.lt x' q' e0 l
                rcases hp with h1 | ⟨h1, _⟩
                · exact absurd (hr.inj b x' pb q' ob hb e0 hg hk l (by omega)) (Ne.symm hxb')
                · omega
            · rw [if_neg hx] at g
              have e0 := hold x q hx e
              by_cases hx' : x' = h.next
              · subst hx'
                simp only [Emb.add_self, Option.some.injEq] at e'; subst e'
                have hlt := hr.ltp e0 g
                rcases hp with h1 | ⟨h1, _⟩
                · exact absurd (hr.inj x b q pb y e0 hb g k (IHeap.live_of hg) (by omega)) hxb
                · omega
              · rw [if_neg hx'] at l
                exact hr.inj x x' q q' y e0 (hold x' q' hx' e') g k l er } }

/- a grown block with all the room behind it, as the machine has it -/
theorem ORel.expose {φ : Emb} {w : World} {p : Pos} {cs : List Value} {e : Nat} (h : ORel φ w p (.cells cs e)) :
    ∃ sp : List Value, (∀ v ∈ sp, oneB v = true ∧ cleanB depthB v = true) ∧ cs.length + sp.length = p.rsize - p.base ∧ p.base + p.isize ≤ p.rsize ∧ cs.length = p.isize ∧
      ORel φ w ⟨p.r, p.base, p.rsize - p.base, p.rsize, 0⟩ (.cells (cs ++ sp) 0) := by
  obtain ⟨rcs, el, h1, h2, h3, h4, h5, h6, h7, h8⟩ := h
  have hlen : rcs.toList.length = p.rsize := by simpa using h2
  have hl : cs.length + (rcs.toList.drop (p.base + p.isize)).length = p.rsize - p.base := by rw [List.length_drop, hlen]; omega
  refine ⟨rcs.toList.drop (p.base + p.isize), h8, hl, h5, h3, rcs, el, h1, h2, by rw [List.length_append, hl], rfl, by simp only; omega, ?_, ?_, ?_⟩
  · simp only
    have : (rcs.toList.drop p.base).take (p.rsize - p.base) = (rcs.toList.drop p.base).take p.isize ++ rcs.toList.drop (p.base + p.isize) := by
      rw [List.take_of_length_le (by rw [List.length_drop, hlen]; omega), ← List.drop_drop, List.take_append_drop]
    rw [this]
    refine h6.append ⟨rfl, fun i v v' e1 e2 => ?_⟩
    rw [e1] at e2; cases e2
    exact .of_clean φ _ v (h8 v (List.mem_of_getElem? e1)).2
  · intro v hv
    rcases List.mem_append.1 hv with h | h
    · exact h7 v h
    · exact (h8 v h).1
  · intro v hv
    simp only at hv
    rw [List.drop_of_length_le (by rw [hlen]; omega)] at hv
    cases hv

end Go.Ideal

/- slices.Insert of one element of eight cells, as a primitive: in the machine's room or in a new block, what comes is the same. What is asked of the program are two runs over a block with all its room. -/
namespace Go.Ideal
open Go

theorem LRel.clean_eq {φ : Emb} {xs ys : List Value} (h : LRel φ xs ys) (hc : ∀ v ∈ xs, cleanB depthB v = true) : ys = xs := by
  apply List.ext_getElem? 
  intro i
  by_cases hi : i < xs.length
  · have hi' : i < ys.length := by have := h.1; omega
    rw [List.getElem?_eq_getElem hi, List.getElem?_eq_getElem hi']
    rw [(h.2 i _ _ (List.getElem?_eq_getElem hi) (List.getElem?_eq_getElem hi')).clean _ (hc _ (List.getElem_mem hi))]
  · rw [List.getElem?_eq_none (by have := h.1; omega), List.getElem?_eq_none (by omega)]

theorem LRel.of_clean (φ : Emb) {xs : List Value} (hc : ∀ v ∈ xs, cleanB depthB v = true) : LRel φ xs xs :=
  ⟨rfl, fun i v v' h1 h2 => by rw [h1] at h2; cases h2; exact .of_clean φ _ v (hc v (List.mem_of_getElem? h1))⟩

theorem ORel.clean {φ ψ : Emb} {w : World} {p : Pos} {cs : List Value} {e : Nat} (h : ORel φ w p (.cells cs e)) (hc : ∀ v ∈ cs, cleanB depthB v = true) : ORel ψ w p (.cells cs e) := by
  obtain ⟨rcs, el, h1, h2, h3, h4, h5, h6, h7, h8⟩ := h
  refine ⟨rcs, el, h1, h2, h3, h4, h5, ?_, h7, h8⟩
  rw [h6.clean_eq hc]
  exact .of_clean ψ hc

theorem splice_length' (cs vs : List Value) (off : Nat) : (splice cs off vs).length = min off cs.length + (vs.length + (cs.length - (off + vs.length))) := by
  simp [splice]

def insL (k n : Nat) (L V : List Value) : List Value := L.take (k * 8) ++ V ++ (L.drop (k * 8)).take ((n - k) * 8)

def insH (L V : List Value) : IHeap := ⟨2, 0, .node (some (.cells L 0)) (.node (some (.cells V 0)) .leaf .leaf) .leaf⟩

/- what the program's text answers over a block that shows all its room -/
def InsRuns (P : Program) (f : FuncId) : Prop :=
  ∀ (n cap k : Nat) (L V : List Value), k ≤ n → 1 ≤ n → n ≤ 100000 → n ≤ cap → L.length = cap * 8 → V.length = 8 →
    ∃ m v h, icall (Env.of P) (fun _ => none) m f [.slice (some ⟨0, 0, none⟩) n cap, .int .i64 k, .slice (some ⟨1, 0, none⟩) 1 1] (insH L V) = some (v, h) ∧ h.wrote 1 = false ∧
      ((n + 1 ≤ cap ∧ v = .slice (some ⟨0, 0, none⟩) (n + 1) cap ∧ h.next = 2 ∧ h.get 0 = some (.cells (insL k n L V ++ L.drop ((n + 1) * 8)) 0)) ∨
       (cap < n + 1 ∧ v = .slice (some ⟨2, 0, none⟩) (n + 1) (n + 1) ∧ h.next = 3 ∧ h.wrote 0 = false ∧ h.get 2 = some (.cells (insL k n L V) 8)))

def insG : List Value → IHeap → Option (Value × IHeap) := fun args h =>
  match args with
  | [.slice (some ⟨b, 0, none⟩) n cap, .int .i64 k, .slice (some ⟨c, 0, none⟩) 1 1] =>
    match h.get b, h.get c with
    | some (.cells cs 8), some (.cells vs 0) =>
      if n = cap ∧ cs.length = n * 8 ∧ vs.length = 8 ∧ 1 ≤ n ∧ n ≤ 100000 ∧ 0 ≤ k ∧ k ≤ n ∧ b ≠ c ∧ cs.all (cleanB depthB) = true ∧ vs.all (cleanB depthB) = true then
        some (.slice (some ⟨h.next, 0, none⟩) (n + 1) (n + 1), (h.new (.cells (insL k.toNat n cs vs) 8)).put b none)
      else none
    | _, _ => none
  | _ => none

theorem insL_mem {k n : Nat} {L V : List Value} {v : Value} (h : v ∈ insL k n L V) : v ∈ L ∨ v ∈ V := by
  simp only [insL, List.mem_append] at h
  rcases h with (h | h) | h
  · exact .inl (List.mem_of_mem_take h)
  · exact .inr h
  · exact .inl (List.mem_of_mem_drop (List.mem_of_mem_take h))

theorem insL_length {k n : Nat} {L V : List Value} (hk : k ≤ n) (hL : n * 8 ≤ L.length) (hV : V.length = 8) : (insL k n L V).length = (n + 1) * 8 := by
  simp [insL, hV]; omega

/- what lies behind the elements does not count -/
theorem insL_take {k n : Nat} {cs sp V : List Value} (hk : k ≤ n) (hL : cs.length = n * 8) : insL k n (cs ++ sp) V = insL k n cs V := by
  unfold insL
  rw [List.take_append_of_le_length (by omega), List.drop_append_of_le_length (by omega), List.take_append_of_le_length (by rw [List.length_drop, hL]; omega)]

theorem insG_mono : CallMono fun _ => insG := by
  intro f args h v h' e hw
  simp only [insG] at e
  split at e
  · split at e
    · rename_i cs vs g1 g2
      split at e
      · cases e
        refine ⟨(IMono.new h _).trans (.put _ _ (.cells cs 8) none (by rw [IHeap.get_new, if_neg (by have := hw.lt g1; omega)]; exact g1) fun x e => by cases e), ?_⟩
        exact (hw.new _).put (by have := hw.lt g1; simp; omega) _
      · cases e
    · cases e
  · cases e

theorem insH_wf (L V : List Value) : (insH L V).wf := by
  intro x hx
  have : 2 ≤ x := hx
  obtain ⟨m, rfl⟩ : ∃ m, x = m + 1 := ⟨x - 1, by omega⟩
  simp only [IHeap.get, insH, T.get]
  split
  · rename_i hm
    have : m % 2 = 0 := by simpa using hm
    obtain ⟨j, hj⟩ : ∃ j, m / 2 = j + 1 := ⟨m / 2 - 1, by omega⟩
    rw [hj]
    simp only [T.get]
    split <;> rfl
  · rfl

theorem insH_get0 (L V : List Value) : (insH L V).get 0 = some (.cells L 0) := rfl
theorem insH_get1 (L V : List Value) : (insH L V).get 1 = some (.cells V 0) := rfl
theorem insH_only (L V : List Value) {x : Nat} {o : IObj} (h : (insH L V).get x = some o) : (x = 0 ∧ o = .cells L 0) ∨ (x = 1 ∧ o = .cells V 0) := by
  have hlt := (insH_wf L V).lt h
  have : x < 2 := hlt
  rcases (show x = 0 ∨ x = 1 by omega) with rfl | rfl
  · rw [insH_get0] at h; cases h; exact .inl ⟨rfl, rfl⟩
  · rw [insH_get1] at h; cases h; exact .inr ⟨rfl, rfl⟩

section
variable {P : Program}

theorem insG_sim (hm : P.follows .mixedOrders = true) {f : FuncId} (runs : InsRuns P f) (args : List Value) (h : IHeap) (u : Value) (h' : IHeap) (e : insG args h = some (u, h')) (φ : Emb) (w : World) (args' : List Value)
    (hw : h.wf) (hh : HRel φ h w) (hroom : Room φ h h') (ha : LRel φ args args') : Calls P f args'.toArray w fun e w' => ∃ φ' v', e = .returned v' ∧ VRel φ' u v' ∧ Step φ h w φ' h' w' := by
  unfold insG at e
  split at e
  · rename_i b n cap k0 c
    split at e
    · rename_i cs vs g1 g2
      split at e
      · rename_i hc
        obtain ⟨rfl, hcl, hvl, hn1, hn2, hk0, hk1, hbc, hcc, hvc⟩ := hc
        cases e
        obtain ⟨k, rfl⟩ : ∃ k : Nat, k0 = k := ⟨k0.toNat, by omega⟩
        simp only [Int.toNat_natCast] at hroom ⊢
        have hk : k ≤ n := by omega
        simp only [List.all_eq_true] at hcc hvc
        obtain ⟨s', l1, rfl, hs, hl1⟩ := ha.cons_left
        obtain ⟨ki, l2, rfl, hki, hl2⟩ := hl1.cons_left
        obtain ⟨v', l3, rfl, hv, hl3⟩ := hl2.cons_left
        obtain rfl := hl3.nil_left
        cases hki
        have hf : φ h.next = none := hroom _ (Nat.le_refl _) (by simp)
        -- where the two lie
        obtain ⟨pc, hpc, rfl⟩ : ∃ pc, φ c = some pc ∧ v' = .slice (some ⟨pc.r, pc.base + 0, none⟩) 1 1 := by
          cases hv with
          | slice _ _ _ _ p hp => exact ⟨p, hp, rfl⟩
          | sliceGrow _ _ _ _ _ p hp hs => obtain ⟨_, _, _, _, _, h5, _⟩ := hh.obj c p _ hp g2; omega
        have hoc := hh.obj c pc _ hpc g2
        obtain ⟨pb, capR, sp, pos, hpb, rfl, hpr, hpbase, hrs, hrsz, hcap, hL, hsp, hob⟩ : ∃ pb capR sp pos, φ b = some pb ∧ s' = .slice (some ⟨pb.r, pb.base + 0, none⟩) n capR ∧ pos.r = pb.r ∧ pos.base = pb.base ∧ pos.rsize = pb.rsize ∧ pos.esz = 0 ∧
            n ≤ capR ∧ (cs ++ sp).length = capR * 8 ∧ (∀ v ∈ sp, oneB v = true ∧ cleanB depthB v = true) ∧ ORel φ w pos (.cells (cs ++ sp) 0) ∧ (n < capR → pb.base + 0 + capR * 8 = pb.rsize) := by
          cases hs with
          | slice _ _ _ _ p hp =>
            obtain ⟨rcs, el, q1, q2, q3, q4, q5, q6, q7, q8⟩ := hh.obj b p _ hp g1
            refine ⟨p, n, [], ⟨p.r, p.base, p.isize, p.rsize, 0⟩, hp, rfl, rfl, rfl, rfl, rfl, Nat.le_refl _, by simp [hcl], by simp, ?_, by omega⟩
            rw [List.append_nil]
            exact ⟨rcs, el, q1, q2, q3, rfl, q5, q6, q7, q8⟩
          | sliceGrow _ _ _ _ cap' p hp k1 k2 k3 k4 =>
            have ho := hh.obj b p _ hp g1
            have hez : p.esz = 8 := by obtain ⟨_, _, _, _, _, h5, _⟩ := ho; exact h5.symm
            obtain ⟨sp, s1, s2, s3, s4, s5⟩ := ho.expose
            rw [hez] at k4
            exact ⟨p, cap', sp, ⟨p.r, p.base, p.rsize - p.base, p.rsize, 0⟩, hp, rfl, rfl, rfl, rfl, rfl, k2, by rw [List.length_append, s2]; omega, s1, s5, fun _ => k4⟩
          | sliceEmpty _ _ a => omega
        obtain ⟨hob, hfull⟩ := hob
        have hLc : ∀ v ∈ cs ++ sp, cleanB depthB v = true := fun v hv => (List.mem_append.1 hv).elim (hcc v) fun h => (hsp v h).2
        -- the small heap
        let ψ : Emb := fun x => if x = 0 then some pos else if x = 1 then some pc else none
        have hψ0 : ψ 0 = some pos := rfl
        have hψ1 : ψ 1 = some pc := rfl
        have hψ : ∀ x p, ψ x = some p → (x = 0 ∧ p = pos) ∨ (x = 1 ∧ p = pc) := by
          intro x p hx
          simp only [ψ] at hx
          split at hx
          · cases hx; exact .inl ⟨by assumption, rfl⟩
          · split at hx
            · cases hx; exact .inr ⟨by assumption, rfl⟩
            · cases hx
        have hne : pos.r ≠ pc.r := fun er => hbc (hh.inj b c pb pc _ hpb hpc g1 rfl (IHeap.live_of g2) (by omega))
        have hrel : HRel ψ (insH (cs ++ sp) vs) w := by
          refine ⟨fun x p o h1 h2 => ?_, fun x p h1 h2 => ?_, fun x x' p p' o h1 h2 h3 _ h5 h6 => ?_⟩
          · rcases insH_only _ _ h2 with ⟨rfl, rfl⟩ | ⟨rfl, rfl⟩
            · cases h1; exact hob.clean hLc
            · cases h1; exact hoc.clean hvc
          · rcases hψ x p h1 with ⟨_, rfl⟩ | ⟨_, rfl⟩
            · rw [hpr]; exact hh.ltp hpb g1
            · exact hh.ltp hpc g2
          · rcases hψ x p h1 with ⟨rfl, rfl⟩ | ⟨rfl, rfl⟩ <;> rcases hψ x' p' h2 with ⟨rfl, rfl⟩ | ⟨rfl, rfl⟩
            · rfl
            · exact absurd h6 hne
            · exact absurd h6.symm hne
            · rfl
        obtain ⟨m, r, h2, hrun, hw1, hcase⟩ := runs n capR k (cs ++ sp) vs hk hn1 hn2 hcap hL hvl
        have hroom2 : Room ψ (insH (cs ++ sp) vs) h2 := by
          intro x h1 _
          have h1' : 2 ≤ x := h1
          simp only [ψ]
          rw [if_neg (by omega), if_neg (by omega)]
        have hargs : LRel ψ [.slice (some ⟨0, 0, none⟩) n capR, .int .i64 (k : Int), .slice (some ⟨1, 0, none⟩) 1 1] [.slice (some ⟨pb.r, pb.base + 0, none⟩) n capR, .int .i64 (k : Int), .slice (some ⟨pc.r, pc.base + 0, none⟩) 1 1] := by
          refine .cons ?_ (.cons (.int _ _) (.cons (.slice 1 0 1 1 pc hψ1) (.nil _)))
          have := VRel.slice (φ := ψ) 0 0 n capR pos hψ0
          rw [hpr, hpbase] at this
          exact this
        refine (icall_sim (PrimsOK.none P) hm m f _ _ _ _ hrun ψ w _ (insH_wf _ _) hrel hroom2 hargs).mono ?_
        rintro x w' ⟨ψ', v', rfl, r1, r2⟩
        have hins : insL k n (cs ++ sp) vs = insL k n cs vs := insL_take hk hcl
        rw [hins] at hcase
        have hil : (insL k n cs vs).length = (n + 1) * 8 := insL_length hk (by omega) hvl
        have hic : ∀ v ∈ insL k n cs vs, cleanB depthB v = true := fun v hv => (insL_mem hv).elim (hcc v) (hvc v)
        rcases hcase with ⟨hcp, rfl, hnx, hg0⟩ | ⟨hcp, rfl, hnx, hw0, hg2⟩
        · -- in the machine's room
          have hfl := hfull (by omega)
          have hψ'0 : ψ' 0 = some pos := r2.ext 0 pos hψ0
          obtain ⟨rcs, el, q1, q2, q3, q4, q5, q6, q7, q8⟩ := r2.rel.obj 0 pos _ hψ'0 hg0
          have hplain : (rcs.toList.drop pos.base).take pos.isize = insL k n cs vs ++ (cs ++ sp).drop ((n + 1) * 8) := q6.clean_eq fun v hv =>
            (List.mem_append.1 hv).elim (hic v) fun h => hLc v (List.mem_of_mem_drop h)
          have hlen : rcs.toList.length = pos.rsize := by simpa using q2
          have his : pos.isize = capR * 8 := by rw [← q3, List.length_append, hil, List.length_drop, hL]; omega
          have hwin : rcs.toList.drop pos.base = insL k n cs vs ++ (cs ++ sp).drop ((n + 1) * 8) := by
            rw [← hplain, List.take_of_length_le]
            rw [List.length_drop, hlen, his]; omega
          refine ⟨φ.add h.next ⟨pos.r, pos.base, (n + 1) * 8, pos.rsize, 8⟩, v', rfl, ?_, ?_⟩
          · cases r1 with
            | slice _ _ _ _ p hp =>
              rw [hψ'0] at hp; cases hp
              exact .sliceGrow h.next 0 (n + 1) (n + 1) capR ⟨pos.r, pos.base, (n + 1) * 8, pos.rsize, 8⟩ (Emb.add_self φ _ _) (Nat.zero_lt_succ 7) hcp (by simp) (by simp only; omega)
            | sliceGrow _ _ _ _ _ p hp k1 => rw [hψ'0] at hp; cases hp; omega
          · refine Step.lift1 hw hh hf hpb g1 rfl (.cells (insL k n cs vs) 8) _ ?_ r2.size (.inl hpr) ?_ rfl r2.calm r2.cold
            · intro r hlt hr
              refine r2.frame r hlt fun y q o h1 h2 h3 h4 => ?_
              rcases hψ y q h1 with ⟨rfl, rfl⟩ | ⟨rfl, rfl⟩
              · exact absurd (h2.symm.trans hpr) hr
              · exact hw1
            · refine ⟨rcs, el, q1, q2, hil, rfl, by simp only; omega, ?_, fun v hv => q7 v (List.mem_append_left _ hv), ?_⟩
              · simp only
                rw [hwin, List.take_append_of_le_length (by omega), List.take_of_length_le (by omega)]
                exact .of_clean _ hic
              · intro v hv
                simp only at hv
                rw [← List.drop_drop, hwin, List.drop_append_of_le_length (by omega), List.drop_of_length_le (by omega), List.nil_append] at hv
                have hv2 := List.mem_of_mem_drop hv
                refine ⟨q7 v (List.mem_append_right _ hv), hLc v hv2⟩
        · -- a new block
          have hg2' := hg2
          cases hp2 : ψ' 2 with
          | none => cases r1 <;> simp_all
          | some p2 =>
            obtain ⟨_, _, hfresh⟩ := r2.fresh 2 p2 (by simp [ψ]) hp2
            have hnew : w.heap.size ≤ p2.r := by
              rcases hfresh with h1 | ⟨b0, p0, o, f1, _, _, _, f5⟩
              · exact h1
              · rcases hψ b0 p0 f1 with ⟨rfl, _⟩ | ⟨rfl, _⟩
                · rw [hw0] at f5; cases f5
                · rw [hw1] at f5; cases f5
            refine ⟨φ.add h.next p2, v', rfl, ?_, ?_⟩
            · cases r1 with
              | slice _ _ _ _ p hp => rw [hp2] at hp; cases hp; exact .slice h.next 0 _ _ _ (Emb.add_self φ _ _)
              | sliceGrow _ _ _ _ cap' p hp k1 k2 k3 k4 => rw [hp2] at hp; cases hp; exact .sliceGrow h.next 0 _ _ cap' _ (Emb.add_self φ _ _) k1 k2 k3 k4
            · refine Step.lift1 hw hh hf hpb g1 rfl (.cells (insL k n cs vs) 8) _ ?_ r2.size (.inr ⟨hnew, r2.rel.ltp hp2 hg2⟩) ((r2.rel.obj 2 p2 _ hp2 hg2).clean hic) rfl r2.calm r2.cold
              intro r hlt hr
              refine r2.frame r hlt fun y q o h1 h2 h3 h4 => ?_
              rcases hψ y q h1 with ⟨rfl, rfl⟩ | ⟨rfl, rfl⟩
              · exact hw0
              · exact hw1
      · cases e
    · cases e
  · cases e

/- a table of that one primitive -/
def insPrim (f0 : FuncId) : Prims := fun f => match Nat.beq f f0 with | true => some insG | false => none

theorem insPrim_ok (hm : P.follows .mixedOrders = true) {f0 : FuncId} (runs : InsRuns P f0) : PrimsOK P (insPrim f0) := by
  refine ⟨fun f g e => ?_, fun f g e => ?_⟩
  · unfold insPrim at e
    split at e
    · cases e; exact insG_mono
    · cases e
  · unfold insPrim at e
    split at e
    · rename_i hb
      cases e
      obtain rfl := Nat.eq_of_beq_eq_true hb
      exact fun args h u h' e φ w args' hw hh hroom ha => insG_sim hm runs args h u h' e φ w args' hw hh hroom ha
    · cases e

end
end Go.Ideal

/- The ideal machine over data that are not known: at every look at them it is told what it finds (a branch, a value, cells), and notes what that supposes. Definitions and, in IdealU, what they mean for the ideal machine. -/
namespace Go.Ideal
open Go

inductive Tip where
  | b (x : Bool)
  | v (x : Value)
  | cs (xs : List Value)

/- what is told of the looks to come (behind so many looks at what is known), and what was supposed -/
structure Tell where
  ahead : List (Nat × Tip)
  cons : List Prop

def Tell.met (s : Tell) : Prop := ∀ p ∈ s.cons, p
def Tell.note (s : Tell) (p : Prop) : Tell := ⟨s.ahead, p :: s.cons⟩

def Tell.pop (s : Tell) : Option Tip × Tell :=
  match s.ahead with
  | [] => (none, s)
  | (0, a) :: r => (some a, ⟨r, s.cons⟩)
  | (n + 1, a) :: r => (none, ⟨(n, a) :: r, s.cons⟩)

def askB (v : Value) (s : Tell) : Option (Bool × Tell) :=
  match s.pop with
  | (some (.b x), s) => some (x, s.note (v = .bool x))
  | (some _, _) => none
  | (none, s) => match v with | .bool true => some (true, s) | .bool false => some (false, s) | _ => none

def askP (p : Prop) [d : Decidable p] (s : Tell) : Option (Bool × Tell) :=
  match s.pop with
  | (some (.b true), s) => some (true, s.note p)
  | (some (.b false), s) => some (false, s.note (¬ p))
  | (some _, _) => none
  | (none, s) => match @decide p d with | true => some (true, s) | false => some (false, s)

/- a check that must hold -/
def mustP (p : Prop) [Decidable p] (s : Tell) : Option Tell := match askP p s with | some (true, s) => some s | _ => none

def askV (o : Option Value) (s : Tell) : Option (Value × Tell) :=
  match s.pop with
  | (some (.v x), s) => some (x, s.note (o = some x))
  | (some _, _) => none
  | (none, s) => match o with | some v => some (v, s) | none => none

def cellsAtT (h : IHeap) (b off n : Nat) (s : Tell) : Option (List Value × Tell) :=
  match h.row b with
  | some cs => match mustP (off + n ≤ cs.length) s with | some s => some ((cs.drop off).take n, s) | none => none
  | none => none

/- cells for a look at one of them -/
def cellsV (cs : List Value) (off n : Nat) (s : Tell) : Option (List Value × Tell) :=
  match s.pop with
  | (some (.cs xs), s) => match Nat.beq xs.length (n - 1 + 1) && Nat.beq xs.length n with
    | true => some (xs, s.note ((cs.drop off).take n = xs))
    | false => none
  | (some _, _) => none
  | (none, s) => match Nat.ble (off + n) cs.length with
    | true => some ((cs.drop off).take n, s)
    | false => none

def iloadT (E : Env) (t : TypeId) (x : Value) (h : IHeap) (s : Tell) : Option (Tell × Value) :=
  match x with
  | .pointer (some ⟨b, off, none⟩) =>
    match h.row b with
    | some cs =>
      match isAggT E t with
      | some true => match szT E t with
        | some n => match cellsV cs off n s with
          | some (xs, s) => some (s, .agg xs.toArray)
          | none => none
        | none => none
      | some false => match askV cs[off]? s with | some (v, s) => some (s, v) | none => none
      | none => none
    | none => none
  | _ => none

def storeAtT (h : IHeap) (b off : Nat) (vs : List Value) (s : Tell) : Option (Tell × IHeap) :=
  match h.get b with
  | some (.cells cs e) => match mustP (off + vs.length ≤ cs.length) s with
    | some s => some (s, h.put b (some (.cells (splice cs off vs) e)))
    | none => none
  | _ => none

def istoreT (E : Env) (t : TypeId) (x v : Value) (h : IHeap) (s : Tell) : Option (Tell × IHeap) :=
  match x with
  | .pointer (some ⟨b, off, none⟩) =>
    match szT E t with
    | some n => match v.cells.toList.length == n && noTuple v with
      | true => storeAtT h b off v.cells.toList s
      | false => none
    | none => none
  | _ => none

def iindexAddrT (E : Env) (t : TypeId) (x ix : Value) (s : Tell) : Option (Tell × Value) :=
  match ix with
  | .int _ i =>
    match E.und t, x with
    | some (.slice e), .slice (some ⟨b, off, none⟩) len _ =>
      match mustP (0 ≤ i ∧ i < (len : Int)) s with
      | some s => match szT E e with
        | some n => some (s, .pointer (some ⟨b, off + i.toNat * n, none⟩))
        | none => none
      | none => none
    | some (.array len e), .pointer (some ⟨b, off, none⟩) =>
      match mustP (0 ≤ i ∧ i < (len : Int)) s with
      | some s => match szT E e with
        | some n => some (s, .pointer (some ⟨b, off + i.toNat * n, none⟩))
        | none => none
      | none => none
    | _, _ => none
  | _ => none

def iindexT (E : Env) (t : TypeId) (x ix : Value) (s : Tell) : Option (Tell × Value) :=
  match ix with
  | .int _ i =>
    match E.und t, x with
    | some (.array len e), .agg cs =>
      match mustP (0 ≤ i ∧ i < (len : Int)) s with
      | some s => match szT E e with
        | some n => match askV (ipart E e cs.toList (i.toNat * n)) s with | some (v, s) => some (s, v) | none => none
        | none => none
      | none => none
    | some .string, .string str =>
      match mustP (0 ≤ i) s with
      | some s => match askV (match str[i.toNat]? with | some b => some (.int .u8 b.toNat) | none => none) s with | some (v, s) => some (s, v) | none => none
      | none => none
    | _, _ => none
  | _ => none

def iboundT (x : Option Value) (dflt : Nat) (most : Nat) (s : Tell) : Option (Nat × Tell) :=
  match x with
  | none => some (dflt, s)
  | some (.int _ i) => match mustP (0 ≤ i ∧ i ≤ (most : Int)) s with | some s => some (i.toNat, s) | none => none
  | some _ => none

def iboundsT (len cap : Nat) (lo hi mx : Option Value) (s : Tell) : Option ((Nat × Nat × Nat) × Tell) :=
  match iboundT mx cap cap s with
  | none => none
  | some (m, s) =>
    match mx.isSome && hi.isNone with
    | true => none
    | false =>
    match iboundT hi len m s with
    | none => none
    | some (hh, s) =>
      match iboundT lo 0 hh s with
      | none => none
      | some (l, s) => match mustP (hh ≤ m) s with | some s => some ((l, hh, m), s) | none => none

def isliceT (E : Env) (t : TypeId) (x : Value) (lo hi mx : Option Value) (h : IHeap) (s : Tell) : Option (Tell × Value) :=
  match E.und t, x with
  | some .string, .string str =>
    match mx.isSome with
    | true => none
    | false =>
    match iboundsT str.size str.size lo hi none s with
    | some ((l, hh, _), s) => some (s, .string (str.extract l hh))
    | none => none
  | some (.slice e), .slice (some ⟨b, off, none⟩) len cap =>
    match iboundsT len cap lo hi mx s with
    | some ((l, hh, m), s) => match szT E e with
      | some n => match fitsE h b n with
        | true => some (s, .slice (some ⟨b, off + l * n, none⟩) (hh - l) (m - l))
        | false => none
      | none => none
    | none => none
  | some (.slice e), .slice none 0 0 =>
    match iboundsT 0 0 lo hi mx s with
    | some (_, s) => match szT E e with
      | some _ => some (s, .slice none 0 0)
      | none => none
    | none => none
  | some (.array k e), .pointer (some ⟨b, off, none⟩) =>
    match iboundsT k k lo hi mx s with
    | some ((l, hh, m), s) => match szT E e with
      | some n => some (s, .slice (some ⟨b, off + l * n, none⟩) (hh - l) (m - l))
      | none => none
    | none => none
  | _, _ => none

/- equality of aggregates, all fields looked at -/
def ieqFieldsT (eq : TypeId → Value → Value → Option Bool) (E : Env) (xs ys : List Value) : List Field → Option Bool
  | [] => some true
  | f :: fs =>
    match f.name != "_" with
    | true =>
      match ipart E f.type xs f.offset, ipart E f.type ys f.offset with
      | some x, some y => match eq f.type x y, ieqFieldsT eq E xs ys fs with
        | some a, some b => some (a && b)
        | _, _ => none
      | _, _ => none
    | false => ieqFieldsT eq E xs ys fs

def ieqT (E : Env) : Nat → TypeId → Value → Value → Option Bool
  | 0, _, _, _ => none
  | d + 1, t, x, y =>
    match E.und t, x, y with
    | some .bool, .bool a, .bool b => some (a == b)
    | some (.int _), .int k a, .int k' b => if k = k' then some (a == b) else none
    | some .string, .string a, .string b => some (a == b)
    | some (.struct fs), .agg xs, .agg ys => match E.stood t with
      | true => none
      | false => ieqFieldsT (ieqT E d) E xs.toList ys.toList fs.toList
    | _, _, _ => none

def ibinT (E : Env) (op : BinOp) (t : TypeId) (x y : Value) (s : Tell) : Option (Tell × Value) :=
  match x, y with
  | .int k a, .int k' b => match op with
    | .shl => match mustP (¬ b < 0) s with | some s => some (s, .int k (k.wrap (a * 2 ^ (min b.toNat k.bits)))) | none => none
    | .shr => match mustP (¬ b < 0) s with | some s => some (s, .int k (a.fdiv (2 ^ (min b.toNat k.bits)))) | none => none
    | .quo => if k = k' then match mustP (¬ b = 0) s with | some s => some (s, .int k (k.wrap (a.tdiv b))) | none => none else none
    | .rem => if k = k' then match mustP (¬ b = 0) s with | some s => some (s, .int k (a.tmod b)) | none => none else none
    | _ => if k = k' then match iint op k a b with | some v => some (s, v) | none => none else none
  | .string a, .string b => match op with
    | .add => match mustP (a.size + b.size ≤ 9223372036854775807) s with | some s => some (s, .string (a ++ b)) | none => none
    | _ => match istring op a b with | some v => some (s, v) | none => none
  | .agg xs, .agg ys => match E.guard t with
    | true => none
    | false => match op with
      | .eql => match ieqT E 10000 t (.agg xs) (.agg ys) with | some b => some (s, .bool b) | none => none
      | .neq => match ieqT E 10000 t (.agg xs) (.agg ys) with | some b => some (s, .bool (!b)) | none => none
      | _ => none
  | x, y => match ibin E op t x y with | some v => some (s, v) | none => none

def imakeSliceT (E : Env) (t : TypeId) (len cap : Value) (h : IHeap) (s : Tell) : Option (Tell × Value × IHeap) :=
  match E.und t, len, cap with
  | some (.slice e), .int _ l, .int _ c =>
    match szT E e, zeroT E e, E.info e with
    | some _, some z, some i =>
      match mustP (0 ≤ l ∧ l ≤ c ∧ c ≤ 9223372036854775807 ∧ (i.bytes : Int) * c ≤ 281474976710656) s with
      | some s => some (s, .slice (some ⟨h.next, 0, none⟩) l.toNat c.toNat, h.new (.cells (repeatL z.cells.toList c.toNat) 0))
      | none => none
    | _, _, _ => none
  | _, _, _ => none

def isourceT (h : IHeap) (size n : Nat) (x : Value) (s : Tell) : Option (List Value × Tell) :=
  match x with
  | .slice (some ⟨b, off, none⟩) _ _ => cellsAtT h b off (n * size) s
  | .slice none _ _ => some ([], s)
  | .string str => some ((str.data.toList.take n).map fun b => .int .u8 b.toNat, s)
  | _ => none

def iappendToT (E : Env) (e : TypeId) (size bytes : Nat) (base : Option Addr) (sLen sCap n : Nat) (new : List Value) (h : IHeap) (s : Tell) : Option (Tell × Value × IHeap) :=
  match askP (sLen + n ≤ sCap) s with
  | none => none
  | some (true, s) =>
    match base with
    | some ⟨b, off, none⟩ => match askP (n * size = 0) s with
      | some (true, s) => some (s, .slice base (sLen + n) sCap, h)
      | some (false, s) => match storeAtT h b (off + sLen * size) new s with
        | some (s, h') => some (s, .slice base (sLen + n) sCap, h')
        | none => none
      | none => none
    | none => match mustP (n = 0 ∧ sLen = 0 ∧ sCap = 0) s with | some s => some (s, .slice none 0 0, h) | none => none
    | _ => none
  | some (false, s) =>
    match mustP (¬ (bytes = 0 ∨ (sLen + n) * bytes > roomMost ∨ size = 0)) s with
    | none => none
    | some s =>
      match zeroT E e with
      | none => none
      | some _ =>
        match base with
        | none => some (s, .slice (some ⟨h.next, 0, none⟩) (sLen + n) (sLen + n), h.new (.cells new size))
        | some ⟨b, off, none⟩ =>
          match h.get b with
          | some (.ro cs) => match mustP (off + sLen * size ≤ cs.length) s with
            | some s => some (s, .slice (some ⟨h.next, 0, none⟩) (sLen + n) (sLen + n), h.new (.cells ((cs.drop off).take (sLen * size) ++ new) size))
            | none => none
          | some (.cells cs esz) =>
            match mustP (off + sLen * size ≤ cs.length) s with
            | some s =>
              match Nat.beq esz 0 with
              | true => some (s, .slice (some ⟨h.next, 0, none⟩) (sLen + n) (sLen + n), h.new (.cells ((cs.drop off).take (sLen * size) ++ new) size))
              | false => match Nat.beq esz size with
                | true => match askP (off + sCap * size = cs.length) s with
                  | some (true, s) => some (s, .slice (some ⟨h.next, 0, none⟩) (sLen + n) (sLen + n), (h.new (.cells ((cs.drop off).take (sLen * size) ++ new) size)).put b none)
                  | some (false, s) => some (s, .slice (some ⟨h.next, 0, none⟩) (sLen + n) (sLen + n), h.new (.cells ((cs.drop off).take (sLen * size) ++ new) size))
                  | none => none
                | false => none
            | none => none
          | _ => none
        | _ => none

def iappendT (E : Env) (argTypes : List TypeId) (args : List Value) (h : IHeap) (s : Tell) : Option (Tell × Value × IHeap) :=
  match argTypes, args with
  | [sT, xT], [.slice base sLen sCap, x] =>
    match E.und sT, E.und xT with
    | some (.slice e), some xD =>
      match szT E e, E.info e with
      | some size, some i =>
        match xD, x with
        | .int _, .int _ l =>
          match zeroT E e with
          | some z => match mustP (0 ≤ l ∧ l ≤ 1000000 ∧ i.bytes ≤ 1000000) s with
            | some s => iappendToT E e size i.bytes base sLen sCap l.toNat (repeatL z.cells.toList l.toNat) h s
            | none => none
          | none => none
        | .int _, _ => none
        | _, x => match ilen x with
          | some n => match isourceT h size n x s with
            | some (new, s) => match mustP (new.length = n * size) s with
              | some s => iappendToT E e size i.bytes base sLen sCap n new h s
              | none => none
            | none => none
          | none => none
      | _, _ => none
    | _, _ => none
  | _, _ => none

def icopyT (E : Env) (argTypes : List TypeId) (args : List Value) (h : IHeap) (s : Tell) : Option (Tell × Value × IHeap) :=
  match argTypes, args with
  | dT :: _, [.slice base dLen _, src] =>
    match E.und dT with
    | some (.slice e) =>
      match szT E e, ilen src with
      | some size, some m =>
        match isourceT h size (min m dLen) src s with
        | some (cs, s) => match base with
          | none => match mustP (dLen = 0) s with | some s => some (s, .int .i64 0, h) | none => none
          | some ⟨b, off, none⟩ => match askP (cs.length = 0) s with
            | some (true, s) => some (s, .int .i64 (min m dLen : Nat), h)
            | some (false, s) => match mustP (cs.length = min m dLen * size) s with
              | some s => match storeAtT h b off cs s with
                | some (s, h') => some (s, .int .i64 (min m dLen : Nat), h')
                | none => none
              | none => none
            | none => none
          | _ => none
        | none => none
      | _, _ => none
    | _ => none
  | _, _ => none

/- a map as data -/
def mapPut (key v : Value) (es : List (Value × Value)) : List (Value × Value) :=
  match findE key es 0 with
  | some (some (i, _)) => es.set i (key, v)
  | _ => es ++ [(key, v)]
def mapDel (key : Value) (es : List (Value × Value)) : List (Value × Value) :=
  match findE key es 0 with
  | some (some (i, _)) => es.eraseIdx i
  | _ => es
def mapGet (key : Value) (es : List (Value × Value)) : Option (Option Value) :=
  match findE key es 0 with
  | some (some (_, v)) => some (some v)
  | some none => some none
  | none => none

def askE (key : Value) (es : List (Value × Value)) (s : Tell) : Option (Option Value × Tell) :=
  match s.pop with
  | (some (.v x), s) => some (some x, s.note (mapGet key es = some (some x)))
  | (some (.b false), s) => some (none, s.note (mapGet key es = some none))
  | (some _, _) => none
  | (none, s) => match mapGet key es with | some o => some (o, s) | none => none

def entryT (r : Option Nat) (key : Value) (h : IHeap) (s : Tell) : Option (Option Value × Tell) :=
  match r with
  | none => some (none, s)
  | some b => match h.get b with | some (.map es) => askE key es s | _ => none

def ilookupT (E : Env) (t : TypeId) (x key : Value) (ok : Bool) (h : IHeap) (s : Tell) : Option (Tell × Value) :=
  match E.und t, x with
  | some (.map kt et), .map r =>
    match keyT E kt key with
    | true =>
      match entryT r key h s, zeroT E et with
      | some (some v, s), _ => some (s, if ok then .tuple #[v, .bool true] else v)
      | some (none, s), some z => some (s, if ok then .tuple #[z, .bool false] else z)
      | _, _ => none
    | false => none
  | _, _ => none

def imapUpdateT (E : Env) (t : TypeId) (x key v : Value) (h : IHeap) (s : Tell) : Option (Tell × IHeap) :=
  match E.und t, x with
  | some (.map kt _), .map (some b) =>
    match keyT E kt key with
    | true =>
      match h.get b with
      | some (.map es) => match mustP ((findE key es 0).isSome = true) s with
        | some s => some (s, h.put b (some (.map (mapPut key v es))))
        | none => none
      | _ => none
    | false => none
  | _, _ => none

def ideleteT (E : Env) (argTypes : List TypeId) (args : List Value) (h : IHeap) (s : Tell) : Option (Tell × Value × IHeap) :=
  match argTypes, args with
  | t :: _, [.map (some b), key] =>
    match E.und t with
    | some (.map kt _) =>
      match keyT E kt key with
      | true =>
        match h.get b with
        | some (.map es) => match mustP ((findE key es 0).isSome = true) s with
          | some s => some (s, .tuple #[], h.put b (some (.map (mapDel key es))))
          | none => none
        | _ => none
      | false => none
    | _ => none
  | _, _ => none

def iconvertT (E : Env) (src dst : TypeId) (x : Value) (h : IHeap) (s : Tell) : Option (Tell × Value × IHeap) :=
  match E.und src, E.und dst, x with
  | some (.slice e), some .string, .slice (some ⟨b, off, none⟩) len _ => match E.und e with
    | some (.int .u8) => match cellsAtT h b off len s with
      | some (cs, s) => match askV (match bytesOfVs cs with | some bs => some (.string ⟨bs.toArray⟩) | none => none) s with
        | some (v, s) => some (s, v, h)
        | none => none
      | none => none
    | _ => none
  | _, _, _ => match iconvert E src dst x h with | some (v, h') => some (s, v, h') | none => none

def inextT (it : Value) (h : IHeap) (s : Tell) : Option (Tell × Value × IHeap) :=
  match it with
  | .pointer (some ⟨b, 0, none⟩) => match h.get b with
    | some (.iter str pos) =>
      match askP (pos < str.size) s with
      | some (true, s) => some (s, .tuple #[.bool true, .int .i64 pos, .int .i32 (Utf8.decode str pos).1], h.put b (some (.iter str (pos + (Utf8.decode str pos).2))))
      | some (false, s) => some (s, .tuple #[.bool false], h)
      | none => none
    | _ => none
  | _ => none

/- an operand's value, as it lies there -/
def getO : List Value → Nat → Option Value
  | [], _ => none
  | v :: _, 0 => some v
  | _ :: vs, n + 1 => getO vs n

def ievalO (tm : List Value) : Operand → Option Value
  | .tmp t => getO tm t
  | x => some (ieval tm x)

def evalsO (tm : List Value) : List Operand → Option (List Value)
  | [] => some []
  | x :: xs => match ievalO tm x, evalsO tm xs with
    | some v, some vs => some (v :: vs)
    | _, _ => none

def partsO (tm : List Value) : List (Nat × Operand) → Option (List (Nat × Value))
  | [] => some []
  | (i, x) :: xs => match ievalO tm x, partsO tm xs with
    | some v, some vs => some ((i, v) :: vs)
    | _, _ => none

def setO : List Value → Nat → Value → Option (List Value)
  | [], _, _ => none
  | _ :: vs, 0, u => some (u :: vs)
  | v :: vs, n + 1, u => match setO vs n u with | some ws => some (v :: ws) | none => none

def iputO (tm : List Value) (dst : Option Tmp) (v : Value) : Option (List Value) := match dst with | some d => setO tm d v | none => some tm

abbrev TCall := FuncId → List Value → Tell → IHeap → Option (Tell × Value × IHeap)

def pureT (r : Option (Tell × Value)) (h : IHeap) : Option (Tell × Value × IHeap) := match r with | some (s, v) => some (s, v, h) | none => none
def unitT (r : Option (Tell × IHeap)) : Option (Tell × Value × IHeap) := match r with | some (s, h) => some (s, undef, h) | none => none

def iapartT (args : List Value) (s : Tell) (h : IHeap) : Option (Tell × Value × IHeap) :=
  match args with
  | [.slice (some ⟨b, _, none⟩) _ _, .slice (some ⟨b', _, none⟩) _ _] =>
    match Nat.beq b b', h.get b, h.get b' with
    | false, some (.cells _ _), some (.cells cs _) => match mustP (0 < cs.length) s with | some s => some (s, .bool false, h) | none => none
    | _, _, _ => none
  | _ => none

def iopT (E : Env) (ex : FuncId → Bool) (call : TCall) (tm : List Value) (o : Op) (s : Tell) (h : IHeap) : Option (Tell × Value × IHeap) :=
  match o with
  | .call ⟨.value f, args, _⟩ => match ievalO tm f with
    | some (.func (.func f) first captured) => match goesOn E f, evalsO tm args.toList with
      | true, some vs => call f (first.toList ++ vs ++ captured.toList) s h
      | false, some vs => match ex f with
        | true => iapartT (first.toList ++ vs ++ captured.toList) s h
        | false => none
      | _, _ => none
    | _ => none
  | .call ⟨.builtin .append, args, ts⟩ => match evalsO tm args.toList with | some vs => iappendT E ts.toList vs h s | none => none
  | .call ⟨.builtin .copy, args, ts⟩ => match evalsO tm args.toList with | some vs => icopyT E ts.toList vs h s | none => none
  | .call ⟨.builtin .delete, args, ts⟩ => match evalsO tm args.toList with | some vs => ideleteT E ts.toList vs h s | none => none
  | .move x => match ievalO tm x with | some v => some (s, v, h) | none => none
  | .assign x => match ievalO tm x with | some v => some (s, v, h) | none => none
  | .pick c a b => match askB (ieval tm c) s with
    | some (true, s) => match ievalO tm a with | some v => some (s, v, h) | none => none
    | some (false, s) => match ievalO tm b with | some v => some (s, v, h) | none => none
    | none => none
  | .box _ x => match ievalO tm x with
    | some v => match noTuple v with
      | true => some (s, .pointer (some ⟨h.next, 0, none⟩), h.new (.cells v.cells.toList 0))
      | false => none
    | none => none
  | .build t parts => match partsO tm parts.toList with
    | some ps => match ibuild E t ps with | some v => some (s, v, h) | none => none
    | none => none
  | .buildSlice t len parts => match partsO tm parts.toList with
    | some ps => match ibuildSlice E t len ps h with | some (v, h') => some (s, v, h') | none => none
    | none => none
  | .load t a => pureT (iloadT E t (ieval tm a) h s) h
  | .store t a x => match ievalO tm x with
    | some v => unitT (istoreT E t (ieval tm a) v h s)
    | none => none
  | .binOp op t x y _ => pureT (ibinT E op t (ieval tm x) (ieval tm y) s) h
  | .convert a d x => iconvertT E a d (ieval tm x) h s
  | .makeInterface t x => match E.und t, ievalO tm x with
    | some (.interface _), _ => none
    | some _, some v => some (s, .iface t v, h)
    | _, _ => none
  | .makeFunc (.func f) first captured => match evalsO tm first.toList, evalsO tm captured.toList with
    | some xs, some ys => some (s, .func (.func f) xs.toArray ys.toArray, h)
    | _, _ => none
  | .makeSlice t l c => imakeSliceT E t (ieval tm l) (ieval tm c) h s
  | .slice t x lo hi mx => pureT (isliceT E t (ieval tm x) (lo.map (ieval tm)) (hi.map (ieval tm)) (mx.map (ieval tm)) h s) h
  | .indexAddr t x ix => pureT (iindexAddrT E t (ieval tm x) (ieval tm ix) s) h
  | .index t x ix => pureT (iindexT E t (ieval tm x) (ieval tm ix) s) h
  | .lookup t x ix ok => match ievalO tm ix with
    | some k => pureT (ilookupT E t (ieval tm x) k ok h s) h
    | none => none
  | .mapUpdate t m k x | .insert t m k x => match ievalO tm k, ievalO tm x with
    | some k, some v => unitT (imapUpdateT E t (ieval tm m) k v h s)
    | _, _ => none
  | .next it true => inextT (ieval tm it) h s
  | o => match iop E (fun _ _ _ => none) (ieval tm) o h with | some (v, h') => some (s, v, h') | none => none

def wantedT (ops : List Oper) (tm : List Value) (o : Oper) (s : Tell) : Option (Bool × Tell) :=
  match o.guard with
  | none => some (true, s)
  | some (j, want) => match ops[j]? with
    | some x => match x.dst with
      | some d => match tm[d]? with
        | some (.tuple _) => some (false, s)
        | some v => match askB v s with | some (b, s) => some (b == want, s) | none => none
        | none => none
      | none => none
    | none => none

def irunT (E : Env) (ex : FuncId → Bool) (call : TCall) (ops : List Oper) : List Oper → List Value → Tell → IHeap → Option (Tell × List Value × IHeap)
  | [], tm, s, h => some (s, tm, h)
  | o :: rest, tm, s, h =>
    match wantedT ops tm o s with
    | some (true, s) =>
      match operOK o.op with
      | true => match iopT E ex call tm o.op s h with
        | some (s, v, h') => match iputO tm o.dst v with | some tm => irunT E ex call ops rest tm s h' | none => none
        | none => none
      | false => none
    | some (false, s) => match iputO tm o.dst undef with | some tm => irunT E ex call ops rest tm s h | none => none
    | none => none

def irunDrawT (E : Env) (ex : FuncId → Bool) (call : TCall) (ops : List Oper) (st : Nat) : List Oper → Nat → List (Nat × Nat) → List (Nat × Nat) → List Value → Tell → IHeap → Option (Tell × List Value × IHeap)
  | [], _, _, _, tm, s, h => some (s, tm, h)
  | o :: rest, j, rd, mu, tm, s, h =>
    match wantedT ops tm o s with
    | some (true, s) =>
      match operOK o.op with
      | true =>
        match iopT E ex call tm o.op s { next := h.next, wr := 0, t := h.t } with
        | some (s, v, h') =>
          match iputO tm o.dst v with
          | none => none
          | some tm' =>
          match loadsOf (ieval tm) h.next o.op with
          | some b =>
            match (allocOp o.op || mu.isEmpty || Nat.blt b st) && mu.all fun x => ordered ops 40 x.1 j || !x.2.testBit b with
            | true => irunDrawT E ex call ops st rest (j + 1) ((j, b) :: rd) mu tm' s { next := h'.next, wr := h.wr ||| h'.wr, t := h'.t }
            | false => none
          | none =>
            match Nat.beq (h'.wr % 2 ^ h.next) 0 with
            | true => irunDrawT E ex call ops st rest (j + 1) rd mu tm' s { next := h'.next, wr := h.wr ||| h'.wr, t := h'.t }
            | false => match barrier E ops j && rd.all fun x => ordered ops 40 x.1 j || !h'.wr.testBit x.2 with
              | true => irunDrawT E ex call ops st rest (j + 1) rd ((j, h'.wr) :: mu) tm' s { next := h'.next, wr := h.wr ||| h'.wr, t := h'.t }
              | false => none
        | none => none
      | false => none
    | some (false, s) => match iputO tm o.dst undef with | some tm' => irunDrawT E ex call ops st rest (j + 1) rd mu tm' s h | none => none
    | none => none

/- a callee by what is known of it: the condition, and the answer -/
abbrev PrimD := List Value → IHeap → Option (Prop × Value × IHeap)

def icallByT (E : Env) (pr : FuncId → Option PrimD) (run : Code → List Value → Tell → IHeap → Option (Tell × IEx × List Value × IHeap)) : TCall := fun f args s h =>
  match pr f with
  | some g => match g args h with | some (p, v, h') => some (s.note p, v, h') | none => none
  | none =>
  match E.fn f with
  | some fn => match fn.body with
    | some c => match run c (args ++ List.replicate (fn.ntmps - args.length) undef) s h with
      | some (s, .normal, tm, h') => match iresults E fn tm h' with | some v => some (s, v, h') | none => none
      | some (s, .ret, tm, h') => match iresults E fn tm h' with | some v => some (s, v, h') | none => none
      | _ => none
    | none => none
  | none => none

def icodeT (E : Env) (ex : FuncId → Bool) (pr : FuncId → Option PrimD) : Nat → Code → List Value → Tell → IHeap → Option (Tell × IEx × List Value × IHeap)
  | 0, _, _, _, _ => none
  | n + 1, c, tm, s, h =>
    match c with
    | .skip => some (s, .normal, tm, h)
    | .label _ => some (s, .normal, tm, h)
    | .region _ ops draw =>
      match draw with
      | true => match drawOK ops.toList with
        | true => match irunDrawT E ex (icallByT E pr (icodeT E ex pr n)) ops.toList h.next ops.toList 0 [] [] tm s h with
          | some (s, tm', h') => some (s, .normal, tm', h')
          | none => none
        | false => none
      | false => match irunT E ex (icallByT E pr (icodeT E ex pr n)) ops.toList ops.toList tm s h with
        | some (s, tm', h') => some (s, .normal, tm', h')
        | none => none
    | .seq a b =>
      match icodeT E ex pr n a tm s h with
      | some (s, .normal, tm', h') => icodeT E ex pr n b tm' s h'
      | r => r
    | .cond c x y =>
      match askB (ieval tm c) s with
      | some (true, s) => icodeT E ex pr n x tm s h
      | some (false, s) => icodeT E ex pr n y tm s h
      | none => none
    | .block id b =>
      match icodeT E ex pr n b tm s h with
      | some (s, .exit id', tm', h') => match Nat.beq id' id with | true => some (s, .normal, tm', h') | false => some (s, .exit id', tm', h')
      | r => r
    | .loop b =>
      match icodeT E ex pr n b tm s h with
      | some (s, .normal, tm', h') => icodeT E ex pr n (.loop b) tm' s h'
      | r => r
    | .exit id => some (s, .exit id, tm, h)
    | .ret => some (s, .ret, tm, h)
    | _ => none

def icallT (E : Env) (ex : FuncId → Bool) (pr : FuncId → Option PrimD) (n : Nat) : TCall := icallByT E pr (icodeT E ex pr n)

end Go.Ideal

/- What the machine that is told answers, the ideal machine answers, if what was supposed is so. -/
namespace Go.Ideal
open Go

def Tell.le (s s' : Tell) : Prop := s'.met → s.met
theorem Tell.le_refl (s : Tell) : s.le s := fun m => m
theorem Tell.le.trans {a b c : Tell} (h : a.le b) (k : b.le c) : a.le c := fun m => h (k m)

theorem note_met {s : Tell} {p : Prop} (m : (s.note p).met) : p ∧ s.met := ⟨m p (List.mem_cons_self ..), fun q hq => m q (List.mem_cons_of_mem _ hq)⟩

theorem pop_met {s s' : Tell} {a : Option Tip} (e : s.pop = (a, s')) : s.le s' := by
  unfold Tell.pop at e
  split at e <;> cases e <;> exact fun m => m

theorem note_le {s s' : Tell} (h : s.le s') (p : Prop) : s.le (s'.note p) := fun m => h (note_met m).2

theorem askB_spec {v : Value} {s s' : Tell} {b : Bool} (e : askB v s = some (b, s')) : s.le s' ∧ (s'.met → v = .bool b) := by
  unfold askB at e
  split at e
  · rename_i h; cases e; exact ⟨note_le (pop_met h) _, fun m => (note_met m).1⟩
  · cases e
  · rename_i h
    split at e
    · cases e; exact ⟨pop_met h, fun _ => rfl⟩
    · cases e; exact ⟨pop_met h, fun _ => rfl⟩
    · cases e

theorem askP_spec {p : Prop} [d : Decidable p] {s s' : Tell} {b : Bool} (e : askP p s = some (b, s')) : s.le s' ∧ (s'.met → (b = true ↔ p)) := by
  unfold askP at e
  split at e
  · rename_i h; cases e; exact ⟨note_le (pop_met h) _, fun m => ⟨fun _ => (note_met m).1, fun _ => rfl⟩⟩
  · rename_i h; cases e; exact ⟨note_le (pop_met h) _, fun m => ⟨fun e => (by cases e), fun k => absurd k (note_met m).1⟩⟩
  · cases e
  · rename_i h
    split at e
    · rename_i hd; cases e; exact ⟨pop_met h, fun _ => ⟨fun _ => of_decide_eq_true hd, fun _ => rfl⟩⟩
    · rename_i hd; cases e; exact ⟨pop_met h, fun _ => ⟨fun e => (by cases e), fun k => absurd k (of_decide_eq_false hd)⟩⟩

theorem askP_true {p : Prop} [d : Decidable p] {s s' : Tell} (e : askP p s = some (true, s')) : s.le s' ∧ (s'.met → p) := ⟨(askP_spec e).1, fun m => ((askP_spec e).2 m).1 rfl⟩
theorem askP_false {p : Prop} [d : Decidable p] {s s' : Tell} (e : askP p s = some (false, s')) : s.le s' ∧ (s'.met → ¬ p) := ⟨(askP_spec e).1, fun m k => by cases ((askP_spec e).2 m).2 k⟩

theorem mustP_spec {p : Prop} [Decidable p] {s s' : Tell} (e : mustP p s = some s') : s.le s' ∧ (s'.met → p) := by
  unfold mustP at e
  split at e
  · rename_i h; cases e; exact askP_true h
  · cases e

theorem askV_spec {o : Option Value} {s s' : Tell} {x : Value} (e : askV o s = some (x, s')) : s.le s' ∧ (s'.met → o = some x) := by
  unfold askV at e
  split at e
  · rename_i h; cases e; exact ⟨note_le (pop_met h) _, fun m => (note_met m).1⟩
  · cases e
  · rename_i h
    split at e
    · cases e; exact ⟨pop_met h, fun _ => rfl⟩
    · cases e

theorem cellsAtT_spec {h : IHeap} {b off n : Nat} {s s' : Tell} {xs : List Value} (e : cellsAtT h b off n s = some (xs, s')) : s.le s' ∧ (s'.met → cellsAt h b off n = some xs) := by
  unfold cellsAtT at e
  split at e
  · rename_i cs hr
    split at e
    · rename_i hm; cases e
      obtain ⟨k1, k2⟩ := mustP_spec hm
      exact ⟨k1, fun m => by unfold cellsAt; rw [hr]; simp only; rw [if_pos (k2 m)]⟩
    · cases e
  · cases e

theorem cellsV_spec {cs : List Value} {off n : Nat} {s s' : Tell} {xs : List Value} (e : cellsV cs off n s = some (xs, s')) : s.le s' ∧ (s'.met → off + n ≤ cs.length ∧ (cs.drop off).take n = xs) := by
  unfold cellsV at e
  split at e
  · rename_i h
    split at e
    · rename_i hb; cases e
      simp only [Bool.and_eq_true] at hb
      have h1 := Nat.eq_of_beq_eq_true hb.1
      have h2 := Nat.eq_of_beq_eq_true hb.2
      refine ⟨note_le (pop_met h) _, fun m => ?_⟩
      have hm := (note_met m).1
      refine ⟨?_, hm⟩
      have hl : ((cs.drop off).take n).length = n := by rw [hm]; exact h2
      rw [List.length_take, List.length_drop] at hl
      omega
    · cases e
  · cases e
  · rename_i h
    split at e
    · rename_i hb; cases e
      exact ⟨pop_met h, fun _ => ⟨Nat.le_of_ble_eq_true hb, rfl⟩⟩
    · cases e

theorem iloadT_spec {E : Env} {t : TypeId} {x v : Value} {h : IHeap} {s s' : Tell} (e : iloadT E t x h s = some (s', v)) : s.le s' ∧ (s'.met → iload E t x h = some v) := by
  unfold iloadT at e
  split at e
  · rename_i b off
    split at e
    · rename_i cs hr
      split at e
      · rename_i ha
        split at e
        · rename_i n hn
          split at e
          · rename_i hc; cases e
            obtain ⟨k1, k2⟩ := cellsV_spec hc
            refine ⟨k1, fun m => ?_⟩
            obtain ⟨m1, m2⟩ := k2 m
            simp only [iload, hr, ha, hn, if_pos m1, m2]
          · cases e
        · cases e
      · rename_i ha
        split at e
        · rename_i hc; cases e
          obtain ⟨k1, k2⟩ := askV_spec hc
          exact ⟨k1, fun m => by simp only [iload, hr, ha]; exact k2 m⟩
        · cases e
      · cases e
    · cases e
  · cases e

theorem storeAtT_spec {h h' : IHeap} {b off : Nat} {vs : List Value} {s s' : Tell} (e : storeAtT h b off vs s = some (s', h')) : s.le s' ∧ (s'.met → storeAt h b off vs = some h') := by
  unfold storeAtT at e
  split at e
  · rename_i cs ez hg
    split at e
    · rename_i hm; cases e
      obtain ⟨k1, k2⟩ := mustP_spec hm
      exact ⟨k1, fun m => by simp only [storeAt, hg, if_pos (k2 m)]⟩
    · cases e
  · cases e

theorem istoreT_spec {E : Env} {t : TypeId} {x v : Value} {h h' : IHeap} {s s' : Tell} (e : istoreT E t x v h s = some (s', h')) : s.le s' ∧ (s'.met → istore E t x v h = some h') := by
  unfold istoreT at e
  split at e
  · split at e
    · rename_i n hn
      split at e
      · rename_i hc
        obtain ⟨k1, k2⟩ := storeAtT_spec e
        exact ⟨k1, fun m => by simp only [istore, hn, hc, if_true]; exact k2 m⟩
      · cases e
    · cases e
  · cases e

theorem iindexAddrT_spec {E : Env} {t : TypeId} {x ix v : Value} {s s' : Tell} (e : iindexAddrT E t x ix s = some (s', v)) : s.le s' ∧ (s'.met → iindexAddr E t x ix = some v) := by
  unfold iindexAddrT at e
  split at e
  · split at e
    · rename_i hu
      split at e
      · rename_i hm
        split at e
        · rename_i n hn; cases e
          obtain ⟨k1, k2⟩ := mustP_spec hm
          exact ⟨k1, fun m => by simp only [iindexAddr, hu, if_pos (k2 m), hn]⟩
        · cases e
      · cases e
    · rename_i hu
      split at e
      · rename_i hm
        split at e
        · rename_i n hn; cases e
          obtain ⟨k1, k2⟩ := mustP_spec hm
          exact ⟨k1, fun m => by simp only [iindexAddr, hu, if_pos (k2 m), hn]⟩
        · cases e
      · cases e
    · cases e
  · cases e

theorem iindexT_spec {E : Env} {t : TypeId} {x ix v : Value} {s s' : Tell} (e : iindexT E t x ix s = some (s', v)) : s.le s' ∧ (s'.met → iindex E t x ix = some v) := by
  unfold iindexT at e
  split at e
  · split at e
    · rename_i hu
      split at e
      · rename_i hm
        split at e
        · rename_i n hn
          split at e
          · rename_i ha; cases e
            obtain ⟨k1, k2⟩ := mustP_spec hm
            obtain ⟨k3, k4⟩ := askV_spec ha
            exact ⟨k1.trans k3, fun m => by simp only [iindex, hu, if_pos (k2 (k3 m)), hn]; exact k4 m⟩
          · cases e
        · cases e
      · cases e
    · rename_i hu
      split at e
      · rename_i hm
        split at e
        · rename_i ha; cases e
          obtain ⟨k1, k2⟩ := mustP_spec hm
          obtain ⟨k3, k4⟩ := askV_spec ha
          exact ⟨k1.trans k3, fun m => by simp only [iindex, hu, if_pos (k2 (k3 m))]; exact k4 m⟩
        · cases e
      · cases e
    · cases e
  · cases e

theorem iboundT_spec {x : Option Value} {dflt most n : Nat} {s s' : Tell} (e : iboundT x dflt most s = some (n, s')) : s.le s' ∧ (s'.met → ibound x dflt most = some n) := by
  unfold iboundT at e
  split at e
  · cases e; exact ⟨Tell.le_refl _, fun _ => rfl⟩
  · split at e
    · rename_i hm; cases e
      obtain ⟨k1, k2⟩ := mustP_spec hm
      exact ⟨k1, fun m => by simp only [ibound, if_pos (k2 m)]⟩
    · cases e
  · cases e

theorem iboundsT_spec {len cap : Nat} {lo hi mx : Option Value} {s s' : Tell} {r : Nat × Nat × Nat} (e : iboundsT len cap lo hi mx s = some (r, s')) : s.le s' ∧ (s'.met → ibounds len cap lo hi mx = some r) := by
  unfold iboundsT at e
  split at e
  · cases e
  · rename_i m1 s1 h1
    split at e
    · cases e
    · rename_i hb
      split at e
      · cases e
      · rename_i hh s2 h2
        split at e
        · cases e
        · rename_i l s3 h3
          split at e
          · rename_i hm; cases e
            obtain ⟨a1, a2⟩ := iboundT_spec h1
            obtain ⟨b1, b2⟩ := iboundT_spec h2
            obtain ⟨c1, c2⟩ := iboundT_spec h3
            obtain ⟨d1, d2⟩ := mustP_spec hm
            refine ⟨((a1.trans b1).trans c1).trans d1, fun m => ?_⟩
            have m3 := d1 m
            have m2 := c1 m3
            have m1' := b1 m2
            simp only [ibounds, a2 m1', hb, Bool.false_eq_true, if_false, b2 m2, c2 m3, if_pos (d2 m)]
          · cases e

theorem isliceT_spec {E : Env} {t : TypeId} {x v : Value} {lo hi mx : Option Value} {h : IHeap} {s s' : Tell} (e : isliceT E t x lo hi mx h s = some (s', v)) : s.le s' ∧ (s'.met → islice E t x lo hi mx h = some v) := by
  unfold isliceT at e
  split at e
  · rename_i hu
    split at e
    · cases e
    · rename_i hx
      split at e
      · rename_i hb; cases e
        obtain ⟨k1, k2⟩ := iboundsT_spec hb
        exact ⟨k1, fun m => by simp only [islice, hu, hx, Bool.false_eq_true, if_false, k2 m]⟩
      · cases e
  · rename_i hu
    split at e
    · rename_i hb
      split at e
      · rename_i n hn
        split at e
        · rename_i hf; cases e
          obtain ⟨k1, k2⟩ := iboundsT_spec hb
          exact ⟨k1, fun m => by simp only [islice, hu, k2 m, hn, hf, if_true]⟩
        · cases e
      · cases e
    · cases e
  · rename_i hu
    split at e
    · rename_i hb
      split at e
      · rename_i n hn; cases e
        obtain ⟨k1, k2⟩ := iboundsT_spec hb
        exact ⟨k1, fun m => by simp only [islice, hu, k2 m, hn]⟩
      · cases e
    · cases e
  · rename_i hu
    split at e
    · rename_i hb
      split at e
      · rename_i n hn; cases e
        obtain ⟨k1, k2⟩ := iboundsT_spec hb
        exact ⟨k1, fun m => by simp only [islice, hu, k2 m, hn]⟩
      · cases e
    · cases e
  · cases e

theorem ieqFieldsT_spec {eq eq' : TypeId → Value → Value → Option Bool} (he : ∀ t x y b, eq t x y = some b → eq' t x y = some b) {E : Env} {xs ys : List Value} : ∀ (fs : List Field) (b : Bool), ieqFieldsT eq E xs ys fs = some b → ieqFields eq' E xs ys fs = some b
  | [], b, e => e
  | f :: fs, b, e => by
    simp only [ieqFieldsT] at e
    simp only [ieqFields]
    split at e
    · rename_i hn
      have hn' : f.name ≠ "_" := by simpa using hn
      rw [if_pos hn']
      split at e
      · rename_i h1 h2
        split at e
        · rename_i a r e1 e2
          cases e
          have i1 := he _ _ _ _ e1
          have i2 := ieqFieldsT_spec he fs r e2
          rw [h1, h2]
          simp only [i1]
          cases a with
          | true => simpa using i2
          | false => rfl
        · cases e
      · cases e
    · rename_i hn
      have hn' : ¬ f.name ≠ "_" := by simpa using hn
      rw [if_neg hn']
      exact ieqFieldsT_spec he fs b e

theorem ieqT_spec {E : Env} : ∀ (d : Nat) (t : TypeId) (x y : Value) (b : Bool), ieqT E d t x y = some b → ieq E d t x y = some b
  | 0, t, x, y, b, e => by cases e
  | d + 1, t, x, y, b, e => by
    simp only [ieqT] at e
    simp only [ieq]
    split at e
    · rename_i hu; simp only [hu]; exact e
    · rename_i hu; simp only [hu]; exact e
    · rename_i hu; simp only [hu]; exact e
    · rename_i hu
      split at e
      · cases e
      · rename_i hs
        simp only [hu, hs, Bool.false_eq_true, if_false]
        exact ieqFieldsT_spec (fun t x y b => ieqT_spec d t x y b) _ _ e
    · cases e

theorem ibinT_spec {E : Env} {op : BinOp} {t : TypeId} {x y v : Value} {s s' : Tell} (e : ibinT E op t x y s = some (s', v)) : s.le s' ∧ (s'.met → ibin E op t x y = some v) := by
  unfold ibinT at e
  split at e
  · rename_i k a k' b
    split at e
    · split at e
      · rename_i hm; cases e
        obtain ⟨k1, k2⟩ := mustP_spec hm
        exact ⟨k1, fun m => by simp only [ibin, ishift, if_neg (k2 m)]⟩
      · cases e
    · split at e
      · rename_i hm; cases e
        obtain ⟨k1, k2⟩ := mustP_spec hm
        exact ⟨k1, fun m => by simp only [ibin, ishift, if_neg (k2 m)]⟩
      · cases e
    · split at e
      · rename_i hk
        split at e
        · rename_i hm; cases e
          obtain ⟨k1, k2⟩ := mustP_spec hm
          exact ⟨k1, fun m => by simp only [ibin, if_pos hk, iint, if_neg (k2 m)]⟩
        · cases e
      · cases e
    · split at e
      · rename_i hk
        split at e
        · rename_i hm; cases e
          obtain ⟨k1, k2⟩ := mustP_spec hm
          exact ⟨k1, fun m => by simp only [ibin, if_pos hk, iint, if_neg (k2 m)]⟩
        · cases e
      · cases e
    · rename_i n1 n2 n3 n4
      split at e
      · rename_i hk
        split at e
        · rename_i hi; cases e
          refine ⟨Tell.le_refl _, fun _ => ?_⟩
          cases op <;> first | exact absurd rfl n1 | exact absurd rfl n2 | exact absurd rfl n3 | exact absurd rfl n4 | (simp only [ibin]; rw [if_pos hk]; exact hi)
        · cases e
      · cases e
  · split at e
    · split at e
      · rename_i hm; cases e
        obtain ⟨k1, k2⟩ := mustP_spec hm
        exact ⟨k1, fun m => by simp only [ibin, istring, if_pos (k2 m)]⟩
      · cases e
    · split at e
      · rename_i hi; cases e
        exact ⟨Tell.le_refl _, fun _ => by simp only [ibin]; exact hi⟩
      · cases e
  · split at e
    · cases e
    · rename_i hg
      split at e
      · split at e
        · rename_i hi; cases e
          refine ⟨Tell.le_refl _, fun _ => ?_⟩
          simp only [ibin, iequal, hg, Bool.false_eq_true, if_false, ieqT_spec _ _ _ _ _ hi]
        · cases e
      · split at e
        · rename_i hi; cases e
          refine ⟨Tell.le_refl _, fun _ => ?_⟩
          simp only [ibin, iequal, hg, Bool.false_eq_true, if_false, ieqT_spec _ _ _ _ _ hi]
        · cases e
      · cases e
  · split at e
    · rename_i hi; cases e; exact ⟨Tell.le_refl _, fun _ => hi⟩
    · cases e

theorem imakeSliceT_spec {E : Env} {t : TypeId} {len cap v : Value} {h h' : IHeap} {s s' : Tell} (e : imakeSliceT E t len cap h s = some (s', v, h')) : s.le s' ∧ (s'.met → imakeSlice E t len cap h = some (v, h')) := by
  unfold imakeSliceT at e
  split at e
  · rename_i hu
    split at e
    · rename_i h1 h2 h3
      split at e
      · rename_i hm; cases e
        obtain ⟨k1, k2⟩ := mustP_spec hm
        exact ⟨k1, fun m => by simp only [imakeSlice, hu, h1, h2, h3]; rw [if_pos (k2 m)]⟩
      · cases e
    · cases e
  · cases e

theorem isourceT_spec {h : IHeap} {size n : Nat} {x : Value} {s s' : Tell} {xs : List Value} (e : isourceT h size n x s = some (xs, s')) : s.le s' ∧ (s'.met → isource h size n x = some xs) := by
  unfold isourceT at e
  split at e
  · exact cellsAtT_spec e
  · cases e; exact ⟨Tell.le_refl _, fun _ => rfl⟩
  · cases e; exact ⟨Tell.le_refl _, fun _ => rfl⟩
  · cases e

theorem iappendToT_spec {E : Env} {e : TypeId} {size bytes : Nat} {base : Option Addr} {sLen sCap n : Nat} {new : List Value} {h h' : IHeap} {v : Value} {s s' : Tell}
    (q : iappendToT E e size bytes base sLen sCap n new h s = some (s', v, h')) : s.le s' ∧ (s'.met → iappendTo E e size bytes base sLen sCap n new h = some (v, h')) := by
  unfold iappendToT at q
  split at q
  · cases q
  · rename_i s1 hp
    obtain ⟨k1, k2⟩ := askP_true hp
    split at q
    · rename_i b off
      split at q
      · rename_i h0; cases q
        obtain ⟨k3, k4⟩ := askP_true h0
        exact ⟨k1.trans k3, fun m => by unfold iappendTo; simp only [if_pos (k2 (k3 m)), if_pos (k4 m)]⟩
      · rename_i h0
        obtain ⟨k3, k4⟩ := askP_false h0
        split at q
        · rename_i hs; cases q
          obtain ⟨k5, k6⟩ := storeAtT_spec hs
          exact ⟨(k1.trans k3).trans k5, fun m => by unfold iappendTo; simp only [if_pos (k2 (k3 (k5 m))), if_neg (k4 (k5 m)), k6 m]⟩
        · cases q
      · cases q
    · split at q
      · rename_i hm; cases q
        obtain ⟨k3, k4⟩ := mustP_spec hm
        exact ⟨k1.trans k3, fun m => by unfold iappendTo; simp only [if_pos (k2 (k3 m))]; rw [if_pos (k4 m)]⟩
      · cases q
    · cases q
  · rename_i s1 hp
    obtain ⟨k1, k2⟩ := askP_false hp
    split at q
    · cases q
    · rename_i s2 hm
      obtain ⟨k3, k4⟩ := mustP_spec hm
      split at q
      · cases q
      · rename_i z hz
        split at q
        · cases q
          exact ⟨k1.trans k3, fun m => by unfold iappendTo; simp only [if_neg (k2 (k3 m)), if_neg (k4 m), hz]⟩
        · rename_i b off
          split at q
          · rename_i cs hg
            split at q
            · rename_i hl; cases q
              obtain ⟨k5, k6⟩ := mustP_spec hl
              exact ⟨(k1.trans k3).trans k5, fun m => by unfold iappendTo; simp only [if_neg (k2 (k3 (k5 m))), if_neg (k4 (k5 m)), hz, hg, if_pos (k6 m)]⟩
            · cases q
          · rename_i cs esz hg
            split at q
            · rename_i s3 hl
              obtain ⟨k5, k6⟩ := mustP_spec hl
              split at q
              · rename_i he; cases q
                have he' := Nat.eq_of_beq_eq_true he
                exact ⟨(k1.trans k3).trans k5, fun m => by unfold iappendTo; simp only [if_neg (k2 (k3 (k5 m))), if_neg (k4 (k5 m)), hz, hg, if_pos (k6 m), if_pos he']⟩
              · rename_i he
                have he' := Nat.ne_of_beq_eq_false he
                split at q
                · rename_i hs
                  have hs' := Nat.eq_of_beq_eq_true hs
                  split at q
                  · rename_i hend; cases q
                    obtain ⟨k7, k8⟩ := askP_true hend
                    exact ⟨((k1.trans k3).trans k5).trans k7, fun m => by unfold iappendTo; simp only [if_neg (k2 (k3 (k5 (k7 m)))), if_neg (k4 (k5 (k7 m))), hz, hg, if_pos (k6 (k7 m)), if_neg he', if_pos hs', if_pos (k8 m)]⟩
                  · rename_i hend; cases q
                    obtain ⟨k7, k8⟩ := askP_false hend
                    exact ⟨((k1.trans k3).trans k5).trans k7, fun m => by unfold iappendTo; simp only [if_neg (k2 (k3 (k5 (k7 m)))), if_neg (k4 (k5 (k7 m))), hz, hg, if_pos (k6 (k7 m)), if_neg he', if_pos hs', if_neg (k8 m)]⟩
                  · cases q
                · cases q
            · cases q
          · cases q
        · cases q

theorem iappendT_spec {E : Env} {ts : List TypeId} {args : List Value} {h h' : IHeap} {v : Value} {s s' : Tell} (q : iappendT E ts args h s = some (s', v, h')) : s.le s' ∧ (s'.met → iappend E ts args h = some (v, h')) := by
  unfold iappendT at q
  split at q
  · split at q
    · rename_i hu hx
      split at q
      · rename_i h1 h2
        split at q
        · split at q
          · rename_i z hz
            split at q
            · rename_i hm
              obtain ⟨k1, k2⟩ := mustP_spec hm
              obtain ⟨k3, k4⟩ := iappendToT_spec q
              exact ⟨k1.trans k3, fun m => by simp only [iappend, hu, hx, h1, h2, hz, if_pos (k2 (k3 m))]; exact k4 m⟩
            · cases q
          · cases q
        · cases q
        · rename_i n1 n2
          split at q
          · rename_i n hn
            split at q
            · rename_i new s1 hs
              split at q
              · rename_i hm
                obtain ⟨k1, k2⟩ := isourceT_spec hs
                obtain ⟨k3, k4⟩ := mustP_spec hm
                obtain ⟨k5, k6⟩ := iappendToT_spec q
                refine ⟨(k1.trans k3).trans k5, fun m => ?_⟩
                simp only [iappend, hu, hx, h1, h2]
                simp only [hn, k2 (k3 (k5 m)), if_pos (k4 (k5 m))]; exact k6 m
              · cases q
            · cases q
          · cases q
      · cases q
    · cases q
  · cases q

theorem icopyT_spec {E : Env} {ts : List TypeId} {args : List Value} {h h' : IHeap} {v : Value} {s s' : Tell} (q : icopyT E ts args h s = some (s', v, h')) : s.le s' ∧ (s'.met → icopy E ts args h = some (v, h')) := by
  unfold icopyT at q
  split at q
  · split at q
    · rename_i hu
      split at q
      · rename_i h1 h2
        split at q
        · rename_i cs s1 hs
          obtain ⟨k1, k2⟩ := isourceT_spec hs
          split at q
          · split at q
            · rename_i hm; cases q
              obtain ⟨k3, k4⟩ := mustP_spec hm
              exact ⟨k1.trans k3, fun m => by simp only [icopy, hu, h1, h2, k2 (k3 m), if_pos (k4 m)]⟩
            · cases q
          · split at q
            · rename_i h0; cases q
              obtain ⟨k3, k4⟩ := askP_true h0
              exact ⟨k1.trans k3, fun m => by simp only [icopy, hu, h1, h2, k2 (k3 m), if_pos (k4 m)]⟩
            · rename_i h0
              obtain ⟨k3, k4⟩ := askP_false h0
              split at q
              · rename_i hm
                obtain ⟨k5, k6⟩ := mustP_spec hm
                split at q
                · rename_i hst; cases q
                  obtain ⟨k7, k8⟩ := storeAtT_spec hst
                  exact ⟨((k1.trans k3).trans k5).trans k7, fun m => by simp only [icopy, hu, h1, h2, k2 (k3 (k5 (k7 m))), if_neg (k4 (k5 (k7 m))), if_pos (k6 (k7 m)), k8 m]⟩
                · cases q
              · cases q
            · cases q
          · cases q
        · cases q
      · cases q
    · cases q
  · cases q

theorem askE_spec {key : Value} {es : List (Value × Value)} {s s' : Tell} {o : Option Value} (e : askE key es s = some (o, s')) : s.le s' ∧ (s'.met → mapGet key es = some o) := by
  unfold askE at e
  split at e
  · rename_i h; cases e; exact ⟨note_le (pop_met h) _, fun m => (note_met m).1⟩
  · rename_i h; cases e; exact ⟨note_le (pop_met h) _, fun m => (note_met m).1⟩
  · cases e
  · rename_i h
    split at e
    · rename_i hm; cases e; exact ⟨pop_met h, fun _ => hm⟩
    · cases e

theorem entryT_spec {r : Option Nat} {key : Value} {h : IHeap} {s s1 : Tell} {o : Option Value} (he : entryT r key h s = some (o, s1)) :
    s.le s1 ∧ (s1.met → ∃ i, (match r with | none => some none | some b => match h.get b with | some (.map es) => findE key es 0 | _ => none : Option (Option (Nat × Value))) = some (o.map fun v => (i, v))) := by
  unfold entryT at he
  split at he
  · cases he; exact ⟨Tell.le_refl _, fun _ => ⟨0, rfl⟩⟩
  · split at he
    · rename_i b _ es hg
      obtain ⟨k1, k2⟩ := askE_spec he
      refine ⟨k1, fun m => ?_⟩
      have := k2 m
      unfold mapGet at this
      first | simp only [hg] | skip
      split at this
      · rename_i i v hf; cases this; first | exact ⟨i, hf⟩ | exact ⟨i, by simp only [hg, hf]; rfl⟩ | exact ⟨i, by simp [hg, hf]⟩
      · rename_i hf; cases this; first | exact ⟨0, hf⟩ | exact ⟨0, by simp only [hg, hf]; rfl⟩ | exact ⟨0, by simp [hg, hf]⟩
      · cases this
    · cases he

theorem ilookupT_spec {E : Env} {t : TypeId} {x key v : Value} {ok : Bool} {h : IHeap} {s s' : Tell} (e : ilookupT E t x key ok h s = some (s', v)) : s.le s' ∧ (s'.met → ilookup E t x key ok h = some v) := by
  unfold ilookupT at e
  split at e
  · rename_i kt et r hu
    split at e
    · rename_i hk
      split at e
      · rename_i he; cases e
        obtain ⟨k1, k2⟩ := entryT_spec he
        refine ⟨k1, fun m => ?_⟩
        obtain ⟨i, hi⟩ := k2 m
        simp only [ilookup, hu, hk, if_true]
        cases r with
        | none => simp at hi
        | some b =>
          simp only at hi ⊢
          split at hi
          · rename_i hg; simp only [hg, hi, Option.map_some]
          · cases hi
      · rename_i he hz; cases e
        obtain ⟨k1, k2⟩ := entryT_spec he
        refine ⟨k1, fun m => ?_⟩
        obtain ⟨i, hi⟩ := k2 m
        simp only [ilookup, hu, hk, if_true]
        cases r with
        | none => simp only [hz]
        | some b =>
          simp only at hi ⊢
          split at hi
          · rename_i hg; simp only [hg, hi, Option.map_none, hz]
          · cases hi
      · cases e
    · cases e
  · cases e

theorem imapUpdateT_spec {E : Env} {t : TypeId} {x key v : Value} {h h' : IHeap} {s s' : Tell} (e : imapUpdateT E t x key v h s = some (s', h')) : s.le s' ∧ (s'.met → imapUpdate E t x key v h = some h') := by
  unfold imapUpdateT at e
  split at e
  · rename_i hu
    split at e
    · rename_i hk
      split at e
      · rename_i es hg
        split at e
        · rename_i hm; cases e
          obtain ⟨k1, k2⟩ := mustP_spec hm
          refine ⟨k1, fun m => ?_⟩
          have := k2 m
          simp only [imapUpdate, hu, hk, if_true, hg, mapPut]
          cases hf : findE key es 0 with
          | none => rw [hf] at this; cases this
          | some o => cases o <;> rfl
        · cases e
      · cases e
    · cases e
  · cases e

theorem ideleteT_spec {E : Env} {ts : List TypeId} {args : List Value} {h h' : IHeap} {v : Value} {s s' : Tell} (e : ideleteT E ts args h s = some (s', v, h')) : s.le s' ∧ (s'.met → idelete E ts args h = some (v, h')) := by
  unfold ideleteT at e
  split at e
  · split at e
    · rename_i hu
      split at e
      · rename_i hk
        split at e
        · rename_i es hg
          split at e
          · rename_i hm; cases e
            obtain ⟨k1, k2⟩ := mustP_spec hm
            refine ⟨k1, fun m => ?_⟩
            have := k2 m
            simp only [idelete, hu, hk, if_true, hg, mapDel]
            cases hf : findE _ es 0 with
            | none => rw [hf] at this; cases this
            | some o => cases o <;> rfl
          · cases e
        · cases e
      · cases e
    · cases e
  · cases e

theorem iconvertT_spec {E : Env} {a d : TypeId} {x v : Value} {h h' : IHeap} {s s' : Tell} (e : iconvertT E a d x h s = some (s', v, h')) : s.le s' ∧ (s'.met → iconvert E a d x h = some (v, h')) := by
  unfold iconvertT at e
  split at e
  · rename_i hu hd
    split at e
    · rename_i he
      split at e
      · rename_i cs s1 hc
        split at e
        · rename_i hv; cases e
          obtain ⟨k1, k2⟩ := cellsAtT_spec hc
          obtain ⟨k3, k4⟩ := askV_spec hv
          refine ⟨k1.trans k3, fun m => ?_⟩
          have := k4 m
          simp only [iconvert, hu, hd, he, k2 (k3 m)]
          cases hb : bytesOfVs cs with
          | none => rw [hb] at this; cases this
          | some bs => rw [hb] at this; cases this; rfl
        · cases e
      · cases e
    · cases e
  · split at e
    · rename_i hi; cases e; exact ⟨Tell.le_refl _, fun _ => hi⟩
    · cases e

theorem inextT_spec {it v : Value} {h h' : IHeap} {s s' : Tell} (e : inextT it h s = some (s', v, h')) : s.le s' ∧ (s'.met → inext it h = some (v, h')) := by
  unfold inextT at e
  split at e
  · split at e
    · rename_i hg
      split at e
      · rename_i hp; cases e
        obtain ⟨k1, k2⟩ := askP_true hp
        exact ⟨k1, fun m => by simp only [inext, hg, if_pos (k2 m)]⟩
      · rename_i hp; cases e
        obtain ⟨k1, k2⟩ := askP_false hp
        exact ⟨k1, fun m => by simp only [inext, hg, if_neg (k2 m)]⟩
      · cases e
    · cases e
  · cases e

def TSound (c : TCall) (c' : ICall) : Prop := ∀ f args s h s' v h', c f args s h = some (s', v, h') → s.le s' ∧ (s'.met → c' f args h = some (v, h'))

theorem pureT_spec {r : Option (Tell × Value)} {o : Option Value} {h h' : IHeap} {v : Value} {s s' : Tell} (e : pureT r h = some (s', v, h')) (k : ∀ s1 v1, r = some (s1, v1) → s.le s1 ∧ (s1.met → o = some v1)) : s.le s' ∧ (s'.met → pureV o h = some (v, h')) := by
  unfold pureT at e
  split at e
  · cases e
    obtain ⟨k1, k2⟩ := k _ _ rfl
    exact ⟨k1, fun m => by simp only [pureV, k2 m]⟩
  · cases e

theorem unitT_spec {r : Option (Tell × IHeap)} {o : Option IHeap} {h' : IHeap} {v : Value} {s s' : Tell} (e : unitT r = some (s', v, h')) (k : ∀ s1 h1, r = some (s1, h1) → s.le s1 ∧ (s1.met → o = some h1)) : s.le s' ∧ (s'.met → unitV o = some (v, h')) := by
  unfold unitT at e
  split at e
  · cases e
    obtain ⟨k1, k2⟩ := k _ _ rfl
    exact ⟨k1, fun m => by simp only [unitV, k2 m]⟩
  · cases e

theorem getO_spec : ∀ {tm : List Value} {t : Nat} {v : Value}, getO tm t = some v → tm.getD t undef = v
  | [], t, v, e => by cases e
  | u :: us, 0, v, e => by cases e; rfl
  | u :: us, t + 1, v, e => by
    simp only [getO] at e
    have := getO_spec e
    simpa [List.getD_eq_getElem?_getD] using this

theorem ievalO_spec {tm : List Value} {x : Operand} {v : Value} (e : ievalO tm x = some v) : ieval tm x = v := by
  unfold ievalO at e
  split at e
  · exact getO_spec e
  · cases e; rfl

theorem evalsO_spec {tm : List Value} : ∀ {xs : List Operand} {vs : List Value}, evalsO tm xs = some vs → xs.map (ieval tm) = vs
  | [], vs, e => by cases e; rfl
  | x :: xs, vs, e => by
    simp only [evalsO] at e
    split at e
    · rename_i h1 h2; cases e; rw [List.map_cons, ievalO_spec h1, evalsO_spec h2]
    · cases e

theorem partsO_spec {tm : List Value} : ∀ {xs : List (Nat × Operand)} {vs : List (Nat × Value)}, partsO tm xs = some vs → (xs.map fun p => (p.1, ieval tm p.2)) = vs
  | [], vs, e => by cases e; rfl
  | (i, x) :: xs, vs, e => by
    simp only [partsO] at e
    split at e
    · rename_i h1 h2; cases e; rw [List.map_cons, partsO_spec h2]; simp only [ievalO_spec h1]
    · cases e

theorem setO_spec : ∀ {tm : List Value} {t : Nat} {v : Value} {ws : List Value}, setO tm t v = some ws → tm.set t v = ws
  | [], t, v, ws, e => by cases e
  | u :: us, 0, v, ws, e => by cases e; rfl
  | u :: us, t + 1, v, ws, e => by
    simp only [setO] at e
    split at e
    · rename_i h1; cases e; rw [List.set_cons_succ, setO_spec h1]
    · cases e

theorem iputO_spec {tm ws : List Value} {d : Option Tmp} {v : Value} (e : iputO tm d v = some ws) : iput tm d v = ws := by
  unfold iputO at e
  split at e
  · exact setO_spec e
  · cases e; rfl

theorem iapartT_spec {args : List Value} {s s' : Tell} {h h' : IHeap} {v : Value} (e : iapartT args s h = some (s', v, h')) : s.le s' ∧ (s'.met → iapart args h = some (v, h')) := by
  unfold iapartT at e
  split at e
  · split at e
    · rename_i hb g1 g2
      split at e
      · rename_i hm; cases e
        obtain ⟨k1, k2⟩ := mustP_spec hm
        exact ⟨k1, fun m => by simp only [iapart, if_neg (Nat.ne_of_beq_eq_false hb), g1, g2, if_pos (k2 m)]⟩
      · cases e
    · cases e
  · cases e

theorem iopT_spec {E : Env} {ex : FuncId → Bool} (hex : ∀ f, ex f = true → E.ext f = true) {c : TCall} {c' : ICall} (hc : TSound c c') {tm : List Value} {o : Op} {s s' : Tell} {h h' : IHeap} {v : Value} (e : iopT E ex c tm o s h = some (s', v, h')) :
    s.le s' ∧ (s'.met → iop E c' (ieval tm) o h = some (v, h')) := by
  unfold iopT at e
  split at e
  · split at e
    · rename_i hf
      split at e
      · rename_i hg hv
        obtain ⟨k1, k2⟩ := hc _ _ _ _ _ _ _ e
        exact ⟨k1, fun m => by simp only [iop, ievalO_spec hf, hg, if_true, evalsO_spec hv]; exact k2 m⟩
      · rename_i hg hv
        split at e
        · rename_i hx
          obtain ⟨k1, k2⟩ := iapartT_spec e
          exact ⟨k1, fun m => by simp only [iop, ievalO_spec hf, hg, hex _ hx, if_true, Bool.false_eq_true, if_false, evalsO_spec hv]; exact k2 m⟩
        · cases e
      · cases e
    · cases e
  · split at e
    · rename_i hv
      obtain ⟨k1, k2⟩ := iappendT_spec e; exact ⟨k1, fun m => by simp only [iop, ibuiltin, evalsO_spec hv]; exact k2 m⟩
    · cases e
  · split at e
    · rename_i hv
      obtain ⟨k1, k2⟩ := icopyT_spec e; exact ⟨k1, fun m => by simp only [iop, ibuiltin, evalsO_spec hv]; exact k2 m⟩
    · cases e
  · split at e
    · rename_i hv
      obtain ⟨k1, k2⟩ := ideleteT_spec e; exact ⟨k1, fun m => by simp only [iop, ibuiltin, evalsO_spec hv]; exact k2 m⟩
    · cases e
  · split at e
    · rename_i hv; cases e; exact ⟨Tell.le_refl _, fun _ => by simp only [iop, ievalO_spec hv]⟩
    · cases e
  · split at e
    · rename_i hv; cases e; exact ⟨Tell.le_refl _, fun _ => by simp only [iop, ievalO_spec hv]⟩
    · cases e
  · split at e
    · rename_i hb
      obtain ⟨k1, k2⟩ := askB_spec hb
      split at e
      · rename_i hv; cases e; exact ⟨k1, fun m => by simp only [iop, k2 m, if_true, ievalO_spec hv]⟩
      · cases e
    · rename_i hb
      obtain ⟨k1, k2⟩ := askB_spec hb
      split at e
      · rename_i hv; cases e; exact ⟨k1, fun m => by simp only [iop, k2 m, Bool.false_eq_true, if_false, ievalO_spec hv]⟩
      · cases e
    · cases e
  · split at e
    · rename_i hv
      split at e
      · rename_i hn; cases e; exact ⟨Tell.le_refl _, fun _ => by simp only [iop, ievalO_spec hv, hn, if_true]⟩
      · cases e
    · cases e
  · split at e
    · rename_i hv
      split at e
      · rename_i hb; cases e; exact ⟨Tell.le_refl _, fun _ => by simp only [iop, partsO_spec hv, hb, pureV]⟩
      · cases e
    · cases e
  · split at e
    · rename_i hv
      split at e
      · rename_i hb; cases e; exact ⟨Tell.le_refl _, fun _ => by simp only [iop, partsO_spec hv, hb]⟩
      · cases e
    · cases e
  · exact pureT_spec e fun _ _ r => iloadT_spec r
  · split at e
    · rename_i hv
      obtain rfl := ievalO_spec hv
      exact unitT_spec e fun _ _ r => istoreT_spec r
    · cases e
  · exact pureT_spec e fun _ _ r => ibinT_spec r
  · exact iconvertT_spec e
  · split at e
    · cases e
    · rename_i hu hv hn; cases e
      refine ⟨Tell.le_refl _, fun _ => ?_⟩
      simp only [iop, ievalO_spec hn]
      split
      · rename_i h2; rw [hv] at h2; cases h2; exact (hu _ rfl).elim
      · rfl
      · rename_i h2; rw [hv] at h2; cases h2
    · cases e
  · split at e
    · rename_i h1 h2; cases e; exact ⟨Tell.le_refl _, fun _ => by simp only [iop, evalsO_spec h1, evalsO_spec h2]⟩
    · cases e
  · exact imakeSliceT_spec e
  · exact pureT_spec e fun _ _ r => isliceT_spec r
  · exact pureT_spec e fun _ _ r => iindexAddrT_spec r
  · exact pureT_spec e fun _ _ r => iindexT_spec r
  · split at e
    · rename_i hk
      obtain rfl := ievalO_spec hk
      exact pureT_spec e fun _ _ r => ilookupT_spec r
    · cases e
  · split at e
    · rename_i hk hv
      obtain rfl := ievalO_spec hk
      obtain rfl := ievalO_spec hv
      exact unitT_spec e fun _ _ r => imapUpdateT_spec r
    · cases e
  · split at e
    · rename_i hk hv
      obtain rfl := ievalO_spec hk
      obtain rfl := ievalO_spec hv
      exact unitT_spec e fun _ _ r => imapUpdateT_spec r
    · cases e
  · exact inextT_spec e
  · split at e
    · rename_i hx; cases e
      exact ⟨Tell.le_refl _, fun _ => iop_mono E _ c' (fun _ _ _ _ e => by cases e) _ _ _ _ hx⟩
    · cases e

theorem wantedT_spec {ops : List Oper} {tm : List Value} {o : Oper} {s s' : Tell} {b : Bool} (e : wantedT ops tm o s = some (b, s')) : s.le s' ∧ (s'.met → iwanted ops tm o = b) := by
  unfold wantedT at e
  unfold iwanted
  split at e
  · rename_i hg; cases e; exact ⟨Tell.le_refl _, fun _ => by rw [hg]⟩
  · rename_i j want hg
    rw [hg]
    simp only
    split at e
    · rename_i x hx
      split at e
      · rename_i d hd
        split at e
        · rename_i vs ht; cases e
          refine ⟨Tell.le_refl _, fun _ => ?_⟩
          simp only [iyielded, hx, hd, ht]
          rfl
        · rename_i v nt ht
          split at e
          · rename_i hb; cases e
            obtain ⟨k1, k2⟩ := askB_spec hb
            refine ⟨k1, fun m => ?_⟩
            have := k2 m
            subst this
            simp only [iyielded, hx, hd, ht]
            rename_i b0 _ _ _
            cases b0 <;> cases want <;> rfl
          · cases e
        · cases e
      · cases e
    · cases e

theorem irunT_spec {E : Env} {ex : FuncId → Bool} (hex : ∀ f, ex f = true → E.ext f = true) {c : TCall} {c' : ICall} (hc : TSound c c') (ops l : List Oper) : ∀ tm s h s' tm' h', irunT E ex c ops l tm s h = some (s', tm', h') → s.le s' ∧ (s'.met → irun E c' ops l tm h = some (tm', h')) := by
  induction l with
  | nil => intro tm s h s' tm' h' e; simp only [irunT, Option.some.injEq, Prod.mk.injEq] at e; obtain ⟨rfl, rfl, rfl⟩ := e; exact ⟨Tell.le_refl _, fun _ => rfl⟩
  | cons o rest ih =>
    intro tm s h s' tm' h' e
    simp only [irunT] at e
    split at e
    · rename_i s1 hw
      obtain ⟨k1, k2⟩ := wantedT_spec hw
      split at e
      · rename_i hok
        split at e
        · rename_i s2 v h1 ho
          obtain ⟨k3, k4⟩ := iopT_spec hex hc ho
          split at e
          · rename_i hput
            obtain rfl := iputO_spec hput
            obtain ⟨k5, k6⟩ := ih _ _ _ _ _ _ e
            exact ⟨(k1.trans k3).trans k5, fun m => by simp only [irun, k2 (k3 (k5 m)), if_true, hok, k4 (k5 m)]; exact k6 m⟩
          · cases e
        · cases e
      · cases e
    · rename_i s1 hw
      obtain ⟨k1, k2⟩ := wantedT_spec hw
      split at e
      · rename_i hput
        obtain rfl := iputO_spec hput
        obtain ⟨k5, k6⟩ := ih _ _ _ _ _ _ e
        exact ⟨k1.trans k5, fun m => by simp only [irun, k2 (k5 m), Bool.false_eq_true, if_false]; exact k6 m⟩
      · cases e
    · cases e

theorem irunDrawT_spec {E : Env} {ex : FuncId → Bool} (hex : ∀ f, ex f = true → E.ext f = true) {c : TCall} {c' : ICall} (hc : TSound c c') (ops : List Oper) (st : Nat) (l : List Oper) : ∀ j rd mu tm s h s' tm' h', irunDrawT E ex c ops st l j rd mu tm s h = some (s', tm', h') →
    s.le s' ∧ (s'.met → irunDraw E c' ops st l j rd mu tm h = some (tm', h')) := by
  induction l with
  | nil => intro j rd mu tm s h s' tm' h' e; simp only [irunDrawT, Option.some.injEq, Prod.mk.injEq] at e; obtain ⟨rfl, rfl, rfl⟩ := e; exact ⟨Tell.le_refl _, fun _ => rfl⟩
  | cons o rest ih =>
    intro j rd mu tm s h s' tm' h' e
    simp only [irunDrawT] at e
    split at e
    · rename_i s1 hw
      obtain ⟨k1, k2⟩ := wantedT_spec hw
      split at e
      · rename_i hok
        split at e
        · rename_i s2 v h1 ho
          obtain ⟨k3, k4⟩ := iopT_spec hex hc ho
          split at e
          · cases e
          rename_i hput
          obtain rfl := iputO_spec hput
          split at e
          · rename_i b hl
            split at e
            · rename_i hz
              obtain ⟨k5, k6⟩ := ih _ _ _ _ _ _ _ _ _ e
              refine ⟨(k1.trans k3).trans k5, fun m => ?_⟩
              simp only [irunDraw, k2 (k3 (k5 m)), if_true, hok, k4 (k5 m), hl]
              rw [if_pos hz]
              exact k6 m
            · cases e
          · rename_i hl
            split at e
            · rename_i hz
              obtain ⟨k5, k6⟩ := ih _ _ _ _ _ _ _ _ _ e
              refine ⟨(k1.trans k3).trans k5, fun m => ?_⟩
              simp only [irunDraw, k2 (k3 (k5 m)), if_true, hok, k4 (k5 m), hl]
              rw [if_pos (by simpa using hz)]
              exact k6 m
            · rename_i hz
              split at e
              · rename_i hb
                obtain ⟨k5, k6⟩ := ih _ _ _ _ _ _ _ _ _ e
                refine ⟨(k1.trans k3).trans k5, fun m => ?_⟩
                simp only [irunDraw, k2 (k3 (k5 m)), if_true, hok, k4 (k5 m), hl]
                rw [if_neg (by simpa using Nat.ne_of_beq_eq_false hz), if_pos hb]
                exact k6 m
              · cases e
        · cases e
      · cases e
    · rename_i s1 hw
      obtain ⟨k1, k2⟩ := wantedT_spec hw
      split at e
      · rename_i hput
        obtain rfl := iputO_spec hput
        obtain ⟨k5, k6⟩ := ih _ _ _ _ _ _ _ _ _ e
        exact ⟨k1.trans k5, fun m => by simp only [irunDraw, k2 (k5 m), Bool.false_eq_true, if_false]; exact k6 m⟩
      · cases e
    · cases e

/- the table of primitives behind a table of what is known of callees -/
noncomputable def primsOf (pr : FuncId → Option PrimD) : Prims := fun f => match pr f with
  | some g => some fun args h => match g args h with
    | some (p, v, h') => open Classical in if p then some (v, h') else none
    | none => none
  | none => none

theorem icallByT_spec {E : Env} {pr : FuncId → Option PrimD} {run : Code → List Value → Tell → IHeap → Option (Tell × IEx × List Value × IHeap)} {run' : Code → List Value → IHeap → Option (IEx × List Value × IHeap)}
    (hr : ∀ c tm s h s' x tm' h', run c tm s h = some (s', x, tm', h') → s.le s' ∧ (s'.met → run' c tm h = some (x, tm', h'))) : TSound (icallByT E pr run) (icallBy E (primsOf pr) run') := by
  intro f args s h s' v h' e
  unfold icallByT at e
  unfold icallBy primsOf
  split at e
  · rename_i g hg
    split at e
    · rename_i p v1 h1 he; cases e
      refine ⟨note_le (Tell.le_refl _) _, fun m => ?_⟩
      simp only [hg, he]
      rw [if_pos (note_met m).1]
    · cases e
  · rename_i hg
    simp only [hg]
    split at e
    · rename_i fn hf
      split at e
      · rename_i c hb
        split at e
        · rename_i s1 tm h1 hx
          obtain ⟨k1, k2⟩ := hr _ _ _ _ _ _ _ _ hx
          split at e
          · rename_i u hu; cases e
            exact ⟨k1, fun m => by simp only [hf, hb, k2 m, hu]⟩
          · cases e
        · rename_i s1 tm h1 hx
          obtain ⟨k1, k2⟩ := hr _ _ _ _ _ _ _ _ hx
          split at e
          · rename_i u hu; cases e
            exact ⟨k1, fun m => by simp only [hf, hb, k2 m, hu]⟩
          · cases e
        · cases e
      · cases e
    · cases e

theorem icodeT_spec {E : Env} {ex : FuncId → Bool} (hex : ∀ f, ex f = true → E.ext f = true) {pr : FuncId → Option PrimD} (n : Nat) : ∀ c tm s h s' x tm' h', icodeT E ex pr n c tm s h = some (s', x, tm', h') → s.le s' ∧ (s'.met → icode E (primsOf pr) n c tm h = some (x, tm', h')) := by
  induction n with
  | zero => intro c tm s h s' x tm' h' e; cases e
  | succ n ih =>
    intro c tm s h s' x tm' h' e
    have hc := icallByT_spec (E := E) (pr := pr) ih
    cases c with
    | skip => cases e; exact ⟨Tell.le_refl _, fun _ => rfl⟩
    | label l => cases e; exact ⟨Tell.le_refl _, fun _ => rfl⟩
    | exit id => cases e; exact ⟨Tell.le_refl _, fun _ => rfl⟩
    | ret => cases e; exact ⟨Tell.le_refl _, fun _ => rfl⟩
    | region id ops draw =>
      simp only [icodeT] at e
      simp only [icode]
      cases draw with
      | true =>
        simp only at e
        split at e
        · rename_i hd
          split at e
          · rename_i hx; cases e
            obtain ⟨k1, k2⟩ := irunDrawT_spec hex hc _ _ _ _ _ _ _ _ _ _ _ _ hx
            exact ⟨k1, fun m => by simp only [if_true, hd, k2 m]⟩
          · cases e
        · cases e
      | false =>
        simp only at e
        split at e
        · rename_i hx; cases e
          obtain ⟨k1, k2⟩ := irunT_spec hex hc _ _ _ _ _ _ _ _ hx
          exact ⟨k1, fun m => by simp only [Bool.false_eq_true, if_false, k2 m]⟩
        · cases e
    | seq a b =>
      simp only [icodeT] at e
      simp only [icode]
      split at e
      · rename_i s1 tm1 h1 hx
        obtain ⟨k1, k2⟩ := ih _ _ _ _ _ _ _ _ hx
        obtain ⟨k3, k4⟩ := ih _ _ _ _ _ _ _ _ e
        exact ⟨k1.trans k3, fun m => by rw [k2 (k3 m)]; exact k4 m⟩
      · rename_i hne
        obtain ⟨k1, k2⟩ := ih _ _ _ _ _ _ _ _ e
        refine ⟨k1, fun m => ?_⟩
        rw [k2 m]
        cases x with
        | normal => exact absurd e (hne _ _ _)
        | exit i => rfl
        | ret => rfl
    | cond cnd a b =>
      simp only [icodeT] at e
      simp only [icode]
      split at e
      · rename_i hb
        obtain ⟨k1, k2⟩ := askB_spec hb
        obtain ⟨k3, k4⟩ := ih _ _ _ _ _ _ _ _ e
        exact ⟨k1.trans k3, fun m => by rw [k2 (k3 m)]; exact k4 m⟩
      · rename_i hb
        obtain ⟨k1, k2⟩ := askB_spec hb
        obtain ⟨k3, k4⟩ := ih _ _ _ _ _ _ _ _ e
        exact ⟨k1.trans k3, fun m => by rw [k2 (k3 m)]; exact k4 m⟩
      · cases e
    | block id b =>
      simp only [icodeT] at e
      simp only [icode]
      split at e
      · rename_i s1 id' tm1 h1 hx
        obtain ⟨k1, k2⟩ := ih _ _ _ _ _ _ _ _ hx
        split at e
        · rename_i hb; cases e
          exact ⟨k1, fun m => by rw [k2 m]; simp only; rw [if_pos (Nat.eq_of_beq_eq_true hb)]⟩
        · rename_i hb; cases e
          exact ⟨k1, fun m => by rw [k2 m]; simp only; rw [if_neg (Nat.ne_of_beq_eq_false hb)]⟩
      · rename_i hne
        obtain ⟨k1, k2⟩ := ih _ _ _ _ _ _ _ _ e
        refine ⟨k1, fun m => ?_⟩
        rw [k2 m]
        cases x with
        | normal => rfl
        | exit i => exact absurd e (hne _ _ _ _)
        | ret => rfl
    | loop b =>
      simp only [icodeT] at e
      simp only [icode]
      split at e
      · rename_i s1 tm1 h1 hx
        obtain ⟨k1, k2⟩ := ih _ _ _ _ _ _ _ _ hx
        obtain ⟨k3, k4⟩ := ih _ _ _ _ _ _ _ _ e
        exact ⟨k1.trans k3, fun m => by rw [k2 (k3 m)]; exact k4 m⟩
      · rename_i hne
        obtain ⟨k1, k2⟩ := ih _ _ _ _ _ _ _ _ e
        refine ⟨k1, fun m => ?_⟩
        rw [k2 m]
        cases x with
        | normal => exact absurd e (hne _ _ _)
        | exit i => rfl
        | ret => rfl
    | rangeFunc f p a b => simp only [icodeT] at e; cases e
    | scope b => simp only [icodeT] at e; cases e
    | goto l => simp only [icodeT] at e; cases e
    | refuse w => simp only [icodeT] at e; cases e

theorem icallT_spec {E : Env} {ex : FuncId → Bool} (hex : ∀ f, ex f = true → E.ext f = true) {pr : FuncId → Option PrimD} {n : Nat} {f : FuncId} {args : List Value} {s s' : Tell} {h h' : IHeap} {v : Value} (e : icallT E ex pr n f args s h = some (s', v, h')) (m : s'.met) : icall E (primsOf pr) n f args h = some (v, h') :=
  (icallByT_spec (icodeT_spec hex n) _ _ _ _ _ _ _ e).2 m

end Go.Ideal
