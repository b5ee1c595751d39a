/- An ideal machine for the translated code, and that the model answers as it does: part 1. -/
import Derived.Test.YtemfjkmfbfjlaaaGreatDoorEng0
import Derived.Lib.Overlaps
import Derived.KernelRfl
import Derived.Orders
import Derived.LoopN
set_option linter.all false
/- Operations of the ideal machine, one by one (seventh part): clear, conversions, maps, iterators. -/
namespace Go.Ideal
open Go

section
variable {P : Program} {w : World}

theorem clear_sim {φ : Emb} {h h' : IHeap} (hw : h.wf) (hr : HRel φ h w) {ts : List TypeId} {l l' : List Value} {v : Value} (ty : TypeId) (hl : LRel φ l l') (ha : iclear (Env.of P) ts l h = some (v, h')) :
    ∃ v' w', (Builtin.clear_ ts.toArray ty l'.toArray).run P w = .ok v' w' ∧ VRel φ v v' ∧ Step φ h w φ h' w' := by
  have unit : VRel φ (.tuple #[]) (.tuple #[]) := .tuple' (.nil φ)
  unfold iclear at ha
  split at ha
  · rename_i t b off n cap
    obtain ⟨s', l1, rfl, hs, hl1⟩ := hl.cons_left
    rw [hl1.nil_left]
    split at ha
    · rename_i e hu
      split at ha
      · rename_i h0
        cases ha
        subst h0
        cases hs <;> exact ⟨.tuple #[], w, by simp [Builtin.clear_, und_of hu], unit, .refl hw hr⟩
      · rename_i h0
        split at ha
        · rename_i z size hz hsz
          split at ha
          · rename_i _ hst
            cases ha
            obtain ⟨_, _, _, hcl, hnt, _⟩ := zero_spec hz
            obtain ⟨z1, z2, _⟩ := (zero_rel φ hz).cells hnt
            have main : ∀ p, φ b = some p → ∃ w', (storeCells ⟨p.r, p.base + off, none⟩ (Builtin.zeroCells z.cells n).toList).run P w = .ok () w' ∧ Step φ h w φ h' w' := by
              intro p hp
              obtain ⟨w', e1, e2⟩ := storeAt_sim (P := P) hw hr hp hst (repeatL_rel z1 n) (fun u hu => z2 u (repeatL_mem hu))
              exact ⟨w', by rw [zeroCells_toList]; exact e1, e2⟩
            have h0' : (n == 0) = false := by simpa using h0
            cases n with
            | zero => exact absurd rfl h0
            | succ n =>
              cases hs with
              | slice _ _ _ _ p hp => obtain ⟨w', e1, e2⟩ := main p hp; exact ⟨.tuple #[], w', by simp [Builtin.clear_, und_of hu, zero_of hz, e1], unit, e2⟩
              | sliceGrow _ _ _ _ cap' p hp => obtain ⟨w', e1, e2⟩ := main p hp; exact ⟨.tuple #[], w', by simp [Builtin.clear_, und_of hu, zero_of hz, e1], unit, e2⟩
          · cases ha
        · cases ha
    · cases ha
  · rename_i t
    obtain ⟨s', l1, rfl, hs, hl1⟩ := hl.cons_left
    rw [hl1.nil_left]
    split at ha
    · rename_i e hu
      cases ha
      cases hs
      exact ⟨.tuple #[], w, by simp [Builtin.clear_, und_of hu], unit, .refl hw hr⟩
    · cases ha
  · cases ha

/- bytes to a string -/
theorem bytes_loop (bs : List UInt8) : ∀ (cs rs : List Value) (s : ByteArray), bytesOfVs cs = some bs → cs = rs →
    (forIn rs s fun (c : Value) (s : ByteArray) => (match c with
      | .int .u8 n => do pure PUnit.unit; pure (ForInStep.yield (s.push (UInt8.ofNat n.toNat)))
      | _ => do let a : PUnit ← stuck "bytesToString: byte expected"; pure (ForInStep.yield s) : Sem (ForInStep ByteArray))).run P w = .ok ⟨s.data ++ bs.toArray⟩ w := by
  induction bs with
  | nil =>
    intro cs rs s h e
    subst e
    cases cs with
    | nil => simp
    | cons v vs => simp only [bytesOfVs] at h; split at h <;> simp at h
  | cons b bs ih =>
    intro cs rs s h e
    subst e
    cases cs with
    | nil => simp [bytesOfVs] at h
    | cons v vs =>
      simp only [bytesOfVs] at h
      split at h
      · rename_i b' bs' hb hbs
        simp only [Option.some.injEq, List.cons.injEq] at h
        obtain ⟨rfl, rfl⟩ := h
        unfold byteOfV at hb
        split at hb
        · rename_i n
          cases hb
          have := ih vs vs (s.push (UInt8.ofNat n.toNat)) hbs rfl
          simp only [List.forIn_cons, Sem.run_bind, Sem.run_pure, Result.andThen_ok, this]
          congr 2
          apply Array.ext'
          simp
        · cases hb
      · cases h

theorem bytes_rel {φ : Emb} {cs rs : List Value} {bs : List UInt8} (h : bytesOfVs cs = some bs) (hl : LRel φ cs rs) : rs = cs := by
  induction cs generalizing rs bs with
  | nil => exact hl.nil_left
  | cons v vs ih =>
    obtain ⟨v', rs', rfl, h1, h2⟩ := hl.cons_left
    simp only [bytesOfVs] at h
    split at h
    · rename_i b bs' hb hbs
      rw [ih hbs h2]
      unfold byteOfV at hb
      split at hb
      · cases h1; rfl
      · cases hb
    · cases h

theorem convert_sim {φ : Emb} {h h' : IHeap} (hw : h.wf) (hr : HRel φ h w) {src dst : TypeId} {x x' v : Value} (hx : VRel φ x x') (ha : iconvert (Env.of P) src dst x h = some (v, h')) :
    h' = h ∧ ∃ v', (convert src dst x').run P w = .ok v' w ∧ VRel φ v v' := by
  unfold iconvert at ha
  split at ha
  · rename_i d k k' n hs hd
    cases ha
    cases hx
    exact ⟨rfl, _, by simp [convert, und_of hs, und_of hd, Conv.intToInt], .int _ _⟩
  · rename_i d s hs hd
    cases ha
    cases hx
    exact ⟨rfl, .string s, by simp [convert, und_of hs, und_of hd], .string _⟩
  · rename_i e hs hd
    split at ha
    · rename_i hu
      cases ha
      cases hx
      exact ⟨rfl, .string .empty, by simp [convert, und_of hs, und_of hd, und_of hu, Conv.bytesToString], .string _⟩
    · cases ha
  · rename_i e b off len cap hs hd
    split at ha
    · rename_i hu
      split at ha
      · rename_i cs hc
        split at ha
        · rename_i bs hb
          cases ha
          refine ⟨rfl, .string ⟨bs.toArray⟩, ?_, .string _⟩
          have hsrc : isource h 1 len (.slice (some ⟨b, off, none⟩) len cap) = some cs := by simpa [isource] using hc
          obtain ⟨rs, r1, r2, r3⟩ := source_sim (P := P) hr hx (by simp [lenV]) hsrc
          have hrs := bytes_rel hb r1
          subst hrs
          have h3 := r3 w rfl
          have main : ∀ a len' cap', x' = .slice (some a) len' cap' → len' = len → (convert src dst x').run P w = .ok (.string ⟨bs.toArray⟩) w := by
            intro a len' cap' hx' hlen
            subst hx' hlen
            simp only [Builtin.firstCells, Nat.mul_one] at h3
            have := bytes_loop (P := P) (w := w) bs rs rs ByteArray.empty hb rfl
            simp only [convert, Sem.run_bind, und_of hs, und_of hd, und_of hu, Result.andThen_ok, Conv.bytesToString, h3]
            simp only [← Array.forIn_toList]
            erw [this]
            simp
          cases hx with
          | slice _ _ _ _ p hp => exact main _ _ _ rfl rfl
          | sliceGrow _ _ _ _ cap' p hp => exact main _ _ _ rfl rfl
          | sliceEmpty _ _ a => exact main _ _ _ rfl rfl
        · cases ha
      · cases ha
    · cases ha
  · cases ha

/- maps -/
theorem bytes_eq {a b : ByteArray} (h : (a == b) = true) : b = a := by
  cases a with | mk x =>
  cases b with | mk y =>
  have h' : (x == y) = true := h
  have : x = y := by simpa using h'
  rw [this]
theorem bytes_self (a : ByteArray) : (a == a) = true := by
  cases a with | mk x =>
  show (x == x) = true
  simp
theorem sameKey_true {a b : Value} (h : sameKey a b = some true) : b = a := by
  unfold sameKey at h
  split at h
  · split at h
    · rename_i hk; simp at h; rw [hk, h]
    · cases h
  · rename_i a b; simp only [Option.some.injEq] at h; rw [bytes_eq h]
  · cases h

theorem keyT_kind {kt : TypeId} {key : Value} (h : keyT (Env.of P) kt key = true) : ∃ d, (Env.of P).und kt = some d ∧ ∀ k b, sameKey key k = some b → Instr.sameNow d key k = some b := by
  unfold keyT at h
  split at h
  · rename_i k0 k n hu
    refine ⟨_, hu, fun x b hx => ?_⟩
    cases x <;> simp_all [sameKey, Instr.sameNow]
  · rename_i s hu
    refine ⟨_, hu, fun x b hx => ?_⟩
    cases x <;> simp_all [sameKey, Instr.sameNow]
  · cases h

theorem keyT_rel {φ : Emb} {kt : TypeId} {key key' : Value} (h : keyT (Env.of P) kt key = true) (hk : VRel φ key key') : key' = key := by
  unfold keyT at h
  split at h
  · cases hk; rfl
  · cases hk; rfl
  · cases h

theorem checkKey_run {kt : TypeId} {key : Value} (h : keyT (Env.of P) kt key = true) (b : Bool) : (Instr.checkKey b 10000 kt key).run P w = .ok () w := by
  have : (10000 : Nat) = 9999 + 1 := rfl
  rw [this]
  generalize 9999 = d
  unfold keyT at h
  split at h
  · rename_i k0 k n hu; simp [Instr.checkKey, und_of hu]
  · rename_i s hu; simp [Instr.checkKey, und_of hu]
  · cases h

inductive FRel (φ : Emb) : Option (Nat × Value) → Option (Nat × Value) → Prop
  | none : FRel φ none none
  | some (i : Nat) {v v' : Value} (h : VRel φ v v') : FRel φ (some (i, v)) (some (i, v'))

theorem find_sim {φ : Emb} {d : TypeDesc} {key : Value} (hk : ∀ k b, sameKey key k = some b → Instr.sameNow d key k = some b) (es : List (Value × Value)) : ∀ (ms : List MapEntry) (i : Nat) (r : Option (Nat × Value)),
    ERel φ es ms → findE key es i = some r → ∃ r', Instr.findNow d key ms i = some r' ∧ FRel φ r r' ∧ ∀ j x, r = some (j, x) → i ≤ j ∧ ∃ m, ms[j - i]? = some m ∧ m.key = key := by
  induction es with
  | nil =>
    intro ms i r hm h
    have : ms = [] := List.eq_nil_of_length_eq_zero (by simpa using hm.1.symm)
    subst this
    simp only [findE, Option.some.injEq] at h; subst h
    exact ⟨none, rfl, .none, by simp⟩
  | cons e es ih =>
    intro ms i r hm h
    obtain ⟨k, v⟩ := e
    cases ms with
    | nil => simp [ERel] at hm
    | cons m ms =>
      obtain ⟨e1, e2⟩ := hm.2 0 (k, v) m (by simp) (by simp)
      simp only at e1 e2
      simp only [findE] at h
      cases hs : sameKey key k with
      | none => rw [hs] at h; cases h
      | some b =>
        rw [hs] at h
        have hn := hk k b hs
        simp only [Instr.findNow, e1, hn]
        cases b with
        | true =>
          simp only [Option.some.injEq] at h; subst h
          refine ⟨_, rfl, .some i e2, fun j x hj => ?_⟩
          simp only [Option.some.injEq, Prod.mk.injEq] at hj
          obtain ⟨rfl, rfl⟩ := hj
          exact ⟨Nat.le_refl _, m, by simp, by rw [e1]; exact sameKey_true hs⟩
        | false =>
          obtain ⟨r', f1, f2, f3⟩ := ih ms (i + 1) r ⟨by simpa using hm.1, fun j x y h1 h2 => hm.2 (j + 1) x y (by simpa using h1) (by simpa using h2)⟩ h
          refine ⟨r', f1, f2, fun j x hj => ?_⟩
          obtain ⟨g1, m', g2, g3⟩ := f3 j x hj
          refine ⟨by omega, m', ?_, g3⟩
          have : j - i = (j - (i + 1)) + 1 := by omega
          rw [this]; simpa using g2

theorem lookup_sim {φ : Emb} {h : IHeap} (hr : HRel φ h w) {t : TypeId} {x x' key key' v : Value} {ok : Bool} (hx : VRel φ x x') (hkey : VRel φ key key') (ha : ilookup (Env.of P) t x key ok h = some v) :
    ∃ v', (Instr.lookup t x' key' ok).run P w = .ok v' w ∧ VRel φ v v' := by
  have pair : ∀ {a a' : Value} (b : Bool), VRel φ a a' → VRel φ (.tuple #[a, .bool b]) (.tuple #[a', .bool b]) := fun b h => .tuple' (.cons h (.cons (.bool b) (.nil φ)))
  unfold ilookup at ha
  split at ha
  · rename_i kt et r hu
    split at ha
    · rename_i hkt
      have hkk := keyT_rel hkt hkey
      subst hkk
      obtain ⟨d, hd, hsame⟩ := keyT_kind hkt
      have hck : ∀ b, (Instr.checkKey b 10000 kt key').run P w = .ok () w := fun b => checkKey_run hkt b
      have hfk : ∀ (ms : List MapEntry) (fr : Option (Nat × Value)), Instr.findNow d key' ms 0 = some fr → (Instr.findKey kt key' ms).run P w = .ok fr w := fun ms fr e => by simp [Instr.findKey, und_of hd, e]
      cases hx with
      | mapNil =>
        cases hz : zeroT (Env.of P) et with
        | none => rw [hz] at ha; simp at ha
        | some z =>
          rw [hz] at ha
          simp only [Option.some.injEq] at ha
          subst ha
          have h0 := hfk [] none rfl
          cases ok with
          | true => exact ⟨.tuple #[z, .bool false], by simp [Instr.lookup, und_of hu, hck, h0, zero_of hz], pair false (zero_rel φ hz)⟩
          | false => exact ⟨z, by simp [Instr.lookup, und_of hu, hck, h0, zero_of hz], zero_rel φ hz⟩
      | map b p hp =>
        simp only at ha
        cases hg : h.get b with
        | none => rw [hg] at ha; simp at ha
        | some o =>
          rw [hg] at ha
          cases o with
          | map es =>
            simp only at ha
            cases hf : findE key' es 0 with
            | none => rw [hf] at ha; simp at ha
            | some fr =>
              rw [hf] at ha
              obtain ⟨ms, c, m1, m2⟩ := hr.obj b p _ hp hg
              obtain ⟨fr', g1, g2, _⟩ := find_sim hsame es ms.toList 0 fr m2 hf
              have hgo : (getObj p.r).run P w = .ok (.map ms c) w := by simp [getObj, Sem.run, m1]
              have h0 := hfk _ _ g1
              cases g2 with
              | none =>
                cases hz : zeroT (Env.of P) et with
                | none => rw [hz] at ha; simp at ha
                | some z =>
                  rw [hz] at ha
                  simp only [Option.some.injEq] at ha
                  subst ha
                  cases ok with
                  | true => exact ⟨.tuple #[z, .bool false], by simp [Instr.lookup, und_of hu, hgo, hck, h0, zero_of hz], pair false (zero_rel φ hz)⟩
                  | false => exact ⟨z, by simp [Instr.lookup, und_of hu, hgo, hck, h0, zero_of hz], zero_rel φ hz⟩
              | some i hvv =>
                rename_i u u' _
                simp only [Option.some.injEq] at ha
                subst ha
                cases ok with
                | true => exact ⟨.tuple #[u', .bool true], by simp [Instr.lookup, und_of hu, hgo, hck, h0], pair true hvv⟩
                | false => exact ⟨u', by simp [Instr.lookup, und_of hu, hgo, hck, h0], hvv⟩
          | _ => simp at ha
    · cases ha
  · cases ha

theorem setObj_run {r : Nat} {o o' : Obj} (ho : w.heap[r]? = some o') (hn : ∀ c e f, o' ≠ .cells c e f) : (setObj r o).run P w = .ok () { w with heap := w.heap.setIfInBounds r o } := by
  cases o' with
  | cells c e f => exact absurd rfl (hn c e f)
  | _ => simp [setObj, Sem.run, ho]

theorem setIf_other {h : Array Obj} {r k : Nat} {o : Obj} (hk : k ≠ r) : (h.setIfInBounds r o)[k]? = h[k]? := by
  rw [Array.getElem?_setIfInBounds_ne (Ne.symm hk)]

theorem setIf_self {h : Array Obj} {r : Nat} {o o' : Obj} (ho : h[r]? = some o') : (h.setIfInBounds r o)[r]? = some o := by
  rw [Array.getElem?_setIfInBounds_self_of_lt (Array.getElem?_eq_some_iff.1 ho).1]

theorem ERel.set {φ : Emb} {es : List (Value × Value)} {ms : List MapEntry} (h : ERel φ es ms) (i : Nat) {k v v' : Value} (hv : VRel φ v v') {m : MapEntry} (hm : ms[i]? = some m) (b : Nat) :
    ERel φ (es.set i (k, v)) (ms.set i { key := k, val := v', born := b }) := by
  refine ⟨by simp [h.1], fun j x y h1 h2 => ?_⟩
  rw [List.getElem?_set] at h1 h2
  split at h1
  · rename_i hj
    rw [if_pos hj] at h2
    split at h1
    · rename_i hlt
      rw [if_pos (by rw [← h.1]; exact hlt)] at h2
      cases h1; cases h2
      exact ⟨rfl, hv⟩
    · cases h1
  · rename_i hj
    rw [if_neg hj] at h2
    exact h.2 j x y h1 h2

theorem sameBits_key {kt : TypeId} {key : Value} (h : keyT (Env.of P) kt key = true) : Instr.sameBits 10000 key key = true := by
  have : (10000 : Nat) = 9999 + 1 := rfl
  rw [this]
  generalize 9999 = d
  unfold keyT at h
  split at h
  · simp [Instr.sameBits]
  · simp [Instr.sameBits, bytes_self]
  · cases h

theorem mapUpdate_sim {φ : Emb} {h h' : IHeap} (hw : h.wf) (hr : HRel φ h w) {t : TypeId} {x x' key key' v v' : Value} (hx : VRel φ x x') (hkey : VRel φ key key') (hv : VRel φ v v') (ha : imapUpdate (Env.of P) t x key v h = some h') :
    ∃ w', (Instr.mapUpdate t x' key' v').run P w = .ok () w' ∧ Step φ h w φ h' w' := by
  unfold imapUpdate at ha
  split at ha
  · rename_i kt et b hu
    split at ha
    · rename_i hkt
      have hkk := keyT_rel hkt hkey
      subst hkk
      obtain ⟨d, hd, hsame⟩ := keyT_kind hkt
      have hck : ∀ b, (Instr.checkKey b 10000 kt key').run P w = .ok () w := fun b => checkKey_run hkt b
      have hfk : ∀ (ms : List MapEntry) (fr : Option (Nat × Value)), Instr.findNow d key' ms 0 = some fr → (Instr.findKey kt key' ms).run P w = .ok fr w := fun ms fr e => by simp [Instr.findKey, und_of hd, e]
      cases hx with
      | map _ p hp =>
        cases hg : h.get b with
        | none => rw [hg] at ha; simp at ha
        | some o =>
          rw [hg] at ha
          cases o with
          | map es =>
            simp only at ha
            cases hf : findE key' es 0 with
            | none => rw [hf] at ha; simp at ha
            | some fr =>
              rw [hf] at ha
              obtain ⟨ms, c, m1, m2⟩ := hr.obj b p _ hp hg
              obtain ⟨fr', g1, g2, g3⟩ := find_sim hsame es ms.toList 0 fr m2 hf
              have hgo : (getObj p.r).run P w = .ok (.map ms c) w := by simp [getObj, Sem.run, m1]
              have hso : ∀ o, (setObj p.r o).run P w = .ok () { w with heap := w.heap.setIfInBounds p.r o } := fun o => setObj_run m1 (fun _ _ _ e => by cases e)
              have h0 := hfk _ _ g1
              have step : ∀ (es' : List (Value × Value)) (ms' : Array MapEntry) (c' : Nat), ERel φ es' ms'.toList → Step φ h w φ (h.put b (some (.map es'))) { w with heap := w.heap.setIfInBounds p.r (.map ms' c') } := by
                intro es' ms' c' he
                refine Step.write hw hr hp hg rfl (.map es') rfl (by simp) (fun k hk => setIf_other hk) ⟨ms', c', setIf_self m1, he⟩
              cases g2 with
              | none =>
                simp only [Option.some.injEq] at ha
                subst ha
                refine ⟨_, by simp [Instr.mapUpdate, und_of hu, hgo, hck, h0, hso]; rfl, step _ _ _ ?_⟩
                refine ⟨by simp [m2.1], fun j x y h1 h2 => ?_⟩
                simp only [Array.toList_push] at h2
                by_cases hj : j < es.length
                · rw [List.getElem?_append_left hj] at h1
                  rw [List.getElem?_append_left (by rw [← m2.1]; exact hj)] at h2
                  exact m2.2 j x y h1 h2
                · rw [List.getElem?_append_right (by omega)] at h1
                  rw [List.getElem?_append_right (by rw [← m2.1]; omega), ← m2.1] at h2
                  cases hje : j - es.length with
                  | zero => rw [hje] at h1 h2; simp at h1 h2; subst h1 h2; exact ⟨rfl, hv⟩
                  | succ q => rw [hje] at h1; simp at h1
              | some i hvv =>
                rename_i u u'
                simp only [Option.some.injEq] at ha
                subst ha
                obtain ⟨_, m, g4, g5⟩ := g3 i u rfl
                simp only [Nat.sub_zero] at g4
                have g4' : ms[i]? = some m := by simpa using g4
                have hi : i < ms.size := (Array.getElem?_eq_some_iff.1 g4').1
                have hkeep : (Instr.keyThatStays ((((ms[i]?).map (·.key)).getD key')) key').run P w = .ok key' w := by
                  rw [g4']
                  simp [Instr.keyThatStays, g5, sameBits_key hkt]
                refine ⟨_, by simp only [Instr.mapUpdate, Sem.run_bind, und_of hu, hgo, hck, h0, Result.andThen_ok, hkeep, hso]; rfl, step _ _ _ ?_⟩
                have hmod : (ms.modify i fun e => { e with key := key', val := v' }).toList = ms.toList.set i { key := key', val := v', born := m.born } := by
                  have hmi : ms[i] = m := by rw [Array.getElem?_eq_getElem hi] at g4'; exact Option.some.inj g4'
                  apply List.ext_getElem?
                  intro j
                  rw [List.getElem?_set]
                  simp only [Array.getElem?_toList, Array.getElem?_modify, Array.length_toList]
                  by_cases hj : i = j
                  · subst hj; simp [hi, hmi]
                  · simp [hj]
                rw [hmod]
                exact m2.set i hv (by simpa using g4') _
          | _ => simp at ha
    · cases ha
  · cases ha

theorem delete_sim {φ : Emb} {h h' : IHeap} (hw : h.wf) (hr : HRel φ h w) {ts : List TypeId} {l l' : List Value} {v : Value} (ty : TypeId) (hl : LRel φ l l') (ha : idelete (Env.of P) ts l h = some (v, h')) :
    ∃ v' w', (Builtin.delete_ ts.toArray ty l'.toArray).run P w = .ok v' w' ∧ VRel φ v v' ∧ Step φ h w φ h' w' := by
  have unit : VRel φ (.tuple #[]) (.tuple #[]) := .tuple' (.nil φ)
  unfold idelete at ha
  split at ha
  · rename_i t ts0 b key
    obtain ⟨x', l1, rfl, hx, hl1⟩ := hl.cons_left
    obtain ⟨key', l2, rfl, hkey, hl2⟩ := hl1.cons_left
    rw [hl2.nil_left]
    split at ha
    · rename_i kt et hu
      split at ha
      · rename_i hkt
        have hkk := keyT_rel hkt hkey
        subst hkk
        obtain ⟨d, hd, hsame⟩ := keyT_kind hkt
        have hck : ∀ b, (Instr.checkKey b 10000 kt key').run P w = .ok () w := fun b => checkKey_run hkt b
        have hfk : ∀ (ms : List MapEntry) (fr : Option (Nat × Value)), Instr.findNow d key' ms 0 = some fr → (Instr.findKey kt key' ms).run P w = .ok fr w := fun ms fr e => by simp [Instr.findKey, und_of hd, e]
        cases hx with
        | map _ p hp =>
          cases hg : h.get b with
          | none => rw [hg] at ha; simp at ha
          | some o =>
            rw [hg] at ha
            cases o with
            | map es =>
              simp only at ha
              cases hf : findE key' es 0 with
              | none => rw [hf] at ha; simp at ha
              | some fr =>
                rw [hf] at ha
                obtain ⟨ms, c, m1, m2⟩ := hr.obj b p _ hp hg
                obtain ⟨fr', g1, g2, g3⟩ := find_sim hsame es ms.toList 0 fr m2 hf
                have hgo : (getObj p.r).run P w = .ok (.map ms c) w := by simp [getObj, Sem.run, m1]
                have hso : ∀ o, (setObj p.r o).run P w = .ok () { w with heap := w.heap.setIfInBounds p.r o } := fun o => setObj_run m1 (fun _ _ _ e => by cases e)
                have h0 := hfk _ _ g1
                have step : ∀ (es' : List (Value × Value)) (ms' : Array MapEntry) (c' : Nat), ERel φ es' ms'.toList → Step φ h w φ (h.put b (some (.map es'))) { w with heap := w.heap.setIfInBounds p.r (.map ms' c') } := by
                  intro es' ms' c' he
                  refine Step.write hw hr hp hg rfl (.map es') rfl (by simp) (fun k hk => setIf_other hk) ⟨ms', c', setIf_self m1, he⟩
                cases g2 with
                | none =>
                  simp only [Option.some.injEq, Prod.mk.injEq] at ha
                  obtain ⟨rfl, rfl⟩ := ha
                  exact ⟨_, _, by simp [Builtin.delete_, und_of hu, hgo, hck, h0, hso]; rfl, unit, step _ _ _ m2⟩
                | some i hvv =>
                  rename_i u u'
                  simp only [Option.some.injEq, Prod.mk.injEq] at ha
                  obtain ⟨rfl, rfl⟩ := ha
                  obtain ⟨_, m, g4, _⟩ := g3 i u rfl
                  simp only [Nat.sub_zero] at g4
                  have hi : i < ms.size := by have := (List.getElem?_eq_some_iff.1 g4).1; simpa using this
                  refine ⟨_, _, by simp [Builtin.delete_, und_of hu, hgo, hck, h0, hso]; rfl, unit, step _ _ _ ?_⟩
                  have he : (ms.eraseIdxIfInBounds i).toList = ms.toList.eraseIdx i := by simp [Array.eraseIdxIfInBounds, hi]
                  rw [he]
                  refine ⟨by simp [List.length_eraseIdx, m2.1], fun j x y h1 h2 => ?_⟩
                  rw [List.getElem?_eraseIdx] at h1 h2
                  split at h1
                  · rename_i hj; rw [if_pos hj] at h2; exact m2.2 _ _ _ h1 h2
                  · rename_i hj; rw [if_neg hj] at h2; exact m2.2 _ _ _ h1 h2
            | _ => simp at ha
      · cases ha
    · cases ha
  · cases ha

/- ranging over a string -/
theorem next_sim {φ : Emb} {h h' : IHeap} (hw : h.wf) (hr : HRel φ h w) {it it' v : Value} (ty : TypeId) (hx : VRel φ it it') (ha : inext it h = some (v, h')) :
    ∃ w', (Instr.next it' true ty).run P w = .ok v w' ∧ VRel φ v v ∧ Step φ h w φ h' w' := by
  unfold inext at ha
  split at ha
  · rename_i b
    cases hg : h.get b with
    | none => rw [hg] at ha; simp at ha
    | some o =>
      rw [hg] at ha
      cases o with
      | iter s pos =>
        simp only at ha
        cases hx with
        | ptr _ _ p hp =>
          obtain ⟨hb0, m1⟩ : p.base = 0 ∧ w.heap[p.r]? = some (.stringIter s pos) := hr.obj b p _ hp hg
          have hgo : (getObj p.r).run P w = .ok (.stringIter s pos) w := by simp [getObj, Sem.run, m1]
          split at ha
          · rename_i hlt
            simp only [Option.some.injEq, Prod.mk.injEq] at ha
            obtain ⟨rfl, rfl⟩ := ha
            have hso : ∀ o, (setObj p.r o).run P w = .ok () { w with heap := w.heap.setIfInBounds p.r o } := fun o => setObj_run m1 (fun _ _ _ e => by cases e)
            refine ⟨_, by simp [Instr.next, hb0, hgo, hlt, hso, goInt]; rfl, .tuple' (.cons (.bool true) (.cons (.int _ _) (.cons (.int _ _) (.nil φ)))), ?_⟩
            exact Step.write hw hr hp hg rfl (.iter s (pos + (Utf8.decode s pos).2)) rfl (by simp) (fun k hk => setIf_other hk) ⟨hb0, setIf_self m1⟩
          · rename_i hlt
            simp only [Option.some.injEq, Prod.mk.injEq] at ha
            obtain ⟨rfl, rfl⟩ := ha
            exact ⟨w, by simp [Instr.next, hb0, hgo, hlt], .tuple' (.cons (.bool false) (.nil φ)), .refl hw hr⟩
      | _ => simp at ha
  · cases ha

end
end Go.Ideal

/- Any operation but a call of a function: what the ideal machine answers, the model answers. -/
namespace Go.Ideal
open Go

section
variable {P : Program} {w : World}

/- an operation's answer in the model -/
def Answers (P : Program) (φ : Emb) (h : IHeap) (w : World) (v : Value) (h' : IHeap) (r : Result Next) : Prop :=
  ∃ φ' v' w' nx, r = .ok nx w' ∧ (nx = .value v' ∨ (nx = .skip ∧ v' = undef)) ∧ VRel φ' v v' ∧ Step φ h w φ' h' w'

theorem Answers.value {φ : Emb} {h h' : IHeap} {v v' : Value} {w' : World} {φ' : Emb} {r : Result Next} (hr : r = .ok (.value v') w') (hv : VRel φ' v v') (hs : Step φ h w φ' h' w') : Answers P φ h w v h' r :=
  ⟨φ', v', w', .value v', hr, .inl rfl, hv, hs⟩
theorem Answers.still {φ : Emb} {h : IHeap} {v v' : Value} {r : Result Next} (hw : h.wf) (hrel : HRel φ h w) (hr : r = .ok (.value v') w) (hv : VRel φ v v') : Answers P φ h w v h r :=
  .value hr hv (.refl hw hrel)
theorem Answers.skip {φ : Emb} {h h' : IHeap} {w' : World} {φ' : Emb} {r : Result Next} (hr : r = .ok .skip w') (hs : Step φ h w φ' h' w') : Answers P φ h w undef h' r :=
  ⟨φ', undef, w', .skip, hr, .inr ⟨rfl, rfl⟩, .undef φ', hs⟩

theorem pureV_some {v : Option Value} {h h' : IHeap} {u : Value} (e : pureV v h = some (u, h')) : v = some u ∧ h' = h := by
  unfold pureV at e; split at e
  · simp only [Option.some.injEq, Prod.mk.injEq] at e; obtain ⟨rfl, rfl⟩ := e; exact ⟨rfl, rfl⟩
  · cases e
theorem unitV_some {h : Option IHeap} {h' : IHeap} {u : Value} (e : unitV h = some (u, h')) : h = some h' ∧ u = undef := by
  unfold unitV at e; split at e
  · simp only [Option.some.injEq, Prod.mk.injEq] at e; obtain ⟨rfl, rfl⟩ := e; exact ⟨rfl, rfl⟩
  · cases e

theorem iop_sim {φ : Emb} {h h' : IHeap} (hw : h.wf) (hr : HRel φ h w) (hroom : Room φ h h') (call : ICall) (ρ ρ' : Operand → Value) (o : Oper) (hρ : ∀ x ∈ o.op.operands.toList, VRel φ (ρ x) (ρ' x)) {v : Value}
    (hnc : ∀ f a t, o.op ≠ .call ⟨.value f, a, t⟩) (hi : iop (Env.of P) call ρ o.op h = some (v, h')) : Answers P φ h w v h' ((execOp ρ' o).run P w) := by
  obtain ⟨dst, op, ty, pos, after, guard⟩ := o
  simp only at hρ hnc hi
  have fresh : ∀ o, h' = h.new o → φ h.next = none := fun o e => hroom h.next (Nat.le_refl _) (by rw [e]; exact Nat.lt_succ_self _)
  cases op with
  | move x =>
    simp only [iop, Option.some.injEq, Prod.mk.injEq] at hi; obtain ⟨rfl, rfl⟩ := hi
    exact .still hw hr rfl (hρ x (by simp [Op.operands]))
  | assign x =>
    simp only [iop, Option.some.injEq, Prod.mk.injEq] at hi; obtain ⟨rfl, rfl⟩ := hi
    exact .still hw hr rfl (hρ x (by simp [Op.operands]))
  | pick c a b =>
    have hc := hρ c (by simp [Op.operands])
    have ha := hρ a (by simp [Op.operands])
    have hb := hρ b (by simp [Op.operands])
    simp only [iop] at hi
    split at hi
    · rename_i t ht
      simp only [Option.some.injEq, Prod.mk.injEq] at hi; obtain ⟨rfl, rfl⟩ := hi
      rw [ht] at hc
      generalize he : ρ' c = c' at hc
      cases hc
      cases t with
      | true => exact .still hw hr (by simp [execOp, he, asBool]) ha
      | false => exact .still hw hr (by simp [execOp, he, asBool]) hb
    · cases hi
  | alloc e =>
    simp only [iop] at hi
    split at hi
    · rename_i z hz
      simp only [Option.some.injEq, Prod.mk.injEq] at hi; obtain ⟨rfl, rfl⟩ := hi
      obtain ⟨φ', v', w', e1, e2, e3⟩ := alloc_sim hw hr (fresh _ rfl) hz
      exact .value (by simp [execOp, e1]) e2 e3
    · cases hi
  | box e x =>
    have hx := hρ x (by simp [Op.operands])
    simp only [iop] at hi
    split at hi
    · rename_i hn
      simp only [Option.some.injEq, Prod.mk.injEq] at hi; obtain ⟨rfl, rfl⟩ := hi
      obtain ⟨φ', v', w', e1, e2, e3⟩ := box_sim (P := P) hw hr (fresh _ rfl) (e := e) hx hn
      exact .value (by simp [execOp, e1]) e2 e3
    · cases hi
  | build t parts =>
    simp only [iop] at hi
    obtain ⟨hb, rfl⟩ := pureV_some hi
    have hps : PRel φ (parts.toList.map fun p => (p.1, ρ p.2)) (parts.toList.map fun p => (p.1, ρ' p.2)) := .map _ _ _ fun x hx => hρ x.2 (by simp [Op.operands]; exact ⟨x.1, by simpa using hx⟩)
    obtain ⟨v', e1, e2⟩ := build_sim (P := P) (w := w) hps hb
    have : (parts.toList.map fun p => (p.1, ρ' p.2)).toArray = parts.map fun p => (p.1, ρ' p.2) := by apply Array.ext'; simp
    rw [this] at e1
    exact .still hw hr (by simp only [execOp, Sem.run_bind, e1, Result.andThen_ok]; rfl) e2
  | buildSlice t len parts =>
    simp only [iop] at hi
    have hps : PRel φ (parts.toList.map fun p => (p.1, ρ p.2)) (parts.toList.map fun p => (p.1, ρ' p.2)) := .map _ _ _ fun x hx => hρ x.2 (by simp [Op.operands]; exact ⟨x.1, by simpa using hx⟩)
    have hf : φ h.next = none := by
      have hi' := hi
      unfold ibuildSlice at hi'
      split at hi'
      · split at hi'
        · split at hi'
          · split at hi'
            · simp only [Option.some.injEq, Prod.mk.injEq] at hi'; exact fresh _ hi'.2.symm
            · cases hi'
          · cases hi'
        · cases hi'
      · cases hi'
    obtain ⟨φ', v', w', e1, e2, e3⟩ := buildSlice_sim (P := P) hw hr hf hps hi
    have : (parts.toList.map fun p => (p.1, ρ' p.2)).toArray = parts.map fun p => (p.1, ρ' p.2) := by apply Array.ext'; simp
    rw [this] at e1
    exact .value (by simp only [execOp, Sem.run_bind, e1, Result.andThen_ok]; rfl) e2 e3
  | load t a =>
    simp only [iop] at hi
    obtain ⟨hl, rfl⟩ := pureV_some hi
    obtain ⟨v', e1, e2⟩ := load_sim hr (hρ a (by simp [Op.operands])) hl
    exact .still hw hr (by simp [execOp, e1]) e2
  | store t a x =>
    simp only [iop] at hi
    obtain ⟨hs, rfl⟩ := unitV_some hi
    obtain ⟨w', e1, e2⟩ := store_sim hw hr (hρ a (by simp [Op.operands])) (hρ x (by simp [Op.operands])) hs
    exact .skip (by simp [execOp, e1]) e2
  | nilCheck x =>
    have hx := hρ x (by simp [Op.operands])
    simp only [iop] at hi
    split at hi
    · rename_i a ha
      simp only [Option.some.injEq, Prod.mk.injEq] at hi; obtain ⟨rfl, rfl⟩ := hi
      rw [ha] at hx
      generalize he : ρ' x = x' at hx
      cases hx with
      | ptr b off p hp => exact .still hw hr (by simp [execOp, he]) (.ptr b off p hp)
    · rename_i f p q ha
      simp only [Option.some.injEq, Prod.mk.injEq] at hi; obtain ⟨rfl, rfl⟩ := hi
      rw [ha] at hx
      generalize he : ρ' x = x' at hx
      cases hx with
      | func _ xs ys us vs h1 h2 h3 h4 => exact .still hw hr (by simp [execOp, he]) (.func f _ _ _ _ h1 h2 h3 h4)
    · cases hi
  | binOp op t x y yt =>
    simp only [iop] at hi
    obtain ⟨hb, rfl⟩ := pureV_some hi
    obtain ⟨e1, e2⟩ := bin_sim (P := P) (w := w) (ox := x) (oy := y) (hρ x (by simp [Op.operands])) (hρ y (by simp [Op.operands])) hb
    exact .still hw hr (by simp only [execOp, Sem.run_bind] at e1 ⊢; simp [e1]) e2
  | unOp op t x =>
    simp only [iop] at hi
    obtain ⟨hu, rfl⟩ := pureV_some hi
    obtain ⟨e1, e2⟩ := unary_sim (P := P) (w := w) (hρ x (by simp [Op.operands])) hu
    exact .still hw hr (by simp [execOp, e1]) e2
  | convert s d x =>
    simp only [iop] at hi
    obtain ⟨rfl, v', e1, e2⟩ := convert_sim (P := P) hw hr (hρ x (by simp [Op.operands])) hi
    exact .still hw hr (by simp [execOp, e1]) e2
  | makeInterface t x =>
    have hx := hρ x (by simp [Op.operands])
    simp only [iop] at hi
    split at hi
    · cases hi
    · rename_i d hni hu
      simp only [Option.some.injEq, Prod.mk.injEq] at hi; obtain ⟨rfl, rfl⟩ := hi
      have hni' : ∀ ms, d ≠ .interface ms := fun ms e => hni ms (by rw [e])
      refine .still hw hr (v' := .iface t (ρ' x)) ?_ (.iface t _ _ hx)
      simp only [execOp, Sem.run_bind, Instr.makeInterface, und_of hu, Result.andThen_ok]
      cases d <;> first | (exact absurd rfl (hni' _)) | rfl
    · cases hi
  | makeFunc fn first captured =>
    cases fn with
    | func f =>
      simp only [iop, Option.some.injEq, Prod.mk.injEq] at hi; obtain ⟨rfl, rfl⟩ := hi
      have e1 : ∀ l : Array Operand, (l.toList.map ρ').toArray = l.map ρ' := fun l => by apply Array.ext'; simp
      refine .still hw hr (v' := .func (.func f) (first.map ρ') (captured.map ρ')) (by simp [execOp, Instr.makeFunc]) ?_
      rw [← e1, ← e1]
      exact .func' f (.map _ _ _ fun x hx => hρ x (by simp [Op.operands] at hx ⊢; exact .inl hx)) (.map _ _ _ fun x hx => hρ x (by simp [Op.operands] at hx ⊢; exact .inr hx))
    | _ => simp [iop] at hi
  | makeMap t r =>
    have mk : (hf : φ h.next = none) → Step φ h w (φ.add h.next ⟨w.heap.size, 0, 0, 0, 0⟩) (h.new (.map [])) { w with heap := w.heap.push (.map #[] 0) } := fun hf =>
      Step.new hw hr hf rfl (.map []) _ rfl ⟨#[], 0, by simp, by simp [ERel]⟩
    cases r with
    | none =>
      simp only [iop, Option.some.injEq, Prod.mk.injEq] at hi; obtain ⟨rfl, rfl⟩ := hi
      have hf := fresh _ rfl
      exact .value (v' := .map (some w.heap.size)) (by simp [execOp, Instr.makeMap]) (.map h.next _ (Emb.add_self φ _ _)) (mk hf)
    | some r =>
      have hx := hρ r (by simp [Op.operands])
      simp only [iop] at hi
      split at hi
      · rename_i k e kk n hu hn
        simp only [Option.some.injEq, Prod.mk.injEq] at hi; obtain ⟨rfl, rfl⟩ := hi
        have hf := fresh _ rfl
        rw [hn] at hx
        generalize he : ρ' r = r' at hx
        cases hx
        exact .value (v' := .map (some w.heap.size)) (by simp [execOp, Instr.makeMap, he, und_of hu, asInt, asIntOf]) (.map h.next _ (Emb.add_self φ _ _)) (mk hf)
      · cases hi
  | makeSlice t l c =>
    simp only [iop] at hi
    have hf : φ h.next = none := by
      have hi' := hi
      unfold imakeSlice at hi'
      split at hi'
      · split at hi'
        · split at hi'
          · simp only [Option.some.injEq, Prod.mk.injEq] at hi'; exact fresh _ hi'.2.symm
          · cases hi'
        · cases hi'
      · cases hi'
    obtain ⟨φ', v', w', e1, e2, e3⟩ := makeSlice_sim (P := P) hw hr hf (hρ l (by simp [Op.operands])) (hρ c (by simp [Op.operands])) hi
    exact .value (by simp [execOp, e1]) e2 e3
  | slice t x lo hi' mx =>
    simp only [iop] at hi
    obtain ⟨hs, rfl⟩ := pureV_some hi
    have ov : ∀ q : Option Operand, (∀ y ∈ q.toArray.toList, VRel φ (ρ y) (ρ' y)) → OVRel φ (q.map ρ) (q.map ρ') := by
      intro q hq
      cases q with
      | none => exact .none
      | some y => exact .some (hq y (by simp))
    obtain ⟨v', e1, e2⟩ := slice_sim hr (hρ x (by simp [Op.operands])) (ov lo fun y hy => hρ y (by simp [Op.operands] at hy ⊢; exact .inr (.inl hy)))
      (ov hi' fun y hy => hρ y (by simp [Op.operands] at hy ⊢; exact .inr (.inr (.inl hy)))) (ov mx fun y hy => hρ y (by simp [Op.operands] at hy ⊢; exact .inr (.inr (.inr hy)))) hs
    exact .still hw hr (by simp [execOp, e1]) e2
  | fieldAddr s x f =>
    simp only [iop] at hi
    obtain ⟨hs, rfl⟩ := pureV_some hi
    obtain ⟨v', e1, e2⟩ := fieldAddr_sim (P := P) (w := w) (hρ x (by simp [Op.operands])) hs
    exact .still hw hr (by simp [execOp, e1]) e2
  | field s x f =>
    simp only [iop] at hi
    obtain ⟨hs, rfl⟩ := pureV_some hi
    obtain ⟨v', e1, e2⟩ := field_sim (P := P) (w := w) (hρ x (by simp [Op.operands])) hs
    exact .still hw hr (by simp [execOp, e1]) e2
  | indexAddr t x ix =>
    simp only [iop] at hi
    obtain ⟨hs, rfl⟩ := pureV_some hi
    obtain ⟨v', e1, e2⟩ := indexAddr_sim (P := P) (w := w) (hρ x (by simp [Op.operands])) (hρ ix (by simp [Op.operands])) hs
    exact .still hw hr (by simp [execOp, e1]) e2
  | index t x ix =>
    simp only [iop] at hi
    obtain ⟨hs, rfl⟩ := pureV_some hi
    obtain ⟨v', e1, e2⟩ := index_sim (P := P) (w := w) (hρ x (by simp [Op.operands])) (hρ ix (by simp [Op.operands])) hs
    exact .still hw hr (by simp [execOp, e1]) e2
  | lookup t x ix ok =>
    simp only [iop] at hi
    obtain ⟨hs, rfl⟩ := pureV_some hi
    obtain ⟨v', e1, e2⟩ := lookup_sim hr (hρ x (by simp [Op.operands])) (hρ ix (by simp [Op.operands])) hs
    exact .still hw hr (by simp [execOp, e1]) e2
  | mapUpdate t m k x =>
    simp only [iop] at hi
    obtain ⟨hs, rfl⟩ := unitV_some hi
    obtain ⟨w', e1, e2⟩ := mapUpdate_sim hw hr (hρ m (by simp [Op.operands])) (hρ k (by simp [Op.operands])) (hρ x (by simp [Op.operands])) hs
    exact .skip (by simp [execOp, e1]) e2
  | insert t m k x =>
    simp only [iop] at hi
    obtain ⟨hs, rfl⟩ := unitV_some hi
    obtain ⟨w', e1, e2⟩ := mapUpdate_sim hw hr (hρ m (by simp [Op.operands])) (hρ k (by simp [Op.operands])) (hρ x (by simp [Op.operands])) hs
    exact .skip (by simp [execOp, e1]) e2
  | range t x =>
    have hx := hρ x (by simp [Op.operands])
    simp only [iop] at hi
    split at hi
    · rename_i s hu hs
      simp only [Option.some.injEq, Prod.mk.injEq] at hi; obtain ⟨rfl, rfl⟩ := hi
      have hf := fresh _ rfl
      rw [hs] at hx
      generalize he : ρ' x = x' at hx
      cases hx
      exact .value (v' := .pointer (some ⟨w.heap.size, 0, none⟩)) (w' := { w with heap := w.heap.push (.stringIter s 0) }) (by simp [execOp, Instr.range, he, und_of hu]) (.ptr h.next 0 ⟨w.heap.size, 0, 0, 0, 0⟩ (Emb.add_self φ _ _))
        (Step.new hw hr hf rfl (.iter s 0) _ rfl ⟨rfl, by simp⟩)
    · cases hi
  | next it isS =>
    cases isS with
    | true =>
      simp only [iop] at hi
      obtain ⟨w', e1, e2, e3⟩ := next_sim (P := P) hw hr ty (hρ it (by simp [Op.operands])) hi
      refine .value (by simp [execOp, e1]; rfl) ?_ e3
      exact e2
    | false => simp [iop] at hi
  | typeAssert x xt at' ok =>
    simp only [iop] at hi
    obtain ⟨hs, rfl⟩ := pureV_some hi
    obtain ⟨v', e1, e2⟩ := typeAssert_sim (P := P) (w := w) (xt := xt) (hρ x (by simp [Op.operands])) hs
    exact .still hw hr (by simp [execOp, e1]) e2
  | extract t ix =>
    have hx := hρ t (by simp [Op.operands])
    simp only [iop] at hi
    split at hi
    · rename_i vs hvs
      split at hi
      · rename_i u hu
        simp only [Option.some.injEq, Prod.mk.injEq] at hi; obtain ⟨rfl, rfl⟩ := hi
        rw [hvs] at hx
        generalize he : ρ' t = t' at hx
        cases hx with
        | tuple xs ys h1 h2 =>
          obtain ⟨u', e1, e2⟩ := (LRel.ofArray h1 h2).get hu
          have e1' : ys[ix]? = some u' := by simpa using e1
          exact .still hw hr (by simp [execOp, he, Instr.extract, e1']) e2
      · cases hi
    · cases hi
  | call c =>
    obtain ⟨callee, args, ts⟩ := c
    cases callee with
    | value f => exact absurd rfl (hnc f args ts)
    | invoke r m => simp [iop] at hi
    | builtin b =>
      simp only [iop] at hi
      have hl : LRel φ (args.toList.map ρ) (args.toList.map ρ') := .map _ _ _ fun x hx => hρ x (by simp [Op.operands, Call.operands] at hx ⊢; exact hx)
      have ea : (args.toList.map ρ').toArray = args.map ρ' := by apply Array.ext'; simp
      have et : ts.toList.toArray = ts := by simp
      unfold ibuiltin at hi
      split at hi
      · obtain ⟨φ', v', w', e1, e2, e3⟩ := append_sim (P := P) hw hr hroom ty hl hi
        rw [ea, et] at e1
        exact .value (by simp [execOp, resolve, invoke, builtin, e1]) e2 e3
      · obtain ⟨v', w', e1, e2, e3⟩ := copy_sim (P := P) hw hr ty hl hi
        rw [ea, et] at e1
        exact .value (by simp [execOp, resolve, invoke, builtin, e1]) e2 e3
      · obtain ⟨v', w', e1, e2, e3⟩ := clear_sim (P := P) hw hr ty hl hi
        rw [ea, et] at e1
        exact .value (by simp [execOp, resolve, invoke, builtin, e1]) e2 e3
      · obtain ⟨v', w', e1, e2, e3⟩ := delete_sim (P := P) hw hr ty hl hi
        rw [ea, et] at e1
        exact .value (by simp [execOp, resolve, invoke, builtin, e1]) e2 e3
      · split at hi
        · rename_i u hu
          simp only [Option.some.injEq, Prod.mk.injEq] at hi; obtain ⟨rfl, rfl⟩ := hi
          obtain ⟨e1, e2⟩ := len_sim hr hl hu ty
          rw [ea, et] at e1
          exact .still hw hr (by simp [execOp, resolve, invoke, builtin, e1]) e2
        · cases hi
      · split at hi
        · rename_i u hu
          simp only [Option.some.injEq, Prod.mk.injEq] at hi; obtain ⟨rfl, rfl⟩ := hi
          obtain ⟨e1, e2⟩ := cap_sim hr hl hu ty
          rw [ea, et] at e1
          exact .still hw hr (by simp [execOp, resolve, invoke, builtin, e1]) e2
        · cases hi
      · split at hi
        · rename_i u hu
          simp only [Option.some.injEq, Prod.mk.injEq] at hi; obtain ⟨rfl, rfl⟩ := hi
          obtain ⟨e1, e2⟩ := min_sim (P := P) (w := w) hl hu ts ty
          rw [ea] at e1
          exact .still hw hr (by simp [execOp, resolve, invoke, builtin, e1]) e2
        · cases hi
      · split at hi
        · rename_i u hu
          simp only [Option.some.injEq, Prod.mk.injEq] at hi; obtain ⟨rfl, rfl⟩ := hi
          obtain ⟨e1, e2⟩ := max_sim (P := P) (w := w) hl hu ts ty
          rw [ea] at e1
          exact .still hw hr (by simp [execOp, resolve, invoke, builtin, e1]) e2
        · cases hi
      · cases hi
  | _ => simp [iop] at hi

/- operations that look at no memory -/
theorem iop_pure {E : Env} {call : ICall} {ρ : Operand → Value} {op : Op} {h h' : IHeap} {v : Value} (hp : pureOp E op = true) (hi : iop E call ρ op h = some (v, h')) : h' = h ∧ ∀ h2, iop E call ρ op h2 = some (v, h2) := by
  cases op with
  | convert s d x =>
    simp only [pureOp] at hp
    simp only [iop] at hi ⊢
    split at hp
    · rename_i k hd
      unfold iconvert at hi ⊢
      split at hi
      · rename_i k' k2 n hs hd' hx
        simp only [Option.some.injEq, Prod.mk.injEq] at hi; obtain ⟨rfl, rfl⟩ := hi
        exact ⟨rfl, fun h2 => by simp [hs, hd', hx]⟩
      · rename_i hs hd' hx; rw [hd] at hd'; cases hd'
      · rename_i hs hd' hx; rw [hd] at hd'; cases hd'
      · rename_i hs hd' hx; rw [hd] at hd'; cases hd'
      · cases hi
    · cases hp
  | move x => simp only [iop, Option.some.injEq, Prod.mk.injEq] at hi ⊢; exact ⟨hi.2.symm, fun h2 => ⟨hi.1, trivial⟩⟩
  | assign x => simp only [iop, Option.some.injEq, Prod.mk.injEq] at hi ⊢; exact ⟨hi.2.symm, fun h2 => ⟨hi.1, trivial⟩⟩
  | pick c a b =>
    simp only [iop] at hi ⊢
    split at hi
    · simp only [Option.some.injEq, Prod.mk.injEq] at hi; obtain ⟨rfl, rfl⟩ := hi; exact ⟨rfl, fun h2 => by simp [*]⟩
    · cases hi
  | nilCheck x =>
    simp only [iop] at hi ⊢
    split at hi
    · simp only [Option.some.injEq, Prod.mk.injEq] at hi; obtain ⟨rfl, rfl⟩ := hi; exact ⟨rfl, fun h2 => by simp [*]⟩
    · simp only [Option.some.injEq, Prod.mk.injEq] at hi; obtain ⟨rfl, rfl⟩ := hi; exact ⟨rfl, fun h2 => by simp [*]⟩
    · cases hi
  | makeInterface t x =>
    simp only [iop] at hi ⊢
    split at hi
    · cases hi
    · simp only [Option.some.injEq, Prod.mk.injEq] at hi; obtain ⟨rfl, rfl⟩ := hi; exact ⟨rfl, fun h2 => rfl⟩
    · cases hi
  | makeFunc fn a b =>
    cases fn with
    | func f => simp only [iop, Option.some.injEq, Prod.mk.injEq] at hi ⊢; exact ⟨hi.2.symm, fun h2 => ⟨hi.1, trivial⟩⟩
    | _ => simp [iop] at hi
  | extract t i =>
    simp only [iop] at hi ⊢
    split at hi
    · split at hi
      · simp only [Option.some.injEq, Prod.mk.injEq] at hi; obtain ⟨rfl, rfl⟩ := hi; exact ⟨rfl, fun h2 => by simp [*]⟩
      · cases hi
    · cases hi
  | build t p => simp only [iop] at hi ⊢; obtain ⟨h1, h2⟩ := pureV_some hi; exact ⟨h2, fun h3 => by rw [h1]; rfl⟩
  | binOp op t x y yt => simp only [iop] at hi ⊢; obtain ⟨h1, h2⟩ := pureV_some hi; exact ⟨h2, fun h3 => by rw [h1]; rfl⟩
  | unOp op t x => simp only [iop] at hi ⊢; obtain ⟨h1, h2⟩ := pureV_some hi; exact ⟨h2, fun h3 => by rw [h1]; rfl⟩
  | fieldAddr s x f => simp only [iop] at hi ⊢; obtain ⟨h1, h2⟩ := pureV_some hi; exact ⟨h2, fun h3 => by rw [h1]; rfl⟩
  | field s x f => simp only [iop] at hi ⊢; obtain ⟨h1, h2⟩ := pureV_some hi; exact ⟨h2, fun h3 => by rw [h1]; rfl⟩
  | indexAddr t x i => simp only [iop] at hi ⊢; obtain ⟨h1, h2⟩ := pureV_some hi; exact ⟨h2, fun h3 => by rw [h1]; rfl⟩
  | index t x i => simp only [iop] at hi ⊢; obtain ⟨h1, h2⟩ := pureV_some hi; exact ⟨h2, fun h3 => by rw [h1]; rfl⟩
  | typeAssert x xt a ok => simp only [iop] at hi ⊢; obtain ⟨h1, h2⟩ := pureV_some hi; exact ⟨h2, fun h3 => by rw [h1]; rfl⟩
  | call c =>
    obtain ⟨callee, args, ts⟩ := c
    cases callee with
    | value f => simp [pureOp] at hp
    | invoke r m => simp [pureOp] at hp
    | builtin b =>
      cases b with
      | min =>
        simp only [iop, ibuiltin] at hi ⊢
        split at hi
        · rename_i u hu; simp only [Option.some.injEq, Prod.mk.injEq] at hi; obtain ⟨rfl, rfl⟩ := hi; exact ⟨rfl, fun h2 => rfl⟩
        · cases hi
      | max =>
        simp only [iop, ibuiltin] at hi ⊢
        split at hi
        · rename_i u hu; simp only [Option.some.injEq, Prod.mk.injEq] at hi; obtain ⟨rfl, rfl⟩ := hi; exact ⟨rfl, fun h2 => rfl⟩
        · cases hi
      | len =>
        simp only [iop, ibuiltin] at hi ⊢
        have same : ∀ h2, ilenB E ts.toList (args.toList.map ρ) h2 = ilenB E ts.toList (args.toList.map ρ) h := by
          intro h2
          simp only [pureOp] at hp
          unfold ilenB
          split at hp
          · rename_i t rest ht
            rw [ht]
            cases hargs : args.toList.map ρ with
            | nil => rfl
            | cons x xs =>
              simp only
              split at hp
              · rename_i e hu; rw [hu]; cases x <;> rfl
              · rename_i hu; rw [hu]; cases x <;> rfl
              · rename_i n e hu; rw [hu]
              · cases hp
          · cases hp
        split at hi
        · rename_i u hu; simp only [Option.some.injEq, Prod.mk.injEq] at hi; obtain ⟨rfl, rfl⟩ := hi; exact ⟨rfl, fun h2 => by rw [same h2, hu]⟩
        · cases hi
      | _ => simp [pureOp] at hp
  | _ => simp [pureOp] at hp

end
end Go.Ideal

/- Regions, code and calls: what the ideal machine answers, the model's machine answers, whatever its tape. First part: operations with calls, regions in the order of the text. -/
namespace Go.Ideal
open Go

/- a call keeps what the ideal machine says -/
def CallSim (P : Program) (call : ICall) : Prop :=
  ∀ f args h v h', call f args h = some (v, h') → ∀ (φ : Emb) (w : World) (args' : List Value), h.wf → HRel φ h w → Room φ h h' → LRel φ args args' →
    Calls P f args'.toArray w fun e w' => ∃ φ' v', e = .returned v' ∧ VRel φ' v v' ∧ Step φ h w φ' h' w'

/- a frame of the ideal machine and the machine's -/
structure FRelA (φ : Emb) (tm : List Value) (h : IHeap) (a : Act) (w : World) : Prop where
  defers : a.defers = []
  tmps : LRel φ tm a.tmps.toList
  heap : HRel φ h w
  wf : h.wf

section
variable {P : Program} {w : World}

theorem tmp_rel {φ : Emb} {tm : List Value} {a : Act} (h : LRel φ tm a.tmps.toList) (t : Nat) : VRel φ (tm.getD t undef) (a.tmps.getD t undef) := by
  have e : a.tmps.getD t undef = a.tmps.toList.getD t undef := by simp [Array.getD_eq_getD_getElem?, List.getD_eq_getElem?_getD]
  rw [e, List.getD_eq_getElem?_getD, List.getD_eq_getElem?_getD]
  cases h1 : tm[t]? with
  | some v => obtain ⟨v', h2, h3⟩ := h.get h1; rw [h2]; exact h3
  | none =>
    have : a.tmps.toList[t]? = none := by rw [List.getElem?_eq_none_iff] at h1 ⊢; rw [← h.1]; exact h1
    rw [this]; exact .undef φ

theorem operand_rel {φ : Emb} {tm : List Value} {a : Act} (h : LRel φ tm a.tmps.toList) {x : Operand} (hx : constOK x = true) : VRel φ (ieval tm x) (a.eval x) := by
  cases x with
  | tmp t => exact tmp_rel h t
  | const v => exact .of_clean φ _ v hx
  | global g => cases hx
  | func f => exact .func f _ _ _ _ rfl (fun i v v' e => by simp at e) rfl (fun i v v' e => by simp at e)

theorem operands_rel {φ : Emb} {tm : List Value} {a : Act} (h : LRel φ tm a.tmps.toList) {o : Op} (ho : operOK o = true) : ∀ x ∈ o.operands.toList, VRel φ (ieval tm x) (a.eval x) :=
  fun x hx => operand_rel h (List.all_eq_true.1 ho x hx)

theorem put_rel {φ : Emb} {tm : List Value} {a : Act} (h : LRel φ tm a.tmps.toList) (d : Option Tmp) {v v' : Value} (hv : VRel φ v v') : LRel φ (iput tm d v) (a.put d v').tmps.toList := by
  cases d with
  | none => exact h
  | some d => simpa [iput, Act.put] using h.set d hv

theorem put_defers (a : Act) (d : Option Tmp) (v : Value) : (a.put d v).defers = a.defers := by cases d <;> rfl

theorem bool_rel {φ : Emb} {v v' : Value} (h : VRel φ v v') (b : Bool) : v' = .bool b ↔ v = .bool b := by
  cases h <;> simp

theorem yielded_rel {φ : Emb} {tm : List Value} {a : Act} (h : LRel φ tm a.tmps.toList) (ops : Array Oper) (j : Nat) : yielded ops a.tmps j = iyielded ops.toList tm j := by
  unfold yielded iyielded
  have e : ops.toList[j]? = ops[j]? := by simp
  rw [e]
  cases ops[j]? with
  | none => rfl
  | some o =>
    simp only [Option.bind_some]
    cases o.dst with
    | none => rfl
    | some d =>
      simp only [Option.bind_some]
      have e2 : a.tmps[d]? = a.tmps.toList[d]? := by simp
      rw [e2]
      cases h1 : tm[d]? with
      | none =>
        have : a.tmps.toList[d]? = none := by rw [List.getElem?_eq_none_iff] at h1 ⊢; rw [← h.1]; exact h1
        rw [this]
      | some v =>
        obtain ⟨v', h2, h3⟩ := h.get h1
        rw [h2]
        cases h3 <;> rfl

theorem wanted_rel {φ : Emb} {tm : List Value} {a : Act} (h : LRel φ tm a.tmps.toList) (ops : Array Oper) (o : Oper) : Region.wanted o (yielded ops a.tmps) = iwanted ops.toList tm o := by
  unfold Region.wanted iwanted
  split
  · rename_i hg; rw [hg]
  · rename_i j want hg; rw [hg]; simp only [yielded_rel h]

/- one operation, calls among them -/
theorem overlaps_found {fn : Func} (hb : overlapsB P fn = true) : fn.body.isNone = true ∧ (fn.name == "runtime.NumGoroutine") = false ∧ Extern.findNext fn = none ∧
    ∃ t e n, Extern.find fn = some (Extern.SlicesOverlaps.overlaps #[t, t] fn.resultTypes) ∧ P.underlying t = some (.slice e) ∧ ∀ w, (Go.sizeOf e).run P w = .ok n w := by
  simp only [overlapsB, Bool.and_eq_true, beq_iff_eq, Bool.not_eq_true', Option.isNone_iff_eq_none] at hb
  obtain ⟨⟨⟨⟨⟨⟨⟨h1, h2⟩, h3⟩, h4⟩, h5⟩, h6⟩, h7⟩, h8⟩ := hb
  refine ⟨by rw [h1]; rfl, by simpa using h2, h4, ?_⟩
  have g1 : Extern.allGenericRows.lookup "slices.overlaps" = none := by kernel_rfl
  have g2 : Extern.allTypedRows.lookup "slices.overlaps" = some Extern.SlicesOverlaps.overlaps := by kernel_rfl
  split at h8
  · rename_i t t' hp
    simp only [Bool.and_eq_true, beq_iff_eq] at h8
    obtain ⟨rfl, h9⟩ := h8
    split at h9
    · rename_i e hu
      obtain ⟨i, hi⟩ := Option.isSome_iff_exists.1 h9
      have hpar : fn.params = #[t, t] := by apply Array.ext'; simpa using hp
      refine ⟨t, e, i.size, ?_, hu, fun w => size_of (by simp [szT, Env.of, hi])⟩
      simp only [Extern.find, h5, h6, h7, h3, g1, g2, hpar]
      rfl
    · cases h9
  · cases h8

theorem run_overlaps_empty (w : World) (tS tR e : TypeId) (ht : P.underlying tS = some (.slice e)) (size : Nat) (hz : ∀ w, (Go.sizeOf e).run P w = .ok size w) (a b : Addr) (la ca lb cb : Nat) (h0 : la = 0 ∨ lb = 0 ∨ size = 0) (R : Array TypeId) :
    (Extern.SlicesOverlaps.overlaps #[tS, tS] R #[.slice (some a) la ca, .slice (some b) lb cb]).run P w = .ok (.bool false) w := by
  change Sem.run P (α := Value) (do
    let some t := (#[tS, tS] : Array TypeId)[0]? | stuck "slices.overlaps: no parameter types"
    let .slice elem ← underlying t | stuck "slices.overlaps: slice type expected"
    let size ← sizeOf elem
    match (some a : Option Addr), (some b : Option Addr) with
    | some a, some b =>
      if la = 0 ∨ lb = 0 ∨ size = 0 then pure (Value.bool false)
      else if a.block != b.block && (← frozen a) && (← frozen b) then unsupported .addressObserved
      else do
        if a.block != b.block then do
          noView a; noView b
          if ← mayBeOne a b then return Value.bool ((← choose (.extern "sameAddr.stringBytes" 2)) == 1)
        pure (Value.bool (a.block == b.block && a.off < b.off + lb * size && b.off < a.off + la * size))
    | _, _ => pure (Value.bool false)) w = _
  simp [run_underlying ht, hz, h0]

theorem apart_sim {φ : Emb} {h h' : IHeap} (hr : HRel φ h w) {g : FuncId} (hext : (Env.of P).ext g = true) {args args' : List Value} (hl : LRel φ args args') {v : Value} (ha : iapart args h = some (v, h')) :
    h' = h ∧ v = .bool false ∧ (callFunc g args'.toArray).run P w = .ok (.value (.bool false)) w := by
  simp only [Env.of] at hext
  split at hext
  · rename_i fn hfn
    obtain ⟨h1, h2, h3, t, e, n, h4, h5, h6⟩ := overlaps_found hext
    unfold iapart at ha
    split at ha
    · rename_i b off len cap b' off' len' cap'
      split at ha
      · cases ha
      · rename_i hne
        split at ha
        · rename_i c1 e1 c2 e2 g1 g2
          split at ha
          · rename_i hlen
            cases ha
            refine ⟨rfl, rfl, ?_⟩
            obtain ⟨x, l1, rfl, hx, hl1⟩ := hl.cons_left
            obtain ⟨y, l2, rfl, hy, hl2⟩ := hl1.cons_left
            obtain rfl := hl2.nil_left
            have run : ∀ r, (Extern.SlicesOverlaps.overlaps #[t, t] fn.resultTypes #[x, y]).run P w = .ok r w → (callFunc g [x, y].toArray).run P w = .ok (.value r) w := by
              intro r hrun
              rw [run_callFunc_extern hfn h2 h1 h3 h4]
              simp only [hrun]
              rfl
            refine run _ ?_
            have both : ∀ (p p' : Pos) (o o' l c l' c' : Nat), φ b = some p → φ b' = some p' → (Extern.SlicesOverlaps.overlaps #[t, t] fn.resultTypes #[.slice (some ⟨p.r, o, none⟩) l c, .slice (some ⟨p'.r, o', none⟩) l' c']).run P w = .ok (.bool false) w := by
              intro p p' o o' l c l' c' hp hp'
              obtain ⟨r1, el1, q1, q2, q3, q4, q5, _⟩ := hr.obj b p _ hp g1
              obtain ⟨r2, el2, u1, u2, u3, u4, u5, _⟩ := hr.obj b' p' _ hp' g2
              have hrne : p.r ≠ p'.r := fun er => hne (hr.inj b b' p p' _ hp hp' g1 rfl (IHeap.live_of g2) er)
              by_cases h0 : l = 0 ∨ l' = 0 ∨ n = 0
              · exact run_overlaps_empty w t t e h5 n h6 _ _ _ _ _ _ h0 _
              · have := Lib.run_overlaps_apart (P := P) w t t e h5 n h6 ⟨p.r, o, none⟩ ⟨p'.r, o', none⟩ l c l' c' hrne el1 el2 r1.size r2.size (by simp [World.shape?, q1]) (by simp [World.shape?, u1]) (by omega)
                  ((hr.obj b p _ hp g1).cold rfl _ rfl) ((hr.obj b p _ hp g1).cold rfl _ rfl)
                rw [← this]
                rfl
            cases hx with
            | slice _ _ _ _ p hp => cases hy with
              | slice _ _ _ _ p' hp' => exact both p p' _ _ _ _ _ _ hp hp'
              | sliceGrow _ _ _ _ _ p' hp' => exact both p p' _ _ _ _ _ _ hp hp'
              | sliceEmpty _ _ a => exact run_overlaps_empty w t t e h5 n h6 _ _ _ _ _ _ (.inr (.inl rfl)) _
            | sliceGrow _ _ _ _ _ p hp => cases hy with
              | slice _ _ _ _ p' hp' => exact both p p' _ _ _ _ _ _ hp hp'
              | sliceGrow _ _ _ _ _ p' hp' => exact both p p' _ _ _ _ _ _ hp hp'
              | sliceEmpty _ _ a => exact run_overlaps_empty w t t e h5 n h6 _ _ _ _ _ _ (.inr (.inl rfl)) _
            | sliceEmpty _ _ a => cases hy with
              | slice _ _ _ _ p' hp' => exact run_overlaps_empty w t t e h5 n h6 _ _ _ _ _ _ (.inl rfl) _
              | sliceGrow _ _ _ _ _ p' hp' => exact run_overlaps_empty w t t e h5 n h6 _ _ _ _ _ _ (.inl rfl) _
              | sliceEmpty _ _ a => exact run_overlaps_empty w t t e h5 n h6 _ _ _ _ _ _ (.inl rfl) _
          · cases ha
        · cases ha
    · cases ha
  · cases hext

theorem apart_same {args : List Value} {h h' : IHeap} {v : Value} (ha : iapart args h = some (v, h')) : h' = h := by
  unfold iapart at ha
  split at ha
  · split at ha
    · cases ha
    · split at ha
      · split at ha
        · cases ha; rfl
        · cases ha
      · cases ha
  · cases ha

theorem oper_sim {call : ICall} (hcall : CallSim P call) {φ : Emb} {h h' : IHeap} {a : Act} {o : Oper} {ρ : Operand → Value} (hw : h.wf) (hr : HRel φ h w) (hroom : Room φ h h')
    (hρ : ∀ x ∈ o.op.operands.toList, VRel φ (ρ x) (a.eval x)) {v : Value} (hi : iop (Env.of P) call ρ o.op h = some (v, h')) {K : Act → World → Prop} {Q : Exit → Act → World → Prop}
    (hK : ∀ φ' v' w', VRel φ' v v' → Step φ h w φ' h' w' → K (a.put o.dst v') w') : o.wp P a w K Q := by
  by_cases hc : ∃ f args t, o.op = .call ⟨.value f, args, t⟩
  · obtain ⟨f, args, t, ho⟩ := hc
    rw [ho] at hi hρ
    simp only [iop] at hi
    have hf := hρ f (by simp [Op.operands, Call.operands])
    have hargs : LRel φ (args.toList.map ρ) (args.toList.map a.eval) := .map _ _ _ fun x hx => hρ x (by simp [Op.operands, Call.operands] at hx ⊢; exact .inr hx)
    cases hfv : ρ f with
    | func g first captured =>
      rw [hfv] at hi hf
      cases g with
      | func g =>
        simp only at hi
        split at hi
        · rename_i hgo
          generalize he : a.eval f = f' at hf
          cases hf with
          | func _ xs ys us vs h1 h2 h3 h4 =>
            have hl : LRel φ (first.toList ++ (args.toList.map ρ) ++ captured.toList) (ys.toList ++ (args.toList.map a.eval) ++ vs.toList) := ((LRel.ofArray h1 h2).append hargs).append (.ofArray h3 h4)
            have hcalls := hcall g _ h v h' hi φ w _ hw hr hroom hl
            have harr : (ys.toList ++ (args.toList.map a.eval) ++ vs.toList).toArray = ys ++ args.map a.eval ++ vs := by apply Array.ext'; simp
            rw [harr] at hcalls
            have hrun : (execOp a.eval o).run P w = .ok (.enter g (ys ++ args.map a.eval ++ vs)) w := by
              simp only [execOp, ho]
              simp only [resolve, he, Deferred.ofValue, pure_bind, invoke, callFunc]
              unfold goesOn at hgo
              cases hfn : P.funcs[g]? with
              | none => simp [Env.of, hfn] at hgo
              | some fn =>
                simp only [Env.of, hfn, Bool.and_eq_true, Bool.not_eq_true', beq_eq_false_iff_ne] at hgo
                cases hb : fn.body with
                | none => simp [hb] at hgo
                | some c => simp [hfn, hgo.2, hb]
            unfold Oper.wp
            rw [hrun, Oper.upon_enter]
            refine hcalls.mono ?_
            rintro e w' ⟨φ', v', rfl, r1, r2⟩
            exact hK φ' v' w' r1 r2
        · split at hi
          · rename_i hext
            generalize he : a.eval f = f' at hf
            cases hf with
            | func _ xs ys us vs h1 h2 h3 h4 =>
              have hl : LRel φ (first.toList ++ (args.toList.map ρ) ++ captured.toList) (ys.toList ++ (args.toList.map a.eval) ++ vs.toList) := ((LRel.ofArray h1 h2).append hargs).append (.ofArray h3 h4)
              obtain ⟨rfl, rfl, hrun0⟩ := apart_sim hr hext hl hi
              have harr : (ys.toList ++ (args.toList.map a.eval) ++ vs.toList).toArray = ys ++ args.map a.eval ++ vs := by apply Array.ext'; simp
              rw [harr] at hrun0
              have hrun : (execOp a.eval o).run P w = .ok (.value (.bool false)) w := by
                simp only [execOp, ho]
                simp only [resolve, he, Deferred.ofValue, pure_bind, invoke]
                exact hrun0
              unfold Oper.wp
              rw [hrun]
              exact hK φ _ w (.bool _) (.refl hw hr)
          · cases hi
      | _ => simp at hi
    | _ => rw [hfv] at hi; simp at hi
  · have hnc : ∀ f args t, o.op ≠ .call ⟨.value f, args, t⟩ := fun f args t e => hc ⟨f, args, t, e⟩
    obtain ⟨φ', v', w', nx, r1, r2, r3, r4⟩ := iop_sim hw hr hroom call ρ a.eval o hρ hnc hi
    unfold Oper.wp
    rw [r1]
    rcases r2 with rfl | ⟨rfl, rfl⟩
    · exact hK φ' v' w' r3 r4
    · exact hK φ' _ w' r3 r4

/- a call only adds numbers to the heap and marks what it writes -/
def CallMono (call : ICall) : Prop := ∀ f args h v h', call f args h = some (v, h') → h.wf → IMono h h' ∧ h'.wf

theorem mono_refl {h : IHeap} (hw : h.wf) : IMono h h ∧ h.wf := ⟨.refl h, hw⟩
theorem mono_new {h : IHeap} (hw : h.wf) (o : IObj) : IMono h (h.new o) ∧ (h.new o).wf := ⟨.new h o, hw.new o⟩
theorem mono_put {h : IHeap} (hw : h.wf) {b : Nat} {o : IObj} {o' : Option IObj} (hg : h.get b = some o) (hk : ∀ x, o' = some x → o.writes = x.writes) : IMono h (h.put b o') ∧ (h.put b o').wf :=
  ⟨.put h b o o' hg hk, hw.put (hw.lt hg) _⟩
theorem mono_storeAt {h h' : IHeap} (hw : h.wf) {b off : Nat} {vs : List Value} (hs : storeAt h b off vs = some h') : IMono h h' ∧ h'.wf := by
  unfold storeAt at hs
  split at hs
  · rename_i cs e hg
    split at hs
    · cases hs; exact mono_put hw hg fun x e => by cases e; rfl
    · cases hs
  · cases hs

theorem mono_appendTo {E : Env} {e : TypeId} {size bytes : Nat} {base : Option Addr} {sLen sCap n : Nat} {new : List Value} {h h' : IHeap} {v : Value} (hw : h.wf)
    (ha : iappendTo E e size bytes base sLen sCap n new h = some (v, h')) : IMono h h' ∧ h'.wf := by
  unfold iappendTo at ha
  simp only at ha
  split at ha
  · split at ha
    · split at ha
      · cases ha; exact mono_refl hw
      · split at ha
        · rename_i hs; cases ha; exact mono_storeAt hw hs
        · cases ha
    · split at ha
      · cases ha; exact mono_refl hw
      · cases ha
    · cases ha
  · split at ha
    · cases ha
    · split at ha
      · cases ha
      · split at ha
        · cases ha; exact mono_new hw _
        · split at ha
          · split at ha
            · cases ha; exact mono_new hw _
            · cases ha
          · rename_i hg
            split at ha
            · split at ha
              · cases ha; exact mono_new hw _
              · split at ha
                · split at ha
                  · cases ha
                    obtain ⟨m1, m2⟩ := mono_new hw _
                    have hlt := hw.lt hg
                    obtain ⟨m3, m4⟩ := mono_put (o' := none) m2 (by rw [IHeap.get_new, if_neg (Nat.ne_of_lt hlt)]; exact hg) (fun x e => by cases e)
                    exact ⟨m1.trans m3, m4⟩
                  · cases ha; exact mono_new hw _
                · cases ha
            · cases ha
          · cases ha
        · cases ha

theorem iop_imono {E : Env} {call : ICall} (hc : CallMono call) {ρ : Operand → Value} {op : Op} {h h' : IHeap} {v : Value} (hw : h.wf) (hi : iop E call ρ op h = some (v, h')) : IMono h h' ∧ h'.wf := by
  unfold iop at hi
  split at hi
  all_goals try (first
    | (obtain ⟨_, rfl⟩ := pureV_some hi; exact mono_refl hw)
    | (cases hi; done))
  · cases hi; exact mono_refl hw
  · cases hi; exact mono_refl hw
  · split at hi
    · cases hi; exact mono_refl hw
    · cases hi
  · split at hi
    · cases hi; exact mono_new hw _
    · cases hi
  · split at hi
    · cases hi; exact mono_new hw _
    · cases hi
  · unfold ibuildSlice at hi
    split at hi
    · split at hi
      · split at hi
        · split at hi
          · cases hi; exact mono_new hw _
          · cases hi
        · cases hi
      · cases hi
    · cases hi
  · obtain ⟨hs, _⟩ := unitV_some hi
    unfold istore at hs
    split at hs
    · split at hs
      · split at hs
        · exact mono_storeAt hw hs
        · cases hs
      · cases hs
    · cases hs
  · split at hi
    · cases hi; exact mono_refl hw
    · cases hi; exact mono_refl hw
    · cases hi
  · unfold iconvert at hi
    split at hi
    · cases hi; exact mono_refl hw
    · cases hi; exact mono_refl hw
    · split at hi
      · cases hi; exact mono_refl hw
      · cases hi
    · split at hi
      · split at hi
        · split at hi
          · cases hi; exact mono_refl hw
          · cases hi
        · cases hi
      · cases hi
    · cases hi
  · split at hi
    · cases hi
    · cases hi; exact mono_refl hw
    · cases hi
  · cases hi; exact mono_refl hw
  · cases hi; exact mono_new hw _
  · split at hi
    · cases hi; exact mono_new hw _
    · cases hi
  · unfold imakeSlice at hi
    split at hi
    · split at hi
      · split at hi
        · cases hi; exact mono_new hw _
        · cases hi
      · cases hi
    · cases hi
  · obtain ⟨hs, _⟩ := unitV_some hi
    unfold imapUpdate at hs
    split at hs
    · split at hs
      · split at hs
        · rename_i hg
          split at hs
          · cases hs; exact mono_put hw hg fun x e => by cases e; rfl
          · cases hs; exact mono_put hw hg fun x e => by cases e; rfl
          · cases hs
        · cases hs
      · cases hs
    · cases hs
  · obtain ⟨hs, _⟩ := unitV_some hi
    unfold imapUpdate at hs
    split at hs
    · split at hs
      · split at hs
        · rename_i hg
          split at hs
          · cases hs; exact mono_put hw hg fun x e => by cases e; rfl
          · cases hs; exact mono_put hw hg fun x e => by cases e; rfl
          · cases hs
        · cases hs
      · cases hs
    · cases hs
  · split at hi
    · cases hi; exact mono_new hw _
    · cases hi
  · unfold inext at hi
    split at hi
    · split at hi
      · rename_i hg
        split at hi
        · cases hi; exact mono_put hw hg fun x e => by cases e; rfl
        · cases hi; exact mono_refl hw
      · cases hi
    · cases hi
  · split at hi
    · split at hi
      · cases hi; exact mono_refl hw
      · cases hi
    · cases hi
  · unfold ibuiltin at hi
    split at hi
    · unfold iappend at hi
      split at hi
      · split at hi
        · split at hi
          · split at hi
            · split at hi
              · split at hi
                · exact mono_appendTo hw hi
                · cases hi
              · cases hi
            · cases hi
            · split at hi
              · split at hi
                · split at hi
                  · exact mono_appendTo hw hi
                  · cases hi
                · cases hi
              · cases hi
          · cases hi
        · cases hi
      · cases hi
    · unfold icopy at hi
      split at hi
      · split at hi
        · split at hi
          · simp only at hi
            split at hi
            · split at hi
              · split at hi
                · cases hi; exact mono_refl hw
                · cases hi
              · split at hi
                · cases hi; exact mono_refl hw
                · split at hi
                  · split at hi
                    · rename_i hs; cases hi; exact mono_storeAt hw hs
                    · cases hi
                  · cases hi
              · cases hi
            · cases hi
          · cases hi
        · cases hi
      · cases hi
    · unfold iclear at hi
      split at hi
      · split at hi
        · split at hi
          · cases hi; exact mono_refl hw
          · split at hi
            · split at hi
              · rename_i hs; cases hi; exact mono_storeAt hw hs
              · cases hi
            · cases hi
        · cases hi
      · split at hi
        · cases hi; exact mono_refl hw
        · cases hi
      · cases hi
    · unfold idelete at hi
      split at hi
      · split at hi
        · split at hi
          · split at hi
            · rename_i hg
              split at hi
              · cases hi; exact mono_put hw hg fun x e => by cases e; rfl
              · cases hi; exact mono_put hw hg fun x e => by cases e; rfl
              · cases hi
            · cases hi
          · cases hi
        · cases hi
      · cases hi
    · split at hi
      · cases hi; exact mono_refl hw
      · cases hi
    · split at hi
      · cases hi; exact mono_refl hw
      · cases hi
    · split at hi
      · cases hi; exact mono_refl hw
      · cases hi
    · split at hi
      · cases hi; exact mono_refl hw
      · cases hi
    · cases hi
  · split at hi
    · split at hi
      · exact hc _ _ _ _ _ hi hw
      split at hi
      · have e := apart_same hi; subst e; exact mono_refl hw
      · cases hi
    · cases hi

/- a region in the order of the text -/
theorem irun_imono {E : Env} {call : ICall} (hc : CallMono call) (ops l : List Oper) : ∀ {tm tm' : List Value} {h h' : IHeap}, h.wf → irun E call ops l tm h = some (tm', h') → IMono h h' ∧ h'.wf := by
  induction l with
  | nil => intro tm tm' h h' hw hr; simp only [irun, Option.some.injEq, Prod.mk.injEq] at hr; obtain ⟨rfl, rfl⟩ := hr; exact mono_refl hw
  | cons o rest ih =>
    intro tm tm' h h' hw hr
    simp only [irun] at hr
    split at hr
    · split at hr
      · split at hr
        · rename_i v h1 hi
          obtain ⟨m1, w1⟩ := iop_imono hc hw hi
          obtain ⟨m2, w2⟩ := ih w1 hr
          exact ⟨m1.trans m2, w2⟩
        · cases hr
      · cases hr
    · exact ih hw hr

theorem region_sim {call : ICall} (hcall : CallSim P call) (hmono : CallMono call) (ops : Array Oper) (rest : List Oper) : ∀ (k : Nat), ops.toList.drop k = rest → ∀ {φ : Emb} {tm tm' : List Value} {h h' : IHeap} {a : Act} {w : World} {Q : Exit → Act → World → Prop},
    FRelA φ tm h a w → Room φ h h' → irun (Env.of P) call ops.toList rest tm h = some (tm', h') →
    (∀ φ' a' w', FRelA φ' tm' h' a' w' → Step φ h w φ' h' w' → Q .normal a' w') → wpOps P ops Q (List.range' k rest.length) a w := by
  induction rest with
  | nil =>
    intro k hk φ tm tm' h h' a w Q hf hroom hr hQ
    simp only [irun, Option.some.injEq, Prod.mk.injEq] at hr; obtain ⟨rfl, rfl⟩ := hr
    exact hQ φ a w hf (.refl hf.wf hf.heap)
  | cons o rest ih =>
    intro k hk φ tm tm' h h' a w Q hf hroom hr hQ
    have hko : ops[k]? = some o := by
      have : (ops.toList.drop k)[0]? = some o := by rw [hk]; rfl
      simpa using this
    have hk' : ops.toList.drop (k + 1) = rest := by rw [← List.drop_drop, hk]; rfl
    simp only [irun] at hr
    simp only [List.length_cons, List.range'_succ]
    rw [wpOps_cons]
    unfold wpOp
    rw [hko]
    simp only [wanted_rel hf.tmps]
    split at hr
    · rename_i hw
      simp only [hw, if_true]
      split at hr
      · rename_i hok
        split at hr
        · rename_i v h1 hi
          obtain ⟨m1, w1⟩ := iop_imono hmono hf.wf hi
          obtain ⟨m2, w2⟩ := irun_imono hmono _ _ w1 hr
          refine .inl (oper_sim hcall hf.wf hf.heap (hroom.left m2.next) (operands_rel hf.tmps hok) hi ?_)
          intro φ1 v' w' hv hs
          refine ih (k + 1) hk' (φ := φ1) ⟨by rw [put_defers]; exact hf.defers, put_rel ⟨hf.tmps.1, fun i x y e1 e2 => (hf.tmps.2 i x y e1 e2).ext hs.ext⟩ _ hv, hs.rel, hs.wf⟩ (hs.room hroom) hr ?_
          intro φ2 a2 w2' hf2 hs2
          exact hQ φ2 a2 w2' hf2 (hs.trans hs2 (hroom.left m2.next))
        · cases hr
      · cases hr
    · rename_i hw
      simp only [hw, Bool.false_eq_true, if_false]
      exact ih (k + 1) hk' ⟨by rw [put_defers]; exact hf.defers, put_rel hf.tmps _ (.undef φ), hf.heap, hf.wf⟩ hroom hr hQ

end
end Go.Ideal

/- A region whose order is drawn: whatever the order, the model answers what the ideal machine answers in the order of the text. -/
namespace Go.Ideal
open Go

section
variable {P : Program}

def IHeap.reset (h : IHeap) : IHeap := { next := h.next, wr := 0, t := h.t }
theorem IHeap.reset_get (h : IHeap) (b : Nat) : h.reset.get b = h.get b := rfl
theorem IHeap.reset_wrote (h : IHeap) (b : Nat) : h.reset.wrote b = false := by simp [IHeap.wrote, IHeap.reset]
theorem IHeap.reset_wf {h : IHeap} (hw : h.wf) : h.reset.wf := hw

/- one operation of such a region, in the order of the text -/
inductive DStep (E : Env) (call : ICall) (L : List Oper) (st : Nat) (j : Nat) (o : Oper) (tm : List Value) (h : IHeap) (v : Value) (h' : IHeap) (bl : Option Nat) (mk : Nat) : Prop
  | off (hw : iwanted L tm o = false) (hv : v = undef) (hh : h' = h) (hb : bl = none) (hm : mk = 0)
  | float (hw : iwanted L tm o = true) (hok : operOK o.op = true) (g : IHeap) (hi : iop E call (ieval tm) o.op h.reset = some (v, g)) (hh : h' = { next := g.next, wr := h.wr ||| g.wr, t := g.t }) (b : Nat) (hl : loadsOf (ieval tm) h.next o.op = some b)
      (hb : bl = some b) (hm : mk = 0)
  | quiet (hw : iwanted L tm o = true) (hok : operOK o.op = true) (g : IHeap) (hi : iop E call (ieval tm) o.op h.reset = some (v, g)) (hh : h' = { next := g.next, wr := h.wr ||| g.wr, t := g.t }) (hl : loadsOf (ieval tm) h.next o.op = none)
      (hz : g.wr % 2 ^ h.next = 0) (hb : bl = none) (hm : mk = 0)
  | loud (hw : iwanted L tm o = true) (hok : operOK o.op = true) (g : IHeap) (hi : iop E call (ieval tm) o.op h.reset = some (v, g)) (hh : h' = { next := g.next, wr := h.wr ||| g.wr, t := g.t }) (hl : loadsOf (ieval tm) h.next o.op = none)
      (hz : g.wr % 2 ^ h.next ≠ 0) (hbar : barrier E L j = true) (hb : bl = none) (hm : mk = g.wr)

structure DTrace (E : Env) (call : ICall) (L : List Oper) (st k : Nat) (n : Nat) (rd mu : List (Nat × Nat)) (tm : List Value) (h : IHeap) (tm' : List Value) (h' : IHeap) (hs : Nat → IHeap) (tms : Nat → List Value) (vs : Nat → Value) (bl : Nat → Option Nat) (mk : Nat → Nat) : Prop where
  h0 : hs k = h
  t0 : tms k = tm
  hn : hs (k + n) = h'
  tn : tms (k + n) = tm'
  step : ∀ j, k ≤ j → j < k + n → ∃ o, L[j]? = some o ∧ tms (j + 1) = iput (tms j) o.dst (vs j) ∧ DStep E call L st j o (tms j) (hs j) (vs j) (hs (j + 1)) (bl j) (mk j)
  rdc : ∀ x ∈ rd, ∀ j, k ≤ j → j < k + n → mk j ≠ 0 → ordered L 40 x.1 j = true ∨ (mk j).testBit x.2 = false
  muc : ∀ x ∈ mu, ∀ j b, k ≤ j → j < k + n → bl j = some b → ordered L 40 x.1 j = true ∨ x.2.testBit b = false
  lo : ∀ j b, k ≤ j → j < k + n → bl j = some b → (∃ o, L[j]? = some o ∧ allocOp o.op = true) ∨ (mu = [] ∧ ∀ i, k ≤ i → i < j → mk i = 0) ∨ b < st
  c1 : ∀ i j b, k ≤ i → i < j → j < k + n → bl i = some b → mk j ≠ 0 → ordered L 40 i j = true ∨ (mk j).testBit b = false
  c2 : ∀ i j b, k ≤ i → i < j → j < k + n → mk i ≠ 0 → bl j = some b → ordered L 40 i j = true ∨ (mk i).testBit b = false

def upd {α : Type} (f : Nat → α) (k : Nat) (x : α) : Nat → α := fun i => if i = k then x else f i
theorem upd_self {α : Type} (f : Nat → α) (k : Nat) (x : α) : upd f k x k = x := by simp [upd]
theorem upd_ne {α : Type} (f : Nat → α) {k i : Nat} (x : α) (h : i ≠ k) : upd f k x i = f i := by simp [upd, h]

theorem dtrace {E : Env} {call : ICall} (L : List Oper) (st : Nat) (l : List Oper) : ∀ (k : Nat) (rd mu : List (Nat × Nat)) (tm : List Value) (h : IHeap) (tm' : List Value) (h' : IHeap), L.drop k = l →
    irunDraw E call L st l k rd mu tm h = some (tm', h') → ∃ hs tms vs bl mk, DTrace E call L st k l.length rd mu tm h tm' h' hs tms vs bl mk := by
  induction l with
  | nil =>
    intro k rd mu tm h tm' h' hk hr
    simp only [irunDraw, Option.some.injEq, Prod.mk.injEq] at hr; obtain ⟨rfl, rfl⟩ := hr
    exact ⟨fun _ => h, fun _ => tm, fun _ => undef, fun _ => none, fun _ => 0, rfl, rfl, rfl, rfl, fun j h1 h2 => (by simp at h2; omega), fun x _ j h1 h2 => (by simp at h2; omega),
      fun x _ j b h1 h2 => (by simp at h2; omega), fun j b h1 h2 => (by simp at h2; omega), fun i j b h1 h2 h3 => (by simp at h3; omega), fun i j b h1 h2 h3 => (by simp at h3; omega)⟩
  | cons o rest ih =>
    intro k rd mu tm h tm' h' hk hr
    have hko : L[k]? = some o := by
      have : (L.drop k)[0]? = some o := by rw [hk]; rfl
      simpa using this
    have hk' : L.drop (k + 1) = rest := by rw [← List.drop_drop, hk]; rfl
    -- one step ahead of a trace
    have cons : ∀ (rd' mu' : List (Nat × Nat)) (v : Value) (h1 : IHeap) (b0 : Option Nat) (m0 : Nat), irunDraw E call L st rest (k + 1) rd' mu' (iput tm o.dst v) h1 = some (tm', h') →
        DStep E call L st k o tm h v h1 b0 m0 → (∀ x ∈ rd, x ∈ rd') → (∀ x ∈ mu, x ∈ mu') → (∀ b, b0 = some b → (k, b) ∈ rd') → (m0 ≠ 0 → (k, m0) ∈ mu') → (m0 = 0 → mu' = mu) →
        (m0 ≠ 0 → ∀ x ∈ rd, ordered L 40 x.1 k = true ∨ m0.testBit x.2 = false) → (∀ b, b0 = some b → ∀ x ∈ mu, ordered L 40 x.1 k = true ∨ x.2.testBit b = false) →
        (∀ b, b0 = some b → allocOp o.op = true ∨ mu = [] ∨ b < st) →
        ∃ hs tms vs bl mk, DTrace E call L st k (o :: rest).length rd mu tm h tm' h' hs tms vs bl mk := by
      intro rd' mu' v h1 b0 m0 hr1 hd i1 i2 i3 i4 i5 i6 i7 i8
      obtain ⟨hs, tms, vs, bl, mk, t⟩ := ih (k + 1) rd' mu' _ h1 tm' h' hk' hr1
      have ge : ∀ j, k ≤ j → j ≠ k → k + 1 ≤ j := fun j a b => by omega
      have hl : (o :: rest).length = rest.length + 1 := rfl
      refine ⟨upd hs k h, upd tms k tm, upd vs k v, upd bl k b0, upd mk k m0, upd_self _ _ _, upd_self _ _ _, ?_, ?_, ?_, ?_, ?_, ?_, ?_, ?_⟩
      · rw [upd_ne _ _ (by simp)]; have := t.hn; rw [← this]; congr 1; simp; omega
      · rw [upd_ne _ _ (by simp)]; have := t.tn; rw [← this]; congr 1; simp; omega
      · intro j h1' h2'
        by_cases hj : j = k
        · subst hj
          refine ⟨o, hko, ?_, ?_⟩
          · rw [upd_ne _ _ (by omega), upd_self, upd_self]; exact t.t0
          · rw [upd_self, upd_self, upd_self, upd_self, upd_self, upd_ne _ _ (by omega), t.h0]; exact hd
        · obtain ⟨o', e1, e2, e3⟩ := t.step j (ge j h1' hj) (by rw [hl] at h2'; omega)
          refine ⟨o', e1, ?_, ?_⟩
          · rw [upd_ne _ _ (by omega), upd_ne _ _ hj, upd_ne _ _ hj]; exact e2
          · rw [upd_ne _ _ hj, upd_ne _ _ hj, upd_ne _ _ hj, upd_ne _ _ (show j + 1 ≠ k by omega), upd_ne _ _ hj, upd_ne _ _ hj]; exact e3
      · intro x hx j h1' h2' hm
        by_cases hj : j = k
        · subst hj; rw [upd_self] at hm ⊢; exact i6 hm x hx
        · rw [upd_ne _ _ hj] at hm ⊢; exact t.rdc x (i1 x hx) j (ge j h1' hj) (by rw [hl] at h2'; omega) hm
      · intro x hx j b h1' h2' hb
        by_cases hj : j = k
        · subst hj; rw [upd_self] at hb; exact i7 b hb x hx
        · rw [upd_ne _ _ hj] at hb; exact t.muc x (i2 x hx) j b (ge j h1' hj) (by rw [hl] at h2'; omega) hb
      · intro j b h1' h2' hb
        by_cases hj : j = k
        · subst hj; rw [upd_self] at hb
          rcases i8 b hb with e | e | e
          · exact .inl ⟨o, hko, e⟩
          · exact .inr (.inl ⟨e, fun i a c => by omega⟩)
          · exact .inr (.inr e)
        · rw [upd_ne _ _ hj] at hb
          rcases t.lo j b (ge j h1' hj) (by rw [hl] at h2'; omega) hb with e | ⟨e, e'⟩ | e
          · exact .inl e
          · refine .inr (.inl ?_)
            have hm0 : m0 = 0 := by
              by_cases hz : m0 = 0
              · exact hz
              · have := i4 hz; rw [e] at this; cases this
            refine ⟨by rw [← i5 hm0, e], fun i a c => ?_⟩
            by_cases hi : i = k
            · subst hi; rw [upd_self, hm0]
            · rw [upd_ne _ _ hi]; exact e' i (ge i a hi) c
          · exact .inr (.inr e)
      · intro i j b h1' h2' h3' hb hm
        have hj : j ≠ k := by omega
        rw [upd_ne _ _ hj] at hm ⊢
        by_cases hi : i = k
        · subst hi; rw [upd_self] at hb; exact t.rdc (i, b) (i3 b hb) j (by omega) (by rw [hl] at h3'; omega) hm
        · rw [upd_ne _ _ hi] at hb; exact t.c1 i j b (ge i h1' hi) h2' (by rw [hl] at h3'; omega) hb hm
      · intro i j b h1' h2' h3' hm hb
        have hj : j ≠ k := by omega
        rw [upd_ne _ _ hj] at hb
        by_cases hi : i = k
        · subst hi; rw [upd_self] at hm ⊢; exact t.muc (i, m0) (i4 hm) j b (by omega) (by rw [hl] at h3'; omega) hb
        · rw [upd_ne _ _ hi] at hm ⊢; exact t.c2 i j b (ge i h1' hi) h2' (by rw [hl] at h3'; omega) hm hb
    simp only [irunDraw] at hr
    split at hr
    · rename_i hw
      split at hr
      · rename_i hok
        split at hr
        · rename_i v g hi
          split at hr
          · rename_i b hb
            split at hr
            · rename_i hall
              simp only [Bool.and_eq_true, Bool.or_eq_true, List.all_eq_true, Bool.not_eq_true'] at hall
              refine cons _ _ v _ (some b) 0 hr (.float hw hok g hi rfl b hb rfl rfl) (fun x hx => by simp [hx]) (fun x hx => hx) (fun b' e => by cases e; simp) (fun e => absurd rfl e) (fun _ => rfl) (fun e => absurd rfl e)
                (fun b' e x hx => by cases e; exact hall.2 x hx) (fun b' e => by
                  cases e
                  rcases hall.1 with (e | e) | e
                  · exact .inl e
                  · exact .inr (.inl (by simpa using e))
                  · exact .inr (.inr (by rw [← Nat.blt_eq]; exact e)))
            · cases hr
          · rename_i hb
            split at hr
            · rename_i hz
              exact cons _ _ v _ none 0 hr (.quiet hw hok g hi rfl hb (by simpa using hz) rfl rfl) (fun x hx => hx) (fun x hx => hx) (fun b' e => by cases e) (fun e => absurd rfl e) (fun _ => rfl) (fun e => absurd rfl e)
                (fun b' e => by cases e) (fun b' e => by cases e)
            · rename_i hz
              have hz' : g.wr % 2 ^ h.next ≠ 0 := by simpa using hz
              have hne : g.wr ≠ 0 := fun e => hz' (by rw [e]; simp)
              split at hr
              · rename_i hall
                simp only [Bool.and_eq_true, Bool.or_eq_true, List.all_eq_true, Bool.not_eq_true'] at hall
                exact cons _ _ v _ none g.wr hr (.loud hw hok g hi rfl hb hz' hall.1 rfl rfl) (fun x hx => hx) (fun x hx => by simp [hx]) (fun b' e => by cases e) (fun _ => by simp) (fun e => absurd e hne) (fun _ x hx => hall.2 x hx)
                  (fun b' e => by cases e) (fun b' e => by cases e)
              · cases hr
        · cases hr
      · cases hr
    · rename_i hw
      exact cons _ _ undef h none 0 hr (.off (by simpa using hw) rfl rfl rfl rfl) (fun x hx => hx) (fun x hx => hx) (fun b' e => by cases e) (fun e => absurd rfl e) (fun _ => rfl) (fun e => absurd rfl e)
        (fun b' e => by cases e) (fun b' e => by cases e)

end
end Go.Ideal

/- A region whose order is drawn (second part): heaps as functions, and what one operation does to them. -/
namespace Go.Ideal
open Go

section
variable {P : Program}

/- the relation of heaps, for a heap that is a function -/
structure GRel (φ : Emb) (G : Nat → Option IObj) (w : World) : Prop where
  obj : ∀ b p o, φ b = some p → G b = some o → ORel φ w p o
  lt : ∀ b p, φ b = some p → G b ≠ none → p.r < w.heap.size
  inj : ∀ b b' p p' o, φ b = some p → φ b' = some p' → G b = some o → o.writes = true → G b' ≠ none → p.r = p'.r → b = b'

theorem HRel.g {φ : Emb} {h : IHeap} {w : World} (r : HRel φ h w) : GRel φ h.get w := ⟨r.obj, r.lt, r.inj⟩
theorem GRel.h {φ : Emb} {h : IHeap} {w : World} (r : GRel φ h.get w) : HRel φ h w := ⟨r.obj, r.lt, r.inj⟩
theorem GRel.sub {φ : Emb} {G G' : Nat → Option IObj} {w : World} (r : GRel φ G w) (hs : ∀ b o, φ b ≠ none → G' b = some o → G b = some o) : GRel φ G' w where
  obj := fun b p o h1 h2 => r.obj b p o h1 (hs b o (by rw [h1]; simp) h2)
  lt := fun b p h1 h2 => by
    cases e : G' b with
    | none => exact absurd e h2
    | some o => exact r.lt b p h1 (by rw [hs b o (by rw [h1]; simp) e]; simp)
  inj := fun b b' p p' o h1 h2 h3 h4 h5 h6 => by
    cases e : G' b' with
    | none => exact absurd e h5
    | some o' => exact r.inj b b' p p' o h1 h2 (hs b o (by rw [h1]; simp) h3) h4 (by rw [hs b' o' (by rw [h2]; simp) e]; simp) h6
theorem GRel.heap {φ : Emb} {G : Nat → Option IObj} {w w' : World} (r : GRel φ G w) (e : w'.heap = w.heap) : GRel φ G w' where
  obj := fun b p o h1 h2 => (r.obj b p o h1 h2).keep φ.le_refl (by rw [e])
  lt := by rw [e]; exact r.lt
  inj := r.inj

/- a step that writes nothing that was there -/
theorem comb {φ φ' : Emb} {G G' : Nat → Option IObj} {hA hB : IHeap} {w w' : World} (r : GRel φ G w) (s : Step φ hA w φ' hB w') (hwA : hA.wf) (hq : ∀ b, b < hA.next → hB.wrote b = false)
    (g1 : ∀ b, φ b ≠ none → G' b = G b) (g2 : ∀ b, φ b = none → φ' b ≠ none → G' b = hB.get b) : GRel φ' G' w' ∧ ∀ k, k < w.heap.size → w'.heap[k]? = w.heap[k]? := by
  have still : ∀ k, k < w.heap.size → w'.heap[k]? = w.heap[k]? := fun k hk => s.frame k hk fun b p o _ _ h3 _ => hq b (hwA.lt h3)
  have newr : ∀ b p, φ b = none → φ' b = some p → w.heap.size ≤ p.r := by
    intro b p h1 h2
    rcases (s.fresh b p h1 h2).2.2 with h | ⟨b0, p0, o, _, _, e3, _, e5⟩
    · exact h
    · rw [hq b0 (hwA.lt e3)] at e5; cases e5
  have old : ∀ b p q, φ b = some q → φ' b = some p → p = q := fun b p q h1 h2 => by rw [s.ext b q h1] at h2; cases h2; rfl
  refine ⟨⟨?_, ?_, ?_⟩, still⟩
  · intro b p o h1 h2
    cases e : φ b with
    | some q =>
      obtain rfl := old b p q e h1
      have hG : G b = some o := by rw [← g1 b (by rw [e]; simp)]; exact h2
      exact (r.obj b p o e hG).keep s.ext (still _ (r.lt b p e (by rw [hG]; simp)))
    | none => exact s.rel.obj b p o h1 (by rw [← g2 b e (by rw [h1]; simp)]; exact h2)
  · intro b p h1 h2
    cases e : φ b with
    | some q =>
      obtain rfl := old b p q e h1
      exact Nat.lt_of_lt_of_le (r.lt b p e (by rw [← g1 b (by rw [e]; simp)]; exact h2)) s.size
    | none => exact s.rel.lt b p h1 (by have := g2 b e (by rw [h1]; simp); unfold IHeap.live; rw [← this]; exact h2)
  · intro b b' p p' o h1 h2 h3 h4 h5 h6
    cases e : φ b with
    | some q =>
      obtain rfl := old b p q e h1
      have hG : G b = some o := by rw [← g1 b (by rw [e]; simp)]; exact h3
      cases e' : φ b' with
      | some q' =>
        obtain rfl := old b' p' q' e' h2
        exact r.inj b b' p p' o e e' hG h4 (by rw [← g1 b' (by rw [e']; simp)]; exact h5) h6
      | none =>
        have := newr b' p' e' h2
        have := r.lt b p e (by rw [hG]; simp)
        omega
    | none =>
      have hn := newr b p e h1
      cases e' : φ b' with
      | some q' =>
        obtain rfl := old b' p' q' e' h2
        have := r.lt b' p' e' (by rw [← g1 b' (by rw [e']; simp)]; exact h5)
        omega
      | none =>
        refine s.rel.inj b b' p p' o h1 h2 (by rw [← g2 b e (by rw [h1]; simp)]; exact h3) h4 ?_ h6
        have := g2 b' e' (by rw [h2]; simp)
        unfold IHeap.live; rw [← this]; exact h5

/- a step that writes what was there: blocks behind the heap that it ran on stay -/
theorem combW {φ φ' : Emb} {G G' : Nat → Option IObj} {hA hB : IHeap} {w w' : World} (r : GRel φ G w) (s : Step φ hA w φ' hB w') (hwA : hA.wf)
    (a1 : ∀ b, b < hA.next → G b = hA.get b)
    (g1 : ∀ b, b < hB.next → G' b = hB.get b) (g2 : ∀ b, hB.next ≤ b → φ b ≠ none → G' b = G b) (hdom : ∀ b, hA.next ≤ b → b < hB.next → φ b = none) : GRel φ' G' w' := by
  have old : ∀ b p q, φ b = some q → φ' b = some p → p = q := fun b p q h1 h2 => by rw [s.ext b q h1] at h2; cases h2; rfl
  have high : ∀ b p, hB.next ≤ b → φ' b = some p → φ b = some p := by
    intro b p hb h1
    cases e : φ b with
    | some q => rw [old b p q e h1]
    | none => have := (s.fresh b p e h1).2.1; omega
  have hnext := s.mono.next
  -- a block behind is in no block that the step wrote
  have still : ∀ b p o, hB.next ≤ b → φ b = some p → G b = some o → w'.heap[p.r]? = w.heap[p.r]? := by
    intro b p o hb h1 h2
    refine s.frame p.r (r.lt b p h1 (by rw [h2]; simp)) fun b' p' o' e1 e2 e3 e4 => ?_
    have hlt := hwA.lt e3
    have := r.inj b' b p' p o' e1 h1 (by rw [a1 b' hlt]; exact e3) e4 (by rw [h2]; simp) e2
    omega
  -- what a block of the step's heap was before
  have back : ∀ b p o, φ b = some p → hB.get b = some o → G b ≠ none ∧ ∃ o0, G b = some o0 ∧ o0.writes = o.writes := by
    intro b p o h1 h2
    have hlB : b < hB.next := s.wf.lt h2
    have hlA : b < hA.next := by
      rcases Nat.lt_or_ge b hA.next with h | h
      · exact h
      · rw [hdom b h hlB] at h1; cases h1
    obtain ⟨o0, e1, e2⟩ := s.mono.dead b o hlA h2
    exact ⟨by rw [a1 b hlA, e1]; simp, o0, by rw [a1 b hlA, e1], e2⟩
  refine ⟨?_, ?_, ?_⟩
  · intro b p o h1 h2
    rcases Nat.lt_or_ge b hB.next with hb | hb
    · exact s.rel.obj b p o h1 (by rw [← g1 b hb]; exact h2)
    · have h1' := high b p hb h1
      have hG : G b = some o := by rw [← g2 b hb (by rw [h1']; simp)]; exact h2
      exact (r.obj b p o h1' hG).keep s.ext (still b p o hb h1' hG)
  · intro b p h1 h2
    rcases Nat.lt_or_ge b hB.next with hb | hb
    · exact s.rel.lt b p h1 (by unfold IHeap.live; rw [← g1 b hb]; exact h2)
    · have h1' := high b p hb h1
      exact Nat.lt_of_lt_of_le (r.lt b p h1' (by rw [← g2 b hb (by rw [h1']; simp)]; exact h2)) s.size
  · intro b b' p p' o h1 h2 h3 h4 h5 h6
    rcases Nat.lt_or_ge b hB.next with hb | hb
    · have hB1 : hB.get b = some o := by rw [← g1 b hb]; exact h3
      rcases Nat.lt_or_ge b' hB.next with hb' | hb'
      · exact s.rel.inj b b' p p' o h1 h2 hB1 h4 (by unfold IHeap.live; rw [← g1 b' hb']; exact h5) h6
      · have h2' := high b' p' hb' h2
        have hl' : G b' ≠ none := by rw [← g2 b' hb' (by rw [h2']; simp)]; exact h5
        cases e : φ b with
        | some q =>
          obtain rfl := old b p q e h1
          obtain ⟨_, o0, k1, k2⟩ := back b p o e hB1
          exact r.inj b b' p p' o0 e h2' k1 (by rw [k2, h4]) hl' h6
        | none =>
          rcases (s.fresh b p e h1).2.2 with h | ⟨b0, p0, o0, e1, e2, e3, e4, _⟩
          · have := r.lt b' p' h2' hl'; omega
          · have hlt := hwA.lt e3
            have := r.inj b0 b' p0 p' o0 e1 h2' (by rw [a1 b0 hlt]; exact e3) e4 hl' (e2.trans h6)
            omega
    · have h1' := high b p hb h1
      have hG : G b = some o := by rw [← g2 b hb (by rw [h1']; simp)]; exact h3
      rcases Nat.lt_or_ge b' hB.next with hb' | hb'
      · have hB1 : hB.get b' ≠ none := by rw [← g1 b' hb']; exact h5
        cases e : φ b' with
        | some q =>
          obtain rfl := old b' p' q e h2
          cases eo : hB.get b' with
          | none => exact absurd eo hB1
          | some o' => exact r.inj b b' p p' o h1' e hG h4 (back b' p' o' e eo).1 h6
        | none =>
          rcases (s.fresh b' p' e h2).2.2 with h | ⟨b0, p0, o0, e1, e2, e3, e4, _⟩
          · have := r.lt b p h1' (by rw [hG]; simp); omega
          · have hlt := hwA.lt e3
            have := r.inj b0 b p0 p o0 e1 h1' (by rw [a1 b0 hlt]; exact e3) e4 (by rw [hG]; simp) (by rw [e2, h6])
            omega
      · have h2' := high b' p' hb' h2
        exact r.inj b b' p p' o h1' h2' hG h4 (by rw [← g2 b' hb' (by rw [h2']; simp)]; exact h5) h6

/- loads and makings wherever they stand -/
theorem iop_load {E : Env} {call : ICall} {ρ : Operand → Value} {t : TypeId} {a : Operand} {h h' : IHeap} {v : Value} (hi : iop E call ρ (.load t a) h = some (v, h')) :
    h' = h ∧ ∃ b off, ρ a = .pointer (some ⟨b, off, none⟩) ∧ h.get b ≠ none ∧ ∀ h2 : IHeap, h2.get b = h.get b → iop E call ρ (.load t a) h2 = some (v, h2) := by
  simp only [iop] at hi ⊢
  obtain ⟨h1, h2⟩ := pureV_some hi
  refine ⟨h2, ?_⟩
  cases hx : ρ a with
  | pointer p =>
    cases p with
    | none => rw [hx] at h1; simp [iload] at h1
    | some p =>
      obtain ⟨b, off, s⟩ := p
      cases s with
      | some s => rw [hx] at h1; simp [iload] at h1
      | none =>
        refine ⟨b, off, rfl, ?_, fun h3 e => ?_⟩
        · intro e
          rw [hx] at h1
          simp [iload, IHeap.row, e] at h1
        · have : h3.row b = h.row b := by unfold IHeap.row; rw [e]
          rw [hx] at h1
          simp only [iload, this] at h1 ⊢
          rw [h1]; rfl
  | _ => rw [hx] at h1; simp [iload] at h1

theorem iop_alloc {E : Env} {call : ICall} {ρ : Operand → Value} {op : Op} (ha : allocOp op = true) {h h' : IHeap} {v : Value} (hi : iop E call ρ op h = some (v, h')) :
    ∃ o, h' = h.new o ∧ ∀ h2 : IHeap, h2.next = h.next → iop E call ρ op h2 = some (v, h2.new o) := by
  cases op with
  | alloc e =>
    simp only [iop] at hi ⊢
    split at hi
    · simp only [Option.some.injEq, Prod.mk.injEq] at hi; obtain ⟨rfl, rfl⟩ := hi; exact ⟨_, rfl, fun h2 e => by rw [e]⟩
    · cases hi
  | box e x =>
    simp only [iop] at hi ⊢
    split at hi
    · rename_i hn
      simp only [Option.some.injEq, Prod.mk.injEq] at hi; obtain ⟨rfl, rfl⟩ := hi; exact ⟨_, rfl, fun h2 e => by rw [if_pos hn, e]⟩
    · cases hi
  | buildSlice t len parts =>
    simp only [iop] at hi ⊢
    unfold ibuildSlice at hi ⊢
    split at hi
    · split at hi
      · split at hi
        · rename_i hle
          split at hi
          · simp only [Option.some.injEq, Prod.mk.injEq] at hi; obtain ⟨rfl, rfl⟩ := hi; exact ⟨_, rfl, fun h2 e => by rw [if_pos hle, e]⟩
          · cases hi
        · cases hi
      · cases hi
    · cases hi
  | makeMap t r =>
    cases r with
    | none => simp only [iop, Option.some.injEq, Prod.mk.injEq] at hi ⊢; obtain ⟨rfl, rfl⟩ := hi; exact ⟨_, rfl, fun h2 e => by rw [e]; exact ⟨rfl, rfl⟩⟩
    | some r => simp [allocOp] at ha
  | _ => simp [allocOp] at ha

end
end Go.Ideal

/- A region whose order is drawn (third part): the invariant. -/
namespace Go.Ideal
open Go

section
variable {P : Program}

/- what has been put so far -/
def val (tm0 : List Value) (dst : Nat → Option Tmp) (vs : Nat → Value) (S : Nat → Bool) : Nat → List Value
  | 0 => tm0
  | k + 1 => if S k then iput (val tm0 dst vs S k) (dst k) (vs k) else val tm0 dst vs S k

theorem iput_length (l : List Value) (d : Option Tmp) (v : Value) : (iput l d v).length = l.length := by cases d <;> simp [iput]
theorem iput_get (l : List Value) (d : Option Tmp) (v : Value) (t : Nat) : (iput l d v)[t]? = if d = some t ∧ t < l.length then some v else l[t]? := by
  cases d with
  | none => simp [iput]
  | some d =>
    simp only [iput, Option.some.injEq]
    rw [List.getElem?_set]
    by_cases h : d = t
    · subst h; by_cases h2 : d < l.length
      · simp [h2]
      · simp [h2]
    · simp [h]

section vals
variable {tm0 : List Value} {dst : Nat → Option Tmp} {vs : Nat → Value}

theorem val_length (S : Nat → Bool) (m : Nat) : (val tm0 dst vs S m).length = tm0.length := by
  induction m with
  | zero => rfl
  | succ m ih => simp only [val]; split <;> simp [iput_length, ih]

theorem val_congr (S S' : Nat → Bool) (t m : Nat) (h : ∀ k, k < m → dst k = some t → S k = S' k) : (val tm0 dst vs S m)[t]? = (val tm0 dst vs S' m)[t]? := by
  induction m with
  | zero => rfl
  | succ m ih =>
    have ih' := ih fun k hk => h k (by omega)
    simp only [val]
    by_cases hd : dst m = some t
    · rw [h m (by omega) hd]
      split
      · rw [iput_get, iput_get, val_length, val_length, ih']
      · exact ih'
    · split <;> split <;> first | (rw [iput_get, iput_get, if_neg (fun e => hd e.1), if_neg (fun e => hd e.1)]; exact ih') | (rw [iput_get, if_neg (fun e => hd e.1)]; exact ih') | exact ih'

theorem val_skip (S : Nat → Bool) (t j : Nat) : ∀ m, j ≤ m → (∀ k, j ≤ k → k < m → S k = true → dst k ≠ some t) → (val tm0 dst vs S m)[t]? = (val tm0 dst vs S j)[t]? := by
  intro m hj h
  induction m with
  | zero => have : j = 0 := by omega
            subst this; rfl
  | succ m ih =>
    by_cases e : j = m + 1
    · rw [e]
    · have ih' := ih (by omega) fun k a b => h k a (by omega)
      simp only [val]
      split
      · rename_i hs
        rw [iput_get, if_neg (fun x => h m (by omega) (by omega) hs x.1)]; exact ih'
      · exact ih'

theorem val_all (tms : Nat → List Value) (n : Nat) (h0 : tms 0 = tm0) (hs : ∀ j, j < n → tms (j + 1) = iput (tms j) (dst j) (vs j)) : ∀ j, j ≤ n → val tm0 dst vs (fun _ => true) j = tms j := by
  intro j
  induction j with
  | zero => intro _; exact h0.symm
  | succ j ih => intro hj; simp only [val, if_true]; rw [ih (by omega), hs j (by omega)]
end vals

/- listing one more -/
def addS (S : Nat → Bool) (j : Nat) : Nat → Bool := fun i => S i || i == j

theorem val_add {tm0 : List Value} {dst : Nat → Option Tmp} {vs : Nat → Value} (S : Nat → Bool) (n j : Nat) (hj : j < n) (hS : S j = false) (hw : ∀ t k, dst j = some t → j < k → k < n → S k = true → dst k ≠ some t) :
    val tm0 dst vs (addS S j) n = iput (val tm0 dst vs S n) (dst j) (vs j) := by
  apply List.ext_getElem?
  intro t
  rw [iput_get, val_length]
  by_cases hd : dst j = some t
  · have e1 : (val tm0 dst vs (addS S j) n)[t]? = (val tm0 dst vs (addS S j) (j + 1))[t]? := val_skip _ t (j + 1) n (by omega) fun k a b c => by
      have hk : S k = true := by
        simp only [addS, Bool.or_eq_true, beq_iff_eq] at c
        rcases c with c | c
        · exact c
        · omega
      exact hw t k hd (by omega) b hk
    rw [e1]
    have : addS S j j = true := by simp [addS]
    simp only [val, this, if_true]
    rw [iput_get, val_length]
    by_cases hl : t < tm0.length
    · rw [if_pos ⟨hd, hl⟩, if_pos ⟨hd, hl⟩]
    · rw [if_neg (fun e => hl e.2), if_neg (fun e => hl e.2)]
      rw [List.getElem?_eq_none (by rw [val_length]; omega), List.getElem?_eq_none (by rw [val_length]; omega)]
  · rw [if_neg (fun e => hd e.1)]
    refine val_congr _ _ t n fun k hk hdk => ?_
    have : k ≠ j := fun e => hd (e ▸ hdk)
    simp [addS, this]

/- counting what is left -/
theorem cnt_lt (p p' : Nat → Bool) (n j : Nat) (hj : j < n) (hp : p j = true) (hp' : p' j = false) (h : ∀ i, i < n → p' i = true → p i = true) : ((List.range n).filter p').length + 1 ≤ ((List.range n).filter p).length := by
  induction n with
  | zero => omega
  | succ n ih =>
    simp only [List.range_succ, List.filter_append, List.length_append]
    have mono : ((List.range n).filter p').length ≤ ((List.range n).filter p).length := by
      clear ih
      have h' : ∀ i, i < n → p' i = true → p i = true := fun i hi => h i (by omega)
      clear h hj
      induction n with
      | zero => simp
      | succ n ih =>
        simp only [List.range_succ, List.filter_append, List.length_append]
        have := ih fun i hi => h' i (by omega)
        have h2 := h' n (by omega)
        cases e1 : p' n <;> cases e2 : p n <;> simp_all <;> omega
    by_cases e : j = n
    · subst e; simp [hp, hp']; omega
    · have := ih (by omega) fun i hi => h i (by omega)
      have h2 := h n (by omega)
      cases e1 : p' n <;> cases e2 : p n <;> simp_all <;> omega

theorem ordered_closed (L : List Oper) (S : Nat → Bool) (hc : ∀ j o, L[j]? = some o → S j = true → ∀ e ∈ o.after, Region.binds .any e = true → S e.on = true) : ∀ (f i j : Nat), ordered L f i j = true → S j = true → S i = true := by
  intro f
  induction f with
  | zero => intro i j h; cases h
  | succ f ih =>
    intro i j h hj
    simp only [ordered] at h
    split at h
    · rename_i o ho
      simp only [Bool.or_eq_true, List.any_eq_true, Bool.and_eq_true, beq_iff_eq] at h
      rcases h with ⟨e, he, hb, h⟩ | ⟨e, he, hb, h⟩
      · rw [← h]; exact hc j o ho hj e (by simpa using he) hb
      · exact ih i e.on h (hc j o ho hj e (by simpa using he) hb)
    · cases h

/- what the trace says of the heaps -/
section trace
variable {call : ICall} {L : List Oper} {st n : Nat} {tm tm' : List Value} {h h' : IHeap} {hs : Nat → IHeap} {tms : Nat → List Value} {vs : Nat → Value} {bl : Nat → Option Nat} {mk : Nat → Nat}

theorem wrote_mod {g : IHeap} {x : Nat} (hz : g.wr % 2 ^ x = 0) {b : Nat} (hb : b < x) : g.wrote b = false := by
  have := congrArg (fun y => y.testBit b) hz
  simpa [Nat.testBit_mod_two_pow, hb, IHeap.wrote] using this

theorem wrote_or (n a b : Nat) (t : T IObj) (x : Nat) : (IHeap.mk n (a ||| b) t).wrote x = (a.testBit x || b.testBit x) := by simp [IHeap.wrote, Nat.testBit_or]

theorem dstep_g {E : Env} (hmono : CallMono call) {j : Nat} {o : Oper} {hj hj' : IHeap} {v : Value} {b : Option Nat} {m : Nat} (hw : hj.wf) (d : DStep E call L st j o tm hj v hj' b m) :
    IMono hj hj' ∧ hj'.wf ∧ ∀ x, x < hj.next → (m ≠ 0 → m.testBit x = false) → hj'.get x = hj.get x := by
  have main : ∀ g, iop E call (ieval tm) o.op hj.reset = some (v, g) → hj' = { next := g.next, wr := hj.wr ||| g.wr, t := g.t } → IMono hj hj' ∧ hj'.wf ∧ ∀ x, x < hj.next → g.wrote x = false → hj'.get x = hj.get x := by
    intro g hi hh
    obtain ⟨m1, w1⟩ := iop_imono hmono (IHeap.reset_wf hw) hi
    subst hh
    refine ⟨⟨m1.next, fun x e => ?_, fun x hx e => ?_, fun x o' hx e => m1.dead x o' hx e⟩, w1, fun x hx e => m1.same x hx e⟩
    · rw [wrote_or]; simp only [IHeap.wrote] at e; simp [e]
    · rw [wrote_or, Bool.or_eq_false_iff] at e; exact m1.same x hx e.2
  cases d with
  | off hwt hv hh hb hm => subst hh; exact ⟨.refl _, hw, fun _ _ _ => rfl⟩
  | float hwt hok g hi hh b0 hl hb hm =>
    obtain ⟨a1, a2, a3⟩ := main g hi hh
    refine ⟨a1, a2, fun x hx _ => a3 x hx ?_⟩
    have hop : (∃ t a, o.op = .load t a) ∨ allocOp o.op = true := by
      cases ho : o.op with
      | load t a => exact .inl ⟨t, a, rfl⟩
      | makeMap t r => cases r <;> simp [ho, loadsOf, allocOp] at hl ⊢
      | _ => simp [ho, loadsOf, allocOp] at hl ⊢
    rcases hop with ⟨t, a, ho⟩ | ho
    · rw [ho] at hi
      rw [(iop_load hi).1]; exact IHeap.reset_wrote _ _
    · obtain ⟨o', e, _⟩ := iop_alloc ho hi
      rw [e, IHeap.wrote_new]; exact IHeap.reset_wrote _ _
  | quiet hwt hok g hi hh hl hz hb hm =>
    obtain ⟨a1, a2, a3⟩ := main g hi hh
    exact ⟨a1, a2, fun x hx _ => a3 x hx (wrote_mod hz hx)⟩
  | loud hwt hok g hi hh hl hz hbar hb hm =>
    obtain ⟨a1, a2, a3⟩ := main g hi hh
    refine ⟨a1, a2, fun x hx e => a3 x hx ?_⟩
    have hne : g.wr ≠ 0 := fun e => hz (by rw [e]; simp)
    subst hm
    exact e hne

variable {E : Env}

theorem trace_mono (hmono : CallMono call) (hw : h.wf) (t : DTrace E call L st 0 n [] [] tm h tm' h' hs tms vs bl mk) : ∀ j, j ≤ n → IMono (hs 0) (hs j) ∧ (hs j).wf := by
  intro j
  induction j with
  | zero => intro _; rw [t.h0]; exact ⟨.refl _, hw⟩
  | succ j ih =>
    intro hj
    obtain ⟨m1, w1⟩ := ih (by omega)
    obtain ⟨o, _, _, d⟩ := t.step j (by omega) (by omega)
    obtain ⟨m2, w2, _⟩ := dstep_g hmono w1 d
    exact ⟨m1.trans m2, w2⟩

theorem trace_mono2 (hmono : CallMono call) (hw : h.wf) (t : DTrace E call L st 0 n [] [] tm h tm' h' hs tms vs bl mk) (i : Nat) : ∀ j, i ≤ j → j ≤ n → IMono (hs i) (hs j) := by
  intro j hij
  induction j with
  | zero => intro _; have : i = 0 := by omega
            subst this; exact .refl _
  | succ j ih =>
    intro hj
    by_cases e : i = j + 1
    · rw [e]; exact .refl _
    · obtain ⟨o, _, _, d⟩ := t.step j (by omega) (by omega)
      exact (ih (by omega) (by omega)).trans (dstep_g hmono (trace_mono hmono hw t j (by omega)).2 d).1

theorem trace_keep (hmono : CallMono call) (hw : h.wf) (t : DTrace E call L st 0 n [] [] tm h tm' h' hs tms vs bl mk) (i : Nat) {b : Nat} (hb : b < (hs i).next) : ∀ j, i ≤ j → j ≤ n →
    (∀ k, i ≤ k → k < j → mk k ≠ 0 → (mk k).testBit b = false) → (hs j).get b = (hs i).get b := by
  intro j hij
  induction j with
  | zero => intro _ _; have : i = 0 := by omega
            subst this; rfl
  | succ j ih =>
    intro hj hk
    by_cases e : i = j + 1
    · rw [e]
    · obtain ⟨o, _, _, d⟩ := t.step j (by omega) (by omega)
      have hlt := (trace_mono2 hmono hw t i j (by omega) (by omega)).next
      rw [(dstep_g hmono (trace_mono hmono hw t j (by omega)).2 d).2.2 b (by omega) (hk j (by omega) (by omega))]
      exact ih (by omega) (by omega) fun k a c => hk k a (by omega)

end trace
end
end Go.Ideal

/- A region whose order is drawn (fourth part): the proof. -/
namespace Go.Ideal
open Go

section
variable {P : Program}

structure DInv (P : Program) (L : List Oper) (n : Nat) (φ0 : Emb) (w0 : World) (hs : Nat → IHeap) (tm0 : List Value) (vs : Nat → Value) (bl : Nat → Option Nat) (mk : Nat → Nat) (S : Nat → Bool) (a : Act) (w : World) (φ : Emb) (m : Nat) (G : Nat → Option IObj) : Prop where
  closed : ∀ j o, L[j]? = some o → S j = true → ∀ e ∈ o.after, Region.binds .any e = true → S e.on = true
  mle : m ≤ n
  before : ∀ k, k < m → mk k ≠ 0 → S k = true
  at_ : m < n → mk m ≠ 0 ∧ S m = false
  defers : a.defers = []
  rel : LRel φ (val tm0 (fun k => (L[k]?).bind (·.dst)) vs S n) a.tmps.toList
  g : GRel φ G w
  g1 : ∀ b, b < (hs m).next → G b = (hs m).get b
  g3 : ∀ i, m < i → i < n → S i = true → bl i = some (hs i).next → G (hs i).next = (hs (i + 1)).get (hs i).next
  le : φ0.le φ
  dom : ∀ b p, φ0 b = none → φ b = some p → (∃ i, i < n ∧ S i = true ∧ (hs i).next ≤ b ∧ b < (hs (i + 1)).next) ∧
    (w0.heap.size ≤ p.r ∨ ∃ b0 p0 o, φ0 b0 = some p0 ∧ p0.r = p.r ∧ (hs 0).get b0 = some o ∧ o.writes = true ∧ (hs n).wrote b0 = true)
  size : w0.heap.size ≤ w.heap.size ∧ w.os = w0.os ∧ w.output = w0.output ∧ ∀ a, w.frozen? a = w0.frozen? a
  frame : ∀ r, r < w0.heap.size → (∀ b p o, φ0 b = some p → p.r = r → (hs 0).get b = some o → o.writes = true → (hs n).wrote b = false) → w.heap[r]? = w0.heap[r]?

theorem least_from (p : Nat → Bool) (n k : Nat) (hk : k ≤ n) : ∃ m, k ≤ m ∧ m ≤ n ∧ (∀ i, k ≤ i → i < m → p i = false) ∧ (m < n → p m = true) := by
  induction hd : n - k generalizing k with
  | zero => exact ⟨k, Nat.le_refl _, hk, fun i a b => by omega, fun h => by omega⟩
  | succ d ih =>
    cases hp : p k with
    | true => exact ⟨k, Nat.le_refl _, hk, fun i a b => by omega, fun _ => hp⟩
    | false =>
      obtain ⟨m, h1, h2, h3, h4⟩ := ih (k + 1) (by omega) (by omega)
      refine ⟨m, by omega, h2, fun i a b => ?_, h4⟩
      by_cases e : i = k
      · rw [e]; exact hp
      · exact h3 i (by omega) b

theorem looks_tmp {L : List Oper} {o : Oper} {x : Tmp} (h : Operand.tmp x ∈ o.op.operands.toList) : x ∈ looks L o := by
  unfold looks
  refine List.mem_append.2 (.inl ?_)
  exact List.mem_filterMap.2 ⟨.tmp x, h, rfl⟩

theorem ieval_look {tm tm' : List Value} {x : Operand} (h : ∀ t, x = .tmp t → tm[t]? = tm'[t]?) : ieval tm x = ieval tm' x := by
  cases x with
  | tmp t => simp only [ieval, List.getD_eq_getElem?_getD, h t rfl]
  | _ => rfl

theorem iwanted_look {L : List Oper} {tm tm' : List Value} {o : Oper} (h : ∀ t, t ∈ looks L o → tm[t]? = tm'[t]?) : iwanted L tm o = iwanted L tm' o := by
  unfold iwanted
  cases hg : o.guard with
  | none => rfl
  | some x =>
    obtain ⟨j, want⟩ := x
    simp only
    congr 1
    unfold iyielded
    cases hj : L[j]? with
    | none => rfl
    | some y =>
      simp only
      cases hd : y.dst with
      | none => rfl
      | some d =>
        simp only
        rw [h d]
        unfold looks
        refine List.mem_append.2 (.inr ?_)
        rw [hg]; simp [hj, hd]

/- the temporaries that an operation names are ordered with those who write them -/
theorem temps_spec {L : List Oper} (h : tempsOK L = true) {i j : Nat} {o x : Oper} {t : Tmp} (hi : L[i]? = some o) (hj : L[j]? = some x) (hd : o.dst = some t) (hne : i ≠ j) (hx : x.dst = some t ∨ t ∈ looks L x) :
    ordered L 40 (min i j) (max i j) = true := by
  have hil : i < L.length := (List.getElem?_eq_some_iff.1 hi).1
  have hjl : j < L.length := (List.getElem?_eq_some_iff.1 hj).1
  unfold tempsOK at h
  have h1 := List.all_eq_true.1 h i (List.mem_range.2 hil)
  rw [hi] at h1
  simp only [hd] at h1
  have h2 := List.all_eq_true.1 h1 j (List.mem_range.2 hjl)
  rw [hj] at h2
  simp only [Bool.or_eq_true, beq_iff_eq, Bool.not_eq_true', Bool.or_eq_false_iff] at h2
  rcases h2 with h2 | ⟨h2, h3⟩ | h2
  · exact absurd h2 hne
  · rcases hx with hx | hx
    · rw [hx] at h2; simp at h2
    · have : (looks L x).contains t = true := by simpa using hx
      rw [this] at h3; cases h3
  · exact h2

theorem barrier_spec {E : Env} {L : List Oper} {i j : Nat} {o : Oper} (h : barrier E L j = true) (hi : L[i]? = some o) (hne : i ≠ j) : pureOp E o.op = true ∨ isLoad o.op = true ∨ allocOp o.op = true ∨ ordered L 40 (min i j) (max i j) = true := by
  have hil : i < L.length := (List.getElem?_eq_some_iff.1 hi).1
  unfold barrier at h
  have h1 := List.all_eq_true.1 h i (List.mem_range.2 hil)
  rw [hi] at h1
  simp only [Bool.or_eq_true, beq_iff_eq] at h1
  rcases h1 with h1 | ((h1 | h1) | h1) | h1
  · exact absurd h1 hne
  · exact .inl h1
  · exact .inr (.inl h1)
  · exact .inr (.inr (.inl h1))
  · exact .inr (.inr (.inr h1))

theorem edges_spec {L : List Oper} (h : edgesOK L = true) {j : Nat} {o : Oper} (hj : L[j]? = some o) {e : Edge} (he : e ∈ o.after) (hb : Region.binds .any e = true) : e.on < j := by
  have hjl : j < L.length := (List.getElem?_eq_some_iff.1 hj).1
  unfold edgesOK at h
  have h1 := List.all_eq_true.1 h j (List.mem_range.2 hjl)
  rw [hj] at h1
  have h2 := List.all_eq_true.1 h1 e (by simpa using he)
  simp only [hb, Bool.not_true, Bool.false_or] at h2
  rw [← Nat.blt_eq]; exact h2

section main
variable {call : ICall} {L : List Oper} {st n : Nat} {tm tm' : List Value} {h h' : IHeap} {hs : Nat → IHeap} {tms : Nat → List Value} {vs : Nat → Value} {bl : Nat → Option Nat} {mk : Nat → Nat}

/- one more operation is done, that wrote nothing that was there: the invariant behind it -/
theorem DInv.add {φ0 : Emb} {w0 : World} {S : Nat → Bool} {a : Act} {w : World} {φ : Emb} {m : Nat} {G : Nat → Option IObj} (I : DInv P L n φ0 w0 hs tm vs bl mk S a w φ m G) {j : Nat} {o : Oper} (hj : j < n) (hjo : L[j]? = some o)
    (hS : S j = false) (hpre : ∀ e ∈ o.after, Region.binds .any e = true → S e.on = true) (hmk : mk j = 0) (htemps : tempsOK L = true)
    {φ' : Emb} {w' : World} {v' : Value} {G' : Nat → Option IObj} (hv : VRel φ' (vs j) v') (hle : φ.le φ') (hg : GRel φ' G' w') (hg1 : ∀ b, b < (hs m).next → G' b = (hs m).get b)
    (hg3 : ∀ i, m < i → i < n → i ≠ j → S i = true → bl i = some (hs i).next → G' (hs i).next = G (hs i).next) (hg3j : m < j → bl j = some (hs j).next → G' (hs j).next = (hs (j + 1)).get (hs j).next)
    (hdom : ∀ b p, φ b = none → φ' b = some p → (hs j).next ≤ b ∧ b < (hs (j + 1)).next ∧ w.heap.size ≤ p.r) (hsize : w.heap.size ≤ w'.heap.size ∧ w'.os = w.os ∧ w'.output = w.output ∧ ∀ a, w'.frozen? a = w.frozen? a) (hframe : ∀ k, k < w.heap.size → w'.heap[k]? = w.heap[k]?) :
    DInv P L n φ0 w0 hs tm vs bl mk (addS S j) (a.put o.dst v') w' φ' m G' := by
  have hadd : ∀ i, S i = true → addS S j i = true := fun i e => by simp [addS, e]
  have hsub : ∀ i, addS S j i = true → i ≠ j → S i = true := fun i e hne => by simpa [addS, hne] using e
  refine ⟨?_, I.mle, fun k a b => hadd k (I.before k a b), fun hlt => ?_, by rw [put_defers]; exact I.defers, ?_, hg, hg1, ?_, Emb.le_trans I.le hle, ?_, ⟨Nat.le_trans I.size.1 hsize.1, hsize.2.1.trans I.size.2.1, hsize.2.2.1.trans I.size.2.2.1, fun a => (hsize.2.2.2 a).trans (I.size.2.2.2 a)⟩, ?_⟩
  · intro i oi hi hSi e he hb
    by_cases hij : i = j
    · subst hij; rw [hjo] at hi; cases hi; exact hadd _ (hpre e he hb)
    · exact hadd _ (I.closed i oi hi (hsub i hSi hij) e he hb)
  · obtain ⟨a1, a2⟩ := I.at_ hlt
    refine ⟨a1, ?_⟩
    have : m ≠ j := fun e => a1 (e ▸ hmk)
    simp [addS, a2, this]
  · have hval := val_add (tm0 := tm) (dst := fun k => (L[k]?).bind (·.dst)) (vs := vs) S n j hj hS (by
      intro t k hd hjk hkn hSk hdk
      simp only [hjo, Option.bind_some] at hd
      cases hk : L[k]? with
      | none => simp [hk] at hdk
      | some x =>
        simp only [hk, Option.bind_some] at hdk
        have := temps_spec htemps hjo hk hd (by omega) (.inl hdk)
        rw [Nat.min_eq_left (by omega), Nat.max_eq_right (by omega)] at this
        have := ordered_closed L S I.closed 40 j k this hSk
        rw [hS] at this; cases this)
    rw [hval]
    have hdst : (L[j]?).bind (·.dst) = o.dst := by rw [hjo]; rfl
    simp only [hdst]
    exact put_rel ⟨I.rel.1, fun i x y e1 e2 => (I.rel.2 i x y e1 e2).ext hle⟩ _ hv
  · intro i h1 h2 h3 h4
    by_cases hij : i = j
    · subst hij; exact hg3j h1 h4
    · rw [hg3 i h1 h2 hij (hsub i h3 hij) h4]; exact I.g3 i h1 h2 (hsub i h3 hij) h4
  · intro b p h0 h1
    cases e : φ b with
    | some q =>
      have := hle b q e; rw [h1] at this; cases this
      obtain ⟨⟨i, a1, a2, a3⟩, a4⟩ := I.dom b p h0 e
      exact ⟨⟨i, a1, hadd i a2, a3⟩, a4⟩
    | none =>
      obtain ⟨a1, a2, a3⟩ := hdom b p e h1
      exact ⟨⟨j, hj, by simp [addS], a1, a2⟩, .inl (Nat.le_trans I.size.1 a3)⟩
  · intro r hr hc
    rw [hframe r (Nat.lt_of_lt_of_le hr I.size.1)]
    exact I.frame r hr hc

end main
end
end Go.Ideal

/- A region whose order is drawn (fifth part): one operation in whatever order, and the whole. -/
namespace Go.Ideal
open Go

section
variable {P : Program}

def IHeap.bare (n : Nat) : IHeap := { next := n, wr := 0, t := .leaf }

theorem fresh_of {h : IHeap} {wr : Nat} {g : IHeap} (hh : h = { next := g.next, wr := wr, t := g.t }) (b : Nat) : h.next = g.next ∧ h.get b = g.get b := by subst hh; exact ⟨rfl, rfl⟩

theorem draw_main {call : ICall} (hcall : CallSim P call) (hmono : CallMono call) {ops : Array Oper} (hd : drawOK ops.toList = true) {tm tm' : List Value} {h0 h' : IHeap} {hs : Nat → IHeap} {tms : Nat → List Value} {vs : Nat → Value}
    {bl : Nat → Option Nat} {mk : Nat → Nat} (hw0 : h0.wf) (t : DTrace (Env.of P) call ops.toList h0.next 0 ops.toList.length [] [] tm h0 tm' h' hs tms vs bl mk) {φ0 : Emb} {w0 : World} (hroom : Room φ0 h0 h') {Q : Exit → Act → World → Prop}
    (hQ : ∀ φ' a' w', FRelA φ' tm' h' a' w' → Step φ0 h0 w0 φ' h' w' → Q .normal a' w') :
    ∀ (fuel : Nat) (listed : Array Bool) (a : Act) (w : World) (φ : Emb) (m : Nat) (G : Nat → Option IObj), listed.size = ops.toList.length →
      DInv P ops.toList ops.toList.length φ0 w0 hs tm vs bl mk (fun i => listed.getD i false) a w φ m G → ((List.range ops.toList.length).filter fun i => !listed.getD i false).length ≤ fuel →
      wpAny P .any ops Q fuel listed a w := by
  have hd' := hd
  unfold drawOK at hd'
  simp only [Bool.and_eq_true] at hd'
  obtain ⟨htemps, hedges⟩ := hd'
  have hnext : ∀ i, i ≤ ops.toList.length → (hs i).next ≤ (hs ops.toList.length).next := fun i hi => (trace_mono2 hmono hw0 t i _ hi (Nat.le_refl _)).next
  have hwf : ∀ i, i ≤ ops.toList.length → (hs i).wf := fun i hi => (trace_mono hmono hw0 t i hi).2
  have hn : hs ops.toList.length = h' := by have := t.hn; simpa using this
  have hpos : ∀ b, (hs 0).next ≤ b → b < (hs ops.toList.length).next → φ0 b = none := by
    intro b h1 h2
    rw [t.h0] at h1; rw [hn] at h2
    exact hroom b h1 h2
  -- when all is done
  have done : ∀ (listed : Array Bool) (a : Act) (w : World) (φ : Emb) (m : Nat) (G : Nat → Option IObj), DInv P ops.toList ops.toList.length φ0 w0 hs tm vs bl mk (fun i => listed.getD i false) a w φ m G →
      (∀ i, i < ops.toList.length → listed.getD i false = true) → Q .normal a w := by
    intro listed a w φ m G I hall
    have hm : m = ops.toList.length := by
      rcases Nat.lt_or_ge m ops.toList.length with hlt | hge
      · have := (I.at_ hlt).2; rw [hall m hlt] at this; cases this
      · have := I.mle; omega
    subst hm
    have hrel : HRel φ h' w := by
      rw [← hn]
      refine GRel.h (I.g.sub fun b o _ e => ?_)
      rw [I.g1 b ((hwf _ (Nat.le_refl _)).lt e)]; exact e
    have hval : val tm (fun k => (ops.toList[k]?).bind (·.dst)) vs (fun i => listed.getD i false) ops.toList.length = tm' := by
      have e1 : val tm (fun k => (ops.toList[k]?).bind (·.dst)) vs (fun i => listed.getD i false) ops.toList.length = val tm (fun k => (ops.toList[k]?).bind (·.dst)) vs (fun _ => true) ops.toList.length := by
        apply List.ext_getElem?
        intro x
        exact val_congr _ _ x _ fun k hk _ => hall k hk
      rw [e1, val_all tms ops.toList.length t.t0 (fun j hj => by
        obtain ⟨o, e1, e2, _⟩ := t.step j (by omega) (by simpa using hj)
        rw [e2, e1]; rfl) _ (Nat.le_refl _)]
      have := t.tn; simpa using this
    refine hQ φ a w ⟨I.defers, by rw [← hval]; exact I.rel, hrel, by rw [← hn]; exact hwf _ (Nat.le_refl _)⟩ ?_
    have hm0 := trace_mono2 hmono hw0 t 0 ops.toList.length (Nat.zero_le _) (Nat.le_refl _)
    rw [t.h0, hn] at hm0
    refine ⟨hm0, by rw [← hn]; exact hwf _ (Nat.le_refl _), I.le, ?_, I.size.1, ?_, hrel, ⟨I.size.2.1, I.size.2.2.1⟩, I.size.2.2.2⟩
    · intro b p e1 e2
      obtain ⟨⟨i, i1, i2, i3, i4⟩, hc⟩ := I.dom b p e1 e2
      have k1 := (trace_mono2 hmono hw0 t 0 i (Nat.zero_le _) (by omega)).next
      have k2 := hnext (i + 1) (by omega)
      rw [t.h0] at k1; rw [hn] at k2
      refine ⟨by omega, by omega, ?_⟩
      rw [t.h0, hn] at hc; exact hc
    · intro r hr hc
      refine I.frame r hr ?_
      rw [t.h0, hn]; exact hc
  intro fuel
  induction fuel with
  | zero =>
    intro listed a w φ m G hsz I hcnt
    have hall : ∀ i, i < ops.toList.length → listed.getD i false = true := by
      intro i hi
      cases e : listed.getD i false with
      | true => rfl
      | false =>
        have : i ∈ (List.range ops.toList.length).filter fun i => !listed.getD i false := by simp only [List.mem_filter, List.mem_range]; exact ⟨hi, by rw [e]; rfl⟩
        have := List.length_pos_of_mem this
        omega
    refine ⟨?_, done listed a w φ m G I hall⟩
    apply List.eq_nil_iff_forall_not_mem.2
    intro j hj
    obtain ⟨k1, o, k2, _⟩ := mem_ready.1 hj
    have hjl : j < ops.toList.length := by have := (Array.getElem?_eq_some_iff.1 k2).1; simpa using this
    have := hall j hjl
    have hjs : j < listed.size := by omega
    simp [Array.getD_eq_getD_getElem?, hjs] at k1 this
    rw [k1] at this; cases this
  | succ fuel ih =>
    intro listed a w φ m G hsz I hcnt
    refine ⟨?_, ?_⟩
    · -- nothing is ready: all is done
      intro hnil
      refine done listed a w φ m G I fun i => ?_
      induction i using Nat.strongRecOn with
      | _ i ihi =>
        intro hi
        cases e : listed.getD i false with
        | true => rfl
        | false =>
          exfalso
          have hio : ops[i]? = some (ops.toList[i]) := by simpa using List.getElem?_eq_getElem hi
          have hiL : ops.toList[i]? = some (ops.toList[i]) := List.getElem?_eq_getElem hi
          have : i ∈ Region.ready .any ops listed := by
            refine mem_ready.2 ⟨?_, _, hio, fun ed he hb => ?_⟩
            · have his : i < listed.size := by omega
              simp [Array.getD_eq_getD_getElem?, his] at e ⊢; exact e
            · exact ihi ed.on (edges_spec hedges hiL he hb) (by have := edges_spec hedges hiL he hb; omega)
          rw [hnil] at this; cases this
    · intro j hj
      obtain ⟨k1, o, k2, k3⟩ := mem_ready.1 hj
      have hjl : j < ops.toList.length := by have := (Array.getElem?_eq_some_iff.1 k2).1; simpa using this
      have hjs : j < listed.size := by omega
      have hjo : ops.toList[j]? = some o := by simpa using k2
      have hSj : listed.getD j false = false := by
        simp [Array.getD_eq_getD_getElem?, hjs] at k1 ⊢; exact k1
      have hadd : (fun i => (listed.setIfInBounds j true).getD i false) = addS (fun i => listed.getD i false) j := by
        funext i
        by_cases e : i = j
        · subst e; simp [addS, Array.getD_eq_getD_getElem?, hjs]
        · rw [getD_set_ne false (Ne.symm e)]; simp [addS, e]
      have hcnt' : ((List.range ops.toList.length).filter fun i => !(listed.setIfInBounds j true).getD i false).length ≤ fuel := by
        have := cnt_lt (fun i => !listed.getD i false) (fun i => !(listed.setIfInBounds j true).getD i false) ops.toList.length j hjl (by simp only [hSj, Bool.not_false]) (by simp [Array.getD_eq_getD_getElem?, hjs])
          (fun i hi e => by
            have := congrFun hadd i
            rw [this] at e
            simp only [addS, Bool.not_eq_true', Bool.or_eq_false_iff] at e
            simp [e.1])
        omega
      -- what the operation sees
      obtain ⟨o', ho', htm, dst⟩ := t.step j (Nat.zero_le _) (by simpa using hjl)
      rw [hjo] at ho'; cases ho'
      have hclosed := ordered_closed ops.toList (fun i => listed.getD i false) I.closed
      have hpre : ∀ k, ordered ops.toList 40 k j = true → listed.getD k false = true := by
        intro k hk
        have : ∀ (f : Nat), ordered ops.toList f k j = true → listed.getD k false = true := by
          intro f hf
          cases f with
          | zero => cases hf
          | succ f =>
            simp only [ordered, hjo] at hf
            simp only [Bool.or_eq_true, List.any_eq_true, Bool.and_eq_true, beq_iff_eq] at hf
            rcases hf with ⟨e, he, hb, h⟩ | ⟨e, he, hb, h⟩
            · rw [← h]; exact k3 e (by simpa using he) hb
            · exact hclosed f k e.on h (k3 e (by simpa using he) hb)
        exact this 40 hk
      have hlook : ∀ x, x ∈ looks ops.toList o → (val tm (fun k => (ops.toList[k]?).bind (·.dst)) vs (fun i => listed.getD i false) ops.toList.length)[x]? = (tms j)[x]? := by
        intro x hx
        have hvj := val_all (tm0 := tm) (dst := fun k => (ops.toList[k]?).bind (·.dst)) (vs := vs) tms ops.toList.length t.t0 (fun j hj => by
          obtain ⟨o, e1, e2, _⟩ := t.step j (by omega) (by simpa using hj)
          rw [e2, e1]; rfl) j (by omega)
        rw [← hvj]
        rw [val_skip _ x j ops.toList.length (by omega) (fun k a1 a2 a3 a4 => by
          cases hk : ops.toList[k]? with
          | none => simp [hk] at a4
          | some y =>
            simp only [hk, Option.bind_some] at a4
            by_cases hkj : k = j
            · subst hkj; rw [hSj] at a3; cases a3
            · have := temps_spec htemps hk hjo a4 hkj (.inr hx)
              rw [Nat.min_eq_right (by omega), Nat.max_eq_left (by omega)] at this
              have := hclosed 40 j k this a3
              simp only [hSj] at this; cases this)]
        refine val_congr _ _ x j fun k hk hdk => ?_
        cases hkk : ops.toList[k]? with
        | none => simp [hkk] at hdk
        | some y =>
          simp only [hkk, Option.bind_some] at hdk
          have := temps_spec htemps hkk hjo hdk (by omega) (.inr hx)
          rw [Nat.min_eq_left (by omega), Nat.max_eq_right (by omega)] at this
          simp only [hpre k this]
      have hwant : Region.wanted o (yielded ops a.tmps) = iwanted ops.toList (tms j) o := by
        rw [wanted_rel I.rel, iwanted_look hlook]
      have hoper : operOK o.op = true → ∀ x ∈ o.op.operands.toList, VRel φ (ieval (tms j) x) (a.eval x) := by
        intro hok x hx
        have := operands_rel I.rel hok x hx
        rwa [ieval_look (tm' := tms j) fun y e => hlook y (looks_tmp (e ▸ hx))] at this
      have hltj : ∀ i b, i < ops.toList.length → (hs i).next ≤ b → b < (hs (i + 1)).next → (hs j).next ≤ b → b < (hs (j + 1)).next → i = j := by
        intro i b hi h1 h2 h3 h4
        rcases Nat.lt_trichotomy i j with h | h | h
        · have := (trace_mono2 hmono hw0 t (i + 1) j (by omega) (by omega)).next; omega
        · exact h
        · have := (trace_mono2 hmono hw0 t (j + 1) i (by omega) (by omega)).next; omega
      -- blocks that this operation makes are not placed yet
      have hnone : ∀ b, (hs j).next ≤ b → b < (hs (j + 1)).next → φ b = none := by
        intro b h1 h2
        cases e : φ b with
        | none => rfl
        | some p =>
          have h0' := hpos b (Nat.le_trans (trace_mono2 hmono hw0 t 0 j (Nat.zero_le _) (by omega)).next h1) (Nat.lt_of_lt_of_le h2 (hnext (j + 1) (by omega)))
          obtain ⟨⟨i, i1, i2, i3, i4⟩, _⟩ := I.dom b p h0' e
          have := hltj i b i1 i3 i4 h1 h2
          subst this
          simp only [hSj] at i2; cases i2
      show wpOp P ops Q j (wpAny P .any ops Q fuel (listed.setIfInBounds j true)) a w
      unfold wpOp
      rw [k2]
      simp only [hwant]
      have hwm := hwf m I.mle
      have fin : ∀ (a' : Act) (w' : World) (φ' : Emb) (m' : Nat) (G' : Nat → Option IObj), DInv P ops.toList ops.toList.length φ0 w0 hs tm vs bl mk (addS (fun i => listed.getD i false) j) a' w' φ' m' G' →
          wpAny P .any ops Q fuel (listed.setIfInBounds j true) a' w' := by
        intro a' w' φ' m' G' I'
        refine ih _ a' w' φ' m' G' (by simpa using hsz) ?_ hcnt'
        rw [hadd]; exact I'
      have hjm : mk j = 0 → m ≠ j := by
        intro hz e
        rcases Nat.lt_or_ge m ops.toList.length with hlt | hge
        · exact (I.at_ hlt).1 (e ▸ hz)
        · omega
      -- the heap of the next operation that writes, as it stands
      have hrelm : HRel φ (hs m).reset w := GRel.h (I.g.sub fun b o' _ e => by rw [IHeap.reset_get] at e; rw [I.g1 b (hwm.lt e)]; exact e)
      have hwmr : (hs m).reset.wf := IHeap.reset_wf hwm
      have roomm : Room φ (hs m).reset (hs m).reset := fun b h1 h2 => by omega
      -- an operation that can be made on that heap, and changes nothing there
      have float : operOK o.op = true → mk j = 0 → (bl j ≠ some (hs j).next) → iop (Env.of P) call (ieval (tms j)) o.op (hs m).reset = some (vs j, (hs m).reset) →
          o.wp P a w (wpAny P .any ops Q fuel (listed.setIfInBounds j true)) Q := by
        intro hok hz hbl hi
        refine oper_sim hcall hwmr hrelm roomm (hoper hok) hi ?_
        intro φ' v' w' hv hst
        have hsame : ∀ b, φ b = none → φ' b = none := by
          intro b e
          cases e' : φ' b with
          | none => rfl
          | some p => have := hst.fresh b p e e'; omega
        obtain ⟨hg, hstill⟩ := comb (G' := G) I.g hst hwmr (fun b _ => IHeap.reset_wrote _ _) (fun b _ => rfl) (fun b e e' => absurd (hsame b e) e')
        exact fin _ _ _ _ _ (I.add hjl hjo hSj (fun e he hb => k3 e he hb) hz htemps hv hst.ext hg I.g1 (fun _ _ _ _ _ _ => rfl) (fun _ e => absurd e hbl) (fun b p e e' => by rw [hsame b e] at e'; cases e') ⟨hst.size, hst.calm.1, hst.calm.2, hst.cold⟩ hstill)
      have hmulate : ∀ k, m < k → k < ops.toList.length → mk k ≠ 0 → listed.getD k false = false := by
        intro k h1 h2 h3
        cases e : listed.getD k false with
        | false => rfl
        | true =>
          exfalso
          have hml : m < ops.toList.length := by omega
          obtain ⟨a1, a2⟩ := I.at_ hml
          obtain ⟨om, hom, _, dm⟩ := t.step m (Nat.zero_le _) (by simpa using hml)
          obtain ⟨ok', hok', _, dk⟩ := t.step k (Nat.zero_le _) (by simpa using h2)
          cases dm with
          | loud hw1 hok1 g1 hi1 hh1 hl1 hz1 hbar1 hb1 hm1 =>
            cases dk with
            | loud hw2 hok2 g2 hi2 hh2 hl2 hz2 hbar2 hb2 hm2 =>
              have hord : ordered ops.toList 40 m k = true := by
                rcases barrier_spec hbar1 hok' (by omega) with h | h | h | h
                · exfalso
                  have hp := (iop_pure h hi2).1
                  exact hz2 (by rw [hp]; simp [IHeap.reset])
                · exfalso
                  cases hop : ok'.op <;> simp [hop, isLoad] at h
                  rw [hop] at hi2
                  exact hz2 (by rw [(iop_load hi2).1]; simp [IHeap.reset])
                · exfalso
                  obtain ⟨ob, e2, _⟩ := iop_alloc h hi2
                  exact hz2 (by rw [e2]; simp [IHeap.new, IHeap.reset])
                · rwa [Nat.min_eq_right (by omega), Nat.max_eq_left (by omega)] at h
              have := hclosed 40 m k hord e
              rw [a2] at this; cases this
            | _ => exact h3 (by assumption)
          | _ => exact a1 (by assumption)
      cases dst with
      | off hwt hv hh hb hm =>
        simp only [hwt, Bool.false_eq_true, if_false]
        exact fin _ _ _ _ _ (I.add hjl hjo hSj (fun e he hb => k3 e he hb) hm htemps (by rw [hv]; exact .undef φ) φ.le_refl I.g I.g1 (fun _ _ _ _ _ _ => rfl) (fun _ e => by rw [hb] at e; cases e) (fun b p e e' => by rw [e] at e'; cases e')
          ⟨Nat.le_refl _, rfl, rfl, fun _ => rfl⟩ (fun _ _ => rfl))
      | float hwt hok g hi hh b hl hb hm =>
        simp only [hwt, if_true]
        refine .inl ?_
        have hop : (∃ t a, o.op = .load t a) ∨ allocOp o.op = true := by
          cases ho : o.op with
          | load t a => exact .inl ⟨t, a, rfl⟩
          | makeMap t r => cases r <;> simp [ho, loadsOf, allocOp] at hl ⊢
          | _ => simp [ho, loadsOf, allocOp] at hl ⊢
        rcases hop with ⟨lt, la, ho⟩ | ha
        · -- a load
          rw [ho] at hi hl
          obtain ⟨hgr, b', off, hρ, hlive, hany⟩ := iop_load hi
          simp only [loadsOf, hρ, Option.some.injEq] at hl
          subst hl
          have hbj : b' < (hs j).next := (hwf j (by omega)).lt (o := ((hs j).get b').get (Option.isSome_iff_ne_none.2 hlive)) (by simp)
          -- what it reads is the same there
          have hsame : (hs m).get b' = (hs j).get b' := by
            rcases Nat.lt_or_ge j m with hlt | hge
            · exact trace_keep hmono hw0 t j hbj m (by omega) I.mle fun k h1 h2 h3 => by
                by_cases hkj : k = j
                · subst hkj; exact absurd hm h3
                · rcases t.c1 j k b' (Nat.zero_le _) (by omega) (by have := I.mle; omega) hb h3 with h | h
                  · have := hclosed 40 j k h (I.before k h2 h3)
                    simp only [hSj] at this; cases this
                  · exact h
            · have hne := hjm hm
              have hbm : b' < (hs m).next := by
                rcases t.lo j b' (Nat.zero_le _) (by simpa using hjl) hb with ⟨oo, e1, e2⟩ | ⟨_, e⟩ | e
                · rw [hjo] at e1; cases e1; rw [ho] at e2; cases e2
                · exact absurd (e m (Nat.zero_le _) (by omega)) (I.at_ (by omega)).1
                · have := (trace_mono2 hmono hw0 t 0 m (Nat.zero_le _) I.mle).next
                  rw [t.h0] at this; omega
              exact (trace_keep hmono hw0 t m hbm j (by omega) (by omega) fun k h1 h2 h3 => by
                rcases t.c2 k j b' (Nat.zero_le _) h2 (by simpa using hjl) h3 hb with h | h
                · exfalso
                  have hk := hpre k h
                  by_cases hkm : k = m
                  · subst hkm; have := (I.at_ (by omega)).2; rw [hk] at this; cases this
                  · rw [hmulate k (by omega) (by omega) h3] at hk; cases hk
                · exact h).symm
          have hi' := hany (hs m).reset (by rw [IHeap.reset_get, IHeap.reset_get]; exact hsame)
          rw [← ho] at hi'
          refine float hok hm ?_ hi'
          rw [hb]
          intro e
          simp only [Option.some.injEq] at e
          omega
        · -- a making
          obtain ⟨ob, hgr, hany⟩ := iop_alloc ha hi
          have hbn : b = (hs j).next := by
            cases hop : o.op with
            | alloc e => simp [hop, loadsOf] at hl; omega
            | box e x => simp [hop, loadsOf] at hl; omega
            | buildSlice t l p => simp [hop, loadsOf] at hl; omega
            | makeMap t r => cases r with
              | none => simp [hop, loadsOf] at hl; omega
              | some r => simp [hop, allocOp] at ha
            | _ => simp [hop, allocOp] at ha
          have hi' := hany (IHeap.bare (hs j).next) rfl
          have hwb : (IHeap.bare (hs j).next).wf := fun b _ => rfl
          have hrb : HRel φ (IHeap.bare (hs j).next) w := ⟨fun b p o e1 e2 => (by cases e2), fun b p e1 e2 => absurd rfl e2, fun b b' p p' o e1 e2 e3 => (by cases e3)⟩
          have hj1 : (hs (j + 1)).next = (hs j).next + 1 ∧ (hs (j + 1)).get (hs j).next = some ob := by
            obtain ⟨x1, x2⟩ := fresh_of hh (hs j).next
            rw [x1, x2, hgr]
            exact ⟨rfl, by rw [IHeap.get_new, if_pos (show (hs j).next = (hs j).reset.next from rfl)]⟩
          have hφn := hnone (hs j).next (Nat.le_refl _) (by omega)
          refine oper_sim hcall hwb hrb (fun x h1 h2 => ?_) (hoper hok) hi' ?_
          · simp only [IHeap.bare, IHeap.next_new] at h1 h2
            have : x = (hs j).next := by omega
            rw [this]; exact hφn
          intro φ' v' w' hv hst
          have hnew : ∀ x p, φ x = none → φ' x = some p → x = (hs j).next := by
            intro x p e e'
            have := hst.fresh x p e e'
            simp only [IHeap.bare, IHeap.next_new] at this; omega
          have hget : (IHeap.bare (hs j).next |>.new ob).get (hs j).next = some ob := by rw [IHeap.get_new]; simp [IHeap.bare]
          let G' : Nat → Option IObj := fun x => if x = (hs j).next ∧ (hs m).next ≤ x then some ob else G x
          have hGj : G' (hs j).next = some ob := by
            show (if (hs j).next = (hs j).next ∧ (hs m).next ≤ (hs j).next then some ob else G (hs j).next) = some ob
            by_cases hc : (hs m).next ≤ (hs j).next
            · rw [if_pos ⟨rfl, hc⟩]
            · rw [if_neg (fun e => hc e.2), I.g1 _ (by omega)]
              have hlt : j < m := by
                rcases Nat.lt_or_ge j m with h | h
                · exact h
                · have := (trace_mono2 hmono hw0 t m j h (by omega)).next; omega
              rw [trace_keep hmono hw0 t (j + 1) (by omega) m (by omega) I.mle fun k h1 h2 h3 => by
                rcases t.c1 j k b (Nat.zero_le _) (by omega) (by have := I.mle; omega) hb h3 with h | h
                · have := hclosed 40 j k h (I.before k h2 h3)
                  simp only [hSj] at this; cases this
                · rw [← hbn]; exact h]
              exact hj1.2
          obtain ⟨hg, hstill⟩ := comb (G' := G') I.g hst hwb (fun x _ => by rw [IHeap.wrote_new]; simp [IHeap.bare, IHeap.wrote])
            (fun x e => by
              simp only [G']
              rw [if_neg]
              rintro ⟨rfl, _⟩
              exact e hφn)
            (fun x e e' => by
              cases e2 : φ' x with
              | none => exact absurd e2 e'
              | some p => rw [hnew x p e e2, hGj, hget])
          refine fin _ _ _ _ _ (I.add hjl hjo hSj (fun e he hb => k3 e he hb) hm htemps hv hst.ext hg ?_ ?_ (fun _ _ => by rw [hGj, hj1.2]) ?_ ⟨hst.size, hst.calm.1, hst.calm.2, hst.cold⟩ hstill)
          · intro x hx
            simp only [G']
            rw [if_neg (fun e => by omega)]; exact I.g1 x hx
          · intro i h1 h2 h3 h4 h5
            simp only [G']
            rw [if_neg]
            rintro ⟨e, _⟩
            have hii : (hs i).next < (hs (i + 1)).next := by
              cases e' : φ (hs i).next with
              | none =>
                -- it made a block: its number is used up
                obtain ⟨oi, hoi, _, di⟩ := t.step i (Nat.zero_le _) (by simpa using h2)
                cases di with
                | float hw2 hok2 g2 hi2 hh2 b2 hl2 hb2 hm2 =>
                  rw [hb2] at h5; cases h5
                  have hop2 : (∃ t a, oi.op = .load t a) ∨ allocOp oi.op = true := by
                    cases ho : oi.op with
                    | load t a => exact .inl ⟨t, a, rfl⟩
                    | makeMap t r => cases r <;> simp [ho, loadsOf, allocOp] at hl2 ⊢
                    | _ => simp [ho, loadsOf, allocOp] at hl2 ⊢
                  rcases hop2 with ⟨lt, la, ho⟩ | ha2
                  · exfalso
                    rw [ho] at hi2 hl2
                    obtain ⟨_, b', off, hρ, hlive, _⟩ := iop_load hi2
                    simp only [loadsOf, hρ, Option.some.injEq] at hl2
                    exact hlive (by rw [IHeap.reset_get, hl2]; exact (hwf i (by omega)) _ (Nat.le_refl _))
                  · obtain ⟨ob2, hgr2, _⟩ := iop_alloc ha2 hi2
                    rw [(fresh_of hh2 0).1, hgr2]; exact Nat.lt_succ_self _
                | off _ _ _ hb2 _ => rw [hb2] at h5; cases h5
                | quiet _ _ _ _ _ _ _ hb2 _ => rw [hb2] at h5; cases h5
                | loud _ _ _ _ _ _ _ _ hb2 _ => rw [hb2] at h5; cases h5
              | some p =>
                rw [e, hφn] at e'; cases e'
            exact h3 (hltj i (hs i).next h2 (Nat.le_refl _) hii (by omega) (by omega))
          · intro x p e e'
            have hx := hnew x p e e'
            subst hx
            refine ⟨Nat.le_refl _, by omega, ?_⟩
            rcases (hst.fresh _ p e e').2.2 with h | ⟨b0, p0, o0, _, _, e3, _, _⟩
            · exact h
            · cases e3
      | quiet hwt hok g hi hh hl hz hb hm =>
        simp only [hwt, if_true]
        refine .inl ?_
        by_cases hp : pureOp (Env.of P) o.op = true
        · exact float hok hm (by rw [hb]; simp) ((iop_pure hp hi).2 _)
        · have hnl : isLoad o.op = false := by
            cases hop : o.op <;> simp [isLoad]
            rw [hop] at hi hl
            obtain ⟨_, b', off, hρ, _⟩ := iop_load hi
            simp [loadsOf, hρ] at hl
          have hna : allocOp o.op = false := by
            cases hop : o.op <;> simp [allocOp] <;> simp [hop, loadsOf] at hl
            rename_i r; cases r <;> simp [loadsOf] at hl ⊢
          have hord : ∀ k, k ≠ j → k < ops.toList.length → mk k ≠ 0 → ordered ops.toList 40 (min j k) (max j k) = true := by
            intro k h1 h2 h3
            obtain ⟨ok', hok', _, dk⟩ := t.step k (Nat.zero_le _) (by simpa using h2)
            cases dk with
            | loud hw2 hok2 g2 hi2 hh2 hl2 hz2 hbar2 hb2 hm2 =>
              rcases barrier_spec hbar2 hjo (Ne.symm h1) with h | h | h | h
              · exact absurd h hp
              · rw [hnl] at h; cases h
              · rw [hna] at h; cases h
              · exact h
            | off _ _ _ _ h => exact absurd h h3
            | float _ _ _ _ _ _ _ _ h => exact absurd h h3
            | quiet _ _ _ _ _ _ _ _ h => exact absurd h h3
          have hlt : j < m := by
            rcases Nat.lt_or_ge j m with h | h
            · exact h
            · exfalso
              have hne := hjm hm
              obtain ⟨a1, a2⟩ := I.at_ (by omega)
              have := hord m hne (by omega) a1
              rw [Nat.min_eq_right (by omega), Nat.max_eq_left (by omega)] at this
              have := hpre m this
              rw [a2] at this; cases this
          have hmn := I.mle
          have hnomut : ∀ k, j ≤ k → k < m → mk k ≠ 0 → False := by
            intro k h1 h2 h3
            by_cases hkj : k = j
            · subst hkj; exact h3 hm
            · have := hord k hkj (by omega) h3
              rw [Nat.min_eq_left (by omega), Nat.max_eq_right (by omega)] at this
              have := hclosed 40 j k this (I.before k h2 h3)
              simp only [hSj] at this; cases this
          have hwj := hwf j (by omega)
          have hmn1 := (trace_mono2 hmono hw0 t j m (by omega) hmn).next
          have hmn2 := (trace_mono2 hmono hw0 t (j + 1) m (by omega) hmn).next
          have hrj : HRel φ (hs j).reset w := GRel.h (I.g.sub fun x o' _ e => by
            rw [IHeap.reset_get] at e
            have hx := hwj.lt e
            rw [I.g1 x (by omega), trace_keep hmono hw0 t j hx m (by omega) hmn fun k h1 h2 h3 => (hnomut k h1 h2 h3).elim]; exact e)
          obtain ⟨n1, n2⟩ := fresh_of hh 0
          refine oper_sim hcall (IHeap.reset_wf hwj) hrj (fun x h1 h2 => hnone x h1 (by omega)) (hoper hok) hi ?_
          intro φ' v' w' hv hst
          obtain ⟨hg, hstill⟩ := comb (G' := G) I.g hst (IHeap.reset_wf hwj) (fun x hx => wrote_mod hz hx) (fun x _ => rfl) (fun x e e' => by
            cases e2 : φ' x with
            | none => exact absurd e2 e'
            | some p =>
              obtain ⟨q1, q2, _⟩ := hst.fresh x p e e2
              have hx1 : x < (hs (j + 1)).next := by omega
              rw [I.g1 x (by omega), trace_keep hmono hw0 t (j + 1) hx1 m (by omega) hmn fun k h1 h2 h3 => (hnomut k (by omega) h2 h3).elim]
              exact (fresh_of hh x).2)
          refine fin _ _ _ _ _ (I.add hjl hjo hSj (fun e he hb => k3 e he hb) hm htemps hv hst.ext hg I.g1 (fun _ _ _ _ _ _ => rfl) (fun _ e => by rw [hb] at e; cases e) ?_ ⟨hst.size, hst.calm.1, hst.calm.2, hst.cold⟩ hstill)
          intro x p e e'
          obtain ⟨q1, q2, q3⟩ := hst.fresh x p e e'
          refine ⟨q1, by omega, ?_⟩
          rcases q3 with h | ⟨b0, p0, o0, _, _, e3, _, e5⟩
          · exact h
          · rw [wrote_mod hz ((IHeap.reset_wf hwj).lt e3)] at e5; cases e5
      | loud hwt hok g hi hh hl hz hbar hb hm =>
        simp only [hwt, if_true]
        refine .inl ?_
        have hmj : mk j ≠ 0 := by rw [hm]; intro e; exact hz (by rw [e]; simp)
        have hnp : pureOp (Env.of P) o.op ≠ true := fun h => hz (by rw [(iop_pure h hi).1]; simp [IHeap.reset])
        have hnl : isLoad o.op ≠ true := fun h => by
          cases hop : o.op <;> simp [hop, isLoad] at h
          rw [hop] at hi
          exact hz (by rw [(iop_load hi).1]; simp [IHeap.reset])
        have hna : allocOp o.op ≠ true := fun h => by
          obtain ⟨ob, e2, _⟩ := iop_alloc h hi
          exact hz (by rw [e2]; simp [IHeap.new, IHeap.reset])
        have hmeq : m = j := by
          rcases Nat.lt_trichotomy m j with h | h | h
          · exfalso
            obtain ⟨a1, a2⟩ := I.at_ (by omega)
            obtain ⟨om, hom, _, dm⟩ := t.step m (Nat.zero_le _) (by omega)
            cases dm with
            | loud hw1 hok1 g1 hi1 hh1 hl1 hz1 hbar1 hb1 hm1 =>
              rcases barrier_spec hbar1 hjo (by omega) with h' | h' | h' | h'
              · exact hnp h'
              · exact hnl h'
              · exact hna h'
              · rw [Nat.min_eq_right (by omega), Nat.max_eq_left (by omega)] at h'
                have := hpre m h'
                rw [a2] at this; cases this
            | off _ _ _ _ h' => exact a1 h'
            | float _ _ _ _ _ _ _ _ h' => exact a1 h'
            | quiet _ _ _ _ _ _ _ _ h' => exact a1 h'
          · exact h
          · have := I.before j h hmj
            simp only [hSj] at this; cases this
        subst hmeq
        obtain ⟨m', hm1, hm2, hm3, hm4⟩ := least_from (fun k => decide (mk k ≠ 0)) ops.toList.length (m + 1) (by omega)
        have hq : ∀ k, m + 1 ≤ k → k < m' → mk k = 0 := fun k h1 h2 => by have := hm3 k h1 h2; simpa using this
        have hnx := (trace_mono2 hmono hw0 t (m + 1) m' hm1 hm2).next
        have hnx0 := (trace_mono2 hmono hw0 t m (m + 1) (by omega) (by omega)).next
        obtain ⟨n1, n2⟩ := fresh_of hh 0
        have hgn : ∀ x, g.wrote x = true → (hs ops.toList.length).wrote x = true := fun x e => by
          refine (trace_mono2 hmono hw0 t (m + 1) _ (by omega) (Nat.le_refl _)).wr x ?_
          rw [hh, wrote_or]; simp only [IHeap.wrote] at e; simp [e]
        have back0 : ∀ b p oo, φ0 b = some p → (hs m).get b = some oo → ∃ o0, (hs 0).get b = some o0 ∧ o0.writes = oo.writes := by
          intro b p oo e1 e2
          have hlt := hwm.lt e2
          have hlt0 : b < (hs 0).next := by
            rcases Nat.lt_or_ge b (hs 0).next with h | h
            · exact h
            · rw [hpos b h (Nat.lt_of_lt_of_le hlt (hnext m (by omega)))] at e1; cases e1
          exact (trace_mono2 hmono hw0 t 0 m (Nat.zero_le _) (by omega)).dead b oo hlt0 e2
        refine oper_sim hcall hwmr hrelm (fun x h1 h2 => hnone x h1 (by omega)) (hoper hok) hi ?_
        intro φ' v' w' hv hst
        let G' : Nat → Option IObj := fun x => if x < (hs m').next then (hs m').get x else G x
        have hG' : ∀ x, G' x = if x < (hs m').next then (hs m').get x else G x := fun _ => rfl
        have hg : GRel φ' G' w' := by
          refine combW I.g hst hwmr (fun x hx => I.g1 x hx) (fun x hx => ?_) (fun x hx hφ => ?_) (fun x h1 h2 => hnone x h1 (by omega))
          · have hx1 : x < (hs (m + 1)).next := by omega
            rw [hG', if_pos (by omega), trace_keep hmono hw0 t (m + 1) hx1 m' hm1 hm2 fun k h1 h2 h3 => absurd (hq k h1 h2) h3]
            exact (fresh_of hh x).2
          · rw [hG']
            split
            · rename_i hlt
              cases e : φ x with
              | none => exact absurd e hφ
              | some p =>
                have h0' := hpos x (by have := (trace_mono2 hmono hw0 t 0 (m + 1) (Nat.zero_le _) (by omega)).next; omega) (Nat.lt_of_lt_of_le hlt (hnext m' hm2))
                obtain ⟨⟨i, i1, i2, i3, i4⟩, _⟩ := I.dom x p h0' e
                have him : m < i := by
                  rcases Nat.lt_or_ge m i with h | h
                  · exact h
                  · have := (trace_mono2 hmono hw0 t (i + 1) (m + 1) (by omega) (by omega)).next; omega
                have him' : i < m' := by
                  rcases Nat.lt_or_ge i m' with h | h
                  · exact h
                  · have := (trace_mono2 hmono hw0 t m' i h (by omega)).next; omega
                obtain ⟨oi, hoi, _, di⟩ := t.step i (Nat.zero_le _) (by omega)
                have hset : pureOp (Env.of P) oi.op = true ∨ isLoad oi.op = true ∨ allocOp oi.op = true := by
                  rcases barrier_spec hbar hoi (by omega) with h' | h' | h' | h'
                  · exact .inl h'
                  · exact .inr (.inl h')
                  · exact .inr (.inr h')
                  · exfalso
                    rw [Nat.min_eq_right (by omega), Nat.max_eq_left (by omega)] at h'
                    have := hclosed 40 m i h' i2
                    rw [hSj] at this; cases this
                have hsingle : bl i = some (hs i).next ∧ x = (hs i).next := by
                  cases di with
                  | off _ _ hh2 _ _ => rw [hh2] at i4; omega
                  | loud _ _ _ _ _ _ hz2 _ _ hm2' => exact absurd (hq i him him') (by rw [hm2']; intro e; exact hz2 (by rw [e]; simp))
                  | quiet hw2 hok2 g2 hi2 hh2 hl2 hz2 hb2 hm2' =>
                    exfalso
                    have hgx : g2.next = (hs i).next := by
                      rcases hset with h' | h' | h'
                      · rw [(iop_pure h' hi2).1]; rfl
                      · cases hop : oi.op <;> simp [hop, isLoad] at h'
                        rw [hop] at hi2
                        rw [(iop_load hi2).1]; rfl
                      · cases hop : oi.op <;> simp [hop, allocOp] at h' <;> simp [hop, loadsOf] at hl2
                        rename_i r; cases r <;> simp [hop, loadsOf] at h' hl2
                    rw [(fresh_of hh2 0).1, hgx] at i4; omega
                  | float hw2 hok2 g2 hi2 hh2 b2 hl2 hb2 hm2' =>
                    rcases hset with h' | h' | h'
                    · exfalso; rw [(fresh_of hh2 0).1, (iop_pure h' hi2).1] at i4; simp only [IHeap.reset] at i4; omega
                    · exfalso
                      cases hop : oi.op <;> simp [hop, isLoad] at h'
                      rw [hop] at hi2
                      rw [(fresh_of hh2 0).1, (iop_load hi2).1] at i4; simp only [IHeap.reset] at i4; omega
                    · obtain ⟨ob2, hgr2, _⟩ := iop_alloc h' hi2
                      rw [(fresh_of hh2 0).1, hgr2] at i4
                      simp only [IHeap.next_new, IHeap.reset] at i4
                      refine ⟨?_, by omega⟩
                      rw [hb2]
                      cases hop : oi.op with
                      | alloc e => simp [hop, loadsOf] at hl2; rw [hl2]
                      | box e x => simp [hop, loadsOf] at hl2; rw [hl2]
                      | buildSlice t l p => simp [hop, loadsOf] at hl2; rw [hl2]
                      | makeMap t r => cases r with
                        | none => simp [hop, loadsOf] at hl2; rw [hl2]
                        | some r => simp [hop, allocOp] at h'
                      | _ => simp [hop, allocOp] at h'
                obtain ⟨hs1, hs2⟩ := hsingle
                rw [hs2, I.g3 i him i1 i2 hs1]
                exact trace_keep hmono hw0 t (i + 1) (by omega) m' (by omega) hm2 fun k h1 h2 h3 => absurd (hq k (by omega) h2) h3
            · rfl
        have hadd' : ∀ i, listed.getD i false = true → addS (fun i => listed.getD i false) m i = true := fun i e => by simp [addS, e]
        have hsub : ∀ i, addS (fun i => listed.getD i false) m i = true → i ≠ m → listed.getD i false = true := fun i e hne => by simpa [addS, hne] using e
        refine fin _ _ _ m' G' ⟨?_, hm2, ?_, ?_, by rw [put_defers]; exact I.defers, ?_, hg, fun x hx => by rw [hG', if_pos hx], ?_, Emb.le_trans I.le hst.ext, ?_, ⟨Nat.le_trans I.size.1 hst.size, hst.calm.1.trans I.size.2.1, hst.calm.2.trans I.size.2.2.1, fun x => (hst.cold x).trans (I.size.2.2.2 x)⟩, ?_⟩
        · intro i oi hi' hSi e he hb'
          by_cases hij : i = m
          · subst hij; rw [hjo] at hi'; cases hi'; exact hadd' _ (k3 e he hb')
          · exact hadd' _ (I.closed i oi hi' (hsub i hSi hij) e he hb')
        · intro k h1 h2
          rcases Nat.lt_trichotomy k m with h | h | h
          · exact hadd' _ (I.before k h h2)
          · subst h; simp [addS]
          · exact absurd (hq k h h1) h2
        · intro hlt
          have h4 := hm4 hlt
          simp only [decide_eq_true_eq] at h4
          refine ⟨h4, ?_⟩
          have h5 := hmulate m' (by omega) hlt h4
          have h6 : m' ≠ m := by omega
          simp [addS, h6]; simpa using h5
        · have hval := val_add (tm0 := tm) (dst := fun k => (ops.toList[k]?).bind (·.dst)) (vs := vs) (fun i => listed.getD i false) ops.toList.length m hjl hSj (by
            intro x k hd' hjk hkn hSk hdk
            simp only [hjo, Option.bind_some] at hd'
            cases hk : ops.toList[k]? with
            | none => simp [hk] at hdk
            | some y =>
              simp only [hk, Option.bind_some] at hdk
              have := temps_spec htemps hjo hk hd' (by omega) (.inl hdk)
              rw [Nat.min_eq_left (by omega), Nat.max_eq_right (by omega)] at this
              have := hclosed 40 m k this hSk
              rw [hSj] at this; cases this)
          rw [hval]
          have hdst : (ops.toList[m]?).bind (·.dst) = o.dst := by rw [hjo]; rfl
          simp only [hdst]
          exact put_rel ⟨I.rel.1, fun i x y e1 e2 => (I.rel.2 i x y e1 e2).ext hst.ext⟩ _ hv
        · intro i h1 h2 h3 h4
          have := (trace_mono2 hmono hw0 t m' i (by omega) (by omega)).next
          rw [hG', if_neg (by omega)]
          exact I.g3 i (by omega) h2 (hsub i h3 (by omega)) h4
        · intro b p e0 e1
          cases e : φ b with
          | some q =>
            have := hst.ext b q e; rw [e1] at this; cases this
            obtain ⟨⟨i, a1, a2, a3⟩, a4⟩ := I.dom b p e0 e
            exact ⟨⟨i, a1, hadd' i a2, a3⟩, a4⟩
          | none =>
            obtain ⟨a1, a2, a3⟩ := hst.fresh b p e e1
            refine ⟨⟨m, hjl, by simp [addS], a1, by omega⟩, ?_⟩
            rcases a3 with a3 | ⟨b0, p0, o0, c1, c2, c3, c4, c5⟩
            · exact .inl (Nat.le_trans I.size.1 a3)
            · cases e' : φ0 b0 with
              | some q =>
                have := I.le b0 q e'; rw [c1] at this; cases this
                obtain ⟨o1, d1, d2⟩ := back0 b0 p0 o0 e' c3
                exact .inr ⟨b0, p0, o1, e', c2, d1, by rw [d2, c4], hgn b0 c5⟩
              | none =>
                rcases (I.dom b0 p0 e' c1).2 with d | ⟨b1, p1, o1, d1, d2, d3, d4, d5⟩
                · exact .inl (by omega)
                · exact .inr ⟨b1, p1, o1, d1, d2.trans c2, d3, d4, d5⟩
        · intro r hr hc
          rw [hst.frame r (Nat.lt_of_lt_of_le hr I.size.1) fun b p oo e1 e2 e3 e4 => ?_]
          · exact I.frame r hr hc
          · cases e' : φ0 b with
            | some q =>
              have := I.le b q e'; rw [e1] at this; cases this
              obtain ⟨o1, d1, d2⟩ := back0 b p oo e' e3
              have := hc b p o1 e' e2 d1 (by rw [d2, e4])
              cases e9 : g.wrote b with
              | false => rfl
              | true => rw [hgn b e9] at this; cases this
            | none =>
              rcases (I.dom b p e' e1).2 with d | ⟨b1, p1, o1, d1, d2, d3, d4, d5⟩
              · omega
              · have := hc b1 p1 o1 d1 (d2.trans e2) d3 d4
                rw [d5] at this; cases this

theorem irunDraw_imono {E : Env} {call : ICall} (hc : CallMono call) (ops : List Oper) (st : Nat) (l : List Oper) : ∀ {j : Nat} {rd mu : List (Nat × Nat)} {tm tm' : List Value} {h h' : IHeap}, h.wf → irunDraw E call ops st l j rd mu tm h = some (tm', h') → IMono h h' ∧ h'.wf := by
  have one : ∀ {ρ : Operand → Value} {op : Op} {h g : IHeap} {v : Value}, h.wf → iop E call ρ op { next := h.next, wr := 0, t := h.t } = some (v, g) → IMono h { next := g.next, wr := h.wr ||| g.wr, t := g.t } ∧ IHeap.wf { next := g.next, wr := h.wr ||| g.wr, t := g.t } := by
    intro ρ op h g v hw hi
    obtain ⟨m1, w1⟩ := iop_imono hc (IHeap.reset_wf hw) hi
    refine ⟨⟨m1.next, fun x e => ?_, fun x hx e => ?_, fun x o' hx e => m1.dead x o' hx e⟩, w1⟩
    · rw [wrote_or]; simp only [IHeap.wrote] at e; simp [e]
    · rw [wrote_or, Bool.or_eq_false_iff] at e; exact m1.same x hx e.2
  induction l with
  | nil => intro j rd mu tm tm' h h' hw hr; simp only [irunDraw, Option.some.injEq, Prod.mk.injEq] at hr; obtain ⟨rfl, rfl⟩ := hr; exact mono_refl hw
  | cons o rest ih =>
    intro j rd mu tm tm' h h' hw hr
    simp only [irunDraw] at hr
    split at hr
    · split at hr
      · split at hr
        · rename_i v g hi
          obtain ⟨m1, w1⟩ := one hw hi
          split at hr
          · split at hr
            · obtain ⟨m2, w2⟩ := ih w1 hr; exact ⟨m1.trans m2, w2⟩
            · cases hr
          · split at hr
            · obtain ⟨m2, w2⟩ := ih w1 hr; exact ⟨m1.trans m2, w2⟩
            · split at hr
              · obtain ⟨m2, w2⟩ := ih w1 hr; exact ⟨m1.trans m2, w2⟩
              · cases hr
        · cases hr
      · cases hr
    · exact ih hw hr

theorem draw_sim {call : ICall} (hcall : CallSim P call) (hmono : CallMono call) (ops : Array Oper) (hd : drawOK ops.toList = true) {φ : Emb} {tm tm' : List Value} {h h' : IHeap} {a : Act} {w : World} {Q : Exit → Act → World → Prop}
    (hf : FRelA φ tm h a w) (hroom : Room φ h h') (hr : irunDraw (Env.of P) call ops.toList h.next ops.toList 0 [] [] tm h = some (tm', h'))
    (hQ : ∀ φ' a' w', FRelA φ' tm' h' a' w' → Step φ h w φ' h' w' → Q .normal a' w') : wpAny P .any ops Q ops.size (Array.replicate ops.size false) a { w with drawn := w.drawn + 1 } := by
  obtain ⟨hs, tms, vs, bl, mk, t⟩ := dtrace ops.toList h.next ops.toList 0 [] [] tm h tm' h' rfl hr
  have hn0 : ∀ j, (Array.replicate ops.size false).getD j false = false := by
    intro j
    simp only [Array.getD_eq_getD_getElem?, Array.getElem?_replicate]
    split <;> rfl
  obtain ⟨m, _, hm2, hm3, hm4⟩ := least_from (fun k => decide (mk k ≠ 0)) ops.toList.length 0 (Nat.zero_le _)
  have hq : ∀ k, k < m → mk k = 0 := fun k h2 => by have := hm3 k (Nat.zero_le _) h2; simpa using this
  have hmn := (trace_mono2 hmono hf.wf t 0 m (Nat.zero_le _) hm2).next
  have hnn := (trace_mono2 hmono hf.wf t m ops.toList.length hm2 (Nat.le_refl _)).next
  have hend : hs ops.toList.length = h' := by have := t.hn; simpa using this
  have hwfm := (trace_mono hmono hf.wf t m hm2).2
  let G : Nat → Option IObj := fun x => if x < (hs m).next then (hs m).get x else none
  have hG : ∀ x, G x = if x < (hs m).next then (hs m).get x else none := fun _ => rfl
  refine draw_main hcall hmono hd hf.wf t (w0 := w) hroom hQ ops.size (Array.replicate ops.size false) a _ φ m G (by simp) ?_ ?_
  · have hno : ∀ {k : Nat} {C : Prop}, (Array.replicate ops.size false).getD k false = true → C := fun {k} _ e => by rw [hn0 k] at e; cases e
    refine ⟨fun j o _ e => hno e, hm2, fun k h1 h2 => absurd (hq k h1) h2, fun hlt => ?_, hf.defers, ?_, ?_, fun b hb => by rw [hG, if_pos hb], fun i h1 h2 h3 => hno h3, φ.le_refl,
      fun b p e e' => (by rw [e] at e'; cases e'), ⟨Nat.le_refl _, rfl, rfl, fun _ => rfl⟩, fun r hr hc => rfl⟩
    · have := hm4 hlt
      simp only [decide_eq_true_eq] at this
      exact ⟨this, hn0 m⟩
    · have : val tm (fun k => (ops.toList[k]?).bind (·.dst)) vs (fun i => (Array.replicate ops.size false).getD i false) ops.toList.length = tm := by
        apply List.ext_getElem?
        intro x
        rw [val_skip _ x 0 ops.toList.length (Nat.zero_le _) (fun k _ _ h3 => by simp only [hn0] at h3; cases h3)]
        rfl
      rw [this]; exact hf.tmps
    · refine (hf.heap.g.sub fun b o hφ e => ?_).heap rfl
      rw [hG] at e
      split at e
      · rename_i hlt
        have hb0 : b < (hs 0).next := by
          rcases Nat.lt_or_ge b (hs 0).next with h1 | h1
          · exact h1
          · rw [t.h0] at h1
            exact absurd (hroom b h1 (by rw [← hend]; omega)) hφ
        rw [trace_keep hmono hf.wf t 0 hb0 m (Nat.zero_le _) hm2 fun k _ h2 h3 => absurd (hq k h2) h3, t.h0] at e
        exact e
      · cases e
  · refine Nat.le_trans (List.length_filter_le _ _) ?_
    simp

end
end Go.Ideal

/- Code and calls: what the ideal machine answers, the model's machine answers, whatever its tape. -/
namespace Go.Ideal
open Go

def IEx.to : IEx → Exit
  | .normal => .normal
  | .exit id => .exit id
  | .ret => .ret

section
variable {P : Program}

theorem icallBy_imono {E : Env} {pr : Prims} {run : Code → List Value → IHeap → Option (IEx × List Value × IHeap)} (hp : ∀ f g, pr f = some g → CallMono fun _ => g)
    (hrun : ∀ c tm h e tm' h', run c tm h = some (e, tm', h') → h.wf → IMono h h' ∧ h'.wf) : CallMono (icallBy E pr run) := by
  intro f args h v h' hc hw
  unfold icallBy at hc
  split at hc
  · rename_i g hg; exact hp f g hg f _ _ _ _ hc hw
  · split at hc
    · split at hc
      · split at hc
        · rename_i hr
          split at hc
          · cases hc; exact hrun _ _ _ _ _ _ hr hw
          · cases hc
        · rename_i hr
          split at hc
          · cases hc; exact hrun _ _ _ _ _ _ hr hw
          · cases hc
        · cases hc
      · cases hc
    · cases hc

theorem icode_imono {E : Env} {pr : Prims} (hp : ∀ f g, pr f = some g → CallMono fun _ => g) (n : Nat) : ∀ c tm h e tm' h', icode E pr n c tm h = some (e, tm', h') → h.wf → IMono h h' ∧ h'.wf := by
  induction n with
  | zero => intro c tm h e tm' h' hr _; cases hr
  | succ n ih =>
    intro c tm h e tm' h' hr hw
    have hc := icallBy_imono (E := E) hp ih
    cases c with
    | skip => cases hr; exact mono_refl hw
    | label l => cases hr; exact mono_refl hw
    | exit id => cases hr; exact mono_refl hw
    | ret => cases hr; exact mono_refl hw
    | region id ops draw =>
      simp only [icode] at hr
      split at hr
      · rename_i tm1 h1 hx
        cases hr
        split at hx
        · split at hx
          · exact irunDraw_imono hc _ _ _ hw hx
          · cases hx
        · exact irun_imono hc _ _ hw hx
      · cases hr
    | seq a b =>
      simp only [icode] at hr
      split at hr
      · rename_i hx
        obtain ⟨m1, w1⟩ := ih _ _ _ _ _ _ hx hw
        obtain ⟨m2, w2⟩ := ih _ _ _ _ _ _ hr w1
        exact ⟨m1.trans m2, w2⟩
      · exact ih _ _ _ _ _ _ hr hw
    | cond c x y =>
      simp only [icode] at hr
      split at hr
      · exact ih _ _ _ _ _ _ hr hw
      · exact ih _ _ _ _ _ _ hr hw
      · cases hr
    | block id b =>
      simp only [icode] at hr
      split at hr
      · rename_i hx
        split at hr
        · cases hr; exact ih _ _ _ _ _ _ hx hw
        · cases hr; exact ih _ _ _ _ _ _ hx hw
      · exact ih _ _ _ _ _ _ hr hw
    | loop b =>
      simp only [icode] at hr
      split at hr
      · rename_i hx
        obtain ⟨m1, w1⟩ := ih _ _ _ _ _ _ hx hw
        obtain ⟨m2, w2⟩ := ih _ _ _ _ _ _ hr w1
        exact ⟨m1.trans m2, w2⟩
      · exact ih _ _ _ _ _ _ hr hw
    | rangeFunc f p a b => simp only [icode] at hr; cases hr
    | scope b => simp only [icode] at hr; cases hr
    | goto l => simp only [icode] at hr; cases hr
    | refuse w => simp only [icode] at hr; cases hr

theorem result1_sim {φ : Emb} {tm : List Value} {h : IHeap} {a : Act} {w : World} (hf : FRelA φ tm h a w) {r : ResultVar} {v : Value} (hr : iresult1 (Env.of P) tm h r = some v) :
    ∃ v', ((match r with | .tmp t => pure (a.tmps.getD t undef) | .cell x t => do loadVar t (← asAddr (a.tmps.getD x undef)) : Sem Value)).run P w = .ok v' w ∧ VRel φ v v' := by
  cases r with
  | tmp t => simp only [iresult1, Option.some.injEq] at hr; subst hr; exact ⟨_, rfl, tmp_rel hf.tmps t⟩
  | cell x t =>
    simp only [iresult1] at hr
    have hx := tmp_rel hf.tmps x
    obtain ⟨v', e1, e2⟩ := load_sim (P := P) hf.heap hx hr
    refine ⟨v', ?_, e2⟩
    show (do loadVar t (← asAddr (a.tmps.getD x undef)) : Sem Value).run P w = .ok v' w
    generalize a.tmps.getD x undef = u' at hx e1 ⊢
    generalize tm.getD x undef = u at hx hr
    cases hx with
    | ptr b off p hp => simpa [Instr.loadAt, Instr.sureAddr, asAddr] using e1
    | _ => simp [iload] at hr

theorem resultL_sim {φ : Emb} {tm : List Value} {h : IHeap} {a : Act} {w : World} (hf : FRelA φ tm h a w) (l : List ResultVar) : ∀ (vs : List Value), iresultL (Env.of P) tm h l = some vs →
    ∃ vs', (l.mapM fun (r : ResultVar) => (match r with | .tmp t => pure (a.tmps.getD t undef) | .cell x t => do loadVar t (← asAddr (a.tmps.getD x undef)) : Sem Value)).run P w = .ok vs' w ∧ LRel φ vs vs' := by
  induction l with
  | nil => intro vs h; simp only [iresultL, Option.some.injEq] at h; subst h; exact ⟨[], rfl, .nil φ⟩
  | cons r rs ih =>
    intro vs h
    simp only [iresultL] at h
    split at h
    · rename_i v vs0 h1 h2
      simp only [Option.some.injEq] at h; subst h
      obtain ⟨v', e1, e2⟩ := result1_sim hf h1
      obtain ⟨vs', e3, e4⟩ := ih _ h2
      refine ⟨v' :: vs', ?_, .cons e2 e4⟩
      simp only [List.mapM_cons, Sem.run_bind]
      rw [e1]
      simp only [Result.andThen_ok, e3, Sem.run_pure]
    · cases h

theorem results_sim {φ : Emb} {tm : List Value} {h : IHeap} {a : Act} {w : World} (hf : FRelA φ tm h a w) {fn : Func} {v : Value} (hr : iresults (Env.of P) fn tm h = some v) :
    ∃ v', (results fn a.tmps).run P w = .ok v' w ∧ VRel φ v v' := by
  unfold iresults at hr
  cases hl : iresultL (Env.of P) tm h fn.results.toList with
  | none => rw [hl] at hr; cases hr
  | some vs =>
    rw [hl] at hr
    obtain ⟨vs', e1, e2⟩ := resultL_sim hf _ _ hl
    have hrun : (results fn a.tmps).run P w = .ok (if h : vs'.toArray.size = 1 then vs'.toArray[0] else .tuple vs'.toArray) w := by
      unfold results
      rw [Array.mapM_eq_mapM_toList]
      simp only [Sem.run_bind, Sem.run_map]
      erw [e1]
      rfl
    rw [hrun]
    cases vs with
    | nil =>
      have := e2.nil_left; subst this
      simp only [Option.some.injEq] at hr; subst hr
      exact ⟨.tuple #[], by simp, .tuple' e2⟩
    | cons x xs =>
      obtain ⟨x', xs', rfl, e3, e4⟩ := e2.cons_left
      cases xs with
      | nil =>
        have := e4.nil_left; subst this
        simp only [Option.some.injEq] at hr; subst hr
        exact ⟨x', by simp, e3⟩
      | cons y ys =>
        obtain ⟨y', ys', rfl, e5, e6⟩ := e4.cons_left
        simp only [Option.some.injEq] at hr; subst hr
        exact ⟨.tuple (x' :: y' :: ys').toArray, by simp, .tuple' e2⟩

theorem icallBy_sim {pr : Prims} {run : Code → List Value → IHeap → Option (IEx × List Value × IHeap)} (hp : ∀ f g, pr f = some g → ∀ args h v h', g args h = some (v, h') → ∀ (φ : Emb) (w : World) (args' : List Value), h.wf → HRel φ h w → Room φ h h' → LRel φ args args' →
      Calls P f args'.toArray w fun e w' => ∃ φ' v', e = .returned v' ∧ VRel φ' v v' ∧ Step φ h w φ' h' w')
    (hrun : ∀ c tm h e tm' h', run c tm h = some (e, tm', h') → ∀ (φ : Emb) (a : Act) (w : World) (Q : Exit → Act → World → Prop), FRelA φ tm h a w → Room φ h h' →
      (∀ φ' a' w', FRelA φ' tm' h' a' w' → Step φ h w φ' h' w' → Q e.to a' w') → c.wp P Q a w) : CallSim P (icallBy (Env.of P) pr run) := by
  intro f args h v h' hc φ w args' hw hr hroom hargs
  unfold icallBy at hc
  split at hc
  · rename_i g hg; exact hp f g hg args h v h' hc φ w args' hw hr hroom hargs
  · split at hc
    · rename_i fn hfn
      split at hc
      · rename_i c hb
        have hlen := hargs.1
        have hframe : FRelA φ (args ++ List.replicate (fn.ntmps - args.length) undef) h { tmps := args'.toArray ++ Array.replicate (fn.ntmps - args'.toArray.size) undef, defers := [] } w := by
          refine ⟨rfl, ?_, hr, hw⟩
          have : (args'.toArray ++ Array.replicate (fn.ntmps - args'.toArray.size) undef).toList = args' ++ List.replicate (fn.ntmps - args.length) undef := by simp [hlen]
          rw [this]
          exact hargs.append (.replicate _ (.undef φ))
        refine calls_of_wp (fn := fn) (c := c) hfn hb ?_
        split at hc
        · rename_i tm1 h1 hx
          split at hc
          · rename_i u hu
            simp only [Option.some.injEq, Prod.mk.injEq] at hc; obtain ⟨rfl, rfl⟩ := hc
            refine hrun _ _ _ _ _ _ hx φ _ w _ hframe hroom ?_
            intro φ' a' w' hf hs
            obtain ⟨v', e1, e2⟩ := results_sim hf hu
            exact ⟨hf.defers, v', e1, φ', v', rfl, e2, hs⟩
          · cases hc
        · rename_i tm1 h1 hx
          split at hc
          · rename_i u hu
            simp only [Option.some.injEq, Prod.mk.injEq] at hc; obtain ⟨rfl, rfl⟩ := hc
            refine hrun _ _ _ _ _ _ hx φ _ w _ hframe hroom ?_
            intro φ' a' w' hf hs
            obtain ⟨v', e1, e2⟩ := results_sim hf hu
            exact ⟨hf.defers, v', e1, φ', v', rfl, e2, hs⟩
          · cases hc
        · cases hc
      · cases hc
    · cases hc

/- the primitives do what the machine does -/
structure PrimsOK (P : Program) (pr : Prims) : Prop where
  mono : ∀ f g, pr f = some g → CallMono fun _ => g
  sim : ∀ f g, pr f = some g → ∀ args h v h', g args h = some (v, h') → ∀ (φ : Emb) (w : World) (args' : List Value), h.wf → HRel φ h w → Room φ h h' → LRel φ args args' →
      Calls P f args'.toArray w fun e w' => ∃ φ' v', e = .returned v' ∧ VRel φ' v v' ∧ Step φ h w φ' h' w'

theorem PrimsOK.none (P : Program) : PrimsOK P fun _ => Option.none := ⟨fun f g h => (by cases h), fun f g h => (by cases h)⟩

theorem icode_sim {pr : Prims} (hp : PrimsOK P pr) (hm : P.follows .mixedOrders = true) (n : Nat) :
    (∀ c tm h e tm' h', icode (Env.of P) pr n c tm h = some (e, tm', h') → ∀ (φ : Emb) (a : Act) (w : World) (Q : Exit → Act → World → Prop), FRelA φ tm h a w → Room φ h h' →
      (∀ φ' a' w', FRelA φ' tm' h' a' w' → Step φ h w φ' h' w' → Q e.to a' w') → c.wp P Q a w) ∧
    (∀ b tm h e tm' h', icode (Env.of P) pr n (.loop b) tm h = some (e, tm', h') → ∀ (φ : Emb) (a : Act) (w : World) (Q : Exit → Act → World → Prop), FRelA φ tm h a w → Room φ h h' →
      (∀ φ' a' w', FRelA φ' tm' h' a' w' → Step φ h w φ' h' w' → Q e.to a' w') → Code.rounds P b Q n a w) := by
  induction n with
  | zero => exact ⟨fun c tm h e tm' h' hr => (by cases hr), fun c tm h e tm' h' hr => (by cases hr)⟩
  | succ n ih =>
    obtain ⟨ih1, ih2⟩ := ih
    have hcs : CallSim P (icallBy (Env.of P) pr (icode (Env.of P) pr n)) := icallBy_sim hp.sim ih1
    have him := icode_imono (E := Env.of P) hp.mono n
    have hcm : CallMono (icallBy (Env.of P) pr (icode (Env.of P) pr n)) := icallBy_imono hp.mono him
    have loopcase : ∀ b tm h e tm' h', icode (Env.of P) pr (n + 1) (.loop b) tm h = some (e, tm', h') → ∀ (φ : Emb) (a : Act) (w : World) (Q : Exit → Act → World → Prop), FRelA φ tm h a w → Room φ h h' →
        (∀ φ' a' w', FRelA φ' tm' h' a' w' → Step φ h w φ' h' w' → Q e.to a' w') → Code.rounds P b Q (n + 1) a w := by
      intro b tm h e tm' h' hr φ a w Q hf hroom hQ
      simp only [icode] at hr
      rw [rounds_succ]
      split at hr
      · rename_i tm1 h1 hx
        obtain ⟨m1, w1⟩ := him _ _ _ _ _ _ hx hf.wf
        obtain ⟨m2, _⟩ := him _ _ _ _ _ _ hr w1
        refine ih1 _ _ _ _ _ _ hx φ a w _ hf (hroom.left m2.next) ?_
        intro φ1 a1 w1' hf1 hs1
        exact ih2 _ _ _ _ _ _ hr φ1 a1 w1' Q hf1 (hs1.room hroom) fun φ2 a2 w2 hf2 hs2 => hQ φ2 a2 w2 hf2 (hs1.trans hs2 (hroom.left m2.next))
      · rename_i hne
        refine ih1 _ _ _ _ _ _ hr φ a w _ hf hroom ?_
        intro φ1 a1 w1' hf1 hs1
        cases e with
        | normal => exact absurd hr (hne _ _)
        | exit id => exact hQ φ1 a1 w1' hf1 hs1
        | ret => exact hQ φ1 a1 w1' hf1 hs1
    refine ⟨?_, loopcase⟩
    intro c tm h e tm' h' hr φ a w Q hf hroom hQ
    cases c with
    | skip => cases hr; exact wp_skip (hQ φ a w hf (.refl hf.wf hf.heap))
    | label l => cases hr; exact wp_label (hQ φ a w hf (.refl hf.wf hf.heap))
    | exit id => cases hr; exact wp_exit (hQ φ a w hf (.refl hf.wf hf.heap))
    | ret => cases hr; exact wp_ret (hQ φ a w hf (.refl hf.wf hf.heap))
    | region id ops draw =>
      simp only [icode] at hr
      split at hr
      · rename_i tm1 h1 hx
        cases hr
        cases draw with
        | true =>
          simp only [if_true] at hx
          split at hx
          · rename_i hd
            exact wp_region_any hm (draw_sim hcs hcm ops hd hf hroom hx hQ)
          · cases hx
        | false =>
          simp only [Bool.false_eq_true, if_false] at hx
          refine wp_region ?_
          have := region_sim hcs hcm ops ops.toList 0 rfl hf hroom hx hQ
          rw [List.range_eq_range']
          simpa using this
      · cases hr
    | seq x y =>
      simp only [icode] at hr
      refine wp_seq ?_
      split at hr
      · rename_i tm1 h1 hx
        obtain ⟨m1, w1⟩ := him _ _ _ _ _ _ hx hf.wf
        obtain ⟨m2, _⟩ := him _ _ _ _ _ _ hr w1
        refine ih1 _ _ _ _ _ _ hx φ a w _ hf (hroom.left m2.next) ?_
        intro φ1 a1 w1' hf1 hs1
        exact ih1 _ _ _ _ _ _ hr φ1 a1 w1' Q hf1 (hs1.room hroom) fun φ2 a2 w2 hf2 hs2 => hQ φ2 a2 w2 hf2 (hs1.trans hs2 (hroom.left m2.next))
      · rename_i hne
        refine ih1 _ _ _ _ _ _ hr φ a w _ hf hroom ?_
        intro φ1 a1 w1' hf1 hs1
        cases e with
        | normal => exact absurd hr (hne _ _)
        | exit id => exact hQ φ1 a1 w1' hf1 hs1
        | ret => exact hQ φ1 a1 w1' hf1 hs1
    | cond c x y =>
      simp only [icode] at hr
      have hc : ∀ b, ieval tm c = .bool b → a.eval c = .bool b := by
        intro b hb
        cases c with
        | tmp t => exact (bool_rel (tmp_rel hf.tmps t) b).2 hb
        | const v => exact hb
        | global g => cases hb
        | func f => cases hb
      split at hr
      · rename_i hb; exact wp_cond_true (hc _ hb) (ih1 _ _ _ _ _ _ hr φ a w Q hf hroom hQ)
      · rename_i hb; exact wp_cond_false (hc _ hb) (ih1 _ _ _ _ _ _ hr φ a w Q hf hroom hQ)
      · cases hr
    | block id b =>
      simp only [icode] at hr
      refine wp_block ?_
      split at hr
      · rename_i id' tm1 h1 hx
        split at hr
        · rename_i he
          cases hr
          refine ih1 _ _ _ _ _ _ hx φ a w _ hf hroom ?_
          intro φ1 a1 w1' hf1 hs1
          simp only [IEx.to, Exit.inBlock, he, if_true]
          exact hQ φ1 a1 w1' hf1 hs1
        · rename_i he
          cases hr
          refine ih1 _ _ _ _ _ _ hx φ a w _ hf hroom ?_
          intro φ1 a1 w1' hf1 hs1
          simp only [IEx.to, Exit.inBlock, he, if_false]
          exact hQ φ1 a1 w1' hf1 hs1
      · rename_i hne
        refine ih1 _ _ _ _ _ _ hr φ a w _ hf hroom ?_
        intro φ1 a1 w1' hf1 hs1
        cases e with
        | normal => exact hQ φ1 a1 w1' hf1 hs1
        | exit id' => exact absurd hr (hne _ _ _)
        | ret => exact hQ φ1 a1 w1' hf1 hs1
    | loop b => exact wp_loop_rounds (n + 1) (loopcase b tm h e tm' h' hr φ a w Q hf hroom hQ)
    | rangeFunc f p a b => simp only [icode] at hr; cases hr
    | scope b => simp only [icode] at hr; cases hr
    | goto l => simp only [icode] at hr; cases hr
    | refuse w => simp only [icode] at hr; cases hr

/- WHAT THE IDEAL MACHINE ANSWERS TO A CALL, THE MODEL'S MACHINE ANSWERS. -/
theorem icall_sim {pr : Prims} (hp : PrimsOK P pr) (hm : P.follows .mixedOrders = true) (n : Nat) : CallSim P (icall (Env.of P) pr n) :=
  icallBy_sim hp.sim (icode_sim hp hm n).1

theorem icall_imono {pr : Prims} (hp : PrimsOK P pr) (n : Nat) : CallMono (icall (Env.of P) pr n) :=
  icallBy_imono hp.mono (icode_imono hp.mono n)

end
end Go.Ideal
