/-
  Maps, as lists of key and value in the order of their coming: look-up, store, delete; for keys that are integers or strings.
-/
import Derived.Test.YtgomofeidghmiaaGreatMem
import Derived.MapKept
namespace Go.Proofs.YtgomofeidghmiaaGreat
open Go.RowKit

/-- a type of keys: 'kv k' is the key's value; the model finds it by equality -/
structure KeyT (P : Program) (kt : TypeId) {κ : Type} [DecidableEq κ] (kv : κ → Value) : Prop where
  find : ∀ (k : κ) (es : List MapEntry) (ks : List κ) (w : World), es.map (·.key) = ks.map kv → (Instr.findKey kt (kv k) es).run P w = .ok ((ks.idxOf? k).bind fun i => (es[i]?).map fun e => (i, e.val)) w
  check : ∀ (k : κ) (e : Bool) (w : World), (Instr.checkKey e 10000 kt (kv k)).run P w = .ok () w
  bits : ∀ (k : κ), Instr.sameBits 10000 (kv k) (kv k) = true
  inj : ∀ a b : κ, kv a = kv b → a = b

theorem findNow_spec {kind : TypeDesc} {κ : Type} [DecidableEq κ] {kv : κ → Value} (h : ∀ a b : κ, Instr.sameNow kind (kv a) (kv b) = some (decide (a = b))) (k : κ) : ∀ (es : List MapEntry) (ks : List κ) (i : Nat), es.map (·.key) = ks.map kv →
    Instr.findNow kind (kv k) es i = some ((ks.idxOf? k).bind fun j => (es[j]?).map fun e => (i + j, e.val))
  | [], [], i, _ => by simp [Instr.findNow]
  | [], k' :: ks, i, he => by simp at he
  | e :: es, [], i, he => by simp at he
  | e :: es, k' :: ks, i, he => by
    simp only [List.map_cons, List.cons.injEq] at he
    unfold Instr.findNow
    rw [he.1, h]
    by_cases hk : k = k'
    · subst hk
      rw [List.idxOf?_cons, beq_self_eq_true]
      simp
    · simp only [hk, decide_false]
      rw [findNow_spec h k es ks (i + 1) he.2, List.idxOf?_cons]
      have : (k' == k) = false := by simp; exact fun e => hk e.symm
      rw [this]
      cases ks.idxOf? k with
      | none => rfl
      | some j =>
        simp [Nat.add_assoc, Nat.add_comm 1 j]

theorem int_key {P : Program} {kt : TypeId} {q : IntKind} (h : P.underlying kt = some (.int q)) : KeyT P kt (fun z : Int => Value.int q z) where
  find := fun k es ks w he => by
    have := findNow_spec (kind := .int q) (kv := fun z : Int => Value.int q z) (fun a b => by simp [Instr.sameNow]; rfl) k es ks 0 he
    simp only [Nat.zero_add] at this
    simp [Instr.findKey, run_underlying h, this]
  check := fun k e w => by
    show (Instr.checkKey e (9999 + 1) kt (.int q k)).run P w = _
    unfold Instr.checkKey
    simp [run_underlying h]
  bits := fun k => by simp [Instr.sameBits]
  inj := fun a b h => by injection h

theorem string_key {P : Program} {kt : TypeId} (h : P.underlying kt = some .string) : KeyT P kt (fun z : ByteArray => Value.string z) where
  find := fun k es ks w he => by
    have := findNow_spec (kind := .string) (kv := fun z : ByteArray => Value.string z) (fun a b => by
      simp only [Instr.sameNow, Option.some.injEq]
      rw [Bool.eq_iff_iff, MapKept.bytes_beq]; simp) k es ks 0 he
    simp only [Nat.zero_add] at this
    simp [Instr.findKey, run_underlying h, this]
  check := fun k e w => by
    show (Instr.checkKey e (9999 + 1) kt (.string k)).run P w = _
    unfold Instr.checkKey
    simp [run_underlying h]
  bits := fun k => by simp only [Instr.sameBits]; exact (MapKept.bytes_beq k k).2 rfl
  inj := fun a b h => by injection h

theorem erase_map {α β : Type} (f : α → β) (l : List α) (i : Nat) : (l.map f).eraseIdx i = (l.eraseIdx i).map f := by
  induction l generalizing i with
  | nil => rfl
  | cons x r ih => cases i with
    | zero => rfl
    | succ i => simp [ih]

/-! a list of key and value -/
section lists
variable {κ α : Type} [DecidableEq κ]
def aget (m : List (κ × α)) (k : κ) : Option α := ((m.map Prod.fst).idxOf? k).bind fun i => (m[i]?).map (·.2)
def aput (m : List (κ × α)) (k : κ) (v : α) : List (κ × α) := match (m.map Prod.fst).idxOf? k with
  | some i => m.set i (k, v)
  | none => m ++ [(k, v)]
def adel (m : List (κ × α)) (k : κ) : List (κ × α) := match (m.map Prod.fst).idxOf? k with
  | some i => m.eraseIdx i
  | none => m

theorem aidx_some {l : List κ} {x : κ} {i : Nat} (h : l.idxOf? x = some i) : l[i]? = some x := by
  induction l generalizing i with
  | nil => simp at h
  | cons y r ih =>
    simp only [List.idxOf?_cons] at h
    split at h
    · rename_i hxy
      cases h
      simp at hxy
      simp [hxy]
    · cases hr : r.idxOf? x with
      | none => rw [hr] at h; simp at h
      | some k =>
        rw [hr] at h
        simp at h
        subst h
        simpa using ih hr
theorem aidx_none {l : List κ} {x : κ} : l.idxOf? x = none ↔ x ∉ l := by
  induction l with
  | nil => simp
  | cons y r ih =>
    simp only [List.idxOf?_cons, List.mem_cons, not_or]
    split
    · rename_i h; simp at h; simp [h]
    · rename_i h
      have h' : ¬ x = y := by intro e; exact h (by simp [e])
      rw [Option.map_eq_none_iff, ih]
      simp [h']
theorem aidx_nodup {l : List κ} (hn : l.Nodup) {i : Nat} {x : κ} (h : l[i]? = some x) : l.idxOf? x = some i := by
  have hm : x ∈ l := List.mem_of_getElem? h
  cases hx : l.idxOf? x with
  | none => exact absurd hm (aidx_none.1 hx)
  | some k =>
    have hk := aidx_some hx
    have hkl := (List.getElem?_eq_some_iff.1 hk).1
    have := (List.getElem?_inj (i := k) (j := i) hkl hn).1 (by rw [hk, h])
    rw [this]
theorem aget_mem {m : List (κ × α)} {k : κ} {v : α} (h : aget m k = some v) : (k, v) ∈ m := by
  unfold aget at h
  cases hx : (m.map Prod.fst).idxOf? k with
  | none => rw [hx] at h; cases h
  | some i =>
    rw [hx] at h
    simp only [Option.bind_some] at h
    have h1 := aidx_some hx
    rw [List.getElem?_map] at h1
    cases hm : m[i]? with
    | none => rw [hm] at h; cases h
    | some p =>
      rw [hm] at h h1
      simp at h h1
      have := List.mem_of_getElem? hm
      rw [← h1, ← h]
      exact this
theorem aget_of_mem {m : List (κ × α)} {k : κ} {v : α} (hn : (m.map Prod.fst).Nodup) (h : (k, v) ∈ m) : aget m k = some v := by
  obtain ⟨i, hi⟩ := List.getElem?_of_mem h
  have : (m.map Prod.fst)[i]? = some k := by rw [List.getElem?_map, hi]; rfl
  unfold aget
  rw [aidx_nodup hn this]
  simp [hi]
theorem aget_none {m : List (κ × α)} {k : κ} : aget m k = none ↔ k ∉ m.map Prod.fst := by
  unfold aget
  constructor
  · intro h
    cases hx : (m.map Prod.fst).idxOf? k with
    | none => exact aidx_none.1 hx
    | some i =>
      rw [hx] at h
      have h1 := aidx_some hx
      rw [List.getElem?_map] at h1
      simp only [Option.bind_some] at h
      cases hm : m[i]? with
      | none => rw [hm] at h1; cases h1
      | some p => rw [hm] at h; cases h
  · intro h
    rw [aidx_none.2 h]; rfl

theorem aput_keys_nodup {m : List (κ × α)} (hn : (m.map Prod.fst).Nodup) (k : κ) (v : α) : ((aput m k v).map Prod.fst).Nodup := by
  unfold aput
  cases hx : (m.map Prod.fst).idxOf? k with
  | none =>
    simp only [List.map_append, List.map_cons, List.map_nil]
    rw [List.nodup_append]
    exact ⟨hn, by simp, fun a ha b hb => by simp at hb; subst hb; rintro rfl; exact aidx_none.1 hx ha⟩
  | some i =>
    have h1 := aidx_some hx
    simp only [List.map_set]
    have : (m.map Prod.fst).set i k = m.map Prod.fst := by
      apply List.ext_getElem?
      intro j
      rw [List.getElem?_set]
      split
      · rename_i hij; subst hij
        rw [if_pos (List.getElem?_eq_some_iff.1 h1).1, h1]
      · rfl
    rw [this]; exact hn
theorem aget_aput {m : List (κ × α)} (hn : (m.map Prod.fst).Nodup) (k k' : κ) (v : α) : aget (aput m k v) k' = if k = k' then some v else aget m k' := by
  have hn' := aput_keys_nodup hn k v
  by_cases h : k = k'
  · subst h
    rw [if_pos rfl]
    apply aget_of_mem hn'
    unfold aput
    cases hx : (m.map Prod.fst).idxOf? k with
    | none => simp
    | some i =>
      have h1 := (List.getElem?_eq_some_iff.1 (aidx_some hx)).1
      simp at h1
      exact List.mem_of_getElem? (i := i) (by rw [List.getElem?_set, if_pos rfl, if_pos h1])
  · rw [if_neg h]
    cases hg : aget m k' with
    | some u =>
      apply aget_of_mem hn'
      have hm := aget_mem hg
      unfold aput
      cases hx : (m.map Prod.fst).idxOf? k with
      | none => simp [hm]
      | some i =>
        obtain ⟨j, hj⟩ := List.getElem?_of_mem hm
        have h1 := aidx_some hx
        refine List.mem_of_getElem? (i := j) ?_
        rw [List.getElem?_set]
        split
        · rename_i hij
          subst hij
          rw [List.getElem?_map, hj] at h1
          simp at h1
          exact absurd h1.symm h
        · exact hj
    | none =>
      rw [aget_none] at hg ⊢
      unfold aput
      cases hx : (m.map Prod.fst).idxOf? k with
      | none =>
        simp only [List.map_append, List.map_cons, List.map_nil, List.mem_append, List.mem_singleton, not_or]
        exact ⟨hg, fun e => h e.symm⟩
      | some i =>
        intro hm
        simp only [List.map_set] at hm
        rcases List.mem_or_eq_of_mem_set hm with h2 | h2
        · exact hg h2
        · exact h h2.symm
theorem aput_length_le (m : List (κ × α)) (k : κ) (v : α) : (aput m k v).length ≤ m.length + 1 := by
  unfold aput
  split <;> simp
end lists

/-- block b is a map that holds just these, in the order of their coming -/
def Mp {κ : Type} (w : World) (b : Nat) (kv : κ → Value) (m : List (κ × Value)) : Prop :=
  ∃ es clock, w.heap[b]? = some (.map es clock) ∧ es.toList.map (fun e => (e.key, e.val)) = m.map (fun p => (kv p.1, p.2)) ∧ (m.map Prod.fst).Nodup ∧ (es.toList.map (·.born)).Nodup ∧ ∀ e ∈ es.toList, e.born < clock

section mp0
variable {κ : Type} {w w' : World} {b : Nat} {kv : κ → Value} {m : List (κ × Value)} {L : List Nat}
theorem Mp.lt (h : Mp w b kv m) : b < w.heap.size := by
  obtain ⟨es, c, hb, _⟩ := h
  exact (Array.getElem?_eq_some_iff.1 hb).1
theorem Mp.chg (h : Mp w b kv m) (hc : Chg L w w') (hn : b ∉ L) : Mp w' b kv m := by
  have hl := h.lt
  obtain ⟨es, c, hb, hr⟩ := h
  exact ⟨es, c, (hc.block b hl hn).trans hb, hr⟩
theorem Mp.nodup (h : Mp w b kv m) : (m.map Prod.fst).Nodup := by
  obtain ⟨es, c, _, _, h3, _⟩ := h; exact h3
theorem Mp.made (w : World) (kv : κ → Value) : Mp (w.alloc (.map #[] 0)) w.heap.size kv [] := ⟨#[], 0, (MapKept.heap_alloc w _).1, by simp, by simp, by simp, by simp⟩

theorem Mp.keys {es : Array MapEntry} (h : es.toList.map (fun e => (e.key, e.val)) = m.map (fun p => (kv p.1, p.2))) : es.toList.map (·.key) = (m.map Prod.fst).map kv := by
  have := congrArg (List.map Prod.fst) h
  rw [List.map_map, List.map_map] at this
  rw [List.map_map]
  exact this

end mp0

section mp
variable {κ : Type} [DecidableEq κ] {P : Program} {w w' : World} {b : Nat} {kv : κ → Value} {m : List (κ × Value)}
/-- m[k] -/
theorem Mp.lookup (h : Mp w b kv m) {t kt e : TypeId} (hK : KeyT P kt kv) (ht : P.underlying t = some (.map kt e)) {z : Value} (hz : (zeroValue e).run P w = .ok z w) (k : κ) :
    (Instr.lookup t (.map (some b)) (kv k) false).run P w = .ok ((aget m k).getD z) w ∧
    (Instr.lookup t (.map (some b)) (kv k) true).run P w = .ok (.tuple #[(aget m k).getD z, .bool (aget m k).isSome]) w := by
  obtain ⟨es, c, hb, he, _⟩ := h
  have hf := hK.find k es.toList _ w (Mp.keys he)
  have hv : ∀ i : Nat, (es.toList[i]?).map (fun e : MapEntry => e.val) = (m[i]?).map (fun p : κ × Value => p.2) := fun i => by
    have := congrArg (fun l => (l[i]?).map Prod.snd) he
    simp only [List.getElem?_map, Option.map_map] at this
    exact this
  have hrun : (getObj b).run P w = .ok (.map es c) w := by simp [getObj, Sem.run, hb]
  have key : ∀ (ok : Bool), (Instr.lookup t (.map (some b)) (kv k) ok).run P w = .ok (if ok then .tuple #[(aget m k).getD z, .bool (aget m k).isSome] else (aget m k).getD z) w := by
    intro ok
    unfold Instr.lookup aget
    simp only [Sem.run_bind, run_underlying ht, Result.andThen_ok, hrun, Sem.run_pure, hK.check, hf]
    cases hx : (m.map Prod.fst).idxOf? k with
    | none => cases ok <;> simp [hz]
    | some i =>
      have h1 := aidx_some hx
      rw [List.getElem?_map] at h1
      have := hv i
      cases hmi : m[i]? with
      | none => rw [hmi] at h1; cases h1
      | some p =>
        rw [hmi] at this
        cases hei : es.toList[i]? with
        | none => rw [hei] at this; cases this
        | some e0 =>
          rw [hei] at this
          simp at this
          have hei' : es[i]? = some e0 := by simpa using hei
          cases ok <;> simp [hei', hmi, this]
  exact ⟨key false, key true⟩

/-- m[k] = v -/
theorem Mp.update (h : Mp w b kv m) {t kt e : TypeId} (hK : KeyT P kt kv) (ht : P.underlying t = some (.map kt e)) (k : κ) (v : Value) :
    ∃ w', (Instr.mapUpdate t (.map (some b)) (kv k) v).run P w = .ok () w' ∧ Mp w' b kv (aput m k v) ∧ Chg [b] w w' := by
  obtain ⟨es, c, hb, he, hn, hs, hc⟩ := h
  have hf := hK.find k es.toList _ w (Mp.keys he)
  have hrun : (getObj b).run P w = .ok (.map es c) w := by simp [getObj, Sem.run, hb]
  have hlt : b < w.heap.size := (Array.getElem?_eq_some_iff.1 hb).1
  have hset : ∀ o : Obj, (setObj b o).run P w = .ok () { w with heap := w.heap.setIfInBounds b o } := fun o => by simp [setObj, Sem.run, hb]
  have hchg : ∀ o : Obj, Chg [b] w { w with heap := w.heap.setIfInBounds b o } := fun o => ⟨rfl, rfl, rfl, by simp, fun i hi hne => by
    simp only [Array.getElem?_setIfInBounds]
    rw [if_neg (fun e => hne (by simp [e]))]⟩
  have hat : ∀ o : Obj, ({ w with heap := w.heap.setIfInBounds b o } : World).heap[b]? = some o := fun o => by simp [hlt]
  cases hx : (m.map Prod.fst).idxOf? k with
  | none =>
    refine ⟨_, ?_, ⟨es.push { key := kv k, val := v, born := c }, c + 1, hat _, ?_, aput_keys_nodup hn k v, ?_, ?_⟩, hchg _⟩
    · unfold Instr.mapUpdate
      simp only [Sem.run_bind, run_underlying ht, Result.andThen_ok, hrun, hK.check, hf, hx]
      simp [hset]
    · simp only [aput, hx, Array.toList_push, List.map_append, he, List.map_cons, List.map_nil]
    · simp only [Array.toList_push, List.map_append, List.map_cons, List.map_nil]
      rw [List.nodup_append]
      refine ⟨hs, by simp, fun a ha b' hb' => ?_⟩
      obtain ⟨e0, he0, rfl⟩ := List.mem_map.1 ha
      simp at hb'
      subst hb'
      have := hc e0 he0
      omega
    · intro e0 he0
      simp only [Array.toList_push, List.mem_append, List.mem_singleton] at he0
      rcases he0 with he0 | rfl
      · have := hc e0 he0; omega
      · simp
  | some i =>
    have h1 := aidx_some hx
    have hil : i < es.size := by
      have := (List.getElem?_eq_some_iff.1 h1).1
      have e2 := congrArg List.length he
      simp at this e2
      omega
    have hei : es[i]? = some es[i] := Array.getElem?_eq_getElem hil
    have hkey : (es[i]).key = kv k := by
      have e3 := congrArg (fun l => l[i]?) (Mp.keys he)
      simp only [List.getElem?_map, Array.getElem?_toList, hei] at e3
      rw [List.getElem?_map] at h1
      cases hmi : m[i]? with
      | none => rw [hmi] at h1; cases h1
      | some p =>
        rw [hmi] at e3 h1
        simp at e3 h1
        rw [e3, h1]
    have hml : (es.modify i fun e => { e with key := kv k, val := v }).toList = es.toList.set i { es[i] with key := kv k, val := v } := by
      apply List.ext_getElem?
      intro j
      rw [Array.getElem?_toList, Array.getElem?_modify, List.getElem?_set, Array.getElem?_toList]
      by_cases hij : i = j
      · subst hij; simp [hil]
      · rw [if_neg hij, if_neg hij]
    refine ⟨_, ?_, ⟨es.modify i fun e => { e with key := kv k, val := v }, c, hat _, ?_, aput_keys_nodup hn k v, ?_, ?_⟩, hchg _⟩
    · unfold Instr.mapUpdate
      simp only [Sem.run_bind, run_underlying ht, Result.andThen_ok, hrun, hK.check, hf, hx]
      have hstay : (Instr.keyThatStays (kv k) (kv k)).run P w = .ok (kv k) w := by simp [Instr.keyThatStays, hK.bits]
      simp [hei, hkey, hstay, hset]
    · rw [hml]
      simp only [aput, hx, List.map_set, he]
    · rw [hml, List.map_set]
      have : (es.toList.map (·.born)).set i (es[i]).born = es.toList.map (·.born) := by
        apply List.ext_getElem?
        intro j
        rw [List.getElem?_set]
        split
        · rename_i hij; subst hij; simp [hil]
        · rfl
      rw [this]; exact hs
    · intro e0 he0
      rw [hml] at he0
      rcases List.mem_or_eq_of_mem_set he0 with h2 | h2
      · exact hc e0 h2
      · subst h2; exact hc es[i] (by simp)

/-- delete(m, k) -/
theorem Mp.del (h : Mp w b kv m) {t kt e ty : TypeId} (hK : KeyT P kt kv) (ht : P.underlying t = some (.map kt e)) (k : κ) (at2 : TypeId) :
    ∃ w', (Builtin.delete_ #[t, at2] ty #[.map (some b), kv k]).run P w = .ok (.tuple #[]) w' ∧ Mp w' b kv (adel m k) ∧ Chg [b] w w' := by
  obtain ⟨es, c, hb, he, hn, hs, hc⟩ := h
  have hf := hK.find k es.toList _ w (Mp.keys he)
  have hrun : (getObj b).run P w = .ok (.map es c) w := by simp [getObj, Sem.run, hb]
  have hlt : b < w.heap.size := (Array.getElem?_eq_some_iff.1 hb).1
  have hset : ∀ o : Obj, (setObj b o).run P w = .ok () { w with heap := w.heap.setIfInBounds b o } := fun o => by simp [setObj, Sem.run, hb]
  have hchg : ∀ o : Obj, Chg [b] w { w with heap := w.heap.setIfInBounds b o } := fun o => ⟨rfl, rfl, rfl, by simp, fun i hi hne => by
    simp only [Array.getElem?_setIfInBounds]
    rw [if_neg (fun e => hne (by simp [e]))]⟩
  have hat : ∀ o : Obj, ({ w with heap := w.heap.setIfInBounds b o } : World).heap[b]? = some o := fun o => by simp [hlt]
  cases hx : (m.map Prod.fst).idxOf? k with
  | none =>
    refine ⟨_, ?_, ⟨es, c, hat _, by simp only [adel, hx, he], by simp only [adel, hx]; exact hn, hs, hc⟩, hchg _⟩
    unfold Builtin.delete_
    simp [run_underlying ht, hrun, hK.check, hf, hx, hset]
  | some i =>
    have h1 := aidx_some hx
    have hil : i < es.size := by
      have := (List.getElem?_eq_some_iff.1 h1).1
      have e2 := congrArg List.length he
      simp at this e2
      omega
    have hei : es[i]? = some es[i] := Array.getElem?_eq_getElem hil
    have hel : (es.eraseIdxIfInBounds i).toList = es.toList.eraseIdx i := by
      rw [Array.eraseIdxIfInBounds, dif_pos hil, Array.toList_eraseIdx]
    refine ⟨_, ?_, ⟨es.eraseIdxIfInBounds i, c, hat _, ?_, ?_, ?_, ?_⟩, hchg _⟩
    · unfold Builtin.delete_
      simp [run_underlying ht, hrun, hK.check, hf, hx, hset, hei]
    · rw [hel]
      simp only [adel, hx, ← erase_map, he]
    · simp only [adel, hx, ← erase_map]
      exact hn.sublist (List.eraseIdx_sublist _ _)
    · rw [hel, ← erase_map]
      exact hs.sublist (List.eraseIdx_sublist _ _)
    · intro e0 he0
      rw [hel] at he0
      exact hc e0 ((List.eraseIdx_sublist _ _).subset he0)
end mp
end Go.Proofs.YtgomofeidghmiaaGreat
