/-
  Maps whose keys are pointers to blocks of plain cells.
-/
import Derived.Test.YtgomofeidghmiaaVfQ
import Derived.Test.YtgomofeidghmiaaVfF
namespace Go.Proofs.Ytgomofeidghmiaa
open Go.RowKit

/-- looking for a key among these, in this world -/
structure KeyAt (P : Program) (kt : TypeId) {κ : Type} [DecidableEq κ] (kv : κ → Value) (w : World) (k : κ) (ks : List κ) : Prop where
  find : ∀ es : List MapEntry, es.map (·.key) = ks.map kv → (Instr.findKey kt (kv k) es).run P w = .ok ((ks.idxOf? k).bind fun i => (es[i]?).map fun e => (i, e.val)) w
  check : ∀ e : Bool, (Instr.checkKey e 10000 kt (kv k)).run P w = .ok () w
  bits : Instr.sameBits 10000 (kv k) (kv k) = true

section mp
variable {κ : Type} [DecidableEq κ] {P : Program} {w w' : World} {b : Nat} {kv : κ → Value} {m : List (κ × Value)}
/-- m[k] -/
theorem Mp.lookupAt (h : Mp w b kv m) {t kt e : TypeId} (k : κ) (hK : KeyAt P kt kv w k (m.map Prod.fst)) (ht : P.underlying t = some (.map kt e)) {z : Value} (hz : (zeroValue e).run P w = .ok z w) :
    (Instr.lookup t (.map (some b)) (kv k) false).run P w = .ok ((aget m k).getD z) w := by
  obtain ⟨es, c, hb, he, _⟩ := h
  have hf := hK.find es.toList (Mp.keys he)
  have hv : ∀ i : Nat, (es.toList[i]?).map (fun e : MapEntry => e.val) = (m[i]?).map (fun p : κ × Value => p.2) := fun i => by
    have := congrArg (fun l => (l[i]?).map Prod.snd) he
    simp only [List.getElem?_map, Option.map_map] at this
    exact this
  have hrun : (getObj b).run P w = .ok (.map es c) w := by simp [getObj, Sem.run, hb]
  unfold Instr.lookup aget
  simp only [Sem.run_bind, run_underlying ht, Result.andThen_ok, hrun, Sem.run_pure, hK.check, hf]
  cases hx : (m.map Prod.fst).idxOf? k with
  | none => simp [hz]
  | some i =>
    have h1 := aidx_some hx
    rw [List.getElem?_map] at h1
    have := hv i
    cases hmi : m[i]? with
    | none => rw [hmi] at h1; cases h1
    | some p =>
      rw [hmi] at this
      cases hei : es.toList[i]? with
      | none => rw [hei] at this; cases this
      | some e0 =>
        rw [hei] at this
        simp at this
        have hei' : es[i]? = some e0 := by simpa using hei
        simp [hei', hmi, this]

/-- m[k] = v -/
theorem Mp.updateAt (h : Mp w b kv m) {t kt e : TypeId} (k : κ) (hK : KeyAt P kt kv w k (m.map Prod.fst)) (ht : P.underlying t = some (.map kt e)) (v : Value) :
    ∃ w', (Instr.mapUpdate t (.map (some b)) (kv k) v).run P w = .ok () w' ∧ Mp w' b kv (aput m k v) ∧ Chg [b] w w' := by
  obtain ⟨es, c, hb, he, hn, hs, hc⟩ := h
  have hf := hK.find es.toList (Mp.keys he)
  have hrun : (getObj b).run P w = .ok (.map es c) w := by simp [getObj, Sem.run, hb]
  have hlt : b < w.heap.size := (Array.getElem?_eq_some_iff.1 hb).1
  have hset : ∀ o : Obj, (setObj b o).run P w = .ok () { w with heap := w.heap.setIfInBounds b o } := fun o => by simp [setObj, Sem.run, hb]
  have hchg : ∀ o : Obj, Chg [b] w { w with heap := w.heap.setIfInBounds b o } := fun o => ⟨rfl, rfl, rfl, by simp, fun i hi hne => by
    simp only [Array.getElem?_setIfInBounds]
    rw [if_neg (fun e => hne (by simp [e]))]⟩
  have hat : ∀ o : Obj, ({ w with heap := w.heap.setIfInBounds b o } : World).heap[b]? = some o := fun o => by simp [hlt]
  cases hx : (m.map Prod.fst).idxOf? k with
  | none =>
    refine ⟨_, ?_, ⟨es.push { key := kv k, val := v, born := c }, c + 1, hat _, ?_, aput_keys_nodup hn k v, ?_, ?_⟩, hchg _⟩
    · unfold Instr.mapUpdate
      simp only [Sem.run_bind, run_underlying ht, Result.andThen_ok, hrun, hK.check, hf, hx]
      simp [hset]
    · simp only [aput, hx, Array.toList_push, List.map_append, he, List.map_cons, List.map_nil]
    · simp only [Array.toList_push, List.map_append, List.map_cons, List.map_nil]
      rw [List.nodup_append]
      refine ⟨hs, by simp, fun a ha b' hb' => ?_⟩
      obtain ⟨e0, he0, rfl⟩ := List.mem_map.1 ha
      simp at hb'
      subst hb'
      have := hc e0 he0
      omega
    · intro e0 he0
      simp only [Array.toList_push, List.mem_append, List.mem_singleton] at he0
      rcases he0 with he0 | rfl
      · have := hc e0 he0; omega
      · simp
  | some i =>
    have h1 := aidx_some hx
    have hil : i < es.size := by
      have := (List.getElem?_eq_some_iff.1 h1).1
      have e2 := congrArg List.length he
      simp at this e2
      omega
    have hei : es[i]? = some es[i] := Array.getElem?_eq_getElem hil
    have hkey : (es[i]).key = kv k := by
      have e3 := congrArg (fun l => l[i]?) (Mp.keys he)
      simp only [List.getElem?_map, Array.getElem?_toList, hei] at e3
      rw [List.getElem?_map] at h1
      cases hmi : m[i]? with
      | none => rw [hmi] at h1; cases h1
      | some p =>
        rw [hmi] at e3 h1
        simp at e3 h1
        rw [e3, h1]
    have hml : (es.modify i fun e => { e with key := kv k, val := v }).toList = es.toList.set i { es[i] with key := kv k, val := v } := by
      apply List.ext_getElem?
      intro j
      rw [Array.getElem?_toList, Array.getElem?_modify, List.getElem?_set, Array.getElem?_toList]
      by_cases hij : i = j
      · subst hij; simp [hil]
      · rw [if_neg hij, if_neg hij]
    refine ⟨_, ?_, ⟨es.modify i fun e => { e with key := kv k, val := v }, c, hat _, ?_, aput_keys_nodup hn k v, ?_, ?_⟩, hchg _⟩
    · unfold Instr.mapUpdate
      simp only [Sem.run_bind, run_underlying ht, Result.andThen_ok, hrun, hK.check, hf, hx]
      have hstay : (Instr.keyThatStays (kv k) (kv k)).run P w = .ok (kv k) w := by simp [Instr.keyThatStays, hK.bits]
      simp [hei, hkey, hstay, hset]
    · rw [hml]
      simp only [aput, hx, List.map_set, he]
    · rw [hml, List.map_set]
      have : (es.toList.map (·.born)).set i (es[i]).born = es.toList.map (·.born) := by
        apply List.ext_getElem?
        intro j
        rw [List.getElem?_set]
        split
        · rename_i hij; subst hij; simp [hil]
        · rfl
      rw [this]; exact hs
    · intro e0 he0
      rw [hml] at he0
      rcases List.mem_or_eq_of_mem_set he0 with h2 | h2
      · exact hc e0 h2
      · subst h2; exact hc es[i] (by simp)
end mp

theorem equal_inode {w : World} {x y : Nat} (hx : IsB w x) (hy : IsB w y) : (Op.equal 81 (pv x) (pv y)).run Try.prog w = .ok (decide (x = y)) w := by
  have h := eql_inode hx hy
  simp only [binOp, Sem.run_bind] at h
  cases hr : (Op.equal 81 (pv x) (pv y)).run Try.prog w with
  | ok b w' =>
    unfold pv at hr
    rw [hr] at h
    simp only [Result.andThen_ok, Sem.run_pure, Result.ok.injEq, Value.bool.injEq] at h
    rw [h.1, h.2]
  | _ => unfold pv at hr; rw [hr] at h; cases h

theorem asking_inode {w : World} {x : Nat} (hx : IsB w x) : ∀ (es : List MapEntry) (ks : List Nat) (i : Nat), es.map (·.key) = ks.map pv → (∀ k ∈ ks, IsB w k) →
    (Instr.findAsking 81 (pv x) es i).run Try.prog w = .ok ((ks.idxOf? x).bind fun j => (es[j]?).map fun e => (i + j, e.val)) w
  | [], [], i, _, _ => by simp [Instr.findAsking]
  | [], k' :: ks, i, he, _ => by simp at he
  | e :: es, [], i, he, _ => by simp at he
  | e :: es, k' :: ks, i, he, hb => by
    simp only [List.map_cons, List.cons.injEq] at he
    unfold Instr.findAsking
    rw [he.1]
    simp only [Sem.run_bind, equal_inode hx (hb k' (by simp)), Result.andThen_ok]
    by_cases hk : x = k'
    · subst hk
      rw [List.idxOf?_cons, beq_self_eq_true]
      simp
    · simp only [hk, decide_false]
      have ih := asking_inode hx es ks (i + 1) he.2 (fun k hk => hb k (List.mem_cons_of_mem _ hk))
      rw [List.idxOf?_cons]
      have : (k' == x) = false := by simp; exact fun e => hk e.symm
      rw [this]
      simp only [Bool.false_eq_true, if_false]
      rw [ih]
      cases ks.idxOf? x with
      | none => rfl
      | some j => simp [Nat.add_assoc, Nat.add_comm 1 j]

theorem inode_key {w : World} {x : Nat} {ks : List Nat} (hx : IsB w x) (hks : ∀ k ∈ ks, IsB w k) : KeyAt Try.prog 81 pv w x ks where
  find := fun es he => by
    unfold Instr.findKey
    simp only [Sem.run_bind, run_underlying Try.underlying81, Result.andThen_ok]
    cases es with
    | nil =>
      cases ks with
      | nil => simp [Instr.findNow]
      | cons k r => simp at he
    | cons e es =>
      cases ks with
      | nil => simp at he
      | cons k r =>
        have hk : e.key = pv k := by simp only [List.map_cons, List.cons.injEq] at he; exact he.1
        have hn : Instr.findNow (.pointer 85) (pv x) (e :: es) 0 = none := by
          unfold Instr.findNow
          rw [hk]
          simp [pv, Instr.sameNow]
        rw [hn]
        have := asking_inode hx (e :: es) (k :: r) 0 he hks
        simp only [Nat.zero_add] at this
        exact this
  check := fun e => by
    show (Instr.checkKey e (9999 + 1) 81 (pv x)).run Try.prog w = _
    unfold Instr.checkKey
    simp [run_underlying Try.underlying81, pv]
  bits := by simp [Instr.sameBits, pv]
end Go.Proofs.Ytgomofeidghmiaa
