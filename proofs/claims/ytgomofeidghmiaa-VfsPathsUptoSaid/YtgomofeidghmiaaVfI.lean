/-
  Maps ranged over: what is still to come, as a list.
-/
import Derived.Test.YtgomofeidghmiaaMapM
import Derived.Maps.RangeWalk
namespace Go.Proofs.Ytgomofeidghmiaa
open Go.RowKit Go.ChangeMaps Go.MapKept

/-- block r is an iterator over the map b (which holds m); 'todo' is still to come -/
def MpIt {κ : Type} (w : World) (b r : Nat) (kv : κ → Value) (m todo : List (κ × Value)) : Prop :=
  ∃ es clock since seen c0, w.heap[b]? = some (.map es clock) ∧ es.toList.map (fun e => (e.key, e.val)) = m.map (fun p => (kv p.1, p.2)) ∧ (m.map Prod.fst).Nodup ∧ (es.toList.map (·.born)).Nodup ∧ (∀ e ∈ es.toList, e.born < clock) ∧
    w.heap[r]? = some (.mapIter (some b) since seen c0) ∧ (∀ x ∈ es.toList, x.born < since) ∧ since ≤ c0 ∧ since ≤ clock ∧ (leftOf es seen).toList.map (fun e => (e.key, e.val)) = todo.map (fun p => (kv p.1, p.2))

theorem perm_erase {α : Type} {l : List α} {i : Nat} {p : α} (h : l[i]? = some p) : l.Perm (p :: l.eraseIdx i) := by
  induction l generalizing i with
  | nil => simp at h
  | cons x l ih =>
    cases i with
    | zero => simp at h; subst h; exact List.Perm.refl _
    | succ i =>
      simp at h
      rw [List.eraseIdx_cons_succ]
      exact ((ih h).cons x).trans (List.Perm.swap _ _ _)

theorem filter_born {l : List MapEntry} {i : Nat} {e : MapEntry} (hnb : (l.map (·.born)).Nodup) (hi : l[i]? = some e) : l.filter (fun x => x.born != e.born) = l.eraseIdx i := by
  induction l generalizing i with
  | nil => simp at hi
  | cons x l ih =>
    rw [List.map_cons, List.nodup_cons] at hnb
    cases i with
    | zero =>
      simp at hi
      subst hi
      rw [List.filter_cons]
      simp only [bne_self_eq_false, Bool.false_eq_true, if_false, List.eraseIdx_zero, List.tail_cons]
      rw [List.filter_eq_self]
      intro y hy
      simp only [bne_iff_ne, ne_eq]
      intro e2
      exact hnb.1 (List.mem_map.2 ⟨y, hy, e2⟩)
    | succ i =>
      simp at hi
      rw [List.filter_cons]
      have hx : (x.born != e.born) = true := by
        simp only [bne_iff_ne, ne_eq]
        intro e2
        exact hnb.1 (List.mem_map.2 ⟨e, List.mem_of_getElem? hi, e2.symm⟩)
      rw [if_pos hx, List.eraseIdx_cons_succ]
      congr 1
      exact ih hnb.2 hi

section
variable {κ : Type} {w w' : World} {b r : Nat} {kv : κ → Value} {m todo : List (κ × Value)} {L : List Nat}
theorem MpIt.mp (h : MpIt w b r kv m todo) : Mp w b kv m := by
  obtain ⟨es, clock, _, _, _, hb, he, hn, hs, hc, _⟩ := h
  exact ⟨es, clock, hb, he, hn, hs, hc⟩
theorem MpIt.lt (h : MpIt w b r kv m todo) : r < w.heap.size := by
  obtain ⟨es, clock, _, _, _, hb, he, hn, hs, hc, hr, _⟩ := h
  exact (Array.getElem?_eq_some_iff.1 hr).1
theorem MpIt.chg (h : MpIt w b r kv m todo) (hc : Chg L w w') (h1 : b ∉ L) (h2 : r ∉ L) : MpIt w' b r kv m todo := by
  have hl := h.lt
  have hl2 := h.mp.lt
  obtain ⟨es, clock, since, seen, c0, hb, he, hn, hs, hcl, hr, rest⟩ := h
  exact ⟨es, clock, since, seen, c0, (hc.block b hl2 h1).trans hb, he, hn, hs, hcl, (hc.block r hl h2).trans hr, rest⟩
theorem MpIt.left_eq (h : MpIt w b r kv m todo) : w.rangeLeft b r = todo.length := by
  obtain ⟨es, clock, since, seen, c0, hb, _, _, _, _, hr, _, _, _, hl⟩ := h
  simp only [World.rangeLeft, hb, hr]
  have := congrArg List.length hl
  simpa using this
theorem MpIt.ne (h : MpIt w b r kv m todo) : r ≠ b := by
  obtain ⟨es, clock, since, seen, c0, hb, _, _, _, _, hr, _⟩ := h
  intro e
  rw [e, hb] at hr
  cases hr

theorem MpIt.start {P : Program} {t k e : TypeId} (h : Mp w b kv m) (ht : P.underlying t = some (.map k e)) :
    ∃ w', (Instr.range t (.map (some b))).run P w = .ok (.pointer (some ⟨w.heap.size, 0, none⟩)) w' ∧ MpIt w' b w.heap.size kv m m ∧ Chg [] w w' ∧ w'.heap.size = w.heap.size + 1 := by
  have hl := h.lt
  obtain ⟨es, clock, hb, he, hn, hs, hc⟩ := h
  refine ⟨_, run_range_map w t k e b es clock ht hb, ⟨es, clock, clock, #[], clock, ((MapKept.heap_alloc w _).2 b hl).trans hb, he, hn, hs, hc, (MapKept.heap_alloc w _).1, hc, Nat.le_refl _, Nat.le_refl _, ?_⟩, (Chg.refl _ _).alloc _, by simp⟩
  have : leftOf es #[] = es := by simp [leftOf]
  rw [this, he]

theorem MpIt.step {P : Program} (h : MpIt w b r kv m todo) (ty : TypeId) :
    (todo = [] ∧ (Instr.next (.pointer (some ⟨r, 0, none⟩)) false ty).run P w = .ok (.tuple #[.bool false]) w) ∨
    ∃ k v todo' w', (todo.Perm ((k, v) :: todo')) ∧ (Instr.next (.pointer (some ⟨r, 0, none⟩)) false ty).run P w = .ok (.tuple #[.bool true, kv k, v]) w' ∧
      MpIt w' b r kv m todo' ∧ Chg [r] w w' ∧ (Instr.entry (.pointer (some ⟨r, 0, none⟩))).run P w' = .ok (.tuple #[kv k, v]) w' := by
  have hne := h.ne
  obtain ⟨es, clock, since, seen, c0, hb, he, hn, hs, hc, hr, hold, hsc, hsk, hl⟩ := h
  rcases run_next_at (P := P) w ty r b since c0 seen es clock hr hb hold hsc with ⟨h0, hrun⟩ | ⟨e, hem0, w1, hal, hrun⟩
  · left
    refine ⟨?_, hrun⟩
    have := congrArg List.length hl
    simp only [List.length_map, Array.length_toList] at this
    exact List.eq_nil_of_length_eq_zero (by omega)
  · right
    have hem := mem_left hem0
    obtain ⟨i, hi⟩ := List.getElem?_of_mem hem0
    have hil : i < (leftOf es seen).toList.length := (List.getElem?_eq_some_iff.1 hi).1
    have hlen := congrArg List.length hl
    simp only [List.length_map] at hlen
    obtain ⟨p, hp⟩ : ∃ p, todo[i]? = some p := ⟨_, List.getElem?_eq_getElem (by omega)⟩
    have hkv : (e.key, e.val) = (kv p.1, p.2) := by
      have := congrArg (fun l => l[i]?) hl
      simp only [List.getElem?_map, hi, hp, Option.map_some] at this
      exact Option.some.inj this
    have hnb : ((leftOf es seen).toList.map (·.born)).Nodup := by
      unfold leftOf
      rw [Array.toList_filter]
      exact hs.sublist (List.filter_sublist.map _)
    have hr1 : w1.heap[r]? = some (.mapIter (some b) since seen c0) := by rcases hal with rfl | rfl <;> exact hr
    have hb1 : w1.heap[b]? = some (.map es clock) := by rcases hal with rfl | rfl <;> exact hb
    have hset := heap_set (o' := .mapIter (some b) since (seen.push e.born) clock) hr1
    have hb' : (setBlock w1 r (.mapIter (some b) since (seen.push e.born) clock)).heap[b]? = some (.map es clock) := (hset.2 b (fun e1 => hne e1.symm)).trans hb1
    have hleft : (leftOf es (seen.push e.born)).toList = (leftOf es seen).toList.eraseIdx i := by
      have e1 : (leftOf es (seen.push e.born)).toList = (leftOf es seen).toList.filter (fun x => x.born != e.born) := by
        unfold leftOf
        rw [Array.toList_filter, Array.toList_filter, List.filter_filter]
        refine List.filter_congr fun x _ => ?_
        rw [contains_push]
        cases seen.contains x.born <;> cases hxe : (x.born == e.born) <;> simp [bne, hxe]
      rw [e1]
      exact filter_born hnb hi
    have hil2 : i < todo.length := by omega
    have hpe : todo[i] = p := by rw [List.getElem?_eq_getElem hil2] at hp; exact Option.some.inj hp
    injection hkv with hk1 hk2
    refine ⟨p.1, p.2, todo.eraseIdx i, _, ?_, by rw [hrun, hk1, hk2], ⟨es, clock, since, seen.push e.born, clock, hb', he, hn, hs, hc, hset.1, hold, hsk, hsk, ?_⟩, ?_, ?_⟩
    · exact perm_erase hp
    · rw [hleft, ← erase_map, ← erase_map, hl]
    · rcases hal with rfl | rfl <;> exact ⟨rfl, rfl, rfl, by simp [setBlock], fun i _ hi => hset.2 i (fun e1 => hi (by simp [e1]))⟩
    · rw [← hk1, ← hk2]
      exact run_entry_at _ r b since seen es clock e hset.1 hb' hem.1 hs
end

section
variable {P : Program} {κ : Type} {w : World} {ops : Array Oper} {rest : List Oper} {o : Oper} {a : Act} {Q : Exit → Act → World → Prop} {b r : Nat} {kv : κ → Value} {m todo : List (κ × Value)}
theorem wpList_range_mp (hg : o.guard = none) (x : Operand) (t : TypeId) (hop : o.op = Op.range t x) {k e : TypeId} (ht : P.underlying t = some (.map k e)) (hx : a.eval x = .map (some b)) (h : Mp w b kv m)
    (hK : ∀ w', MpIt w' b w.heap.size kv m m → Chg [] w w' → w'.heap.size = w.heap.size + 1 → wpList P ops Q rest (a.put o.dst (.pointer (some ⟨w.heap.size, 0, none⟩))) w') : wpList P ops Q (o :: rest) a w := by
  refine wpList_plain hg fun K' hK' => ?_
  obtain ⟨w', hrun, r1, r2, r3⟩ := MpIt.start (P := P) h ht
  unfold Oper.wp
  simp [execOp, hop, hx, hrun, Result.andThen]
  exact hK' _ _ (hK w' r1 r2 r3)
theorem wpList_next_mp (hg : o.guard = none) (it : Operand) (hop : o.op = Op.next it false) (hit : a.eval it = .pointer (some ⟨r, 0, none⟩)) (h : MpIt w b r kv m todo)
    (hDone : todo = [] → wpList P ops Q rest (a.put o.dst (.tuple #[.bool false])) w)
    (hMore : ∀ (k : κ) (v : Value) (todo' : List (κ × Value)) (w' : World), todo.Perm ((k, v) :: todo') → MpIt w' b r kv m todo' → Chg [r] w w' →
      (Instr.entry (.pointer (some ⟨r, 0, none⟩))).run P w' = .ok (.tuple #[kv k, v]) w' → wpList P ops Q rest (a.put o.dst (.tuple #[.bool true, kv k, v])) w') : wpList P ops Q (o :: rest) a w := by
  refine wpList_plain hg fun K' hK' => ?_
  unfold Oper.wp
  rcases h.step (P := P) o.type with ⟨h0, hrun⟩ | ⟨k, v, todo', w', hp, hrun, hit', hch, hen⟩
  · simp [execOp, hop, hit, hrun, Result.andThen]
    exact hK' _ _ (hDone h0)
  · simp [execOp, hop, hit, hrun, Result.andThen]
    exact hK' _ _ (hMore k v todo' w' hp hit' hch hen)
end
end Go.Proofs.Ytgomofeidghmiaa
