/-
  Maps ranged over: what is still to come, as a list.
  Layer 08: clone: a tree in new memory.
  Layer 08: Used: how many bytes are seen, whatever order the maps are gone over in.
-/
import Derived.Test.YtgomofeidghmiaaGreatMapM
import Derived.Maps.RangeWalk
import Derived.Test.YtgomofeidghmiaaGreatVfJ
namespace Go.Proofs.YtgomofeidghmiaaGreat
open Go.RowKit Go.ChangeMaps Go.MapKept

/-- block r is an iterator over the map b (which holds m); 'todo' is still to come -/
def MpIt {κ : Type} (w : World) (b r : Nat) (kv : κ → Value) (m todo : List (κ × Value)) : Prop :=
  ∃ es clock since seen c0, w.heap[b]? = some (.map es clock) ∧ es.toList.map (fun e => (e.key, e.val)) = m.map (fun p => (kv p.1, p.2)) ∧ (m.map Prod.fst).Nodup ∧ (es.toList.map (·.born)).Nodup ∧ (∀ e ∈ es.toList, e.born < clock) ∧
    w.heap[r]? = some (.mapIter (some b) since seen c0) ∧ (∀ x ∈ es.toList, x.born < since) ∧ since ≤ c0 ∧ since ≤ clock ∧ (leftOf es seen).toList.map (fun e => (e.key, e.val)) = todo.map (fun p => (kv p.1, p.2))

theorem perm_erase {α : Type} {l : List α} {i : Nat} {p : α} (h : l[i]? = some p) : l.Perm (p :: l.eraseIdx i) := by
  induction l generalizing i with
  | nil => simp at h
  | cons x l ih =>
    cases i with
    | zero => simp at h; subst h; exact List.Perm.refl _
    | succ i =>
      simp at h
      rw [List.eraseIdx_cons_succ]
      exact ((ih h).cons x).trans (List.Perm.swap _ _ _)

theorem filter_born {l : List MapEntry} {i : Nat} {e : MapEntry} (hnb : (l.map (·.born)).Nodup) (hi : l[i]? = some e) : l.filter (fun x => x.born != e.born) = l.eraseIdx i := by
  induction l generalizing i with
  | nil => simp at hi
  | cons x l ih =>
    rw [List.map_cons, List.nodup_cons] at hnb
    cases i with
    | zero =>
      simp at hi
      subst hi
      rw [List.filter_cons]
      simp only [bne_self_eq_false, Bool.false_eq_true, if_false, List.eraseIdx_zero, List.tail_cons]
      rw [List.filter_eq_self]
      intro y hy
      simp only [bne_iff_ne, ne_eq]
      intro e2
      exact hnb.1 (List.mem_map.2 ⟨y, hy, e2⟩)
    | succ i =>
      simp at hi
      rw [List.filter_cons]
      have hx : (x.born != e.born) = true := by
        simp only [bne_iff_ne, ne_eq]
        intro e2
        exact hnb.1 (List.mem_map.2 ⟨e, List.mem_of_getElem? hi, e2.symm⟩)
      rw [if_pos hx, List.eraseIdx_cons_succ]
      congr 1
      exact ih hnb.2 hi

section
variable {κ : Type} {w w' : World} {b r : Nat} {kv : κ → Value} {m todo : List (κ × Value)} {L : List Nat}
theorem MpIt.mp (h : MpIt w b r kv m todo) : Mp w b kv m := by
  obtain ⟨es, clock, _, _, _, hb, he, hn, hs, hc, _⟩ := h
  exact ⟨es, clock, hb, he, hn, hs, hc⟩
theorem MpIt.lt (h : MpIt w b r kv m todo) : r < w.heap.size := by
  obtain ⟨es, clock, _, _, _, hb, he, hn, hs, hc, hr, _⟩ := h
  exact (Array.getElem?_eq_some_iff.1 hr).1
theorem MpIt.chg (h : MpIt w b r kv m todo) (hc : Chg L w w') (h1 : b ∉ L) (h2 : r ∉ L) : MpIt w' b r kv m todo := by
  have hl := h.lt
  have hl2 := h.mp.lt
  obtain ⟨es, clock, since, seen, c0, hb, he, hn, hs, hcl, hr, rest⟩ := h
  exact ⟨es, clock, since, seen, c0, (hc.block b hl2 h1).trans hb, he, hn, hs, hcl, (hc.block r hl h2).trans hr, rest⟩
theorem MpIt.left_eq (h : MpIt w b r kv m todo) : w.rangeLeft b r = todo.length := by
  obtain ⟨es, clock, since, seen, c0, hb, _, _, _, _, hr, _, _, _, hl⟩ := h
  simp only [World.rangeLeft, hb, hr]
  have := congrArg List.length hl
  simpa using this
theorem MpIt.ne (h : MpIt w b r kv m todo) : r ≠ b := by
  obtain ⟨es, clock, since, seen, c0, hb, _, _, _, _, hr, _⟩ := h
  intro e
  rw [e, hb] at hr
  cases hr

theorem MpIt.start {P : Program} {t k e : TypeId} (h : Mp w b kv m) (ht : P.underlying t = some (.map k e)) :
    ∃ w', (Instr.range t (.map (some b))).run P w = .ok (.pointer (some ⟨w.heap.size, 0, none⟩)) w' ∧ MpIt w' b w.heap.size kv m m ∧ Chg [] w w' ∧ w'.heap.size = w.heap.size + 1 := by
  have hl := h.lt
  obtain ⟨es, clock, hb, he, hn, hs, hc⟩ := h
  refine ⟨_, run_range_map w t k e b es clock ht hb, ⟨es, clock, clock, #[], clock, ((MapKept.heap_alloc w _).2 b hl).trans hb, he, hn, hs, hc, (MapKept.heap_alloc w _).1, hc, Nat.le_refl _, Nat.le_refl _, ?_⟩, (Chg.refl _ _).alloc _, by simp⟩
  have : leftOf es #[] = es := by simp [leftOf]
  rw [this, he]

theorem MpIt.step {P : Program} (h : MpIt w b r kv m todo) (ty : TypeId) :
    (todo = [] ∧ (Instr.next (.pointer (some ⟨r, 0, none⟩)) false ty).run P w = .ok (.tuple #[.bool false]) w) ∨
    ∃ k v todo' w', (todo.Perm ((k, v) :: todo')) ∧ (Instr.next (.pointer (some ⟨r, 0, none⟩)) false ty).run P w = .ok (.tuple #[.bool true, kv k, v]) w' ∧
      MpIt w' b r kv m todo' ∧ Chg [r] w w' ∧ (Instr.entry (.pointer (some ⟨r, 0, none⟩))).run P w' = .ok (.tuple #[kv k, v]) w' := by
  have hne := h.ne
  obtain ⟨es, clock, since, seen, c0, hb, he, hn, hs, hc, hr, hold, hsc, hsk, hl⟩ := h
  rcases run_next_at (P := P) w ty r b since c0 seen es clock hr hb hold hsc with ⟨h0, hrun⟩ | ⟨e, hem0, w1, hal, hrun⟩
  · left
    refine ⟨?_, hrun⟩
    have := congrArg List.length hl
    simp only [List.length_map, Array.length_toList] at this
    exact List.eq_nil_of_length_eq_zero (by omega)
  · right
    have hem := mem_left hem0
    obtain ⟨i, hi⟩ := List.getElem?_of_mem hem0
    have hil : i < (leftOf es seen).toList.length := (List.getElem?_eq_some_iff.1 hi).1
    have hlen := congrArg List.length hl
    simp only [List.length_map] at hlen
    obtain ⟨p, hp⟩ : ∃ p, todo[i]? = some p := ⟨_, List.getElem?_eq_getElem (by omega)⟩
    have hkv : (e.key, e.val) = (kv p.1, p.2) := by
      have := congrArg (fun l => l[i]?) hl
      simp only [List.getElem?_map, hi, hp, Option.map_some] at this
      exact Option.some.inj this
    have hnb : ((leftOf es seen).toList.map (·.born)).Nodup := by
      unfold leftOf
      rw [Array.toList_filter]
      exact hs.sublist (List.filter_sublist.map _)
    have hr1 : w1.heap[r]? = some (.mapIter (some b) since seen c0) := by rcases hal with rfl | rfl <;> exact hr
    have hb1 : w1.heap[b]? = some (.map es clock) := by rcases hal with rfl | rfl <;> exact hb
    have hset := heap_set (o' := .mapIter (some b) since (seen.push e.born) clock) hr1
    have hb' : (setBlock w1 r (.mapIter (some b) since (seen.push e.born) clock)).heap[b]? = some (.map es clock) := (hset.2 b (fun e1 => hne e1.symm)).trans hb1
    have hleft : (leftOf es (seen.push e.born)).toList = (leftOf es seen).toList.eraseIdx i := by
      have e1 : (leftOf es (seen.push e.born)).toList = (leftOf es seen).toList.filter (fun x => x.born != e.born) := by
        unfold leftOf
        rw [Array.toList_filter, Array.toList_filter, List.filter_filter]
        refine List.filter_congr fun x _ => ?_
        rw [contains_push]
        cases seen.contains x.born <;> cases hxe : (x.born == e.born) <;> simp [bne, hxe]
      rw [e1]
      exact filter_born hnb hi
    have hil2 : i < todo.length := by omega
    have hpe : todo[i] = p := by rw [List.getElem?_eq_getElem hil2] at hp; exact Option.some.inj hp
    injection hkv with hk1 hk2
    refine ⟨p.1, p.2, todo.eraseIdx i, _, ?_, by rw [hrun, hk1, hk2], ⟨es, clock, since, seen.push e.born, clock, hb', he, hn, hs, hc, hset.1, hold, hsk, hsk, ?_⟩, ?_, ?_⟩
    · exact perm_erase hp
    · rw [hleft, ← erase_map, ← erase_map, hl]
    · rcases hal with rfl | rfl <;> exact ⟨rfl, rfl, rfl, by simp [setBlock], fun i _ hi => hset.2 i (fun e1 => hi (by simp [e1]))⟩
    · rw [← hk1, ← hk2]
      exact run_entry_at _ r b since seen es clock e hset.1 hb' hem.1 hs
end

section
variable {P : Program} {κ : Type} {w : World} {ops : Array Oper} {rest : List Oper} {o : Oper} {a : Act} {Q : Exit → Act → World → Prop} {b r : Nat} {kv : κ → Value} {m todo : List (κ × Value)}
theorem wpList_range_mp (hg : o.guard = none) (x : Operand) (t : TypeId) (hop : o.op = Op.range t x) {k e : TypeId} (ht : P.underlying t = some (.map k e)) (hx : a.eval x = .map (some b)) (h : Mp w b kv m)
    (hK : ∀ w', MpIt w' b w.heap.size kv m m → Chg [] w w' → w'.heap.size = w.heap.size + 1 → wpList P ops Q rest (a.put o.dst (.pointer (some ⟨w.heap.size, 0, none⟩))) w') : wpList P ops Q (o :: rest) a w := by
  refine wpList_plain hg fun K' hK' => ?_
  obtain ⟨w', hrun, r1, r2, r3⟩ := MpIt.start (P := P) h ht
  unfold Oper.wp
  simp [execOp, hop, hx, hrun, Result.andThen]
  exact hK' _ _ (hK w' r1 r2 r3)
theorem wpList_next_mp (hg : o.guard = none) (it : Operand) (hop : o.op = Op.next it false) (hit : a.eval it = .pointer (some ⟨r, 0, none⟩)) (h : MpIt w b r kv m todo)
    (hDone : todo = [] → wpList P ops Q rest (a.put o.dst (.tuple #[.bool false])) w)
    (hMore : ∀ (k : κ) (v : Value) (todo' : List (κ × Value)) (w' : World), todo.Perm ((k, v) :: todo') → MpIt w' b r kv m todo' → Chg [r] w w' →
      (Instr.entry (.pointer (some ⟨r, 0, none⟩))).run P w' = .ok (.tuple #[kv k, v]) w' → wpList P ops Q rest (a.put o.dst (.tuple #[.bool true, kv k, v])) w') : wpList P ops Q (o :: rest) a w := by
  refine wpList_plain hg fun K' hK' => ?_
  unfold Oper.wp
  rcases h.step (P := P) o.type with ⟨h0, hrun⟩ | ⟨k, v, todo', w', hp, hrun, hit', hch, hen⟩
  · simp [execOp, hop, hit, hrun, Result.andThen]
    exact hK' _ _ (hDone h0)
  · simp [execOp, hop, hit, hrun, Result.andThen]
    exact hK' _ _ (hMore k v todo' w' hp hit' hch hen)
end
end Go.Proofs.YtgomofeidghmiaaGreat

namespace Go.Proofs.YtgomofeidghmiaaGreat
open Go.RowKit

/-- the same names and files -/
def Copied (g g' : GTr) : Prop := ∀ k, (aget g' k).map (·.2) = (aget g k).map (·.2)
theorem TreeIs.copied {ib : List Nat} {g g' : GTr} {T : Tr} (h : TreeIs ib g T) (hc : Copied g g') : TreeIs ib g' T := by
  refine ⟨fun k => ?_, fun k d F hd hF n => ?_⟩
  · have := congrArg Option.isSome (hc k)
    rw [Option.isSome_map, Option.isSome_map] at this
    rw [this]; exact h.top k
  · have := hc k
    rw [hd] at this
    cases hg : aget g k with
    | none => rw [hg] at this; cases this
    | some e =>
      rw [hg] at this
      simp only [Option.map_some, Option.some.injEq] at this
      rw [this]
      exact h.sub k e F hg hF n
theorem copied_of {g g' : GTr} (hn : (g.map Prod.fst).Nodup) (_ : (g'.map Prod.fst).Nodup) (h1 : ∀ p ∈ g', ∃ q ∈ g, q.1 = p.1 ∧ q.2.2 = p.2.2) (h2 : (g'.map Prod.fst).Perm (g.map Prod.fst)) : Copied g g' := by
  intro k
  cases hk : aget g' k with
  | none =>
    have : k ∉ g.map Prod.fst := fun h => (aget_none.1 hk) (h2.mem_iff.2 h)
    rw [aget_none.2 this]
  | some e =>
    obtain ⟨q, hq, e1, e2⟩ := h1 _ (aget_mem hk)
    have := aget_of_mem hn (show (k, q.2) ∈ g by rw [← show q.1 = k from e1]; exact hq)
    rw [this]
    simp only [Option.map_some, Option.some.injEq]
    exact e2.symm
theorem aput_new {κ α : Type} [DecidableEq κ] {t : List (κ × α)} {k : κ} (h : k ∉ t.map Prod.fst) (v : α) : aput t k v = t ++ [(k, v)] := by
  unfold aput
  rw [aidx_none.2 h]

set_option maxRecDepth 100000 in
set_option maxHeartbeats 3200000 in
theorem tclone_any (w : World) (tb : Nat) (g : GTr) (h : Tree w tb g) :
    Calls Tryz.prog 57 #[.map (some tb)] w fun e w' => ∃ ob g', e = .returned (.map (some ob)) ∧ Tree w' ob g' ∧ (∀ x ∈ tbl ob g', w.heap.size ≤ x) ∧ Chg [] w w' ∧ Copied g g' := by
  have HT := Lib.hid h
  have hmm := @run_makeMap Tryz.prog
  have hal : Chg [] w (w.alloc (.map #[] 0)) := (Chg.refl _ _).alloc _
  have hmp := h.top.chg hal List.not_mem_nil
  have HM : Hid (Mp (w.alloc (.map #[] 0)) w.heap.size kvS []) := Lib.hid (Mp.made w kvS)
  clear h hal
  go_enter Tryz.func57, Tryz.ntmps57
  go_wp2_with (at_range; refine wpList_range_mp rfl _ _ rfl Tryz.underlying88 rfl hmp ?_; intro w0 hit0 hc0 hs0)
  go_frame
  obtain ⟨ob, hob⟩ : ∃ ob, w.heap.size = ob := ⟨_, rfl⟩
  obtain ⟨r, hr⟩ : ∃ r, (w.alloc (.map #[] 0)).heap.size = r := ⟨_, rfl⟩
  rw [hr] at hit0
  have hc1 : Chg [] w w0 := ((Chg.refl [] w).alloc _).trans0 hc0
  have hm0 : Mp w0 ob kvS [] := by rw [← hob]; exact HM.out.chg hc0 List.not_mem_nil
  rw [hr, hob]
  have hrl : w.heap.size ≤ r := by rw [← hr]; simp
  have hne : r ∉ [ob] := by rw [← hr, ← hob]; simp
  have hnt : r ∉ tbl tb g := fun hm => by have := HT.out.lt r hm; rw [← hr] at this; simp at this; omega
  have hol : w.heap.size ≤ ob := by omega
  have hot : tb ≠ ob := by have := HT.out.top.lt; omega
  have HA := Lib.hid (show w.heap.size ≤ r ∧ r ∉ [ob] ∧ r ∉ tbl tb g ∧ w.heap.size ≤ ob ∧ tb ≠ ob from ⟨hrl, hne, hnt, hol, hot⟩)
  clear hrl hne hnt hol hot
  go_loopw [4] (fun _ wr => ∃ done todo g', MpIt wr tb r kvS (tval g) todo ∧ (done ++ todo).Perm (tval g) ∧ Tree wr ob g' ∧ (∀ x ∈ tbl ob g', w.heap.size ≤ x) ∧ Chg [] w wr ∧ (∀ p ∈ g', ∃ q ∈ g, q.1 = p.1 ∧ q.2.2 = p.2.2) ∧ g'.map Prod.fst = done.map Prod.fst) (fun _ wr => wr.rangeLeft tb r)
  case atStart =>
    exact ⟨[], tval g, [], hit0, List.Perm.refl _, ⟨hm0, by simp, by simp⟩, by simp [tbl]; exact HA.out.2.2.2.1, hc1, by simp, rfl⟩
  case round =>
    obtain ⟨done, todo, g', hit, hperm, htr, hnew, hch, hcp, hks⟩ := hrel
    have HP := Lib.hid hperm
    have HTR := Lib.hid htr
    have HN := Lib.hid hnew
    have HCH := Lib.hid hch
    have HCP := Lib.hid hcp
    have HKS := Lib.hid hks
    have HIT := Lib.hid hit
    clear hperm htr hnew hch hcp hks
    go_wp2_with (at_next; refine wpList_next_mp rfl _ rfl rfl hit ?_ ?_)
    · intro hdone
      have HD := Lib.hid hdone
      clear hdone
      go_wp2
      go_ret
      have hp := HP.out
      rw [HD.out, List.append_nil] at hp
      have hn := HTR.out.nodup
      refine ⟨ob, g', rfl, HTR.out, HN.out, HCH.out, copied_of HT.out.nodup hn HCP.out ?_⟩
      rw [HKS.out, ← tval_fst]
      exact hp.map _
    · intro k v todo' w1 hp hit1 hch1 hen
      have hkv : (k, v) ∈ tval g := HP.out.mem_iff.1 (List.mem_append_right _ (hp.mem_iff.2 (List.mem_cons_self ..)))
      obtain ⟨q, hq, hqe⟩ := List.mem_map.1 hkv
      injection hqe with hq1 hq2
      subst hq1
      subst hq2
      have hkn : q.1 ∉ g'.map Prod.fst := by
        rw [HKS.out]
        intro hm
        have hnd := (HP.out.map Prod.fst).nodup_iff.2 (by rw [tval_fst]; exact HT.out.nodup)
        rw [List.map_append, List.nodup_append] at hnd
        exact hnd.2.2 _ hm _ (((hp.map Prod.fst).mem_iff).2 (by simp)) rfl
      have hne1 := HIT.out.ne
      have hch1' : Chg [] w w1 := HCH.out.trans hch1 (fun x hx => by simp only [List.mem_singleton] at hx; subst hx; exact .inr HA.out.1)
      have hsub := (HT.out.sub q hq).chg hch1' List.not_mem_nil
      have htr1 := HTR.out.keep hch1 (fun x hx hm => by
        simp only [List.mem_singleton] at hm
        subst hm
        rcases List.mem_cons.1 hx with rfl | hx
        · exact HA.out.2.1 (by simp)
        · obtain ⟨p, hp', rfl⟩ := List.mem_map.1 hx
          have h1 := (HTR.out.sub p hp')
          obtain ⟨es, c, hb, _⟩ := h1
          obtain ⟨_, _, _, _, _, _, _, _, _, _, hbr, _⟩ := HIT.out
          rw [hb] at hbr; cases hbr)
      have HSUB := Lib.hid hsub
      have HPP := Lib.hid hp
      have HKN := Lib.hid hkn
      have HC1 := Lib.hid hch1'
      have HTR1 := Lib.hid htr1
      have HIT1 := Lib.hid hit1
      have HQ := Lib.hid hq
      clear hp hkv hkn hch1 hch1' htr1 hq hit hsub
      go_wp2_with fail
      refine (mclone_any w1 q.2.1 _ HSUB.out).mono ?_
      rintro e w2 ⟨rfl, hm2, hc2⟩
      obtain ⟨w3, hu, hm3, hc3⟩ := Mp.update (HTR1.out.top.chg hc2 List.not_mem_nil) (string_key Tryz.underlying9) Tryz.underlying88 q.1 (.map (some w1.heap.size))
      have hc23 : Chg [ob] w1 w3 := (hc2.nil [ob]).trans hc3 (fun x hx => .inl hx)
      have hlo := HTR1.out.top.lt
      have hwo : w1.heap.size ≠ ob := by omega
      have hro := HA.out.2.1
      have HTR3 := Lib.hid (Tree.put (d := q.1) (fb := w1.heap.size) (f := q.2.2) HTR1.out.nodup HTR1.out.sub HTR1.out.apart hc23 hm3 (hm2.chg hc3 (by simpa using hwo)) (by simpa using hwo) (fun p hp _ => by have := (HTR1.out.sub p hp).lt; omega) (fun p hp _ => by simpa using HTR1.out.ne_top hp))
      have hlt := HIT1.out.lt
      have HIT3 := Lib.hid (HIT1.out.chg hc23 (by simpa using HA.out.2.2.2.2) hro)
      have HC3 : Hid (Chg [] w w3) := Lib.hid (HC1.out.trans hc23 (fun x hx => by simp only [List.mem_singleton] at hx; subst hx; exact .inr HA.out.2.2.2.1))
      have HSZ : Hid (w.heap.size ≤ w1.heap.size) := Lib.hid HC1.out.size
      clear hm2 hc2 hm3 hc3 hc23 hlo hwo hro hlt hne1
      go_wp2
      go_roundw
      case rel =>
        refine ⟨done ++ [(q.1, Value.map (some q.2.1))], todo', aput g' q.1 (w1.heap.size, q.2.2), HIT3.out, ?_, HTR3.out, ?_, HC3.out, ?_, ?_⟩
        · rw [List.append_assoc]
          exact (List.Perm.append_left done HPP.out.symm).trans HP.out
        · intro x hx
          rcases tbl_aput (B := w.heap.size) HTR1.out.nodup (.inr HSZ.out) x hx with h | h
          · exact HN.out x h
          · exact h
        · intro p hp
          rcases (mem_aput HTR1.out.nodup).1 hp with rfl | ⟨hp, _⟩
          · exact ⟨q, HQ.out, rfl, rfl⟩
          · exact HCP.out p hp
        · rw [aput_new HKN.out, List.map_append, List.map_append, HKS.out]
          rfl
      case measure =>
        have h1 := HIT3.out.left_eq
        have h2 := HIT.out.left_eq
        have h3 := HPP.out.length_eq
        rw [h1, h2, h3]
        simp
end Go.Proofs.YtgomofeidghmiaaGreat

namespace Go.Proofs.YtgomofeidghmiaaGreat
open Go.RowKit

/-- a sum over keys -/
def ksum {α : Type} (c : α → Nat) (F : List (ByteArray × α)) (ks : List ByteArray) : Nat := (ks.map fun n => ((aget F n).map c).getD 0).sum
theorem ksum_perm {α : Type} {c : α → Nat} {F : List (ByteArray × α)} {a b : List ByteArray} (h : a.Perm b) : ksum c F a = ksum c F b := (h.map _).sum_nat
theorem ksum_append {α : Type} {c : α → Nat} {F : List (ByteArray × α)} (a b : List ByteArray) : ksum c F (a ++ b) = ksum c F a + ksum c F b := by simp [ksum]
theorem ksum_one {α : Type} {c : α → Nat} {F : List (ByteArray × α)} {n : ByteArray} {x : α} (h : aget F n = some x) : ksum c F [n] = c x := by simp [ksum, h]
theorem ksum_all {α : Type} (c : α → Nat) {F : List (ByteArray × α)} (hn : (F.map Prod.fst).Nodup) : ksum c F (F.map Prod.fst) = (F.map fun q => c q.2).sum := by
  unfold ksum
  rw [List.map_map]
  congr 1
  refine List.map_congr_left fun q hq => ?_
  simp only [Function.comp]
  rw [aget_mem' hn hq]; rfl
theorem sum_le_mul {α : Type} (l : List α) (f : α → Nat) (M : Nat) (h : ∀ x ∈ l, f x ≤ M) : (l.map f).sum ≤ l.length * M := by
  induction l with
  | nil => simp
  | cons x r ih =>
    simp only [List.map_cons, List.sum_cons, List.length_cons]
    have h1 := h x (by simp)
    have h2 := ih (fun y hy => h y (List.mem_cons_of_mem _ hy))
    rw [Nat.add_mul, Nat.one_mul]; omega

def St.len (S : St) (i : Nat) : Nat := (S.bytes i).length
def St.flen (S : St) (F : Fol) : Nat := (F.map fun q => S.len q.2).sum
theorem Inv.len {B : Nat} {S : St} (h : Inv B S) (i : Nat) : S.len i ≤ B := by
  unfold St.len St.bytes
  rw [List.getD_eq_getElem?_getD]
  cases hf : S.files[i]? with
  | none => simp [Fil.all]
  | some f =>
    have h1 := fil_le (List.mem_of_getElem? hf)
    have h2 := h.bulk
    simp only [Option.getD_some]; omega
theorem used_eq {S : St} (hd : S.down = false) : S.used = (S.seen.map fun p => S.flen p.2).sum := by
  unfold St.used St.view bytesOf
  rw [if_neg (by simp [hd]), List.map_map]
  congr 1
  refine List.map_congr_left fun p _ => ?_
  simp only [Function.comp]
  rw [List.map_map]; rfl
theorem flen_sum_le {B : Nat} {S : St} (h : Inv B S) (T : Tr) : (T.map fun p => S.flen p.2).sum ≤ wd T * B := by
  unfold wd
  induction T with
  | nil => simp
  | cons p r ih =>
    simp only [List.map_cons, List.sum_cons, Nat.add_mul]
    have h1 : S.flen p.2 ≤ p.2.length * B := sum_le_mul _ _ B (fun q _ => h.len q.2)
    omega
theorem used_le {B : Nat} {S : St} (h : Inv B S) : S.used ≤ B * B := by
  cases hd : S.down with
  | true => unfold St.used St.view; rw [if_pos hd]; simp [bytesOf]
  | false =>
    rw [used_eq hd]
    exact Nat.le_trans (flen_sum_le h S.seen) (Nat.mul_le_mul_right _ h.wd)

theorem FsM.size_ {w : World} {G : FsG} {S : St} (h : FsM w G S) {i : Nat} (hi : i < S.files.length) : ∃ g, Blk w (ibf G.ib i) 98 #[.pointer (some ⟨g, 0, none⟩)] ∧ Calls Tryz.prog 50 #[.pointer (some ⟨g, 0, none⟩)] w (fun e w' => e = .returned (.int .i64 (S.len i : Nat)) ∧ w' = w) := by
  have hf : S.files[i]? = some S.files[i] := List.getElem?_eq_getElem hi
  obtain ⟨x, g, L, h1, h2, h3, h4, h5⟩ := h.at_ hf
  refine ⟨g, by rw [ibf_at h1]; exact h4, size_any g L _ _ w h5 _ ?_⟩
  unfold St.len St.bytes
  rw [List.getD_eq_getElem?_getD, hf]
  simp [Fil.all]

set_option maxRecDepth 100000 in
set_option maxHeartbeats 3200000 in
theorem used_st {w : World} {G : FsG} {S : St} {B : Nat} (h : FsM w G S) (hi : Inv B S) (hB : B ≤ 1073741824) :
    Calls Tryz.prog 14 #[.pointer (some ⟨G.b, 0, none⟩)] w fun e w' => e = .returned (.int .i64 (S.used : Int)) ∧ Chg [] w w' := by
  have HF := Lib.hid h
  have HI := Lib.hid hi
  have hU : S.used ≤ 1152921504606846976 := by
    have h1 := used_le hi
    have h2 : B * B ≤ 1073741824 * 1073741824 := Nat.mul_le_mul hB hB
    omega
  have HU := Lib.hid hU
  clear h hi hB hU
  go_enter Tryz.func14, Tryz.ntmps14
  go_wp2_with fail
  refine (down_st HF.out).mono ?_
  rintro e w1 ⟨rfl, hc1⟩
  have HC1 := Lib.hid hc1
  cases hd : S.down with
  | true =>
    have HR : Hid (S.used = 0) := Lib.hid (by unfold St.used St.view; rw [if_pos hd]; rfl)
    clear hc1 hd
    go_wp2
    go_ret
    exact ⟨by rw [HR.out]; rfl, HC1.out⟩
  | false =>
    have HR : Hid (S.used = (S.seen.map fun p => S.flen p.2).sum) := Lib.hid (used_eq hd)
    have HF1 := Lib.hid (HF.out.keep0 hc1)
    have h0 := HF1.out.blk.cell 0
    simp at h0
    have hmp := HF1.out.tr1.top
    clear hc1 hd
    go_wp2_with (at_range; refine wpList_range_mp rfl _ _ rfl Tryz.underlying88 rfl hmp ?_; intro w0 hit0 hc0 hs0)
    go_frame
    obtain ⟨r, hr⟩ : ∃ r, w1.heap.size = r := ⟨_, rfl⟩
    rw [hr] at hit0 ⊢
    have HC0 : Hid (Chg [] w w0) := Lib.hid (HC1.out.trans0 hc0)
    have HRR : Hid (w.heap.size ≤ r) := Lib.hid (by rw [← hr]; exact HC1.out.size)
    clear hr hs0 hc0 h0 hmp
    have htot : ksum S.flen S.seen (G.g1.map Prod.fst) = S.used := by
      rw [HR.out, ksum_perm (HF.out.is1.keys HF.out.tr1.nodup HI.out.val.srt), ksum_all _ HI.out.val.srt.nodup]
    have HTOT := Lib.hid htot
    clear htot
    go_loopw [2, 4] (fun s _ wr => ∃ done todo, ∃ N : Nat, s = .int .i64 N ∧ MpIt wr G.t1 r kvS (tval G.g1) todo ∧ (done ++ todo).Perm (tval G.g1) ∧ Chg [] w wr ∧ N = ksum S.flen S.seen (done.map Prod.fst)) (fun _ _ wr => wr.rangeLeft G.t1 r)
    case atStart => exact ⟨[], tval G.g1, 0, rfl, hit0, List.Perm.refl _, HC0.out, rfl⟩
    case round =>
      obtain ⟨done, todo, N, rfl, hit, hperm, hch, hN⟩ := hrel
      have HP := Lib.hid hperm
      have HCH := Lib.hid hch
      have HN := Lib.hid hN
      have HIT := Lib.hid hit
      clear hperm hch hN
      go_wp2_with (at_next; refine wpList_next_mp rfl _ rfl rfl hit ?_ ?_)
      · intro hdone
        have HD := Lib.hid hdone
        clear hdone
        go_wp2
        go_ret
        have hp := HP.out
        rw [HD.out, List.append_nil] at hp
        refine ⟨?_, HCH.out⟩
        rw [HN.out, ksum_perm (hp.map Prod.fst), tval_fst, HTOT.out]
        rfl
      · intro k v todo' w2 hp hit1 hch1 hen
        have hkv : (k, v) ∈ tval G.g1 := HP.out.mem_iff.1 (List.mem_append_right _ (hp.mem_iff.2 (List.mem_cons_self ..)))
        obtain ⟨q, hq, hqe⟩ := List.mem_map.1 hkv
        injection hqe with hq1 hq2
        subst hq1
        subst hq2
        have hgq := aget_mem' HF.out.tr1.nodup hq
        obtain ⟨F, hF⟩ : ∃ F, aget S.seen q.1 = some F := by
          have := HF.out.is1.top q.1
          rw [hgq] at this
          exact Option.isSome_iff_exists.1 this.symm
        have hsub := HF.out.is1.sub _ _ _ hgq hF
        have hSF : Srt F := HI.out.val.sub _ (aget_mem hF)
        have hall : ksum S.len F ((q.2.2).map Prod.fst) = S.flen F := by
          rw [ksum_perm (fol_keys hsub (HF.out.tr1.subnodup hq) hSF), ksum_all _ hSF.nodup]; rfl
        have hle : N + S.flen F ≤ S.used := by
          have e1 := ksum_perm (c := S.flen) (F := S.seen) (((List.Perm.append_left done hp.symm).trans HP.out).map Prod.fst)
          rw [tval_fst, HTOT.out, List.map_append, List.map_cons, ksum_append] at e1
          rw [show (q.1 :: todo'.map Prod.fst) = [q.1] ++ todo'.map Prod.fst from rfl, ksum_append, ksum_one hF] at e1
          have := HN.out
          omega
        have hC2 : Chg [] w w2 := HCH.out.trans hch1 (fun x hx => by simp only [List.mem_singleton] at hx; subst hx; exact .inr HRR.out)
        have hmq := (HF.out.tr1.sub q hq).chg hC2 List.not_mem_nil
        have HC2 := Lib.hid hC2
        have HSUB := Lib.hid hsub
        have HALL := Lib.hid hall
        have HLE := Lib.hid hle
        have HPP := Lib.hid hp
        have HIT1 := Lib.hid hit1
        have HFF := Lib.hid hF
        have HQ := Lib.hid hq
        clear hkv hgq hF hsub hSF hall hle hC2 hp hit hit1 hch1 hq
        go_wp2_with (at_range; refine wpList_range_mp rfl _ _ rfl Tryz.underlying94 rfl hmq ?_; intro w3 hit3 hc3 hs3)
        go_frame
        obtain ⟨r2, hr2⟩ : ∃ r2, w2.heap.size = r2 := ⟨_, rfl⟩
        rw [hr2] at hit3 ⊢
        have HC3 : Hid (Chg [] w w3) := Lib.hid (HC2.out.trans0 hc3)
        have HR2 : Hid (w.heap.size ≤ r2 ∧ r ≠ r2 ∧ G.t1 ≠ r2) := Lib.hid (by
          have h1 := HC2.out.size; have h2 := HIT1.out.lt; have h3 := HIT1.out.mp.lt
          refine ⟨by omega, by omega, by omega⟩)
        have HIT3 : Hid (MpIt w3 G.t1 r kvS (tval G.g1) todo') := Lib.hid (HIT1.out.chg hc3 List.not_mem_nil List.not_mem_nil)
        clear hr2 hs3 hc3 hmq hen
        go_loopw [2, 6] (fun s _ wr => ∃ done2 todo2, ∃ M : Nat, s = .int .i64 ((N + M : Nat) : Int) ∧ MpIt wr q.2.1 r2 kvS (fval q.2.2) todo2 ∧ MpIt wr G.t1 r kvS (tval G.g1) todo' ∧ (done2 ++ todo2).Perm (fval q.2.2) ∧ Chg [] w wr ∧ M = ksum S.len F (done2.map Prod.fst)) (fun _ _ wr => wr.rangeLeft q.2.1 r2)
        case atStart => exact ⟨[], fval q.2.2, 0, rfl, hit3, HIT3.out, List.Perm.refl _, HC3.out, rfl⟩
        case round =>
          obtain ⟨done2, todo2, M, rfl, hit4, hito, hperm2, hch4, hM⟩ := hrel
          have HP2 := Lib.hid hperm2
          have HCH4 := Lib.hid hch4
          have HM := Lib.hid hM
          have HIT4 := Lib.hid hit4
          have HITO := Lib.hid hito
          clear hperm2 hch4 hM hito
          go_wp2_with (at_next; refine wpList_next_mp rfl _ rfl rfl hit4 ?_ ?_)
          · intro hdone
            have HD := Lib.hid hdone
            clear hdone
            go_wp2
            go_roundw
            case rel =>
              refine ⟨done ++ [(q.1, Value.map (some q.2.1))], todo', N + M, rfl, HITO.out, (List.append_assoc done _ _ ▸ (List.Perm.append_left done HPP.out.symm).trans HP.out), HCH4.out, ?_⟩
              have hp2 := HP2.out
              rw [HD.out, List.append_nil] at hp2
              rw [List.map_append, ksum_append, List.map_cons, List.map_nil, ksum_one HFF.out, HM.out, ksum_perm (hp2.map Prod.fst), fval_fst, HALL.out, HN.out]
            case measure =>
              have h1 := HITO.out.left_eq
              have h2 := HIT.out.left_eq
              have h3 := HPP.out.length_eq
              rw [h1, h2, h3]
              simp
          · intro k2 v2 todo2' w4 hp2 hit5 hch5 hen2
            have hkv2 : (k2, v2) ∈ fval q.2.2 := HP2.out.mem_iff.1 (List.mem_append_right _ (hp2.mem_iff.2 (List.mem_cons_self ..)))
            obtain ⟨p, hp, hpe⟩ := List.mem_map.1 hkv2
            injection hpe with hp1 hpv
            subst hp1
            subst hpv
            have hgp := aget_mem' (HF.out.tr1.subnodup HQ.out) hp
            obtain ⟨i, hi, hix⟩ : ∃ i, aget F p.1 = some i ∧ ibf G.ib i = p.2 := by
              have := HSUB.out p.1
              rw [hgp] at this
              cases hFi : aget F p.1 with
              | none => rw [hFi] at this; cases this
              | some i => rw [hFi] at this; injection this with this; exact ⟨i, rfl, this.symm⟩
            have hil := HI.out.val.ids _ (aget_mem HFF.out) _ (aget_mem hi)
            have hC4 : Chg [] w w4 := HCH4.out.trans hch5 (fun x hx => by simp only [List.mem_singleton] at hx; subst hx; exact .inr HR2.out.1)
            obtain ⟨sg, hb4, hsz⟩ := (HF.out.keep0 hC4).size_ hil
            rw [hix] at hb4
            have c0 := hb4.cell 0
            simp at c0
            have hle2 : M + S.len i ≤ S.flen F := by
              have e1 := ksum_perm (c := S.len) (F := F) (((List.Perm.append_left done2 hp2.symm).trans HP2.out).map Prod.fst)
              rw [fval_fst, HALL.out, List.map_append, List.map_cons, ksum_append] at e1
              rw [show (p.1 :: todo2'.map Prod.fst) = [p.1] ++ todo2'.map Prod.fst from rfl, ksum_append, ksum_one hi] at e1
              have := HM.out
              omega
            have hwr : wrap64 ((N : Int) + (M : Int) + (S.len i : Nat)) = ((N + (M + S.len i) : Nat) : Int) := by
              have h1 := HLE.out; have h2 := HU.out
              unfold wrap64; omega
            have HWR := Lib.hid hwr
            clear hwr
            have HC4 := Lib.hid hC4
            have HP5 := Lib.hid hp2
            have HIT5 := Lib.hid hit5
            have HIO5 : Hid (MpIt w4 G.t1 r kvS (tval G.g1) todo') := Lib.hid (HITO.out.chg hch5 (by simpa using HR2.out.2.2) (by simpa using HR2.out.2.1))
            have HII := Lib.hid hi
            have HSZ := Lib.hid hsz
            clear hkv2 hgp hi hix hil hC4 hb4 hle2 hp2 hit4 hit5 hch5 hp hsz
            go_wp2_with fail
            refine HSZ.out.mono ?_
            rintro e w5 ⟨rfl, rfl⟩
            go_wp2
            go_roundw
            case rel =>
              refine ⟨done2 ++ [(p.1, Value.pointer (some ⟨p.2, 0, none⟩))], todo2', M + S.len i, (congrArg (Value.int .i64) HWR.out), HIT5.out, HIO5.out, (List.append_assoc done2 _ _ ▸ (List.Perm.append_left done2 HP5.out.symm).trans HP2.out), HC4.out, ?_⟩
              rw [List.map_append, ksum_append, List.map_cons, List.map_nil, ksum_one HII.out, HM.out]
            case measure =>
              have h1 := HIT5.out.left_eq
              have h2 := HIT4.out.left_eq
              have h3 := HP5.out.length_eq
              rw [h1, h2, h3]
              simp
end Go.Proofs.YtgomofeidghmiaaGreat
