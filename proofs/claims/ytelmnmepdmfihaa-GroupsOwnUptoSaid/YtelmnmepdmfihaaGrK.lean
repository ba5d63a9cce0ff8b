/-
  Layer 17: slices.Sorted(maps.Keys(by)): the keys, sorted, in new memory.
-/
import Derived.Test.YtelmnmepdmfihaaGrSh
import Derived.Test.YtelmnmepdmfihaaGrPl
import Derived.Test.YtelmnmepdmfihaaMapM
namespace Go.Proofs.Ytelmnmepdmfihaa
open Go.RowKit Go.Maps Go.Sort Go.Shelf

theorem insert_perm {H : Type} (x : Lit × DataW H) : ∀ l : List (Lit × DataW H), (DataW.insert x l).Perm (x :: l)
  | [] => List.Perm.refl _
  | y :: r => by
    unfold DataW.insert
    split
    · exact List.Perm.refl _
    · exact ((insert_perm x r).cons y).trans (List.Perm.swap x y r)
theorem inserts_perm {H : Type} : ∀ l : List (Lit × DataW H), (l.foldr DataW.insert []).Perm l
  | [] => List.Perm.refl _
  | x :: r => (insert_perm x _).trans ((inserts_perm r).cons x)

abbrev kvI : Int → Value := fun z => Value.int .i64 z
def anyR : Value → Option (DataW Unit × List MemPlace) := fun _ => some (.nil, [])

theorem keyOf_int' {kt : TypeId} (hk : Try.prog.underlying kt = some (.int .i64)) {x : Int} (h : (Lit.int .i64 x).wf = true) : keyOf Try.prog kt (.int .i64 x) = some (.int .i64 x) := by
  unfold keyOf; rw [hk]; simp [mapKey, hk, h]

theorem Mp.owns {w : World} {b : Nat} {m : List (Int × Value)} (h : Mp w b kvI m) {kt : TypeId} (hkt : Try.prog.underlying kt = some (.int .i64)) (hk : ∀ p ∈ m, (Lit.int .i64 p.1).wf = true) (hm : m.length ≤ maxLen) :
    ∃ D : DataW Unit, w.ownsMap Try.prog kt anyR b m.length D ∧ (intKeys D).Perm (m.map Prod.fst) ∧ Maps.size D = m.length := by
  obtain ⟨es, clock, hb, he, hn, hs, hc⟩ := h
  have hlen : es.toList.length = m.length := by have := congrArg List.length he; simpa using this
  have hkeys := Mp.keys he
  have hat : ∀ x ∈ es.toList, ∃ k, x.key = Value.int .i64 k ∧ (Lit.int .i64 k).wf = true := by
    intro x hx
    have : x.key ∈ es.toList.map (·.key) := List.mem_map.2 ⟨x, hx, rfl⟩
    rw [hkeys] at this
    obtain ⟨k, hk1, hk2⟩ := List.mem_map.1 this
    obtain ⟨p, hp1, rfl⟩ := List.mem_map.1 hk1
    exact ⟨p.1, hk2.symm, hk p hp1⟩
  have hrd : ∀ x ∈ es.toList, ∃ k, x.key = Value.int .i64 k ∧ WideElems.rd Try.prog kt anyR x = some (.int .i64 k, .nil) := by
    intro x hx
    obtain ⟨k, h1, h2⟩ := hat x hx
    refine ⟨k, h1, ?_⟩
    unfold WideElems.rd
    rw [h1, keyOf_int' hkt h2]; rfl
  refine ⟨_, ⟨es, clock, hb, ⟨by rw [← Array.length_toList, hlen]; exact hm, ⟨hc, hs, ?_⟩, fun x hx => ?_⟩, by rw [← Array.length_toList, hlen]; exact Nat.le_refl _, rfl⟩, ?_, ?_⟩
  · rw [hkeys]
    exact List.Pairwise.map kvI (R := (· ≠ ·)) (S := (· ≠ ·)) (fun a b hab e => hab (by injection e)) hn
  · obtain ⟨k, _, h2⟩ := hrd x hx; exact ⟨_, h2⟩
  · show (((es.toList.map (WideElems.rg Try.prog kt anyR)).foldr DataW.insert []).map fun p => Go.intOf p.1).Perm _
    refine ((inserts_perm _).map _).trans ?_
    have : (es.toList.map (WideElems.rg Try.prog kt anyR)).map (fun p => Go.intOf p.1) = m.map Prod.fst := by
      rw [List.map_map]
      have h2 : (es.toList.map fun x => match x.key with | .int _ a => a | _ => 0) = m.map Prod.fst := by
        have := congrArg (List.map fun v : Value => match v with | .int _ a => a | _ => 0) hkeys
        rw [List.map_map, List.map_map] at this
        rw [show (m.map Prod.fst) = (m.map Prod.fst).map ((fun v : Value => match v with | .int _ a => a | _ => 0) ∘ kvI) from by simp [Function.comp_def], ← this]
        rfl
      rw [← h2]
      refine List.map_congr_left fun x hx => ?_
      obtain ⟨k, h3, h4⟩ := hrd x hx
      simp only [Function.comp_apply, WideElems.rg, h4, h3, Option.getD_some, Go.intOf]
    rw [this]
  · show (((es.toList.map (WideElems.rg Try.prog kt anyR)).foldr DataW.insert [])).length = _
    rw [(inserts_perm _).length_eq, List.length_map, hlen]

theorem sortsA (m : Nat) : AnyZI.SortsIn Try.prog Try.sortedA_ren Fence.wide m :=
  ⟨fun blk off cap ss W hH hblk hsz => callsIn_wide.2 (AnyM.slices_Sort_int Try.sortA blk off cap ss W hH hblk hsz),
   fun p cap W => callsIn_wide.2 (AnyM.slices_Sort_int_none Try.sortA p cap W)⟩

theorem keys_any (mb : Option Nat) (W : World) : Calls Try.prog 27 #[.map mb] W fun e w' => e = .returned (.func (.func 42) #[] #[.pointer (some ⟨W.heap.size, 0, none⟩)]) ∧ w' = W.alloc (.cells #[.map mb] 60) :=
  (callsIn_wide (n := 5)).1 (AnyZI.keys_in Try.keysA Fence.wide 5 trivial rfl mb W)

set_option maxHeartbeats 1000000 in
theorem sorted_any (W : World) (b : Nat) (m : List (Int × Value)) (h : Mp W b kvI m) (hk : ∀ p ∈ m, (Lit.int .i64 p.1).wf = true) (hm : m.length ≤ 1073741824) :
    Calls Try.prog 26 #[.func (.func 42) #[] #[.pointer (some ⟨W.heap.size, 0, none⟩)]] (W.alloc (.cells #[.map (some b)] 60)) (NewRow 3 1 (W.alloc (.cells #[.map (some b)] 60)) (iv ((m.map Prod.fst).mergeSort leI)) m.length) := by
  obtain ⟨D, hown, hperm, hsz⟩ := h.owns Try.underlying3 hk (by unfold maxLen; omega)
  have hbl := hown.lt
  have hseq : SeqGives Fence.wide 2 Try.prog 42 #[.pointer (some ⟨W.heap.size, 0, none⟩)] encZ (fun ss => ss.Perm (intKeys D)) (Maps.size D) (W.alloc (.cells #[.map (some b)] 60)) :=
    AnyZI.keys_gives (ρ := Try.keysA_ren) { Try.keysA with } Fence.wide _ trivial rfl (by omega) W.heap.size b m.length D _ (by simp) (by simp) (by
      obtain ⟨es, clock, hb, Ft, hs, hD⟩ := hown
      exact ⟨es, clock, (Below.heap_alloc _ _ b hbl).trans hb, Ft, hs, hD⟩)
  have cS := AnyZI.sorted_in Try.sortedA Fence.wide 5 trivial trivial trivial trivial rfl (by omega) (sortsA _) (enters_of Try.func41 (by kernel_rfl) rfl) 42 #[.pointer (some ⟨W.heap.size, 0, none⟩)] trivial (enters_of Try.func42 (by kernel_rfl) rfl) _ _ (by rw [hsz]; unfold maxLen; omega) (by rw [hsz]; omega) _ hseq
  change CallsIn _ _ Try.prog 26 _ _ _ at cS
  refine ((callsIn_wide (n := 5)).1 cS).mono ?_
  rintro e w' ⟨v, ss, rfl, hp, hrow, hnil, hb⟩
  have hlen : ss.length = m.length := by rw [(hp.trans hperm).length_eq, List.length_map]
  have hse : ss.mergeSort (fun x y => decide (x ≤ y)) = (m.map Prod.fst).mergeSort leI := mergeSort_of_perm_i (hp.trans hperm)
  rw [hse, hlen] at hrow
  rcases hrow.2 with ⟨hv, hz⟩ | ⟨g, cap, cur, hv, hbase, hr⟩
  · subst hv
    refine ⟨none, 0, by rw [hz], ⟨hrow.1, .inl ⟨by rw [hz], hz⟩⟩, Chg.of_below hb [], by simp⟩
  · subst hv
    exact ⟨_, cap, rfl, ⟨hrow.1, .inr ⟨g, cap, cur, rfl, Nat.zero_le _, hr⟩⟩, Chg.of_below hb [], by simpa using hbase⟩
end Go.Proofs.Ytelmnmepdmfihaa
