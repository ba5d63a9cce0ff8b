/-
  Layer 08: slices.Sorted(maps.Keys(m)) at names: the keys, sorted, in new memory.
-/
import Derived.Test.YtgomofeidghmiaaVfSh
import Derived.Test.YtgomofeidghmiaaSpA
import Derived.Test.YtgomofeidghmiaaMapM
import Derived.StringKeys
namespace Go.Proofs.Ytgomofeidghmiaa
open Go.RowKit Go.Maps Go.Sort Go.Shelf

theorem insert_perm {H : Type} (x : Lit × DataW H) : ∀ l : List (Lit × DataW H), (DataW.insert x l).Perm (x :: l)
  | [] => List.Perm.refl _
  | y :: r => by
    unfold DataW.insert
    split
    · exact List.Perm.refl _
    · exact ((insert_perm x r).cons y).trans (List.Perm.swap x y r)
theorem inserts_perm {H : Type} : ∀ l : List (Lit × DataW H), (l.foldr DataW.insert []).Perm l
  | [] => List.Perm.refl _
  | x :: r => (insert_perm x _).trans ((inserts_perm r).cons x)

abbrev kvS : ByteArray → Value := fun z => Value.string z
def anyR : Value → Option (DataW Unit × List MemPlace) := fun _ => some (.nil, [])
/-- texts as lists of bytes, sorted -/
def srt (ks : List ByteArray) : List ByteArray := ((ks.map (·.data.toList)).mergeSort (fun x y => decide (x ≤ y))).map fun l => ⟨l.toArray⟩
def svs (ks : List ByteArray) : List Value := ks.map Value.string

theorem Mp.owns {w : World} {b : Nat} {m : List (ByteArray × Value)} (h : Mp w b kvS m) {kt : TypeId} (hkt : Try.prog.underlying kt = some .string) (hk : ∀ p ∈ m, p.1.size ≤ maxLen) (hm : m.length ≤ maxLen) :
    ∃ D : DataW Unit, w.ownsMap Try.prog kt anyR b m.length D ∧ (strKeys D).Perm ((m.map Prod.fst).map (·.data.toList)) ∧ Maps.size D = m.length := by
  obtain ⟨es, clock, hb, he, hn, hs, hc⟩ := h
  have hlen : es.toList.length = m.length := by have := congrArg List.length he; simpa using this
  have hkeys := Mp.keys he
  have hat : ∀ x ∈ es.toList, ∃ k : ByteArray, x.key = Value.string k ∧ k.size ≤ maxLen := by
    intro x hx
    have : x.key ∈ es.toList.map (·.key) := List.mem_map.2 ⟨x, hx, rfl⟩
    rw [hkeys] at this
    obtain ⟨k, hk1, hk2⟩ := List.mem_map.1 this
    obtain ⟨p, hp1, rfl⟩ := List.mem_map.1 hk1
    exact ⟨p.1, hk2.symm, hk p hp1⟩
  have hrd : ∀ x ∈ es.toList, ∃ k : ByteArray, x.key = Value.string k ∧ WideElems.rd Try.prog kt anyR x = some (.string k.data.toList, .nil) := by
    intro x hx
    obtain ⟨k, h1, h2⟩ := hat x hx
    refine ⟨k, h1, ?_⟩
    unfold WideElems.rd
    rw [h1, WideMaps.keyOf_string_mk hkt h2]; rfl
  refine ⟨_, ⟨es, clock, hb, ⟨by rw [← Array.length_toList, hlen]; exact hm, ⟨hc, hs, ?_⟩, fun x hx => ?_⟩, by rw [← Array.length_toList, hlen]; exact Nat.le_refl _, rfl⟩, ?_, ?_⟩
  · rw [hkeys]
    exact List.Pairwise.map kvS (R := (· ≠ ·)) (S := (· ≠ ·)) (fun a b hab e => hab (by injection e)) hn
  · obtain ⟨k, _, h2⟩ := hrd x hx; exact ⟨_, h2⟩
  · show (((es.toList.map (WideElems.rg Try.prog kt anyR)).foldr DataW.insert []).map fun p => strOf p.1).Perm _
    refine ((inserts_perm _).map _).trans ?_
    have : (es.toList.map (WideElems.rg Try.prog kt anyR)).map (fun p => strOf p.1) = (m.map Prod.fst).map (·.data.toList) := by
      rw [List.map_map]
      have h2 : (es.toList.map fun x => match x.key with | .string a => a.data.toList | _ => []) = (m.map Prod.fst).map (·.data.toList) := by
        have := congrArg (List.map fun v : Value => match v with | .string a => a.data.toList | _ => []) hkeys
        rw [List.map_map, List.map_map] at this
        exact this
      rw [← h2]
      refine List.map_congr_left fun x hx => ?_
      obtain ⟨k, h3, h4⟩ := hrd x hx
      simp only [Function.comp_apply, WideElems.rg, h4, h3, Option.getD_some, strOf]
    rw [this]
  · show (((es.toList.map (WideElems.rg Try.prog kt anyR)).foldr DataW.insert [])).length = _
    rw [(inserts_perm _).length_eq, List.length_map, hlen]

theorem sortsA (m : Nat) : AnyZ.SortsIn Try.prog Try.sortedA_ren Fence.wide m :=
  ⟨fun blk off cap ss W hH hblk hsz => callsIn_wide.2 (AnyM.slices_Sort_string Try.sortA blk off cap ss W hH hblk hsz),
   fun p cap W => callsIn_wide.2 (AnyM.slices_Sort_string_none Try.sortA p cap W)⟩

theorem tkeys_any (mb : Option Nat) (W : World) : Calls Try.prog 69 #[.map mb] W fun e w' => e = .returned (.func (.func 78) #[] #[.pointer (some ⟨W.heap.size, 0, none⟩)]) ∧ w' = W.alloc (.cells #[.map mb] 73) :=
  (callsIn_wide (n := 5)).1 (AnyZ.keys_in Try.keysTA Fence.wide 5 trivial rfl mb W)
theorem fkeys_any (mb : Option Nat) (W : World) : Calls Try.prog 70 #[.map mb] W fun e w' => e = .returned (.func (.func 79) #[] #[.pointer (some ⟨W.heap.size, 0, none⟩)]) ∧ w' = W.alloc (.cells #[.map mb] 80) :=
  (callsIn_wide (n := 5)).1 (AnyZ.keys_in Try.keysFA Fence.wide 5 trivial rfl mb W)

theorem sorted_close {W w' : World} {m : List (ByteArray × Value)} {D : DataW Unit} {v : Value} {ss : List (List UInt8)} (hperm : (strKeys D).Perm ((m.map Prod.fst).map (·.data.toList))) (hp : ss.Perm (strKeys D))
    (hrow : w'.ownsRow W.heap.size 9 1 v ss.length ((ss.mergeSort (fun x y => decide (x ≤ y))).map encStr)) (hb : Below W.heap.size W w') :
    NewRow 9 1 W (svs (srt (m.map Prod.fst))) m.length (.returned v) w' := by
  have hlen : ss.length = m.length := by rw [(hp.trans hperm).length_eq, List.length_map, List.length_map]
  have hse : ss.mergeSort (fun x y => decide (x ≤ y)) = ((m.map Prod.fst).map (·.data.toList)).mergeSort (fun x y => decide (x ≤ y)) := mergeSort_of_perm (hp.trans hperm)
  have hsv : svs (srt (m.map Prod.fst)) = (((m.map Prod.fst).map (·.data.toList)).mergeSort (fun x y => decide (x ≤ y))).map encStr := by
    unfold svs srt; rw [List.map_map]; rfl
  rw [hse, hlen, ← hsv] at hrow
  rcases hrow.2 with ⟨hv, hz⟩ | ⟨g, cap, cur, hv, hbase, hr⟩
  · subst hv
    refine ⟨none, 0, by rw [hz], ⟨hrow.1, .inl ⟨by rw [hz], hz⟩⟩, Chg.of_below hb [], by simp⟩
  · subst hv
    exact ⟨_, cap, rfl, ⟨hrow.1, .inr ⟨g, cap, cur, rfl, Nat.zero_le _, hr⟩⟩, Chg.of_below hb [], by simpa using hbase⟩

set_option maxHeartbeats 1000000 in
theorem tsorted_any (W : World) (b : Nat) (m : List (ByteArray × Value)) (h : Mp W b kvS m) (hk : ∀ p ∈ m, p.1.size ≤ maxLen) (hm : m.length ≤ 1073741824) :
    Calls Try.prog 68 #[.func (.func 78) #[] #[.pointer (some ⟨W.heap.size, 0, none⟩)]] (W.alloc (.cells #[.map (some b)] 73)) (NewRow 9 1 (W.alloc (.cells #[.map (some b)] 73)) (svs (srt (m.map Prod.fst))) m.length) := by
  obtain ⟨D, hown, hperm, hsz⟩ := h.owns Try.underlying9 hk (by unfold maxLen; omega)
  have hbl := hown.lt
  have hseq : SeqGives Fence.wide 2 Try.prog 78 #[.pointer (some ⟨W.heap.size, 0, none⟩)] encStr (fun ss => ss.Perm (strKeys D)) (Maps.size D) (W.alloc (.cells #[.map (some b)] 73)) :=
    AnyZ.keys_gives (ρ := Try.keysTA_ren) { Try.keysTA with } Fence.wide _ trivial rfl (by omega) W.heap.size b m.length D _ (by simp) (by simp) (by
      obtain ⟨es, clock, hb, Ft, hs, hD⟩ := hown
      exact ⟨es, clock, (Below.heap_alloc _ _ b hbl).trans hb, Ft, hs, hD⟩)
  have cS := AnyZ.sorted_in Try.sortedA Fence.wide 5 trivial trivial trivial trivial rfl (by omega) (sortsA _) (enters_of Try.func77 (by kernel_rfl) rfl) 78 #[.pointer (some ⟨W.heap.size, 0, none⟩)] trivial (enters_of Try.func78 (by kernel_rfl) rfl) _ _ (by rw [hsz]; unfold maxLen; omega) (by rw [hsz]; omega) _ hseq
  change CallsIn _ _ Try.prog 68 _ _ _ at cS
  refine ((callsIn_wide (n := 5)).1 cS).mono ?_
  rintro e w' ⟨v, ss, rfl, hp, hrow, hnil, hb⟩
  exact sorted_close hperm hp hrow hb

set_option maxHeartbeats 1000000 in
theorem fsorted_any (W : World) (b : Nat) (m : List (ByteArray × Value)) (h : Mp W b kvS m) (hk : ∀ p ∈ m, p.1.size ≤ maxLen) (hm : m.length ≤ 1073741824) :
    Calls Try.prog 68 #[.func (.func 79) #[] #[.pointer (some ⟨W.heap.size, 0, none⟩)]] (W.alloc (.cells #[.map (some b)] 80)) (NewRow 9 1 (W.alloc (.cells #[.map (some b)] 80)) (svs (srt (m.map Prod.fst))) m.length) := by
  obtain ⟨D, hown, hperm, hsz⟩ := h.owns Try.underlying9 hk (by unfold maxLen; omega)
  have hbl := hown.lt
  have hseq : SeqGives Fence.wide 2 Try.prog 79 #[.pointer (some ⟨W.heap.size, 0, none⟩)] encStr (fun ss => ss.Perm (strKeys D)) (Maps.size D) (W.alloc (.cells #[.map (some b)] 80)) :=
    AnyZ.keys_gives (ρ := Try.keysFA_ren) { Try.keysFA with } Fence.wide _ trivial rfl (by omega) W.heap.size b m.length D _ (by simp) (by simp) (by
      obtain ⟨es, clock, hb, Ft, hs, hD⟩ := hown
      exact ⟨es, clock, (Below.heap_alloc _ _ b hbl).trans hb, Ft, hs, hD⟩)
  have cS := AnyZ.sorted_in Try.sortedA Fence.wide 5 trivial trivial trivial trivial rfl (by omega) (sortsA _) (enters_of Try.func77 (by kernel_rfl) rfl) 79 #[.pointer (some ⟨W.heap.size, 0, none⟩)] trivial (enters_of Try.func79 (by kernel_rfl) rfl) _ _ (by rw [hsz]; unfold maxLen; omega) (by rw [hsz]; omega) _ hseq
  change CallsIn _ _ Try.prog 68 _ _ _ at cS
  refine ((callsIn_wide (n := 5)).1 cS).mono ?_
  rintro e w' ⟨v, ss, rfl, hp, hrow, hnil, hb⟩
  exact sorted_close hperm hp hrow hb

/-- maps.Clone: a new block with the same entries -/
theorem mclone_any (W : World) (b : Nat) (m : List (ByteArray × Value)) (h : Mp W b kvS m) :
    Calls Try.prog 67 #[.map (some b)] W fun e w' => e = .returned (.map (some W.heap.size)) ∧ Mp w' W.heap.size kvS m ∧ Chg [] W w' := by
  obtain ⟨es, clock, hb, he, hn, hs, hc⟩ := h
  have c := AnyW.maps_Clone Try.mclA b es clock W hb
  change Calls Try.prog 67 _ _ _ at c
  refine c.mono ?_
  rintro e w' ⟨rfl, rfl⟩
  exact ⟨rfl, ⟨es, clock, (MapKept.heap_alloc W _).1, he, hn, hs, hc⟩, (Chg.refl _ _).alloc _⟩
end Go.Proofs.Ytgomofeidghmiaa
