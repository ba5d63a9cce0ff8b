/-
  Layer 08: small functions: Down, Steps, inOrder.
  Layer 08: slices.Sorted(maps.Keys(m)) at names: the keys, sorted, in new memory.
  Layer 08: sorted keys of a map that stands for a directory: the directory's names in order.
  Layer 08: ask: the first error that holds.
  Layer 08: directories in memory; find.
  Layer 08, plain: the file system's state, its changes of names, what each call answers and leaves.
  Layer 08: SameBytes, SameFiles, Same: equal disks are one.
-/
import Derived.Test.YtgomofeidghmiaaGreatVfA
import Derived.Test.YtgomofeidghmiaaGreatVfSh
import Derived.Test.YtgomofeidghmiaaGreatSpJ
import Derived.Test.YtgomofeidghmiaaGreatMapM
import Derived.StringKeys
import Derived.Test.YtgomofeidghmiaaGreatVfJa
import Derived.Laws.StructEq
import Derived.Laws.BytesArg
import Derived.BigQuiet
namespace Go.Proofs.YtgomofeidghmiaaGreat
open Go.RowKit

/-- is the power off? -/
def downB (a s : Int) : Bool := decide (0 ≤ a) && decide (a ≤ s)

set_option maxRecDepth 100000 in
set_option maxHeartbeats 1600000 in
theorem down_any (b : Nat) (a s : Int) (w : World) (h5 : w.cell? ⟨b, 5, none⟩ = some (.int .i64 a)) (h6 : w.cell? ⟨b, 6, none⟩ = some (.int .i64 s)) :
    Calls Tryz.prog 12 #[.pointer (some ⟨b, 0, none⟩)] w fun e w' => e = .returned (.bool (downB a s)) ∧ Chg [] w w' := by
  by_cases ha : 0 ≤ a
  · have d1 : decide (0 ≤ a) = true := by simp [ha]
    have HD : Hid (downB a s = decide (a ≤ s)) := Lib.hid (by unfold downB; rw [d1, Bool.true_and])
    clear ha
    go_enter Tryz.func12, Tryz.ntmps12
    go_wp2
    go_quiet (fail)
    go_wp2
    go_ret
    exact ⟨by rw [HD.out]; rfl, (Chg.refl [] w).drewN _⟩
  · have d1 : decide (0 ≤ a) = false := by simp; omega
    have HD : Hid (downB a s = false) := Lib.hid (by unfold downB; rw [d1, Bool.false_and])
    clear ha
    go_enter Tryz.func12, Tryz.ntmps12
    go_wp2
    go_quiet (fail)
    go_wp2
    go_ret
    exact ⟨by rw [HD.out]; rfl, (Chg.refl [] w).drewN _⟩

set_option maxRecDepth 100000 in
set_option maxHeartbeats 1600000 in
theorem rdown_any (b : Nat) (a s : Int) (w : World) (h5 : w.cell? ⟨b, 6, none⟩ = some (.int .i64 a)) (h6 : w.cell? ⟨b, 7, none⟩ = some (.int .i64 s)) :
    Calls Tryz.prog 13 #[.pointer (some ⟨b, 0, none⟩)] w fun e w' => e = .returned (.bool (downB a s)) ∧ Chg [] w w' := by
  by_cases ha : 0 ≤ a
  · have d1 : decide (0 ≤ a) = true := by simp [ha]
    have HD : Hid (downB a s = decide (a ≤ s)) := Lib.hid (by unfold downB; rw [d1, Bool.true_and])
    clear ha
    go_enter Tryz.func13, Tryz.ntmps13
    go_wp2
    go_quiet (fail)
    go_wp2
    go_ret
    exact ⟨by rw [HD.out]; rfl, (Chg.refl [] w).drewN _⟩
  · have d1 : decide (0 ≤ a) = false := by simp; omega
    have HD : Hid (downB a s = false) := Lib.hid (by unfold downB; rw [d1, Bool.false_and])
    clear ha
    go_enter Tryz.func13, Tryz.ntmps13
    go_wp2
    go_quiet (fail)
    go_wp2
    go_ret
    exact ⟨by rw [HD.out]; rfl, (Chg.refl [] w).drewN _⟩

theorem steps_any (b : Nat) (s : Int) (w : World) (h6 : w.cell? ⟨b, 6, none⟩ = some (.int .i64 s)) :
    Calls Tryz.prog 11 #[.pointer (some ⟨b, 0, none⟩)] w fun e w' => e = .returned (.int .i64 s) ∧ w' = w := by
  go_enter Tryz.func11, Tryz.ntmps11
  go_wp2
  go_ret
  exact ⟨rfl, rfl⟩

/-- text a is not behind text b -/
def leS (a b : ByteArray) : Bool := Op.bytesLess a.toList b.toList || a.toList == b.toList
theorem run_leq_str (a b : ByteArray) (w : World) : (binOp .leq 9 (.string a) (.string b)).run Tryz.prog w = .ok (.bool (leS a b)) w := by
  simp [binOp, Op.stringOp, leS]

/-- is a name in its place? its error's number -/
def ordE (f : Bool) (last name : ByteArray) : Int := if goodP name = false then 81 else if f = false ∧ leS name last = true then 6 else 0

set_option maxRecDepth 100000 in
set_option maxHeartbeats 1600000 in
theorem inorder_any (f : Bool) (last name : ByteArray) (w : World) :
    Calls Tryz.prog 63 #[.bool f, .string last, .string name] w fun e w' => e = .returned (.int .i64 (ordE f last name)) ∧ w' = w := by
  have hle := fun w => run_leq_str name last w
  cases hg : goodP name with
  | false =>
    have HR : Hid (ordE f last name = 81) := Lib.hid (by unfold ordE; rw [if_pos hg])
    go_enter Tryz.func63, Tryz.ntmps63
    go_wp2_with fail
    refine (good_any name _).mono ?_
    rintro e w1 ⟨rfl, rfl⟩
    rw [hg]
    go_wp2
    go_ret
    exact ⟨by rw [HR.out]; rfl, rfl⟩
  | true =>
    cases f with
    | true =>
      have HR : Hid (ordE true last name = 0) := Lib.hid (by unfold ordE; rw [if_neg (by simp [hg]), if_neg (by simp)])
      go_enter Tryz.func63, Tryz.ntmps63
      go_wp2_with fail
      refine (good_any name _).mono ?_
      rintro e w1 ⟨rfl, rfl⟩
      rw [hg]
      go_wp2
      go_ret
      exact ⟨by rw [HR.out]; rfl, rfl⟩
    | false =>
      cases hl : leS name last with
      | true =>
        have HR : Hid (ordE false last name = 6) := Lib.hid (by unfold ordE; rw [if_neg (by simp [hg]), if_pos ⟨rfl, hl⟩])
        rw [hl] at hle
        go_enter Tryz.func63, Tryz.ntmps63
        go_wp2_with fail
        refine (good_any name _).mono ?_
        rintro e w1 ⟨rfl, rfl⟩
        rw [hg]
        go_wp2
        go_ret
        exact ⟨by rw [HR.out]; rfl, rfl⟩
      | false =>
        have HR : Hid (ordE false last name = 0) := Lib.hid (by unfold ordE; rw [if_neg (by simp [hg]), if_neg (by simp [hl])])
        rw [hl] at hle
        go_enter Tryz.func63, Tryz.ntmps63
        go_wp2_with fail
        refine (good_any name _).mono ?_
        rintro e w1 ⟨rfl, rfl⟩
        rw [hg]
        go_wp2
        go_ret
        exact ⟨by rw [HR.out]; rfl, rfl⟩
end Go.Proofs.YtgomofeidghmiaaGreat

namespace Go.Proofs.YtgomofeidghmiaaGreat
open Go.RowKit Go.Maps Go.Sort Go.Shelf

theorem insert_perm {H : Type} (x : Lit × DataW H) : ∀ l : List (Lit × DataW H), (DataW.insert x l).Perm (x :: l)
  | [] => List.Perm.refl _
  | y :: r => by
    unfold DataW.insert
    split
    · exact List.Perm.refl _
    · exact ((insert_perm x r).cons y).trans (List.Perm.swap x y r)
theorem inserts_perm {H : Type} : ∀ l : List (Lit × DataW H), (l.foldr DataW.insert []).Perm l
  | [] => List.Perm.refl _
  | x :: r => (insert_perm x _).trans ((inserts_perm r).cons x)

abbrev kvS : ByteArray → Value := fun z => Value.string z
def anyR : Value → Option (DataW Unit × List MemPlace) := fun _ => some (.nil, [])
/-- texts as lists of bytes, sorted -/
def srt (ks : List ByteArray) : List ByteArray := ((ks.map (·.data.toList)).mergeSort (fun x y => decide (x ≤ y))).map fun l => ⟨l.toArray⟩
def svs (ks : List ByteArray) : List Value := ks.map Value.string

theorem Mp.owns {w : World} {b : Nat} {m : List (ByteArray × Value)} (h : Mp w b kvS m) {kt : TypeId} (hkt : Tryz.prog.underlying kt = some .string) (hk : ∀ p ∈ m, p.1.size ≤ maxLen) (hm : m.length ≤ maxLen) :
    ∃ D : DataW Unit, w.ownsMap Tryz.prog kt anyR b m.length D ∧ (strKeys D).Perm ((m.map Prod.fst).map (·.data.toList)) ∧ Maps.size D = m.length := by
  obtain ⟨es, clock, hb, he, hn, hs, hc⟩ := h
  have hlen : es.toList.length = m.length := by have := congrArg List.length he; simpa using this
  have hkeys := Mp.keys he
  have hat : ∀ x ∈ es.toList, ∃ k : ByteArray, x.key = Value.string k ∧ k.size ≤ maxLen := by
    intro x hx
    have : x.key ∈ es.toList.map (·.key) := List.mem_map.2 ⟨x, hx, rfl⟩
    rw [hkeys] at this
    obtain ⟨k, hk1, hk2⟩ := List.mem_map.1 this
    obtain ⟨p, hp1, rfl⟩ := List.mem_map.1 hk1
    exact ⟨p.1, hk2.symm, hk p hp1⟩
  have hrd : ∀ x ∈ es.toList, ∃ k : ByteArray, x.key = Value.string k ∧ WideElems.rd Tryz.prog kt anyR x = some (.string k.data.toList, .nil) := by
    intro x hx
    obtain ⟨k, h1, h2⟩ := hat x hx
    refine ⟨k, h1, ?_⟩
    unfold WideElems.rd
    rw [h1, WideMaps.keyOf_string_mk hkt h2]; rfl
  refine ⟨_, ⟨es, clock, hb, ⟨by rw [← Array.length_toList, hlen]; exact hm, ⟨hc, hs, ?_⟩, fun x hx => ?_⟩, by rw [← Array.length_toList, hlen]; exact Nat.le_refl _, rfl⟩, ?_, ?_⟩
  · rw [hkeys]
    exact List.Pairwise.map kvS (R := (· ≠ ·)) (S := (· ≠ ·)) (fun a b hab e => hab (by injection e)) hn
  · obtain ⟨k, _, h2⟩ := hrd x hx; exact ⟨_, h2⟩
  · show (((es.toList.map (WideElems.rg Tryz.prog kt anyR)).foldr DataW.insert []).map fun p => strOf p.1).Perm _
    refine ((inserts_perm _).map _).trans ?_
    have : (es.toList.map (WideElems.rg Tryz.prog kt anyR)).map (fun p => strOf p.1) = (m.map Prod.fst).map (·.data.toList) := by
      rw [List.map_map]
      have h2 : (es.toList.map fun x => match x.key with | .string a => a.data.toList | _ => []) = (m.map Prod.fst).map (·.data.toList) := by
        have := congrArg (List.map fun v : Value => match v with | .string a => a.data.toList | _ => []) hkeys
        rw [List.map_map, List.map_map] at this
        exact this
      rw [← h2]
      refine List.map_congr_left fun x hx => ?_
      obtain ⟨k, h3, h4⟩ := hrd x hx
      simp only [Function.comp_apply, WideElems.rg, h4, h3, Option.getD_some, strOf]
    rw [this]
  · show (((es.toList.map (WideElems.rg Tryz.prog kt anyR)).foldr DataW.insert [])).length = _
    rw [(inserts_perm _).length_eq, List.length_map, hlen]

theorem sortsA (m : Nat) : AnyZ.SortsIn Tryz.prog Tryz.sortedA_ren Fence.wide m :=
  ⟨fun blk off cap ss W hH hblk hsz => callsIn_wide.2 (AnyM.slices_Sort_string Tryz.sortA blk off cap ss W hH hblk hsz),
   fun p cap W => callsIn_wide.2 (AnyM.slices_Sort_string_none Tryz.sortA p cap W)⟩

theorem tkeys_any (mb : Option Nat) (W : World) : Calls Tryz.prog 82 #[.map mb] W fun e w' => e = .returned (.func (.func 100) #[] #[.pointer (some ⟨W.heap.size, 0, none⟩)]) ∧ w' = W.alloc (.cells #[.map mb] 88) :=
  (callsIn_wide (n := 5)).1 (AnyZ.keys_in Tryz.keysTA Fence.wide 5 trivial rfl mb W)
theorem fkeys_any (mb : Option Nat) (W : World) : Calls Tryz.prog 81 #[.map mb] W fun e w' => e = .returned (.func (.func 99) #[] #[.pointer (some ⟨W.heap.size, 0, none⟩)]) ∧ w' = W.alloc (.cells #[.map mb] 94) :=
  (callsIn_wide (n := 5)).1 (AnyZ.keys_in Tryz.keysFA Fence.wide 5 trivial rfl mb W)

theorem sorted_close {W w' : World} {m : List (ByteArray × Value)} {D : DataW Unit} {v : Value} {ss : List (List UInt8)} (hperm : (strKeys D).Perm ((m.map Prod.fst).map (·.data.toList))) (hp : ss.Perm (strKeys D))
    (hrow : w'.ownsRow W.heap.size 9 1 v ss.length ((ss.mergeSort (fun x y => decide (x ≤ y))).map encStr)) (hb : Below W.heap.size W w') :
    NewRow 9 1 W (svs (srt (m.map Prod.fst))) m.length (.returned v) w' := by
  have hlen : ss.length = m.length := by rw [(hp.trans hperm).length_eq, List.length_map, List.length_map]
  have hse : ss.mergeSort (fun x y => decide (x ≤ y)) = ((m.map Prod.fst).map (·.data.toList)).mergeSort (fun x y => decide (x ≤ y)) := mergeSort_of_perm (hp.trans hperm)
  have hsv : svs (srt (m.map Prod.fst)) = (((m.map Prod.fst).map (·.data.toList)).mergeSort (fun x y => decide (x ≤ y))).map encStr := by
    unfold svs srt; rw [List.map_map]; rfl
  rw [hse, hlen, ← hsv] at hrow
  rcases hrow.2 with ⟨hv, hz⟩ | ⟨g, cap, cur, hv, hbase, hr⟩
  · subst hv
    refine ⟨none, 0, by rw [hz], ⟨hrow.1, .inl ⟨by rw [hz], hz⟩⟩, Chg.of_below hb [], by simp⟩
  · subst hv
    exact ⟨_, cap, rfl, ⟨hrow.1, .inr ⟨g, cap, cur, rfl, Nat.zero_le _, hr⟩⟩, Chg.of_below hb [], by simpa using hbase⟩

set_option maxHeartbeats 1000000 in
theorem tsorted_any (W : World) (b : Nat) (m : List (ByteArray × Value)) (h : Mp W b kvS m) (hk : ∀ p ∈ m, p.1.size ≤ maxLen) (hm : m.length ≤ 1073741824) :
    Calls Tryz.prog 80 #[.func (.func 100) #[] #[.pointer (some ⟨W.heap.size, 0, none⟩)]] (W.alloc (.cells #[.map (some b)] 88)) (NewRow 9 1 (W.alloc (.cells #[.map (some b)] 88)) (svs (srt (m.map Prod.fst))) m.length) := by
  obtain ⟨D, hown, hperm, hsz⟩ := h.owns Tryz.underlying9 hk (by unfold maxLen; omega)
  have hbl := hown.lt
  have hseq : SeqGives Fence.wide 2 Tryz.prog 100 #[.pointer (some ⟨W.heap.size, 0, none⟩)] encStr (fun ss => ss.Perm (strKeys D)) (Maps.size D) (W.alloc (.cells #[.map (some b)] 88)) :=
    AnyZ.keys_gives (ρ := Tryz.keysTA_ren) { Tryz.keysTA with } Fence.wide _ trivial rfl (by omega) W.heap.size b m.length D _ (by simp) (by simp) (by
      obtain ⟨es, clock, hb, Ft, hs, hD⟩ := hown
      exact ⟨es, clock, (Below.heap_alloc _ _ b hbl).trans hb, Ft, hs, hD⟩)
  have cS := AnyZ.sorted_in Tryz.sortedA Fence.wide 5 trivial trivial trivial trivial rfl (by omega) (sortsA _) (enters_of Tryz.func98 (by kernel_rfl) rfl) 100 #[.pointer (some ⟨W.heap.size, 0, none⟩)] trivial (enters_of Tryz.func100 (by kernel_rfl) rfl) _ _ (by rw [hsz]; unfold maxLen; omega) (by rw [hsz]; omega) _ hseq
  change CallsIn _ _ Tryz.prog 80 _ _ _ at cS
  refine ((callsIn_wide (n := 5)).1 cS).mono ?_
  rintro e w' ⟨v, ss, rfl, hp, hrow, hnil, hb⟩
  exact sorted_close hperm hp hrow hb

set_option maxHeartbeats 1000000 in
theorem fsorted_any (W : World) (b : Nat) (m : List (ByteArray × Value)) (h : Mp W b kvS m) (hk : ∀ p ∈ m, p.1.size ≤ maxLen) (hm : m.length ≤ 1073741824) :
    Calls Tryz.prog 80 #[.func (.func 99) #[] #[.pointer (some ⟨W.heap.size, 0, none⟩)]] (W.alloc (.cells #[.map (some b)] 94)) (NewRow 9 1 (W.alloc (.cells #[.map (some b)] 94)) (svs (srt (m.map Prod.fst))) m.length) := by
  obtain ⟨D, hown, hperm, hsz⟩ := h.owns Tryz.underlying9 hk (by unfold maxLen; omega)
  have hbl := hown.lt
  have hseq : SeqGives Fence.wide 2 Tryz.prog 99 #[.pointer (some ⟨W.heap.size, 0, none⟩)] encStr (fun ss => ss.Perm (strKeys D)) (Maps.size D) (W.alloc (.cells #[.map (some b)] 94)) :=
    AnyZ.keys_gives (ρ := Tryz.keysFA_ren) { Tryz.keysFA with } Fence.wide _ trivial rfl (by omega) W.heap.size b m.length D _ (by simp) (by simp) (by
      obtain ⟨es, clock, hb, Ft, hs, hD⟩ := hown
      exact ⟨es, clock, (Below.heap_alloc _ _ b hbl).trans hb, Ft, hs, hD⟩)
  have cS := AnyZ.sorted_in Tryz.sortedA Fence.wide 5 trivial trivial trivial trivial rfl (by omega) (sortsA _) (enters_of Tryz.func98 (by kernel_rfl) rfl) 99 #[.pointer (some ⟨W.heap.size, 0, none⟩)] trivial (enters_of Tryz.func99 (by kernel_rfl) rfl) _ _ (by rw [hsz]; unfold maxLen; omega) (by rw [hsz]; omega) _ hseq
  change CallsIn _ _ Tryz.prog 80 _ _ _ at cS
  refine ((callsIn_wide (n := 5)).1 cS).mono ?_
  rintro e w' ⟨v, ss, rfl, hp, hrow, hnil, hb⟩
  exact sorted_close hperm hp hrow hb

/-- maps.Clone: a new block with the same entries -/
theorem mclone_any (W : World) (b : Nat) (m : List (ByteArray × Value)) (h : Mp W b kvS m) :
    Calls Tryz.prog 92 #[.map (some b)] W fun e w' => e = .returned (.map (some W.heap.size)) ∧ Mp w' W.heap.size kvS m ∧ Chg [] W w' := by
  obtain ⟨es, clock, hb, he, hn, hs, hc⟩ := h
  have c := AnyW.maps_Clone Tryz.mclA b es clock W hb
  change Calls Tryz.prog 92 _ _ _ at c
  refine c.mono ?_
  rintro e w' ⟨rfl, rfl⟩
  exact ⟨rfl, ⟨es, clock, (MapKept.heap_alloc W _).1, he, hn, hs, hc⟩, (Chg.refl _ _).alloc _⟩
end Go.Proofs.YtgomofeidghmiaaGreat

namespace Go.Proofs.YtgomofeidghmiaaGreat
open Go.RowKit Go.Sort

theorem mk_toList (l : List ByteArray) : (l.map (·.data.toList)).map (fun l => (⟨l.toArray⟩ : ByteArray)) = l := by
  rw [List.map_map]
  conv => rhs; rw [← List.map_id l]
  exact List.map_congr_left fun x _ => by cases x; rfl
theorem srt_eq {α β : Type} {m : List (ByteArray × β)} {t : List (ByteArray × α)} (hp : (m.map Prod.fst).Perm (t.map Prod.fst)) (hs : Srt t) : srt (m.map Prod.fst) = t.map Prod.fst := by
  unfold srt
  rw [show ((m.map Prod.fst).map (·.data.toList)).mergeSort (fun x y => decide (x ≤ y)) = ((t.map Prod.fst).map (·.data.toList)).mergeSort (fun x y => decide (x ≤ y)) from mergeSort_of_perm (hp.map _)]
  rw [List.mergeSort_of_pairwise]
  · exact mk_toList _
  · refine List.Pairwise.map _ (fun a b hab => ?_) hs
    rw [ltS_iff] at hab
    simp only [decide_eq_true_eq]
    exact List.le_of_lt hab
end Go.Proofs.YtgomofeidghmiaaGreat

namespace Go.Proofs.YtgomofeidghmiaaGreat
open Go.RowKit

/-- a directory is there -/
def dirV (m : List (ByteArray × Value)) (k : ByteArray) : Value := (aget m k).getD (.map none)
/-- the first error that holds: the power, the names, the directory -/
def askE (a s : Int) (m : List (ByteArray × Value)) (there : Bool) (ns : List ByteArray) : Int :=
  if downB a s = true then 80 else if ns.all goodP = false then 81 else if there = true ∧ (aget m (ns.headD ByteArray.empty)).isNone = true then 82 else 0
theorem rd_str {w : World} {A : Option Addr} {n c : Nat} {ns : List ByteArray} (h : Rd w 1 A n c (svs ns)) {j : Nat} (hj : j < n) :
    ∃ ad s, A = some ad ∧ ns[j]? = some s ∧ w.cell? (ad.add j) = some (.string s) := by
  obtain ⟨ad, u, hA, hx, hc⟩ := h.at1 hj
  unfold svs at hx
  rw [List.getElem?_map] at hx
  cases hs : ns[j]? with
  | none => rw [hs] at hx; cases hx
  | some s => rw [hs] at hx; simp at hx; subst hx; exact ⟨ad, s, hA, rfl, hc⟩

set_option maxRecDepth 100000 in
set_option maxHeartbeats 3200000 in
theorem ask_any (b sb : Nat) (a s : Int) (m : List (ByteArray × Value)) (there : Bool) (A : Option Addr) (n c : Nat) (ns : List ByteArray) (w : World)
    (h0 : w.cell? ⟨b, 0, none⟩ = some (.map (some sb))) (h5 : w.cell? ⟨b, 5, none⟩ = some (.int .i64 a)) (h6 : w.cell? ⟨b, 6, none⟩ = some (.int .i64 s))
    (hm : Mp w sb kvS m) (hv : ∀ p ∈ m, ∃ r, p.2 = .map (some r)) (hr : Rd w 1 A n c (svs ns)) (hn : n ≤ 1073741824) (ht : there = true → 0 < n) :
    Calls Tryz.prog 65 #[.pointer (some ⟨b, 0, none⟩), .bool there, .slice A n c] w fun e w' => e = .returned (.int .i64 (askE a s m there ns)) ∧ Chg [] w w' := by
  have hl : ns.length = n := by have := hr.1; simp [svs] at this; omega
  have HR := Lib.hid hr
  have HL := Lib.hid hl
  have HMP := Lib.hid hm
  have HV := Lib.hid hv
  have H0 := Lib.hid h0
  have HT := Lib.hid ht
  clear hr hl hm hv h0 ht
  go_enter Tryz.func65, Tryz.ntmps65
  go_wp2_with fail
  refine (down_any b a s w h5 h6).mono ?_
  rintro e w1 ⟨rfl, hc1⟩
  have HC1 := Lib.hid hc1
  clear hc1 h5 h6
  cases hd : downB a s with
  | true =>
    have HE : Hid (askE a s m there ns = 80) := Lib.hid (by unfold askE; rw [if_pos hd])
    clear hd
    go_wp2
    go_ret
    exact ⟨by rw [HE.out]; rfl, HC1.out⟩
  | false =>
    have HD := Lib.hid hd
    clear hd
    go_wp2
    go_loopw [13] (fun q wr => ∃ i : Nat, i ≤ n ∧ q = .int .i64 i ∧ (∀ x ∈ ns.take i, goodP x = true) ∧ Chg [] w wr) (fun q _ => n - (intOf q).toNat)
    case atStart => exact ⟨0, Nat.zero_le _, rfl, by simp, HC1.out⟩
    case round =>
      obtain ⟨i, hi, rfl, hall, hch⟩ := hrel
      have HALL := Lib.hid hall
      have HCH := Lib.hid hch
      clear hall hch
      by_cases hlt : i < n
      · have hlt' : (i : Int) < n := by omega
        obtain ⟨ad, x, rfl, hx, hcell⟩ := rd_str (HR.out.chg HCH.out (fun _ _ => List.not_mem_nil)) hlt
        have HX := Lib.hid hx
        clear hx
        go_wp2_with fail
        refine (good_any x _).mono ?_
        rintro e w3 ⟨rfl, rfl⟩
        cases hg : goodP x with
        | false =>
          have HE : Hid (askE a s m there ns = 81) := Lib.hid (by
            unfold askE
            rw [if_neg (by rw [HD.out]; simp), if_pos (by rw [List.all_eq_false]; exact ⟨x, List.mem_of_getElem? HX.out, by simp [hg]⟩)])
          clear hg
          go_wp2
          go_ret
          exact ⟨by rw [HE.out]; rfl, HCH.out⟩
        | true =>
          have HG := Lib.hid hg
          clear hg
          go_wp2
          go_roundw
          case rel =>
            refine ⟨i + 1, by omega, by go_num, fun y hy => ?_, HCH.out⟩
            rw [take_snoc _ _ _ HX.out] at hy
            rcases List.mem_append.1 hy with h | h
            · exact HALL.out y h
            · simp at h; subst h; exact HG.out
          case measure => simp [intOf]; omega
      · obtain rfl : i = n := by omega
        have HAL : Hid (ns.all goodP = true) := Lib.hid (List.all_eq_true.2 (fun x hx => HALL.out x (by rw [List.take_of_length_le (by rw [HL.out]; exact Nat.le_refl _)]; exact hx)))
        cases there with
        | false =>
          have HE : Hid (askE a s m false ns = 0) := Lib.hid (by unfold askE; rw [if_neg (by rw [HD.out]; simp), if_neg (by rw [HAL.out]; simp), if_neg (by simp)])
          go_wp2_with fail
          go_quiet (fail)
          go_wp2
          go_ret
          exact ⟨by rw [HE.out]; rfl, HCH.out.drewN _⟩
        | true =>
          have hn0 := HT.out rfl
          obtain ⟨ad, x, rfl, hx, hcell⟩ := rd_str (HR.out.chg HCH.out (fun _ _ => List.not_mem_nil)) hn0
          have hcell0 : wr.cell? ad = some (.string x) := by simpa [Addr.add] using hcell
          have hn1 : (0 : Int) < (i : Int) := by omega
          have hq := fun w r => run_eql_map_nil (P := Tryz.prog) w 94 _ _ r Tryz.underlying94
          have h0 := HCH.out.cell H0.out (fun h => List.not_mem_nil h)
          have hmp := HMP.out.chg HCH.out (fun h => List.not_mem_nil h)
          have hlk : ∀ q, (Instr.lookup 88 (.map (some sb)) (.string x) false).run Tryz.prog (wr.drewN q) = .ok (dirV m x) (wr.drewN q) := fun q => (Mp.lookup (hmp.chg ((Chg.refl [] wr).drewN q) (fun h => List.not_mem_nil h)) (string_key Tryz.underlying9) Tryz.underlying88 (z := .map none) (by kernel_rfl) x).1
          have hhd : ns.headD ByteArray.empty = x := by
            cases ns with
            | nil => simp at hx
            | cons y r => simp at hx; exact hx
          have HHD := Lib.hid hhd
          clear hx hcell hmp hhd
          rcases hdv : aget m x with _ | v
          · have hdx : dirV m x = .map none := by unfold dirV; rw [hdv]; rfl
            have HE : Hid (askE a s m true ns = 82) := Lib.hid (by unfold askE; rw [if_neg (by rw [HD.out]; simp), if_neg (by rw [HAL.out]; simp), if_pos ⟨rfl, by rw [HHD.out, hdv]; rfl⟩])
            rw [hdx] at hlk
            clear hdx hdv
            go_wp2_with fail
            go_quiet (fail)
            go_wp2
            go_ret
            exact ⟨by rw [HE.out]; rfl, HCH.out.drewN _⟩
          · obtain ⟨r, hrv⟩ := HV.out _ (aget_mem hdv)
            have hdx : dirV m x = .map (some r) := by unfold dirV; rw [hdv]; exact hrv
            have HE : Hid (askE a s m true ns = 0) := Lib.hid (by unfold askE; rw [if_neg (by rw [HD.out]; simp), if_neg (by rw [HAL.out]; simp), if_neg (by rintro ⟨_, h⟩; rw [HHD.out, hdv] at h; cases h)])
            rw [hdx] at hlk
            clear hdx hdv hrv
            go_wp2_with fail
            go_quiet (fail)
            go_wp2
            go_ret
            exact ⟨by rw [HE.out]; rfl, HCH.out.drewN _⟩
end Go.Proofs.YtgomofeidghmiaaGreat

namespace Go.Proofs.YtgomofeidghmiaaGreat
open Go.RowKit

section
variable {κ α β : Type} [DecidableEq κ]
theorem aget_cons (p : κ × α) (t : List (κ × α)) (k : κ) : aget (p :: t) k = if p.1 = k then some p.2 else aget t k := by
  unfold aget
  rw [List.map_cons, List.idxOf?_cons]
  by_cases h : p.1 = k
  · simp [h]
  · have hb : (p.1 == k) = false := by simp [h]
    rw [if_neg h]
    simp only [hb]
    cases (t.map Prod.fst).idxOf? k <;> simp
theorem aget_map (g : α → β) (t : List (κ × α)) (k : κ) : aget (t.map fun p => (p.1, g p.2)) k = (aget t k).map g := by
  induction t with
  | nil => rfl
  | cons p r ih =>
    rw [List.map_cons, aget_cons, aget_cons, ih]
    by_cases h : p.1 = k <;> simp [h]
end

/-- a folder in memory: its files' names and their inodes' blocks -/
def fval (f : List (ByteArray × Nat)) : List (ByteArray × Value) := f.map fun p => (p.1, .pointer (some ⟨p.2, 0, none⟩))
/-- a tree in memory: its directories' names, their maps' blocks and entries -/
def tval (t : List (ByteArray × Nat × List (ByteArray × Nat))) : List (ByteArray × Value) := t.map fun p => (p.1, .map (some p.2.1))
structure Tree (w : World) (tb : Nat) (t : List (ByteArray × Nat × List (ByteArray × Nat))) : Prop where
  top : Mp w tb kvS (tval t)
  sub : ∀ p ∈ t, Mp w p.2.1 kvS (fval p.2.2)
  apart : (tb :: t.map fun p => p.2.1).Nodup
theorem Tree.chg {w w' : World} {tb : Nat} {t : List (ByteArray × Nat × List (ByteArray × Nat))} {L : List Nat} (h : Tree w tb t) (hc : Chg L w w') (h1 : tb ∉ L) (h2 : ∀ p ∈ t, p.2.1 ∉ L) : Tree w' tb t :=
  ⟨h.top.chg hc h1, fun p hp => (h.sub p hp).chg hc (h2 p hp), h.apart⟩
theorem Tree.chg0 {w w' : World} {tb : Nat} {t : List (ByteArray × Nat × List (ByteArray × Nat))} (h : Tree w tb t) (hc : Chg [] w w') : Tree w' tb t := h.chg hc List.not_mem_nil (fun _ _ => List.not_mem_nil)
theorem aget_tval (t : List (ByteArray × Nat × List (ByteArray × Nat))) (k : ByteArray) : aget (tval t) k = (aget t k).map fun d => Value.map (some d.1) :=
  aget_map (fun d : Nat × List (ByteArray × Nat) => Value.map (some d.1)) t k
theorem aget_fval (f : List (ByteArray × Nat)) (k : ByteArray) : aget (fval f) k = (aget f k).map fun i => Value.pointer (some ⟨i, 0, none⟩) :=
  aget_map (fun i : Nat => Value.pointer (some ⟨i, 0, none⟩)) f k
theorem tval_maps {t : List (ByteArray × Nat × List (ByteArray × Nat))} : ∀ p ∈ tval t, ∃ r, p.2 = .map (some r) := by
  intro p hp
  obtain ⟨q, _, rfl⟩ := List.mem_map.1 hp
  exact ⟨q.2.1, rfl⟩

/-- find: the file's inode, the error's number -/
def findR (a s : Int) (t : List (ByteArray × Nat × List (ByteArray × Nat))) (dir name : ByteArray) : Option Nat × Int :=
  if askE a s (tval t) true [dir, name] ≠ 0 then (none, askE a s (tval t) true [dir, name]) else
  match (aget t dir).bind fun d => aget d.2 name with
  | none => (none, 82)
  | some i => (some i, 0)
def findV (r : Option Nat × Int) : Value := .tuple #[.pointer (r.1.map fun i => ⟨i, 0, none⟩), .int .i64 r.2]

set_option maxRecDepth 100000 in
set_option maxHeartbeats 3200000 in
theorem find_any (b sb : Nat) (a s : Int) (t : List (ByteArray × Nat × List (ByteArray × Nat))) (dir name : ByteArray) (w : World)
    (h0 : w.cell? ⟨b, 0, none⟩ = some (.map (some sb))) (h5 : w.cell? ⟨b, 5, none⟩ = some (.int .i64 a)) (h6 : w.cell? ⟨b, 6, none⟩ = some (.int .i64 s))
    (ht : Tree w sb t) :
    Calls Tryz.prog 69 #[.pointer (some ⟨b, 0, none⟩), .string dir, .string name] w fun e w' => e = .returned (findV (findR a s t dir name)) ∧ Chg [] w w' := by
  have HT := Lib.hid ht
  have H0 := Lib.hid h0
  have H5 := Lib.hid h5
  have H6 := Lib.hid h6
  clear ht h0 h5 h6
  go_enter Tryz.func69, Tryz.ntmps69
  go_wp2_with fail
  have hal : Chg [] w (w.alloc (.cells #[.string dir, .string name] 9)) := (Chg.refl _ _).alloc _
  refine (ask_any b sb a s (tval t) true _ 2 2 [dir, name] _ (hal.cell H0.out (fun h => List.not_mem_nil h)) (hal.cell H5.out (fun h => List.not_mem_nil h)) (hal.cell H6.out (fun h => List.not_mem_nil h)) (HT.out.top.chg hal List.not_mem_nil) tval_maps (Own.lit w 9 1 #[.string dir, .string name] 2 (by decide) rfl).rd (by decide) (fun _ => by decide)).mono ?_
  rintro e w1 ⟨rfl, hc1⟩
  have HC1 : Hid (Chg [] w w1) := Lib.hid (hal.trans0 hc1)
  clear hc1 hal
  obtain ⟨E, hE⟩ : ∃ E, askE a s (tval t) true [dir, name] = E := ⟨_, rfl⟩
  rw [hE]
  have HE := Lib.hid hE
  clear hE
  by_cases h : E = 0
  · subst h
    have hne : ∃ d, aget t dir = some d := by
      cases hd : aget t dir with
      | some d => exact ⟨d, rfl⟩
      | none =>
        have q := HE.out
        have hg : aget (tval t) dir = none := by rw [aget_tval, hd]; rfl
        unfold askE at q
        split at q
        · cases q
        split at q
        · cases q
        · simp only [List.headD_cons, hg, Option.isNone_none, and_self, if_true] at q
          cases q
    obtain ⟨d, hd⟩ := hne
    have h0 := HC1.out.cell H0.out (fun h => List.not_mem_nil h)
    have ht1 := HT.out.chg0 HC1.out
    have hl1 := (Mp.lookup ht1.top (string_key Tryz.underlying9) Tryz.underlying88 (z := .map none) (by kernel_rfl) dir).1
    have hl2 := (Mp.lookup (ht1.sub _ (aget_mem hd)) (string_key Tryz.underlying9) Tryz.underlying94 (z := .pointer none) (by kernel_rfl) name).1
    rw [show aget (tval t) dir = some (.map (some d.1)) from by rw [aget_tval, hd]; rfl] at hl1
    simp only [Option.getD_some] at hl1
    simp only at hl2
    rw [show aget (fval d.2) name = (aget d.2 name).map (fun i => Value.pointer (some ⟨i, 0, none⟩)) from aget_fval _ _] at hl2
    have HD := Lib.hid hd
    clear hd ht1
    cases hx : aget d.2 name with
    | none =>
      have HR : Hid (findR a s t dir name = (none, 82)) := Lib.hid (by unfold findR; rw [if_neg (by rw [HE.out]; simp), HD.out]; simp only [Option.bind_some, hx])
      rw [hx] at hl2
      simp only [Option.map_none, Option.getD_none] at hl2
      clear hx
      go_wp2
      go_ret2
      exact ⟨by rw [HR.out]; rfl, HC1.out⟩
    | some i =>
      have HR : Hid (findR a s t dir name = (some i, 0)) := Lib.hid (by unfold findR; rw [if_neg (by rw [HE.out]; simp), HD.out]; simp only [Option.bind_some, hx])
      rw [hx] at hl2
      simp only [Option.map_some, Option.getD_some] at hl2
      clear hx
      go_wp2
      go_ret2
      exact ⟨by rw [HR.out]; rfl, HC1.out⟩
  · have hb : (E != 0) = true := by simp [h]
    have HR : Hid (findR a s t dir name = (none, E)) := Lib.hid (by unfold findR; rw [if_pos (by rw [HE.out]; exact h), HE.out])
    clear h
    go_wp2
    go_ret2
    exact ⟨by rw [HR.out]; rfl, HC1.out⟩
end Go.Proofs.YtgomofeidghmiaaGreat

namespace Go.Proofs.YtgomofeidghmiaaGreat
open Go.RowKit

section
variable {κ α β : Type} [DecidableEq κ]
theorem aget_without (t : List (κ × α)) (k k' : κ) : aget (without t k) k' = if k = k' then none else aget t k' := by
  induction t with
  | nil => unfold without aget; split <;> rfl
  | cons p r ih =>
    rw [without_cons, aget_cons]
    by_cases h : p.1 = k
    · rw [if_pos h, ih]
      by_cases h2 : k = k'
      · rw [if_pos h2, if_pos h2]
      · rw [if_neg h2, if_neg h2, if_neg (fun e => h2 (h ▸ e))]
    · rw [if_neg h, aget_cons, ih]
      by_cases h2 : p.1 = k'
      · rw [if_pos h2, if_neg (fun e => h (h2.trans e.symm)), if_pos h2]
      · rw [if_neg h2, if_neg h2]
theorem aget_adel {t : List (κ × α)} (hn : (t.map Prod.fst).Nodup) (k k' : κ) : aget (adel t k) k' = if k = k' then none else aget t k' := by
  rw [adel_without hn, aget_without]
theorem aget_isSome {t : List (κ × α)} {k : κ} : (aget t k).isSome = true ↔ k ∈ t.map Prod.fst := by
  cases h : aget t k with
  | none => rw [aget_none] at h; simp [h]
  | some v => exact ⟨fun _ => List.mem_map.2 ⟨_, aget_mem h, rfl⟩, fun _ => rfl⟩
theorem aget_mem' {t : List (κ × α)} {p : κ × α} (hn : (t.map Prod.fst).Nodup) (h : p ∈ t) : aget t p.1 = some p.2 := aget_of_mem hn h
end

section
variable {α : Type}
theorem aget_withS {t : List (ByteArray × α)} {k : ByteArray} (hk : k ∉ t.map Prod.fst) (v : α) (k' : ByteArray) : aget (withS k v t) k' = if k = k' then some v else aget t k' := by
  induction t with
  | nil =>
    simp only [withS]
    rw [aget_cons]
  | cons p r ih =>
    have h1 : k ≠ p.1 := fun e => hk (by simp [e])
    have h2 : k ∉ r.map Prod.fst := fun e => hk (List.mem_cons_of_mem _ e)
    rw [withS]
    split
    · rw [aget_cons]
    · rw [aget_cons, ih h2, aget_cons]
      by_cases h3 : p.1 = k'
      · rw [if_pos h3, if_neg (fun e => h1 (e.trans h3.symm)), if_pos h3]
      · rw [if_neg h3, if_neg h3]
theorem without_not {t : List (ByteArray × α)} (k : ByteArray) : k ∉ (without t k).map Prod.fst := by
  intro h
  obtain ⟨p, hp, rfl⟩ := List.mem_map.1 h
  unfold without at hp
  simp at hp
theorem mem_without {t : List (ByteArray × α)} {k : ByteArray} {p : ByteArray × α} : p ∈ without t k ↔ p ∈ t ∧ p.1 ≠ k := by
  unfold without; simp
theorem mem_withS {t : List (ByteArray × α)} {k : ByteArray} {v : α} {p : ByteArray × α} : p ∈ withS k v t ↔ p = (k, v) ∨ p ∈ t := by
  rw [(withS_perm k v t).mem_iff, List.mem_cons]
end

abbrev Fol := List (ByteArray × Nat)
abbrev Tr := List (ByteArray × Fol)
/-- a change of names -/
inductive Chn where
  | mkdir (d : ByteArray)
  | create (d n : ByteArray) (i : Nat)
  | rename (a b : ByteArray)
  | remove (d n : ByteArray)
  | rmdir (d : ByteArray)

/-- a directory's files -/
def folOf (T : Tr) (d : ByteArray) : Fol := (aget T d).getD []
/-- the tree behind a change -/
def Chn.on (T : Tr) : Chn → Tr
  | .mkdir d => withS d [] T
  | .create d n i => withS d (withS n i (folOf T d)) (without T d)
  | .rename a b => withS b (folOf T a) (without (without T a) b)
  | .remove d n => withS d (without (folOf T d) n) (without T d)
  | .rmdir d => without T d
/-- it can be made there; m: how many files there are -/
def Chn.ok (m : Nat) (T : Tr) : Chn → Prop
  | .mkdir d => goodP d = true ∧ aget T d = none
  | .create d n i => i < m ∧ goodP n = true ∧ ∃ F, aget T d = some F ∧ aget F n = none
  | .rename a b => goodP b = true ∧ ∃ F, aget T a = some F
  | .remove d _ => ∃ F, aget T d = some F
  | .rmdir d => ∃ F, aget T d = some F

/-- in order, all files known -/
structure Val (m : Nat) (T : Tr) : Prop where
  srt : Srt T
  sub : ∀ p ∈ T, Srt p.2
  ids : ∀ p ∈ T, ∀ q ∈ p.2, q.2 < m
  nm : ∀ p ∈ T, goodP p.1 = true
  nms : ∀ p ∈ T, ∀ q ∈ p.2, goodP q.1 = true

theorem Val.fol {m : Nat} {T : Tr} (h : Val m T) (d : ByteArray) : Srt (folOf T d) ∧ (∀ q ∈ folOf T d, q.2 < m) ∧ ∀ q ∈ folOf T d, goodP q.1 = true := by
  unfold folOf
  cases hd : aget T d with
  | none => exact ⟨List.Pairwise.nil, fun q hq => by simp at hq, fun q hq => by simp at hq⟩
  | some F => exact ⟨h.sub _ (aget_mem hd), h.ids _ (aget_mem hd), h.nms _ (aget_mem hd)⟩
theorem Val.mono {m m' : Nat} {T : Tr} (h : Val m T) (hm : m ≤ m') : Val m' T := ⟨h.srt, h.sub, fun p hp q hq => Nat.lt_of_lt_of_le (h.ids p hp q hq) hm, h.nm, h.nms⟩
theorem Val.without {m : Nat} {T : Tr} (h : Val m T) (d : ByteArray) : Val m (without T d) :=
  ⟨h.srt.without d, fun p hp => h.sub p (mem_without.1 hp).1, fun p hp => h.ids p (mem_without.1 hp).1, fun p hp => h.nm p (mem_without.1 hp).1, fun p hp => h.nms p (mem_without.1 hp).1⟩
theorem Val.with_ {m : Nat} {T : Tr} (h : Val m T) {d : ByteArray} {F : Fol} (hd : d ∉ T.map Prod.fst) (hg : goodP d = true) (h1 : Srt F) (h2 : ∀ q ∈ F, q.2 < m) (h3 : ∀ q ∈ F, goodP q.1 = true) : Val m (withS d F T) :=
  ⟨h.srt.with_ F hd, fun p hp => by rcases mem_withS.1 hp with rfl | hp; exact h1; exact h.sub p hp, fun p hp => by rcases mem_withS.1 hp with rfl | hp; exact h2; exact h.ids p hp,
    fun p hp => by rcases mem_withS.1 hp with rfl | hp; exact hg; exact h.nm p hp, fun p hp => by rcases mem_withS.1 hp with rfl | hp; exact h3; exact h.nms p hp⟩
theorem Val.on {m : Nat} {T : Tr} (h : Val m T) {c : Chn} (hc : c.ok m T) : Val m (c.on T) := by
  cases c with
  | mkdir d => exact h.with_ (aget_none.1 hc.2) hc.1 List.Pairwise.nil (by simp) (by simp)
  | create d n i =>
    obtain ⟨hi, hg, F, hF, hn⟩ := hc
    have hf : folOf T d = F := by unfold folOf; rw [hF]; rfl
    refine (h.without d).with_ (without_not d) (h.nm _ (aget_mem hF)) ?_ ?_ ?_
    · rw [hf]; exact (h.sub _ (aget_mem hF)).with_ i (aget_none.1 hn)
    · rw [hf]
      intro q hq
      rcases mem_withS.1 hq with rfl | hq
      · exact hi
      · exact h.ids _ (aget_mem hF) q hq
    · rw [hf]
      intro q hq
      rcases mem_withS.1 hq with rfl | hq
      · exact hg
      · exact h.nms _ (aget_mem hF) q hq
  | rename a b =>
    exact ((h.without a).without b).with_ (without_not b) hc.1 (h.fol a).1 (h.fol a).2.1 (h.fol a).2.2
  | remove d n =>
    obtain ⟨F, hF⟩ := hc
    exact (h.without d).with_ (without_not d) (h.nm _ (aget_mem hF)) ((h.fol d).1.without n) (fun q hq => (h.fol d).2.1 q (mem_without.1 hq).1) (fun q hq => (h.fol d).2.2 q (mem_without.1 hq).1)
  | rmdir d => exact h.without d
theorem good_size {x : ByteArray} (h : goodP x = true) : x.size ≤ 30 := by
  unfold goodP at h
  simp only [Bool.and_eq_true, decide_eq_true_eq] at h
  omega

/-- how many names -/
def wd (T : Tr) : Nat := (T.map fun p => p.2.length + 1).sum
theorem wd_withS (d : ByteArray) (F : Fol) (T : Tr) : wd (withS d F T) = F.length + 1 + wd T := by
  unfold wd
  rw [((withS_perm d F T).map _).sum_nat, List.map_cons, List.sum_cons]
theorem wd_without (T : Tr) (d : ByteArray) : wd (without T d) ≤ wd T := by
  unfold wd without
  induction T with
  | nil => simp
  | cons p r ih =>
    rw [List.filter_cons]
    split
    · simp only [List.map_cons, List.sum_cons]; omega
    · simp only [List.map_cons, List.sum_cons]; omega
theorem wd_fol (T : Tr) (d : ByteArray) : (folOf T d).length + (if aget T d = none then 0 else 1) + wd (without T d) ≤ wd T := by
  induction T with
  | nil => simp [folOf, aget, wd, without]
  | cons p r ih =>
    unfold folOf at ih ⊢
    rw [aget_cons, without_cons]
    by_cases h : p.1 = d
    · rw [if_pos h, if_pos h]
      have := wd_without r d
      simp only [Option.getD_some, wd, List.map_cons, List.sum_cons] at this ⊢
      simp
      omega
    · rw [if_neg h, if_neg h]
      simp only [wd, List.map_cons, List.sum_cons] at ih ⊢
      omega
theorem wd_len (T : Tr) : T.length ≤ wd T := by
  unfold wd
  induction T with
  | nil => simp
  | cons p r ih => simp only [List.length_cons, List.map_cons, List.sum_cons]; omega
theorem wd_sub {T : Tr} {p : ByteArray × Fol} (h : p ∈ T) : p.2.length ≤ wd T := by
  unfold wd
  induction T with
  | nil => simp at h
  | cons q r ih =>
    simp only [List.map_cons, List.sum_cons]
    rcases List.mem_cons.1 h with rfl | h
    · omega
    · have := ih h; omega
theorem len_withS {α : Type} (k : ByteArray) (v : α) (t : List (ByteArray × α)) : (withS k v t).length = t.length + 1 := by
  rw [(withS_perm k v t).length_eq, List.length_cons]
theorem len_without {α : Type} (t : List (ByteArray × α)) (k : ByteArray) : (without t k).length ≤ t.length := List.length_filter_le _ _
theorem wd_on {m : Nat} {T : Tr} {c : Chn} (hc : c.ok m T) : wd (c.on T) ≤ wd T + 1 := by
  cases c with
  | mkdir d => simp only [Chn.on, wd_withS, List.length_nil]; omega
  | create d n i =>
    obtain ⟨hi, hg, F, hF, hn⟩ := hc
    have := wd_fol T d
    rw [hF, if_neg (by simp)] at this
    simp only [Chn.on, wd_withS, len_withS]
    omega
  | rename a b =>
    obtain ⟨hg, F, hF⟩ := hc
    have := wd_fol T a
    rw [hF, if_neg (by simp)] at this
    have := wd_without (without T a) b
    simp only [Chn.on, wd_withS]
    omega
  | remove d n =>
    obtain ⟨F, hF⟩ := hc
    have := wd_fol T d
    rw [hF, if_neg (by simp)] at this
    have := len_without (folOf T d) n
    simp only [Chn.on, wd_withS]
    omega
  | rmdir d => simp only [Chn.on]; have := wd_without T d; omega

/-- a file: its safe bytes, its pending writes -/
abbrev Fil := List Int × List (List Int)
def Fil.all (f : Fil) : List Int := f.1 ++ f.2.flatten
/-- the file system's state -/
structure St where
  seen : Tr
  safe : Tr
  chs : List Chn
  files : List Fil
  wr : List Nat
  quota : Int
  stop : Int
  steps : Nat

/-- changes one behind the other -/
def runC (T : Tr) (cs : List Chn) : Tr := cs.foldl (fun t c => Chn.on t c) T
/-- each can be made where it stands -/
def okC (m : Nat) : Tr → List Chn → Prop
  | _, [] => True
  | T, c :: r => c.ok m T ∧ okC m (c.on T) r
theorem runC_snoc (T : Tr) (cs : List Chn) (c : Chn) : runC T (cs ++ [c]) = c.on (runC T cs) := by simp [runC]
theorem okC_snoc {m : Nat} {T : Tr} {cs : List Chn} {c : Chn} : okC m T (cs ++ [c]) ↔ okC m T cs ∧ c.ok m (runC T cs) := by
  induction cs generalizing T with
  | nil => simp [okC, runC]
  | cons x r ih => simp only [List.cons_append, okC, ih, runC, List.foldl_cons, and_assoc]
theorem okC_take {m : Nat} {T : Tr} {cs : List Chn} (h : okC m T cs) (k : Nat) : okC m T (cs.take k) := by
  induction cs generalizing T k with
  | nil => simpa using h
  | cons x r ih =>
    cases k with
    | zero => exact trivial
    | succ k => exact ⟨h.1, ih h.2 k⟩
theorem okC_at {m : Nat} {T : Tr} {cs : List Chn} (h : okC m T cs) {i : Nat} {c : Chn} (hi : cs[i]? = some c) : c.ok m (runC T (cs.take i)) := by
  induction cs generalizing T i with
  | nil => simp at hi
  | cons x r ih =>
    cases i with
    | zero => simp at hi; subst hi; exact h.1
    | succ i => simp at hi; simpa [runC] using ih h.2 hi
theorem Chn.ok_mono {m m' : Nat} {T : Tr} {c : Chn} (h : c.ok m T) (hm : m ≤ m') : c.ok m' T := by
  cases c <;> first | exact h | exact ⟨Nat.lt_of_lt_of_le h.1 hm, h.2⟩
theorem okC_mono {m m' : Nat} {T : Tr} {cs : List Chn} (h : okC m T cs) (hm : m ≤ m') : okC m' T cs := by
  induction cs generalizing T with
  | nil => trivial
  | cons x r ih => exact ⟨Chn.ok_mono h.1 hm, ih h.2⟩
theorem Val.run {m : Nat} {T : Tr} {cs : List Chn} (h : Val m T) (hc : okC m T cs) : Val m (runC T cs) := by
  induction cs generalizing T with
  | nil => exact h
  | cons x r ih => exact ih (h.on hc.1) hc.2
theorem wd_run {m : Nat} {T : Tr} {cs : List Chn} (hc : okC m T cs) : wd (runC T cs) ≤ wd T + cs.length := by
  induction cs generalizing T with
  | nil => simp [runC]
  | cons x r ih =>
    have h1 := wd_on hc.1
    have h2 := ih hc.2
    simp only [runC, List.foldl_cons, List.length_cons] at h2 ⊢
    omega

def filesBulk (fs : List Fil) : Nat := (fs.map fun f => f.all.length + f.2.length).sum
theorem fil_le {fs : List Fil} {f : Fil} (h : f ∈ fs) : f.all.length + f.2.length ≤ filesBulk fs := by
  unfold filesBulk
  induction fs with
  | nil => simp at h
  | cons q r ih =>
    simp only [List.map_cons, List.sum_cons]
    rcases List.mem_cons.1 h with rfl | h
    · omega
    · have := ih h; omega
/-- what holds of each state; B: a bound of everything -/
structure Inv (B : Nat) (S : St) : Prop where
  safe : Val S.files.length S.safe
  chs : okC S.files.length S.safe S.chs
  seen : runC S.safe S.chs = S.seen
  wr : ∀ x ∈ S.wr, x < S.files.length
  wds : wd S.safe + S.chs.length ≤ B
  nf : S.files.length ≤ B
  bulk : filesBulk S.files ≤ B
  nw : S.wr.length ≤ B
  st : S.steps ≤ B
  quota : 0 ≤ S.quota ∧ S.quota ≤ 9223372036854775807
theorem Inv.val {B : Nat} {S : St} (h : Inv B S) : Val S.files.length S.seen := by rw [← h.seen]; exact h.safe.run h.chs
theorem Inv.wd {B : Nat} {S : St} (h : Inv B S) : wd S.seen ≤ B := by rw [← h.seen]; have := wd_run h.chs; have := h.wds; omega
theorem Inv.mono {B B' : Nat} {S : St} (h : Inv B S) (hb : B ≤ B') : Inv B' S := by
  obtain ⟨h1, h2, h3, h4, h5, h6, h7, h8, h9, h10⟩ := h
  exact ⟨h1, h2, h3, h4, by omega, by omega, by omega, by omega, by omega, h10⟩

/-- is the power off? -/
def St.down (S : St) : Bool := downB S.stop S.steps
/-- the first error that holds: the power, the names, the directory -/
def St.ask (S : St) (there : Bool) (ns : List ByteArray) : Int :=
  if S.down = true then 80 else if ns.all goodP = false then 81 else if there = true ∧ (aget S.seen (ns.headD ByteArray.empty)).isNone = true then 82 else 0
/-- the file, the error's number -/
def St.fnd (S : St) (d n : ByteArray) : Option Nat × Int :=
  if S.ask true [d, n] ≠ 0 then (none, S.ask true [d, n]) else match aget (folOf S.seen d) n with
  | none => (none, 82)
  | some i => (some i, 0)
def St.bytes (S : St) (i : Nat) : List Int := Fil.all (S.files.getD i ([], []))
/-- all that is seen -/
def St.view (S : St) : List (ByteArray × List (ByteArray × List Int)) :=
  if S.down = true then [] else S.seen.map fun p => (p.1, p.2.map fun q => (q.1, S.bytes q.2))
/-- how many bytes a disk has -/
def bytesOf (D : List (ByteArray × List (ByteArray × List Int))) : Nat := (D.map fun p => (p.2.map fun q => q.2.length).sum).sum
def St.used (S : St) : Nat := bytesOf S.view
/-- which of a file's pending writes are kept -/
def St.keep (S : St) (ks : List Bool) (x : Nat) : List Bool := ((S.wr.zipIdx.filter fun p => p.1 == x).map fun p => (ks[p.2]?).getD false)
def St.after (S : St) (ks : List Bool) (i : Nat) : List Int := let f := S.files.getD i ([], []); aft f.1 f.1.length f.2 (S.keep ks i)
/-- what a loss of power leaves -/
def St.left (S : St) (ks : List Bool) (names : Int) : List (ByteArray × List (ByteArray × List Int)) :=
  (runC S.safe (S.chs.take names.toNat)).map fun p => (p.1, p.2.map fun q => (q.1, S.after ks q.2))

/-- a change of names is made -/
def St.make (S : St) (c : Chn) : St := { S with seen := c.on S.seen, chs := S.chs ++ [c], steps := S.steps + 1 }
def St.mkdir (S : St) (d : ByteArray) : St × Int :=
  if S.ask false [d] ≠ 0 then (S, S.ask false [d]) else if (aget S.seen d).isSome = true then (S, 83) else (S.make (.mkdir d), 0)
def St.create (S : St) (d n : ByteArray) : St × Int :=
  if S.ask true [d, n] ≠ 0 then (S, S.ask true [d, n]) else if (aget (folOf S.seen d) n).isSome = true then (S, 83) else
    (({ S with files := S.files ++ [([], [])] } : St).make (.create d n S.files.length), 0)
def St.write (S : St) (d n : ByteArray) (data : List Int) : St × Int :=
  match S.fnd d n with
  | (none, e) => (S, e)
  | (some x, _) => if data = [] then ({ S with steps := S.steps + 1 }, 0) else if S.quota < (S.used : Int) + data.length then (S, 85) else
    ({ S with files := S.files.modify x (fun f => (f.1, f.2 ++ [data])), wr := S.wr ++ [x], steps := S.steps + 1 }, 0)
def St.sync (S : St) (d n : ByteArray) : St × Int :=
  match S.fnd d n with
  | (none, e) => (S, e)
  | (some x, _) => ({ S with files := S.files.modify x (fun f => (Fil.all f, [])), wr := S.wr.filter (fun y => y != x), steps := S.steps + 1 }, 0)
def St.names (S : St) : St × Int :=
  if S.down = true then (S, 80) else ({ S with safe := S.seen, chs := [], steps := S.steps + 1 }, 0)
def St.rename (S : St) (a b : ByteArray) : St × Int :=
  if S.ask true [a, b] ≠ 0 then (S, S.ask true [a, b]) else (S.make (.rename a b), 0)
def St.remove (S : St) (d n : ByteArray) : St × Int :=
  match S.fnd d n with
  | (none, e) => (S, e)
  | (some _, _) => (S.make (.remove d n), 0)
def St.rmdir (S : St) (d : ByteArray) : St × Int :=
  if S.ask true [d] ≠ 0 then (S, S.ask true [d]) else if (folOf S.seen d).length > 0 then (S, 85 - 1) else (S.make (.rmdir d), 0)
def St.read (S : St) (d n : ByteArray) : List Int × Int :=
  match S.fnd d n with
  | (none, e) => ([], e)
  | (some x, _) => (S.bytes x, 0)
def St.list (S : St) (d : ByteArray) : List ByteArray × Int :=
  if S.ask true [d] ≠ 0 then ([], S.ask true [d]) else ((folOf S.seen d).map Prod.fst, 0)
def St.dirs (S : St) : List ByteArray × Int := if S.down = true then ([], 80) else (S.seen.map Prod.fst, 0)
end Go.Proofs.YtgomofeidghmiaaGreat

namespace Go.Proofs.YtgomofeidghmiaaGreat
open Go.RowKit

theorem conv_rd {w : World} {A : Option Addr} {n c : Nat} {xs : List Int} (h : Rd w 1 A n c (bv xs)) : (convert 31 9 (.slice A n c)).run Tryz.prog w = .ok (.string (strOfNums xs)) w := by
  have hl : xs.length = n := by have := h.1; simp at this; omega
  cases A with
  | none =>
    have h1 := h.2.2.2.1 rfl
    have h2 := h.2.1
    have hx : xs = [] := List.eq_nil_of_length_eq_zero (by omega)
    subst hx
    exact run_convert_bytes_nil w 31 5 Tryz.underlying31 Tryz.underlying5 _ _ _ Tryz.underlying9
  | some ad =>
    have hld : (loadCells ad n).run Tryz.prog w = .ok (bv xs).toArray w := by
      have := run_loadCells_list (P := Tryz.prog) w ad (bv xs) (fun j v hj => (h.2.2.2.2 ad rfl).2 j v hj)
      simpa [hl] using this
    rw [run_convert_bytes_string w _ _ _ _ n c Tryz.underlying31 Tryz.underlying5 Tryz.underlying9, run_bytesToString w ad n c xs hld, foldl_push_bytes]
    simp [strOfNums, ByteArray.empty, ByteArray.emptyWithCapacity]
    rfl

/-- some answer; true where they are one -/
def SaysIf (p : Prop) (w : World) (e : Ending) (w' : World) : Prop := ∃ b : Bool, e = .returned (.bool b) ∧ (p → b = true) ∧ Chg [] w w'

set_option maxRecDepth 100000 in
set_option maxHeartbeats 1600000 in
theorem sameb_any (A : Option Addr) (n c : Nat) (xs : List Int) (B : Option Addr) (m d : Nat) (ys : List Int) (w : World) (ha : Rd w 1 A n c (bv xs)) (hb : Rd w 1 B m d (bv ys)) :
    Calls Tryz.prog 29 #[.slice A n c, .slice B m d] w (SaysIf (xs = ys) w) := by
  have h1 := conv_rd ha
  have h2 := conv_rd hb
  obtain ⟨s, hs⟩ : ∃ s, strOfNums xs = s := ⟨_, rfl⟩
  obtain ⟨t, ht⟩ : ∃ t, strOfNums ys = t := ⟨_, rfl⟩
  rw [hs] at h1
  rw [ht] at h2
  have HST : Hid (xs = ys → s = t) := Lib.hid (by rintro rfl; rw [← hs, ← ht])
  clear ha hb hs ht
  go_enter Tryz.func29, Tryz.ntmps29
  go_wp2
  go_ret
  refine ⟨_, rfl, fun h => ?_, Chg.refl _ _⟩
  rw [HST.out h]
  simp
end Go.Proofs.YtgomofeidghmiaaGreat
