/-
  append(s, make([]T, k)...) as one law, for a slice that is nil or owned, elements of one cell.
-/
import Derived.Test.YtgomofeidghmiaaMem
import Derived.Lib.AppendZerosOnto
namespace Go.Proofs.Ytgomofeidghmiaa
open Go.RowKit

theorem zeroCells_list (z : Value) (hz : z.cells = #[z]) (k : Nat) : (Builtin.zeroCells z.cells k).toList = List.replicate k z := by
  apply List.ext_getElem?
  intro i
  rw [hz]
  simp only [Builtin.zeroCells, Array.toList_map, Array.toList_range, List.getElem?_map, List.getElem?_replicate]
  by_cases h : i < k
  · rw [List.getElem?_eq_getElem (by simpa using h)]
    simp [h, Nat.mod_one]
  · rw [List.getElem?_eq_none (by simpa using h)]
    simp [h]

theorem run_app_zeros {P : Program} {w : World} {t tn ty e : TypeId} {bytes : Nat} {z : Value} (he : Ety P t e 1 bytes z) (htn : P.underlying tn = some (.int .i64)) (hz1 : z.cells = #[z]) (hz2 : z.oneCell' = true)
    {A : Option Addr} {n c : Nat} {xs : List Value} (hown : Own w e 1 A n c xs) (k : Nat) (h63 : n + k ≤ maxLen) (hb : (n + k) * bytes ≤ 140737488355328) :
    ∃ A' c' w', (Builtin.append_ #[t, tn] ty #[.slice A n c, .int .i64 k]).run P w = .ok (.slice A' (n + k) c') w' ∧ Own w' e 1 A' (n + k) c' (xs ++ List.replicate k z) ∧ Chg (bo A) w w' ∧
      (∀ k ∈ bo A', k ∈ bo A ∨ (w.heap.size ≤ k ∧ k < w'.heap.size)) := by
  obtain ⟨ht, ⟨i, hi, hz, hsz, hby⟩, hzs, hpos⟩ := he
  subst hby
  have hkb : k * i.bytes ≤ 281474976710656 := by
    have : k * i.bytes ≤ (n + k) * i.bytes := Nat.mul_le_mul_right _ (by omega)
    omega
  have hw : IntKind.i64.wrap (k : Int) = k := by rw [IntKind.wrap_i64]; simp only [maxLen] at h63; omega
  have hneg : ¬ ((k : Int) < 0) := by omega
  have h48i : ¬ (281474976710656 < (k : Int) * (i.bytes : Int)) := by rw [← Int.natCast_mul]; omega
  by_cases hk : k = 0
  · subst hk
    have hw0 : IntKind.i64.wrap 0 = 0 := by decide
    have hnc : n ≤ c := hown.rd.2.1
    refine ⟨A, c, w, ?_, by simpa using hown, Chg.refl _ _, fun k hk => .inl hk⟩
    cases A <;> simp [Builtin.append_, run_underlying ht, run_underlying htn, sizeOf, typeInfo, hi, asInt, asIntOf, hw0, hnc, storeCells]
  have hns : ¬ (k * i.size = 0) := by rw [hsz]; omega
  have grown : ∀ old, ∃ A' c' w', (.ok (.slice (some ⟨w.heap.size, 0, none⟩) (n + k) (grownCap w (n + k) old e)) (w.drew.alloc (.cells (xs.toArray ++ Builtin.zeroCells z.cells k ++ Builtin.zeroCells z.cells (grownCap w (n + k) old e - (n + k))) e)) : Result Value) = .ok (.slice A' (n + k) c') w' ∧
      Own w' e 1 A' (n + k) c' (xs ++ List.replicate k z) ∧ Chg (bo A) w w' ∧ (∀ k ∈ bo A', k ∈ bo A ∨ (w.heap.size ≤ k ∧ k < w'.heap.size)) := by
    intro old
    have hge := grownCap_ge w (n + k) old e
    have hcm : grownCap w (n + k) old e ≤ maxLen := grownCap_le_maxLen w (n + k) old e h63
    have hxl : xs.length = n := by have := hown.1; omega
    refine ⟨_, _, _, rfl, ⟨by simp [hxl], .inr ⟨w.heap.size, _, _, rfl, Nat.zero_le _, heap_alloc_new w.drew _, hge, hcm, ?_, ?_⟩⟩, ((Chg.refl _ _).drew).alloc _, ?_⟩
    · simp only [Array.size_append, List.size_toArray, size_zeroCells, hzs, hxl]
      omega
    · simp only [Array.toList_append, zeroCells_list z hz1]
      exact List.take_left' (by simp [hxl])
    · intro j hj; right; simp at hj; subst hj; simp
  by_cases hroom : n + k ≤ c
  · rcases hown.form with ⟨rfl, rfl, rfl, rfl⟩ | ⟨g, cur, rfl, hbk, hnc, hcm, hcs, htk⟩
    · omega
    · have hfit : n * 1 + (List.replicate k z).length ≤ cur.size := by simp; omega
      have hst := run_storeCells_at P g (n * 1) e (List.replicate k z) 0 cur w hbk (by simpa using hfit) (by simp [hz2])
      simp only [Nat.add_zero, Nat.mul_one, List.length_replicate] at hst
      have hxl : xs.length = n := by have := hown.1; omega
      have hcl : cur.toList.length = cur.size := by simp
      refine ⟨some ⟨g, 0, none⟩, c, _, ?_, ⟨by simp [hown.1], .inr ⟨g, c, _, rfl, Nat.zero_le _, setRow_heap w g cur (cur.toList.take n ++ List.replicate k z ++ cur.toList.drop (n + k)).toArray e _ hbk, hroom, hcm, ?_, ?_⟩⟩, ⟨rfl, rfl, rfl, by simp [World.setRow], fun j _ hj => setRow_other w g j _ (by simpa using hj)⟩, fun j hj => .inl hj⟩
      · simp [Builtin.append_, run_underlying ht, run_underlying htn, sizeOf, typeInfo, zeroValue, hi, hz, asInt, asIntOf, hw, hneg, h48i, hns, hroom, Addr.add_lit, hsz, hk, zeroCells_list z hz1, hst]
      · simp; omega
      · simp only [Nat.mul_one] at htk ⊢
        rw [← htk]
        exact List.take_left' (by simp; omega)
  · have hc : c < n + k := by omega
    have hold : (Builtin.firstCells i.size n (.slice A n c)).run P w.drew = .ok xs.toArray w.drew := by
      rcases hown.form with ⟨rfl, rfl, rfl, rfl⟩ | ⟨g, cur, rfl, hbk, hnc, hcm, hcs, htk⟩
      · exact run_firstCells_none (P := P) w.drew _ _ _ _
      · exact run_firstCells_some (P := P) w.drew i.size n ⟨g, 0, none⟩ n c xs (by rw [hsz]; exact hown.1) (World.ownsRow.cells hown (g := g) rfl)
    have e0 := Lib.run_append_grow_zeros (P := P) w t tn ty e i z .i64 .i64 ht htn hi hz A n c xs hold k (by omega) (by omega) hc (by simp only [maxLen] at h63; omega) hkb (growslice_fits (by omega) hb)
    rw [e0]
    exact grown c

theorem wpList_app_zeros {P : Program} {w : World} {ops : Array Oper} {rest : List Oper} {o : Oper} {a : Act} {Q : Exit → Act → World → Prop} (hgd : o.guard = none) (s x : Operand) {t tn : TypeId}
    (ho : o.op = .call { callee := .builtin .append, args := #[s, x], argTypes := #[t, tn] })
    {e : TypeId} {bytes : Nat} {z : Value} (he : Ety P t e 1 bytes z) (htn : P.underlying tn = some (.int .i64)) (hz1 : z.cells = #[z]) (hz2 : z.oneCell' = true)
    {A : Option Addr} {n c : Nat} {xs : List Value} (hs : a.eval s = .slice A n c) (hown : Own w e 1 A n c xs) (k : Nat) (hx : a.eval x = .int .i64 k) (h63 : n + k ≤ maxLen) (hb : (n + k) * bytes ≤ 140737488355328)
    (h : ∀ A' c' w', Own w' e 1 A' (n + k) c' (xs ++ List.replicate k z) → Chg (bo A) w w' → (∀ k ∈ bo A', k ∈ bo A ∨ (w.heap.size ≤ k ∧ k < w'.heap.size)) →
      wpList P ops Q rest (a.put o.dst (.slice A' (n + k) c')) w') : wpList P ops Q (o :: rest) a w := by
  obtain ⟨A', c', w', hr, h2, h3, h4⟩ := run_app_zeros (ty := o.type) he htn hz1 hz2 hown k h63 hb
  exact Lib.wpList_append_run w hgd s x t tn ho _ _ hs hx _ w' hr (h A' c' w' h2 h3 h4)
end Go.Proofs.Ytgomofeidghmiaa
