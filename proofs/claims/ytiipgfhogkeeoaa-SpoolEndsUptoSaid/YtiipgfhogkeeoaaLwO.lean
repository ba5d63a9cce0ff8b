/-
  Layer 7: a script opened.
-/
import Derived.Test.YtiipgfhogkeeoaaLwR
import Derived.Test.YtiipgfhogkeeoaaLwA
namespace Go.Proofs.Ytiipgfhogkeeoaa
open Go.RowKit Go.ChangeShapes Go.WideShapes Go.Deep

theorem sum_le_range {H : Type} (D : Nat → DataW H) (n : Nat) {α : Type} (Z : List α) (G : α → Nat) (hl : Z.length = n) (h : ∀ (i : Nat) z, Z[i]? = some z → G z ≤ Rows.uptoBulk (D i)) : (Z.map G).sum ≤ Rows.uptoBulkAll ((List.range n).map D) := by
  have h1 := bulk_map_range D n (fun i => (Z[i]?.map G).getD 0) (fun i hil => by
    have hz : Z[i]? = some (Z[i]'(by omega)) := List.getElem?_eq_getElem (by omega)
    rw [hz]
    exact h i _ hz)
  have h2 : (List.range n).map (fun i => (Z[i]?.map G).getD 0) = Z.map G := by
    apply List.ext_getElem?
    intro i
    rw [List.getElem?_map, List.getElem?_map]
    by_cases hil : i < n
    · rw [List.getElem?_eq_getElem (by simpa using hil), List.getElem?_eq_getElem (by omega)]
      have hil' : i < Z.length := by omega
      simp [hil']
    · rw [List.getElem?_eq_none (by simp; omega), List.getElem?_eq_none (by omega)]
      rfl
  rwa [h2] at h1

theorem collect {α : Type} {Q : Nat → α → Prop} (n : Nat) (h : ∀ i, i < n → ∃ z, Q i z) : ∃ Z : List α, Z.length = n ∧ ∀ (i : Nat) z, Z[i]? = some z → Q i z := by
  induction n with
  | zero => exact ⟨[], rfl, fun i z h => by simp at h⟩
  | succ k ih =>
    obtain ⟨zs, h1, h2⟩ := ih (fun i hi => h i (by omega))
    obtain ⟨z, hz⟩ := h k (by omega)
    refine ⟨zs ++ [z], by simp [h1], fun i y hy => ?_⟩
    by_cases hik : i < k
    · rw [List.getElem?_append_left (by omega)] at hy; exact h2 i y hy
    · rw [List.getElem?_append_right (by omega)] at hy
      have h0 : i = k := by
        rcases Nat.lt_or_ge k i with h3 | h3
        · rw [List.getElem?_eq_none (by simp; omega)] at hy; cases hy
        · omega
      subst h0
      rw [h1, Nat.sub_self] at hy
      simp at hy
      subst hy
      exact hz

theorem one_of_trod_slice {H : Type} {enc : TypeId × Value → H} {P : Program} {w : World} {base : Nat} {sp : Nat → Bool} {held : Bool} {t e : TypeId} {n : Nat} {u : Value} {y : DataW H × List MemPlace} (ht : P.underlying t = some (.slice e)) (h : DataW.trod enc P w base sp held n t [u] = some y) :
    ∃ a l c, u = .slice a l c := by
  rcases open_slice ht h with ⟨h1, _⟩ | ⟨a, len, cap, m, n, D, Pl, h1, _⟩
  · simp at h1; exact ⟨_, _, _, h1⟩
  · simp at h1; exact ⟨_, _, _, h1⟩

theorem opn_ops {H : Type} {enc : TypeId × Value → H} {W : World} {b : Nat} {r : Reach} {sp : Nat → Bool} {held : Bool} {v : Value} {d : DataW H} {p : List MemPlace}
    (hv : Value.okWide Try.prog W r b 23 v) (h : DataW.Trod enc Try.prog W 0 sp held 23 v d p) :
    ∃ A n c, ∃ ops : List OpD, v = .slice A n c ∧ Scr W A n ops ∧ n ≤ Rows.uptoBulk d ∧ (ops.map (·.data.length)).sum ≤ Rows.uptoBulk d ∧ ∀ o ∈ ops, o.keep.length ≤ Rows.uptoBulk d := by
  obtain ⟨a0, l0, c0, rfl⟩ := okWide_slice Try.underlying23 hv
  obtain ⟨fuel, hf⟩ := h
  rcases open_slice_fields (e := 34) Try.underlying23 Try.underlying34 (by kernel_rfl) (by kernel_rfl) hf with ⟨hcs, hx⟩ | ⟨a, len, cap, m, D, Pl, hcs, hb, hl, hm, hmm, hx, hi⟩
  · simp [Value.cells] at hcs
    obtain ⟨rfl, rfl, rfl⟩ := hcs
    exact ⟨none, 0, 0, [], rfl, ⟨rfl, fun i o ho => by simp at ho⟩, by omega, by simp, by simp⟩
  · simp [Value.cells] at hcs
    obtain ⟨rfl, rfl, rfl⟩ := hcs
    simp only [Prod.mk.injEq] at hx
    obtain ⟨rfl, rfl⟩ := hx
    have hle : l0 ≤ m := by rw [hmm]; split <;> omega
    have el : ∀ i, i < l0 → ∃ o : OpD, (∃ D1 dn dc K kn kc, W.cell? (a.add (i * 3)) = some (.int .i64 o.kind) ∧ W.cell? ⟨(a.add (i * 3)).block, (a.add (i * 3)).off + 1, none⟩ = some (.slice D1 dn dc) ∧ W.cell? ⟨(a.add (i * 3)).block, (a.add (i * 3)).off + 2, none⟩ = some (.slice K kn kc) ∧
        Rd W 1 D1 dn dc (bv o.data) ∧ Rd W 1 K kn kc (kv o.keep)) ∧ o.data.length + o.keep.length + 1 ≤ Rows.uptoBulk (D i) := by
      intro i hil
      obtain ⟨ys, n', hD, hPl, hyl, hfl⟩ := hi i (by omega)
      obtain ⟨v0, y0, e0, g0, t0⟩ := hfl 0 _ rfl
      obtain ⟨v1, y1, e1, g1, t1⟩ := hfl 1 _ rfl
      obtain ⟨v2, y2, e2, g2, t2⟩ := hfl 2 _ rfl
      obtain ⟨k, hk, rfl, _⟩ := DataW.trod_int Try.underlying3 t0
      simp at hk
      subst hk
      obtain ⟨a1, l1, c1, rfl⟩ := one_of_trod_slice Try.underlying22 t1
      obtain ⟨a2, l2, c2, rfl⟩ := one_of_trod_slice Try.underlying32 t2
      obtain ⟨A1, n1, cc1, zs, hz1, hz2, hz3, hz4, _⟩ := opn_ints Try.underlying22 Try.underlying5 (by kernel_rfl) ⟨_, _, _, rfl⟩ ⟨n', t1⟩
      obtain ⟨A2, n2, cc2, ks, hk1, hk2, hk3, hk4⟩ := opn_bools Try.underlying32 Try.underlying4 (by kernel_rfl) ⟨_, _, _, rfl⟩ ⟨n', t2⟩
      injection hz1 with i1 i2 i3
      subst i1; subst i2; subst i3
      injection hk1 with i1 i2 i3
      subst i1; subst i2; subst i3
      refine ⟨⟨k, zs, ks⟩, ⟨a1, l1, c1, a2, l2, c2, by simpa using e0, ?_, ?_, hz2, hk2⟩, ?_⟩
      · have := add_field a (i * 3) 0
        simp at e1 this
        rw [← this]; exact e1
      · have := add_field a (i * 3) 1
        simp at e2 this
        rw [← this]; exact e2
      · rw [hD]
        have hys : ys = [(.lit (.int .i64 k), []), y1, y2] := by
          match ys, hyl with
          | [z0, z1, z2], _ => simp at g0 g1 g2; rw [g0, g1, g2]
        rw [hys]
        simp only [List.map_cons, List.map_nil, Rows.uptoBulk, Rows.uptoBulkAll, hz3, hk3]
        omega
    obtain ⟨ops, hol, hop⟩ := collect l0 el
    have hs := sum_le_range D l0 ops (fun o => o.data.length + o.keep.length + 1) hol (fun i z hz => (hop i z hz).2)
    have hs1 : (ops.map (·.data.length)).sum ≤ (ops.map (fun o => o.data.length + o.keep.length + 1)).sum := by
      clear hs hop hol
      induction ops with
      | nil => simp
      | cons x r ih => simp only [List.map_cons, List.sum_cons]; omega
    have hs2 : ∀ o ∈ ops, o.keep.length ≤ (ops.map (fun o => o.data.length + o.keep.length + 1)).sum := by
      clear hs hop hol hs1
      induction ops with
      | nil => simp
      | cons x r ih =>
        intro o ho
        simp only [List.map_cons, List.sum_cons]
        rcases List.mem_cons.1 ho with rfl | ho
        · omega
        · have := ih o ho; omega
    have hs3 : ops.length ≤ (ops.map (fun o => o.data.length + o.keep.length + 1)).sum := by
      clear hs hop hol hs1 hs2
      induction ops with
      | nil => simp
      | cons x r ih => simp only [List.map_cons, List.sum_cons, List.length_cons]; omega
    refine ⟨some a, l0, c0, ops, rfl, ⟨hol, fun i o ho => ?_⟩, ?_, ?_, fun o ho => ?_⟩
    · obtain ⟨⟨D1, dn, dc, K, kn, kc, h1⟩, _⟩ := hop i o ho
      exact ⟨a, D1, dn, dc, K, kn, kc, rfl, h1⟩
    all_goals simp only [Rows.uptoBulk]
    · omega
    · omega
    · have := hs2 o ho; omega
end Go.Proofs.Ytiipgfhogkeeoaa
