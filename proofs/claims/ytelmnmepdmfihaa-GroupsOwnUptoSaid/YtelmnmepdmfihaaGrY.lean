/-
  Layer 17: arguments opened.
-/
import Derived.Test.YtelmnmepdmfihaaLwR
import Derived.Test.YtelmnmepdmfihaaGrM
import Derived.Lib.SmallJoins
namespace Go.Proofs.Ytelmnmepdmfihaa
open Go.RowKit Go.ChangeShapes Go.WideShapes Go.Deep

theorem sum_le_range {H : Type} (D : Nat → DataW H) (n : Nat) {α : Type} (Z : List α) (G : α → Nat) (hl : Z.length = n) (h : ∀ (i : Nat) z, Z[i]? = some z → G z ≤ Rows.uptoBulk (D i)) : (Z.map G).sum ≤ Rows.uptoBulkAll ((List.range n).map D) := by
  have h1 := bulk_map_range D n (fun i => (Z[i]?.map G).getD 0) (fun i hil => by
    have hz : Z[i]? = some (Z[i]'(by omega)) := List.getElem?_eq_getElem (by omega)
    rw [hz]
    exact h i _ hz)
  have h2 : (List.range n).map (fun i => (Z[i]?.map G).getD 0) = Z.map G := by
    apply List.ext_getElem?
    intro i
    rw [List.getElem?_map, List.getElem?_map]
    by_cases hil : i < n
    · rw [List.getElem?_eq_getElem (by simpa using hil), List.getElem?_eq_getElem (by omega)]
      have hil' : i < Z.length := by omega
      simp [hil']
    · rw [List.getElem?_eq_none (by simp; omega), List.getElem?_eq_none (by omega)]
      rfl
  rwa [h2] at h1

theorem collect {α : Type} {Q : Nat → α → Prop} (n : Nat) (h : ∀ i, i < n → ∃ z, Q i z) : ∃ Z : List α, Z.length = n ∧ ∀ (i : Nat) z, Z[i]? = some z → Q i z := by
  induction n with
  | zero => exact ⟨[], rfl, fun i z h => by simp at h⟩
  | succ k ih =>
    obtain ⟨zs, h1, h2⟩ := ih (fun i hi => h i (by omega))
    obtain ⟨z, hz⟩ := h k (by omega)
    refine ⟨zs ++ [z], by simp [h1], fun i y hy => ?_⟩
    by_cases hik : i < k
    · rw [List.getElem?_append_left (by omega)] at hy; exact h2 i y hy
    · rw [List.getElem?_append_right (by omega)] at hy
      have h0 : i = k := by
        rcases Nat.lt_or_ge k i with h3 | h3
        · rw [List.getElem?_eq_none (by simp; omega)] at hy; cases hy
        · omega
      subst h0
      rw [h1, Nat.sub_self] at hy
      simp at hy
      subst hy
      exact hz

set_option maxRecDepth 100000 in
theorem opn_links {H : Type} {enc : TypeId × Value → H} {W : World} {sp : Nat → Bool} {held : Bool} {v : Value} {d : DataW H} {p : List MemPlace}
    (hv : ∃ a l c, v = .slice a l c) (h : DataW.Trod enc Try.prog W 0 sp held 22 v d p) :
    ∃ A n c, ∃ ls : List Lk, v = .slice A n c ∧ Rd W 7 A n c (lvs ls) ∧ n + 1 ≤ Rows.uptoBulk d := by
  obtain ⟨a0, l0, c0, rfl⟩ := hv
  obtain ⟨fuel, hf⟩ := h
  rcases open_slice_fields (e := 55) Try.underlying22 Try.underlying55 (by kernel_rfl) (by kernel_rfl) hf with ⟨hcs, hx⟩ | ⟨a, len, cap, m, D, Pl, hcs, hb, hl, hm, hmm, hx, hi⟩
  · simp [Value.cells] at hcs
    obtain ⟨rfl, rfl, rfl⟩ := hcs
    simp only [Prod.mk.injEq] at hx
    obtain ⟨rfl, rfl⟩ := hx
    exact ⟨none, 0, 0, [], rfl, Rd.nil _ _, by simp [Rows.uptoBulk]⟩
  · simp [Value.cells] at hcs
    obtain ⟨rfl, rfl, rfl⟩ := hcs
    simp only [Prod.mk.injEq] at hx
    obtain ⟨rfl, rfl⟩ := hx
    have hle : l0 ≤ m := by rw [hmm]; split <;> omega
    have el : ∀ i, i < l0 → ∃ l : Lk, (∀ k u, (lv l)[k]? = some u → W.cell? (a.add (i * 7 + k)) = some u) ∧ 1 ≤ Rows.uptoBulk (D i) := by
      intro i hil
      obtain ⟨ys, n', hD, hPl, hyl, hfl⟩ := hi i (by omega)
      obtain ⟨v0, y0, e0, g0, t0⟩ := hfl 0 _ rfl
      obtain ⟨v1, y1, e1, g1, t1⟩ := hfl 1 _ rfl
      obtain ⟨v2, y2, e2, g2, t2⟩ := hfl 2 _ rfl
      obtain ⟨v3, y3, e3, g3, t3⟩ := hfl 3 _ rfl
      obtain ⟨v4, y4, e4, g4, t4⟩ := hfl 4 _ rfl
      obtain ⟨v5, y5, e5, g5, t5⟩ := hfl 5 _ rfl
      obtain ⟨v6, y6, e6, g6, t6⟩ := hfl 6 _ rfl
      obtain ⟨z0, h0, _⟩ := DataW.trod_bool Try.underlying4 t0
      obtain ⟨z1, h1, _⟩ := DataW.trod_int Try.underlying3 t1
      obtain ⟨z2, h2, _⟩ := DataW.trod_int Try.underlying3 t2
      obtain ⟨z3, h3, _⟩ := DataW.trod_int Try.underlying3 t3
      obtain ⟨z4, h4, _⟩ := DataW.trod_int Try.underlying3 t4
      obtain ⟨z5, h5, _⟩ := DataW.trod_int Try.underlying3 t5
      obtain ⟨z6, h6, _⟩ := DataW.trod_int Try.underlying3 t6
      simp at h0 h1 h2 h3 h4 h5 h6
      subst h0 h1 h2 h3 h4 h5 h6
      refine ⟨⟨z0, z1, z2, z3, z4, z5, z6⟩, fun k u hu => ?_, bulk_one _⟩
      match k, hu with
      | 0, hu => simp [lv] at hu; subst hu; exact e0
      | 1, hu => simp [lv] at hu; subst hu; exact e1
      | 2, hu => simp [lv] at hu; subst hu; exact e2
      | 3, hu => simp [lv] at hu; subst hu; exact e3
      | 4, hu => simp [lv] at hu; subst hu; exact e4
      | 5, hu => simp [lv] at hu; subst hu; exact e5
      | 6, hu => simp [lv] at hu; subst hu; exact e6
      | k + 7, hu => simp [lv] at hu
    obtain ⟨ls, hll, hlp⟩ := collect l0 el
    have hs := sum_le_range D l0 ls (fun _ => 1) hll (fun i z hz => (hlp i z hz).2)
    rw [sum_one] at hs
    refine ⟨some a, l0, c0, ls, rfl, ⟨by rw [lvs_length, hll], hl, hm, (fun e => by cases e), fun ad e => ?_⟩, ?_⟩
    · injection e with e; subst e
      have hat : ∀ (i k : Nat) (l : Lk) (u : Value), ls[i]? = some l → (lv l)[k]? = some u → W.cell? (a.add (i * 7 + k)) = some u := fun i k l u hl hu => (hlp i l hl).1 k u hu
      refine ⟨fun hp => ?_, fun j u hu => ?_⟩
      · obtain ⟨l, hl0⟩ : ∃ l, ls[0]? = some l := ⟨_, List.getElem?_eq_getElem (by omega)⟩
        have := World.block_lt_of_cell? _ _ (hat 0 0 l _ hl0 rfl)
        rwa [add_block] at this
      · have hj := lvs_get ls (j / 7) (j % 7) (Nat.mod_lt _ (by decide))
        rw [show j / 7 * 7 + j % 7 = j by omega, hu] at hj
        cases hl0 : ls[j / 7]? with
        | none => rw [hl0] at hj; simp at hj
        | some l =>
          rw [hl0] at hj
          simp only [Option.bind_some] at hj
          have := hat _ _ l u hl0 hj.symm
          rwa [show j / 7 * 7 + j % 7 = j by omega] at this
    · simp only [Rows.uptoBulk]; omega

set_option maxRecDepth 100000 in
theorem opn_int1 {H : Type} {enc : TypeId × Value → H} {W : World} {b : Nat} {r : Reach} {sp : Nat → Bool} {held : Bool} {v : Value} {d : DataW H} {p : List MemPlace} {t : TypeId} {k : IntKind} (ht : Try.prog.underlying t = some (.int k))
    (hv : Value.okWide Try.prog W r b t v) (h : DataW.Trod enc Try.prog W 0 sp held t v d p) : ∃ z, v = .int k z := by
  obtain ⟨z, rfl, _⟩ := okWide_int ht hv
  exact ⟨z, rfl⟩

set_option maxRecDepth 100000 in
theorem opn_groups {H : Type} {enc : TypeId × Value → H} {W : World} {sp : Nat → Bool} {held : Bool} {v : Value} {d : DataW H} {p : List MemPlace}
    (hv : ∃ a l c, v = .slice a l c) (h : DataW.Trod enc Try.prog W 0 sp held 35 v d p) :
    ∃ A n c, ∃ ls : List Lk, v = .slice A n c ∧ Rd W 7 A n c (lvs ls) ∧ n + 1 ≤ Rows.uptoBulk d := by
  obtain ⟨a0, l0, c0, rfl⟩ := hv
  obtain ⟨fuel, hf⟩ := h
  rcases open_slice_fields (e := 58) Try.underlying35 Try.underlying58 (by kernel_rfl) (by kernel_rfl) hf with ⟨hcs, hx⟩ | ⟨a, len, cap, m, D, Pl, hcs, hb, hl, hm, hmm, hx, hi⟩
  · simp [Value.cells] at hcs
    obtain ⟨rfl, rfl, rfl⟩ := hcs
    simp only [Prod.mk.injEq] at hx
    obtain ⟨rfl, rfl⟩ := hx
    exact ⟨none, 0, 0, [], rfl, Rd.nil _ _, by simp [Rows.uptoBulk]⟩
  · simp [Value.cells] at hcs
    obtain ⟨rfl, rfl, rfl⟩ := hcs
    simp only [Prod.mk.injEq] at hx
    obtain ⟨rfl, rfl⟩ := hx
    have hle : l0 ≤ m := by rw [hmm]; split <;> omega
    have el : ∀ i, i < l0 → ∃ l : Lk, (∀ k u, (lv l)[k]? = some u → W.cell? (a.add (i * 7 + k)) = some u) ∧ 1 ≤ Rows.uptoBulk (D i) := by
      intro i hil
      obtain ⟨ys, n', hD, hPl, hyl, hfl⟩ := hi i (by omega)
      obtain ⟨v0, y0, e0, g0, t0⟩ := hfl 0 _ rfl
      obtain ⟨v1, y1, e1, g1, t1⟩ := hfl 1 _ rfl
      obtain ⟨v2, y2, e2, g2, t2⟩ := hfl 2 _ rfl
      obtain ⟨v3, y3, e3, g3, t3⟩ := hfl 3 _ rfl
      obtain ⟨v4, y4, e4, g4, t4⟩ := hfl 4 _ rfl
      obtain ⟨v5, y5, e5, g5, t5⟩ := hfl 5 _ rfl
      obtain ⟨v6, y6, e6, g6, t6⟩ := hfl 6 _ rfl
      obtain ⟨z0, h0, _⟩ := DataW.trod_bool Try.underlying4 t0
      obtain ⟨z1, h1, _⟩ := DataW.trod_int Try.underlying3 t1
      obtain ⟨z2, h2, _⟩ := DataW.trod_int Try.underlying3 t2
      obtain ⟨z3, h3, _⟩ := DataW.trod_int Try.underlying3 t3
      obtain ⟨z4, h4, _⟩ := DataW.trod_int Try.underlying3 t4
      obtain ⟨z5, h5, _⟩ := DataW.trod_int Try.underlying3 t5
      obtain ⟨z6, h6, _⟩ := DataW.trod_int Try.underlying3 t6
      simp at h0 h1 h2 h3 h4 h5 h6
      subst h0 h1 h2 h3 h4 h5 h6
      refine ⟨⟨z0, z1, z2, z3, z4, z5, z6⟩, fun k u hu => ?_, bulk_one _⟩
      match k, hu with
      | 0, hu => simp [lv] at hu; subst hu; exact e0
      | 1, hu => simp [lv] at hu; subst hu; exact e1
      | 2, hu => simp [lv] at hu; subst hu; exact e2
      | 3, hu => simp [lv] at hu; subst hu; exact e3
      | 4, hu => simp [lv] at hu; subst hu; exact e4
      | 5, hu => simp [lv] at hu; subst hu; exact e5
      | 6, hu => simp [lv] at hu; subst hu; exact e6
      | k + 7, hu => simp [lv] at hu
    obtain ⟨ls, hll, hlp⟩ := collect l0 el
    have hs := sum_le_range D l0 ls (fun _ => 1) hll (fun i z hz => (hlp i z hz).2)
    rw [sum_one] at hs
    refine ⟨some a, l0, c0, ls, rfl, ⟨by rw [lvs_length, hll], hl, hm, (fun e => by cases e), fun ad e => ?_⟩, ?_⟩
    · injection e with e; subst e
      have hat : ∀ (i k : Nat) (l : Lk) (u : Value), ls[i]? = some l → (lv l)[k]? = some u → W.cell? (a.add (i * 7 + k)) = some u := fun i k l u hl hu => (hlp i l hl).1 k u hu
      refine ⟨fun hp => ?_, fun j u hu => ?_⟩
      · obtain ⟨l, hl0⟩ : ∃ l, ls[0]? = some l := ⟨_, List.getElem?_eq_getElem (by omega)⟩
        have := World.block_lt_of_cell? _ _ (hat 0 0 l _ hl0 rfl)
        rwa [add_block] at this
      · have hj := lvs_get ls (j / 7) (j % 7) (Nat.mod_lt _ (by decide))
        rw [show j / 7 * 7 + j % 7 = j by omega, hu] at hj
        cases hl0 : ls[j / 7]? with
        | none => rw [hl0] at hj; simp at hj
        | some l =>
          rw [hl0] at hj
          simp only [Option.bind_some] at hj
          have := hat _ _ l u hl0 hj.symm
          rwa [show j / 7 * 7 + j % 7 = j by omega] at this
    · simp only [Rows.uptoBulk]; omega


theorem slice_of_trod {H : Type} {enc : TypeId × Value → H} {W : World} {sp : Nat → Bool} {held : Bool} {t e : TypeId} {v1 : Value} {n : Nat} {y : DataW H × List MemPlace} (ht : Try.prog.underlying t = some (.slice e)) (h1 : DataW.trod enc Try.prog W 0 sp held n t [v1] = some y) : ∃ a l c, v1 = .slice a l c := by
  rcases open_slice ht h1 with ⟨h1, _⟩ | ⟨a, len, cap, m, n, D, Pl, h1, _⟩
  · simp at h1; exact ⟨_, _, _, h1⟩
  · simp at h1; exact ⟨_, _, _, h1⟩
set_option maxRecDepth 100000 in
theorem opn_rels {H : Type} {enc : TypeId × Value → H} {W : World} {b : Nat} {r : Reach} {sp : Nat → Bool} {held : Bool} {v : Value} {d : DataW H} {p : List MemPlace}
    (hv : Value.okWide Try.prog W r b 25 v) (h : DataW.Trod enc Try.prog W 0 sp held 25 v d p) :
    ∃ A n c, ∃ ls : List Lk, ∃ B m e, ∃ ts : List Int, v = .agg #[.slice A n c, .slice B m e] ∧ Rd W 7 A n c (lvs ls) ∧ Rd W 1 B m e (iv ts) ∧ (∀ z ∈ ts, (Lit.int .i64 z).wf = true) ∧ n + m + 1 ≤ Rows.uptoBulk d := by
  obtain ⟨v0, v1, y0, y1, n, rfl, rfl, rfl, h0, h1⟩ := Go.Joins.open_agg2 Try.underlying25 (by kernel_rfl) (by kernel_rfl) hv h
  obtain ⟨a0, l0, c0, rfl⟩ := slice_of_trod Try.underlying22 h0
  obtain ⟨a1, l1, c1, rfl⟩ := slice_of_trod Try.underlying23 h1
  obtain ⟨A, n0, cc, ls, e0, hz0, hb0⟩ := opn_links ⟨_, _, _, rfl⟩ ⟨n, h0⟩
  obtain ⟨B, n1, cd, zs, e1, hz1, hzl, hb1, hwf⟩ := opn_ints Try.underlying23 Try.underlying3 (by kernel_rfl) ⟨_, _, _, rfl⟩ ⟨n, h1⟩
  injection e0 with i1 i2 i3
  subst i1; subst i2; subst i3
  injection e1 with i1 i2 i3
  subst i1; subst i2; subst i3
  refine ⟨a0, l0, c0, ls, a1, l1, c1, zs, rfl, hz0, hz1, hwf, ?_⟩
  simp only [Rows.uptoBulk, Rows.uptoBulkAll]
  omega
set_option maxRecDepth 100000 in
theorem opn_at {H : Type} {enc : TypeId × Value → H} {W : World} {b : Nat} {r : Reach} {sp : Nat → Bool} {held : Bool} {v : Value} {d : DataW H} {p : List MemPlace}
    (hv : Value.okWide Try.prog W r b 34 v) (h : DataW.Trod enc Try.prog W 0 sp held 34 v d p) :
    ∃ node first : Int, v = .agg #[.int .i64 node, .int .i64 first] := by
  obtain ⟨v0, v1, y0, y1, n, rfl, rfl, rfl, h0, h1⟩ := Go.Joins.open_agg2 Try.underlying34 (by kernel_rfl) (by kernel_rfl) hv h
  obtain ⟨z0, e0, _⟩ := DataW.trod_int Try.underlying3 h0
  obtain ⟨z1, e1, _⟩ := DataW.trod_int Try.underlying3 h1
  simp at e0 e1
  subst e0; subst e1
  exact ⟨z0, z1, rfl⟩
end Go.Proofs.Ytelmnmepdmfihaa
