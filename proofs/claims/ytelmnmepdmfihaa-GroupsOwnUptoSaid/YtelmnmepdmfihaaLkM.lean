/-
  Layer 13: relationships in memory.
-/
import Derived.Test.YtelmnmepdmfihaaMem
import Derived.Test.YtelmnmepdmfihaaLkT
import Derived.Test.YtelmnmepdmfihaaRows
import Derived.Deep.QuietTactic
import Derived.BigQuiet
namespace Go.Proofs.Ytelmnmepdmfihaa
open Go.RowKit

def lv (l : Lk) : List Value := [.bool l.live, .int .i64 l.src, .int .i64 l.dst, .int .i64 l.sp, .int .i64 l.tp, .int .i64 l.sn, .int .i64 l.tn]
def lvs (ls : List Lk) : List Value := ls.flatMap lv
theorem lvs_length (ls : List Lk) : (lvs ls).length = ls.length * 7 := by
  induction ls with
  | nil => rfl
  | cons l r ih => simp only [lvs, List.flatMap_cons, List.length_append, List.length_cons] at ih ⊢; rw [ih]; simp [lv]; omega
theorem lvs_get (ls : List Lk) (j k : Nat) (hk : k < 7) : (lvs ls)[j * 7 + k]? = (ls[j]?).bind fun l => (lv l)[k]? := by
  induction ls generalizing j with
  | nil => simp [lvs]
  | cons l r ih =>
    simp only [lvs, List.flatMap_cons]
    cases j with
    | zero =>
      rw [List.getElem?_append_left (by simp [lv]; omega)]
      simp
    | succ j =>
      rw [List.getElem?_append_right (by simp [lv]; omega)]
      have : (j + 1) * 7 + k - (lv l).length = j * 7 + k := by simp [lv]; omega
      rw [this]
      simpa [lvs] using ih j
theorem lvs_one (ls : List Lk) : ∀ u ∈ lvs ls, u.oneCell' = true := by
  intro u hu
  obtain ⟨l, _, h⟩ := List.mem_flatMap.1 hu
  simp only [lv, List.mem_cons, List.mem_nil_iff, or_false] at h
  rcases h with rfl | rfl | rfl | rfl | rfl | rfl | rfl <;> rfl
theorem lvs_set (ls : List Lk) (j k : Nat) (hk : k < 7) (l l' : Lk) (v : Value) (hj : ls[j]? = some l) (h : lv l' = (lv l).set k v) : (lvs ls).set (j * 7 + k) v = lvs (ls.set j l') := by
  induction ls generalizing j with
  | nil => simp at hj
  | cons x r ih =>
    simp only [lvs, List.flatMap_cons]
    cases j with
    | zero =>
      simp at hj
      subst hj
      rw [List.set_append_left _ _ (by simp [lv]; omega)]
      simp [h]
    | succ j =>
      rw [List.set_append_right _ _ (by simp [lv]; omega)]
      have : (j + 1) * 7 + k - (lv x).length = j * 7 + k := by simp [lv]; omega
      rw [this]
      have := ih j (by simpa using hj)
      simp only [lvs] at this
      simp [this]
theorem lvs_append (a b : List Lk) : lvs (a ++ b) = lvs a ++ lvs b := by simp [lvs]

/-- at p the relationship l stands -/
structure LkAt (w : World) (p : Addr) (l : Lk) : Prop where
  c0 : w.cell? p = some (.bool l.live)
  c1 : w.cell? ⟨p.block, p.off + 1, none⟩ = some (.int .i64 l.src)
  c2 : w.cell? ⟨p.block, p.off + 2, none⟩ = some (.int .i64 l.dst)
  c3 : w.cell? ⟨p.block, p.off + 3, none⟩ = some (.int .i64 l.sp)
  c4 : w.cell? ⟨p.block, p.off + 4, none⟩ = some (.int .i64 l.tp)
  c5 : w.cell? ⟨p.block, p.off + 5, none⟩ = some (.int .i64 l.sn)
  c6 : w.cell? ⟨p.block, p.off + 6, none⟩ = some (.int .i64 l.tn)

theorem LkAt.chg {w w' : World} {p : Addr} {l : Lk} {L : List Nat} (h : LkAt w p l) (hc : Chg L w w') (hn : p.block ∉ L) : LkAt w' p l :=
  ⟨hc.cell h.c0 hn, hc.cell h.c1 hn, hc.cell h.c2 hn, hc.cell h.c3 hn, hc.cell h.c4 hn, hc.cell h.c5 hn, hc.cell h.c6 hn⟩

theorem Rd.lk {w : World} {A : Option Addr} {n c : Nat} {ls : List Lk} (h : Rd w 7 A n c (lvs ls)) {j : Nat} {l : Lk} (hj : ls[j]? = some l) : ∃ ad, A = some ad ∧ LkAt w (ad.add (j * 7)) l := by
  have hl : ls.length = n := by have := h.1; rw [lvs_length] at this; omega
  have hjn : j < n := by have := (List.getElem?_eq_some_iff.1 hj).1; omega
  obtain ⟨ad, rfl, _⟩ := h.some_ (by omega)
  refine ⟨ad, rfl, ?_⟩
  have hc : ∀ k, k < 7 → ∀ u, (lv l)[k]? = some u → w.cell? (ad.add (j * 7 + k)) = some u := fun k hk u hu => (h.2.2.2.2 ad rfl).2 _ u (by rw [lvs_get _ _ _ hk, hj]; exact hu)
  have hf : ∀ k, k < 6 → ∀ u, (lv l)[k + 1]? = some u → w.cell? ⟨(ad.add (j * 7)).block, (ad.add (j * 7)).off + (k + 1), none⟩ = some u := fun k hk u hu => by
    rw [← add_field]; exact hc (k + 1) (by omega) u hu
  exact ⟨hc 0 (by omega) _ rfl, hf 0 (by omega) _ rfl, hf 1 (by omega) _ rfl, hf 2 (by omega) _ rfl, hf 3 (by omega) _ rfl, hf 4 (by omega) _ rfl, hf 5 (by omega) _ rfl⟩

/-- a relationship of an owned list: where it stands, and what a store does -/
theorem Own.lk {w : World} {e : TypeId} {A : Option Addr} {n c : Nat} {ls : List Lk} (h : Own w e 7 A n c (lvs ls)) {j : Nat} {l : Lk} (hj : ls[j]? = some l) :
    ∃ g, A = some ⟨g, 0, none⟩ ∧ LkAt w ⟨g, j * 7, none⟩ l ∧ (∀ k, w.frozen? ⟨g, k, none⟩ = false) ∧
      ∀ k v l', k < 7 → lv l' = (lv l).set k v → Own (w.setCell ⟨g, j * 7 + k, none⟩ v) e 7 A n c (lvs (ls.set j l')) := by
  obtain ⟨ad, hA, hat⟩ := h.rd.lk hj
  rcases h.form with ⟨rfl, rfl, rfl, _⟩ | ⟨g, cur, hA', hb, hn, hm, hs, ht⟩
  · cases hA
  · subst hA'
    injection hA with hA; subst hA
    rw [add_zero', Nat.zero_add] at hat
    refine ⟨g, rfl, hat, fun k => hb.frozen k, fun k v l' hk hl' => ?_⟩
    rw [← lvs_set ls j k hk l l' v hj hl', ← ht]
    refine ⟨by rw [List.length_set, List.length_take]; simp only [Array.length_toList, hs]; exact Nat.min_eq_left (Nat.mul_le_mul_right _ hn), .inr ⟨g, c, _, rfl, Nat.zero_le _, hb.set_ _ v, hn, hm, by rw [Array.size_setIfInBounds]; exact hs, ?_⟩⟩
    rw [Array.toList_setIfInBounds, List.take_set]

theorem etyLinks : Ety Try.prog 22 55 7 56 (.agg #[.bool false, .int .i64 0, .int .i64 0, .int .i64 0, .int .i64 0, .int .i64 0, .int .i64 0]) := .mk' Try.underlying22 (by kernel_rfl) rfl (by decide)
theorem etyInts : Ety Try.prog 23 3 1 8 (.int .i64 0) := .mk' Try.underlying23 (by kernel_rfl) rfl (by decide)
abbrev iv (zs : List Int) : List Value := zs.map (Value.int .i64)
theorem iv_one (zs : List Int) : ∀ u ∈ iv zs, u.oneCell' = true := ints_oneCell _ _
theorem one_int (k : IntKind) (x : Int) : ∀ u ∈ (#[Value.int k x] : Array Value).toList, u.oneCell' = true := by simp [Value.oneCell']
theorem rd_int {w : World} {k : IntKind} {A : Option Addr} {n c : Nat} {zs : List Int} (h : Rd w 1 A n c (zs.map (Value.int k))) {j : Nat} (hj : j < n) :
    ∃ ad x, A = some ad ∧ zs[j]? = some x ∧ w.cell? (ad.add j) = some (.int k x) := by
  obtain ⟨ad, u, h1, h2, h3⟩ := h.at1 hj
  rw [List.getElem?_map] at h2
  cases hz : zs[j]? with
  | none => rw [hz] at h2; cases h2
  | some x => rw [hz] at h2; simp at h2; subst h2; exact ⟨ad, x, h1, rfl, h3⟩
theorem take_snoc {α : Type} (l : List α) (k : Nat) (x : α) (h : l[k]? = some x) : l.take (k + 1) = l.take k ++ [x] := by
  rw [List.take_add_one, h]; rfl

/-- a slice in new memory is told -/
def NewRow (e : TypeId) (sz : Nat) (w : World) (xs : List Value) (n : Nat) (en : Ending) (w' : World) : Prop :=
  ∃ A c, en = .returned (.slice A n c) ∧ Own w' e sz A n c xs ∧ Chg [] w w' ∧ ∀ k ∈ bo A, w.heap.size ≤ k

set_option maxHeartbeats 800000 in
theorem touches_any (l : Lk) (node : Int) (w : World) : Calls Try.prog 39 #[.agg #[.bool l.live, .int .i64 l.src, .int .i64 l.dst, .int .i64 l.sp, .int .i64 l.tp, .int .i64 l.sn, .int .i64 l.tn], .int .i64 node] w
    fun e w' => e = .returned (.bool (l.touches node)) ∧ Chg [] w w' := by
  by_cases h : l.src = node
  · have h1 : (l.src == node) = true := by simp [h]
    have HT : Hid (l.touches node = true) := Lib.hid (by simp [Lk.touches, h])
    clear h
    go_enter Try.func39, Try.ntmps39
    go_wp2
    go_ret
    exact ⟨by rw [HT.out]; rfl, (Chg.refl _ _).alloc _⟩
  · have h1 : (l.src == node) = false := by simp [h]
    have HT : Hid (l.touches node = (l.dst == node)) := Lib.hid (by simp [Lk.touches, h1])
    clear h
    go_enter Try.func39, Try.ntmps39
    go_wp2
    go_ret
    exact ⟨by rw [HT.out]; rfl, (Chg.refl _ _).alloc _⟩

set_option maxHeartbeats 1600000 in
theorem find_any (A : Option Addr) (n c : Nat) (ls : List Lk) (node id : Int) (w : World) (hrd : Rd w 7 A n c (lvs ls)) :
    Calls Try.prog 43 #[.slice A n c, .int .i64 node, .int .i64 id] w fun e w' => e = .returned (.int .i64 (tch ls node id)) ∧ Chg [] w w' := by
  have hl : ls.length = n := by have := hrd.1; rw [lvs_length] at this; omega
  by_cases h0 : id < 0
  · have HT : Hid (tch ls node id = 3) := Lib.hid (by simp [tch, h0])
    clear hl
    go_enter Try.func43, Try.ntmps43
    go_wp2
    go_ret
    exact ⟨by rw [HT.out]; rfl, Chg.refl _ _⟩
  · obtain ⟨j, rfl⟩ := Int.eq_ofNat_of_zero_le (show 0 ≤ id by omega)
    by_cases hjn : j < n
    · obtain ⟨l, hj⟩ : ∃ l, ls[j]? = some l := ⟨_, List.getElem?_eq_getElem (by omega)⟩
      obtain ⟨ad, rfl, hat⟩ := hrd.lk hj
      obtain ⟨c0, c1, c2, c3, c4, c5, c6⟩ := hat
      have q0 : (0 : Int) ≤ j := by omega
      have q1 : ¬ ((j : Int) < 0) := by omega
      have q2 : ¬ ((n : Int) ≤ j) := by omega
      cases hv : l.live with
      | false =>
        have HT : Hid (tch ls node j = 3) := Lib.hid (by simp [tch, q1, hj, hv])
        rw [hv] at c0
        clear hl h0 hj hv
        go_enter Try.func43, Try.ntmps43
        go_wp2
        go_ret
        exact ⟨by rw [HT.out]; rfl, Chg.refl _ _⟩
      | true =>
        have HT : Hid (tch ls node j = if l.touches node then 0 else 65) := Lib.hid (by simp [tch, q1, hj, hv])
        rw [hv] at c0
        have HV := Lib.hid hv
        clear hl h0 hj hv
        go_enter Try.func43, Try.ntmps43
        go_wp2_with fail
        have ht := touches_any l node w
        rw [HV.out] at ht
        refine ht.mono ?_
        rintro e w1 ⟨rfl, hc1⟩
        have HTT := HT.out
        cases htt : l.touches node with
        | true =>
          rw [htt] at HTT
          clear ht htt
          go_wp2
          go_ret
          exact ⟨by rw [HTT]; rfl, hc1⟩
        | false =>
          rw [htt] at HTT
          clear ht htt
          go_wp2
          go_ret
          exact ⟨by rw [HTT]; rfl, hc1⟩
    · have HT : Hid (tch ls node j = 3) := Lib.hid (by
        simp only [tch]
        rw [if_neg (by omega), List.getElem?_eq_none (by simp; omega)])
      clear hl
      go_enter Try.func43, Try.ntmps43
      go_wp2
      go_ret
      exact ⟨by rw [HT.out]; rfl, Chg.refl _ _⟩
end Go.Proofs.Ytelmnmepdmfihaa
