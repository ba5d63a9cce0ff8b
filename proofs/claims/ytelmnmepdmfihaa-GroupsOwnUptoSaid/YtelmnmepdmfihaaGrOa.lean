/-
  Layer 17: bunches that are written over: what stands in memory.
-/
import Derived.Test.YtelmnmepdmfihaaGrD
import Derived.Test.YtelmnmepdmfihaaGrN
namespace Go.Proofs.Ytelmnmepdmfihaa
open Go.RowKit

theorem rows_set (rs : List (Int × B3)) (i k : Nat) (hk : k < 3) (p : Int × B3) (hp : rs[i]? = some p) (A : Option Addr) (n c : Nat) :
    rows (rs.set i (p.1, p.2.set k A n c)) = (rows rs).set (i * 4 + (k + 1)) (.slice A n c) := by
  induction rs generalizing i with
  | nil => simp at hp
  | cons q rs ih =>
    cases i with
    | zero =>
      simp at hp
      subst hp
      rcases (by omega : k = 0 ∨ k = 1 ∨ k = 2) with rfl | rfl | rfl <;> simp [rows, B3.cs, B3.set, B3.sl]
    | succ i =>
      simp only [List.getElem?_cons_succ] at hp
      have h1 : rows ((q :: rs).set (i + 1) (p.1, p.2.set k A n c)) = q.2.cs q.1 ++ rows (rs.set i (p.1, p.2.set k A n c)) := by simp [rows]
      have h2 : rows (q :: rs) = q.2.cs q.1 ++ rows rs := by simp [rows]
      rw [h1, ih i hp, h2, List.set_append_right _ _ (by simp [B3.cs]; omega)]
      simp only [B3.cs, List.length_cons, List.length_nil]
      rw [show (i + 1) * 4 + (k + 1) - (0 + 1 + 1 + 1 + 1) = i * 4 + (k + 1) by omega]

theorem Own.setq {w : World} {e : TypeId} {sz g n c : Nat} {xs : List Value} (h : Own w e sz (some ⟨g, 0, none⟩) n c xs) (q : Nat) (v : Value) : Own (w.setCell ⟨g, q, none⟩ v) e sz (some ⟨g, 0, none⟩) n c (xs.set q v) := by
  rcases h.form with ⟨h1, _⟩ | ⟨g', cur, hA', hb, hn, hm, hs, ht⟩
  · cases h1
  · injection hA' with hA
    injection hA with hA
    subst hA
    exact ⟨by rw [List.length_set]; exact h.1, .inr ⟨g, c, _, rfl, Nat.zero_le _, hb.set_ q v, hn, hm, by rw [Array.size_setIfInBounds]; exact hs, by
      rw [← ht, Array.toList_setIfInBounds, List.take_set]⟩⟩
theorem Own.fzq {w : World} {e : TypeId} {sz g n c : Nat} {xs : List Value} (h : Own w e sz (some ⟨g, 0, none⟩) n c xs) (q : Nat) : w.frozen? ⟨g, q, none⟩ = false := by
  rcases h.form with ⟨h1, _⟩ | ⟨g', cur, hA', hb, _⟩
  · cases h1
  · injection hA' with hA
    injection hA with hA
    subst hA
    exact hb.frozen q

/-- bunches that are written over: their rows, what the slices hold, all in blocks of La or new since w0 -/
structure AO (La : List Nat) (w0 w : World) (A : Option Addr) (n c : Nat) (rs : List (Int × B3)) (vs : Nat → Nat → List Value) : Prop where
  own : Own w 52 4 A n c (rows rs)
  len : rs.length = n
  row : ∀ (i : Nat) (p : Int × B3), rs[i]? = some p → ∀ k, k < 3 → Own w 3 1 (p.2.A k) (p.2.n k) (p.2.c k) (vs i k)
  sep : Sep rs
  inA : ∀ x ∈ bo A, x ∈ La ∨ w0.heap.size ≤ x
  in3 : ∀ (i : Nat) (p : Int × B3), rs[i]? = some p → ∀ k, k < 3 → ∀ x ∈ bo (p.2.A k), x ∈ La ∨ w0.heap.size ≤ x
  chg : Chg La w0 w

section
variable {La : List Nat} {w0 w : World} {A : Option Addr} {n c : Nat} {rs : List (Int × B3)} {vs : Nat → Nat → List Value}
theorem AO.chg0 {w' : World} (h : AO La w0 w A n c rs vs) (hc : Chg [] w w') : AO La w0 w' A n c rs vs :=
  ⟨h.own.chg hc (fun _ _ => List.not_mem_nil), h.len, fun i p hp k hk => (h.row i p hp k hk).chg hc (fun _ _ => List.not_mem_nil), h.sep, h.inA, h.in3, h.chg.trans0 hc⟩

theorem AO.wr (h : AO La w0 w A n c rs vs) {i k q : Nat} {p : Int × B3} {ad : Addr} {u : Value} (hp : rs[i]? = some p) (hk : k < 3) (ha : p.2.A k = some ad)
    (hset : Own (w.setCell (ad.add q) u) 3 1 (p.2.A k) (p.2.n k) (p.2.c k) ((vs i k).set q u)) : AO La w0 (w.setCell (ad.add q) u) A n c rs (fun i' k' => if i' = i ∧ k' = k then (vs i k).set q u else vs i' k') := by
  have hb : bo (p.2.A k) = [ad.block] := by rw [ha]; rfl
  have hc : Chg (bo (p.2.A k)) w (w.setCell (ad.add q) u) := (Chg.refl _ _).setCell (.inl (by rw [hb, add_block]; simp)) _
  refine ⟨h.own.chg hc (h.own.own_ne (h.row i p hp k hk) (by decide)), h.len, fun i' p' hp' k' hk' => ?_, h.sep, h.inA, h.in3, h.chg.trans hc (h.in3 i p hp k hk)⟩
  by_cases hh : i' = i ∧ k' = k
  · obtain ⟨rfl, rfl⟩ := hh
    rw [hp] at hp'
    injection hp' with hp'
    subst hp'
    simp only [and_self, if_true]
    exact hset
  · rw [if_neg hh]
    exact (h.row i' p' hp' k' hk').chg hc (fun x hx hm => hh (h.sep i' i p' p hp' hp k' k hk' hk x hx hm))

theorem AO.app {g : Nat} (h : AO La w0 w (some ⟨g, 0, none⟩) n c rs vs) {w1 : World} {i k : Nat} {p : Int × B3} {A' : Option Addr} {n' c' : Nat} {xs' : List Value} (hp : rs[i]? = some p) (hk : k < 3)
    (hown : Own w1 3 1 A' n' c' xs') (hchg : Chg (bo (p.2.A k)) w w1) (hnew : ∀ x ∈ bo A', x ∈ bo (p.2.A k) ∨ (w.heap.size ≤ x ∧ x < w1.heap.size)) :
    AO La w0 (w1.setCell ⟨g, i * 4 + (k + 1), none⟩ (.slice A' n' c')) (some ⟨g, 0, none⟩) n c (rs.set i (p.1, p.2.set k A' n' c')) (fun i' k' => if i' = i ∧ k' = k then xs' else vs i' k') := by
  have ho1 := h.own.chg hchg (h.own.own_ne (h.row i p hp k hk) (by decide))
  have ho2 := ho1.setq (i * 4 + (k + 1)) (.slice A' n' c')
  have hcs : Chg (bo (some (⟨g, 0, none⟩ : Addr))) w1 (w1.setCell ⟨g, i * 4 + (k + 1), none⟩ (.slice A' n' c')) := (Chg.refl _ _).setCell (.inl (by simp [bo])) _
  have hil : i < rs.length := (List.getElem?_eq_some_iff.1 hp).1
  have hat : ∀ (i' : Nat) (p' : Int × B3), (rs.set i (p.1, p.2.set k A' n' c'))[i']? = some p' → (i' = i ∧ p' = (p.1, p.2.set k A' n' c')) ∨ (i' ≠ i ∧ rs[i']? = some p') := by
    intro i' p' h'
    by_cases e : i' = i
    · subst e
      rw [List.getElem?_set_self hil] at h'
      injection h' with h'
      exact .inl ⟨rfl, h'.symm⟩
    · rw [List.getElem?_set_ne (fun h => e h.symm)] at h'
      exact .inr ⟨e, h'⟩
  have hlt : ∀ (i' : Nat) (p' : Int × B3), rs[i']? = some p' → ∀ k', k' < 3 → ∀ x ∈ bo (p'.2.A k'), x < w.heap.size := fun i' p' hp' k' hk' => (h.row i' p' hp' k' hk').lt
  have hblk : ∀ (i' : Nat) (p' : Int × B3), (rs.set i (p.1, p.2.set k A' n' c'))[i']? = some p' → ∀ k', k' < 3 → (i' = i ∧ k' = k ∧ p'.2.A k' = A') ∨ (¬ (i' = i ∧ k' = k) ∧ ∃ p0, rs[i']? = some p0 ∧ p'.2.A k' = p0.2.A k' ∧ p'.2.n k' = p0.2.n k' ∧ p'.2.c k' = p0.2.c k') := by
    intro i' p' h' k' hk'
    rcases hat i' p' h' with ⟨rfl, rfl⟩ | ⟨hne, h2⟩
    · by_cases e : k' = k
      · subst e; exact .inl ⟨rfl, rfl, by simp [B3.set]⟩
      · exact .inr ⟨fun hh => e hh.2, p, hp, by simp [B3.set, e], by simp [B3.set, e], by simp [B3.set, e]⟩
    · exact .inr ⟨fun hh => hne hh.1, p', h2, rfl, rfl, rfl⟩
  refine ⟨by rw [rows_set rs i k hk p hp]; exact ho2, by rw [List.length_set]; exact h.len, fun i' p' hp' k' hk' => ?_, fun i' j' p' q' hp' hq' k' l' hk' hl' x hx hx2 => ?_, h.inA, fun i' p' hp' k' hk' x hx => ?_, (h.chg.trans hchg (h.in3 i p hp k hk)).trans hcs h.inA⟩
  · by_cases hh : i' = i ∧ k' = k
    · rw [if_pos hh]
      obtain ⟨rfl, rfl⟩ := hh
      rcases hat i' p' hp' with ⟨_, rfl⟩ | ⟨hne, _⟩
      · simp only [B3.set, if_true]
        exact hown.chg hcs (hown.own_ne ho1 (by decide))
      · exact absurd rfl hne
    · rw [if_neg hh]
      rcases hblk i' p' hp' k' hk' with ⟨h1, h2, _⟩ | ⟨_, p0, hp0, e1, e2, e3⟩
      · exact absurd ⟨h1, h2⟩ hh
      · rw [e1, e2, e3]
        have q1 := (h.row i' p0 hp0 k' hk').chg hchg (fun x hx hm => hh (h.sep i' i p0 p hp0 hp k' k hk' hk x hx hm))
        exact q1.chg hcs (q1.own_ne ho1 (by decide))
  · rcases hblk i' p' hp' k' hk' with ⟨h1, h2, h3⟩ | ⟨hh, p0, hp0, e1, _⟩
    · rcases hblk j' q' hq' l' hl' with ⟨h4, h5, h6⟩ | ⟨hh', q0, hq0, f1, _⟩
      · exact ⟨h1.trans h4.symm, h2.trans h5.symm⟩
      · rw [h3] at hx; rw [f1] at hx2
        rcases hnew x hx with h7 | ⟨h7, _⟩
        · have := h.sep j' i q0 p hq0 hp l' k hl' hk x hx2 h7
          exact absurd this hh'
        · have := hlt j' q0 hq0 l' hl' x hx2; omega
    · rcases hblk j' q' hq' l' hl' with ⟨h4, h5, h6⟩ | ⟨hh', q0, hq0, f1, _⟩
      · rw [e1] at hx; rw [h6] at hx2
        rcases hnew x hx2 with h7 | ⟨h7, _⟩
        · have := h.sep i' i p0 p hp0 hp k' k hk' hk x hx h7
          exact absurd this hh
        · have := hlt i' p0 hp0 k' hk' x hx; omega
      · rw [e1] at hx; rw [f1] at hx2
        exact h.sep i' j' p0 q0 hp0 hq0 k' l' hk' hl' x hx hx2
  · rcases hblk i' p' hp' k' hk' with ⟨_, _, h3⟩ | ⟨_, p0, hp0, e1, _⟩
    · rw [h3] at hx
      rcases hnew x hx with h7 | ⟨h7, _⟩
      · exact h.in3 i p hp k hk x h7
      · exact .inr (Nat.le_trans h.chg.size h7)
    · rw [e1] at hx
      exact h.in3 i' p0 hp0 k' hk' x hx
end
end Go.Proofs.Ytelmnmepdmfihaa
