/-
  Layer 13, plain: a chain laid id by id.
-/
import Derived.Test.YtelmnmepdmfihaaLkS
namespace Go.Proofs.Ytelmnmepdmfihaa

theorem ordE_step {ls : List Lk} {node : Int} {seen : List Int} {id : Int} {r : List Int} (h1 : tch ls node id = 0) (h2 : id ∉ seen) : ordE ls node seen (id :: r) = ordE ls node (seen ++ [id]) r := by
  simp [ordE, h1, h2]
theorem ordE_bad {ls : List Lk} {node : Int} {seen : List Int} {id : Int} {r : List Int} (h1 : tch ls node id ≠ 0) : ordE ls node seen (id :: r) = tch ls node id := by
  simp [ordE, h1]
theorem ordE_twice {ls : List Lk} {node : Int} {seen : List Int} {id : Int} {r : List Int} (h1 : tch ls node id = 0) (h2 : id ∈ seen) : ordE ls node seen (id :: r) = 7 := by
  simp [ordE, h1, h2]

theorem idxOf?_append (a b : List Int) (x : Int) : (a ++ b).idxOf? x = match a.idxOf? x with
    | some i => some i
    | none => (b.idxOf? x).map (· + a.length) := by
  induction a with
  | nil => simp
  | cons y r ih =>
    simp only [List.cons_append, List.idxOf?_cons, ih]
    split
    · rfl
    · cases h : r.idxOf? x with
      | some i => simp
      | none =>
        simp only [Option.map_none]
        cases b.idxOf? x <;> simp [Nat.add_assoc]
theorem idxOf?_one (id x : Int) : [id].idxOf? x = if id == x then some 0 else none := by
  simp [List.idxOf?_cons]
theorem idxOf?_some {l : List Int} {x : Int} {i : Nat} (h : l.idxOf? x = some i) : l[i]? = some x := by
  induction l generalizing i with
  | nil => simp at h
  | cons y r ih =>
    simp only [List.idxOf?_cons] at h
    split at h
    · rename_i hxy
      cases h
      simp at hxy
      simp [hxy]
    · cases hr : r.idxOf? x with
      | none => rw [hr] at h; simp at h
      | some k =>
        rw [hr] at h
        simp at h
        subst h
        simpa using ih hr
theorem idxOf?_none {l : List Int} {x : Int} : l.idxOf? x = none ↔ x ∉ l := by
  induction l with
  | nil => simp
  | cons y r ih =>
    simp only [List.idxOf?_cons, List.mem_cons, not_or]
    split
    · rename_i h; simp at h; simp [h]
    · rename_i h
      have h' : ¬ x = y := by intro e; exact h (by simp [e])
      rw [Option.map_eq_none_iff, ih]
      simp [h']
theorem idxOf?_nodup {l : List Int} (hn : l.Nodup) {i : Nat} {x : Int} (h : l[i]? = some x) : l.idxOf? x = some i := by
  have hm : x ∈ l := List.mem_of_getElem? h
  cases hx : l.idxOf? x with
  | none => exact absurd hm (idxOf?_none.1 hx)
  | some k =>
    have hk := idxOf?_some hx
    have hkl := (List.getElem?_eq_some_iff.1 hk).1
    have := (List.getElem?_inj (i := k) (j := i) hkl hn).1 (by rw [hk, h])
    rw [this]

/-- the first k of an order laid: one more -/
theorem layG_take (ls : List Lk) (node : Int) (ord : List Int) (k : Nat) (id : Int) (l : Lk) (hk : ord[k]? = some id) (h0 : 0 ≤ id) (hnot : id ∉ ord.take k) (hl : ls[id.toNat]? = some l) :
    (layG ls node (ord.take k) ord)[id.toNat]? = some l ∧ layG ls node (ord.take (k + 1)) ord = (layG ls node (ord.take k) ord).set id.toNat (l.put node (prevOf ord k) (nextOf ord k)) := by
  have hkl := (List.getElem?_eq_some_iff.1 hk).1
  have hid : ((id.toNat : Nat) : Int) = id := by omega
  have htl : (ord.take k).length = k := by rw [List.length_take]; omega
  refine ⟨?_, ?_⟩
  · rw [layG_get, hl, hid, idxOf?_none.2 hnot]; rfl
  · apply List.ext_getElem?
    intro j
    rw [List.getElem?_set, layG_length, layG_get, layG_get]
    have hts : ord.take (k + 1) = ord.take k ++ [id] := by rw [List.take_add_one, hk]; rfl
    rw [hts, idxOf?_append, idxOf?_one]
    by_cases hj : id.toNat = j
    · subst hj
      rw [hid, if_pos rfl, if_pos (List.getElem?_eq_some_iff.1 hl).1, hl, idxOf?_none.2 hnot]
      simp [htl]
    · rw [if_neg hj]
      have hne : ¬ (id == (j : Int)) = true := by simp; omega
      cases hx : (ord.take k).idxOf? (j : Int) with
      | some i => rfl
      | none => simp only [hne, Bool.false_eq_true, if_false, Option.map_none]

theorem layG_full (ls : List Lk) (node : Int) (a full full' : List Int) (h : ∀ i, i < a.length → prevOf full i = prevOf full' i ∧ nextOf full i = nextOf full' i) : layG ls node a full = layG ls node a full' := by
  apply List.ext_getElem?
  intro j
  rw [layG_get, layG_get]
  cases hx : a.idxOf? (j : Int) with
  | none => rfl
  | some i =>
    have := h i (List.getElem?_eq_some_iff.1 (idxOf?_some hx)).1
    simp only [this.1, this.2]

theorem put_putN (l : Lk) (node p n m : Int) : (l.put node p n).putN node m = l.put node p m := by
  unfold Lk.put Lk.putN
  split
  · split <;> simp [*]
  · simp [*]

/-- laid so far: one more at the end -/
theorem layG_snoc (ls : List Lk) (node : Int) (ord : List Int) (id : Int) (l : Lk) (hn : ord.Nodup) (h0 : 0 ≤ id) (hnot : id ∉ ord) (hl : ls[id.toNat]? = some l) (hpos : ∀ a ∈ ord, 0 ≤ a ∧ a.toNat < ls.length) :
    (layG ls node ord ord)[id.toNat]? = some l ∧
    (ord = [] → layG ls node (ord ++ [id]) (ord ++ [id]) = (layG ls node ord ord).set id.toNat (l.put node (-1) (-1))) ∧
    ∀ la, ord.getLast? = some la → ∃ lla, ((layG ls node ord ord).set id.toNat (l.put node la (-1)))[la.toNat]? = some lla ∧
      layG ls node (ord ++ [id]) (ord ++ [id]) = ((layG ls node ord ord).set id.toNat (l.put node la (-1))).set la.toNat (lla.putN node id) := by
  have hid : ((id.toNat : Nat) : Int) = id := by omega
  have hlid : id.toNat < ls.length := (List.getElem?_eq_some_iff.1 hl).1
  refine ⟨by rw [layG_get, hl, hid, idxOf?_none.2 hnot]; rfl, ?_, ?_⟩
  · rintro rfl
    have := (layG_take ls node ([] ++ [id]) 0 id l (by simp) h0 (by simp) hl).2
    simpa [prevOf, nextOf, layG_nil] using this
  · intro la hla
    have hne : ord ≠ [] := by rintro rfl; simp at hla
    have hlen : 0 < ord.length := List.length_pos_iff.2 hne
    have hlast : ord[ord.length - 1]? = some la := by rw [← getLast_at ord hne]; exact hla
    obtain ⟨p0, p1⟩ := hpos la (List.mem_of_getElem? hlast)
    have hla' : ((la.toNat : Nat) : Int) = la := by omega
    have hidla : id ≠ la := by rintro rfl; exact hnot (List.mem_of_getElem? hlast)
    have hidla' : id.toNat ≠ la.toNat := by omega
    obtain ⟨lo, hlo⟩ : ∃ lo, ls[la.toNat]? = some lo := ⟨_, List.getElem?_eq_getElem p1⟩
    have hidx : ord.idxOf? la = some (ord.length - 1) := idxOf?_nodup hn hlast
    have hlan : nextOf ord (ord.length - 1) = -1 := by unfold nextOf; rw [List.getElem?_eq_none (by omega)]; rfl
    refine ⟨lo.put node (prevOf ord (ord.length - 1)) (-1), ?_, ?_⟩
    · rw [List.getElem?_set, if_neg hidla', layG_get, hlo, hla', hidx, ← hlan]; rfl
    · rw [put_putN]
      apply List.ext_getElem?
      intro j
      rw [List.getElem?_set, List.getElem?_set, List.length_set, layG_length, layG_get, layG_get, idxOf?_append, idxOf?_one]
      by_cases hj : la.toNat = j
      · subst hj
        rw [if_pos rfl, if_pos p1, hla', hidx, hlo]
        simp only [Option.map_some]
        congr 2
        · unfold prevOf
          split
          · rfl
          · rw [List.getElem?_append_left (by omega)]
        · unfold nextOf
          rw [List.getElem?_append_right (by omega)]
          have : ord.length - 1 + 1 - ord.length = 0 := by omega
          rw [this]; rfl
      · rw [if_neg hj]
        by_cases hj2 : id.toNat = j
        · subst hj2
          rw [if_pos rfl, if_pos hlid, hid, idxOf?_none.2 hnot, hl]
          simp only [Option.map_some, beq_self_eq_true, if_true]
          congr 2
          · unfold prevOf
            rw [if_neg (by omega), List.getElem?_append_left (by omega), Nat.zero_add, hlast]
            rfl
          · unfold nextOf
            rw [List.getElem?_eq_none (by simp)]
            rfl
        · rw [if_neg hj2]
          have hne2 : ¬ (id == (j : Int)) = true := by simp; omega
          cases hx : ord.idxOf? (j : Int) with
          | none => simp only [hne2, Bool.false_eq_true, if_false, Option.map_none]
          | some i =>
            have hi := idxOf?_some hx
            have hil := (List.getElem?_eq_some_iff.1 hi).1
            have hil2 : i ≠ ord.length - 1 := by
              rintro rfl
              rw [hlast] at hi
              injection hi with hi
              omega
            cases ls[j]? with
            | none => rfl
            | some lj =>
              simp only [Option.map_some]
              congr 2
              · unfold prevOf
                split
                · rfl
                · rw [List.getElem?_append_left (by omega)]
              · unfold nextOf
                rw [List.getElem?_append_left (by omega)]
end Go.Proofs.Ytelmnmepdmfihaa
