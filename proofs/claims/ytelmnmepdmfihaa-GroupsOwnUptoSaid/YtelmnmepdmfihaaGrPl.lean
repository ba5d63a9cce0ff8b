/-
  Layer 17, plain: a node's relationships by type and direction.
-/
import Derived.Test.YtelmnmepdmfihaaGrA
import Derived.Test.YtelmnmepdmfihaaLkPl
namespace Go.Proofs.Ytelmnmepdmfihaa

def tyOf (ts : List Int) (id : Int) : Int := (ts[id.toNat]?).getD 0
def wyOf (ls : List Lk) (node id : Int) : Nat := match ls[id.toNat]? with
  | some l => wayOf l node
  | none => 0
def pk (ls : List Lk) (ts : List Int) (node : Int) (ids : List Int) (t : Int) (k : Nat) : List Int := ids.filter fun id => decide (tyOf ts id = t ∧ wyOf ls node id = k)

def ins (t : Int) : List Int → List Int
  | [] => [t]
  | x :: r => if t < x then t :: x :: r else if t = x then x :: r else x :: ins t r
def tys (ts : List Int) (ids : List Int) : List Int := ids.foldr (fun id l => ins (tyOf ts id) l) []

/-- a type's relationships by direction -/
structure Bn where
  t : Int
  f : Nat → List Int

def bnOf (ls : List Lk) (ts : List Int) (node : Int) (ids : List Int) (t : Int) : Bn := ⟨t, pk ls ts node ids t⟩
def gath (ls : List Lk) (ts : List Int) (node : Int) : List Bn := (tys ts (incident ls node)).map (bnOf ls ts node (incident ls node))
/-- as the program has it: nothing where the lengths differ -/
def gather (ls : List Lk) (ts : List Int) (node : Int) : List Bn := if ts.length = ls.length then gath ls ts node else []

theorem wayOf_lt (l : Lk) (node : Int) : wayOf l node < 3 := by unfold wayOf; split <;> (try split) <;> omega
theorem wyOf_lt (ls : List Lk) (node id : Int) : wyOf ls node id < 3 := by
  unfold wyOf; split
  · exact wayOf_lt _ _
  · omega

theorem mem_ins (t : Int) (l : List Int) (x : Int) : x ∈ ins t l ↔ x = t ∨ x ∈ l := by
  induction l with
  | nil => simp [ins]
  | cons y r ih =>
    unfold ins
    split
    · simp
    · split
      · rename_i h; subst h; simp
      · simp only [List.mem_cons, ih]
        constructor
        · rintro (h | h | h)
          · exact .inr (.inl h)
          · exact .inl h
          · exact .inr (.inr h)
        · rintro (h | h | h)
          · exact .inr (.inl h)
          · exact .inl h
          · exact .inr (.inr h)
theorem ins_sorted (t : Int) (l : List Int) (h : l.Pairwise (· < ·)) : (ins t l).Pairwise (· < ·) := by
  induction l with
  | nil => simp [ins]
  | cons y r ih =>
    unfold ins
    obtain ⟨h1, h2⟩ := List.pairwise_cons.1 h
    split
    · rename_i hlt
      refine List.pairwise_cons.2 ⟨fun a ha => ?_, h⟩
      rcases List.mem_cons.1 ha with rfl | ha
      · exact hlt
      · have := h1 a ha; omega
    · split
      · exact h
      · refine List.pairwise_cons.2 ⟨fun a ha => ?_, ih h2⟩
        rcases (mem_ins t r a).1 ha with rfl | ha
        · omega
        · exact h1 a ha
theorem tys_sorted (ts ids : List Int) : (tys ts ids).Pairwise (· < ·) := by
  unfold tys
  induction ids with
  | nil => simp
  | cons x r ih => exact ins_sorted _ _ ih
theorem mem_tys (ts ids : List Int) (t : Int) : t ∈ tys ts ids ↔ ∃ id ∈ ids, tyOf ts id = t := by
  unfold tys
  induction ids with
  | nil => simp
  | cons x r ih =>
    rw [List.foldr_cons, mem_ins, ih]
    constructor
    · rintro (rfl | ⟨id, h1, h2⟩)
      · exact ⟨x, by simp, rfl⟩
      · exact ⟨id, by simp [h1], h2⟩
    · rintro ⟨id, h1, h2⟩
      rcases List.mem_cons.1 h1 with rfl | h1
      · exact .inl h2.symm
      · exact .inr ⟨id, h1, h2⟩

theorem sorted_unique : ∀ (l m : List Int), l.Pairwise (· < ·) → m.Pairwise (· < ·) → (∀ x, x ∈ l ↔ x ∈ m) → l = m := by
  intro l
  induction l with
  | nil =>
    intro m _ _ h
    cases m with
    | nil => rfl
    | cons y r => exact absurd ((h y).2 (by simp)) (by simp)
  | cons x r ih =>
    intro m hl hm h
    obtain ⟨h1, h2⟩ := List.pairwise_cons.1 hl
    cases m with
    | nil => exact absurd ((h x).1 (by simp)) (by simp)
    | cons y s =>
      obtain ⟨h3, h4⟩ := List.pairwise_cons.1 hm
      have hxy : x = y := by
        rcases List.mem_cons.1 ((h x).1 (by simp)) with e | e
        · exact e
        · rcases List.mem_cons.1 ((h y).2 (by simp)) with e' | e'
          · exact e'.symm
          · have a := h3 x e; have b := h1 y e'; omega
      subst hxy
      rw [ih s h2 h4 (fun z => ?_)]
      constructor
      · intro hz
        rcases List.mem_cons.1 ((h z).1 (by simp [hz])) with rfl | e
        · have := h1 z hz; omega
        · exact e
      · intro hz
        rcases List.mem_cons.1 ((h z).2 (by simp [hz])) with rfl | e
        · have := h3 z hz; omega
        · exact e
theorem tys_of (ts ids l : List Int) (h : l.Pairwise (· < ·)) (hm : ∀ t, t ∈ l ↔ ∃ id ∈ ids, tyOf ts id = t) : l = tys ts ids :=
  sorted_unique _ _ h (tys_sorted ts ids) (fun x => by rw [hm, mem_tys])

theorem pk_nil (ls : List Lk) (ts : List Int) (node t : Int) (k : Nat) : pk ls ts node [] t k = [] := rfl
theorem pk_snoc (ls : List Lk) (ts : List Int) (node : Int) (ids : List Int) (id t : Int) (k : Nat) : pk ls ts node (ids ++ [id]) t k = pk ls ts node ids t k ++ if tyOf ts id = t ∧ wyOf ls node id = k then [id] else [] := by
  unfold pk
  rw [List.filter_append]
  congr 1
  by_cases h : tyOf ts id = t ∧ wyOf ls node id = k <;> simp [h]
theorem pk_le (ls : List Lk) (ts : List Int) (node : Int) (ids : List Int) (t : Int) (k : Nat) : (pk ls ts node ids t k).length ≤ ids.length := List.length_filter_le _ _
theorem pk_none {ls : List Lk} {ts : List Int} {node : Int} {ids : List Int} {t : Int} (h : ∀ id ∈ ids, tyOf ts id ≠ t) (k : Nat) : pk ls ts node ids t k = [] := by
  unfold pk
  rw [List.filter_eq_nil_iff]
  intro a ha; simp [h a ha]
theorem mem_pk {ls : List Lk} {ts : List Int} {node : Int} {ids : List Int} {t : Int} {k : Nat} {id : Int} : id ∈ pk ls ts node ids t k ↔ id ∈ ids ∧ tyOf ts id = t ∧ wyOf ls node id = k := by
  unfold pk; rw [List.mem_filter]; simp

theorem tys_le (ts ids : List Int) : (tys ts ids).length ≤ ids.length := by
  unfold tys
  induction ids with
  | nil => simp
  | cons x r ih =>
    have : ∀ (t : Int) (l : List Int), (ins t l).length ≤ l.length + 1 := by
      intro t l
      induction l with
      | nil => simp [ins]
      | cons y s ih2 => unfold ins; split <;> (try split) <;> simp <;> omega
    have := this (tyOf ts x) (r.foldr (fun id l => ins (tyOf ts id) l) [])
    simp only [List.foldr_cons, List.length_cons]; omega

/-- every id of the list has a place -/
theorem incident_at {ls : List Lk} {node id : Int} (h : id ∈ incident ls node) : 0 ≤ id ∧ ∃ l, ls[id.toNat]? = some l ∧ l.live = true ∧ l.touches node = true := by
  unfold incident at h
  obtain ⟨j, hj, rfl⟩ := List.mem_map.1 h
  rw [List.mem_filter] at hj
  obtain ⟨h1, h2⟩ := hj
  simp at h1
  refine ⟨by simp, ls[j], by simp [h1], ?_⟩
  simp [h1] at h2
  simpa using h2
end Go.Proofs.Ytelmnmepdmfihaa
