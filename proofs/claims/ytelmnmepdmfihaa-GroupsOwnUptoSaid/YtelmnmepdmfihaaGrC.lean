/-
  Layer 17: bins and bunches in memory.
-/
import Derived.Test.YtelmnmepdmfihaaGrK
import Derived.Test.YtelmnmepdmfihaaGrB
namespace Go.Proofs.Ytelmnmepdmfihaa
open Go.RowKit

/-- three slices -/
structure B3 where
  A : Nat → Option Addr
  n : Nat → Nat
  c : Nat → Nat
def B3.nil : B3 := ⟨fun _ => none, fun _ => 0, fun _ => 0⟩
def B3.sl (b : B3) (i : Nat) : Value := .slice (b.A i) (b.n i) (b.c i)
def B3.arr (b : B3) : Value := .agg #[b.sl 0, b.sl 1, b.sl 2]
def B3.cs (b : B3) (t : Int) : List Value := [.int .i64 t, b.sl 0, b.sl 1, b.sl 2]
def B3.set (b : B3) (k : Nat) (A : Option Addr) (n c : Nat) : B3 := ⟨fun i => if i = k then A else b.A i, fun i => if i = k then n else b.n i, fun i => if i = k then c else b.c i⟩
theorem b3_at (b : B3) (k : Nat) (h : k < 3) : (#[b.sl 0, b.sl 1, b.sl 2] : Array Value)[k]? = some (.slice (b.A k) (b.n k) (b.c k)) := by
  rcases (by omega : k = 0 ∨ k = 1 ∨ k = 2) with rfl | rfl | rfl <;> rfl
def rows (rs : List (Int × B3)) : List Value := rs.flatMap fun p => p.2.cs p.1

theorem rows_length (rs : List (Int × B3)) : (rows rs).length = rs.length * 4 := by
  induction rs with
  | nil => rfl
  | cons p r ih => simp only [rows, List.flatMap_cons, List.length_append, List.length_cons] at ih ⊢; rw [ih]; simp [B3.cs]; omega
theorem rows_append (a b : List (Int × B3)) : rows (a ++ b) = rows a ++ rows b := by simp [rows]
theorem rows_get (rs : List (Int × B3)) (j k : Nat) (hk : k < 4) : (rows rs)[j * 4 + k]? = (rs[j]?).bind fun p => (p.2.cs p.1)[k]? := by
  induction rs generalizing j with
  | nil => simp [rows]
  | cons p r ih =>
    simp only [rows, List.flatMap_cons]
    cases j with
    | zero =>
      rw [List.getElem?_append_left (by simp [B3.cs]; omega)]
      simp
    | succ j =>
      rw [List.getElem?_append_right (by simp [B3.cs]; omega)]
      have : (j + 1) * 4 + k - (p.2.cs p.1).length = j * 4 + k := by simp [B3.cs]; omega
      rw [this]
      simpa [rows] using ih j
theorem rows_one (rs : List (Int × B3)) : ∀ u ∈ rows rs, u.oneCell' = true := by
  intro u hu
  obtain ⟨p, _, h⟩ := List.mem_flatMap.1 hu
  simp only [B3.cs, B3.sl, List.mem_cons, List.mem_nil_iff, or_false] at h
  rcases h with rfl | rfl | rfl | rfl <;> rfl

/-- the three slices are owned and read as f -/
def Own3 (w : World) (b : B3) (f : Nat → List Int) : Prop := ∀ i, i < 3 → Own w 3 1 (b.A i) (b.n i) (b.c i) (iv (f i))
def Rd3 (w : World) (b : B3) (f : Nat → List Int) : Prop := ∀ i, i < 3 → Rd w 1 (b.A i) (b.n i) (b.c i) (iv (f i))
theorem Own3.rd {w : World} {b : B3} {f : Nat → List Int} (h : Own3 w b f) : Rd3 w b f := fun i hi => (h i hi).rd
theorem Own3.nil (w : World) (f : Nat → List Int) (h : ∀ i, f i = []) : Own3 w B3.nil f := fun i _ => by rw [h i]; exact Own.nil w _ _
theorem own_len {w : World} {e : TypeId} {A : Option Addr} {n c : Nat} {zs : List Int} (h : Own w e 1 A n c (iv zs)) : zs.length = n := by have := h.1; simp at this; omega
theorem rd_len {w : World} {A : Option Addr} {n c : Nat} {zs : List Int} (h : Rd w 1 A n c (iv zs)) : zs.length = n := by have := h.1; simp at this; omega
theorem Own3.chg {w w' : World} {b : B3} {f : Nat → List Int} {L : List Nat} (h : Own3 w b f) (hc : Chg L w w') (hn : ∀ i, i < 3 → ∀ x ∈ bo (b.A i), x ∉ L) : Own3 w' b f := fun i hi => (h i hi).chg hc (hn i hi)
theorem Rd3.chg {w w' : World} {b : B3} {f : Nat → List Int} {L : List Nat} (h : Rd3 w b f) (hc : Chg L w w') (hn : ∀ i, i < 3 → ∀ x ∈ bo (b.A i), x ∉ L) : Rd3 w' b f := fun i hi => (h i hi).chg hc (hn i hi)

/-- all slices of a list of rows stand in blocks of their own -/
def Sep (rs : List (Int × B3)) : Prop := ∀ (i j : Nat) (p q : Int × B3), rs[i]? = some p → rs[j]? = some q → ∀ k l, k < 3 → l < 3 → ∀ x ∈ bo (p.2.A k), x ∈ bo (q.2.A l) → i = j ∧ k = l

/-- bunches in memory, for reading -/
def BRd (w : World) (A : Option Addr) (n c : Nat) (bs : List Bn) : Prop := ∃ rs : List (Int × B3), Rd w 4 A n c (rows rs) ∧ rs.length = bs.length ∧ ∀ (i : Nat) (p : Int × B3) (b : Bn), rs[i]? = some p → bs[i]? = some b → p.1 = b.t ∧ Rd3 w p.2 b.f
/-- bunches in memory of the call's own, new since w0 -/
structure BOwn (w0 w : World) (A : Option Addr) (n c : Nat) (rs : List (Int × B3)) (bs : List Bn) : Prop where
  own : Own w 52 4 A n c (rows rs)
  len : rs.length = bs.length
  row : ∀ (i : Nat) (p : Int × B3) (b : Bn), rs[i]? = some p → bs[i]? = some b → p.1 = b.t ∧ Own3 w p.2 b.f
  sep : Sep rs
  newA : ∀ x ∈ bo A, w0.heap.size ≤ x
  new3 : ∀ p ∈ rs, ∀ k, k < 3 → ∀ x ∈ bo (p.2.A k), w0.heap.size ≤ x
theorem BOwn.brd {w0 w : World} {A : Option Addr} {n c : Nat} {rs : List (Int × B3)} {bs : List Bn} (h : BOwn w0 w A n c rs bs) : BRd w A n c bs :=
  ⟨rs, h.own.rd, h.len, fun i p b hp hb => ⟨(h.row i p b hp hb).1, (h.row i p b hp hb).2.rd⟩⟩
theorem BRd.chg {w w' : World} {A : Option Addr} {n c : Nat} {bs : List Bn} (h : BRd w A n c bs) {B : Nat} (hc : Below B w w') (hB : w.heap.size ≤ B) : BRd w' A n c bs := by
  have hch : Chg [] w w' := Chg.of_below ⟨hc.os, hc.tape, hc.output, hc.size, fun k hk => hc.block k (by omega)⟩ []
  obtain ⟨rs, h1, h2, h3⟩ := h
  exact ⟨rs, h1.chg hch (by simp), h2, fun i p b hp hb => ⟨(h3 i p b hp hb).1, (h3 i p b hp hb).2.chg hch (by simp)⟩⟩
theorem BRd.chg0 {w w' : World} {A : Option Addr} {n c : Nat} {bs : List Bn} (h : BRd w A n c bs) (hch : Chg [] w w') : BRd w' A n c bs := by
  obtain ⟨rs, h1, h2, h3⟩ := h
  exact ⟨rs, h1.chg hch (by simp), h2, fun i p b hp hb => ⟨(h3 i p b hp hb).1, (h3 i p b hp hb).2.chg hch (by simp)⟩⟩
/-- carried past a call that changes old blocks L alone, none of ours -/
theorem BOwn.chg {w0 w w' : World} {A : Option Addr} {n c : Nat} {rs : List (Int × B3)} {bs : List Bn} {L : List Nat} (h : BOwn w0 w A n c rs bs) (hc : Chg L w w') (hL : ∀ x ∈ L, x < w0.heap.size ∨ w.heap.size ≤ x) : BOwn w0 w' A n c rs bs := by
  refine ⟨h.own.chg hc (fun k hk hm => ?_), h.len, fun i p b hp hb => ⟨(h.row i p b hp hb).1, (h.row i p b hp hb).2.chg hc (fun k hk x hx hm => ?_)⟩, h.sep, h.newA, h.new3⟩
  · have h1 := h.newA k hk
    have h2 := h.own.lt k hk
    rcases hL k hm with h3 | h3 <;> omega
  · have h1 := h.new3 p (List.mem_of_getElem? hp) k hk x hx
    have h2 := ((h.row i p b hp hb).2 k hk).lt x hx
    rcases hL x hm with h3 | h3 <;> omega

theorem etyBunches : Ety Try.prog 29 52 4 80 (.agg #[.int .i64 0, .slice none 0 0, .slice none 0 0, .slice none 0 0]) := .mk' Try.underlying29 (by kernel_rfl) rfl (by decide)

/-! the map of a gathering -/
section gh
variable {κ α β : Type} [DecidableEq κ]
theorem aget_map (f : α → β) (m : List (κ × α)) (k : κ) : aget (m.map fun p => (p.1, f p.2)) k = (aget m k).map f := by
  unfold aget
  rw [List.map_map]
  show Option.bind (List.idxOf? k (m.map Prod.fst)) _ = _
  cases h : (m.map Prod.fst).idxOf? k with
  | none => rfl
  | some i =>
    simp only [Option.bind_some, List.getElem?_map, Option.map_map]
    cases m[i]? <;> rfl
theorem aput_map (f : α → β) (m : List (κ × α)) (k : κ) (v : α) : aput (m.map fun p => (p.1, f p.2)) k (f v) = (aput m k v).map fun p => (p.1, f p.2) := by
  unfold aput
  rw [List.map_map]
  show (match List.idxOf? k (m.map Prod.fst) with | some i => _ | none => _) = _
  cases h : (m.map Prod.fst).idxOf? k with
  | none => simp
  | some i => simp [List.map_set]
theorem mem_aput {m : List (κ × α)} (hn : (m.map Prod.fst).Nodup) {k : κ} {v : α} {p : κ × α} (h : p ∈ aput m k v) : p = (k, v) ∨ (p ∈ m ∧ p.1 ≠ k) := by
  by_cases hk : p.1 = k
  · left
    have h1 := aget_of_mem (aput_keys_nodup hn k v) (k := p.1) (v := p.2) h
    rw [aget_aput hn, if_pos hk.symm] at h1
    injection h1 with h1
    obtain ⟨a, b⟩ := p
    simp at hk h1
    rw [hk, h1]
  · right
    have h1 := aget_of_mem (aput_keys_nodup hn k v) (k := p.1) (v := p.2) h
    rw [aget_aput hn, if_neg (fun e => hk e.symm)] at h1
    exact ⟨aget_mem h1, hk⟩
theorem aput_keys {m : List (κ × α)} (hn : (m.map Prod.fst).Nodup) (k : κ) (v : α) (t : κ) : t ∈ (aput m k v).map Prod.fst ↔ t = k ∨ t ∈ m.map Prod.fst := by
  have h1 : t ∈ (aput m k v).map Prod.fst ↔ ¬ aget (aput m k v) t = none := by rw [aget_none]; simp only [Classical.not_not]
  have h2 : t ∈ m.map Prod.fst ↔ ¬ aget m t = none := by rw [aget_none]; simp only [Classical.not_not]
  rw [h1, h2, aget_aput hn]
  by_cases h : k = t
  · simp [h]
  · rw [if_neg h]
    constructor
    · intro h3; exact .inr h3
    · rintro (h3 | h3)
      · exact absurd h3.symm h
      · exact h3
end gh

structure Gh (w0 w : World) (ls : List Lk) (ts : List Int) (node : Int) (ids : List Int) (g : List (Int × B3)) : Prop where
  nd : (g.map Prod.fst).Nodup
  own : ∀ p ∈ g, Own3 w p.2 (pk ls ts node ids p.1)
  sep : ∀ p ∈ g, ∀ q ∈ g, ∀ i j, i < 3 → j < 3 → ∀ x ∈ bo (p.2.A i), x ∈ bo (q.2.A j) → p.1 = q.1 ∧ i = j
  new : ∀ p ∈ g, ∀ i, i < 3 → ∀ x ∈ bo (p.2.A i), w0.heap.size ≤ x
  keys : ∀ t, t ∈ g.map Prod.fst ↔ ∃ id ∈ ids, tyOf ts id = t
  bnd : g.length ≤ ids.length

theorem Gh.nil (w0 w : World) (ls : List Lk) (ts : List Int) (node : Int) : Gh w0 w ls ts node [] [] := ⟨by simp, by simp, by simp, by simp, by simp, by simp⟩
theorem Gh.chg {w0 w w' : World} {ls : List Lk} {ts : List Int} {node : Int} {ids : List Int} {g : List (Int × B3)} {L : List Nat} (h : Gh w0 w ls ts node ids g) (hc : Chg L w w') (hL : ∀ p ∈ g, ∀ i, i < 3 → ∀ x ∈ bo (p.2.A i), x ∉ L) : Gh w0 w' ls ts node ids g :=
  ⟨h.nd, fun p hp => (h.own p hp).chg hc (hL p hp), h.sep, h.new, h.keys, h.bnd⟩

/-- the bins at a type -/
structure GhAt (w0 w : World) (ls : List Lk) (ts : List Int) (node : Int) (ids : List Int) (g : List (Int × B3)) (t : Int) (b : B3) : Prop where
  val : (aget (g.map fun p => (p.1, p.2.arr)) t).getD B3.nil.arr = b.arr
  own : Own3 w b (pk ls ts node ids t)
  new : ∀ i, i < 3 → ∀ x ∈ bo (b.A i), w0.heap.size ≤ x
  self : ∀ i j, i < 3 → j < 3 → ∀ x ∈ bo (b.A i), x ∈ bo (b.A j) → i = j
  other : ∀ p ∈ g, p.1 ≠ t → ∀ i j, i < 3 → j < 3 → ∀ x ∈ bo (p.2.A i), x ∉ bo (b.A j)
  mem : t ∈ g.map Prod.fst → (t, b) ∈ g
theorem Gh.at_ {w0 w : World} {ls : List Lk} {ts : List Int} {node : Int} {ids : List Int} {g : List (Int × B3)} (h : Gh w0 w ls ts node ids g) (t : Int) : ∃ b, GhAt w0 w ls ts node ids g t b := by
  cases hg : aget g t with
  | some b =>
    have hm := aget_mem hg
    exact ⟨b, by rw [aget_map, hg]; rfl, h.own _ hm, fun i hi => h.new _ hm i hi, fun i j hi hj x h1 h2 => (h.sep _ hm _ hm i j hi hj x h1 h2).2, fun p hp hne i j hi hj x h1 h2 => hne (h.sep _ hp _ hm i j hi hj x h1 h2).1, fun _ => hm⟩
  | none =>
    refine ⟨B3.nil, by rw [aget_map, hg]; rfl, Own3.nil w _ (fun i => pk_none (fun id hid e => ?_) i), by simp [B3.nil], by simp [B3.nil], by simp [B3.nil], fun hm => absurd hm (aget_none.1 hg)⟩
    exact (aget_none.1 hg) ((h.keys t).2 ⟨id, hid, e⟩)

/-- one more id -/
theorem Gh.put {w0 w w' : World} {ls : List Lk} {ts : List Int} {node : Int} {ids : List Int} {g : List (Int × B3)} {b : B3} {id : Int} {A' : Option Addr} {c' : Nat} {L : List Nat}
    (h : Gh w0 w ls ts node ids g) (ha : GhAt w0 w ls ts node ids g (tyOf ts id) b) (hw : w0.heap.size ≤ w.heap.size) (hc : Chg L w w')
    (hL : ∀ x ∈ L, x ∈ bo (b.A (wyOf ls node id)) ∨ w.heap.size ≤ x ∨ ∀ e sz A n c xs, Own w e sz A n c xs → e = 3 → x ∉ bo A)
    (hown : Own w' 3 1 A' (b.n (wyOf ls node id) + 1) c' (iv (pk ls ts node ids (tyOf ts id) (wyOf ls node id)) ++ [.int .i64 id]))
    (hnew : ∀ x ∈ bo A', x ∈ bo (b.A (wyOf ls node id)) ∨ w.heap.size ≤ x) :
    Gh w0 w' ls ts node (ids ++ [id]) (aput g (tyOf ts id) (b.set (wyOf ls node id) A' (b.n (wyOf ls node id) + 1) c')) := by
  have hk3 := wyOf_lt ls node id
  obtain ⟨k, hk⟩ : ∃ k, k = wyOf ls node id := ⟨_, rfl⟩
  rw [← hk] at hown hnew hk3 hL ⊢
  -- a slice that lay before and is not b's k-th stays
  have stay : ∀ A n c xs, Own w 3 1 A n c xs → (∀ x ∈ bo A, x ∉ bo (b.A k)) → Own w' 3 1 A n c xs := by
    intro A n c xs ho hx
    refine ho.chg hc (fun x hxA hxL => ?_)
    rcases hL x hxL with h1 | h1 | h1
    · exact hx x hxA h1
    · have := ho.lt x hxA; omega
    · exact h1 _ _ _ _ _ _ ho rfl hxA
  have farNew : ∀ p ∈ g, p.1 ≠ tyOf ts id → ∀ i, i < 3 → ∀ x ∈ bo (p.2.A i), x ∉ bo A' := by
    intro p hp hne i hi x hx hx'
    rcases hnew x hx' with h1 | h1
    · exact ha.other p hp hne i k hi hk3 x hx h1
    · have := (h.own p hp i hi).lt x hx; omega
  have selfNew : ∀ i, i < 3 → i ≠ k → ∀ x ∈ bo (b.A i), x ∉ bo A' := by
    intro i hi hik x hx hx'
    rcases hnew x hx' with h1 | h1
    · exact hik (ha.self i k hi hk3 x hx h1)
    · have := (ha.own i hi).lt x hx; omega
  refine ⟨aput_keys_nodup h.nd _ _, ?_, ?_, ?_, ?_, ?_⟩
  · intro p hp i hi
    rcases mem_aput h.nd hp with rfl | ⟨hp, hne⟩
    · simp only [B3.set]
      rw [pk_snoc, ← hk]
      by_cases hik : i = k
      · subst hik
        rw [if_pos rfl, if_pos rfl, if_pos rfl, if_pos ⟨rfl, rfl⟩]
        simpa [iv] using hown
      · rw [if_neg hik, if_neg hik, if_neg hik, if_neg (fun e => hik e.2.symm), List.append_nil]
        exact stay _ _ _ _ (ha.own i hi) (fun x hx hx' => hik (ha.self i k hi hk3 x hx hx'))
    · rw [pk_snoc, if_neg (fun e => hne e.1.symm), List.append_nil]
      exact stay _ _ _ _ (h.own p hp i hi) (fun x hx hx' => ha.other p hp hne i k hi hk3 x hx hx')
  · intro p hp q hq i j hi hj x hx hx'
    rcases mem_aput h.nd hp with rfl | ⟨hp, hpn⟩ <;> rcases mem_aput h.nd hq with rfl | ⟨hq, hqn⟩
    · refine ⟨rfl, ?_⟩
      simp only [B3.set] at hx hx'
      by_cases hik : i = k <;> by_cases hjk : j = k
      · rw [hik, hjk]
      · rw [if_pos hik] at hx; rw [if_neg hjk] at hx'
        exact absurd hx (selfNew j hj hjk x hx')
      · rw [if_neg hik] at hx; rw [if_pos hjk] at hx'
        exact absurd hx' (selfNew i hi hik x hx)
      · rw [if_neg hik] at hx; rw [if_neg hjk] at hx'
        exact ha.self i j hi hj x hx hx'
    · exfalso
      simp only [B3.set] at hx
      by_cases hik : i = k
      · rw [if_pos hik] at hx; exact farNew q hq hqn j hj x hx' hx
      · rw [if_neg hik] at hx; exact ha.other q hq hqn j i hj hi x hx' hx
    · exfalso
      simp only [B3.set] at hx'
      by_cases hjk : j = k
      · rw [if_pos hjk] at hx'; exact farNew p hp hpn i hi x hx hx'
      · rw [if_neg hjk] at hx'; exact ha.other p hp hpn i j hi hj x hx hx'
    · exact h.sep p hp q hq i j hi hj x hx hx'
  · intro p hp i hi x hx
    rcases mem_aput h.nd hp with rfl | ⟨hp, _⟩
    · simp only [B3.set] at hx
      by_cases hik : i = k
      · rw [if_pos hik] at hx
        rcases hnew x hx with h1 | h1
        · exact ha.new k hk3 x h1
        · omega
      · rw [if_neg hik] at hx; exact ha.new i hi x hx
    · exact h.new p hp i hi x hx
  · intro t
    rw [aput_keys h.nd, h.keys]
    constructor
    · rintro (rfl | ⟨a, h1, h2⟩)
      · exact ⟨id, by simp, rfl⟩
      · exact ⟨a, by simp [h1], h2⟩
    · rintro ⟨a, h1, h2⟩
      rcases List.mem_append.1 h1 with h1 | h1
      · exact .inr ⟨a, h1, h2⟩
      · simp at h1; subst h1; exact .inl h2.symm
  · have := aput_length_le g (tyOf ts id) (b.set k A' (b.n k + 1) c')
    have := h.bnd
    simp; omega

theorem Gh.put' {w0 w w' : World} {ls : List Lk} {ts : List Int} {node : Int} {ids : List Int} {g : List (Int × B3)} {b b' : B3} {id t : Int} {k : Nat} {A' : Option Addr} {c' : Nat} {L : List Nat}
    (h : Gh w0 w ls ts node ids g) (ht : tyOf ts id = t) (hk : wyOf ls node id = k) (ha : GhAt w0 w ls ts node ids g t b) (hw : w0.heap.size ≤ w.heap.size) (hc : Chg L w w')
    (hL : ∀ x ∈ L, x ∈ bo (b.A k) ∨ w.heap.size ≤ x ∨ ∀ e sz A n c xs, Own w e sz A n c xs → e = 3 → x ∉ bo A)
    (hown : Own w' 3 1 A' (b.n k + 1) c' (iv (pk ls ts node ids t k) ++ [.int .i64 id]))
    (hnew : ∀ x ∈ bo A', x ∈ bo (b.A k) ∨ w.heap.size ≤ x) (hb' : b' = b.set k A' (b.n k + 1) c') :
    Gh w0 w' ls ts node (ids ++ [id]) (aput g t b') := by
  subst ht; subst hk; subst hb'
  exact h.put ha hw hc hL hown hnew
theorem b3_set (b : B3) (k : Nat) (hk : k < 3) (A : Option Addr) (n c : Nat) : (#[b.sl 0, b.sl 1, b.sl 2] : Array Value).setIfInBounds k (.slice A n c) = #[(b.set k A n c).sl 0, (b.set k A n c).sl 1, (b.set k A n c).sl 2] := by
  rcases (by omega : k = 0 ∨ k = 1 ∨ k = 2) with rfl | rfl | rfl <;> simp [B3.sl, B3.set]

/-- all gathered: the keys in order are the types -/
theorem Gh.sorted {w0 w : World} {ls : List Lk} {ts : List Int} {node : Int} {ids : List Int} {g : List (Int × B3)} (h : Gh w0 w ls ts node ids g) : (g.map Prod.fst).mergeSort leI = tys ts ids := by
  have tr : ∀ a b c : Int, leI a b = true → leI b c = true → leI a c = true := fun a b c h1 h2 => by simp only [leI, decide_eq_true_eq] at *; exact Int.le_trans h1 h2
  have to : ∀ a b : Int, (leI a b || leI b a) = true := fun a b => by simp only [leI, Bool.or_eq_true, decide_eq_true_eq]; exact Int.le_total a b
  refine tys_of _ _ _ ?_ (fun t => by rw [List.mem_mergeSort, h.keys])
  have h1 := List.pairwise_mergeSort tr to (g.map Prod.fst)
  have h2 : ((g.map Prod.fst).mergeSort leI).Nodup := (List.mergeSort_perm _ _).nodup_iff.2 h.nd
  have h3 : ((g.map Prod.fst).mergeSort leI).Pairwise (· ≠ ·) := h2
  refine (h1.and h3).imp fun {a b} hab => ?_
  have := hab.1; simp only [leI, decide_eq_true_eq] at this
  have := hab.2; omega
/-- the bins at a type, as the map has them -/
def bO (g : List (Int × B3)) (t : Int) : B3 := (aget g t).getD B3.nil
def rowsOf (g : List (Int × B3)) (l : List Int) : List (Int × B3) := l.map fun t => (t, bO g t)
theorem bO_mem {g : List (Int × B3)} {t : Int} (h : t ∈ g.map Prod.fst) : (t, bO g t) ∈ g := by
  unfold bO
  cases hg : aget g t with
  | none => exact absurd h (aget_none.1 hg)
  | some b => exact aget_mem hg
theorem bO_arr (g : List (Int × B3)) (t : Int) : (aget (g.map fun p => (p.1, p.2.arr)) t).getD B3.nil.arr = (bO g t).arr := by
  rw [aget_map]; unfold bO
  cases aget g t <;> rfl
theorem rows_snoc (g : List (Int × B3)) (l : List Int) (i : Nat) (t : Int) (h : l[i]? = some t) : rows (rowsOf g (l.take (i + 1))) = rows (rowsOf g (l.take i)) ++ (bO g t).cs t := by
  rw [List.take_add_one, h]
  simp [rowsOf, rows]
theorem Gh.bown {w0 w1 w w' : World} {ls : List Lk} {ts : List Int} {node : Int} {g : List (Int × B3)} {A : Option Addr} {n c : Nat} (h : Gh w1 w ls ts node (incident ls node) g) (hw : w0.heap.size ≤ w1.heap.size) (hc : Chg [] w w')
    (hown : Own w' 52 4 A n c (rows (rowsOf g (tys ts (incident ls node))))) (hA : ∀ x ∈ bo A, w0.heap.size ≤ x) : BOwn w0 w' A n c (rowsOf g (tys ts (incident ls node))) (gath ls ts node) := by
  have hmem : ∀ (i : Nat) (p : Int × B3), (rowsOf g (tys ts (incident ls node)))[i]? = some p → ∃ t, (tys ts (incident ls node))[i]? = some t ∧ p = (t, bO g t) ∧ p ∈ g := by
    intro i p hp
    unfold rowsOf at hp
    rw [List.getElem?_map] at hp
    cases ht : (tys ts (incident ls node))[i]? with
    | none => rw [ht] at hp; cases hp
    | some t =>
      rw [ht] at hp
      simp at hp
      refine ⟨t, rfl, hp.symm, ?_⟩
      rw [← hp]
      exact bO_mem ((h.keys t).2 ((mem_tys ts _ t).1 (List.mem_of_getElem? ht)))
  have hnd : (tys ts (incident ls node)).Nodup := by
    have := tys_sorted ts (incident ls node)
    exact this.imp (fun {a b} hab => by omega)
  refine ⟨hown, by simp [rowsOf, gath], ?_, ?_, hA, ?_⟩
  · intro i p b hp hb
    obtain ⟨t, ht, hpe, hpg⟩ := hmem i p hp
    unfold gath at hb
    rw [List.getElem?_map, ht] at hb
    simp at hb
    subst hb
    refine ⟨by rw [hpe]; rfl, ?_⟩
    have := (h.own p hpg).chg hc (fun _ _ _ _ => List.not_mem_nil)
    rw [hpe] at this ⊢
    exact this
  · intro i j p q hp hq k l hk hl x hx hx'
    obtain ⟨t, ht, hpe, hpg⟩ := hmem i p hp
    obtain ⟨u, hu, hqe, hqg⟩ := hmem j q hq
    obtain ⟨h1, h2⟩ := h.sep p hpg q hqg k l hk hl x hx hx'
    rw [hpe, hqe] at h1
    simp at h1
    subst h1
    exact ⟨(List.getElem?_inj (List.getElem?_eq_some_iff.1 ht).1 hnd).1 (by rw [ht, hu]), h2⟩
  · intro p hp k hk x hx
    obtain ⟨i, hi⟩ := List.getElem?_of_mem hp
    obtain ⟨t, ht, hpe, hpg⟩ := hmem i p hi
    exact Nat.le_trans hw (h.new p hpg k hk x hx)
end Go.Proofs.Ytelmnmepdmfihaa
