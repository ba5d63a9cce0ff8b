/-
  Layer 17, plain: all ids of a gathering in one row: each once.
-/
import Derived.Test.YtelmnmepdmfihaaGrPp
namespace Go.Proofs.Ytelmnmepdmfihaa
open Go.RowKit

theorem flat_nodup : ∀ (L : List (List Int)), L.Pairwise Disj → (∀ o ∈ L, o.Nodup) → L.flatten.Nodup
  | [], _, _ => by simp
  | o :: r, h, hn => by
    obtain ⟨h1, h2⟩ := List.pairwise_cons.1 h
    rw [List.flatten_cons, List.nodup_append]
    refine ⟨hn o (by simp), flat_nodup r h2 (fun o' ho' => hn o' (by simp [ho'])), fun a ha b hb => ?_⟩
    rintro rfl
    obtain ⟨o', ho', hb'⟩ := List.mem_flatten.1 hb
    exact h1 o' ho' a ha hb'

/-- all ids, bunch by bunch, way by way -/
def allIds (bs : List Bn) : List Int := (chains bs).flatten
/-- how many stand ahead of a bunch -/
def off (bs : List Bn) (i : Nat) : Nat := (allIds (bs.take i)).length
/-- how many of a bunch stand ahead of a way -/
def offK (b : Bn) : Nat → Nat
  | 0 => 0
  | k + 1 => offK b k + (b.f k).length
theorem allIds_append (a b : List Bn) : allIds (a ++ b) = allIds a ++ allIds b := by simp [allIds, chains]
theorem allIds_one (b : Bn) : allIds [b] = b.f 0 ++ (b.f 1 ++ b.f 2) := by simp [allIds, chains]
theorem off_zero (bs : List Bn) : off bs 0 = 0 := by simp [off, allIds, chains]
theorem off_succ {bs : List Bn} {i : Nat} {b : Bn} (h : bs[i]? = some b) : off bs (i + 1) = off bs i + offK b 3 := by
  unfold off
  rw [take_snoc bs i b h, allIds_append, List.length_append, allIds_one]
  simp [offK, Nat.add_assoc]
theorem allIds_at {bs : List Bn} {i k p : Nat} {b : Bn} {id : Int} (h : bs[i]? = some b) (hk : k < 3) (hp : (b.f k)[p]? = some id) : (allIds bs)[off bs i + (offK b k + p)]? = some id := by
  have hil := (List.getElem?_eq_some_iff.1 h).1
  have hpl := (List.getElem?_eq_some_iff.1 hp).1
  have hsplit : allIds bs = allIds (bs.take i) ++ ((b.f 0 ++ (b.f 1 ++ b.f 2)) ++ allIds (bs.drop (i + 1))) := by
    rw [← allIds_one, ← allIds_append, ← allIds_append]
    congr 1
    rw [List.singleton_append, ← drop_cons_at h, List.take_append_drop]
  rw [hsplit]
  unfold off
  rw [List.getElem?_append_right (by omega), Nat.add_sub_cancel_left]
  rcases (by omega : k = 0 ∨ k = 1 ∨ k = 2) with rfl | rfl | rfl
  · simp only [offK, Nat.zero_add]
    rw [List.getElem?_append_left (by simp; omega), List.getElem?_append_left hpl]; exact hp
  · simp only [offK, Nat.zero_add]
    rw [List.getElem?_append_left (by simp; omega), List.getElem?_append_right (by omega), Nat.add_sub_cancel_left, List.getElem?_append_left hpl]; exact hp
  · simp only [offK, Nat.zero_add]
    rw [List.getElem?_append_left (by simp; omega), List.getElem?_append_right (by omega), List.getElem?_append_right (by omega)]
    rw [show (b.f 0).length + (b.f 1).length + p - (b.f 0).length - (b.f 1).length = p by omega]; exact hp
theorem gath_nodup (ls : List Lk) (ts : List Int) (node : Int) : (allIds (gath ls ts node)).Nodup := by
  refine flat_nodup _ (chains_disj (tys_sorted _ _)) (fun o ho => ?_)
  unfold chains at ho
  obtain ⟨b, hb, ho⟩ := List.mem_flatMap.1 ho
  obtain ⟨u, hu, rfl⟩ := List.mem_map.1 hb
  simp [bnOf] at ho
  rcases ho with rfl | rfl | rfl <;> exact (incident_nodup ls node).filter _
theorem not_before {l : List Int} (hn : l.Nodup) {q : Nat} {id : Int} (h : l[q]? = some id) : id ∉ l.take q := by
  intro hm
  obtain ⟨j, hj⟩ := List.getElem?_of_mem hm
  have hjl := (List.getElem?_eq_some_iff.1 hj).1
  rw [List.length_take] at hjl
  rw [List.getElem?_take_of_lt (by omega)] at hj
  have := (List.getElem?_inj (by omega) hn).1 (hj.trans h.symm)
  omega
theorem off_all (bs : List Bn) : off bs bs.length = (bs.map sz).sum := by
  unfold off
  rw [List.take_length]
  induction bs with
  | nil => rfl
  | cons b r ih =>
    rw [show b :: r = [b] ++ r from rfl, allIds_append, List.length_append, ih, allIds_one]
    simp [sz, Nat.add_assoc]
theorem incident_sorted (ls : List Lk) (node : Int) : (incident ls node).Pairwise (· < ·) := by
  unfold incident
  refine List.pairwise_map.2 (List.Pairwise.imp (fun {a b} hab => ?_) ((List.pairwise_lt_range (n := ls.length)).filter _))
  simpa using hab
theorem pk_sorted (ls : List Lk) (ts : List Int) (node t : Int) (k : Nat) : (pk ls ts node (incident ls node) t k).Pairwise (· < ·) := (incident_sorted ls node).filter _
/-- an id of a way: what the list says of it -/
theorem pk_facts {ls : List Lk} {ts : List Int} {node t : Int} {k : Nat} {id : Int} (h : id ∈ pk ls ts node (incident ls node) t k) : 0 ≤ id ∧ tyOf ts id = t ∧ ∃ l, ls[id.toNat]? = some l ∧ l.live = true ∧ wayOf l node = k ∧ ((l.src == node) != (k != 1)) = false ∧ ((l.dst == node) != (k != 0)) = false := by
  obtain ⟨h1, h2, h3⟩ := mem_pk.1 h
  obtain ⟨h0, l, hl, hlv, htou⟩ := incident_at h1
  refine ⟨h0, h2, l, hl, hlv, ?_⟩
  have hw : wayOf l node = k := by unfold wyOf at h3; rw [hl] at h3; exact h3
  refine ⟨hw, ?_⟩
  unfold wayOf at hw
  simp only [Lk.touches, Bool.or_eq_true, beq_iff_eq] at htou
  by_cases hs : l.src = node
  · rw [if_pos hs] at hw
    by_cases hd : l.dst = node
    · rw [if_pos hd] at hw; subst hw; simp [hs, hd]
    · rw [if_neg hd] at hw; subst hw; simp [hs, hd]
  · rw [if_neg hs] at hw
    have hd : l.dst = node := by rcases htou with h | h; exact absurd h hs; exact h
    subst hw; simp [hs, hd]
end Go.Proofs.Ytelmnmepdmfihaa
