/-
  Layer 17, plain: the groups made; a list of groups in memory.
-/
import Derived.Test.YtelmnmepdmfihaaGrC
import Derived.Test.YtelmnmepdmfihaaLkP
import Derived.Laws.MakeOwn
namespace Go.Proofs.Ytelmnmepdmfihaa
open Go.RowKit

theorem ordE_zero {ls : List Lk} {node : Int} : ∀ {ord seen : List Int}, (∀ a ∈ ord, tch ls node a = 0 ∧ a ∉ seen) → ord.Nodup → ordE ls node seen ord = 0
  | [], _, _, _ => rfl
  | id :: r, seen, h, hn => by
    obtain ⟨h1, h2⟩ := List.nodup_cons.1 hn
    rw [ordE_step (h id (by simp)).1 (h id (by simp)).2]
    refine ordE_zero (fun a ha => ⟨(h a (by simp [ha])).1, fun hm => ?_⟩) h2
    rcases List.mem_append.1 hm with hm | hm
    · exact (h a (by simp [ha])).2 hm
    · simp at hm; subst hm; exact h1 ha
theorem ordE_congr {ls ls' : List Lk} {node : Int} (h : ∀ id, tch ls' node id = tch ls node id) : ∀ (ord seen : List Int), ordE ls' node seen ord = ordE ls node seen ord
  | [], _ => rfl
  | id :: r, seen => by
    simp only [ordE, h]
    rw [ordE_congr h r (seen ++ [id])]
theorem incident_nodup (ls : List Lk) (node : Int) : (incident ls node).Nodup := by
  unfold incident
  exact List.Pairwise.map Int.ofNat (R := (· ≠ ·)) (fun a b hab e => hab (Int.ofNat.inj e)) ((List.nodup_range (n := ls.length)).filter _)
theorem incident_tch {ls : List Lk} {node id : Int} (h : id ∈ incident ls node) : tch ls node id = 0 := by
  obtain ⟨h0, l, hl, h1, h2⟩ := incident_at h
  exact tch_of h0 hl h1 h2
theorem pk_ord {ls ls' : List Lk} {ts : List Int} {node t : Int} {k : Nat} (h : ∀ id, tch ls' node id = tch ls node id) : ordE ls' node [] (pk ls ts node (incident ls node) t k) = 0 := by
  rw [ordE_congr h]
  exact ordE_zero (fun a ha => ⟨incident_tch (mem_pk.1 ha).1, by simp⟩) ((incident_nodup ls node).filter _)

/-- a bunch's three chains laid -/
def lay3 (node : Int) (ls : List Lk) (b : Bn) : List Lk := layG (layG (layG ls node (b.f 0) (b.f 0)) node (b.f 1) (b.f 1)) node (b.f 2) (b.f 2)
def layB (node : Int) (ls : List Lk) (bs : List Bn) : List Lk := bs.foldl (lay3 node) ls
theorem lay3_tch (node : Int) (ls : List Lk) (b : Bn) (node2 id : Int) : tch (lay3 node ls b) node2 id = tch ls node2 id := by unfold lay3; rw [tch_layG, tch_layG, tch_layG]
theorem layB_tch (node : Int) (ls : List Lk) (bs : List Bn) (node2 id : Int) : tch (layB node ls bs) node2 id = tch ls node2 id := by
  unfold layB
  induction bs generalizing ls with
  | nil => rfl
  | cons b r ih => rw [List.foldl_cons, ih, lay3_tch]
theorem lay3_length (node : Int) (ls : List Lk) (b : Bn) : (lay3 node ls b).length = ls.length := by unfold lay3; rw [layG_length, layG_length, layG_length]
theorem layB_length (node : Int) (ls : List Lk) (bs : List Bn) : (layB node ls bs).length = ls.length := by
  unfold layB
  induction bs generalizing ls with
  | nil => rfl
  | cons b r ih => rw [List.foldl_cons, ih, lay3_length]
theorem layB_snoc (node : Int) (ls : List Lk) (bs : List Bn) (i : Nat) (b : Bn) (h : bs[i]? = some b) : layB node ls (bs.take (i + 1)) = lay3 node (layB node ls (bs.take i)) b := by
  rw [take_snoc _ _ _ h]; simp [layB]

/-- the first j chains of a bunch laid -/
def layK (node : Int) (b : Bn) (l : List Lk) : Nat → List Lk
  | 0 => l
  | j + 1 => layG (layK node b l j) node (b.f j) (b.f j)
theorem layK_three (node : Int) (b : Bn) (l : List Lk) : layK node b l 3 = lay3 node l b := rfl
theorem layK_tch (node : Int) (b : Bn) (l : List Lk) (j : Nat) (node2 id : Int) : tch (layK node b l j) node2 id = tch l node2 id := by
  induction j with
  | zero => rfl
  | succ j ih => rw [layK, tch_layG, ih]
theorem layK_length (node : Int) (b : Bn) (l : List Lk) (j : Nat) : (layK node b l j).length = l.length := by
  induction j with
  | zero => rfl
  | succ j ih => rw [layK, layG_length, ih]

/-- a group: live, its type, its node, the heads, the next one -/
def grp (node first : Int) (len i : Nat) (b : Bn) : Lk := ⟨true, b.t, node, headOf (b.f 0), headOf (b.f 1), headOf (b.f 2), if i + 1 < len then first + i + 1 else -1⟩
def grps (node first : Int) (bs : List Bn) : List Lk := bs.mapIdx (grp node first bs.length)
theorem grps_length (node first : Int) (bs : List Bn) : (grps node first bs).length = bs.length := by simp [grps]
theorem grps_get (node first : Int) (bs : List Bn) (i : Nat) : (grps node first bs)[i]? = (bs[i]?).map (grp node first bs.length i) := by simp [grps, List.getElem?_mapIdx]

def mkE (ls : List Lk) (ts : List Int) (node first : Int) : Int := if ts.length ≠ ls.length ∨ first < 0 ∨ 65536 - ((gather ls ts node).length : Int) < first then 2 else 0
def mkL (ls : List Lk) (ts : List Int) (node first : Int) : List Lk := if mkE ls ts node first = 0 then layB node ls (gather ls ts node) else []
def mkG (ls : List Lk) (ts : List Int) (node first : Int) : List Lk := if mkE ls ts node first = 0 then grps node first (gather ls ts node) else []

theorem gather_len (ls : List Lk) (ts : List Int) (node : Int) : (gather ls ts node).length ≤ ls.length := by
  unfold gather
  split
  · unfold gath
    rw [List.length_map]
    have h1 := tys_le ts (incident ls node)
    have h2 := inc_le ls node ls.length
    rw [inc_all] at h2
    omega
  · simp
theorem gather_ord {ls ls' : List Lk} {ts : List Int} {node : Int} {i : Nat} {b : Bn} (hb : (gather ls ts node)[i]? = some b) (h : ∀ id, tch ls' node id = tch ls node id) (k : Nat) : ordE ls' node [] (b.f k) = 0 := by
  unfold gather at hb
  split at hb
  · unfold gath at hb
    rw [List.getElem?_map] at hb
    cases ht : (tys ts (incident ls node))[i]? with
    | none => rw [ht] at hb; cases hb
    | some t =>
      rw [ht] at hb
      simp at hb
      subst hb
      exact pk_ord h
  · simp at hb
theorem gather_flen {ls : List Lk} {ts : List Int} {node : Int} {i : Nat} {b : Bn} (hb : (gather ls ts node)[i]? = some b) (k : Nat) : (b.f k).length ≤ ls.length := by
  unfold gather at hb
  split at hb
  · unfold gath at hb
    rw [List.getElem?_map] at hb
    cases ht : (tys ts (incident ls node))[i]? with
    | none => rw [ht] at hb; cases hb
    | some t =>
      rw [ht] at hb
      simp at hb
      subst hb
      have h1 := pk_le ls ts node (incident ls node) t k
      have h2 := inc_le ls node ls.length
      rw [inc_all] at h2
      exact Nat.le_trans h1 h2
  · simp at hb

/-- what Make tells: the list, the groups, the error's number -/
def MakeTo (ls : List Lk) (ts : List Int) (node first : Int) (w : World) (e : Ending) (w' : World) : Prop :=
  ∃ A N c A2 N2 c2 E, e = .returned (.tuple #[.slice A N c, .slice A2 N2 c2, .int .i64 E]) ∧ E = mkE ls ts node first ∧ Own w' 55 7 A N c (lvs (mkL ls ts node first)) ∧ N = (mkL ls ts node first).length ∧
    Own w' 58 7 A2 N2 c2 (lvs (mkG ls ts node first)) ∧ N2 = (mkG ls ts node first).length ∧ Chg [] w w' ∧ (∀ k ∈ bo A, w.heap.size ≤ k) ∧ (∀ k ∈ bo A2, w.heap.size ≤ k)

theorem etyGroups : Ety Try.prog 35 58 7 56 (.agg #[.bool false, .int .i64 0, .int .i64 0, .int .i64 0, .int .i64 0, .int .i64 0, .int .i64 0]) := .mk' Try.underlying35 (by kernel_rfl) rfl (by decide)
def lk0 : Lk := ⟨false, 0, 0, 0, 0, 0, 0⟩
theorem etyIntss : Ety Try.prog 53 23 1 24 (.slice none 0 0) := .mk' Try.underlying53 (by kernel_rfl) rfl (by decide)

theorem made_lvs (k : Nat) : (madeCells #[.bool false, .int .i64 0, .int .i64 0, .int .i64 0, .int .i64 0, .int .i64 0, .int .i64 0] (k * 7)).toList = lvs (List.replicate k lk0) := by
  apply List.ext_getElem?
  intro i
  unfold madeCells
  obtain ⟨q, r, hr, rfl⟩ : ∃ q r, r < 7 ∧ i = q * 7 + r := ⟨i / 7, i % 7, Nat.mod_lt _ (by decide), by omega⟩
  rw [lvs_get _ _ _ hr]
  by_cases hq : q < k
  · have hlt : q * 7 + r < k * 7 := by omega
    rw [Array.getElem?_toList, Array.getElem?_map]
    simp only [Array.getElem?_range, hlt, if_true, Option.map_some]
    have hm : (q * 7 + r) % 7 = r := by omega
    simp only [List.getElem?_replicate, hq, if_true, Option.bind_some, List.size_toArray, List.length_cons, List.length_nil, hm]
    rcases (by omega : r = 0 ∨ r = 1 ∨ r = 2 ∨ r = 3 ∨ r = 4 ∨ r = 5 ∨ r = 6) with rfl | rfl | rfl | rfl | rfl | rfl | rfl <;> simp <;> rfl
  · rw [Array.getElem?_toList, Array.getElem?_map]
    have h1 : ¬ q * 7 + r < k * 7 := by omega
    simp [h1, hq]
theorem run_make_groups (k c : Nat) (hkc : k ≤ c) (hc : c ≤ 1073741824) (w : World) :
    (Instr.makeSlice 35 (.int .i64 (k : Int)) (.int .i64 (c : Int))).run Try.prog w = .ok (.slice (some ⟨w.heap.size, 0, none⟩) k c) (w.alloc (.cells (madeCells #[.bool false, .int .i64 0, .int .i64 0, .int .i64 0, .int .i64 0, .int .i64 0, .int .i64 0] (c * 7)) 58)) := by
  obtain ⟨ht, ⟨i, hi, hz, hsz, hby⟩, _, _⟩ := etyGroups
  have := run_make (P := Try.prog) (w := w) 35 58 i _ ht hi hz .i64 .i64 (k : Int) (c : Int) (by omega) (by omega) (by rw [hby]; omega) (by omega)
  simp only [Int.toNat_natCast, hsz] at this
  exact this
theorem own_make_groups (k c : Nat) (hkc : k ≤ c) (hc : c ≤ 1073741824) (w : World) :
    Own (w.alloc (.cells (madeCells #[.bool false, .int .i64 0, .int .i64 0, .int .i64 0, .int .i64 0, .int .i64 0, .int .i64 0] (c * 7)) 58)) 58 7 (some ⟨w.heap.size, 0, none⟩) k c (lvs (List.replicate k lk0)) := by
  have h := Own.lit w 58 7 (madeCells #[.bool false, .int .i64 0, .int .i64 0, .int .i64 0, .int .i64 0, .int .i64 0, .int .i64 0] (c * 7)) c (by unfold maxLen; omega) (size_madeCells _ _)
  rw [made_lvs] at h
  have h2 := h.cut hkc
  have : (lvs (List.replicate c lk0)).take (k * 7) = lvs (List.replicate k lk0) := by
    obtain ⟨d, rfl⟩ : ∃ d, c = k + d := ⟨c - k, by omega⟩
    rw [← List.replicate_append_replicate, lvs_append, List.take_left']
    rw [lvs_length]; simp
  rw [this] at h2
  exact h2
end Go.Proofs.Ytelmnmepdmfihaa
