/-
  Layer 08, plain: directories as association lists in the names' order.
-/
import Derived.Test.YtgomofeidghmiaaMapM
import Derived.Sort.Walk0
import Derived.Sort.KeysCollected
namespace Go.Proofs.Ytgomofeidghmiaa
open Go.RowKit

section
variable {κ α : Type} [DecidableEq κ]
theorem aget_perm {m t : List (κ × α)} (hp : m.Perm t) (hn : (m.map Prod.fst).Nodup) (k : κ) : aget m k = aget t k := by
  cases h : aget t k with
  | none =>
    rw [aget_none] at h ⊢
    exact fun hm => h ((hp.map Prod.fst).mem_iff.1 hm)
  | some v => exact aget_of_mem hn (hp.mem_iff.2 (aget_mem h))
/-- t without k -/
def without (t : List (κ × α)) (k : κ) : List (κ × α) := t.filter fun p => decide (p.1 ≠ k)
theorem without_perm {m t : List (κ × α)} (hp : m.Perm t) (k : κ) : (without m k).Perm (without t k) := hp.filter _
theorem without_none {t : List (κ × α)} {k : κ} (h : k ∉ t.map Prod.fst) : without t k = t := by
  unfold without
  rw [List.filter_eq_self]
  intro p hp
  simp only [decide_eq_true_eq]
  intro e
  exact h (List.mem_map.2 ⟨p, hp, e⟩)
theorem without_cons (p : κ × α) (t : List (κ × α)) (k : κ) : without (p :: t) k = if p.1 = k then without t k else p :: without t k := by
  unfold without
  rw [List.filter_cons]
  by_cases h : p.1 = k <;> simp [h]
theorem adel_cons (p : κ × α) (t : List (κ × α)) (k : κ) : adel (p :: t) k = if p.1 = k then t else p :: adel t k := by
  unfold adel
  rw [List.map_cons, List.idxOf?_cons]
  by_cases h : p.1 = k
  · simp [h]
  · have hb : (p.1 == k) = false := by simp [h]
    rw [if_neg h]
    simp only [hb]
    cases (t.map Prod.fst).idxOf? k <;> simp
theorem adel_without {t : List (κ × α)} (hn : (t.map Prod.fst).Nodup) (k : κ) : adel t k = without t k := by
  induction t with
  | nil => rfl
  | cons p r ih =>
    rw [List.map_cons, List.nodup_cons] at hn
    rw [adel_cons, without_cons]
    by_cases h : p.1 = k
    · rw [if_pos h, if_pos h, without_none (by rw [← h]; exact hn.1)]
    · rw [if_neg h, if_neg h, ih hn.2]
theorem aput_cons (p : κ × α) (t : List (κ × α)) (k : κ) (v : α) : aput (p :: t) k v = if p.1 = k then (k, v) :: t else p :: aput t k v := by
  unfold aput
  rw [List.map_cons, List.idxOf?_cons]
  by_cases h : p.1 = k
  · simp [h]
  · have hb : (p.1 == k) = false := by simp [h]
    rw [if_neg h]
    simp only [hb]
    cases (t.map Prod.fst).idxOf? k <;> simp
theorem aput_perm {t : List (κ × α)} (hn : (t.map Prod.fst).Nodup) (k : κ) (v : α) : (aput t k v).Perm ((k, v) :: without t k) := by
  induction t with
  | nil => exact List.Perm.refl _
  | cons p r ih =>
    rw [List.map_cons, List.nodup_cons] at hn
    rw [aput_cons, without_cons]
    by_cases h : p.1 = k
    · rw [if_pos h, if_pos h, without_none (by rw [← h]; exact hn.1)]
    · rw [if_neg h, if_neg h]
      exact ((ih hn.2).cons p).trans (List.Perm.swap _ _ _)
end

/-- text a stands ahead of text b -/
def ltS (a b : ByteArray) : Bool := Op.bytesLess a.toList b.toList
theorem ltS_iff {a b : ByteArray} : ltS a b = true ↔ a.data.toList < b.data.toList := by
  unfold ltS
  rw [Go.Proofs.bytesLess_eq, ByteArray.toList_eq, ByteArray.toList_eq]
  simp
theorem data_inj {a b : ByteArray} (h : a.data.toList = b.data.toList) : a = b := by
  cases a with | mk x => cases b with | mk y =>
    cases x; cases y
    simp at h
    subst h; rfl
theorem ltS_trans {a b c : ByteArray} (h : ltS a b = true) (k : ltS b c = true) : ltS a c = true := by
  rw [ltS_iff] at *
  exact List.lt_trans h k
theorem ltS_irrefl (a : ByteArray) : ltS a a = false := by
  rw [← Bool.not_eq_true, ltS_iff]
  exact List.lt_irrefl _
theorem ltS_or {a b : ByteArray} (h : a ≠ b) (k : ltS a b = false) : ltS b a = true := by
  rw [← Bool.not_eq_true, ltS_iff] at k
  rw [ltS_iff]
  have h1 : b.data.toList ≤ a.data.toList := List.not_lt.1 k
  rcases List.le_iff_lt_or_eq.1 h1 with h2 | h2
  · exact h2
  · exact absurd (data_inj h2).symm h

section
variable {α : Type}
/-- t with one more entry, in its place -/
def withS (k : ByteArray) (v : α) : List (ByteArray × α) → List (ByteArray × α)
  | [] => [(k, v)]
  | p :: r => if ltS k p.1 = true then (k, v) :: p :: r else p :: withS k v r
theorem withS_perm (k : ByteArray) (v : α) : ∀ t : List (ByteArray × α), (withS k v t).Perm ((k, v) :: t)
  | [] => List.Perm.refl _
  | p :: r => by
    rw [withS]
    split
    · exact List.Perm.refl _
    · exact ((withS_perm k v r).cons p).trans (List.Perm.swap _ _ _)
/-- in the names' order, each once -/
def Srt (t : List (ByteArray × α)) : Prop := (t.map Prod.fst).Pairwise fun a b => ltS a b = true
theorem Srt.nodup {t : List (ByteArray × α)} (h : Srt t) : (t.map Prod.fst).Nodup :=
  List.Pairwise.imp (fun {a b} hab e => by subst e; rw [ltS_irrefl] at hab; cases hab) h
theorem Srt.without {t : List (ByteArray × α)} (h : Srt t) (k : ByteArray) : Srt (without t k) :=
  List.Pairwise.sublist ((List.filter_sublist).map Prod.fst) h
theorem Srt.with_ {t : List (ByteArray × α)} (h : Srt t) {k : ByteArray} (v : α) (hk : k ∉ t.map Prod.fst) : Srt (withS k v t) := by
  induction t with
  | nil => simp [Srt, withS]
  | cons p r ih =>
    have hp : ∀ x ∈ r.map Prod.fst, ltS p.1 x = true := (List.pairwise_cons.1 h).1
    have hr : Srt r := (List.pairwise_cons.1 h).2
    rw [withS]
    split
    · rename_i hlt
      refine List.pairwise_cons.2 ⟨fun x hx => ?_, h⟩
      rcases List.mem_cons.1 hx with rfl | hx
      · exact hlt
      · exact ltS_trans hlt (hp x hx)
    · rename_i hlt
      rw [Bool.not_eq_true] at hlt
      have hne : k ≠ p.1 := fun e => hk (by simp [e])
      refine List.pairwise_cons.2 ⟨fun x hx => ?_, ih hr (fun hm => hk (List.mem_cons_of_mem _ hm))⟩
      have hx2 : x ∈ ((k, v) :: r).map Prod.fst := ((withS_perm k v r).map Prod.fst).mem_iff.1 hx
      rcases List.mem_cons.1 hx2 with rfl | hx2
      · exact ltS_or hne hlt
      · exact hp x hx2
end
end Go.Proofs.Ytgomofeidghmiaa
