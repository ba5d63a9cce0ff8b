/-
  Layer 08, plain: a disk opened; the program's file system half open in memory.
-/
import Derived.Test.YtgomofeidghmiaaVfR
import Derived.Test.YtgomofeidghmiaaVfS
namespace Go.Proofs.Ytgomofeidghmiaa
open Go.RowKit

def noS : ByteArray := { data := #[] }
/-- a directory's files: the first error -/
def filesE (f : Bool) (last : ByteArray) : List (ByteArray × List Int) → Int
  | [] => 0
  | x :: r => if ordE f last x.1 ≠ 0 then ordE f last x.1 else filesE false x.1 r
/-- a disk: the first error -/
def dirsE (f : Bool) (last : ByteArray) : Dsk → Int
  | [] => 0
  | d :: r => if ordE f last d.1 ≠ 0 then ordE f last d.1 else if filesE true noS d.2 ≠ 0 then filesE true noS d.2 else dirsE false d.1 r
def openE (D : Dsk) (quota : Int) : Int := if quota < 0 then 2 else dirsE true noS D
def numF (n : Nat) : List (ByteArray × List Int) → Fol
  | [] => []
  | x :: r => (x.1, n) :: numF (n + 1) r
def numT (n : Nat) : Dsk → Tr
  | [] => []
  | d :: r => (d.1, numF n d.2) :: numT (n + d.2.length) r
def cnt8 (D : Dsk) : Nat := (D.map fun d => d.2.length).sum
def fls (D : Dsk) : List Fil := D.flatMap fun d => d.2.map fun x => (x.2, [])
def openS (D : Dsk) (quota stop : Int) : St := ⟨numT 0 D, numT 0 D, [], fls D, [], quota, stop, 0⟩

theorem numF_snoc (n : Nat) (l : List (ByteArray × List Int)) (x : ByteArray × List Int) : numF n (l ++ [x]) = numF n l ++ [(x.1, n + l.length)] := by
  induction l generalizing n with
  | nil => rfl
  | cons y r ih => simp [numF, ih]; omega
theorem numF_len (n : Nat) (l : List (ByteArray × List Int)) : (numF n l).length = l.length := by
  induction l generalizing n with
  | nil => rfl
  | cons y r ih => simp [numF, ih]
theorem numF_fst (n : Nat) (l : List (ByteArray × List Int)) : (numF n l).map Prod.fst = l.map Prod.fst := by
  induction l generalizing n with
  | nil => rfl
  | cons y r ih => simp [numF, ih]
theorem numT_fst (n : Nat) (D : Dsk) : (numT n D).map Prod.fst = D.map Prod.fst := by
  induction D generalizing n with
  | nil => rfl
  | cons y r ih => simp [numT, ih]
theorem cnt8_snoc (D : Dsk) (d : ByteArray × List (ByteArray × List Int)) : cnt8 (D ++ [d]) = cnt8 D + d.2.length := by simp [cnt8]
theorem numT_snoc (n : Nat) (D : Dsk) (d : ByteArray × List (ByteArray × List Int)) : numT n (D ++ [d]) = numT n D ++ [(d.1, numF (n + cnt8 D) d.2)] := by
  induction D generalizing n with
  | nil => simp [numT, cnt8]
  | cons y r ih => simp only [List.cons_append, numT, ih, cnt8, List.map_cons, List.sum_cons]; rw [show n + y.2.length + (r.map fun d => d.2.length).sum = n + (y.2.length + (r.map fun d => d.2.length).sum) by omega]
theorem fls_snoc (D : Dsk) (d : ByteArray × List (ByteArray × List Int)) : fls (D ++ [d]) = fls D ++ d.2.map fun x => (x.2, []) := by simp [fls]
theorem fls_len (D : Dsk) : (fls D).length = cnt8 D := by
  unfold fls cnt8
  induction D with
  | nil => rfl
  | cons y r ih => simp [ih]
theorem numF_ids {n : Nat} {l : List (ByteArray × List Int)} : ∀ q ∈ numF n l, q.2 < n + l.length := by
  induction l generalizing n with
  | nil => simp [numF]
  | cons y r ih =>
    intro q hq
    simp only [numF, List.mem_cons] at hq
    simp only [List.length_cons]
    rcases hq with rfl | hq
    · simp only; omega
    · have := ih q hq; omega
theorem numT_ids {n : Nat} {D : Dsk} : ∀ p ∈ numT n D, ∀ q ∈ p.2, q.2 < n + cnt8 D := by
  induction D generalizing n with
  | nil => simp [numT]
  | cons y r ih =>
    intro p hp q hq
    simp only [numT, List.mem_cons] at hp
    simp only [cnt8, List.map_cons, List.sum_cons]
    rcases hp with rfl | hp
    · have := numF_ids q hq; omega
    · have := ih p hp q hq
      simp only [cnt8] at this; omega

theorem leS_lt {a b : ByteArray} : leS a b = false ↔ ltS b a = true := by
  unfold leS ltS
  rw [Bool.or_eq_false_iff]
  have h1 : (Op.bytesLess a.toList b.toList = true) ↔ a.data.toList < b.data.toList := ltS_iff
  have h2 : (Op.bytesLess b.toList a.toList = true) ↔ b.data.toList < a.data.toList := ltS_iff
  rw [h2]
  constructor
  · rintro ⟨h3, h4⟩
    have h5 : ¬ a.data.toList < b.data.toList := fun h => by rw [h1.2 h] at h3; cases h3
    rcases List.le_iff_lt_or_eq.1 (List.not_lt.1 h5) with h6 | h6
    · exact h6
    · exfalso
      rw [data_inj h6] at h4
      simp at h4
  · intro h3
    refine ⟨?_, ?_⟩
    · rw [← Bool.not_eq_true, h1]
      exact fun h => List.lt_irrefl _ (List.lt_trans h h3)
    · cases he : (a.toList == b.toList) with
      | false => rfl
      | true =>
        have h4 : a.toList = b.toList := by simpa using he
        rw [ByteArray.toList_eq, ByteArray.toList_eq] at h4
        rw [h4] at h3
        exact absurd h3 (List.lt_irrefl _)
theorem ordE_zero {f : Bool} {last name : ByteArray} : ordE f last name = 0 ↔ goodP name = true ∧ (f = false → ltS last name = true) := by
  unfold ordE
  cases hg : goodP name with
  | false => simp
  | true =>
    rw [if_neg (by simp)]
    by_cases h : f = false ∧ leS name last = true
    · rw [if_pos h]
      constructor
      · intro h2; cases h2
      · rintro ⟨_, h2⟩
        have h3 := h2 h.1
        rw [← leS_lt, h.2] at h3
        cases h3
    · rw [if_neg h]
      refine ⟨fun _ => ⟨rfl, fun hf => ?_⟩, fun _ => rfl⟩
      rw [← leS_lt]
      cases hl : leS name last with
      | false => rfl
      | true => exact absurd ⟨hf, hl⟩ h
/-- good names in order -/
theorem filesE_zero {f : Bool} {last : ByteArray} {l : List (ByteArray × List Int)} (h : filesE f last l = 0) : (l.map Prod.fst).Pairwise (fun a b => ltS a b = true) ∧ (∀ x ∈ l, goodP x.1 = true) ∧ (f = false → ∀ x ∈ l, ltS last x.1 = true) := by
  induction l generalizing f last with
  | nil => exact ⟨List.Pairwise.nil, by simp, by simp⟩
  | cons x r ih =>
    unfold filesE at h
    by_cases ho : ordE f last x.1 = 0
    · rw [if_neg (by simp [ho])] at h
      obtain ⟨h1, h2, h3⟩ := ih h
      obtain ⟨h4, h5⟩ := ordE_zero.1 ho
      refine ⟨List.pairwise_cons.2 ⟨fun y hy => ?_, h1⟩, fun y hy => ?_, fun hf y hy => ?_⟩
      · obtain ⟨z, hz, rfl⟩ := List.mem_map.1 hy
        exact h3 rfl z hz
      · rcases List.mem_cons.1 hy with rfl | hy
        · exact h4
        · exact h2 y hy
      · rcases List.mem_cons.1 hy with rfl | hy
        · exact h5 hf
        · exact ltS_trans (h5 hf) (h3 rfl y hy)
    · rw [if_pos ho] at h; exact absurd h ho
theorem dirsE_zero {f : Bool} {last : ByteArray} {D : Dsk} (h : dirsE f last D = 0) : (D.map Prod.fst).Pairwise (fun a b => ltS a b = true) ∧ (∀ x ∈ D, goodP x.1 = true) ∧ (∀ x ∈ D, filesE true noS x.2 = 0) ∧ (f = false → ∀ x ∈ D, ltS last x.1 = true) := by
  induction D generalizing f last with
  | nil => exact ⟨List.Pairwise.nil, by simp, by simp, by simp⟩
  | cons x r ih =>
    unfold dirsE at h
    by_cases ho : ordE f last x.1 = 0
    · rw [if_neg (by simp [ho])] at h
      by_cases hf0 : filesE true noS x.2 = 0
      · rw [if_neg (by simp [hf0])] at h
        obtain ⟨h1, h2, h2', h3⟩ := ih h
        obtain ⟨h4, h5⟩ := ordE_zero.1 ho
        refine ⟨List.pairwise_cons.2 ⟨fun y hy => ?_, h1⟩, fun y hy => ?_, fun y hy => ?_, fun hf y hy => ?_⟩
        · obtain ⟨z, hz, rfl⟩ := List.mem_map.1 hy
          exact h3 rfl z hz
        · rcases List.mem_cons.1 hy with rfl | hy
          · exact h4
          · exact h2 y hy
        · rcases List.mem_cons.1 hy with rfl | hy
          · exact hf0
          · exact h2' y hy
        · rcases List.mem_cons.1 hy with rfl | hy
          · exact h5 hf
          · exact ltS_trans (h5 hf) (h3 rfl y hy)
      · rw [if_pos hf0] at h; exact absurd h hf0
    · rw [if_pos ho] at h; exact absurd h ho
theorem numT_mem {n : Nat} {D : Dsk} {p : ByteArray × Fol} (h : p ∈ numT n D) : ∃ m, ∃ d ∈ D, p = (d.1, numF m d.2) := by
  induction D generalizing n with
  | nil => simp [numT] at h
  | cons y r ih =>
    simp only [numT, List.mem_cons] at h
    rcases h with rfl | h
    · exact ⟨n, y, by simp, rfl⟩
    · obtain ⟨m, d, hd, e⟩ := ih h
      exact ⟨m, d, List.mem_cons_of_mem _ hd, e⟩
theorem numF_mem {n : Nat} {l : List (ByteArray × List Int)} {q : ByteArray × Nat} (h : q ∈ numF n l) : ∃ x ∈ l, q.1 = x.1 := by
  have : q.1 ∈ (numF n l).map Prod.fst := List.mem_map.2 ⟨q, h, rfl⟩
  rw [numF_fst] at this
  obtain ⟨x, hx, e⟩ := List.mem_map.1 this
  exact ⟨x, hx, e.symm⟩
theorem val_numT {f : Bool} {last : ByteArray} {D : Dsk} (h : dirsE f last D = 0) : Val (cnt8 D) (numT 0 D) := by
  obtain ⟨h1, h2, h3, _⟩ := dirsE_zero h
  refine ⟨by unfold Srt; rw [numT_fst]; exact h1, fun p hp => ?_, fun p hp q hq => by have := numT_ids p hp q hq; omega, fun p hp => ?_, fun p hp q hq => ?_⟩
  · obtain ⟨m, d, hd, rfl⟩ := numT_mem hp
    unfold Srt
    rw [numF_fst]
    exact (filesE_zero (h3 d hd)).1
  · obtain ⟨m, d, hd, rfl⟩ := numT_mem hp
    exact h2 d hd
  · obtain ⟨m, d, hd, rfl⟩ := numT_mem hp
    obtain ⟨x, hx, e⟩ := numF_mem hq
    rw [e]
    exact (filesE_zero (h3 d hd)).2.1 x hx
/-- how much a disk holds -/
def bulk8 (D : Dsk) : Nat := (D.map fun d => (d.2.map fun x => x.2.length + 1).sum + 1).sum
theorem wd_numT (n : Nat) (D : Dsk) : wd (numT n D) ≤ bulk8 D := by
  unfold wd bulk8
  induction D generalizing n with
  | nil => simp [numT]
  | cons y r ih =>
    simp only [numT, List.map_cons, List.sum_cons, numF_len]
    have h1 := ih (n + y.2.length)
    have h2 : y.2.length ≤ (y.2.map fun x => x.2.length + 1).sum := by
      generalize y.2 = l
      induction l with
      | nil => simp
      | cons z l ih2 => simp only [List.length_cons, List.map_cons, List.sum_cons]; omega
    omega
theorem fls_bulk (D : Dsk) : filesBulk (fls D) + cnt8 D ≤ bulk8 D := by
  unfold filesBulk fls bulk8 cnt8
  induction D with
  | nil => simp
  | cons y r ih =>
    simp only [List.flatMap_cons, List.map_append, List.sum_append, List.map_cons, List.sum_cons, List.map_map]
    have h2 : ((y.2.map ((fun f : Fil => f.all.length + f.2.length) ∘ fun x => (x.2, []))).sum) + y.2.length = (y.2.map fun x => x.2.length + 1).sum := by
      generalize y.2 = l
      induction l with
      | nil => simp
      | cons z l ih2 => simp only [List.length_cons, List.map_cons, List.sum_cons, Function.comp, Fil.all, List.flatten_nil, List.append_nil, List.length_nil] at ih2 ⊢; omega
    omega
theorem inv_open {D : Dsk} {quota stop : Int} (h : openE D quota = 0) (hq : quota ≤ 9223372036854775807) : Inv (bulk8 D) (openS D quota stop) := by
  unfold openE at h
  by_cases h0 : quota < 0
  · rw [if_pos h0] at h; cases h
  · rw [if_neg h0] at h
    have hv := val_numT h
    have hb := fls_bulk D
    refine ⟨by simp only [openS, fls_len]; exact hv, trivial, rfl, by simp [openS], ?_, ?_, ?_, by simp [openS], by simp [openS], ⟨by simp only [openS]; omega, hq⟩⟩
    · have := wd_numT 0 D; simp only [openS, List.length_nil]; omega
    · simp only [openS, fls_len]; omega
    · simp only [openS]; omega
end Go.Proofs.Ytgomofeidghmiaa
