/-
  Layer 08, plain: each call keeps what holds of every state.
-/
import Derived.Test.YtgomofeidghmiaaVfO
namespace Go.Proofs.Ytgomofeidghmiaa
open Go.RowKit

theorem Inv.make {B : Nat} {S : St} (h : Inv B S) {c : Chn} (hc : c.ok S.files.length S.seen) : Inv (B + 1) (S.make c) := by
  obtain ⟨h1, h2, h3, h4, h5, h6, h7, h8, h9, h10⟩ := h
  refine ⟨h1, ?_, ?_, h4, ?_, ?_, ?_, ?_, ?_, h10⟩
  · exact okC_snoc.2 ⟨h2, by show Chn.ok S.files.length (runC S.safe S.chs) c; rw [h3]; exact hc⟩
  · show runC S.safe (S.chs ++ [c]) = c.on S.seen
    rw [runC_snoc, h3]
  all_goals (simp only [St.make, List.length_append, List.length_cons, List.length_nil]; omega)
theorem Inv.step {B : Nat} {S : St} (h : Inv B S) : Inv (B + 1) { S with steps := S.steps + 1 } := by
  obtain ⟨h1, h2, h3, h4, h5, h6, h7, h8, h9, h10⟩ := h
  exact ⟨h1, h2, h3, h4, by simp only; omega, by simp only; omega, by simp only; omega, by simp only; omega, by simp only; omega, h10⟩
theorem Inv.mkdir {B : Nat} {S : St} (h : Inv B S) (d : ByteArray) : Inv (B + 1) (S.mkdir d).1 := by
  unfold St.mkdir
  by_cases h0 : S.ask false [d] = 0
  · rw [if_neg (by simp [h0])]
    by_cases h1 : (aget S.seen d).isSome = true
    · rw [if_pos h1]; exact h.mono (by omega)
    · rw [if_neg h1]
      refine h.make ⟨(ask_good h0).2.1 d (by simp), ?_⟩
      cases hg : aget S.seen d with
      | none => rfl
      | some F => rw [hg] at h1; simp at h1
  · rw [if_pos h0]; exact h.mono (by omega)
theorem Inv.create {B : Nat} {S : St} (h : Inv B S) (d n : ByteArray) : Inv (B + 2) (S.create d n).1 := by
  unfold St.create
  by_cases h0 : S.ask true [d, n] = 0
  · rw [if_neg (by simp [h0])]
    by_cases h1 : (aget (folOf S.seen d) n).isSome = true
    · rw [if_pos h1]; exact h.mono (by omega)
    · rw [if_neg h1]
      obtain ⟨F, hF⟩ := (ask_good h0).2.2 rfl
      simp only [List.headD_cons] at hF
      have := (h.addFile []).make (c := .create d n S.files.length) ⟨by simp, (ask_good h0).2.1 n (by simp), F, hF, by
        rw [fol_some hF] at h1
        cases hg : aget F n with
        | none => rfl
        | some i => rw [hg] at h1; simp at h1⟩
      exact this.mono (by simp)
  · rw [if_pos h0]; exact h.mono (by omega)
theorem filesBulk_modify (fs : List Fil) (x : Nat) (φ : Fil → Fil) (k : Nat) (hφ : ∀ f, (φ f).all.length + (φ f).2.length ≤ f.all.length + f.2.length + k) : filesBulk (fs.modify x φ) ≤ filesBulk fs + k := by
  unfold filesBulk
  induction fs generalizing x with
  | nil => simp
  | cons f r ih =>
    cases x with
    | zero => simp only [List.modify_zero_cons, List.map_cons, List.sum_cons]; have := hφ f; omega
    | succ x => simp only [List.modify_succ_cons, List.map_cons, List.sum_cons]; have := ih x; omega
theorem Inv.modify {B k : Nat} {S : St} (h : Inv B S) (x : Nat) (φ : Fil → Fil) (wr' : List Nat) (hφ : ∀ f, (φ f).all.length + (φ f).2.length ≤ f.all.length + f.2.length + k) (hw : ∀ y ∈ wr', y < S.files.length) (hl : wr'.length ≤ S.wr.length + 1) : Inv (B + k + 1) { S with files := S.files.modify x φ, wr := wr', steps := S.steps + 1 } := by
  obtain ⟨h1, h2, h3, h4, h5, h6, h7, h8, h9, h10⟩ := h
  have hb := filesBulk_modify S.files x φ k hφ
  refine ⟨by simpa using h1, by simpa using h2, h3, by simpa using hw, by simp only; omega, by simp only [List.length_modify]; omega, by simp only; omega, by simp only; omega, by simp only; omega, h10⟩
theorem Inv.write {B : Nat} {S : St} (h : Inv B S) (d n : ByteArray) (xs : List Int) : Inv (B + xs.length + 2) (S.write d n xs).1 := by
  unfold St.write
  cases hf : S.fnd d n with
  | mk o e =>
    cases o with
    | none => exact h.mono (by omega)
    | some x =>
      simp only
      by_cases hx : xs = []
      · rw [if_pos hx]; exact h.step.mono (by omega)
      · rw [if_neg hx]
        by_cases hq : S.quota < (S.used : Int) + xs.length
        · rw [if_pos hq]; exact h.mono (by omega)
        · rw [if_neg hq]
          have := h.modify (k := xs.length + 1) x (fun f => (f.1, f.2 ++ [xs])) (S.wr ++ [x]) (fun f => by simp [Fil.all]; omega) (fun y hy => by
            rcases List.mem_append.1 hy with hy | hy
            · exact h.wr y hy
            · simp only [List.mem_singleton] at hy; subst hy; exact fnd_lt h hf) (by simp)
          exact this.mono (by omega)
theorem Inv.sync {B : Nat} {S : St} (h : Inv B S) (d n : ByteArray) : Inv (B + 1) (S.sync d n).1 := by
  unfold St.sync
  cases hf : S.fnd d n with
  | mk o e =>
    cases o with
    | none => exact h.mono (by omega)
    | some x =>
      exact h.modify (k := 0) x (fun f => (Fil.all f, [])) (S.wr.filter (fun y => y != x)) (fun f => by simp [Fil.all]) (fun y hy => h.wr y (List.mem_filter.1 hy).1) (Nat.le_trans (List.length_filter_le _ _) (by omega))
theorem Inv.names {B : Nat} {S : St} (h : Inv B S) : Inv (B + 1) S.names.1 := by
  unfold St.names
  by_cases hd : S.down = true
  · rw [if_pos hd]; exact h.mono (by omega)
  · rw [if_neg hd]
    have hv := h.val
    have hw := h.wd
    obtain ⟨h1, h2, h3, h4, h5, h6, h7, h8, h9, h10⟩ := h
    exact ⟨hv, trivial, rfl, h4, by simp only [List.length_nil]; omega, by simp only; omega, by simp only; omega, by simp only; omega, by simp only; omega, h10⟩
theorem Inv.rename {B : Nat} {S : St} (h : Inv B S) (a b : ByteArray) : Inv (B + 1) (S.rename a b).1 := by
  unfold St.rename
  by_cases h0 : S.ask true [a, b] = 0
  · rw [if_neg (by simp [h0])]
    obtain ⟨F, hF⟩ := (ask_good h0).2.2 rfl
    simp only [List.headD_cons] at hF
    exact h.make ⟨(ask_good h0).2.1 b (by simp), F, hF⟩
  · rw [if_pos h0]; exact h.mono (by omega)
theorem Inv.remove {B : Nat} {S : St} (h : Inv B S) (d n : ByteArray) : Inv (B + 1) (S.remove d n).1 := by
  unfold St.remove
  cases hf : S.fnd d n with
  | mk o e =>
    cases o with
    | none => exact h.mono (by omega)
    | some x =>
      obtain ⟨_, _, F, hF, _⟩ := fnd_good hf
      exact h.make ⟨F, hF⟩
theorem Inv.rmdir {B : Nat} {S : St} (h : Inv B S) (d : ByteArray) : Inv (B + 1) (S.rmdir d).1 := by
  unfold St.rmdir
  by_cases h0 : S.ask true [d] = 0
  · rw [if_neg (by simp [h0])]
    obtain ⟨F, hF⟩ := (ask_good h0).2.2 rfl
    simp only [List.headD_cons] at hF
    by_cases h1 : (folOf S.seen d).length > 0
    · rw [if_pos h1]; exact h.mono (by omega)
    · rw [if_neg h1]; exact h.make ⟨F, hF⟩
  · rw [if_pos h0]; exact h.mono (by omega)
end Go.Proofs.Ytgomofeidghmiaa
