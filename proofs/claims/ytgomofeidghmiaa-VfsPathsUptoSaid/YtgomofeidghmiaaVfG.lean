/-
  Layer 08: the program's file system in memory.
-/
import Derived.Test.YtgomofeidghmiaaVfF
namespace Go.Proofs.Ytgomofeidghmiaa
open Go.RowKit

/-! blocks in parts, each block in one part -/
def Sep (Ps : List (List Nat)) : Prop := Ps.Pairwise fun a b => ∀ x ∈ a, x ∉ b
structure Lay (w : World) (Ps : List (List Nat)) : Prop where
  sep : Sep Ps
  lt : ∀ P ∈ Ps, ∀ x ∈ P, x < w.heap.size

theorem Sep.ne {Ps : List (List Nat)} (h : Sep Ps) {i j : Nat} {P Q : List Nat} (hi : Ps[i]? = some P) (hj : Ps[j]? = some Q) (hij : i ≠ j) : ∀ x ∈ P, x ∉ Q := by
  have hil := (List.getElem?_eq_some_iff.1 hi)
  have hjl := (List.getElem?_eq_some_iff.1 hj)
  obtain ⟨hi1, rfl⟩ := hil
  obtain ⟨hj1, rfl⟩ := hjl
  intro x hx hq
  rcases Nat.lt_or_gt_of_ne hij with h1 | h1
  · exact (List.pairwise_iff_getElem.1 h i j hi1 hj1 h1) x hx hq
  · exact (List.pairwise_iff_getElem.1 h j i hj1 hi1 h1) x hq hx
theorem Lay.ne {w : World} {Ps : List (List Nat)} (h : Lay w Ps) {i j : Nat} {P Q : List Nat} (hi : Ps[i]? = some P) (hj : Ps[j]? = some Q) (hij : i ≠ j) : ∀ x ∈ P, x ∉ Q := h.sep.ne hi hj hij
theorem Lay.mono {w w' : World} {Ps : List (List Nat)} (h : Lay w Ps) (hs : w.heap.size ≤ w'.heap.size) : Lay w' Ps := ⟨h.sep, fun P hP x hx => Nat.lt_of_lt_of_le (h.lt P hP x hx) hs⟩
/-- one part is another one now -/
theorem Lay.set_ {w w' : World} {Ps : List (List Nat)} (h : Lay w Ps) {i : Nat} {P P' : List Nat} (hi : Ps[i]? = some P) (hn : ∀ x ∈ P', x ∈ P ∨ w.heap.size ≤ x) (hl : ∀ x ∈ P', x < w'.heap.size) (hs : w.heap.size ≤ w'.heap.size) : Lay w' (Ps.set i P') := by
  have hil : i < Ps.length := (List.getElem?_eq_some_iff.1 hi).1
  refine ⟨?_, fun Q hQ x hx => ?_⟩
  · unfold Sep
    rw [List.pairwise_iff_getElem]
    intro a b ha hb hab
    have ha' : a < Ps.length := by simpa using ha
    have hb' : b < Ps.length := by simpa using hb
    have hlt : ∀ (c : Nat) (hc : c < Ps.length), ∀ x ∈ Ps[c], x < w.heap.size := fun c hc x hx => h.lt _ (List.getElem_mem hc) x hx
    rw [List.getElem_set, List.getElem_set]
    intro x hx hxb
    by_cases h1 : i = a
    · rw [if_pos h1] at hx
      rw [if_neg (by omega)] at hxb
      rcases hn x hx with h2 | h2
      · exact h.ne hi (List.getElem?_eq_getElem hb') (by omega) x h2 hxb
      · have := hlt b hb' x hxb; omega
    · rw [if_neg h1] at hx
      by_cases h3 : i = b
      · rw [if_pos h3] at hxb
        rcases hn x hxb with h2 | h2
        · exact h.ne hi (List.getElem?_eq_getElem ha') (by omega) x h2 hx
        · have := hlt a ha' x hx; omega
      · rw [if_neg h3] at hxb
        exact (List.pairwise_iff_getElem.1 h.sep a b ha' hb' hab) x hx hxb
  · rcases List.mem_or_eq_of_mem_set hQ with h1 | rfl
    · exact Nat.lt_of_lt_of_le (h.lt Q h1 x hx) hs
    · exact hl x hx
/-- one part more -/
theorem Lay.snoc {w w' : World} {Ps : List (List Nat)} (h : Lay w Ps) {P : List Nat} (hn : ∀ x ∈ P, w.heap.size ≤ x) (hl : ∀ x ∈ P, x < w'.heap.size) (hs : w.heap.size ≤ w'.heap.size) : Lay w' (Ps ++ [P]) := by
  refine ⟨?_, fun Q hQ x hx => ?_⟩
  · unfold Sep
    rw [List.pairwise_append]
    refine ⟨h.sep, by simp, fun Q hQ R hR x hx hr => ?_⟩
    simp only [List.mem_singleton] at hR
    subst hR
    have h1 := hn x hr
    have h2 := h.lt Q hQ x hx
    omega
  · rcases List.mem_append.1 hQ with h1 | h1
    · exact Nat.lt_of_lt_of_le (h.lt Q h1 x hx) hs
    · simp only [List.mem_singleton] at h1; subst h1; exact hl x hx

/-- a change's closure in memory; K: blocks that never change -/
def ChnV (w : World) (ib K : List Nat) : Chn → Value → Prop
  | .mkdir d, v => ∃ k, v = .func (.func 58) #[] #[.pointer (some ⟨k, 0, none⟩)] ∧ k ∈ K ∧ w.cell? ⟨k, 0, none⟩ = some (.string d)
  | .rmdir d, v => ∃ k, v = .func (.func 73) #[] #[.pointer (some ⟨k, 0, none⟩)] ∧ k ∈ K ∧ w.cell? ⟨k, 0, none⟩ = some (.string d)
  | .create d n i, v => ∃ x k j, v = .func (.func 59) #[] #[.pointer (some ⟨x, 0, none⟩), .pointer (some ⟨k, 0, none⟩), .pointer (some ⟨j, 0, none⟩)] ∧ x ∈ K ∧ k ∈ K ∧ j ∈ K ∧
      w.cell? ⟨x, 0, none⟩ = some (.pointer (some ⟨ibf ib i, 0, none⟩)) ∧ w.cell? ⟨k, 0, none⟩ = some (.string d) ∧ w.cell? ⟨j, 0, none⟩ = some (.string n) ∧ i < ib.length
  | .remove d n, v => ∃ k j, v = .func (.func 72) #[] #[.pointer (some ⟨k, 0, none⟩), .pointer (some ⟨j, 0, none⟩)] ∧ k ∈ K ∧ j ∈ K ∧ w.cell? ⟨k, 0, none⟩ = some (.string d) ∧ w.cell? ⟨j, 0, none⟩ = some (.string n)
  | .rename d n, v => ∃ k j, v = .func (.func 57) #[] #[.pointer (some ⟨k, 0, none⟩), .pointer (some ⟨j, 0, none⟩)] ∧ k ∈ K ∧ j ∈ K ∧ w.cell? ⟨k, 0, none⟩ = some (.string d) ∧ w.cell? ⟨j, 0, none⟩ = some (.string n)
theorem ChnV.keep {w w' : World} {ib ib' K K' L : List Nat} {c : Chn} {v : Value} (h : ChnV w ib K c v) (hc : Chg L w w') (hL : ∀ x ∈ K, x ∉ L) (hK : ∀ x ∈ K, x ∈ K') (hib : ∀ i < ib.length, ibf ib' i = ibf ib i) (hl : ib.length ≤ ib'.length) : ChnV w' ib' K' c v := by
  cases c with
  | mkdir d => obtain ⟨k, h1, h2, h3⟩ := h; exact ⟨k, h1, hK k h2, hc.cell h3 (hL k h2)⟩
  | rmdir d => obtain ⟨k, h1, h2, h3⟩ := h; exact ⟨k, h1, hK k h2, hc.cell h3 (hL k h2)⟩
  | create d n i =>
    obtain ⟨x, k, j, h1, h2, h3, h4, h5, h6, h7, h8⟩ := h
    exact ⟨x, k, j, h1, hK x h2, hK k h3, hK j h4, by rw [hib i h8]; exact hc.cell h5 (hL x h2), hc.cell h6 (hL k h3), hc.cell h7 (hL j h4), by omega⟩
  | remove d n => obtain ⟨k, j, h1, h2, h3, h4, h5⟩ := h; exact ⟨k, j, h1, hK k h2, hK j h3, hc.cell h4 (hL k h2), hc.cell h5 (hL j h3)⟩
  | rename d n => obtain ⟨k, j, h1, h2, h3, h4, h5⟩ := h; exact ⟨k, j, h1, hK k h2, hK j h3, hc.cell h4 (hL k h2), hc.cell h5 (hL j h3)⟩

/-- where a file system lies -/
structure FsG where
  b : Nat
  t1 : Nat
  t2 : Nat
  g1 : GTr
  g2 : GTr
  A : Option Addr
  c : Nat
  vs : List Value
  Aw : Option Addr
  cw : Nat
  K : List Nat
  ib : List Nat
  sg : List Nat
  Ls : List (List Nat)
/-- parts: 0 the struct, 1 seen, 2 safe, 3 pending, 4 writes, 5 what never changes, from 6 on the Spools -/
def FsG.parts (G : FsG) : List (List Nat) := [G.b] :: tbl G.t1 G.g1 :: tbl G.t2 G.g2 :: bo G.A :: bo G.Aw :: G.K :: G.Ls
def FsG.all (G : FsG) : List Nat := G.parts.flatten
def inoV (ib : List Nat) (i : Nat) : Value := .pointer (some ⟨ibf ib i, 0, none⟩)
/-- a file in memory: its inode, its Spool -/
def InoM (w : World) (x g : Nat) (L : List Nat) (f : Fil) : Prop := Blk w x 85 #[.pointer (some ⟨g, 0, none⟩)] ∧ Spo w g L f.1 f.2

structure FsM (w : World) (G : FsG) (S : St) : Prop where
  blk : Blk w G.b 77 #[.map (some G.t1), .map (some G.t2), .slice G.A S.chs.length G.c, .slice G.Aw S.wr.length G.cw, .int .i64 S.quota, .int .i64 S.stop, .int .i64 (S.steps : Int)]
  tr1 : Tree w G.t1 G.g1
  is1 : TreeIs G.ib G.g1 S.seen
  tr2 : Tree w G.t2 G.g2
  is2 : TreeIs G.ib G.g2 S.safe
  own : Own w 106 1 G.A S.chs.length G.c G.vs
  chn : ∀ (i : Nat) (c : Chn) (v : Value), S.chs[i]? = some c → G.vs[i]? = some v → ChnV w G.ib G.K c v
  wrs : Own w 81 1 G.Aw S.wr.length G.cw (S.wr.map (inoV G.ib))
  ibl : G.ib.length = S.files.length
  sgl : G.sg.length = S.files.length
  lsl : G.Ls.length = S.files.length
  ibn : G.ib.Nodup
  ibk : ∀ x ∈ G.ib, x ∈ G.K
  ino : ∀ (i x g : Nat) (L : List Nat) (f : Fil), G.ib[i]? = some x → G.sg[i]? = some g → G.Ls[i]? = some L → S.files[i]? = some f → InoM w x g L f
  lay : Lay w G.parts

theorem FsM.vsl {w : World} {G : FsG} {S : St} (h : FsM w G S) : G.vs.length = S.chs.length := by have := h.own.1; omega

theorem FsG.mem_all {G : FsG} {x : Nat} {P : List Nat} {i : Nat} (hi : G.parts[i]? = some P) (hx : x ∈ P) : x ∈ G.all := List.mem_flatten.2 ⟨P, List.mem_of_getElem? hi, hx⟩
theorem InoM.keep {w w' : World} {x g : Nat} {L M : List Nat} {f : Fil} (h : InoM w x g L f) (hc : Chg M w w') (h1 : x ∉ M) (h2 : ∀ k ∈ L, k ∉ M) : InoM w' x g L f :=
  ⟨h.1.chg hc h1, h.2.chg hc h2⟩
theorem FsM.at_ {w : World} {G : FsG} {S : St} (h : FsM w G S) {i : Nat} {f : Fil} (hf : S.files[i]? = some f) : ∃ x g L, G.ib[i]? = some x ∧ G.sg[i]? = some g ∧ G.Ls[i]? = some L ∧ InoM w x g L f := by
  have hl := (List.getElem?_eq_some_iff.1 hf).1
  have h1 := h.ibl; have h2 := h.sgl; have h3 := h.lsl
  exact ⟨_, _, _, List.getElem?_eq_getElem (by omega), List.getElem?_eq_getElem (by omega), List.getElem?_eq_getElem (by omega), h.ino i _ _ _ f (List.getElem?_eq_getElem (by omega)) (List.getElem?_eq_getElem (by omega)) (List.getElem?_eq_getElem (by omega)) hf⟩
theorem FsM.lt {w : World} {G : FsG} {S : St} (h : FsM w G S) : ∀ x ∈ G.all, x < w.heap.size := by
  intro x hx
  obtain ⟨P, hP, hx⟩ := List.mem_flatten.1 hx
  exact h.lay.lt P hP x hx
/-- nothing of it has changed -/
theorem FsM.keep {w w' : World} {G : FsG} {S : St} {L : List Nat} (h : FsM w G S) (hc : Chg L w w') (hn : ∀ x ∈ G.all, x ∉ L) : FsM w' G S := by
  have hm : ∀ (i : Nat) (P : List Nat), G.parts[i]? = some P → ∀ x ∈ P, x ∉ L := fun i P hi x hx => hn x (FsG.mem_all hi hx)
  refine ⟨h.blk.chg hc (hm 0 _ rfl _ (by simp)), h.tr1.keep hc (hm 1 _ rfl), h.is1, h.tr2.keep hc (hm 2 _ rfl), h.is2, h.own.chg hc (hm 3 _ rfl), fun i c v h1 h2 => (h.chn i c v h1 h2).keep hc (hm 5 _ rfl) (fun _ h => h) (fun _ _ => rfl) (Nat.le_refl _),
    h.wrs.chg hc (hm 4 _ rfl), h.ibl, h.sgl, h.lsl, h.ibn, h.ibk, fun i x g M f h1 h2 h3 h4 => (h.ino i x g M f h1 h2 h3 h4).keep hc (hm 5 _ rfl x (h.ibk x (List.mem_of_getElem? h1))) (hm (i + 6) M (by simpa [FsG.parts] using h3)), h.lay.mono hc.size⟩
theorem FsM.keep0 {w w' : World} {G : FsG} {S : St} (h : FsM w G S) (hc : Chg [] w w') : FsM w' G S := h.keep hc (fun _ _ => List.not_mem_nil)

/-- a call has turned it into that -/
def FsTo (w : World) (G : FsG) (S' : St) (w' : World) : Prop := ∃ G', FsM w' G' S' ∧ G'.b = G.b ∧ (∀ x ∈ G'.all, x ∈ G.all ∨ w.heap.size ≤ x) ∧ Chg G.all w w'
theorem FsTo.same {w w' : World} {G : FsG} {S : St} (h : FsM w G S) (hc : Chg [] w w') : FsTo w G S w' := ⟨G, h.keep0 hc, rfl, fun x hx => .inl hx, hc.nil _⟩
end Go.Proofs.Ytgomofeidghmiaa
