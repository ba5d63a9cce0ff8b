/-
  Layer 08: trees in memory stand for plain trees; what each change's closure does to one.
-/
import Derived.Test.YtgomofeidghmiaaVfSt
import Derived.Test.YtgomofeidghmiaaVfE
namespace Go.Proofs.Ytgomofeidghmiaa
open Go.RowKit

section
variable {κ α β : Type} [DecidableEq κ]
theorem aput_map (f : α → β) (t : List (κ × α)) (k : κ) (v : α) : aput (t.map fun p => (p.1, f p.2)) k (f v) = (aput t k v).map fun p => (p.1, f p.2) := by
  induction t with
  | nil => rfl
  | cons p r ih =>
    rw [List.map_cons, aput_cons, aput_cons, ih]
    by_cases h : p.1 = k <;> simp [h]
theorem adel_map (f : α → β) (t : List (κ × α)) (k : κ) : adel (t.map fun p => (p.1, f p.2)) k = (adel t k).map fun p => (p.1, f p.2) := by
  induction t with
  | nil => rfl
  | cons p r ih =>
    rw [List.map_cons, adel_cons, adel_cons, ih]
    by_cases h : p.1 = k <;> simp [h]
theorem mem_aput {t : List (κ × α)} (hn : (t.map Prod.fst).Nodup) {k : κ} {v : α} {p : κ × α} : p ∈ aput t k v ↔ p = (k, v) ∨ (p ∈ t ∧ p.1 ≠ k) := by
  rw [(aput_perm hn k v).mem_iff, List.mem_cons]
  unfold without; simp
theorem mem_adel {t : List (κ × α)} (hn : (t.map Prod.fst).Nodup) {k : κ} {p : κ × α} : p ∈ adel t k ↔ (p ∈ t ∧ p.1 ≠ k) := by
  rw [adel_without hn]
  unfold without; simp
theorem adel_nodup {t : List (κ × α)} (hn : (t.map Prod.fst).Nodup) (k : κ) : ((adel t k).map Prod.fst).Nodup := by
  rw [adel_without hn]
  exact hn.sublist (List.filter_sublist.map _)
theorem aput_same {t : List (κ × α)} {k : κ} {v : α} (h : aget t k = some v) : aput t k v = t := by
  induction t with
  | nil => cases h
  | cons p r ih =>
    rw [aget_cons] at h
    rw [aput_cons]
    by_cases hp : p.1 = k
    · rw [if_pos hp] at h ⊢
      injection h with h
      rw [← hp, ← h]
    · rw [if_neg hp] at h ⊢
      rw [ih h]
end

abbrev GTr := List (ByteArray × Nat × List (ByteArray × Nat))
/-- a tree's blocks -/
def tbl (tb : Nat) (g : GTr) : List Nat := tb :: g.map fun p => p.2.1
/-- a file's inode -/
def ibf (ib : List Nat) (i : Nat) : Nat := ib.getD i 0
/-- the tree in memory is that -/
structure TreeIs (ib : List Nat) (g : GTr) (T : Tr) : Prop where
  top : ∀ k, (aget g k).isSome = (aget T k).isSome
  sub : ∀ k d F, aget g k = some d → aget T k = some F → ∀ n, aget d.2 n = (aget F n).map (ibf ib)

theorem tval_fst (g : GTr) : (tval g).map Prod.fst = g.map Prod.fst := by unfold tval; rw [List.map_map]; rfl
theorem fval_fst (f : List (ByteArray × Nat)) : (fval f).map Prod.fst = f.map Prod.fst := by unfold fval; rw [List.map_map]; rfl
theorem Tree.nodup {w : World} {tb : Nat} {g : GTr} (h : Tree w tb g) : (g.map Prod.fst).Nodup := by rw [← tval_fst]; exact h.top.nodup
theorem Tree.subnodup {w : World} {tb : Nat} {g : GTr} (h : Tree w tb g) {p : ByteArray × Nat × List (ByteArray × Nat)} (hp : p ∈ g) : (p.2.2.map Prod.fst).Nodup := by rw [← fval_fst]; exact (h.sub p hp).nodup
theorem Tree.lt {w : World} {tb : Nat} {g : GTr} (h : Tree w tb g) : ∀ x ∈ tbl tb g, x < w.heap.size := by
  intro x hx
  rcases List.mem_cons.1 hx with rfl | hx
  · exact h.top.lt
  · obtain ⟨p, hp, rfl⟩ := List.mem_map.1 hx
    exact (h.sub p hp).lt
theorem Tree.keep {w w' : World} {tb : Nat} {g : GTr} {L : List Nat} (h : Tree w tb g) (hc : Chg L w w') (hn : ∀ x ∈ tbl tb g, x ∉ L) : Tree w' tb g :=
  h.chg hc (hn tb (by simp [tbl])) (fun p hp => hn _ (by simp only [tbl, List.mem_cons, List.mem_map]; exact .inr ⟨p, hp, rfl⟩))
theorem TreeIs.get {ib : List Nat} {g : GTr} {T : Tr} (h : TreeIs ib g T) {k : ByteArray} {F : Fol} (hF : aget T k = some F) : ∃ d, aget g k = some d ∧ ∀ n, aget d.2 n = (aget F n).map (ibf ib) := by
  have := h.top k
  rw [hF] at this
  cases hg : aget g k with
  | none => rw [hg] at this; cases this
  | some d => exact ⟨d, rfl, h.sub k d F hg hF⟩
theorem TreeIs.none {ib : List Nat} {g : GTr} {T : Tr} (h : TreeIs ib g T) {k : ByteArray} (hF : aget T k = none) : aget g k = none := by
  have := h.top k
  rw [hF] at this
  cases hg : aget g k with
  | none => rfl
  | some d => rw [hg] at this; cases this
/-- a directory in memory: there, or not -/
theorem TreeIs.fol {ib : List Nat} {g : GTr} {T : Tr} (h : TreeIs ib g T) (k n : ByteArray) : ((aget g k).bind fun d => aget d.2 n) = (aget (folOf T k) n).map (ibf ib) := by
  unfold folOf
  cases hF : aget T k with
  | none => rw [h.none hF]; rfl
  | some F => obtain ⟨d, hd, hs⟩ := h.get hF; rw [hd]; exact hs n
theorem TreeIs.keys {ib : List Nat} {g : GTr} {T : Tr} (h : TreeIs ib g T) (hn : (g.map Prod.fst).Nodup) (hT : Srt T) : (g.map Prod.fst).Perm (T.map Prod.fst) := by
  rw [List.perm_ext_iff_of_nodup hn hT.nodup]
  intro k
  rw [← aget_isSome, ← aget_isSome, h.top]
theorem fol_keys {ib : List Nat} {f : List (ByteArray × Nat)} {F : Fol} (h : ∀ n, aget f n = (aget F n).map (ibf ib)) (hn : (f.map Prod.fst).Nodup) (hF : Srt F) : (f.map Prod.fst).Perm (F.map Prod.fst) := by
  rw [List.perm_ext_iff_of_nodup hn hF.nodup]
  intro k
  rw [← aget_isSome, ← aget_isSome, h k]
  cases aget F k <;> rfl

theorem TreeIs.put {ib : List Nat} {g : GTr} {T T' : Tr} {d : ByteArray} {fb : Nat} {f : List (ByteArray × Nat)} {F : Fol} (h : TreeIs ib g T) (hn : (g.map Prod.fst).Nodup) (hT : ∀ k, aget T' k = if d = k then some F else aget T k)
    (hf : ∀ n, aget f n = (aget F n).map (ibf ib)) : TreeIs ib (aput g d (fb, f)) T' := by
  refine ⟨fun k => ?_, fun k e F' he hF' => ?_⟩
  · rw [aget_aput hn, hT]
    by_cases hk : d = k
    · rw [if_pos hk, if_pos hk]; rfl
    · rw [if_neg hk, if_neg hk]; exact h.top k
  · rw [aget_aput hn] at he
    rw [hT] at hF'
    by_cases hk : d = k
    · rw [if_pos hk] at he hF'
      injection he with he; injection hF' with hF'
      rw [← he, ← hF']; exact hf
    · rw [if_neg hk] at he hF'
      exact h.sub k e F' he hF'
theorem TreeIs.del {ib : List Nat} {g : GTr} {T T' : Tr} {d : ByteArray} (h : TreeIs ib g T) (hn : (g.map Prod.fst).Nodup) (hT : ∀ k, aget T' k = if d = k then Option.none else aget T k) : TreeIs ib (adel g d) T' := by
  refine ⟨fun k => ?_, fun k e F' he hF' => ?_⟩
  · rw [aget_adel hn, hT]
    by_cases hk : d = k
    · rw [if_pos hk, if_pos hk]; rfl
    · rw [if_neg hk, if_neg hk]; exact h.top k
  · rw [aget_adel hn] at he
    rw [hT] at hF'
    by_cases hk : d = k
    · rw [if_pos hk] at he; cases he
    · rw [if_neg hk] at he hF'
      exact h.sub k e F' he hF'

theorem Tree.put {w w' : World} {tb : Nat} {g : GTr} {L : List Nat} {d : ByteArray} {fb : Nat} {f : List (ByteArray × Nat)} (hn : (g.map Prod.fst).Nodup) (hs : ∀ p ∈ g, Mp w p.2.1 kvS (fval p.2.2)) (ha : (tbl tb g).Nodup) (hc : Chg L w w')
    (htop : Mp w' tb kvS (aput (tval g) d (.map (some fb)))) (hf : Mp w' fb kvS (fval f)) (h1 : fb ≠ tb) (h2 : ∀ p ∈ g, p.1 ≠ d → p.2.1 ≠ fb) (hL : ∀ p ∈ g, p.1 ≠ d → p.2.1 ∉ L) : Tree w' tb (aput g d (fb, f)) := by
  refine ⟨?_, fun p hp => ?_, ?_⟩
  · have := aput_map (fun x : Nat × List (ByteArray × Nat) => Value.map (some x.1)) g d (fb, f)
    unfold tval at htop ⊢
    rw [← this]
    exact htop
  · rcases (mem_aput hn).1 hp with rfl | ⟨hp, hd⟩
    · exact hf
    · exact (hs p hp).chg hc (hL p hp hd)
  · have hp := ((aput_perm hn d (fb, f)).map fun p => p.2.1).cons tb
    refine hp.nodup_iff.2 ?_
    have ha' := List.nodup_cons.1 ha
    rw [List.map_cons, List.nodup_cons, List.nodup_cons]
    have hsub : ((without g d).map fun p => p.2.1).Sublist (g.map fun p => p.2.1) := List.filter_sublist.map _
    refine ⟨?_, ?_, ha'.2.sublist hsub⟩
    · rw [List.mem_cons, not_or]
      exact ⟨fun e => h1 e.symm, fun hm => ha'.1 (hsub.subset hm)⟩
    · intro hm
      obtain ⟨p, hp, e⟩ := List.mem_map.1 hm
      unfold without at hp
      simp only [List.mem_filter, decide_eq_true_eq] at hp
      exact h2 p hp.1 hp.2 e
theorem Tree.del {w w' : World} {tb : Nat} {g : GTr} {d : ByteArray} (h : Tree w tb g) (hc : Chg [tb] w w') (htop : Mp w' tb kvS (adel (tval g) d)) : Tree w' tb (adel g d) := by
  have hn := h.nodup
  refine ⟨?_, fun p hp => ?_, ?_⟩
  · have := adel_map (fun x : Nat × List (ByteArray × Nat) => Value.map (some x.1)) g d
    unfold tval at htop ⊢
    rw [← this]
    exact htop
  · have hp := ((mem_adel hn).1 hp).1
    refine (h.sub p hp).chg hc ?_
    have := (List.nodup_cons.1 h.apart).1
    intro e
    simp only [List.mem_singleton] at e
    exact this (List.mem_map.2 ⟨p, hp, e⟩)
  · rw [adel_without hn]
    have hsub : ((without g d).map fun p => p.2.1).Sublist (g.map fun p => p.2.1) := List.filter_sublist.map _
    exact h.apart.sublist (hsub.cons_cons tb)
theorem Tree.ne_top {w : World} {tb : Nat} {g : GTr} (h : Tree w tb g) {p : ByteArray × Nat × List (ByteArray × Nat)} (hp : p ∈ g) : p.2.1 ≠ tb := fun e => (List.nodup_cons.1 h.apart).1 (List.mem_map.2 ⟨p, hp, e⟩)
theorem nodup_inj {α β : Type} {l : List α} {f : α → β} (hn : (l.map f).Nodup) {a b : α} (ha : a ∈ l) (hb : b ∈ l) (h : f a = f b) : a = b := by
  induction l with
  | nil => simp at ha
  | cons x r ih =>
    rw [List.map_cons, List.nodup_cons] at hn
    rcases List.mem_cons.1 ha with ha1 | ha1
    · rcases List.mem_cons.1 hb with hb1 | hb1
      · rw [ha1, hb1]
      · exact (hn.1 (List.mem_map.2 ⟨b, hb1, by rw [← h, ha1]⟩)).elim
    · rcases List.mem_cons.1 hb with hb1 | hb1
      · exact (hn.1 (List.mem_map.2 ⟨a, ha1, by rw [h, hb1]⟩)).elim
      · exact ih hn.2 ha1 hb1
theorem Tree.ne_sub {w : World} {tb : Nat} {g : GTr} (h : Tree w tb g) {p q : ByteArray × Nat × List (ByteArray × Nat)} (hp : p ∈ g) (hq : q ∈ g) (hne : p.1 ≠ q.1) : p.2.1 ≠ q.2.1 := by
  intro e
  have := nodup_inj (List.nodup_cons.1 h.apart).2 hp hq e
  exact hne (by rw [this])

/-- behind a change: the tree is that -/
def CloTo (w : World) (tb : Nat) (g : GTr) (ib : List Nat) (T' : Tr) (w' : World) : Prop :=
  (∃ g', Tree w' tb g' ∧ TreeIs ib g' T' ∧ ∀ x ∈ tbl tb g', x ∈ tbl tb g ∨ w.heap.size ≤ x) ∧ Chg (tbl tb g) w w'

section
variable {w : World} {tb : Nat} {g : GTr} {ib : List Nat} {T : Tr} {m : Nat}
theorem tbl_aput {d : ByteArray} {fb : Nat} {f : List (ByteArray × Nat)} {B : Nat} (hn : (g.map Prod.fst).Nodup) (h : fb ∈ tbl tb g ∨ B ≤ fb) : ∀ x ∈ tbl tb (aput g d (fb, f)), x ∈ tbl tb g ∨ B ≤ x := by
  intro x hx
  unfold tbl at hx h ⊢
  rcases List.mem_cons.1 hx with rfl | hx
  · left; simp
  · obtain ⟨p, hp, rfl⟩ := List.mem_map.1 hx
    rcases (mem_aput hn).1 hp with rfl | ⟨hp, hd⟩
    · exact h
    · left; exact List.mem_cons_of_mem _ (List.mem_map.2 ⟨p, hp, rfl⟩)
theorem mem_tbl {p : ByteArray × Nat × List (ByteArray × Nat)} (hp : p ∈ g) : p.2.1 ∈ tbl tb g := List.mem_cons_of_mem _ (List.mem_map.2 ⟨p, hp, rfl⟩)

theorem cl_mkdir {d : ByteArray} {k : Nat} (ht : Tree w tb g) (hi : TreeIs ib g T) (hd : aget T d = none) (hk : w.cell? ⟨k, 0, none⟩ = some (.string d)) :
    Calls Try.prog 58 #[.map (some tb), .pointer (some ⟨k, 0, none⟩)] w fun e w' => e = .returned (.tuple #[]) ∧ CloTo w tb g ib (Chn.on T (.mkdir d)) w' := by
  refine (mkdir1_any tb k (tval g) d w ht.top hk).mono ?_
  rintro e w' ⟨rfl, fb, hge, hfb, htop, hc⟩
  have h2 : ∀ p ∈ g, p.2.1 ≠ fb := fun p hp e => by have := (ht.sub p hp).lt; omega
  have htl := ht.top.lt
  refine ⟨rfl, ⟨aput g d (fb, []), Tree.put ht.nodup ht.sub ht.apart hc htop (by simpa [fval] using hfb) (by omega) (fun p hp _ => h2 p hp) (fun p hp _ => by simpa using ht.ne_top hp),
    hi.put ht.nodup (fun k => aget_withS (aget_none.1 hd) _ k) (fun n => rfl), tbl_aput ht.nodup (.inr hge)⟩, hc.mono (by simp [tbl])⟩

theorem cl_rmdir {d : ByteArray} {k : Nat} (ht : Tree w tb g) (hi : TreeIs ib g T) (hk : w.cell? ⟨k, 0, none⟩ = some (.string d)) :
    Calls Try.prog 73 #[.map (some tb), .pointer (some ⟨k, 0, none⟩)] w fun e w' => e = .returned (.tuple #[]) ∧ CloTo w tb g ib (Chn.on T (.rmdir d)) w' := by
  refine (rmdir1_any tb k (tval g) d w ht.top hk).mono ?_
  rintro e w' ⟨rfl, htop, hc⟩
  refine ⟨rfl, ⟨adel g d, ht.del hc htop, hi.del ht.nodup (fun k => aget_without T d k), fun x hx => .inl ?_⟩, hc.mono (by simp [tbl])⟩
  rcases List.mem_cons.1 hx with rfl | hx
  · simp [tbl]
  · obtain ⟨p, hp, rfl⟩ := List.mem_map.1 hx
    exact mem_tbl ((mem_adel ht.nodup).1 hp).1

theorem fol_some {d : ByteArray} {F : Fol} (h : aget T d = some F) : folOf T d = F := by unfold folOf; rw [h]; rfl
theorem aget_swap {T : Tr} {d : ByteArray} {F : Fol} (k : ByteArray) : aget (withS d F (without T d)) k = if d = k then some F else aget T k := by
  rw [aget_withS (without_not d), aget_without]
  by_cases h : d = k <;> simp [h]

theorem cl_create {d n : ByteArray} {x k j i : Nat} (ht : Tree w tb g) (hi : TreeIs ib g T) (hT : Val m T) (hok : Chn.ok m T (.create d n i)) (hx : w.cell? ⟨x, 0, none⟩ = some (.pointer (some ⟨ibf ib i, 0, none⟩)))
    (hk : w.cell? ⟨k, 0, none⟩ = some (.string d)) (hj : w.cell? ⟨j, 0, none⟩ = some (.string n)) :
    Calls Try.prog 59 #[.map (some tb), .pointer (some ⟨x, 0, none⟩), .pointer (some ⟨k, 0, none⟩), .pointer (some ⟨j, 0, none⟩)] w fun e w' => e = .returned (.tuple #[]) ∧ CloTo w tb g ib (Chn.on T (.create d n i)) w' := by
  obtain ⟨_, _, F, hF, hnone⟩ := hok
  obtain ⟨e, he, hs⟩ := hi.get hF
  have hmem := aget_mem he
  refine (create1_any tb e.1 x k j (ibf ib i) (tval g) (fval e.2) d n w ht.top (ht.sub _ hmem) (by rw [aget_tval, he]; rfl) hx hk hj).mono ?_
  rintro r w' ⟨rfl, hfb, hc⟩
  have hfv : aput (fval e.2) n (.pointer (some ⟨ibf ib i, 0, none⟩)) = fval (aput e.2 n (ibf ib i)) := aput_map (fun i : Nat => Value.pointer (some ⟨i, 0, none⟩)) e.2 n (ibf ib i)
  rw [hfv] at hfb
  have hL : ∀ p ∈ g, p.1 ≠ d → p.2.1 ∉ [e.1] := fun p hp hne => by simpa using ht.ne_sub hp hmem hne
  have htop : Mp w' tb kvS (aput (tval g) d (.map (some e.1))) := by
    rw [aput_same (by rw [aget_tval, he]; rfl)]
    exact ht.top.chg hc (by simpa using (ht.ne_top hmem).symm)
  refine ⟨rfl, ⟨aput g d (e.1, aput e.2 n (ibf ib i)), Tree.put ht.nodup ht.sub ht.apart hc htop hfb (ht.ne_top hmem) (fun p hp hne => by simpa using hL p hp hne) hL, ?_, tbl_aput ht.nodup (.inl (mem_tbl hmem))⟩, hc.mono (fun y hy => .inl (by simp only [List.mem_singleton] at hy; subst hy; exact mem_tbl hmem))⟩
  refine hi.put ht.nodup (fun k => aget_swap k) (fun n' => ?_)
  rw [fol_some hF, aget_aput (ht.subnodup hmem), aget_withS (aget_none.1 hnone), hs n']
  by_cases hnn : n = n' <;> simp [hnn]

theorem cl_remove {d n : ByteArray} {k j : Nat} (ht : Tree w tb g) (hi : TreeIs ib g T) (hT : Val m T) (hok : Chn.ok m T (.remove d n))
    (hk : w.cell? ⟨k, 0, none⟩ = some (.string d)) (hj : w.cell? ⟨j, 0, none⟩ = some (.string n)) :
    Calls Try.prog 72 #[.map (some tb), .pointer (some ⟨k, 0, none⟩), .pointer (some ⟨j, 0, none⟩)] w fun e w' => e = .returned (.tuple #[]) ∧ CloTo w tb g ib (Chn.on T (.remove d n)) w' := by
  obtain ⟨F, hF⟩ := hok
  obtain ⟨e, he, hs⟩ := hi.get hF
  have hmem := aget_mem he
  refine (remove1_any tb e.1 k j (tval g) (fval e.2) d n w ht.top (ht.sub _ hmem) (by rw [aget_tval, he]; rfl) hk hj).mono ?_
  rintro r w' ⟨rfl, hfb, hc⟩
  have hfv : adel (fval e.2) n = fval (adel e.2 n) := adel_map (fun i : Nat => Value.pointer (some ⟨i, 0, none⟩)) e.2 n
  rw [hfv] at hfb
  have hL : ∀ p ∈ g, p.1 ≠ d → p.2.1 ∉ [e.1] := fun p hp hne => by simpa using ht.ne_sub hp hmem hne
  have htop : Mp w' tb kvS (aput (tval g) d (.map (some e.1))) := by
    rw [aput_same (by rw [aget_tval, he]; rfl)]
    exact ht.top.chg hc (by simpa using (ht.ne_top hmem).symm)
  refine ⟨rfl, ⟨aput g d (e.1, adel e.2 n), Tree.put ht.nodup ht.sub ht.apart hc htop hfb (ht.ne_top hmem) (fun p hp hne => by simpa using hL p hp hne) hL, ?_, tbl_aput ht.nodup (.inl (mem_tbl hmem))⟩, hc.mono (fun y hy => .inl (by simp only [List.mem_singleton] at hy; subst hy; exact mem_tbl hmem))⟩
  refine hi.put ht.nodup (fun k => aget_swap k) (fun n' => ?_)
  rw [fol_some hF, aget_adel (ht.subnodup hmem), aget_without, hs n']
  by_cases hnn : n = n' <;> simp [hnn]

theorem cl_rename {a b : ByteArray} {k j : Nat} (ht : Tree w tb g) (hi : TreeIs ib g T) (hok : Chn.ok m T (.rename a b))
    (hk : w.cell? ⟨k, 0, none⟩ = some (.string a)) (hj : w.cell? ⟨j, 0, none⟩ = some (.string b)) (h1 : k ≠ tb) (h2 : j ≠ tb) :
    Calls Try.prog 57 #[.map (some tb), .pointer (some ⟨k, 0, none⟩), .pointer (some ⟨j, 0, none⟩)] w fun e w' => e = .returned (.tuple #[]) ∧ CloTo w tb g ib (Chn.on T (.rename a b)) w' := by
  obtain ⟨_, F, hF⟩ := hok
  obtain ⟨e, he, hs⟩ := hi.get hF
  have hmem := aget_mem he
  refine (rename1_any tb e.1 k j (tval g) a b w ht.top (by rw [aget_tval, he]; rfl) hk hj h1 h2).mono ?_
  rintro r w' ⟨rfl, htop, hc⟩
  have hdm : adel (tval g) a = tval (adel g a) := adel_map (fun x : Nat × List (ByteArray × Nat) => Value.map (some x.1)) g a
  rw [hdm] at htop
  have hn := ht.nodup
  have hnt : ∀ p ∈ adel g a, p.2.1 ∉ [tb] := fun p hp => by simpa using ht.ne_top ((mem_adel hn).1 hp).1
  have hap : (tbl tb (adel g a)).Nodup := by
    rw [adel_without hn]
    have hsub : ((without g a).map fun p => p.2.1).Sublist (g.map fun p => p.2.1) := List.filter_sublist.map _
    exact ht.apart.sublist (hsub.cons_cons tb)
  refine ⟨rfl, ⟨aput (adel g a) b (e.1, e.2), Tree.put (adel_nodup hn a) (fun p hp => ht.sub p ((mem_adel hn).1 hp).1) hap hc htop ((ht.sub _ hmem).chg hc (by simpa using ht.ne_top hmem)) (ht.ne_top hmem)
    (fun p hp _ => ht.ne_sub ((mem_adel hn).1 hp).1 hmem ((mem_adel hn).1 hp).2) (fun p hp _ => hnt p hp), ?_, fun x hx => .inl ?_⟩, hc.mono (by simp [tbl])⟩
  · refine TreeIs.put (T := without T a) (F := F) (hi.del hn (fun k => aget_without T a k)) (adel_nodup hn a) (fun k => ?_) hs
    simp only [Chn.on, fol_some hF]
    exact aget_swap k
  · rcases List.mem_cons.1 hx with rfl | hx
    · simp [tbl]
    · obtain ⟨p, hp, rfl⟩ := List.mem_map.1 hx
      rcases (mem_aput (adel_nodup hn a)).1 hp with rfl | ⟨hp, _⟩
      · exact mem_tbl (p := (a, e)) hmem
      · exact mem_tbl ((mem_adel hn).1 hp).1
end
end Go.Proofs.Ytgomofeidghmiaa
