/-
  Layer 08, plain: directories as association lists in the names' order.
  Layer 08: disks in memory: rows of a name and a slice.
  Layer 08: arguments opened.
-/
import Derived.Test.YtgomofeidghmiaaGreatMapM
import Derived.Sort.Walk0
import Derived.Sort.KeysCollected
import Derived.Test.YtgomofeidghmiaaGreatSpJ
import Derived.Test.YtgomofeidghmiaaGreatLwR
import Derived.Lib.SmallJoins
namespace Go.Proofs.YtgomofeidghmiaaGreat
open Go.RowKit

section
variable {κ α : Type} [DecidableEq κ]
theorem aget_perm {m t : List (κ × α)} (hp : m.Perm t) (hn : (m.map Prod.fst).Nodup) (k : κ) : aget m k = aget t k := by
  cases h : aget t k with
  | none =>
    rw [aget_none] at h ⊢
    exact fun hm => h ((hp.map Prod.fst).mem_iff.1 hm)
  | some v => exact aget_of_mem hn (hp.mem_iff.2 (aget_mem h))
/-- t without k -/
def without (t : List (κ × α)) (k : κ) : List (κ × α) := t.filter fun p => decide (p.1 ≠ k)
theorem without_perm {m t : List (κ × α)} (hp : m.Perm t) (k : κ) : (without m k).Perm (without t k) := hp.filter _
theorem without_none {t : List (κ × α)} {k : κ} (h : k ∉ t.map Prod.fst) : without t k = t := by
  unfold without
  rw [List.filter_eq_self]
  intro p hp
  simp only [decide_eq_true_eq]
  intro e
  exact h (List.mem_map.2 ⟨p, hp, e⟩)
theorem without_cons (p : κ × α) (t : List (κ × α)) (k : κ) : without (p :: t) k = if p.1 = k then without t k else p :: without t k := by
  unfold without
  rw [List.filter_cons]
  by_cases h : p.1 = k <;> simp [h]
theorem adel_cons (p : κ × α) (t : List (κ × α)) (k : κ) : adel (p :: t) k = if p.1 = k then t else p :: adel t k := by
  unfold adel
  rw [List.map_cons, List.idxOf?_cons]
  by_cases h : p.1 = k
  · simp [h]
  · have hb : (p.1 == k) = false := by simp [h]
    rw [if_neg h]
    simp only [hb]
    cases (t.map Prod.fst).idxOf? k <;> simp
theorem adel_without {t : List (κ × α)} (hn : (t.map Prod.fst).Nodup) (k : κ) : adel t k = without t k := by
  induction t with
  | nil => rfl
  | cons p r ih =>
    rw [List.map_cons, List.nodup_cons] at hn
    rw [adel_cons, without_cons]
    by_cases h : p.1 = k
    · rw [if_pos h, if_pos h, without_none (by rw [← h]; exact hn.1)]
    · rw [if_neg h, if_neg h, ih hn.2]
theorem aput_cons (p : κ × α) (t : List (κ × α)) (k : κ) (v : α) : aput (p :: t) k v = if p.1 = k then (k, v) :: t else p :: aput t k v := by
  unfold aput
  rw [List.map_cons, List.idxOf?_cons]
  by_cases h : p.1 = k
  · simp [h]
  · have hb : (p.1 == k) = false := by simp [h]
    rw [if_neg h]
    simp only [hb]
    cases (t.map Prod.fst).idxOf? k <;> simp
theorem aput_perm {t : List (κ × α)} (hn : (t.map Prod.fst).Nodup) (k : κ) (v : α) : (aput t k v).Perm ((k, v) :: without t k) := by
  induction t with
  | nil => exact List.Perm.refl _
  | cons p r ih =>
    rw [List.map_cons, List.nodup_cons] at hn
    rw [aput_cons, without_cons]
    by_cases h : p.1 = k
    · rw [if_pos h, if_pos h, without_none (by rw [← h]; exact hn.1)]
    · rw [if_neg h, if_neg h]
      exact ((ih hn.2).cons p).trans (List.Perm.swap _ _ _)
end

/-- text a stands ahead of text b -/
def ltS (a b : ByteArray) : Bool := Op.bytesLess a.toList b.toList
theorem ltS_iff {a b : ByteArray} : ltS a b = true ↔ a.data.toList < b.data.toList := by
  unfold ltS
  rw [Go.Proofs.bytesLess_eq, ByteArray.toList_eq, ByteArray.toList_eq]
  simp
theorem data_inj {a b : ByteArray} (h : a.data.toList = b.data.toList) : a = b := by
  cases a with | mk x => cases b with | mk y =>
    cases x; cases y
    simp at h
    subst h; rfl
theorem ltS_trans {a b c : ByteArray} (h : ltS a b = true) (k : ltS b c = true) : ltS a c = true := by
  rw [ltS_iff] at *
  exact List.lt_trans h k
theorem ltS_irrefl (a : ByteArray) : ltS a a = false := by
  rw [← Bool.not_eq_true, ltS_iff]
  exact List.lt_irrefl _
theorem ltS_or {a b : ByteArray} (h : a ≠ b) (k : ltS a b = false) : ltS b a = true := by
  rw [← Bool.not_eq_true, ltS_iff] at k
  rw [ltS_iff]
  have h1 : b.data.toList ≤ a.data.toList := List.not_lt.1 k
  rcases List.le_iff_lt_or_eq.1 h1 with h2 | h2
  · exact h2
  · exact absurd (data_inj h2).symm h

section
variable {α : Type}
/-- t with one more entry, in its place -/
def withS (k : ByteArray) (v : α) : List (ByteArray × α) → List (ByteArray × α)
  | [] => [(k, v)]
  | p :: r => if ltS k p.1 = true then (k, v) :: p :: r else p :: withS k v r
theorem withS_perm (k : ByteArray) (v : α) : ∀ t : List (ByteArray × α), (withS k v t).Perm ((k, v) :: t)
  | [] => List.Perm.refl _
  | p :: r => by
    rw [withS]
    split
    · exact List.Perm.refl _
    · exact ((withS_perm k v r).cons p).trans (List.Perm.swap _ _ _)
/-- in the names' order, each once -/
def Srt (t : List (ByteArray × α)) : Prop := (t.map Prod.fst).Pairwise fun a b => ltS a b = true
theorem Srt.nodup {t : List (ByteArray × α)} (h : Srt t) : (t.map Prod.fst).Nodup :=
  List.Pairwise.imp (fun {a b} hab e => by subst e; rw [ltS_irrefl] at hab; cases hab) h
theorem Srt.without {t : List (ByteArray × α)} (h : Srt t) (k : ByteArray) : Srt (without t k) :=
  List.Pairwise.sublist ((List.filter_sublist).map Prod.fst) h
theorem Srt.with_ {t : List (ByteArray × α)} (h : Srt t) {k : ByteArray} (v : α) (hk : k ∉ t.map Prod.fst) : Srt (withS k v t) := by
  induction t with
  | nil => simp [Srt, withS]
  | cons p r ih =>
    have hp : ∀ x ∈ r.map Prod.fst, ltS p.1 x = true := (List.pairwise_cons.1 h).1
    have hr : Srt r := (List.pairwise_cons.1 h).2
    rw [withS]
    split
    · rename_i hlt
      refine List.pairwise_cons.2 ⟨fun x hx => ?_, h⟩
      rcases List.mem_cons.1 hx with rfl | hx
      · exact hlt
      · exact ltS_trans hlt (hp x hx)
    · rename_i hlt
      rw [Bool.not_eq_true] at hlt
      have hne : k ≠ p.1 := fun e => hk (by simp [e])
      refine List.pairwise_cons.2 ⟨fun x hx => ?_, ih hr (fun hm => hk (List.mem_cons_of_mem _ hm))⟩
      have hx2 : x ∈ ((k, v) :: r).map Prod.fst := ((withS_perm k v r).map Prod.fst).mem_iff.1 hx
      rcases List.mem_cons.1 hx2 with rfl | hx2
      · exact ltS_or hne hlt
      · exact hp x hx2
end
end Go.Proofs.YtgomofeidghmiaaGreat

namespace Go.Proofs.YtgomofeidghmiaaGreat
open Go.RowKit

/-- a name and a slice -/
structure Nsl where
  nm : ByteArray
  A : Option Addr
  n : Nat
  c : Nat
def Nsl.cells (x : Nsl) : List Value := [.string x.nm, .slice x.A x.n x.c]
def nsv (xs : List Nsl) : List Value := xs.flatMap Nsl.cells
theorem nsv_length (xs : List Nsl) : (nsv xs).length = xs.length * 2 := by
  induction xs with
  | nil => rfl
  | cons x r ih => simp only [nsv, List.flatMap_cons, List.length_append, List.length_cons] at ih ⊢; rw [ih]; simp [Nsl.cells]; omega
theorem nsv_append (a b : List Nsl) : nsv (a ++ b) = nsv a ++ nsv b := by simp [nsv]
theorem nsv_get (xs : List Nsl) (j k : Nat) (hk : k < 2) : (nsv xs)[j * 2 + k]? = (xs[j]?).bind fun x => x.cells[k]? := by
  induction xs generalizing j with
  | nil => simp [nsv]
  | cons x r ih =>
    simp only [nsv, List.flatMap_cons]
    cases j with
    | zero =>
      rw [List.getElem?_append_left (by simp [Nsl.cells]; omega)]
      simp
    | succ j =>
      rw [List.getElem?_append_right (by simp [Nsl.cells]; omega)]
      have : (j + 1) * 2 + k - x.cells.length = j * 2 + k := by simp [Nsl.cells]; omega
      rw [this]
      simpa [nsv] using ih j
theorem nsv_one (xs : List Nsl) : ∀ u ∈ nsv xs, u.oneCell' = true := by
  intro u hu
  obtain ⟨x, _, h⟩ := List.mem_flatMap.1 hu
  simp only [Nsl.cells, List.mem_cons, List.mem_nil_iff, or_false] at h
  rcases h with rfl | rfl <;> rfl
theorem nsv_set (xs : List Nsl) (j k : Nat) (hk : k < 2) (x x' : Nsl) (v : Value) (hj : xs[j]? = some x) (h : x'.cells = x.cells.set k v) : (nsv xs).set (j * 2 + k) v = nsv (xs.set j x') := by
  induction xs generalizing j with
  | nil => simp at hj
  | cons y r ih =>
    simp only [nsv, List.flatMap_cons]
    cases j with
    | zero =>
      simp at hj
      subst hj
      rw [List.set_append_left _ _ (by simp [Nsl.cells]; omega)]
      simp [h]
    | succ j =>
      rw [List.set_append_right _ _ (by simp [Nsl.cells]; omega)]
      have : (j + 1) * 2 + k - y.cells.length = j * 2 + k := by simp [Nsl.cells]; omega
      rw [this]
      have := ih j (by simpa using hj)
      simp only [nsv] at this
      simp [this]

/-- at p they stand -/
structure NsAt (w : World) (p : Addr) (x : Nsl) : Prop where
  c0 : w.cell? p = some (.string x.nm)
  c1 : w.cell? ⟨p.block, p.off + 1, none⟩ = some (.slice x.A x.n x.c)
theorem NsAt.chg {w w' : World} {p : Addr} {x : Nsl} {L : List Nat} (h : NsAt w p x) (hc : Chg L w w') (hn : p.block ∉ L) : NsAt w' p x := ⟨hc.cell h.c0 hn, hc.cell h.c1 hn⟩
theorem Rd.nsl {w : World} {A : Option Addr} {n c : Nat} {xs : List Nsl} (h : Rd w 2 A n c (nsv xs)) : xs.length = n := by have := h.1; rw [nsv_length] at this; omega
theorem Rd.ns {w : World} {A : Option Addr} {n c : Nat} {xs : List Nsl} (h : Rd w 2 A n c (nsv xs)) {j : Nat} {x : Nsl} (hj : xs[j]? = some x) : ∃ ad, A = some ad ∧ NsAt w (ad.add (j * 2)) x := by
  have hl := h.nsl
  have hjn : j < n := by have := (List.getElem?_eq_some_iff.1 hj).1; omega
  obtain ⟨ad, rfl, _⟩ := h.some_ (by omega)
  refine ⟨ad, rfl, ?_⟩
  have hc : ∀ k, k < 2 → ∀ u, x.cells[k]? = some u → w.cell? (ad.add (j * 2 + k)) = some u := fun k hk u hu => (h.2.2.2.2 ad rfl).2 _ u (by rw [nsv_get _ _ _ hk, hj]; exact hu)
  refine ⟨hc 0 (by decide) _ rfl, ?_⟩
  have := hc 1 (by decide) _ rfl
  rw [add_field] at this
  exact this

abbrev FM := Nsl × List Int
abbrev DM := Nsl × List FM
abbrev Dsk := List (ByteArray × List (ByteArray × List Int))
def fnsl (fs : List FM) : List Nsl := fs.map (·.1)
def dnsl (ds : List DM) : List Nsl := ds.map (·.1)
def fval8 (fs : List FM) : List (ByteArray × List Int) := fs.map fun f => (f.1.nm, f.2)
def dval8 (ds : List DM) : Dsk := ds.map fun d => (d.1.nm, fval8 d.2)
/-- the blocks of files, of a disk -/
def fblk (fs : List FM) : List Nat := fs.flatMap fun f => bo f.1.A
def dblk (ds : List DM) : List Nat := ds.flatMap fun d => bo d.1.A ++ fblk d.2
structure FilesR (w : World) (A : Option Addr) (n c : Nat) (fs : List FM) : Prop where
  row : Rd w 2 A n c (nsv (fnsl fs))
  dat : ∀ f ∈ fs, Rd w 1 f.1.A f.1.n f.1.c (bv f.2)
structure DirsR (w : World) (A : Option Addr) (n c : Nat) (ds : List DM) : Prop where
  row : Rd w 2 A n c (nsv (dnsl ds))
  fil : ∀ d ∈ ds, FilesR w d.1.A d.1.n d.1.c d.2
theorem FilesR.chg {w w' : World} {A : Option Addr} {n c : Nat} {fs : List FM} {L : List Nat} (h : FilesR w A n c fs) (hc : Chg L w w') (hn : ∀ k ∈ bo A ++ fblk fs, k ∉ L) : FilesR w' A n c fs :=
  ⟨h.row.chg hc (fun k hk => hn k (List.mem_append_left _ hk)), fun f hf => (h.dat f hf).chg hc (fun k hk => hn k (List.mem_append_right _ (List.mem_flatMap.2 ⟨f, hf, hk⟩)))⟩
theorem DirsR.chg {w w' : World} {A : Option Addr} {n c : Nat} {ds : List DM} {L : List Nat} (h : DirsR w A n c ds) (hc : Chg L w w') (hn : ∀ k ∈ bo A ++ dblk ds, k ∉ L) : DirsR w' A n c ds :=
  ⟨h.row.chg hc (fun k hk => hn k (List.mem_append_left _ hk)), fun d hd => (h.fil d hd).chg hc (fun k hk => hn k (List.mem_append_right _ (List.mem_flatMap.2 ⟨d, hd, hk⟩)))⟩
theorem DirsR.chg0 {w w' : World} {A : Option Addr} {n c : Nat} {ds : List DM} (h : DirsR w A n c ds) (hc : Chg [] w w') : DirsR w' A n c ds := h.chg hc (fun _ _ => List.not_mem_nil)
theorem FilesR.chg0 {w w' : World} {A : Option Addr} {n c : Nat} {fs : List FM} (h : FilesR w A n c fs) (hc : Chg [] w w') : FilesR w' A n c fs := h.chg hc (fun _ _ => List.not_mem_nil)

/-- owned -/
structure FilesO (w : World) (A : Option Addr) (n c : Nat) (fs : List FM) : Prop where
  row : Own w 70 2 A n c (nsv (fnsl fs))
  dat : ∀ f ∈ fs, Own w 5 1 f.1.A f.1.n f.1.c (bv f.2)
  sep : (fblk fs).Nodup
structure DirsO (w : World) (A : Option Addr) (n c : Nat) (ds : List DM) : Prop where
  row : Own w 67 2 A n c (nsv (dnsl ds))
  fil : ∀ d ∈ ds, FilesO w d.1.A d.1.n d.1.c d.2
  sep : (dblk ds).Nodup
theorem FilesO.rd {w : World} {A : Option Addr} {n c : Nat} {fs : List FM} (h : FilesO w A n c fs) : FilesR w A n c fs := ⟨h.row.rd, fun f hf => (h.dat f hf).rd⟩
theorem DirsO.rd {w : World} {A : Option Addr} {n c : Nat} {ds : List DM} (h : DirsO w A n c ds) : DirsR w A n c ds := ⟨h.row.rd, fun d hd => (h.fil d hd).rd⟩
theorem FilesO.chg {w w' : World} {A : Option Addr} {n c : Nat} {fs : List FM} {L : List Nat} (h : FilesO w A n c fs) (hc : Chg L w w') (hn : ∀ k ∈ bo A ++ fblk fs, k ∉ L) : FilesO w' A n c fs :=
  ⟨h.row.chg hc (fun k hk => hn k (List.mem_append_left _ hk)), fun f hf => (h.dat f hf).chg hc (fun k hk => hn k (List.mem_append_right _ (List.mem_flatMap.2 ⟨f, hf, hk⟩))), h.sep⟩
theorem DirsO.chg {w w' : World} {A : Option Addr} {n c : Nat} {ds : List DM} {L : List Nat} (h : DirsO w A n c ds) (hc : Chg L w w') (hn : ∀ k ∈ bo A ++ dblk ds, k ∉ L) : DirsO w' A n c ds :=
  ⟨h.row.chg hc (fun k hk => hn k (List.mem_append_left _ hk)), fun d hd => (h.fil d hd).chg hc (fun k hk => hn k (List.mem_append_right _ (List.mem_flatMap.2 ⟨d, hd, hk⟩))), h.sep⟩
theorem FilesO.lt {w : World} {A : Option Addr} {n c : Nat} {fs : List FM} (h : FilesO w A n c fs) : ∀ k ∈ bo A ++ fblk fs, k < w.heap.size := by
  intro k hk
  rcases List.mem_append.1 hk with hk | hk
  · exact h.row.lt k hk
  · obtain ⟨f, hf, hk⟩ := List.mem_flatMap.1 hk
    exact (h.dat f hf).lt k hk
theorem DirsO.lt {w : World} {A : Option Addr} {n c : Nat} {ds : List DM} (h : DirsO w A n c ds) : ∀ k ∈ bo A ++ dblk ds, k < w.heap.size := by
  intro k hk
  rcases List.mem_append.1 hk with hk | hk
  · exact h.row.lt k hk
  · obtain ⟨d, hd, hk⟩ := List.mem_flatMap.1 hk
    exact (h.fil d hd).lt k hk

theorem etyFiles : Ety Tryz.prog 65 70 2 40 (.agg #[.string ByteArray.empty, .slice none 0 0]) := .mk' Tryz.underlying65 (by kernel_rfl) rfl (by decide)
theorem etyDirs : Ety Tryz.prog 22 67 2 40 (.agg #[.string ByteArray.empty, .slice none 0 0]) := .mk' Tryz.underlying22 (by kernel_rfl) rfl (by decide)
theorem ns_lit (nm : ByteArray) (A : Option Addr) (n c : Nat) : (#[Value.string nm, .slice A n c] : Array Value).toList = nsv [⟨nm, A, n, c⟩] := rfl
theorem bo_nodup (A : Option Addr) : (bo A).Nodup := by cases A <;> simp
/-- a file more -/
theorem FilesO.snoc {w w' : World} {A A' : Option Addr} {n c c' : Nat} {fs : List FM} (h : FilesO w A n c fs) {x : FM} (hc : Chg (bo A) w w') (hr : Own w' 70 2 A' (n + 1) c' (nsv (fnsl (fs ++ [x])))) (hx : Own w' 5 1 x.1.A x.1.n x.1.c (bv x.2)) (hd : ∀ k ∈ bo x.1.A, k ∉ fblk fs) : FilesO w' A' (n + 1) c' (fs ++ [x]) := by
  refine ⟨hr, fun f hf => ?_, ?_⟩
  · rcases List.mem_append.1 hf with hf | hf
    · exact (h.dat f hf).chg hc ((h.dat f hf).own_ne h.row (by decide))
    · simp only [List.mem_singleton] at hf; subst hf; exact hx
  · unfold fblk
    rw [List.flatMap_append]
    refine List.nodup_append.2 ⟨h.sep, by simpa using bo_nodup x.1.A, fun a ha b hb => ?_⟩
    simp only [List.flatMap_cons, List.flatMap_nil, List.append_nil] at hb
    rintro rfl
    exact hd a hb ha
theorem fblk_snoc (fs : List FM) (x : FM) : fblk (fs ++ [x]) = fblk fs ++ bo x.1.A := by simp [fblk]
theorem dblk_snoc (ds : List DM) (x : DM) : dblk (ds ++ [x]) = dblk ds ++ (bo x.1.A ++ fblk x.2) := by simp [dblk]
theorem FilesO.nodup {w : World} {A : Option Addr} {n c : Nat} {fs : List FM} (h : FilesO w A n c fs) : (bo A ++ fblk fs).Nodup := by
  refine List.nodup_append.2 ⟨bo_nodup A, h.sep, fun a ha b hb => ?_⟩
  obtain ⟨f, hf, hb⟩ := List.mem_flatMap.1 hb
  rintro rfl
  exact (h.dat f hf).own_ne h.row (by decide) a hb ha
theorem DirsO.ne_row {w : World} {A : Option Addr} {n c : Nat} {ds : List DM} (h : DirsO w A n c ds) : ∀ k ∈ dblk ds, k ∉ bo A := by
  intro k hk
  obtain ⟨d, hd, hk⟩ := List.mem_flatMap.1 hk
  rcases List.mem_append.1 hk with hk | hk
  · exact (h.fil d hd).row.own_ne h.row (by decide) k hk
  · obtain ⟨f, hf, hk⟩ := List.mem_flatMap.1 hk
    exact ((h.fil d hd).dat f hf).own_ne h.row (by decide) k hk
/-- a directory more -/
theorem DirsO.snoc {w w' : World} {A A' : Option Addr} {n c c' : Nat} {ds : List DM} (h : DirsO w A n c ds) {x : DM} (hc : Chg (bo A) w w') (hr : Own w' 67 2 A' (n + 1) c' (nsv (dnsl (ds ++ [x])))) (hx : FilesO w' x.1.A x.1.n x.1.c x.2) (hd : ∀ k ∈ bo x.1.A ++ fblk x.2, k ∉ dblk ds) : DirsO w' A' (n + 1) c' (ds ++ [x]) := by
  refine ⟨hr, fun d hd => ?_, ?_⟩
  · rcases List.mem_append.1 hd with hd | hd
    · exact (h.fil d hd).chg hc (fun k hk => h.ne_row k (List.mem_flatMap.2 ⟨d, hd, hk⟩))
    · simp only [List.mem_singleton] at hd; subst hd; exact hx
  · rw [dblk_snoc]
    exact List.nodup_append.2 ⟨h.sep, hx.nodup, fun a ha b hb => by rintro rfl; exact hd a hb ha⟩

/-- a disk is told, in new memory -/
def NewDsk (w : World) (D : Dsk) (e : Ending) (w' : World) : Prop :=
  ∃ A n c ds, e = .returned (.slice A n c) ∧ DirsO w' A n c ds ∧ dval8 ds = D ∧ Chg [] w w' ∧ ∀ k ∈ bo A ++ dblk ds, w.heap.size ≤ k
end Go.Proofs.YtgomofeidghmiaaGreat

namespace Go.Proofs.YtgomofeidghmiaaGreat
open Go.RowKit Go.ChangeShapes Go.WideShapes Go.Deep

theorem trodAll_none {H : Type} {enc : TypeId × Value → H} {P : Program} {w : World} {base : Nat} {spare : Nat → Bool} {held : Bool} {args : Array Value} {ds : List (DataW H)} {ps : List MemPlace} (h : DataW.TrodAll enc P w base spare held [] args.toList ds ps) :
    args = #[] ∧ ds = [] ∧ ps = [] := by
  cases args with
  | mk l =>
    cases l with
    | nil =>
      cases ds with
      | nil => cases ps with
        | nil => exact ⟨rfl, rfl, rfl⟩
        | cons p r => exact absurd h (by simp [DataW.TrodAll])
      | cons d r => exact absurd h (by simp [DataW.TrodAll])
    | cons v r => exact absurd h (by cases ds <;> simp [DataW.TrodAll])
theorem trodAll_one8 {H : Type} {enc : TypeId × Value → H} {P : Program} {w : World} {base : Nat} {spare : Nat → Bool} {held : Bool} {t : TypeId} {args : Array Value} {ds : List (DataW H)} {ps : List MemPlace} (h : DataW.TrodAll enc P w base spare held [t] args.toList ds ps) :
    ∃ v d p, args = #[v] ∧ ds = [d] ∧ ps = p ∧ DataW.Trod enc P w base spare held t v d p := by
  obtain ⟨v, d, h1, h2, h3⟩ := trodAll_one h
  exact ⟨v, d, ps, h1, h2, rfl, h3⟩
end Go.Proofs.YtgomofeidghmiaaGreat
