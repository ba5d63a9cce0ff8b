/-
  Layer 08: directories in memory; find.
-/
import Derived.Test.YtgomofeidghmiaaVfC
import Derived.Laws.StructEq
namespace Go.Proofs.Ytgomofeidghmiaa
open Go.RowKit

section
variable {κ α β : Type} [DecidableEq κ]
theorem aget_cons (p : κ × α) (t : List (κ × α)) (k : κ) : aget (p :: t) k = if p.1 = k then some p.2 else aget t k := by
  unfold aget
  rw [List.map_cons, List.idxOf?_cons]
  by_cases h : p.1 = k
  · simp [h]
  · have hb : (p.1 == k) = false := by simp [h]
    rw [if_neg h]
    simp only [hb]
    cases (t.map Prod.fst).idxOf? k <;> simp
theorem aget_map (g : α → β) (t : List (κ × α)) (k : κ) : aget (t.map fun p => (p.1, g p.2)) k = (aget t k).map g := by
  induction t with
  | nil => rfl
  | cons p r ih =>
    rw [List.map_cons, aget_cons, aget_cons, ih]
    by_cases h : p.1 = k <;> simp [h]
end

/-- a folder in memory: its files' names and their inodes' blocks -/
def fval (f : List (ByteArray × Nat)) : List (ByteArray × Value) := f.map fun p => (p.1, .pointer (some ⟨p.2, 0, none⟩))
/-- a tree in memory: its directories' names, their maps' blocks and entries -/
def tval (t : List (ByteArray × Nat × List (ByteArray × Nat))) : List (ByteArray × Value) := t.map fun p => (p.1, .map (some p.2.1))
structure Tree (w : World) (tb : Nat) (t : List (ByteArray × Nat × List (ByteArray × Nat))) : Prop where
  top : Mp w tb kvS (tval t)
  sub : ∀ p ∈ t, Mp w p.2.1 kvS (fval p.2.2)
  apart : (tb :: t.map fun p => p.2.1).Nodup
theorem Tree.chg {w w' : World} {tb : Nat} {t : List (ByteArray × Nat × List (ByteArray × Nat))} {L : List Nat} (h : Tree w tb t) (hc : Chg L w w') (h1 : tb ∉ L) (h2 : ∀ p ∈ t, p.2.1 ∉ L) : Tree w' tb t :=
  ⟨h.top.chg hc h1, fun p hp => (h.sub p hp).chg hc (h2 p hp), h.apart⟩
theorem Tree.chg0 {w w' : World} {tb : Nat} {t : List (ByteArray × Nat × List (ByteArray × Nat))} (h : Tree w tb t) (hc : Chg [] w w') : Tree w' tb t := h.chg hc List.not_mem_nil (fun _ _ => List.not_mem_nil)
theorem aget_tval (t : List (ByteArray × Nat × List (ByteArray × Nat))) (k : ByteArray) : aget (tval t) k = (aget t k).map fun d => Value.map (some d.1) :=
  aget_map (fun d : Nat × List (ByteArray × Nat) => Value.map (some d.1)) t k
theorem aget_fval (f : List (ByteArray × Nat)) (k : ByteArray) : aget (fval f) k = (aget f k).map fun i => Value.pointer (some ⟨i, 0, none⟩) :=
  aget_map (fun i : Nat => Value.pointer (some ⟨i, 0, none⟩)) f k
theorem tval_maps {t : List (ByteArray × Nat × List (ByteArray × Nat))} : ∀ p ∈ tval t, ∃ r, p.2 = .map (some r) := by
  intro p hp
  obtain ⟨q, _, rfl⟩ := List.mem_map.1 hp
  exact ⟨q.2.1, rfl⟩

/-- find: the file's inode, the error's number -/
def findR (a s : Int) (t : List (ByteArray × Nat × List (ByteArray × Nat))) (dir name : ByteArray) : Option Nat × Int :=
  if askE a s (tval t) true [dir, name] ≠ 0 then (none, askE a s (tval t) true [dir, name]) else
  match (aget t dir).bind fun d => aget d.2 name with
  | none => (none, 82)
  | some i => (some i, 0)
def findV (r : Option Nat × Int) : Value := .tuple #[.pointer (r.1.map fun i => ⟨i, 0, none⟩), .int .i64 r.2]

set_option maxRecDepth 100000 in
set_option maxHeartbeats 3200000 in
theorem find_any (b sb : Nat) (a s : Int) (t : List (ByteArray × Nat × List (ByteArray × Nat))) (dir name : ByteArray) (w : World)
    (h0 : w.cell? ⟨b, 0, none⟩ = some (.map (some sb))) (h5 : w.cell? ⟨b, 5, none⟩ = some (.int .i64 a)) (h6 : w.cell? ⟨b, 6, none⟩ = some (.int .i64 s))
    (ht : Tree w sb t) :
    Calls Try.prog 60 #[.pointer (some ⟨b, 0, none⟩), .string dir, .string name] w fun e w' => e = .returned (findV (findR a s t dir name)) ∧ Chg [] w w' := by
  have HT := Lib.hid ht
  have H0 := Lib.hid h0
  have H5 := Lib.hid h5
  have H6 := Lib.hid h6
  clear ht h0 h5 h6
  go_enter Try.func60, Try.ntmps60
  go_wp2_with fail
  have hal : Chg [] w (w.alloc (.cells #[.string dir, .string name] 9)) := (Chg.refl _ _).alloc _
  refine (ask_any b sb a s (tval t) true _ 2 2 [dir, name] _ (hal.cell H0.out (fun h => List.not_mem_nil h)) (hal.cell H5.out (fun h => List.not_mem_nil h)) (hal.cell H6.out (fun h => List.not_mem_nil h)) (HT.out.top.chg hal List.not_mem_nil) tval_maps (Own.lit w 9 1 #[.string dir, .string name] 2 (by decide) rfl).rd (by decide) (fun _ => by decide)).mono ?_
  rintro e w1 ⟨rfl, hc1⟩
  have HC1 : Hid (Chg [] w w1) := Lib.hid (hal.trans0 hc1)
  clear hc1 hal
  obtain ⟨E, hE⟩ : ∃ E, askE a s (tval t) true [dir, name] = E := ⟨_, rfl⟩
  rw [hE]
  have HE := Lib.hid hE
  clear hE
  by_cases h : E = 0
  · subst h
    have hne : ∃ d, aget t dir = some d := by
      cases hd : aget t dir with
      | some d => exact ⟨d, rfl⟩
      | none =>
        have q := HE.out
        have hg : aget (tval t) dir = none := by rw [aget_tval, hd]; rfl
        unfold askE at q
        split at q
        · cases q
        split at q
        · cases q
        · simp only [List.headD_cons, hg, Option.isNone_none, and_self, if_true] at q
          cases q
    obtain ⟨d, hd⟩ := hne
    have h0 := HC1.out.cell H0.out (fun h => List.not_mem_nil h)
    have ht1 := HT.out.chg0 HC1.out
    have hl1 := (Mp.lookup ht1.top (string_key Try.underlying9) Try.underlying73 (z := .map none) (by kernel_rfl) dir).1
    have hl2 := (Mp.lookup (ht1.sub _ (aget_mem hd)) (string_key Try.underlying9) Try.underlying80 (z := .pointer none) (by kernel_rfl) name).1
    rw [show aget (tval t) dir = some (.map (some d.1)) from by rw [aget_tval, hd]; rfl] at hl1
    simp only [Option.getD_some] at hl1
    simp only at hl2
    rw [show aget (fval d.2) name = (aget d.2 name).map (fun i => Value.pointer (some ⟨i, 0, none⟩)) from aget_fval _ _] at hl2
    have HD := Lib.hid hd
    clear hd ht1
    cases hx : aget d.2 name with
    | none =>
      have HR : Hid (findR a s t dir name = (none, 82)) := Lib.hid (by unfold findR; rw [if_neg (by rw [HE.out]; simp), HD.out]; simp only [Option.bind_some, hx])
      rw [hx] at hl2
      simp only [Option.map_none, Option.getD_none] at hl2
      clear hx
      go_wp2
      go_ret2
      exact ⟨by rw [HR.out]; rfl, HC1.out⟩
    | some i =>
      have HR : Hid (findR a s t dir name = (some i, 0)) := Lib.hid (by unfold findR; rw [if_neg (by rw [HE.out]; simp), HD.out]; simp only [Option.bind_some, hx])
      rw [hx] at hl2
      simp only [Option.map_some, Option.getD_some] at hl2
      clear hx
      go_wp2
      go_ret2
      exact ⟨by rw [HR.out]; rfl, HC1.out⟩
  · have hb : (E != 0) = true := by simp [h]
    have HR : Hid (findR a s t dir name = (none, E)) := Lib.hid (by unfold findR; rw [if_pos (by rw [HE.out]; exact h), HE.out])
    clear h
    go_wp2
    go_ret2
    exact ⟨by rw [HR.out]; rfl, HC1.out⟩
end Go.Proofs.Ytgomofeidghmiaa
