/-
  Layer 17, plain: groups read.
-/
import Derived.Test.YtelmnmepdmfihaaGrM
namespace Go.Proofs.Ytelmnmepdmfihaa
open Go.RowKit

/-- the error of a way's ids: 170 as soon as one has another type or another way -/
def idsE (ls : List Lk) (ts : List Int) (node t : Int) (k : Nat) (ids : List Int) : Int := if ∀ id ∈ ids, tyOf ts id = t ∧ wyOf ls node id = k then 0 else 170
/-- one way of a group read: the ids, the error's number -/
def wayE (ls : List Lk) (ts : List Int) (g : Lk) (k : Nat) (head : Int) : Int := if (walk ls g.dst head).2 ≠ 0 then (walk ls g.dst head).2 else idsE ls ts g.dst g.src k (walk ls g.dst head).1
def hd (g : Lk) : Nat → Int
  | 0 => g.sp
  | 1 => g.tp
  | _ => g.sn
/-- the first j ways of a group: the error's number -/
def oneJ (ls : List Lk) (ts : List Int) (g : Lk) : Nat → Int
  | 0 => 0
  | j + 1 => if oneJ ls ts g j ≠ 0 then oneJ ls ts g j else wayE ls ts g j (hd g j)
def idsOf (ls : List Lk) (g : Lk) (k : Nat) : List Int := (walk ls g.dst (hd g k)).1
def oneE (ls : List Lk) (ts : List Int) (g : Lk) : Int := if oneJ ls ts g 3 ≠ 0 then oneJ ls ts g 3 else if (idsOf ls g 0).length + (idsOf ls g 1).length + (idsOf ls g 2).length = 0 then 170 else 0
def oneB (ls : List Lk) (g : Lk) : Bn := ⟨g.src, idsOf ls g⟩

/-- all groups from id on: the bunches so far, how many ids they hold -/
def rdg (ls : List Lk) (ts : List Int) (gs : List Lk) (node : Int) : Nat → List Bn → Nat → Int → List Bn × Int
  | 0, acc, _, _ => (acc, 0)
  | f + 1, acc, held, id =>
    if id = -1 then (if held = (incident ls node).length then (acc, 0) else ([], 101)) else
    if id < 0 then ([], 3) else
    match gs[id.toNat]? with
    | none => ([], 3)
    | some g =>
      if g.live = false then ([], 3) else
      if g.dst ≠ node ∨ (∃ b, acc.getLast? = some b ∧ g.src ≤ b.t) then ([], 170) else
      if oneE ls ts g ≠ 0 then ([], oneE ls ts g) else
      rdg ls ts gs node f (acc ++ [oneB ls g]) (held + ((idsOf ls g 0).length + (idsOf ls g 1).length + (idsOf ls g 2).length)) g.tn
/-- the whole answer -/
def reads (ls : List Lk) (ts : List Int) (gs : List Lk) (node head : Int) : List Bn × Int := if ts.length ≠ ls.length then ([], 2) else rdg ls ts gs node (gs.length + 1) [] 0 head

section rdg
variable {ls : List Lk} {ts : List Int} {gs : List Lk} {node : Int} {f : Nat} {acc : List Bn} {held : Nat} {id : Int}
theorem rdg_end : rdg ls ts gs node (f + 1) acc held (-1) = if held = (incident ls node).length then (acc, 0) else ([], 101) := by simp [rdg]
theorem rdg_neg (h1 : id ≠ -1) (h2 : id < 0) : rdg ls ts gs node (f + 1) acc held id = ([], 3) := by
  rw [rdg, if_neg h1, if_pos h2]
theorem rdg_none {j : Nat} (h : gs[j]? = none) : rdg ls ts gs node (f + 1) acc held (j : Int) = ([], 3) := by
  rw [rdg, if_neg (by omega), if_neg (by omega)]; simp only [Int.toNat_natCast, h]
theorem rdg_dead {j : Nat} {g : Lk} (h : gs[j]? = some g) (hl : g.live = false) : rdg ls ts gs node (f + 1) acc held (j : Int) = ([], 3) := by
  rw [rdg, if_neg (by omega), if_neg (by omega)]; simp only [Int.toNat_natCast, h]; rw [if_pos hl]
theorem rdg_group {j : Nat} {g : Lk} (h : gs[j]? = some g) (hl : g.live = true) (hc : g.dst ≠ node ∨ (∃ b, acc.getLast? = some b ∧ g.src ≤ b.t)) : rdg ls ts gs node (f + 1) acc held (j : Int) = ([], 170) := by
  rw [rdg, if_neg (by omega), if_neg (by omega)]; simp only [Int.toNat_natCast, h]; rw [if_neg (by simp [hl]), if_pos hc]
theorem rdg_one {j : Nat} {g : Lk} (h : gs[j]? = some g) (hl : g.live = true) (hc : ¬ (g.dst ≠ node ∨ (∃ b, acc.getLast? = some b ∧ g.src ≤ b.t))) (he : oneE ls ts g ≠ 0) : rdg ls ts gs node (f + 1) acc held (j : Int) = ([], oneE ls ts g) := by
  rw [rdg, if_neg (by omega), if_neg (by omega)]; simp only [Int.toNat_natCast, h]; rw [if_neg (by simp [hl]), if_neg hc, if_pos he]
theorem rdg_step {j : Nat} {g : Lk} (h : gs[j]? = some g) (hl : g.live = true) (hc : ¬ (g.dst ≠ node ∨ (∃ b, acc.getLast? = some b ∧ g.src ≤ b.t))) (he : oneE ls ts g = 0) :
    rdg ls ts gs node (f + 1) acc held (j : Int) = rdg ls ts gs node f (acc ++ [oneB ls g]) (held + ((idsOf ls g 0).length + (idsOf ls g 1).length + (idsOf ls g 2).length)) g.tn := by
  rw [rdg, if_neg (by omega), if_neg (by omega)]; simp only [Int.toNat_natCast, h]; rw [if_neg (by simp [hl]), if_neg hc, if_neg (by simp [he])]
end rdg

/-- rows that stand for bunches -/
def RowsR (w : World) (rs : List (Int × B3)) (acc : List Bn) : Prop := rs.length = acc.length ∧ ∀ (i : Nat) (p : Int × B3) (b : Bn), rs[i]? = some p → acc[i]? = some b → p.1 = b.t ∧ Own3 w p.2 b.f
theorem RowsR.nil (w : World) : RowsR w [] [] := ⟨rfl, by simp⟩
theorem RowsR.chg {w w' : World} {rs : List (Int × B3)} {acc : List Bn} (h : RowsR w rs acc) (hc : Chg [] w w') : RowsR w' rs acc := ⟨h.1, fun i p b hp hb => ⟨(h.2 i p b hp hb).1, (h.2 i p b hp hb).2.chg hc (fun _ _ _ _ => List.not_mem_nil)⟩⟩
theorem RowsR.chgA {w w' : World} {rs : List (Int × B3)} {acc : List Bn} {e : TypeId} {sz n c : Nat} {A : Option Addr} {xs : List Value} (h : RowsR w rs acc) (ho : Own w e sz A n c xs) (he : 3 ≠ e) (hc : Chg (bo A) w w') : RowsR w' rs acc :=
  ⟨h.1, fun i p b hp hb => ⟨(h.2 i p b hp hb).1, fun k hk => ((h.2 i p b hp hb).2 k hk).chg hc (fun x hx => ((h.2 i p b hp hb).2 k hk).own_ne ho he x hx)⟩⟩
theorem RowsR.snoc {w : World} {rs : List (Int × B3)} {acc : List Bn} {t : Int} {b : B3} {x : Bn} (h : RowsR w rs acc) (ht : t = x.t) (hb : Own3 w b x.f) : RowsR w (rs ++ [(t, b)]) (acc ++ [x]) := by
  refine ⟨by simp [h.1], fun i p u hp hu => ?_⟩
  rcases Nat.lt_or_ge i rs.length with h1 | h1
  · rw [List.getElem?_append_left h1] at hp
    rw [List.getElem?_append_left (by rw [← h.1]; exact h1)] at hu
    exact h.2 i p u hp hu
  · rw [List.getElem?_append_right h1] at hp
    have hi : i = rs.length := by
      rcases Nat.lt_or_ge rs.length i with h2 | h2
      · rw [List.getElem?_eq_none (by simp; omega)] at hp; cases hp
      · omega
    subst hi
    rw [List.getElem?_append_right (by rw [h.1]; exact Nat.le_refl _)] at hu
    rw [h.1] at hu hp
    simp at hp hu
    subst hp; subst hu
    exact ⟨ht, hb⟩
theorem RowsR.brd {w : World} {rs : List (Int × B3)} {acc : List Bn} {e : TypeId} {A : Option Addr} {n c : Nat} (h : RowsR w rs acc) (ho : Own w e 4 A n c (rows rs)) : BRd w A n c acc := ⟨rs, ho.rd, h.1, fun i p b hp hb => ⟨(h.2 i p b hp hb).1, (h.2 i p b hp hb).2.rd⟩⟩
theorem RowsR.last {w : World} {rs : List (Int × B3)} {acc : List Bn} (h : RowsR w rs acc) {b : Bn} (hb : acc.getLast? = some b) : ∃ p, rs[acc.length - 1]? = some p ∧ p.1 = b.t := by
  rw [List.getLast?_eq_getElem?] at hb
  have hl := (List.getElem?_eq_some_iff.1 hb).1
  obtain ⟨p, hp⟩ : ∃ p, rs[acc.length - 1]? = some p := ⟨_, List.getElem?_eq_getElem (by rw [h.1]; exact hl)⟩
  exact ⟨p, hp, (h.2 _ p b hp hb).1⟩

/-- the groups read so far: unlike, their types rising -/
structure RGood (gs : List Lk) (acc : List Bn) (V : List Nat) : Prop where
  len : V.length = acc.length
  lt : ∀ j ∈ V, j < gs.length
  ty : ∀ (i j : Nat) (b : Bn), V[i]? = some j → acc[i]? = some b → ∃ g, gs[j]? = some g ∧ g.src = b.t
  up : (acc.map (·.t)).Pairwise (· < ·)
theorem RGood.nil (gs : List Lk) : RGood gs [] [] := ⟨rfl, by simp, by simp, by simp⟩
theorem RGood.nodup {gs : List Lk} {acc : List Bn} {V : List Nat} (h : RGood gs acc V) : V.Nodup := by
  rw [List.Nodup, List.pairwise_iff_getElem]
  intro i j hi hj hij heq
  have h1 : acc[i]? = some (acc[i]'(by rw [← h.len]; exact hi)) := List.getElem?_eq_getElem _
  have h2 : acc[j]? = some (acc[j]'(by rw [← h.len]; exact hj)) := List.getElem?_eq_getElem _
  obtain ⟨g1, e1, f1⟩ := h.ty i _ _ (List.getElem?_eq_getElem hi) h1
  obtain ⟨g2, e2, f2⟩ := h.ty j _ _ (List.getElem?_eq_getElem hj) h2
  rw [heq, e2] at e1
  injection e1 with e1
  subst e1
  have := List.pairwise_iff_getElem.1 h.up i j (by simp; rw [← h.len]; exact hi) (by simp; rw [← h.len]; exact hj) hij
  simp at this
  omega
theorem RGood.bnd {gs : List Lk} {acc : List Bn} {V : List Nat} (h : RGood gs acc V) : acc.length ≤ gs.length := by
  rw [← h.len]; exact nodup_bound gs.length V h.nodup h.lt
theorem pairwise_snoc {l : List Int} {x : Int} (h : l.Pairwise (· < ·)) (hx : ∀ y, l.getLast? = some y → y < x) : (l ++ [x]).Pairwise (· < ·) := by
  rw [List.pairwise_append]
  refine ⟨h, by simp, fun a ha b hb => ?_⟩
  simp at hb
  subst hb
  cases hl : l.getLast? with
  | none => rw [List.getLast?_eq_none_iff] at hl; subst hl; simp at ha
  | some y =>
    have hy := hx y hl
    obtain ⟨i, hi, rfl⟩ := List.getElem_of_mem ha
    rw [List.getLast?_eq_getElem?, List.getElem?_eq_getElem (show l.length - 1 < l.length by omega)] at hl
    injection hl with hl
    rcases Nat.lt_or_ge i (l.length - 1) with h3 | h3
    · have := List.pairwise_iff_getElem.1 h i (l.length - 1) hi (by omega) h3; omega
    · have : i = l.length - 1 := by omega
      subst this; omega
theorem RGood.step {gs : List Lk} {acc : List Bn} {V : List Nat} {j : Nat} {g : Lk} {b : Bn} (h : RGood gs acc V) (hg : gs[j]? = some g) (hb : b.t = g.src) (hl : ¬ ∃ b, acc.getLast? = some b ∧ g.src ≤ b.t) : RGood gs (acc ++ [b]) (V ++ [j]) := by
  refine ⟨by simp [h.len], fun k hk => ?_, fun i k c hi hc => ?_, ?_⟩
  · rcases List.mem_append.1 hk with hk | hk
    · exact h.lt k hk
    · simp at hk; subst hk; exact (List.getElem?_eq_some_iff.1 hg).1
  · rcases Nat.lt_or_ge i V.length with h1 | h1
    · rw [List.getElem?_append_left h1] at hi
      rw [List.getElem?_append_left (by rw [← h.len]; exact h1)] at hc
      exact h.ty i k c hi hc
    · rw [List.getElem?_append_right h1] at hi
      rw [List.getElem?_append_right (by rw [← h.len]; exact h1)] at hc
      have hi0 : i = V.length := by
        rcases Nat.lt_or_ge V.length i with h2 | h2
        · rw [List.getElem?_eq_none (by simp; omega)] at hi; cases hi
        · omega
      subst hi0
      rw [← h.len] at hc
      simp at hi hc
      subst hi; subst hc
      exact ⟨g, hg, hb.symm⟩
  · rw [List.map_append, List.map_cons, List.map_nil]
    refine pairwise_snoc h.up (fun y hy => ?_)
    rw [List.getLast?_map] at hy
    cases hc : acc.getLast? with
    | none => rw [hc] at hy; cases hy
    | some c =>
      rw [hc] at hy
      simp at hy
      subst hy
      rw [hb]
      rcases Int.lt_or_le c.t g.src with h1 | h1
      · exact h1
      · exact absurd ⟨c, hc, h1⟩ hl

/-- bunches in a row of the call's own, for reading -/
def BRo (w : World) (A : Option Addr) (n c : Nat) (bs : List Bn) : Prop := ∃ rs : List (Int × B3), Own w 52 4 A n c (rows rs) ∧ rs.length = bs.length ∧ ∀ (i : Nat) (p : Int × B3) (b : Bn), rs[i]? = some p → bs[i]? = some b → p.1 = b.t ∧ Rd3 w p.2 b.f
theorem BRo.brd {w : World} {A : Option Addr} {n c : Nat} {bs : List Bn} (h : BRo w A n c bs) : BRd w A n c bs := by
  obtain ⟨rs, h1, h2⟩ := h
  exact ⟨rs, h1.rd, h2⟩
theorem RowsR.bro {w : World} {rs : List (Int × B3)} {acc : List Bn} {A : Option Addr} {n c : Nat} (h : RowsR w rs acc) (ho : Own w 52 4 A n c (rows rs)) : BRo w A n c acc := ⟨rs, ho, h.1, fun i p b hp hb => ⟨(h.2 i p b hp hb).1, (h.2 i p b hp hb).2.rd⟩⟩

/-- what Read tells, for reading -/
def ReadTo (ls : List Lk) (ts : List Int) (gs : List Lk) (node head : Int) (w : World) (e : Ending) (w' : World) : Prop :=
  ∃ A c, e = .returned (.tuple #[.slice A (reads ls ts gs node head).1.length c, .int .i64 (reads ls ts gs node head).2]) ∧ BRo w' A (reads ls ts gs node head).1.length c (reads ls ts gs node head).1 ∧ Chg [] w w'
end Go.Proofs.Ytelmnmepdmfihaa
