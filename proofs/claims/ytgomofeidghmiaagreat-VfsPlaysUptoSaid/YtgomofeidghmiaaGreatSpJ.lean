/-
  Copy, same, spoil, slices.Clone at bytes: contracts.
  same, spoil, slices.Clone at bytes: contracts.
  append(s, make([]T, k)...) as one law, for a slice that is nil or owned, elements of one cell.
  The program's Spool: its methods' contracts. The state: the safe bytes, and the pending writes one by one.
  The program's Spool: Sync, Seen, Safe, Size, Pending.
  The program's Spool: After.
-/
import Derived.Test.YtgomofeidghmiaaGreatMem
import Derived.Test.YtgomofeidghmiaaGreatRows
import Derived.Deep.QuietTactic
import Derived.BigQuiet
import Derived.WalkSpells
import Derived.Lib.AppendZerosOnto
import Derived.Deep.RegionLaw
import Derived.StillTailTactics
namespace Go.Proofs.YtgomofeidghmiaaGreat
open Go.RowKit

abbrev bv (zs : List Int) : List Value := zs.map (Value.int .u8)
abbrev iv (zs : List Int) : List Value := zs.map (Value.int .i64)
theorem bv_one (zs : List Int) : ∀ u ∈ bv zs, u.oneCell' = true := ints_oneCell _ _
theorem iv_one (zs : List Int) : ∀ u ∈ iv zs, u.oneCell' = true := ints_oneCell _ _

/-- a slice in new memory is told -/
def NewRow (e : TypeId) (sz : Nat) (w : World) (xs : List Value) (n : Nat) (en : Ending) (w' : World) : Prop :=
  ∃ A c, en = .returned (.slice A n c) ∧ Own w' e sz A n c xs ∧ Chg [] w w' ∧ ∀ k ∈ bo A, w.heap.size ≤ k

theorem etyBytes : Ety Tryz.prog 31 5 1 1 (.int .u8 0) := .mk' Tryz.underlying31 (by kernel_rfl) rfl (by decide)
theorem etyInts : Ety Tryz.prog 44 3 1 8 (.int .i64 0) := .mk' Tryz.underlying44 (by kernel_rfl) rfl (by decide)

theorem one_int (k : IntKind) (x : Int) : ∀ u ∈ (#[Value.int k x] : Array Value).toList, u.oneCell' = true := by simp [Value.oneCell']

theorem take_snoc {α : Type} (l : List α) (k : Nat) (x : α) (h : l[k]? = some x) : l.take (k + 1) = l.take k ++ [x] := by
  rw [List.take_add_one, h]; rfl

theorem rd_byte {w : World} {k : IntKind} {A : Option Addr} {n c : Nat} {zs : List Int} (h : Rd w 1 A n c (zs.map (Value.int k))) {j : Nat} (hj : j < n) :
    ∃ ad x, A = some ad ∧ zs[j]? = some x ∧ w.cell? (ad.add j) = some (.int k x) := by
  obtain ⟨ad, u, h1, h2, h3⟩ := h.at1 hj
  rw [List.getElem?_map] at h2
  cases hz : zs[j]? with
  | none => rw [hz] at h2; cases h2
  | some x => rw [hz] at h2; simp at h2; subst h2; exact ⟨ad, x, h1, rfl, h3⟩

set_option maxRecDepth 100000 in
set_option maxHeartbeats 800000 in
theorem copy_any (A : Option Addr) (n c : Nat) (zs : List Int) (w : World) (hn : n ≤ 1073741824) (hrd : Rd w 1 A n c (bv zs)) :
    Calls Tryz.prog 91 #[.slice A n c] w (NewRow 5 1 w (bv zs) n) := by
  have hl : zs.length = n := by have := hrd.1; simp at this; omega
  have HR := Lib.hid hrd
  have HL := Lib.hid hl
  clear hrd hl
  go_enter Tryz.func91, Tryz.ntmps91
  go_wp2
  go_loopw [3, 4] (fun v i wr => ∃ (k : Nat) (A' : Option Addr) (c' : Nat), k ≤ n ∧ i = .int .i64 k ∧ v = .slice A' k c' ∧ Own wr 5 1 A' k c' ((bv zs).take k) ∧ Chg [] w wr ∧ (∀ k ∈ bo A', w.heap.size ≤ k)) (fun _ i _ => n - (intOf i).toNat)
  case atStart =>
    exact ⟨0, _, 0, Nat.zero_le _, rfl, rfl, Own.lit w 5 1 #[] 0 (by decide) rfl, (Chg.refl _ _).alloc _, by simp⟩
  case round =>
    obtain ⟨k, A', c', hk, rfl, rfl, hown, hchg, hnew⟩ := hrel
    by_cases hlt : k < n
    · obtain ⟨ad, x, rfl, hx, hcell⟩ := rd_byte (HR.out.chg hchg (by simp)) hlt
      have HX := Lib.hid hx
      have HN := Lib.hid hnew
      clear hx hnew
      go_wp2_with (at_builtin; refine wpList_app rfl _ _ rfl etyBytes rfl (hown.chg ((Chg.refl [] wr).alloc _) (by simp)) rfl (Own.lit wr 5 1 #[.int .u8 x] 1 (by decide) rfl).rd (one_int _ _) (by unfold maxLen; omega) (by omega) ?_; intro A2 c2 w2 hown2 hchg2 hnew2 _)
      go_roundw
      case rel =>
        refine ⟨k + 1, A2, c2, by omega, by go_num, rfl, ?_, (hchg.alloc _).trans hchg2 (fun y hy => .inr (HN.out y hy)), fun y hy => ?_⟩
        · rw [take_snoc _ _ (.int .u8 x) (by simp [HX.out])]; exact hown2
        · rcases hnew2 y hy with h1 | h1
          · exact HN.out y h1
          · have h2 := hchg.size; simp at h1; omega
      case measure => simp [intOf]; omega
    · go_wp2
      go_ret
      have hkn : k = n := by omega
      subst hkn
      exact ⟨A', c', rfl, by rw [← List.take_of_length_le (l := bv zs) (i := k) (by simp [HL.out])]; exact hown, hchg, hnew⟩

end Go.Proofs.YtgomofeidghmiaaGreat

namespace Go.Proofs.YtgomofeidghmiaaGreat
open Go.RowKit

theorem bne_int (x y : Int) : (x != y) = !(x == y) := rfl


/-- slices.Clone: nil stays nil -/
theorem clone_any (A : Option Addr) (n c : Nat) (zs : List Int) (w : World) (hn : n ≤ 1073741824) (hrd : Rd w 1 A n c (bv zs)) :
    Calls Tryz.prog 90 #[.slice A n c] w (NewRow 5 1 w (bv zs) n) := by
  cases A with
  | none =>
    have hc := hrd.2.2.2.1 rfl
    have hn0 : n = 0 := by have := hrd.2.1; omega
    subst hc; subst hn0
    have hz : bv zs = [] := List.eq_nil_of_length_eq_zero (by simpa using hrd.1)
    have HZ := Lib.hid hz
    have qT := fun (w : World) => Lib.run_eql_slice_nil (P := Tryz.prog) w 31 5 none 0 0 0 0 Tryz.underlying31
    clear hz hrd
    go_enter Tryz.func90, Tryz.ntmps90
    go_wp2
    go_ret
    exact ⟨none, 0, rfl, by rw [HZ.out]; exact Own.nil _ _ _, Chg.refl _ _, by simp⟩
  | some ad =>
    have HR := Lib.hid hrd
    clear hrd
    have qT := fun (w : World) => Lib.run_eql_slice_nil (P := Tryz.prog) w 31 5 (some ad) n c 0 0 Tryz.underlying31
    go_enter Tryz.func90, Tryz.ntmps90
    go_wp2_with (at_builtin; refine wpList_app rfl _ _ rfl etyBytes rfl (Own.lit w 5 1 #[] 0 (by decide) rfl) rfl (HR.out.chg ((Chg.refl [] w).alloc _) (by simp)) (bv_one zs) (by unfold maxLen; omega) (by omega) ?_; intro A2 c2 w3 hown4 hchg4 hnew4 _)
    go_ret
    exact ⟨A2, c2, rfl, by simpa using hown4, ((Chg.refl [] w).alloc _).trans hchg4 (by simp), fun k hk => by
      rcases hnew4 k hk with h1 | h1
      · simp at h1; omega
      · have := h1.1; simp at this; omega⟩
end Go.Proofs.YtgomofeidghmiaaGreat

namespace Go.Proofs.YtgomofeidghmiaaGreat
open Go.RowKit

theorem zeroCells_list (z : Value) (hz : z.cells = #[z]) (k : Nat) : (Builtin.zeroCells z.cells k).toList = List.replicate k z := by
  apply List.ext_getElem?
  intro i
  rw [hz]
  simp only [Builtin.zeroCells, Array.toList_map, Array.toList_range, List.getElem?_map, List.getElem?_replicate]
  by_cases h : i < k
  · rw [List.getElem?_eq_getElem (by simpa using h)]
    simp [h, Nat.mod_one]
  · rw [List.getElem?_eq_none (by simpa using h)]
    simp [h]

theorem run_app_zeros {P : Program} {w : World} {t tn ty e : TypeId} {bytes : Nat} {z : Value} (he : Ety P t e 1 bytes z) (htn : P.underlying tn = some (.int .i64)) (hz1 : z.cells = #[z]) (hz2 : z.oneCell' = true)
    {A : Option Addr} {n c : Nat} {xs : List Value} (hown : Own w e 1 A n c xs) (k : Nat) (h63 : n + k ≤ maxLen) (hb : (n + k) * bytes ≤ 140737488355328) :
    ∃ A' c' w', (Builtin.append_ #[t, tn] ty #[.slice A n c, .int .i64 k]).run P w = .ok (.slice A' (n + k) c') w' ∧ Own w' e 1 A' (n + k) c' (xs ++ List.replicate k z) ∧ Chg (bo A) w w' ∧
      (∀ k ∈ bo A', k ∈ bo A ∨ (w.heap.size ≤ k ∧ k < w'.heap.size)) := by
  obtain ⟨ht, ⟨i, hi, hz, hsz, hby⟩, hzs, hpos⟩ := he
  subst hby
  have hkb : k * i.bytes ≤ 281474976710656 := by
    have : k * i.bytes ≤ (n + k) * i.bytes := Nat.mul_le_mul_right _ (by omega)
    omega
  have hw : IntKind.i64.wrap (k : Int) = k := by rw [IntKind.wrap_i64]; simp only [maxLen] at h63; omega
  have hneg : ¬ ((k : Int) < 0) := by omega
  have h48i : ¬ (281474976710656 < (k : Int) * (i.bytes : Int)) := by rw [← Int.natCast_mul]; omega
  by_cases hk : k = 0
  · subst hk
    have hw0 : IntKind.i64.wrap 0 = 0 := by decide
    have hnc : n ≤ c := hown.rd.2.1
    refine ⟨A, c, w, ?_, by simpa using hown, Chg.refl _ _, fun k hk => .inl hk⟩
    cases A <;> simp [Builtin.append_, run_underlying ht, run_underlying htn, sizeOf, typeInfo, hi, asInt, asIntOf, hw0, hnc, storeCells]
  have hns : ¬ (k * i.size = 0) := by rw [hsz]; omega
  have grown : ∀ old, ∃ A' c' w', (.ok (.slice (some ⟨w.heap.size, 0, none⟩) (n + k) (grownCap w (n + k) old e)) (w.drew.alloc (.cells (xs.toArray ++ Builtin.zeroCells z.cells k ++ Builtin.zeroCells z.cells (grownCap w (n + k) old e - (n + k))) e)) : Result Value) = .ok (.slice A' (n + k) c') w' ∧
      Own w' e 1 A' (n + k) c' (xs ++ List.replicate k z) ∧ Chg (bo A) w w' ∧ (∀ k ∈ bo A', k ∈ bo A ∨ (w.heap.size ≤ k ∧ k < w'.heap.size)) := by
    intro old
    have hge := grownCap_ge w (n + k) old e
    have hcm : grownCap w (n + k) old e ≤ maxLen := grownCap_le_maxLen w (n + k) old e h63
    have hxl : xs.length = n := by have := hown.1; omega
    refine ⟨_, _, _, rfl, ⟨by simp [hxl], .inr ⟨w.heap.size, _, _, rfl, Nat.zero_le _, heap_alloc_new w.drew _, hge, hcm, ?_, ?_⟩⟩, ((Chg.refl _ _).drew).alloc _, ?_⟩
    · simp only [Array.size_append, List.size_toArray, size_zeroCells, hzs, hxl]
      omega
    · simp only [Array.toList_append, zeroCells_list z hz1]
      exact List.take_left' (by simp [hxl])
    · intro j hj; right; simp at hj; subst hj; simp
  by_cases hroom : n + k ≤ c
  · rcases hown.form with ⟨rfl, rfl, rfl, rfl⟩ | ⟨g, cur, rfl, hbk, hnc, hcm, hcs, htk⟩
    · omega
    · have hfit : n * 1 + (List.replicate k z).length ≤ cur.size := by simp; omega
      have hst := run_storeCells_at P g (n * 1) e (List.replicate k z) 0 cur w hbk (by simpa using hfit) (by simp [hz2])
      simp only [Nat.add_zero, Nat.mul_one, List.length_replicate] at hst
      have hxl : xs.length = n := by have := hown.1; omega
      have hcl : cur.toList.length = cur.size := by simp
      refine ⟨some ⟨g, 0, none⟩, c, _, ?_, ⟨by simp [hown.1], .inr ⟨g, c, _, rfl, Nat.zero_le _, setRow_heap w g cur (cur.toList.take n ++ List.replicate k z ++ cur.toList.drop (n + k)).toArray e _ hbk, hroom, hcm, ?_, ?_⟩⟩, ⟨rfl, rfl, rfl, by simp [World.setRow], fun j _ hj => setRow_other w g j _ (by simpa using hj)⟩, fun j hj => .inl hj⟩
      · simp [Builtin.append_, run_underlying ht, run_underlying htn, sizeOf, typeInfo, zeroValue, hi, hz, asInt, asIntOf, hw, hneg, h48i, hroom, Addr.add_lit, hsz, hk, zeroCells_list z hz1, hst]
      · simp; omega
      · simp only [Nat.mul_one] at htk ⊢
        rw [← htk]
        exact List.take_left' (by simp; omega)
  · have hc : c < n + k := by omega
    have hold : (Builtin.firstCells i.size n (.slice A n c)).run P w.drew = .ok xs.toArray w.drew := by
      rcases hown.form with ⟨rfl, rfl, rfl, rfl⟩ | ⟨g, cur, rfl, hbk, hnc, hcm, hcs, htk⟩
      · exact run_firstCells_none (P := P) w.drew _ _ _ _
      · exact run_firstCells_some (P := P) w.drew i.size n ⟨g, 0, none⟩ n c xs (by rw [hsz]; exact hown.1) (World.ownsRow.cells hown (g := g) rfl)
    have e0 := Lib.run_append_grow_zeros (P := P) w t tn ty e i z .i64 .i64 ht htn hi hz A n c xs hold k (by omega) (by omega) hc (by simp only [maxLen] at h63; omega) hkb (growslice_fits (by omega) hb)
    rw [e0]
    exact grown c

theorem wpList_app_zeros {P : Program} {w : World} {ops : Array Oper} {rest : List Oper} {o : Oper} {a : Act} {Q : Exit → Act → World → Prop} (hgd : o.guard = none) (s x : Operand) {t tn : TypeId}
    (ho : o.op = .call { callee := .builtin .append, args := #[s, x], argTypes := #[t, tn] })
    {e : TypeId} {bytes : Nat} {z : Value} (he : Ety P t e 1 bytes z) (htn : P.underlying tn = some (.int .i64)) (hz1 : z.cells = #[z]) (hz2 : z.oneCell' = true)
    {A : Option Addr} {n c : Nat} {xs : List Value} (hs : a.eval s = .slice A n c) (hown : Own w e 1 A n c xs) (k : Nat) (hx : a.eval x = .int .i64 k) (h63 : n + k ≤ maxLen) (hb : (n + k) * bytes ≤ 140737488355328)
    (h : ∀ A' c' w', Own w' e 1 A' (n + k) c' (xs ++ List.replicate k z) → Chg (bo A) w w' → (∀ k ∈ bo A', k ∈ bo A ∨ (w.heap.size ≤ k ∧ k < w'.heap.size)) →
      wpList P ops Q rest (a.put o.dst (.slice A' (n + k) c')) w') : wpList P ops Q (o :: rest) a w := by
  obtain ⟨A', c', w', hr, h2, h3, h4⟩ := run_app_zeros (ty := o.type) he htn hz1 hz2 hown k h63 hb
  exact Lib.wpList_append_run w hgd s x t tn ho _ _ hs hx _ w' hr (h A' c' w' h2 h3 h4)
end Go.Proofs.YtgomofeidghmiaaGreat

namespace Go.Proofs.YtgomofeidghmiaaGreat
open Go.RowKit

/-- where each pending write ends -/
def ends : Nat → List (List Int) → List Int
  | _, [] => []
  | b, x :: r => ((b + x.length : Nat) : Int) :: ends (b + x.length) r
theorem ends_length (b : Nat) (ws : List (List Int)) : (ends b ws).length = ws.length := by
  induction ws generalizing b with
  | nil => rfl
  | cons x r ih => simp [ends, ih]
theorem ends_snoc (b : Nat) (ws : List (List Int)) (x : List Int) : ends b (ws ++ [x]) = ends b ws ++ [((b + ws.flatten.length + x.length : Nat) : Int)] := by
  induction ws generalizing b with
  | nil => simp [ends]
  | cons y r ih => simp [ends, ih]; omega
theorem ends_at (b : Nat) (ws : List (List Int)) (i : Nat) (x : List Int) (h : ws[i]? = some x) : (ends b ws)[i]? = some (((b + (ws.take i).flatten.length + x.length : Nat) : Int)) := by
  induction ws generalizing b i with
  | nil => simp at h
  | cons y r ih =>
    cases i with
    | zero => simp at h; subst h; simp [ends]
    | succ i => simp at h; simp [ends, ih _ i h]; omega

theorem flat_snoc (ws : List (List Int)) (x : List Int) : (ws ++ [x]).flatten.length = ws.flatten.length + x.length := by
  rw [List.flatten_append, List.length_append]; simp

/-- the program's Spool in block g: L: its blocks -/
def Spo (w : World) (g : Nat) (L : List Nat) (base : List Int) (ws : List (List Int)) : Prop :=
  ∃ A n c M m d s, Blk w g 143 #[.slice A n c, .int .i64 (s : Nat), .slice M m d] ∧ Own w 5 1 A n c (bv (base ++ ws.flatten)) ∧
    Own w 3 1 M m d (iv (ends base.length ws)) ∧ L = g :: (bo A ++ bo M) ∧ n = base.length + ws.flatten.length ∧ m = ws.length ∧ s = base.length

theorem Spo.lt {w : World} {g : Nat} {L : List Nat} {base : List Int} {ws : List (List Int)} (h : Spo w g L base ws) : ∀ k ∈ L, k < w.heap.size := by
  obtain ⟨A, n, c, M, m, d, s, hb, h1, h2, rfl, _⟩ := h
  intro k hk
  simp only [List.mem_cons, List.mem_append] at hk
  rcases hk with rfl | hk | hk
  · exact hb.lt
  · exact h1.lt k hk
  · exact h2.lt k hk
theorem Spo.chg {w w' : World} {g : Nat} {L M : List Nat} {base : List Int} {ws : List (List Int)} (h : Spo w g L base ws) (hc : Chg M w w') (hn : ∀ k ∈ L, k ∉ M) : Spo w' g L base ws := by
  obtain ⟨A, n, c, M, m, d, s, hb, h1, h2, rfl, e⟩ := h
  exact ⟨A, n, c, M, m, d, s, hb.chg hc (hn g (by simp)), h1.chg hc (fun k hk => hn k (by simp [hk])), h2.chg hc (fun k hk => hn k (by simp [hk])), rfl, e⟩

/-- New: a Spool in new memory -/
def NewSpo (w : World) (zs : List Int) (e : Ending) (w' : World) : Prop :=
  ∃ g L, e = .returned (.pointer (some ⟨g, 0, none⟩)) ∧ Spo w' g L zs [] ∧ Chg [] w w' ∧ ∀ k ∈ L, w.heap.size ≤ k

set_option maxRecDepth 100000 in
set_option maxHeartbeats 800000 in
theorem new_any (A : Option Addr) (n c : Nat) (zs : List Int) (w : World) (hn : n ≤ 1073741824) (hrd : Rd w 1 A n c (bv zs)) :
    Calls Tryz.prog 64 #[.slice A n c] w (NewSpo w zs) := by
  have hl : zs.length = n := by have := hrd.1; simp at this; omega
  have HL := Lib.hid hl
  clear hl
  go_enter Tryz.func64, Tryz.ntmps64
  go_wp2_with (go_at_call 90; refine (clone_any A n c zs _ hn hrd).mono ?_; rintro e w1 ⟨A1, c1, rfl, hown, hchg, hnew⟩)
  go_ret
  have ho := HL.out
  subst ho
  refine ⟨w1.heap.size, _, rfl, ⟨A1, _, c1, none, 0, 0, _, Blk.new w1 143 _, ?_, ?_, rfl, ?_, rfl, rfl⟩, hchg.alloc _, ?_⟩
  · simpa using hown.chg ((Chg.refl [] w1).alloc _) (by simp)
  · exact Own.nil _ _ _
  · simp
  · have := hchg.size
    intro k hk
    simp at hk
    rcases hk with rfl | hk
    · exact this
    · exact hnew k hk

/-- what a call that changes a Spool leaves -/
def SpoTo (w : World) (g : Nat) (L : List Nat) (base : List Int) (ws : List (List Int)) (e : Ending) (w' : World) : Prop :=
  ∃ L', e = .returned (.tuple #[]) ∧ Spo w' g L' base ws ∧ Chg L w w' ∧ ∀ k ∈ L', k ∈ L ∨ w.heap.size ≤ k

theorem append_nil (g : Nat) (L : List Nat) (base : List Int) (ws : List (List Int)) (B : Option Addr) (d : Nat) (w : World) (h : Spo w g L base ws) :
    Calls Tryz.prog 70 #[.pointer (some ⟨g, 0, none⟩), .slice B 0 d] w (SpoTo w g L base ws) := by
  go_enter Tryz.func70, Tryz.ntmps70
  go_wp2
  go_end0
  exact ⟨L, rfl, h, Chg.refl _ _, fun k hk => .inl hk⟩

set_option maxRecDepth 100000 in
set_option maxHeartbeats 1600000 in
theorem append_some (g : Nat) (L : List Nat) (base : List Int) (ws : List (List Int)) (B : Option Addr) (k d : Nat) (xs : List Int) (w : World) (h : Spo w g L base ws) (hk : 0 < k) (hlen : base.length + ws.flatten.length + k ≤ 1073741824)
    (hws : ws.length ≤ 1073741824) (hrd : Rd w 1 B k d (bv xs)) :
    Calls Tryz.prog 70 #[.pointer (some ⟨g, 0, none⟩), .slice B k d] w (SpoTo w g L base (ws ++ [xs])) := by
  obtain ⟨A, n, c, M, m, dm, s, hb, h1, h2, rfl, hn, hm, hs⟩ := h
  have hlx : xs.length = k := by have := hrd.1; simp at this; omega
  have n63 : n + k ≤ 1073741824 := by omega
  have m63 : m ≤ 1073741824 := by omega
  have HE := Lib.hid (show n = base.length + ws.flatten.length ∧ m = ws.length ∧ s = base.length ∧ xs.length = k from ⟨hn, hm, hs, hlx⟩)
  have HR := Lib.hid hrd
  have HO := Lib.hid h1
  have HM := Lib.hid h2
  have HB := Lib.hid hb
  have c0 := hb.cell 0
  have c1 := hb.cell 1
  have c2 := hb.cell 2
  have f0 := hb.frozen 0
  simp at c0 c1 c2
  clear hrd h1 h2 hb hn hm hs hlx hws
  go_enter Tryz.func70, Tryz.ntmps70
  go_wp2_with (at_builtin; refine wpList_app rfl _ _ rfl etyBytes rfl HO.out rfl HR.out (bv_one _) (by unfold maxLen; omega) (by omega) ?_; intro A1 cc1 w1 hown1 hchg1 hnew1 _; have ff := (HB.out.chg hchg1 (fun hh => HO.out.blk_ne HB.out (by decide) g hh rfl)); have d0 := ff.cell 0; have d1 := ff.cell 1; have d2 := ff.cell 2; have e0 := ff.frozen 0; have e2 := ff.frozen 2; simp at d0 d1 d2)
  have hb2 : Blk (w1.setCell ⟨g, 0, none⟩ (.slice A1 (n + k) cc1)) g 143 #[.slice A1 (n + k) cc1, .int .i64 (s : Nat), .slice M m dm] := by simpa using ff.set_ 0 (.slice A1 (n + k) cc1)
  have hch : Chg [g] w1 (w1.setCell ⟨g, 0, none⟩ (.slice A1 (n + k) cc1)) := (Chg.refl [g] w1).setCell (by simp) _
  have HA1 := Lib.hid (hown1.chg hch (fun j hj hh => hown1.blk_ne ff (by decide) j hj (by simpa using hh)))
  have hM1 := HM.out.chg hchg1 (fun j hj hh => HM.out.own_ne HO.out (by decide) j hj hh)
  have HM1 := Lib.hid (hM1.chg hch (fun j hj hh => hM1.blk_ne ff (by decide) j hj (by simpa using hh)))
  have HC := Lib.hid (show Chg (g :: bo A) w (w1.setCell ⟨g, 0, none⟩ (.slice A1 (n + k) cc1)) from (hchg1.mono (by simp +contextual)).trans hch (by simp))
  clear hM1 hch d0 d1 d2 e0 e2 ff c0 c1 c2 f0
  generalize w1.setCell ⟨g, 0, none⟩ (.slice A1 (n + k) cc1) = W2 at *
  have d0 := hb2.cell 0
  have d2 := hb2.cell 2
  have e2 := hb2.frozen 2
  have d2a := fun o => (hb2.alloc o).cell 2
  simp at d0 d2 d2a
  have HB2 := Lib.hid hb2
  clear hb2
  go_region_law (refine step_app rfl _ _ rfl etyInts rfl (HM1.out.chg (((Chg.refl [] W2).drew).alloc _) (by simp)) rfl (Own.lit W2.drew 3 1 #[.int .i64 ((n + k : Nat) : Int)] 1 (by decide) rfl).rd (one_int _ _) (by unfold maxLen; omega) (by omega) ?_; intro A2 cc2 w3 hown2 hchg2 hnew2 _; have hb3 := ((HB2.out.drew).alloc _).chg hchg2 (fun hh => HM1.out.blk_ne HB2.out (by decide) g hh rfl); have x2 := hb3.cell 2; have y2 := hb3.frozen 2; simp at x2)
  all_goals
    go_wp2
    go_end0
    obtain ⟨hn, hm, hs, hlx⟩ := HE.out
    have hW : Chg [g] w3 (w3.setCell ⟨g, 2, none⟩ (.slice A2 (m + 1) cc2)) := (Chg.refl [g] w3).setCell (by simp) _
    have hA3 := (HA1.out.chg (((Chg.refl [] W2).drew).alloc (.cells #[.int .i64 ((n + k : Nat) : Int)] 3)) (by simp)).chg hchg2 (fun j hj hh => HA1.out.own_ne HM1.out (by decide) j hj hh)
    have sz : w.heap.size ≤ W2.heap.size := HC.out.size
    refine ⟨g :: (bo A1 ++ bo A2), rfl, ⟨A1, n + k, cc1, A2, m + 1, cc2, s, by simpa using hb3.set_ 2 (.slice A2 (m + 1) cc2), ?_, ?_, rfl, ?_, ?_, hs⟩, ?_, ?_⟩
    · simpa [List.append_assoc] using hA3.chg hW (fun j hj hh => hA3.blk_ne hb3 (by decide) j hj (by simpa using hh))
    · rw [ends_snoc, ← hn]
      have := hown2.chg hW (fun j hj hh => hown2.blk_ne hb3 (by decide) j hj (by simpa using hh))
      simp only [List.map_append, List.map_cons, List.map_nil, hlx] 
      exact this
    · rw [flat_snoc]; omega
    · simp [hm]
    · refine ((((HC.out.mono (L := g :: (bo A ++ bo M)) (fun x hx => .inl (by simp only [List.mem_cons, List.mem_append] at hx ⊢; rcases hx with hx | hx <;> simp [hx]))).drew).alloc _).trans hchg2 ?_).trans hW (by simp)
      intro x hx; left; simp [hx]
    · intro j hj
      simp only [List.mem_cons, List.mem_append] at hj ⊢
      rcases hj with rfl | hj | hj
      · simp
      · rcases hnew1 j hj with h1 | h1
        · exact .inl (.inr (.inl h1))
        · exact .inr h1.1
      · rcases hnew2 j hj with h1 | h1
        · exact .inl (.inr (.inr h1))
        · right; have := h1.1; simp at this; omega
end Go.Proofs.YtgomofeidghmiaaGreat

namespace Go.Proofs.YtgomofeidghmiaaGreat
open Go.RowKit

theorem iv_ends_nil (b : Nat) : iv (ends b []) = [] := rfl

set_option maxRecDepth 100000 in
set_option maxHeartbeats 1600000 in
theorem sync_any (g : Nat) (L : List Nat) (base : List Int) (ws : List (List Int)) (w : World) (h : Spo w g L base ws) (hlen : base.length + ws.flatten.length ≤ 1073741824) :
    Calls Tryz.prog 71 #[.pointer (some ⟨g, 0, none⟩)] w (SpoTo w g L (base ++ ws.flatten) []) := by
  obtain ⟨A, n, c, M, m, dm, s, hb, h1, h2, rfl, hn, hm, hs⟩ := h
  have n63 : n ≤ 1073741824 := by omega
  have hmd := h2.rd.2.1
  have HE := Lib.hid (show n = base.length + ws.flatten.length ∧ m = ws.length ∧ s = base.length from ⟨hn, hm, hs⟩)
  have HO := Lib.hid h1
  have HM := Lib.hid h2
  have HB := Lib.hid hb
  have c0 := hb.cell 0
  have c1 := hb.cell 1
  have c2 := hb.cell 2
  have f1 := hb.frozen 1
  have f2 := hb.frozen 2
  simp at c0 c1 c2
  clear h1 h2 hb hn hm hs
  go_enter Tryz.func71, Tryz.ntmps71
  go_wp2
  go_end0
  obtain ⟨hn, hm, hs⟩ := HE.out
  have hb2 := (HB.out.set_ 1 (.int .i64 n)).set_ 2 (.slice M 0 dm)
  have hch : Chg [g] w ((w.setCell ⟨g, 1, none⟩ (.int .i64 n)).setCell ⟨g, 2, none⟩ (.slice M 0 dm)) := ((Chg.refl [g] w).setCell (by simp) _).setCell (by simp) _
  refine ⟨g :: (bo A ++ bo M), rfl, ⟨A, n, c, M, 0, dm, n, by simpa using hb2, ?_, ?_, rfl, ?_, rfl, ?_⟩, hch.mono (by simp), fun k hk => .inl hk⟩
  · simpa using HO.out.chg hch (fun j hj hh => HO.out.blk_ne HB.out (by decide) j hj (by simpa using hh))
  · have := (HM.out.chg hch (fun j hj hh => HM.out.blk_ne HB.out (by decide) j hj (by simpa using hh))).cut (Nat.zero_le _)
    simp only [Nat.zero_mul, List.take_zero] at this
    exact this
  · simpa using hn
  · rw [hn, List.length_append]

set_option maxRecDepth 100000 in
set_option maxHeartbeats 1600000 in
theorem seen_any (g : Nat) (L : List Nat) (base : List Int) (ws : List (List Int)) (w : World) (h : Spo w g L base ws) (hlen : base.length + ws.flatten.length ≤ 1073741824) (N0 : Nat) (hN0 : (base ++ ws.flatten).length = N0) :
    Calls Tryz.prog 55 #[.pointer (some ⟨g, 0, none⟩)] w (NewRow 5 1 w (bv (base ++ ws.flatten)) N0) := by
  subst hN0
  obtain ⟨A, n, c, M, m, dm, s, hb, h1, h2, rfl, hn, hm, hs⟩ := h
  have n63 : n ≤ 1073741824 := by omega
  have HE := Lib.hid (show n = (base ++ ws.flatten).length by rw [List.length_append]; omega)
  have HO := Lib.hid h1
  have c0 := hb.cell 0
  simp at c0
  clear h1 h2 hb hn hm hs
  go_enter Tryz.func55, Tryz.ntmps55
  go_wp2_with (go_at_call 90; refine (clone_any A n c _ _ n63 HO.out.rd).mono ?_; rintro e w1 ⟨A1, c1, rfl, hown, hchg, hnew⟩)
  go_ret
  rw [← HE.out]
  exact ⟨A1, c1, rfl, hown, hchg, hnew⟩

set_option maxRecDepth 100000 in
set_option maxHeartbeats 1600000 in
theorem safe_any (g : Nat) (L : List Nat) (base : List Int) (ws : List (List Int)) (w : World) (h : Spo w g L base ws) (hlen : base.length + ws.flatten.length ≤ 1073741824) (N0 : Nat) (hN0 : base.length = N0) :
    Calls Tryz.prog 93 #[.pointer (some ⟨g, 0, none⟩)] w (NewRow 5 1 w (bv base) N0) := by
  subst hN0
  obtain ⟨A, n, c, M, m, dm, s, hb, h1, h2, rfl, hn, hm, hs⟩ := h
  have n63 : n ≤ 1073741824 := by omega
  have s63 : s ≤ 1073741824 := by omega
  have hsn : s ≤ n := by omega
  have hnc := h1.rd.2.1
  have hcut : Rd w 1 A s c (bv base) := by
    have := h1.rd.take hsn
    rw [Nat.mul_one] at this
    rw [show bv base = (bv (base ++ ws.flatten)).take s by rw [hs]; simp]
    exact this
  have HC := Lib.hid hcut
  have HE := Lib.hid (show s = base.length from hs)
  have c0 := hb.cell 0
  have c1 := hb.cell 1
  simp at c0 c1
  have q0 : (0 : Int) ≤ s := by omega
  have q1 : (s : Int) ≤ c := by omega
  clear h1 h2 hb hn hm hs hcut
  go_enter Tryz.func93, Tryz.ntmps93
  go_wp2
  go_still_tail 9, (by kernel_rfl)
  go_wp2_with (go_at_call 90; refine (clone_any A s c _ _ s63 (HC.out.chg ((Chg.refl [] w).drew) (by simp))).mono ?_; rintro e w1 ⟨A1, c1, rfl, hown, hchg, hnew⟩)
  go_ret
  rw [← HE.out]
  exact ⟨A1, c1, rfl, hown, ((Chg.refl [] w).drew).trans0 hchg, hnew⟩

set_option maxRecDepth 100000 in
set_option maxHeartbeats 1600000 in
theorem size_any (g : Nat) (L : List Nat) (base : List Int) (ws : List (List Int)) (w : World) (h : Spo w g L base ws) (N0 : Nat) (hN0 : base.length + ws.flatten.length = N0) :
    Calls Tryz.prog 50 #[.pointer (some ⟨g, 0, none⟩)] w (fun e w' => e = .returned (.int .i64 (N0 : Nat)) ∧ w' = w) := by
  subst hN0
  obtain ⟨A, n, c, M, m, dm, s, hb, h1, h2, rfl, hn, hm, hs⟩ := h
  have HE := Lib.hid hn
  have c0 := hb.cell 0
  simp at c0
  clear h1 h2 hb hn hm hs
  go_enter Tryz.func50, Tryz.ntmps50
  go_wp2
  go_ret
  exact ⟨by rw [← HE.out]; rfl, rfl⟩

end Go.Proofs.YtgomofeidghmiaaGreat

namespace Go.Proofs.YtgomofeidghmiaaGreat
open Go.RowKit

/-- what a loss of power leaves: 'out' so far, 'from' where the next write begins -/
def aft (out : List Int) (start : Nat) : List (List Int) → List Bool → List Int
  | [], _ => out
  | x :: r, ks => aft (if ks.headD false then out ++ List.replicate (start - out.length) 0 ++ x else out) (start + x.length) r ks.tail

theorem aft_snoc (out : List Int) (start : Nat) (ws : List (List Int)) (x : List Int) (ks : List Bool) :
    aft out start (ws ++ [x]) ks = if ks[ws.length]?.getD false then aft out start ws ks ++ List.replicate (start + ws.flatten.length - (aft out start ws ks).length) 0 ++ x else aft out start ws ks := by
  induction ws generalizing out start ks with
  | nil => cases ks <;> simp [aft]
  | cons y r ih =>
    simp only [List.cons_append, aft, ih]
    cases ks with
    | nil => simp
    | cons k ks => simp [Nat.add_assoc]
theorem aft_le (out : List Int) (start : Nat) (ws : List (List Int)) (ks : List Bool) (h : out.length ≤ start) : (aft out start ws ks).length ≤ start + ws.flatten.length := by
  induction ws generalizing out start ks with
  | nil => simpa [aft] using h
  | cons y r ih =>
    simp only [aft, List.flatten_cons, List.length_append]
    have : (if ks.headD false then out ++ List.replicate (start - out.length) 0 ++ y else out).length ≤ start + y.length := by
      split
      · simp; omega
      · omega
    have := ih _ _ ks.tail this
    omega

theorem seg_at (base : List Int) (ws : List (List Int)) (i : Nat) (x : List Int) (h : ws[i]? = some x) : ((base ++ ws.flatten).drop (base.length + (ws.take i).flatten.length)).take x.length = x := by
  have hi : i < ws.length := (List.getElem?_eq_some_iff.1 h).1
  have e : ws = ws.take i ++ x :: ws.drop (i + 1) := by
    conv => lhs; rw [← List.take_append_drop i ws, List.drop_eq_getElem_cons hi]
    rw [(List.getElem?_eq_some_iff.1 h).2]
  have e2 : base ++ ws.flatten = (base ++ (ws.take i).flatten) ++ (x ++ (ws.drop (i + 1)).flatten) := by
    conv => lhs; rw [e]
    simp
  rw [e2, List.drop_left' (by simp), List.take_left' rfl]

abbrev kv (ks : List Bool) : List Value := ks.map Value.bool
theorem rd_bool {w : World} {A : Option Addr} {n c : Nat} {ks : List Bool} (h : Rd w 1 A n c (kv ks)) {j : Nat} (hj : j < n) :
    ∃ ad x, A = some ad ∧ ks[j]? = some x ∧ w.cell? (ad.add j) = some (.bool x) := by
  obtain ⟨ad, u, h1, h2, h3⟩ := h.at1 hj
  rw [List.getElem?_map] at h2
  cases hz : ks[j]? with
  | none => rw [hz] at h2; cases h2
  | some x => rw [hz] at h2; simp at h2; subst h2; exact ⟨ad, x, h1, rfl, h3⟩

set_option maxRecDepth 100000 in
set_option maxHeartbeats 1600000 in
theorem after_any (g : Nat) (L : List Nat) (base : List Int) (ws : List (List Int)) (K : Option Addr) (kn kc : Nat) (ks : List Bool) (w : World) (h : Spo w g L base ws) (hlen : base.length + ws.flatten.length ≤ 1073741824)
    (hwl : ws.length ≤ 1073741824) (hkn : kn ≤ 1073741824) (hkd : Rd w 1 K kn kc (kv ks)) (N0 : Nat) (hN0 : (aft base base.length ws ks).length = N0) :
    Calls Tryz.prog 59 #[.pointer (some ⟨g, 0, none⟩), .slice K kn kc] w (NewRow 5 1 w (bv (aft base base.length ws ks)) N0) := by
  subst hN0
  have HS := Lib.hid h
  obtain ⟨A, n, c, M, m, dm, s, hb, h1, h2, rfl, hn, hm, hs⟩ := h
  have n63 : n ≤ 1073741824 := by omega
  have m63 : m ≤ 1073741824 := by omega
  have hkl : ks.length = kn := by have := hkd.1; simp at this; omega
  have HE := Lib.hid (show n = base.length + ws.flatten.length ∧ m = ws.length ∧ s = base.length ∧ ks.length = kn from ⟨hn, hm, hs, hkl⟩)
  have HO := Lib.hid h1
  have HM := Lib.hid h2
  have HB := Lib.hid hb
  have HK := Lib.hid hkd
  have HL := Lib.hid hlen
  clear h1 h2 hb hn hm hs hkd hkl hlen hwl
  go_enter Tryz.func59, Tryz.ntmps59
  go_wp2_with (go_at_call 93; refine (safe_any g _ base ws _ HS.out HL.out base.length rfl).mono ?_; rintro e w1 ⟨A1, c1, rfl, hown, hchg, hnew⟩; have hb1 := HB.out.chg hchg (by simp); have c0 := hb1.cell 0; have c1' := hb1.cell 1; have c2 := hb1.cell 2; simp at c0 c1' c2)
  obtain ⟨hn, hm, hs, hkl⟩ := HE.out
  have hown' : Own w1 5 1 A1 base.length c1 (bv base) := hown
  clear hown c0 c1' c2
  go_loopw [5, 6, 20] (fun o f q wr => ∃ (i F N' : Nat) (A' : Option Addr) (c' : Nat), i ≤ m ∧ o = .slice A' N' c' ∧ f = .int .i64 F ∧ q = .int .i64 i ∧ F = base.length + (ws.take i).flatten.length ∧ N' = (aft base base.length (ws.take i) ks).length ∧
    Own wr 5 1 A' N' c' (bv (aft base base.length (ws.take i) ks)) ∧ Chg [] w wr ∧ (∀ k ∈ bo A', w.heap.size ≤ k)) (fun _ _ q _ => m - (intOf q).toNat)
  case atStart => exact ⟨0, s, _, A1, c1, Nat.zero_le _, rfl, rfl, rfl, by simp [hs], by simp [aft], by simpa [aft] using hown', hchg, hnew⟩
  case round =>
    obtain ⟨i, F, N', A', c', hi, rfl, rfl, rfl, hF, hN, hown, hchg, hnew⟩ := hrel
    have HF := Lib.hid hF
    have HN := Lib.hid hN
    have HW := Lib.hid hnew
    have HG := Lib.hid hkl
    have HNM := Lib.hid (show n = base.length + ws.flatten.length ∧ m = ws.length ∧ s = base.length from ⟨hn, hm, hs⟩)
    have hb1 := HB.out.chg hchg (by simp)
    have c0 := hb1.cell 0
    simp at c0
    by_cases hlt : i < m
    · obtain ⟨x, hx⟩ : ∃ x, ws[i]? = some x := ⟨_, List.getElem?_eq_getElem (by omega)⟩
      have hend := ends_at base.length ws i x hx
      have hle := aft_le base base.length (ws.take i) ks (Nat.le_refl _)
      have hts := take_snoc ws i x hx
      have hfl : (ws.take (i + 1)).flatten.length = (ws.take i).flatten.length + x.length := by rw [hts, flat_snoc]
      have htot : (ws.take (i + 1)).flatten.length ≤ ws.flatten.length := by
        conv => rhs; rw [← List.take_append_drop (i + 1) ws, List.flatten_append, List.length_append]
        omega
      obtain ⟨E, hE⟩ : ∃ E, E = base.length + (ws.take i).flatten.length + x.length := ⟨_, rfl⟩
      rw [← hE] at hend
      obtain ⟨ad, u, rfl, hu, hcu⟩ := rd_byte ((HM.out.rd).chg hchg (by simp)) hlt
      rw [hend] at hu
      simp at hu
      subst hu
      have q1 : F ≤ E := by omega
      have q2 : E ≤ n := by have := HL.out; omega
      have q3 : N' ≤ F := by omega
      have q4 := HO.out.rd.2.1
      obtain ⟨S, hsl, hrs, hbs⟩ := run_slice2 etyBytes (HO.out.rd) (show F ≤ E by omega) q2
      have hrs' : Rd w 1 S (E - F) (c - F) (bv x) := by
        rw [Nat.mul_one, Nat.mul_one, show E - F = x.length by omega, hF, ← List.map_drop, ← List.map_take, seg_at base ws i x hx] at hrs
        rw [show E - F = x.length by omega, hF]
        exact hrs
      have hrs2 := hrs'.chg hchg (by simp)
      have hAlt := HO.out.lt
      have hdis : ∀ k ∈ bo S, k ∉ bo A' := fun k hk hk' => by have h1 := hAlt k (hbs k hk); have h2 := hnew k hk'; omega
      have hga : g ∉ bo A' := fun hh => by have h1 := HB.out.lt; have h2 := hnew g hh; omega
      have HRS := Lib.hid hrs2
      have HDIS := Lib.hid hdis
      have HGA := Lib.hid hga
      have HBS := Lib.hid hbs
      have HQ := Lib.hid (show F = base.length + (ws.take i).flatten.length ∧ E = F + x.length from ⟨hF, by omega⟩)
      have HX := Lib.hid hx
      clear hrs hrs' hrs2 hAlt hdis hga hbs hF hN hnew hkl hn hm hs hx hend hle hts hfl htot hE
      by_cases hki : i < kn
      · obtain ⟨kd, b, rfl, hkb, hck⟩ := rd_bool (HK.out.chg hchg (by simp)) hki
        have HKB := Lib.hid hkb
        clear hkb
        cases b with
        | true =>
          have q5 : F - N' ≤ 1073741824 := by omega
          go_wp2_with (first
            | (at_builtin; refine wpList_app_zeros rfl _ _ rfl etyBytes Tryz.underlying3 rfl rfl rfl hown (F - N') (by show Value.int .i64 _ = _; congr 1; omega) (by unfold maxLen; omega) (by omega) ?_; intro A2 c2 w2 hown2 hchg2 hnew2; have hb2 := hb1.chg hchg2 HGA.out; have d0 := hb2.cell 0; simp at d0; rw [show N' + (F - N') = F by omega] at hown2)
            | (at_builtin; go_must (refine wpList_app rfl _ _ rfl etyBytes rfl hown2 rfl (HRS.out.chg hchg2 HDIS.out) (bv_one x) (by unfold maxLen; omega) (by omega) ?_); intro A3 c3 w3 hown3 hchg3 hnew3 _))
          go_roundw
          case rel =>
            obtain ⟨hF, hE⟩ := HQ.out
            have haft : aft base base.length (ws.take (i + 1)) ks = aft base base.length (ws.take i) ks ++ List.replicate (F - N') 0 ++ x := by
              rw [take_snoc ws i x HX.out, aft_snoc, List.length_take, Nat.min_eq_left (Nat.le_of_lt (List.getElem?_eq_some_iff.1 HX.out).1), HKB.out, HN.out, hF]; rfl
            refine ⟨i + 1, E, E, A3, c3, by omega, by first | rfl | (congr 1; omega), rfl, by go_num, ?_, ?_, ?_, ?_, ?_⟩
            · rw [take_snoc ws i x HX.out, flat_snoc]; omega
            · rw [haft]; simp [← HN.out]; omega
            · rw [haft]
              rw [show F + (E - F) = E by omega] at hown3
              simpa [List.append_assoc] using hown3
            · exact (hchg.trans hchg2 (fun y hy => .inr (HW.out y hy))).trans hchg3 (fun y hy => by
                rcases hnew2 y hy with h1 | h1
                · exact .inr (HW.out y h1)
                · right; have := hchg.size; omega)
            · intro y hy
              have := hchg.size
              have h2 := hchg2.size
              rcases hnew3 y hy with h1 | h1
              · rcases hnew2 y h1 with h1 | h1
                · exact HW.out y h1
                · omega
              · omega
          case measure => simp [intOf]; omega
        | false =>
          go_wp2
          go_roundw
          case rel =>
            obtain ⟨hF, hE⟩ := HQ.out
            have haft : aft base base.length (ws.take (i + 1)) ks = aft base base.length (ws.take i) ks := by
              rw [take_snoc ws i x HX.out, aft_snoc, List.length_take, Nat.min_eq_left (Nat.le_of_lt (List.getElem?_eq_some_iff.1 HX.out).1), HKB.out]; rfl
            exact ⟨i + 1, E, N', A', c', by omega, rfl, rfl, by go_num, by rw [take_snoc ws i x HX.out, flat_snoc]; omega, by rw [haft]; exact HN.out, by rw [haft]; exact hown, hchg, HW.out⟩
          case measure => simp [intOf]; omega
      · have hkb : ks[i]? = none := List.getElem?_eq_none (by rw [HG.out]; omega)
        have HKB := Lib.hid hkb
        clear hkb
        go_wp2
        go_roundw
        case rel =>
          obtain ⟨hF, hE⟩ := HQ.out
          have haft : aft base base.length (ws.take (i + 1)) ks = aft base base.length (ws.take i) ks := by
            rw [take_snoc ws i x HX.out, aft_snoc, List.length_take, Nat.min_eq_left (Nat.le_of_lt (List.getElem?_eq_some_iff.1 HX.out).1), HKB.out]; rfl
          exact ⟨i + 1, E, N', A', c', by omega, rfl, rfl, by go_num, by rw [take_snoc ws i x HX.out, flat_snoc]; omega, by rw [haft]; exact HN.out, by rw [haft]; exact hown, hchg, HW.out⟩
        case measure => simp [intOf]; omega
    · go_wp2
      go_ret
      have him : ws.take i = ws := List.take_of_length_le (by omega)
      have hown5 := hown
      rw [him] at hown5
      have hN5 := HN.out
      rw [him] at hN5
      rw [← hN5]
      exact ⟨A', c', rfl, hown5, hchg, HW.out⟩
end Go.Proofs.YtgomofeidghmiaaGreat
