/-
  The rows of bytes that come in, opened, and carried to the first virtual world; no condition but what each law names.
-/
import Derived.Test.YtcdhmnefmbcmaaaJbf
import Derived.Test.YtcdhmnefmbcmaaaKVxK
namespace Go.Proofs.Ytcdhmnefmbcmaaa.Vw
open Go Go.RowKit Go.Conc Go.ChangeShapes Go.WideShapes Go.Deep
/-- a row of bytes that comes in -/
structure InRow (W : World) where
  A : Option Addr
  n : Nat
  c : Nat
  zs : List Int
  rd : Rd W 1 A n c (bv zs)
  len : zs.length = n
  wf : ∀ z ∈ zs, (Lit.int .u8 z).wf = true
  blk : ∀ ad, A = some ad → 0 < c → ∃ p t f, W.heap[ad.block]? = some (.cells p t f)
theorem cells_of_cell {W : World} {a : Addr} {v : Value} (h : W.cell? a = some v) : ∃ p t f, W.heap[a.block]? = some (.cells p t f) := by
  unfold World.cell? at h
  split at h
  · exact ⟨_, _, _, by assumption⟩
  · cases h
theorem opn_row {H : Type} {enc : TypeId × Value → H} {W : World} {held : Bool} {n : Nat} {u : Value} {y : DataW H × List MemPlace} (h : DataW.trod enc Try.prog W 0 (fun _ => true) held n 22 [u] = some y) :
    ∃ r : InRow W, u = .slice r.A r.n r.c ∧ r.n + 1 ≤ Rows.uptoBulk y.1 := by
  obtain ⟨a, l, c, rfl⟩ : ∃ a l c, u = .slice a l c := by
    rcases open_slice Try.underlying22 h with ⟨h1, _⟩ | ⟨a, len, cap, m, n, D, Pl, h1, _⟩
    · simp at h1; exact ⟨_, _, _, h1⟩
    · simp at h1; exact ⟨_, _, _, h1⟩
  have hb : ∀ ad, a = some ad → 0 < c → ∃ p t f, W.heap[ad.block]? = some (.cells p t f) := fun ad e hc => by
    subst e
    rcases open_slice1 Try.underlying22 (by kernel_rfl) h with ⟨h1, _⟩ | ⟨a2, len, cap, m, n, V, D, Pl, hcs, hb, hl, hm, hmm, hx, hi⟩
    · simp at h1
    · simp at hcs
      obtain ⟨rfl, rfl, rfl⟩ := hcs
      have h0 := (hi 0 (by rw [hmm]; simpa using hc)).1
      obtain ⟨p, t, f, hp⟩ := cells_of_cell h0
      exact ⟨p, t, f, by rwa [add_block] at hp⟩
  obtain ⟨A, n1, c1, zs, e1, hz, hzl, hzb, hw⟩ := opn_ints Try.underlying22 Try.underlying5 (by kernel_rfl) ⟨_, _, _, rfl⟩ ⟨n, h⟩
  injection e1 with i1 i2 i3
  subst i1; subst i2; subst i3
  exact ⟨⟨_, _, _, zs, hz, hzl, hw, hb⟩, rfl, hzb⟩
/-- the rows, all of them -/
theorem opn_rows {H : Type} {enc : TypeId × Value → H} {W : World} {held : Bool} {v : Value} {d : DataW H} {p : List MemPlace} (hv : ∃ a l c, v = .slice a l c) (h : DataW.Trod enc Try.prog W 0 (fun _ => true) held 29 v d p) :
    ∃ A n c, ∃ Z : List (InRow W), v = .slice A n c ∧ Rd W 1 A n c (Z.map fun r => .slice r.A r.n r.c) ∧ Z.length = n ∧ (Z.map fun r => r.n + 1).sum + 1 ≤ Rows.uptoBulk d :=
  opn1 (fun r : InRow W => .slice r.A r.n r.c) (fun r => r.n + 1) Try.underlying29 (by kernel_rfl) (fun n u y h => opn_row h) hv h
theorem cell_E {Bs : Nat → Prop} {W : World} {H : Array Obj} {ts : List Value} (hBs : ∀ b, Bs b → ∃ p t f, W.heap[b]? = some (.cells p t f))
    (hrow : ∀ b, Bs b → ∀ p t f, W.heap[b]? = some (.cells p t f) → ∃ p', H[b]? = some (.cells p' t f) ∧ RowOk K1.F (rid Bs) W.heap.size ts p' p)
    {a q : Addr} (ha : Bs a.block) (hc : W.cell? a = some (.slice (some q) 0 0)) (t : Nat → Question → Nat) : ∃ b, (({ W with heap := H } : World).taped t).cell? a = some (.slice (some b) 0 0) := by
  obtain ⟨p, ty, f, hp⟩ := hBs _ ha
  obtain ⟨p', hp', hsz, hst⟩ := hrow _ ha p ty f hp
  unfold World.cell? at hc ⊢
  rw [hp] at hc
  rw [show (({ W with heap := H } : World).taped t).heap[a.block]? = H[a.block]? from rfl, hp']
  by_cases hs : a.spot.isSome
  · simp [hs] at hc
  · simp only [hs, Bool.false_eq_true, if_false] at hc ⊢
    have hlt : a.off < p'.size := by rw [hsz]; exact (Array.getElem?_eq_some_iff.1 hc).1
    obtain ⟨v, hv⟩ : ∃ v, p'[a.off]? = some v := ⟨_, Array.getElem?_eq_getElem hlt⟩
    obtain ⟨_, _, _, h3⟩ := hst a.off v _ hv hc
    obtain ⟨b, rfl⟩ := h3 q rfl
    exact ⟨b, hv⟩
/-- the rows in the first virtual world -/
theorem chin_H {W : World} {H : Array Obj} {ts : List Value}
    (hrow : ∀ (b : Nat), (∃ p t f, W.heap[b]? = some (Obj.cells p t f)) → ∀ p t f, W.heap[b]? = some (Obj.cells p t f) → ∃ p', H[b]? = some (Obj.cells p' t f) ∧ RowOk K1.F (rid fun (b : Nat) => ∃ p t f, W.heap[b]? = some (Obj.cells p t f)) W.heap.size ts p' p) (hz : W.heap.size ≤ H.size)
    {A : Option Addr} {n c : Nat} {Z : List (InRow W)} (hrd : Rd W 1 A n c (Z.map fun r => .slice r.A r.n r.c)) (hb : ∀ r ∈ Z, r.n ≤ 1073741824) (t : Nat → Question → Nat) :
    ChIn (({ W with heap := H } : World).taped t) (({ W with heap := H } : World).taped t) A (Z.map fun r => r.zs) := by
  intro j p hp
  rw [List.getElem?_map] at hp
  cases hr : Z[j]? with
  | none => rw [hr] at hp; cases hp
  | some r =>
    rw [hr] at hp
    obtain rfl : r.zs = p := by simpa using hp
    have hj : j < n := by
      have h1 := hrd.1
      have h2 := (List.getElem?_eq_some_iff.1 hr).1
      simp at h1
      omega
    obtain ⟨ad, u, rfl, hx, hc⟩ := hrd.at1 hj
    rw [List.getElem?_map, hr] at hx
    obtain rfl : Value.slice r.A r.n r.c = u := by simpa using hx
    have hB : ∃ p t f, W.heap[(ad.add j).block]? = some (.cells p t f) := cells_of_cell hc
    have hlen := r.len
    have hn := hb r (List.mem_of_getElem? hr)
    cases hA : r.A with
    | none =>
      have h1 := r.rd.2.2.2.1 hA
      have h2 := r.rd.2.1
      have h0 : r.n = 0 := by omega
      rw [hA, h0, h1] at hc
      have hcell := cell_H (Bs := fun b => ∃ p t f, W.heap[b]? = some (.cells p t f)) (fun b hb => hb) hrow hB hc (.inl rfl) t
      have hz0 : r.zs = [] := List.eq_nil_of_length_eq_zero (by omega)
      refine ⟨ad, none, 0, rfl, ?_, ?_, fun h => ?_, by omega⟩
      · rw [hz0]; exact hcell
      · rw [hz0]; exact Rd.nil _ _
      · rw [hz0] at h; simp at h
    | some a =>
      by_cases hc0 : 0 < r.c
      · have hBa := r.blk a hA hc0
        rw [hA] at hc
        have hcell := cell_H (Bs := fun b => ∃ p t f, W.heap[b]? = some (.cells p t f)) (fun b hb => hb) hrow hB hc (.inr ⟨a, _, _, rfl, hBa⟩) t
        have hrd2 := rd_H (Bs := fun b => ∃ p t f, W.heap[b]? = some (.cells p t f)) (fun b hb => hb) hrow hz r.rd (fun k hk => by rw [hA] at hk; simp at hk; subst hk; exact hBa) (fun x hx => .inl (by obtain ⟨y, _, rfl⟩ := List.mem_map.1 hx; rfl)) t
        refine ⟨ad, some a, r.c, rfl, by rw [hlen]; exact hcell, by rw [hlen, ← hA]; exact hrd2, fun h k hk => ?_, by omega⟩
        simp at hk
        subst hk
        exact (hrd2.2.2.2.2 a hA).1 (by omega)
      · have h2 := r.rd.2.1
        have h0 : r.n = 0 := by omega
        have h1 : r.c = 0 := by omega
        rw [hA, h0, h1] at hc
        obtain ⟨b, hcell⟩ := cell_E (Bs := fun b => ∃ p t f, W.heap[b]? = some (.cells p t f)) (fun b hb => hb) hrow hB hc t
        have hz0 : r.zs = [] := List.eq_nil_of_length_eq_zero (by omega)
        refine ⟨ad, some b, 0, rfl, ?_, ?_, fun h => ?_, by omega⟩
        · rw [hz0]; exact hcell
        · rw [hz0]
          exact ⟨by simp, Nat.le_refl _, Nat.zero_le _, fun _ => rfl, fun ad e => ⟨fun h => absurd h (Nat.lt_irrefl 0), fun j u hu => by simp at hu⟩⟩
        · rw [hz0] at h; simp at h
end Go.Proofs.Ytcdhmnefmbcmaaa.Vw
