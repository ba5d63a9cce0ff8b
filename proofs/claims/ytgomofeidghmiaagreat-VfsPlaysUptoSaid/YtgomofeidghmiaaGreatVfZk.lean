/-
  Layer 08: the program's file system and the document's, side by side.
-/
import Derived.Test.YtgomofeidghmiaaGreatVfZi
namespace Go.Proofs.YtgomofeidghmiaaGreat
open Go.RowKit

/-- both are new since w0, apart from one another and from X -/
def Bth (w0 w : World) (p q : Nat) (S S2 : St) (X : List Nat) : Prop :=
  ∃ G R, FsM w G S ∧ RfM w R S2 ∧ G.b = p ∧ R.b = q ∧ (∀ x ∈ G.all, w0.heap.size ≤ x) ∧ (∀ x ∈ R.all, w0.heap.size ≤ x) ∧ (∀ x ∈ G.all, x ∉ R.all) ∧
    (∀ x ∈ X, x ∉ G.all ∧ x ∉ R.all ∧ x < w.heap.size ∧ w0.heap.size ≤ x) ∧ Chg [] w0 w
section bth
variable {w0 w w' : World} {p q : Nat} {S S2 : St} {X Y L : List Nat} {B : Nat}
theorem Bth.chg (h : Bth w0 w p q S S2 X) : Chg [] w0 w := by obtain ⟨_, _, _, _, _, _, _, _, _, _, h⟩ := h; exact h
theorem Bth.sub (h : Bth w0 w p q S S2 X) (hs : ∀ x ∈ Y, x ∈ X) : Bth w0 w p q S S2 Y := by
  obtain ⟨G, R, h1, h2, h3, h4, h5, h6, h7, h8, h9⟩ := h
  exact ⟨G, R, h1, h2, h3, h4, h5, h6, h7, fun x hx => h8 x (hs x hx), h9⟩
theorem Bth.keep (h : Bth w0 w p q S S2 X) (hc : Chg L w w') (hL : ∀ x ∈ L, x ∈ X) : Bth w0 w' p q S S2 X := by
  obtain ⟨G, R, h1, h2, h3, h4, h5, h6, h7, h8, h9⟩ := h
  exact ⟨G, R, h1.keep hc (fun x hx hm => (h8 x (hL x hm)).1 hx), h2.keep hc (fun x hx hm => (h8 x (hL x hm)).2.1 hx), h3, h4, h5, h6, h7,
    fun x hx => ⟨(h8 x hx).1, (h8 x hx).2.1, Nat.lt_of_lt_of_le (h8 x hx).2.2.1 hc.size, (h8 x hx).2.2.2⟩, h9.trans hc (fun x hx => .inr (h8 x (hL x hx)).2.2.2)⟩
theorem Bth.keep0 (h : Bth w0 w p q S S2 X) (hc : Chg [] w w') : Bth w0 w' p q S S2 X := h.keep hc (fun _ hx => absurd hx List.not_mem_nil)
theorem Bth.add (h : Bth w0 w p q S S2 X) (hc : Chg [] w w') (hY : ∀ x ∈ Y, w.heap.size ≤ x ∧ x < w'.heap.size) : Bth w0 w' p q S S2 (Y ++ X) := by
  obtain ⟨G, R, h1, h2, h3, h4, h5, h6, h7, h8, h9⟩ := h
  refine ⟨G, R, h1.keep0 hc, h2.keep0 hc, h3, h4, h5, h6, h7, fun x hx => ?_, h9.trans0 hc⟩
  rcases List.mem_append.1 hx with hx | hx
  · refine ⟨fun hm => ?_, fun hm => ?_, (hY x hx).2, Nat.le_trans h9.size (hY x hx).1⟩
    · have h10 := h1.lt x hm; have h11 := (hY x hx).1; omega
    · have h10 := h2.lt x hm; have h11 := (hY x hx).1; omega
  · exact ⟨(h8 x hx).1, (h8 x hx).2.1, Nat.lt_of_lt_of_le (h8 x hx).2.2.1 hc.size, (h8 x hx).2.2.2⟩
/-- the program is asked -/
theorem Bth.call (h : Bth w0 w p q S S2 X) (hi : Inv B S) (o : O8) (hd : Rd w0 1 o.A o.n o.c (bv o.data)) (hB : B + o.n + 1 ≤ 1073741824) :
    Calls Tryz.prog 8 #[.pointer (some ⟨p, 0, none⟩), .agg #[.int .i64 o.kind, .string o.dir, .string o.name, .string o.dest, .slice o.A o.n o.c]] w fun e w' =>
      ∃ dA dn dc nA nn nc L, e = .returned (.agg #[.int .i64 (callK S (kd o.kind) o.dir o.name o.dest o.data).2.1, .slice dA dn dc, .slice nA nn nc]) ∧ Own w' 5 1 dA dn dc (bv (callK S (kd o.kind) o.dir o.name o.dest o.data).2.2.1) ∧
        Own w' 9 1 nA nn nc (svs (callK S (kd o.kind) o.dir o.name o.dest o.data).2.2.2) ∧ Chg L w w' ∧ (∀ x ∈ X, x ∉ L) ∧ Bth w0 w' p q (callK S (kd o.kind) o.dir o.name o.dest o.data).1 S2 (bo dA ++ bo nA ++ X) := by
  obtain ⟨G, R, hg, hr, rfl, rfl, hG, hR, hdis, hX, hc0⟩ := h
  refine (lawcall_any hg hi o (hd.chg hc0 (fun _ _ => List.not_mem_nil)) hB (fun h0 x hx hm => ?_)).mono ?_
  · obtain ⟨ad, he, h1⟩ := hd.some_ h0
    rw [he] at hx
    simp only [bo_some, List.mem_singleton] at hx
    have := hG x hm
    omega
  rintro e w' ⟨dA, dn, dc, nA, nn, nc, rfl, h1, h2, h3, G', g1, g2, g3, g4, g5⟩
  refine ⟨dA, dn, dc, nA, nn, nc, G.all, rfl, h1, h2, g5, fun x hx => (hX x hx).1, G', R, g1, hr.keep g5 (fun x hx hm => hdis x hm hx), g2, rfl, fun x hx => (g3 x hx).elim (hG x) (fun h => Nat.le_trans hc0.size h), hR,
    fun x hx hm => (g3 x hx).elim (fun h => hdis x h hm) (fun h => by have := hr.lt x hm; omega), fun x hx => ?_, hc0.trans g5 (fun x hx => .inr (hG x hx))⟩
  rcases List.mem_append.1 hx with hx | hx
  · refine ⟨g4 x hx, fun hm => by have h5 := hr.lt x hm; have h6 := h3 x hx; omega, ?_, Nat.le_trans hc0.size (h3 x hx)⟩
    rcases List.mem_append.1 hx with hx | hx
    · exact h1.lt x hx
    · exact h2.lt x hx
  · exact ⟨fun hm => (g3 x hm).elim (hX x hx).1 (fun h => by have := (hX x hx).2.2.1; omega), (hX x hx).2.1, Nat.lt_of_lt_of_le (hX x hx).2.2.1 g5.size, (hX x hx).2.2.2⟩
/-- the document is asked -/
theorem Bth.model (h : Bth w0 w p q S S2 X) (hi : Inv B S2) (o : O8) (hd : Rd w0 1 o.A o.n o.c (bv o.data)) (hB : B + o.n + 2 ≤ 536870912) :
    Calls Tryz.prog 10 #[.pointer (some ⟨q, 0, none⟩), .agg #[.int .i64 o.kind, .string o.dir, .string o.name, .string o.dest, .slice o.A o.n o.c]] w fun e w' =>
      ∃ dA dn dc nA nn nc L, e = .returned (.agg #[.int .i64 (callK S2 (kd o.kind) o.dir o.name o.dest o.data).2.1, .slice dA dn dc, .slice nA nn nc]) ∧ Own w' 5 1 dA dn dc (bv (callK S2 (kd o.kind) o.dir o.name o.dest o.data).2.2.1) ∧
        Own w' 9 1 nA nn nc (svs (callK S2 (kd o.kind) o.dir o.name o.dest o.data).2.2.2) ∧ Chg L w w' ∧ (∀ x ∈ X, x ∉ L) ∧ Bth w0 w' p q S (callK S2 (kd o.kind) o.dir o.name o.dest o.data).1 X := by
  obtain ⟨G, R, hg, hr, rfl, rfl, hG, hR, hdis, hX, hc0⟩ := h
  refine (lmodel_any hr hi o (hd.chg hc0 (fun _ _ => List.not_mem_nil)) hB).mono ?_
  rintro e w' ⟨dA, dn, dc, nA, nn, nc, rfl, h1, h2, R', g1, g2, g3, g5⟩
  exact ⟨dA, dn, dc, nA, nn, nc, R.all, rfl, h1, h2, g5, fun x hx => (hX x hx).2.1, G, R', hg.keep g5 hdis, g1, rfl, g2, hG, fun x hx => (g3 x hx).elim (hR x) (fun h => Nat.le_trans hc0.size h),
    fun x hx hm => (g3 x hm).elim (fun h => hdis x hx h) (fun h => by have := hg.lt x hx; omega),
    fun x hx => ⟨(hX x hx).1, fun hm => (g3 x hm).elim (hX x hx).2.1 (fun h => by have := (hX x hx).2.2.1; omega), Nat.lt_of_lt_of_le (hX x hx).2.2.1 g5.size, (hX x hx).2.2.2⟩, hc0.trans g5 (fun x hx => .inr (hR x hx))⟩
end bth
end Go.Proofs.YtgomofeidghmiaaGreat
