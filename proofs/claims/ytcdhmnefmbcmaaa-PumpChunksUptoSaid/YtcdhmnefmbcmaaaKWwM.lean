/-
  Words for memory, plain laws: what a call may change (Chg), a slice that reads as a list (Rd), a row that is owned (Own), append as one law.
-/
import Derived.WalkKit
import Derived.Lib.Hide
import Derived.Deep.AppendLies
import Derived.Deep.Draws
namespace Go.Proofs.Ytcdhmnefmbcmaaa.Ww
open Go.RowKit

/-- Only the blocks of L, and new ones, have changed. -/
structure Chg (L : List Nat) (w w' : World) : Prop where
  os : w'.os = w.os
  tape : w'.tape = w.tape
  output : w'.output = w.output
  size : w.heap.size ≤ w'.heap.size
  block : ∀ k, k < w.heap.size → k ∉ L → w'.heap[k]? = w.heap[k]?

section chg
variable {L M : List Nat} {a b c w w' : World}
theorem Chg.refl (L : List Nat) (w : World) : Chg L w w := ⟨rfl, rfl, rfl, Nat.le_refl _, fun _ _ _ => rfl⟩
theorem Chg.trans (h : Chg L a b) (k : Chg M b c) (hs : ∀ x ∈ M, x ∈ L ∨ a.heap.size ≤ x) : Chg L a c :=
  ⟨k.os.trans h.os, k.tape.trans h.tape, k.output.trans h.output, Nat.le_trans h.size k.size,
    fun i hi hn => (k.block i (Nat.lt_of_lt_of_le hi h.size) (fun hm => by rcases hs i hm with h1 | h1; exact hn h1; omega)).trans (h.block i hi hn)⟩
theorem Chg.mono (h : Chg M a b) (hs : ∀ x ∈ M, x ∈ L ∨ a.heap.size ≤ x) : Chg L a b := (Chg.refl L a).trans h hs
theorem Chg.nil (h : Chg [] a b) (L : List Nat) : Chg L a b := h.mono (by simp)
theorem Chg.trans0 (h : Chg L a b) (k : Chg [] b c) : Chg L a c := h.trans k (by simp)
theorem Chg.drew (h : Chg L a w) : Chg L a w.drew := ⟨h.os, h.tape, h.output, h.size, h.block⟩
theorem Chg.drewN (h : Chg L a w) (n : Nat) : Chg L a (w.drewN n) := ⟨h.os, h.tape, h.output, h.size, h.block⟩
theorem Chg.alloc (h : Chg L a w) (o : Obj) : Chg L a (w.alloc o) :=
  ⟨h.os, h.tape, h.output, Nat.le_trans h.size (by simp), fun k hk hn => (Below.heap_alloc w o k (Nat.lt_of_lt_of_le hk h.size)).trans (h.block k hk hn)⟩
theorem Chg.setCell (h : Chg L a w) {p : Addr} (hp : p.block ∈ L ∨ a.heap.size ≤ p.block) (u : Value) : Chg L a (w.setCell p u) :=
  ⟨h.os, h.tape, h.output, by simpa [World.setCell] using h.size, fun i hi hn => (Below.heap_setCell w p u i (by
    rintro rfl
    rcases hp with hp | hp
    · exact hn hp
    · omega)).trans (h.block i hi hn)⟩
theorem Chg.of_below (h : Below w.heap.size w w') (L : List Nat) : Chg L w w' := ⟨h.os, h.tape, h.output, h.size, fun k hk _ => h.block k hk⟩
theorem Chg.below {B : Nat} (h : Chg L w w') (hB : B ≤ w.heap.size) (hL : ∀ k ∈ L, B ≤ k) : Below B w w' :=
  ⟨h.os, h.tape, h.output, h.size, fun k hk => h.block k (by omega) (fun hm => by have := hL k hm; omega)⟩
theorem Chg.of_grown {row : Option Nat} (h : w.grownBy w' row) : Chg row.toList w w' :=
  ⟨h.os, h.tape, h.output, h.size, fun k hk hn => h.block k hk (fun e => hn (by simp [← e]))⟩
theorem Chg.cell (h : Chg L w w') {p : Addr} {v : Value} (hc : w.cell? p = some v) (hn : p.block ∉ L) : w'.cell? p = some v :=
  (World.cell?_of_block (h.block p.block (World.block_lt_of_cell? w p hc) hn)).trans hc
end chg

/-- block g is just these cells -/
def Blk (w : World) (g : Nat) (t : TypeId) (cs : Array Value) : Prop := w.heap[g]? = some (.cells cs t (0, 0))

section blk
variable {w w' : World} {g : Nat} {t : TypeId} {cs : Array Value} {L : List Nat}
theorem Blk.lt (h : Blk w g t cs) : g < w.heap.size := (Array.getElem?_eq_some_iff.1 h).1
theorem Blk.cell (h : Blk w g t cs) (i : Nat) : w.cell? ⟨g, i, none⟩ = cs[i]? := cell_of_row w g i cs t (0, 0) h
theorem Blk.frozen (h : Blk w g t cs) (i : Nat) : w.frozen? ⟨g, i, none⟩ = false := by unfold Blk at h; simp [World.frozen?, h]
theorem Blk.new (w : World) (t : TypeId) (cs : Array Value) : Blk (w.alloc (.cells cs t)) w.heap.size t cs := heap_alloc_new w _
theorem Blk.chg (h : Blk w g t cs) (hc : Chg L w w') (hn : g ∉ L) : Blk w' g t cs := (hc.block g h.lt hn).trans h
theorem Blk.drew (h : Blk w g t cs) : Blk w.drew g t cs := h
theorem Blk.drewN (h : Blk w g t cs) (n : Nat) : Blk (w.drewN n) g t cs := h
theorem Blk.alloc (h : Blk w g t cs) (o : Obj) : Blk (w.alloc o) g t cs := (Below.heap_alloc w o g h.lt).trans h
theorem Blk.set_ (h : Blk w g t cs) (i : Nat) (u : Value) : Blk (w.setCell ⟨g, i, none⟩ u) g t (cs.setIfInBounds i u) := by
  unfold Blk at h ⊢
  simp [World.setCell, Array.getElem?_modify, h]
theorem Blk.far (h : Blk w g t cs) {p : Addr} (hp : g ≠ p.block) (u : Value) : Blk (w.setCell p u) g t cs := (Below.heap_setCell w p u g hp).trans h
theorem Blk.ne_ {g' : Nat} {t' : TypeId} {cs' : Array Value} (h : Blk w g t cs) (h' : Blk w g' t' cs') (ht : t ≠ t') : g ≠ g' := by
  rintro rfl
  unfold Blk at h h'
  rw [h] at h'
  simp at h'
  exact ht h'.2
end blk

def bo (A : Option Addr) : List Nat := (A.map (·.block)).toList
@[simp] theorem bo_none : bo none = [] := rfl
@[simp] theorem bo_some (a : Addr) : bo (some a) = [a.block] := rfl

theorem add_block (a : Addr) (n : Nat) : (a.add n).block = a.block := by unfold Addr.add; split <;> rfl
theorem add_add' (a : Addr) (i j : Nat) : (a.add i).add j = a.add (i + j) := by
  unfold Addr.add
  by_cases hi : i = 0 <;> by_cases hj : j = 0 <;> simp [hi, hj, Nat.add_assoc]
theorem add_zero' (g o j : Nat) : (⟨g, o, none⟩ : Addr).add j = ⟨g, o + j, none⟩ := by unfold Addr.add; split <;> simp_all

theorem add_field (a : Addr) (i j : Nat) : a.add (i + (j + 1)) = ⟨(a.add i).block, (a.add i).off + (j + 1), none⟩ := by
  unfold Addr.add
  by_cases hi : i = 0
  · subst hi; simp
  · simp [hi, Nat.add_assoc]

/-- the slice '.slice A n c' reads as the cells xs (n elements of sz cells each) -/
def Rd (w : World) (sz : Nat) (A : Option Addr) (n c : Nat) (xs : List Value) : Prop :=
  xs.length = n * sz ∧ n ≤ c ∧ c ≤ maxLen ∧ (A = none → c = 0) ∧ ∀ ad, A = some ad → (0 < n → ad.block < w.heap.size) ∧ ∀ j u, xs[j]? = some u → w.cell? (ad.add j) = some u

section rd
variable {w w' : World} {sz n c : Nat} {A : Option Addr} {xs : List Value} {L : List Nat}
theorem Rd.nil (w : World) (sz : Nat) : Rd w sz none 0 0 [] := ⟨by simp, Nat.le_refl _, Nat.zero_le _, fun _ => rfl, fun _ h => by cases h⟩
theorem Rd.chg (h : Rd w sz A n c xs) (hc : Chg L w w') (hn : ∀ k ∈ bo A, k ∉ L) : Rd w' sz A n c xs :=
  ⟨h.1, h.2.1, h.2.2.1, h.2.2.2.1, fun ad e => by
    subst e
    refine ⟨fun hn => Nat.lt_of_lt_of_le ((h.2.2.2.2 ad rfl).1 hn) hc.size, fun j u hu => hc.cell ((h.2.2.2.2 ad rfl).2 j u hu) ?_⟩
    rw [add_block]; exact hn ad.block (by simp)⟩
theorem Rd.at1 (h : Rd w 1 A n c xs) {k : Nat} (hk : k < n) : ∃ ad u, A = some ad ∧ xs[k]? = some u ∧ w.cell? (ad.add k) = some u := by
  have hl : k < xs.length := by rw [h.1]; omega
  cases A with
  | none => have h1 := h.2.2.2.1 rfl; have h2 := h.2.1; omega
  | some ad => exact ⟨ad, _, rfl, List.getElem?_eq_getElem hl, (h.2.2.2.2 ad rfl).2 _ _ (List.getElem?_eq_getElem hl)⟩
theorem Rd.some_ (h : Rd w sz A n c xs) (hk : 0 < n) : ∃ ad, A = some ad ∧ ad.block < w.heap.size := by
  cases A with
  | none => have h1 := h.2.2.2.1 rfl; have h2 := h.2.1; omega
  | some ad => exact ⟨ad, rfl, (h.2.2.2.2 ad rfl).1 hk⟩
theorem Rd.take (h : Rd w sz A n c xs) {k : Nat} (hk : k ≤ n) : Rd w sz A k c (xs.take (k * sz)) := by
  refine ⟨?_, Nat.le_trans hk h.2.1, h.2.2.1, h.2.2.2.1, fun ad e => ⟨fun hp => (h.2.2.2.2 ad e).1 (by omega), fun j u hu => (h.2.2.2.2 ad e).2 j u ?_⟩⟩
  · rw [List.length_take, h.1]; exact Nat.min_eq_left (Nat.mul_le_mul_right _ hk)
  · rw [List.getElem?_take] at hu
    split at hu
    · exact hu
    · cases hu
end rd

/-- a row of the call's own: '.slice A n c' with n elements, from the head of a block that is all of it -/
def Own (w : World) (e : TypeId) (sz : Nat) (A : Option Addr) (n c : Nat) (xs : List Value) : Prop := w.ownsRow 0 e sz (.slice A n c) n xs

section own
variable {w w' : World} {e : TypeId} {sz n c : Nat} {A : Option Addr} {xs : List Value} {L : List Nat}
theorem Own.nil (w : World) (e : TypeId) (sz : Nat) : Own w e sz none 0 0 [] := World.ownsRow_nil w 0 e sz
theorem Own.form (h : Own w e sz A n c xs) : (A = none ∧ n = 0 ∧ c = 0 ∧ xs = []) ∨ ∃ g cur, A = some ⟨g, 0, none⟩ ∧ Blk w g e cur ∧ n ≤ c ∧ c ≤ maxLen ∧ cur.size = c * sz ∧ cur.toList.take (n * sz) = xs := by
  rcases h.2 with ⟨h1, h2⟩ | ⟨g, cap, cur, h1, _, h3, h4, h5, h6, h7⟩
  · injection h1 with e1 e2 e3
    subst e1; subst e3; subst h2
    exact .inl ⟨rfl, rfl, rfl, List.eq_nil_of_length_eq_zero (by simpa using h.1)⟩
  · injection h1 with e1 e2 e3
    subst e1; subst e3
    exact .inr ⟨g, cur, rfl, h3, h4, h5, h6, h7⟩
theorem Own.rd (h : Own w e sz A n c xs) : Rd w sz A n c xs := by
  rcases h.form with ⟨rfl, rfl, rfl, rfl⟩ | ⟨g, cur, rfl, hb, hn, hm, hs, ht⟩
  · exact Rd.nil w sz
  · exact ⟨h.1, hn, hm, (fun e => by cases e), fun ad e => by
      injection e with e; subst e
      exact ⟨fun _ => hb.lt, fun j u hu => World.ownsRow.cells h (g := g) rfl j u hu⟩⟩
theorem Own.lt (h : Own w e sz A n c xs) : ∀ k ∈ bo A, k < w.heap.size := by
  rcases h.form with ⟨rfl, rfl, rfl, rfl⟩ | ⟨g, cur, rfl, hb, hn, hm, hs, ht⟩
  · simp
  · intro k hk; simp at hk; subst hk; exact hb.lt
theorem Own.chg (h : Own w e sz A n c xs) (hc : Chg L w w') (hn : ∀ k ∈ bo A, k ∉ L) : Own w' e sz A n c xs := by
  refine ⟨h.1, ?_⟩
  rcases h.2 with h2 | ⟨g, cap, cur, h1, hb, h3, h4⟩
  · exact .inl h2
  · refine .inr ⟨g, cap, cur, h1, hb, ?_, h4⟩
    injection h1 with e1
    subst e1
    exact (hc.block g (Array.getElem?_eq_some_iff.1 h3).1 (hn g (by simp))).trans h3
theorem Own.blk_ne {g : Nat} {t : TypeId} {cs : Array Value} (h : Own w e sz A n c xs) (hb : Blk w g t cs) (ht : t ≠ e) : ∀ k ∈ bo A, k ≠ g := by
  rcases h.form with ⟨rfl, rfl, rfl, rfl⟩ | ⟨g', cur, rfl, hb', _⟩
  · simp
  · intro k hk; simp at hk; subst hk; exact hb'.ne_ hb (Ne.symm ht)
theorem Own.own_ne {e' : TypeId} {sz' n' c' : Nat} {A' : Option Addr} {xs' : List Value} (h : Own w e sz A n c xs) (h' : Own w e' sz' A' n' c' xs') (ht : e ≠ e') : ∀ k ∈ bo A, k ∉ bo A' := by
  rcases h.form with ⟨rfl, rfl, rfl, rfl⟩ | ⟨g, cur, rfl, hb, _⟩
  · simp
  · rcases h'.form with ⟨rfl, rfl, rfl, rfl⟩ | ⟨g', cur', rfl, hb', _⟩
    · simp
    · intro k hk hk'; simp at hk hk'; subst hk; exact hb.ne_ hb' ht hk'
theorem Own.lit (w : World) (e : TypeId) (sz : Nat) (cs : Array Value) (n : Nat) (hm : n ≤ maxLen) (hs : cs.size = n * sz) : Own (w.alloc (.cells cs e)) e sz (some ⟨w.heap.size, 0, none⟩) n n cs.toList := by
  have := World.ownsRow_lit (base := 0) (e := e) (size := sz) w cs n (Nat.zero_le _) hm hs
  exact this
theorem Own.at1 (h : Own w e 1 A n c xs) {k : Nat} (hk : k < n) : ∃ ad u, A = some ad ∧ xs[k]? = some u ∧ w.cell? (ad.add k) = some u ∧ w.frozen? (ad.add k) = false ∧
    ∀ u', Own (w.setCell (ad.add k) u') e 1 A n c (xs.set k u') := by
  obtain ⟨ad, u, hA, hx, hc⟩ := h.rd.at1 hk
  rcases h.form with ⟨rfl, rfl, rfl, rfl⟩ | ⟨g, cur, hA', hb, hn, hm, hs, ht⟩
  · omega
  · subst hA'
    injection hA with hA; subst hA
    rw [add_zero', Nat.zero_add] at hc
    refine ⟨_, u, rfl, hx, by rw [add_zero', Nat.zero_add]; exact hc, by rw [add_zero']; exact hb.frozen _, fun u' => ⟨by rw [List.length_set]; exact h.1, .inr ⟨g, c, _, rfl, Nat.zero_le _, by rw [add_zero', Nat.zero_add]; exact hb.set_ k u', hn, hm, by rw [Array.size_setIfInBounds]; exact hs, ?_⟩⟩⟩
    rw [← ht, Array.toList_setIfInBounds, List.take_set]
/-- cut down to its first k elements -/
theorem Own.cut (h : Own w e sz A n c xs) {k : Nat} (hk : k ≤ n) : Own w e sz A k c (xs.take (k * sz)) := by
  refine ⟨?_, ?_⟩
  · rw [List.length_take, h.1]; exact Nat.min_eq_left (Nat.mul_le_mul_right _ hk)
  · rcases h.form with ⟨rfl, rfl, rfl, rfl⟩ | ⟨g, cur, rfl, hb, hn, hm, hs, ht⟩
    · exact .inl ⟨by rw [show k = 0 by omega], by omega⟩
    · refine .inr ⟨g, c, cur, rfl, Nat.zero_le _, hb, by omega, hm, hs, ?_⟩
      rw [← ht, List.take_take]; congr 1; exact (Nat.min_eq_left (Nat.mul_le_mul_right _ hk)).symm
end own

/-- a slice type's element: one closed fact -/
def Ety (P : Program) (t e : TypeId) (sz bytes : Nat) (z : Value) : Prop :=
  P.underlying t = some (.slice e) ∧ (∃ i, P.info? e = some i ∧ i.zero = some z ∧ i.size = sz ∧ i.bytes = bytes) ∧ z.cells.size = sz ∧ 0 < sz
theorem Ety.mk' {P : Program} {t e : TypeId} {sz bytes : Nat} {z : Value} (ht : P.underlying t = some (.slice e)) (h : (P.info? e).map (fun i => (i.zero, i.size, i.bytes)) = some (some z, sz, bytes)) (hz : z.cells.size = sz) (hp : 0 < sz) : Ety P t e sz bytes z := by
  obtain ⟨i, h1, h2, h3, h4⟩ := info_parts h
  exact ⟨ht, ⟨i, h1, h2, h3, h4⟩, hz, hp⟩

/-- x[f:e], both bounds given: one equation, in whatever world -/
theorem run_slice2 {P : Program} {t e : TypeId} {sz bytes : Nat} {z : Value} (he : Ety P t e sz bytes z) {w : World} {A : Option Addr} {n c : Nat} {xs : List Value} (hrd : Rd w sz A n c xs) {f g : Nat} (h1 : f ≤ g) (h2 : g ≤ n) :
    ∃ S, (∀ w', (Instr.slice t (.slice A n c) (some (.int .i64 (f : Int))) (some (.int .i64 (g : Int))) none).run P w' = .ok (.slice S (g - f) (c - f)) w') ∧
      Rd w sz S (g - f) (c - f) ((xs.drop (f * sz)).take ((g - f) * sz)) ∧ ∀ k ∈ bo S, k ∈ bo A := by
  obtain ⟨ht, ⟨i, hi, hz, hsz, hby⟩, hzs, hpos⟩ := he
  have hc := hrd.2.1
  refine ⟨if c = f then A else A.map (·.add (f * sz)), fun w' => ?_, ⟨?_, by omega, Nat.le_trans (Nat.sub_le _ _) hrd.2.2.1, ?_, ?_⟩, ?_⟩
  · have b1 : g ≤ c := by omega
    simp [Instr.slice, run_underlying ht, Instr.sliceBounds, Instr.sliceBound, asIntOf, sizeOf, typeInfo, hi, hsz, b1, h1]
  · rw [List.length_take, List.length_drop, hrd.1, ← Nat.sub_mul]; exact Nat.min_eq_left (Nat.mul_le_mul_right _ (by omega))
  · intro hn
    split at hn
    · omega
    · cases A with
      | none => have := hrd.2.2.2.1 rfl; omega
      | some ad => cases hn
  · intro ad ha
    split at ha
    · subst ha
      refine ⟨fun hp => by omega, fun j u hu => ?_⟩
      rw [show g - f = 0 by omega] at hu
      simp at hu
    · cases A with
      | none => cases ha
      | some a0 =>
        simp at ha
        subst ha
        refine ⟨fun hp => by rw [add_block]; exact (hrd.2.2.2.2 a0 rfl).1 (by omega), fun j u hu => ?_⟩
        rw [add_add']
        refine (hrd.2.2.2.2 a0 rfl).2 _ u ?_
        rw [List.getElem?_take] at hu
        split at hu
        · rw [List.getElem?_drop] at hu; exact hu
        · cases hu
  · intro k hk
    split at hk
    · exact hk
    · cases A with
      | none => simp at hk
      | some a0 => simpa [add_block] using hk

/-- append as one law: whatever the target (nil or owned), whatever the source (nil or not) -/
theorem run_app {P : Program} {w : World} {t ty e : TypeId} {sz bytes : Nat} {z : Value} (he : Ety P t e sz bytes z) {A : Option Addr} {n c : Nat} {xs : List Value} (hown : Own w e sz A n c xs)
    {A2 : Option Addr} {m c2 : Nat} {news : List Value} (hrd : Rd w sz A2 m c2 news) (h1 : ∀ u ∈ news, u.oneCell' = true) (h63 : n + m ≤ maxLen) (hb : (n + m) * bytes ≤ 140737488355328) :
    ∃ A' c' w', (Builtin.append_ #[t, t] ty #[.slice A n c, .slice A2 m c2]).run P w = .ok (.slice A' (n + m) c') w' ∧ Own w' e sz A' (n + m) c' (xs ++ news) ∧ Chg (bo A) w w' ∧
      (∀ k ∈ bo A', k ∈ bo A ∨ (w.heap.size ≤ k ∧ k < w'.heap.size)) ∧ (A' = none → A = none ∧ m = 0) := by
  obtain ⟨ht, ⟨i, hi, hz, hsz, hby⟩, hzs, hpos⟩ := he
  cases A2 with
  | none =>
    have hc0 := hrd.2.2.2.1 rfl
    have hm0 : m = 0 := by have := hrd.2.1; omega
    subst hm0; subst hc0
    have hn : news = [] := List.eq_nil_of_length_eq_zero (by simpa using hrd.1)
    subst hn
    refine ⟨A, c, w, ?_, by simpa using hown, Chg.refl _ _, fun k hk => .inl hk, fun e => ⟨e, rfl⟩⟩
    simpa using run_append_owned_none (P := P) (w := w) 0 t ty e i sz ht hi _ n xs hown
  | some ad =>
    obtain ⟨v', w', hr, hown', hg, hnil⟩ := run_append_own (P := P) w 0 t ty e i z sz bytes ht hi hz hsz hby hzs hpos _ n xs hown ad m c2 news hrd.1 (hrd.2.2.2.2 ad rfl).2 h1 h63 hb (Nat.zero_le _)
    have hform : ∃ A' c', v' = .slice A' (n + m) c' := by
      rcases hown'.2 with ⟨h1, h2⟩ | ⟨g, cap, cur, h1, _⟩
      · exact ⟨none, 0, by rw [h1, h2]⟩
      · exact ⟨_, _, h1⟩
    obtain ⟨A', c', rfl⟩ := hform
    have hrow : (Value.slice A n c).ownBlock.toList = bo A := by cases A <;> rfl
    refine ⟨A', c', w', hr, hown', by have := Chg.of_grown hg; rwa [hrow] at this, ?_, ?_⟩
    · -- the new block: the old one, or a new one
      intro k hk
      have hk' : k < w'.heap.size := Own.lt hown' k hk
      by_cases hin : k ∈ bo A
      · exact .inl hin
      · right
        refine ⟨?_, hk'⟩
        rcases Nat.lt_or_ge k w.heap.size with hlt | hge
        · -- an old block that isn't A's: impossible: see how append works
          exfalso
          have key : ∀ A' c' w', (Builtin.append_ #[t, t] ty #[.slice A n c, .slice (some ad) m c2]).run P w = .ok (.slice A' (n + m) c') w' → ∀ k ∈ bo A', k ∈ bo A ∨ w.heap.size ≤ k := by
            intro A' c' w' hr'
            rcases hown.form with ⟨rfl, rfl, rfl, rfl⟩ | ⟨g, cur, rfl, hbk, hnc, hcm, hcs, htk⟩
            · by_cases hm : m = 0
              · subst hm
                have hn : news = [] := List.eq_nil_of_length_eq_zero (by simpa using hrd.1)
                subst hn
                have e0 : (Builtin.append_ #[t, t] ty #[.slice none 0 0, .slice (some ad) 0 c2]).run P w = .ok (.slice none 0 0) w := by
                  simp [Builtin.append_, run_underlying ht, sizeOf, typeInfo, hi, Builtin.lenOf, Builtin.firstCells, loadCells, loadCellsFrom]
                rw [e0] at hr'
                simp at hr'
                intro k hk
                rw [← hr'.1.1] at hk
                simp at hk
              · have e0 := run_append_nil (P := P) w t ty e i z ht hi hz ad m c2 news (by rw [hsz]; exact hrd.1) (hrd.2.2.2.2 ad rfl).2 (by omega) (by simp only [maxLen] at h63; omega) (by have hb := hb; rw [hby]; simp only [Nat.zero_add] at hb; omega)
                rw [e0] at hr'
                simp at hr'
                intro k hk
                rw [← hr'.1.1] at hk
                simp at hk
                right; omega
            · by_cases hroom : n + m ≤ c
              · have hfit : n * i.size + news.length ≤ cur.size := by rw [hrd.1, hcs, hsz, ← Nat.add_mul]; exact Nat.mul_le_mul_right _ hroom
                have e0 := run_append_room (P := P) w t ty e i ht hi g n c cur hbk ad m c2 news (by rw [hsz]; exact hrd.1) (hrd.2.2.2.2 ad rfl).2 h1 hroom hfit
                rw [e0] at hr'
                simp at hr'
                intro k hk
                rw [← hr'.1.1] at hk
                simp at hk
                left; simp [hk]
              · have e0 := run_append_grow (P := P) w t ty e i z ht hi hz ⟨g, 0, none⟩ n c xs (by rw [hsz]; exact hown.1) (hown.cells (g := g) rfl) ad m c2 news (by rw [hsz]; exact hrd.1) (hrd.2.2.2.2 ad rfl).2 (by omega) (by simp only [maxLen] at h63; omega) (growslice_fits (by omega) (by rw [hby]; exact hb))
                rw [e0] at hr'
                simp at hr'
                intro k hk
                rw [← hr'.1.1] at hk
                simp at hk
                right; omega
          rcases key A' c' w' hr k hk with h1 | h1
          · exact hin h1
          · omega
        · exact hge
    · intro e
      subst e
      have hx : (n + m = 0 ∧ c' = 0) := by
        rcases hown'.2 with ⟨h1, h2⟩ | ⟨g, cap, cur, h1, _⟩
        · injection h1 with _ _ h3; exact ⟨h2, h3⟩
        · injection h1 with h1 _ _; cases h1
      have h2 := hnil.1 (by rw [hx.1, hx.2])
      refine ⟨?_, h2.2⟩
      have := h2.1
      injection this

theorem wp_app {P : Program} {w : World} {o : Oper} {a : Act} {K : Act → World → Prop} {Q : Exit → Act → World → Prop} (s x : Operand) {t : TypeId}
    (ho : o.op = .call { callee := .builtin .append, args := #[s, x], argTypes := #[t, t] })
    {e : TypeId} {sz bytes : Nat} {z : Value} (he : Ety P t e sz bytes z) {A : Option Addr} {n c : Nat} {xs : List Value} (hs : a.eval s = .slice A n c) (hown : Own w e sz A n c xs)
    {A2 : Option Addr} {m c2 : Nat} {news : List Value} (hx : a.eval x = .slice A2 m c2) (hrd : Rd w sz A2 m c2 news) (h1 : ∀ u ∈ news, u.oneCell' = true) (h63 : n + m ≤ maxLen) (hb : (n + m) * bytes ≤ 140737488355328)
    (h : ∀ A' c' w', Own w' e sz A' (n + m) c' (xs ++ news) → Chg (bo A) w w' → (∀ k ∈ bo A', k ∈ bo A ∨ (w.heap.size ≤ k ∧ k < w'.heap.size)) → (A' = none → A = none ∧ m = 0) →
      K (a.put o.dst (.slice A' (n + m) c')) w') : o.wp P a w K Q := by
  obtain ⟨A', c', w', hr, h2, h3, h4, h5⟩ := run_app (ty := o.type) he hown hrd h1 h63 hb
  unfold Oper.wp execOp
  simp only [ho, resolve, invoke, builtin, Sem.run_bind, Sem.run_pure, Result.andThen_ok, List.map_toArray, List.map_cons, List.map_nil, hs, hx, hr]
  exact h A' c' w' h2 h3 h4 h5

/-- at a step of a region that draws its order -/
theorem step_app {P : Program} {w : World} {ops : Array Oper} {o : Oper} {a : Act} {K : Act → World → Prop} {Q : Exit → Act → World → Prop} {E : Prop} (hgd : o.guard = none) (s x : Operand) {t : TypeId}
    (ho : o.op = .call { callee := .builtin .append, args := #[s, x], argTypes := #[t, t] })
    {e : TypeId} {sz bytes : Nat} {z : Value} (he : Ety P t e sz bytes z) {A : Option Addr} {n c : Nat} {xs : List Value} (hs : a.eval s = .slice A n c) (hown : Own w e sz A n c xs)
    {A2 : Option Addr} {m c2 : Nat} {news : List Value} (hx : a.eval x = .slice A2 m c2) (hrd : Rd w sz A2 m c2 news) (h1 : ∀ u ∈ news, u.oneCell' = true) (h63 : n + m ≤ maxLen) (hb : (n + m) * bytes ≤ 140737488355328)
    (h : ∀ A' c' w', Own w' e sz A' (n + m) c' (xs ++ news) → Chg (bo A) w w' → (∀ k ∈ bo A', k ∈ bo A ∨ (w.heap.size ≤ k ∧ k < w'.heap.size)) → (A' = none → A = none ∧ m = 0) →
      K (a.put o.dst (.slice A' (n + m) c')) w') : if Region.wanted o (yielded ops a.tmps) = true then Oper.wp P o a w K Q else E := by
  have hw : Region.wanted o (yielded ops a.tmps) = true := by simp [Region.wanted, hgd]
  rw [if_pos hw]
  exact wp_app s x ho he hs hown hx hrd h1 h63 hb h

theorem wpList_app {P : Program} {w : World} {ops : Array Oper} {rest : List Oper} {o : Oper} {a : Act} {Q : Exit → Act → World → Prop} (hgd : o.guard = none) (s x : Operand) {t : TypeId}
    (ho : o.op = .call { callee := .builtin .append, args := #[s, x], argTypes := #[t, t] })
    {e : TypeId} {sz bytes : Nat} {z : Value} (he : Ety P t e sz bytes z) {A : Option Addr} {n c : Nat} {xs : List Value} (hs : a.eval s = .slice A n c) (hown : Own w e sz A n c xs)
    {A2 : Option Addr} {m c2 : Nat} {news : List Value} (hx : a.eval x = .slice A2 m c2) (hrd : Rd w sz A2 m c2 news) (h1 : ∀ u ∈ news, u.oneCell' = true) (h63 : n + m ≤ maxLen) (hb : (n + m) * bytes ≤ 140737488355328)
    (h : ∀ A' c' w', Own w' e sz A' (n + m) c' (xs ++ news) → Chg (bo A) w w' → (∀ k ∈ bo A', k ∈ bo A ∨ (w.heap.size ≤ k ∧ k < w'.heap.size)) → (A' = none → A = none ∧ m = 0) →
      wpList P ops Q rest (a.put o.dst (.slice A' (n + m) c')) w') : wpList P ops Q (o :: rest) a w := by
  obtain ⟨A', c', w', hr, h2, h3, h4, h5⟩ := run_app (ty := o.type) he hown hrd h1 h63 hb
  refine wpList_plain hgd fun K hK => ?_
  unfold Oper.wp execOp
  simp only [ho, resolve, invoke, builtin, Sem.run_bind, Sem.run_pure, Result.andThen_ok, List.map_toArray, List.map_cons, List.map_nil, hs, hx, hr]
  exact hK _ _ (h A' c' w' h2 h3 h4 h5)

end Go.Proofs.Ytcdhmnefmbcmaaa.Ww
