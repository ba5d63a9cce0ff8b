/-
  Words for memory, plain laws: what a call may change (Chg), a slice that reads as a list (Rd), a row that is owned (Own), append as one law.
  From a law's walk to its row: what is read is opened, the row's last step, for every law of a seat.
-/
import Derived.WalkKit
import Derived.Lib.Hide
import Derived.Deep.AppendLies
import Derived.Deep.Draws
import Derived.Test.YtcdhmnefmbcmaaaRows
import Derived.ProofKit
import Derived.OpenShut
import Derived.JoinedCond
import Derived.ChangeSame
import Derived.Deep.Slices
import Derived.Deep.Fields
namespace Go.Proofs.Ytcdhmnefmbcmaaa.Vw
open Go.RowKit

/-- Only the blocks of L, and new ones, have changed. -/
structure Chg (L : List Nat) (w w' : World) : Prop where
  os : w'.os = w.os
  tape : w'.tape = w.tape
  output : w'.output = w.output
  size : w.heap.size ≤ w'.heap.size
  block : ∀ k, k < w.heap.size → k ∉ L → w'.heap[k]? = w.heap[k]?

section chg
variable {L M : List Nat} {a b c w w' : World}
theorem Chg.refl (L : List Nat) (w : World) : Chg L w w := ⟨rfl, rfl, rfl, Nat.le_refl _, fun _ _ _ => rfl⟩
theorem Chg.trans (h : Chg L a b) (k : Chg M b c) (hs : ∀ x ∈ M, x ∈ L ∨ a.heap.size ≤ x) : Chg L a c :=
  ⟨k.os.trans h.os, k.tape.trans h.tape, k.output.trans h.output, Nat.le_trans h.size k.size,
    fun i hi hn => (k.block i (Nat.lt_of_lt_of_le hi h.size) (fun hm => by rcases hs i hm with h1 | h1; exact hn h1; omega)).trans (h.block i hi hn)⟩
theorem Chg.mono (h : Chg M a b) (hs : ∀ x ∈ M, x ∈ L ∨ a.heap.size ≤ x) : Chg L a b := (Chg.refl L a).trans h hs
theorem Chg.nil (h : Chg [] a b) (L : List Nat) : Chg L a b := h.mono (by simp)
theorem Chg.trans0 (h : Chg L a b) (k : Chg [] b c) : Chg L a c := h.trans k (by simp)
theorem Chg.drew (h : Chg L a w) : Chg L a w.drew := ⟨h.os, h.tape, h.output, h.size, h.block⟩
theorem Chg.drewN (h : Chg L a w) (n : Nat) : Chg L a (w.drewN n) := ⟨h.os, h.tape, h.output, h.size, h.block⟩
theorem Chg.alloc (h : Chg L a w) (o : Obj) : Chg L a (w.alloc o) :=
  ⟨h.os, h.tape, h.output, Nat.le_trans h.size (by simp), fun k hk hn => (Below.heap_alloc w o k (Nat.lt_of_lt_of_le hk h.size)).trans (h.block k hk hn)⟩
theorem Chg.setCell (h : Chg L a w) {p : Addr} (hp : p.block ∈ L ∨ a.heap.size ≤ p.block) (u : Value) : Chg L a (w.setCell p u) :=
  ⟨h.os, h.tape, h.output, by simpa [World.setCell] using h.size, fun i hi hn => (Below.heap_setCell w p u i (by
    rintro rfl
    rcases hp with hp | hp
    · exact hn hp
    · omega)).trans (h.block i hi hn)⟩
theorem Chg.of_below (h : Below w.heap.size w w') (L : List Nat) : Chg L w w' := ⟨h.os, h.tape, h.output, h.size, fun k hk _ => h.block k hk⟩
theorem Chg.below {B : Nat} (h : Chg L w w') (hB : B ≤ w.heap.size) (hL : ∀ k ∈ L, B ≤ k) : Below B w w' :=
  ⟨h.os, h.tape, h.output, h.size, fun k hk => h.block k (by omega) (fun hm => by have := hL k hm; omega)⟩
theorem Chg.of_grown {row : Option Nat} (h : w.grownBy w' row) : Chg row.toList w w' :=
  ⟨h.os, h.tape, h.output, h.size, fun k hk hn => h.block k hk (fun e => hn (by simp [← e]))⟩
theorem Chg.cell (h : Chg L w w') {p : Addr} {v : Value} (hc : w.cell? p = some v) (hn : p.block ∉ L) : w'.cell? p = some v :=
  (World.cell?_of_block (h.block p.block (World.block_lt_of_cell? w p hc) hn)).trans hc
end chg

/-- block g is just these cells -/
def Blk (w : World) (g : Nat) (t : TypeId) (cs : Array Value) : Prop := w.heap[g]? = some (.cells cs t (0, 0))

section blk
variable {w w' : World} {g : Nat} {t : TypeId} {cs : Array Value} {L : List Nat}
theorem Blk.lt (h : Blk w g t cs) : g < w.heap.size := (Array.getElem?_eq_some_iff.1 h).1
theorem Blk.cell (h : Blk w g t cs) (i : Nat) : w.cell? ⟨g, i, none⟩ = cs[i]? := cell_of_row w g i cs t (0, 0) h
theorem Blk.frozen (h : Blk w g t cs) (i : Nat) : w.frozen? ⟨g, i, none⟩ = false := by unfold Blk at h; simp [World.frozen?, h]
theorem Blk.new (w : World) (t : TypeId) (cs : Array Value) : Blk (w.alloc (.cells cs t)) w.heap.size t cs := heap_alloc_new w _
theorem Blk.chg (h : Blk w g t cs) (hc : Chg L w w') (hn : g ∉ L) : Blk w' g t cs := (hc.block g h.lt hn).trans h
theorem Blk.drew (h : Blk w g t cs) : Blk w.drew g t cs := h
theorem Blk.drewN (h : Blk w g t cs) (n : Nat) : Blk (w.drewN n) g t cs := h
theorem Blk.alloc (h : Blk w g t cs) (o : Obj) : Blk (w.alloc o) g t cs := (Below.heap_alloc w o g h.lt).trans h
theorem Blk.set_ (h : Blk w g t cs) (i : Nat) (u : Value) : Blk (w.setCell ⟨g, i, none⟩ u) g t (cs.setIfInBounds i u) := by
  unfold Blk at h ⊢
  simp [World.setCell, Array.getElem?_modify, h]
theorem Blk.far (h : Blk w g t cs) {p : Addr} (hp : g ≠ p.block) (u : Value) : Blk (w.setCell p u) g t cs := (Below.heap_setCell w p u g hp).trans h
theorem Blk.ne_ {g' : Nat} {t' : TypeId} {cs' : Array Value} (h : Blk w g t cs) (h' : Blk w g' t' cs') (ht : t ≠ t') : g ≠ g' := by
  rintro rfl
  unfold Blk at h h'
  rw [h] at h'
  simp at h'
  exact ht h'.2
end blk

def bo (A : Option Addr) : List Nat := (A.map (·.block)).toList
@[simp] theorem bo_none : bo none = [] := rfl
@[simp] theorem bo_some (a : Addr) : bo (some a) = [a.block] := rfl

theorem add_block (a : Addr) (n : Nat) : (a.add n).block = a.block := by unfold Addr.add; split <;> rfl
theorem add_add' (a : Addr) (i j : Nat) : (a.add i).add j = a.add (i + j) := by
  unfold Addr.add
  by_cases hi : i = 0 <;> by_cases hj : j = 0 <;> simp [hi, hj, Nat.add_assoc]
theorem add_zero' (g o j : Nat) : (⟨g, o, none⟩ : Addr).add j = ⟨g, o + j, none⟩ := by unfold Addr.add; split <;> simp_all

theorem add_field (a : Addr) (i j : Nat) : a.add (i + (j + 1)) = ⟨(a.add i).block, (a.add i).off + (j + 1), none⟩ := by
  unfold Addr.add
  by_cases hi : i = 0
  · subst hi; simp
  · simp [hi, Nat.add_assoc]

/-- the slice '.slice A n c' reads as the cells xs (n elements of sz cells each) -/
def Rd (w : World) (sz : Nat) (A : Option Addr) (n c : Nat) (xs : List Value) : Prop :=
  xs.length = n * sz ∧ n ≤ c ∧ c ≤ maxLen ∧ (A = none → c = 0) ∧ ∀ ad, A = some ad → (0 < n → ad.block < w.heap.size) ∧ ∀ j u, xs[j]? = some u → w.cell? (ad.add j) = some u

section rd
variable {w w' : World} {sz n c : Nat} {A : Option Addr} {xs : List Value} {L : List Nat}
theorem Rd.nil (w : World) (sz : Nat) : Rd w sz none 0 0 [] := ⟨by simp, Nat.le_refl _, Nat.zero_le _, fun _ => rfl, fun _ h => by cases h⟩
theorem Rd.chg (h : Rd w sz A n c xs) (hc : Chg L w w') (hn : ∀ k ∈ bo A, k ∉ L) : Rd w' sz A n c xs :=
  ⟨h.1, h.2.1, h.2.2.1, h.2.2.2.1, fun ad e => by
    subst e
    refine ⟨fun hn => Nat.lt_of_lt_of_le ((h.2.2.2.2 ad rfl).1 hn) hc.size, fun j u hu => hc.cell ((h.2.2.2.2 ad rfl).2 j u hu) ?_⟩
    rw [add_block]; exact hn ad.block (by simp)⟩
theorem Rd.at1 (h : Rd w 1 A n c xs) {k : Nat} (hk : k < n) : ∃ ad u, A = some ad ∧ xs[k]? = some u ∧ w.cell? (ad.add k) = some u := by
  have hl : k < xs.length := by rw [h.1]; omega
  cases A with
  | none => have h1 := h.2.2.2.1 rfl; have h2 := h.2.1; omega
  | some ad => exact ⟨ad, _, rfl, List.getElem?_eq_getElem hl, (h.2.2.2.2 ad rfl).2 _ _ (List.getElem?_eq_getElem hl)⟩
theorem Rd.some_ (h : Rd w sz A n c xs) (hk : 0 < n) : ∃ ad, A = some ad ∧ ad.block < w.heap.size := by
  cases A with
  | none => have h1 := h.2.2.2.1 rfl; have h2 := h.2.1; omega
  | some ad => exact ⟨ad, rfl, (h.2.2.2.2 ad rfl).1 hk⟩
theorem Rd.take (h : Rd w sz A n c xs) {k : Nat} (hk : k ≤ n) : Rd w sz A k c (xs.take (k * sz)) := by
  refine ⟨?_, Nat.le_trans hk h.2.1, h.2.2.1, h.2.2.2.1, fun ad e => ⟨fun hp => (h.2.2.2.2 ad e).1 (by omega), fun j u hu => (h.2.2.2.2 ad e).2 j u ?_⟩⟩
  · rw [List.length_take, h.1]; exact Nat.min_eq_left (Nat.mul_le_mul_right _ hk)
  · rw [List.getElem?_take] at hu
    split at hu
    · exact hu
    · cases hu
end rd

/-- a row of the call's own: '.slice A n c' with n elements, from the head of a block that is all of it -/
def Own (w : World) (e : TypeId) (sz : Nat) (A : Option Addr) (n c : Nat) (xs : List Value) : Prop := w.ownsRow 0 e sz (.slice A n c) n xs

section own
variable {w w' : World} {e : TypeId} {sz n c : Nat} {A : Option Addr} {xs : List Value} {L : List Nat}
theorem Own.nil (w : World) (e : TypeId) (sz : Nat) : Own w e sz none 0 0 [] := World.ownsRow_nil w 0 e sz
theorem Own.form (h : Own w e sz A n c xs) : (A = none ∧ n = 0 ∧ c = 0 ∧ xs = []) ∨ ∃ g cur, A = some ⟨g, 0, none⟩ ∧ Blk w g e cur ∧ n ≤ c ∧ c ≤ maxLen ∧ cur.size = c * sz ∧ cur.toList.take (n * sz) = xs := by
  rcases h.2 with ⟨h1, h2⟩ | ⟨g, cap, cur, h1, _, h3, h4, h5, h6, h7⟩
  · injection h1 with e1 e2 e3
    subst e1; subst e3; subst h2
    exact .inl ⟨rfl, rfl, rfl, List.eq_nil_of_length_eq_zero (by simpa using h.1)⟩
  · injection h1 with e1 e2 e3
    subst e1; subst e3
    exact .inr ⟨g, cur, rfl, h3, h4, h5, h6, h7⟩
theorem Own.rd (h : Own w e sz A n c xs) : Rd w sz A n c xs := by
  rcases h.form with ⟨rfl, rfl, rfl, rfl⟩ | ⟨g, cur, rfl, hb, hn, hm, hs, ht⟩
  · exact Rd.nil w sz
  · exact ⟨h.1, hn, hm, (fun e => by cases e), fun ad e => by
      injection e with e; subst e
      exact ⟨fun _ => hb.lt, fun j u hu => World.ownsRow.cells h (g := g) rfl j u hu⟩⟩
theorem Own.lt (h : Own w e sz A n c xs) : ∀ k ∈ bo A, k < w.heap.size := by
  rcases h.form with ⟨rfl, rfl, rfl, rfl⟩ | ⟨g, cur, rfl, hb, hn, hm, hs, ht⟩
  · simp
  · intro k hk; simp at hk; subst hk; exact hb.lt
theorem Own.chg (h : Own w e sz A n c xs) (hc : Chg L w w') (hn : ∀ k ∈ bo A, k ∉ L) : Own w' e sz A n c xs := by
  refine ⟨h.1, ?_⟩
  rcases h.2 with h2 | ⟨g, cap, cur, h1, hb, h3, h4⟩
  · exact .inl h2
  · refine .inr ⟨g, cap, cur, h1, hb, ?_, h4⟩
    injection h1 with e1
    subst e1
    exact (hc.block g (Array.getElem?_eq_some_iff.1 h3).1 (hn g (by simp))).trans h3
theorem Own.blk_ne {g : Nat} {t : TypeId} {cs : Array Value} (h : Own w e sz A n c xs) (hb : Blk w g t cs) (ht : t ≠ e) : ∀ k ∈ bo A, k ≠ g := by
  rcases h.form with ⟨rfl, rfl, rfl, rfl⟩ | ⟨g', cur, rfl, hb', _⟩
  · simp
  · intro k hk; simp at hk; subst hk; exact hb'.ne_ hb (Ne.symm ht)
theorem Own.own_ne {e' : TypeId} {sz' n' c' : Nat} {A' : Option Addr} {xs' : List Value} (h : Own w e sz A n c xs) (h' : Own w e' sz' A' n' c' xs') (ht : e ≠ e') : ∀ k ∈ bo A, k ∉ bo A' := by
  rcases h.form with ⟨rfl, rfl, rfl, rfl⟩ | ⟨g, cur, rfl, hb, _⟩
  · simp
  · rcases h'.form with ⟨rfl, rfl, rfl, rfl⟩ | ⟨g', cur', rfl, hb', _⟩
    · simp
    · intro k hk hk'; simp at hk hk'; subst hk; exact hb.ne_ hb' ht hk'
theorem Own.lit (w : World) (e : TypeId) (sz : Nat) (cs : Array Value) (n : Nat) (hm : n ≤ maxLen) (hs : cs.size = n * sz) : Own (w.alloc (.cells cs e)) e sz (some ⟨w.heap.size, 0, none⟩) n n cs.toList := by
  have := World.ownsRow_lit (base := 0) (e := e) (size := sz) w cs n (Nat.zero_le _) hm hs
  exact this
theorem Own.at1 (h : Own w e 1 A n c xs) {k : Nat} (hk : k < n) : ∃ ad u, A = some ad ∧ xs[k]? = some u ∧ w.cell? (ad.add k) = some u ∧ w.frozen? (ad.add k) = false ∧
    ∀ u', Own (w.setCell (ad.add k) u') e 1 A n c (xs.set k u') := by
  obtain ⟨ad, u, hA, hx, hc⟩ := h.rd.at1 hk
  rcases h.form with ⟨rfl, rfl, rfl, rfl⟩ | ⟨g, cur, hA', hb, hn, hm, hs, ht⟩
  · omega
  · subst hA'
    injection hA with hA; subst hA
    rw [add_zero', Nat.zero_add] at hc
    refine ⟨_, u, rfl, hx, by rw [add_zero', Nat.zero_add]; exact hc, by rw [add_zero']; exact hb.frozen _, fun u' => ⟨by rw [List.length_set]; exact h.1, .inr ⟨g, c, _, rfl, Nat.zero_le _, by rw [add_zero', Nat.zero_add]; exact hb.set_ k u', hn, hm, by rw [Array.size_setIfInBounds]; exact hs, ?_⟩⟩⟩
    rw [← ht, Array.toList_setIfInBounds, List.take_set]
/-- cut down to its first k elements -/
theorem Own.cut (h : Own w e sz A n c xs) {k : Nat} (hk : k ≤ n) : Own w e sz A k c (xs.take (k * sz)) := by
  refine ⟨?_, ?_⟩
  · rw [List.length_take, h.1]; exact Nat.min_eq_left (Nat.mul_le_mul_right _ hk)
  · rcases h.form with ⟨rfl, rfl, rfl, rfl⟩ | ⟨g, cur, rfl, hb, hn, hm, hs, ht⟩
    · exact .inl ⟨by rw [show k = 0 by omega], by omega⟩
    · refine .inr ⟨g, c, cur, rfl, Nat.zero_le _, hb, by omega, hm, hs, ?_⟩
      rw [← ht, List.take_take]; congr 1; exact (Nat.min_eq_left (Nat.mul_le_mul_right _ hk)).symm
end own

/-- a slice type's element: one closed fact -/
def Ety (P : Program) (t e : TypeId) (sz bytes : Nat) (z : Value) : Prop :=
  P.underlying t = some (.slice e) ∧ (∃ i, P.info? e = some i ∧ i.zero = some z ∧ i.size = sz ∧ i.bytes = bytes) ∧ z.cells.size = sz ∧ 0 < sz
theorem Ety.mk' {P : Program} {t e : TypeId} {sz bytes : Nat} {z : Value} (ht : P.underlying t = some (.slice e)) (h : (P.info? e).map (fun i => (i.zero, i.size, i.bytes)) = some (some z, sz, bytes)) (hz : z.cells.size = sz) (hp : 0 < sz) : Ety P t e sz bytes z := by
  obtain ⟨i, h1, h2, h3, h4⟩ := info_parts h
  exact ⟨ht, ⟨i, h1, h2, h3, h4⟩, hz, hp⟩

/-- x[f:e], both bounds given: one equation, in whatever world -/
theorem run_slice2 {P : Program} {t e : TypeId} {sz bytes : Nat} {z : Value} (he : Ety P t e sz bytes z) {w : World} {A : Option Addr} {n c : Nat} {xs : List Value} (hrd : Rd w sz A n c xs) {f g : Nat} (h1 : f ≤ g) (h2 : g ≤ n) :
    ∃ S, (∀ w', (Instr.slice t (.slice A n c) (some (.int .i64 (f : Int))) (some (.int .i64 (g : Int))) none).run P w' = .ok (.slice S (g - f) (c - f)) w') ∧
      Rd w sz S (g - f) (c - f) ((xs.drop (f * sz)).take ((g - f) * sz)) ∧ ∀ k ∈ bo S, k ∈ bo A := by
  obtain ⟨ht, ⟨i, hi, hz, hsz, hby⟩, hzs, hpos⟩ := he
  have hc := hrd.2.1
  refine ⟨if c = f then A else A.map (·.add (f * sz)), fun w' => ?_, ⟨?_, by omega, Nat.le_trans (Nat.sub_le _ _) hrd.2.2.1, ?_, ?_⟩, ?_⟩
  · have b1 : g ≤ c := by omega
    simp [Instr.slice, run_underlying ht, Instr.sliceBounds, Instr.sliceBound, asIntOf, sizeOf, typeInfo, hi, hsz, b1, h1]
  · rw [List.length_take, List.length_drop, hrd.1, ← Nat.sub_mul]; exact Nat.min_eq_left (Nat.mul_le_mul_right _ (by omega))
  · intro hn
    split at hn
    · omega
    · cases A with
      | none => have := hrd.2.2.2.1 rfl; omega
      | some ad => cases hn
  · intro ad ha
    split at ha
    · subst ha
      refine ⟨fun hp => by omega, fun j u hu => ?_⟩
      rw [show g - f = 0 by omega] at hu
      simp at hu
    · cases A with
      | none => cases ha
      | some a0 =>
        simp at ha
        subst ha
        refine ⟨fun hp => by rw [add_block]; exact (hrd.2.2.2.2 a0 rfl).1 (by omega), fun j u hu => ?_⟩
        rw [add_add']
        refine (hrd.2.2.2.2 a0 rfl).2 _ u ?_
        rw [List.getElem?_take] at hu
        split at hu
        · rw [List.getElem?_drop] at hu; exact hu
        · cases hu
  · intro k hk
    split at hk
    · exact hk
    · cases A with
      | none => simp at hk
      | some a0 => simpa [add_block] using hk

/-- append as one law: whatever the target (nil or owned), whatever the source (nil or not) -/
theorem run_app {P : Program} {w : World} {t ty e : TypeId} {sz bytes : Nat} {z : Value} (he : Ety P t e sz bytes z) {A : Option Addr} {n c : Nat} {xs : List Value} (hown : Own w e sz A n c xs)
    {A2 : Option Addr} {m c2 : Nat} {news : List Value} (hrd : Rd w sz A2 m c2 news) (h1 : ∀ u ∈ news, u.oneCell' = true) (h63 : n + m ≤ maxLen) (hb : (n + m) * bytes ≤ 140737488355328) :
    ∃ A' c' w', (Builtin.append_ #[t, t] ty #[.slice A n c, .slice A2 m c2]).run P w = .ok (.slice A' (n + m) c') w' ∧ Own w' e sz A' (n + m) c' (xs ++ news) ∧ Chg (bo A) w w' ∧
      (∀ k ∈ bo A', k ∈ bo A ∨ (w.heap.size ≤ k ∧ k < w'.heap.size)) ∧ (A' = none → A = none ∧ m = 0) := by
  obtain ⟨ht, ⟨i, hi, hz, hsz, hby⟩, hzs, hpos⟩ := he
  cases A2 with
  | none =>
    have hc0 := hrd.2.2.2.1 rfl
    have hm0 : m = 0 := by have := hrd.2.1; omega
    subst hm0; subst hc0
    have hn : news = [] := List.eq_nil_of_length_eq_zero (by simpa using hrd.1)
    subst hn
    refine ⟨A, c, w, ?_, by simpa using hown, Chg.refl _ _, fun k hk => .inl hk, fun e => ⟨e, rfl⟩⟩
    simpa using run_append_owned_none (P := P) (w := w) 0 t ty e i sz ht hi _ n xs hown
  | some ad =>
    obtain ⟨v', w', hr, hown', hg, hnil⟩ := run_append_own (P := P) w 0 t ty e i z sz bytes ht hi hz hsz hby hzs hpos _ n xs hown ad m c2 news hrd.1 (hrd.2.2.2.2 ad rfl).2 h1 h63 hb (Nat.zero_le _)
    have hform : ∃ A' c', v' = .slice A' (n + m) c' := by
      rcases hown'.2 with ⟨h1, h2⟩ | ⟨g, cap, cur, h1, _⟩
      · exact ⟨none, 0, by rw [h1, h2]⟩
      · exact ⟨_, _, h1⟩
    obtain ⟨A', c', rfl⟩ := hform
    have hrow : (Value.slice A n c).ownBlock.toList = bo A := by cases A <;> rfl
    refine ⟨A', c', w', hr, hown', by have := Chg.of_grown hg; rwa [hrow] at this, ?_, ?_⟩
    · -- the new block: the old one, or a new one
      intro k hk
      have hk' : k < w'.heap.size := Own.lt hown' k hk
      by_cases hin : k ∈ bo A
      · exact .inl hin
      · right
        refine ⟨?_, hk'⟩
        rcases Nat.lt_or_ge k w.heap.size with hlt | hge
        · -- an old block that isn't A's: impossible: see how append works
          exfalso
          have key : ∀ A' c' w', (Builtin.append_ #[t, t] ty #[.slice A n c, .slice (some ad) m c2]).run P w = .ok (.slice A' (n + m) c') w' → ∀ k ∈ bo A', k ∈ bo A ∨ w.heap.size ≤ k := by
            intro A' c' w' hr'
            rcases hown.form with ⟨rfl, rfl, rfl, rfl⟩ | ⟨g, cur, rfl, hbk, hnc, hcm, hcs, htk⟩
            · by_cases hm : m = 0
              · subst hm
                have hn : news = [] := List.eq_nil_of_length_eq_zero (by simpa using hrd.1)
                subst hn
                have e0 : (Builtin.append_ #[t, t] ty #[.slice none 0 0, .slice (some ad) 0 c2]).run P w = .ok (.slice none 0 0) w := by
                  simp [Builtin.append_, run_underlying ht, sizeOf, typeInfo, hi, Builtin.lenOf, Builtin.firstCells, loadCells, loadCellsFrom]
                rw [e0] at hr'
                simp at hr'
                intro k hk
                rw [← hr'.1.1] at hk
                simp at hk
              · have e0 := run_append_nil (P := P) w t ty e i z ht hi hz ad m c2 news (by rw [hsz]; exact hrd.1) (hrd.2.2.2.2 ad rfl).2 (by omega) (by simp only [maxLen] at h63; omega) (by have hb := hb; rw [hby]; simp only [Nat.zero_add] at hb; omega)
                rw [e0] at hr'
                simp at hr'
                intro k hk
                rw [← hr'.1.1] at hk
                simp at hk
                right; omega
            · by_cases hroom : n + m ≤ c
              · have hfit : n * i.size + news.length ≤ cur.size := by rw [hrd.1, hcs, hsz, ← Nat.add_mul]; exact Nat.mul_le_mul_right _ hroom
                have e0 := run_append_room (P := P) w t ty e i ht hi g n c cur hbk ad m c2 news (by rw [hsz]; exact hrd.1) (hrd.2.2.2.2 ad rfl).2 h1 hroom hfit
                rw [e0] at hr'
                simp at hr'
                intro k hk
                rw [← hr'.1.1] at hk
                simp at hk
                left; simp [hk]
              · have e0 := run_append_grow (P := P) w t ty e i z ht hi hz ⟨g, 0, none⟩ n c xs (by rw [hsz]; exact hown.1) (hown.cells (g := g) rfl) ad m c2 news (by rw [hsz]; exact hrd.1) (hrd.2.2.2.2 ad rfl).2 (by omega) (by simp only [maxLen] at h63; omega) (growslice_fits (by omega) (by rw [hby]; exact hb))
                rw [e0] at hr'
                simp at hr'
                intro k hk
                rw [← hr'.1.1] at hk
                simp at hk
                right; omega
          rcases key A' c' w' hr k hk with h1 | h1
          · exact hin h1
          · omega
        · exact hge
    · intro e
      subst e
      have hx : (n + m = 0 ∧ c' = 0) := by
        rcases hown'.2 with ⟨h1, h2⟩ | ⟨g, cap, cur, h1, _⟩
        · injection h1 with _ _ h3; exact ⟨h2, h3⟩
        · injection h1 with h1 _ _; cases h1
      have h2 := hnil.1 (by rw [hx.1, hx.2])
      refine ⟨?_, h2.2⟩
      have := h2.1
      injection this

theorem wp_app {P : Program} {w : World} {o : Oper} {a : Act} {K : Act → World → Prop} {Q : Exit → Act → World → Prop} (s x : Operand) {t : TypeId}
    (ho : o.op = .call { callee := .builtin .append, args := #[s, x], argTypes := #[t, t] })
    {e : TypeId} {sz bytes : Nat} {z : Value} (he : Ety P t e sz bytes z) {A : Option Addr} {n c : Nat} {xs : List Value} (hs : a.eval s = .slice A n c) (hown : Own w e sz A n c xs)
    {A2 : Option Addr} {m c2 : Nat} {news : List Value} (hx : a.eval x = .slice A2 m c2) (hrd : Rd w sz A2 m c2 news) (h1 : ∀ u ∈ news, u.oneCell' = true) (h63 : n + m ≤ maxLen) (hb : (n + m) * bytes ≤ 140737488355328)
    (h : ∀ A' c' w', Own w' e sz A' (n + m) c' (xs ++ news) → Chg (bo A) w w' → (∀ k ∈ bo A', k ∈ bo A ∨ (w.heap.size ≤ k ∧ k < w'.heap.size)) → (A' = none → A = none ∧ m = 0) →
      K (a.put o.dst (.slice A' (n + m) c')) w') : o.wp P a w K Q := by
  obtain ⟨A', c', w', hr, h2, h3, h4, h5⟩ := run_app (ty := o.type) he hown hrd h1 h63 hb
  unfold Oper.wp execOp
  simp only [ho, resolve, invoke, builtin, Sem.run_bind, Sem.run_pure, Result.andThen_ok, List.map_toArray, List.map_cons, List.map_nil, hs, hx, hr]
  exact h A' c' w' h2 h3 h4 h5

/-- at a step of a region that draws its order -/
theorem step_app {P : Program} {w : World} {ops : Array Oper} {o : Oper} {a : Act} {K : Act → World → Prop} {Q : Exit → Act → World → Prop} {E : Prop} (hgd : o.guard = none) (s x : Operand) {t : TypeId}
    (ho : o.op = .call { callee := .builtin .append, args := #[s, x], argTypes := #[t, t] })
    {e : TypeId} {sz bytes : Nat} {z : Value} (he : Ety P t e sz bytes z) {A : Option Addr} {n c : Nat} {xs : List Value} (hs : a.eval s = .slice A n c) (hown : Own w e sz A n c xs)
    {A2 : Option Addr} {m c2 : Nat} {news : List Value} (hx : a.eval x = .slice A2 m c2) (hrd : Rd w sz A2 m c2 news) (h1 : ∀ u ∈ news, u.oneCell' = true) (h63 : n + m ≤ maxLen) (hb : (n + m) * bytes ≤ 140737488355328)
    (h : ∀ A' c' w', Own w' e sz A' (n + m) c' (xs ++ news) → Chg (bo A) w w' → (∀ k ∈ bo A', k ∈ bo A ∨ (w.heap.size ≤ k ∧ k < w'.heap.size)) → (A' = none → A = none ∧ m = 0) →
      K (a.put o.dst (.slice A' (n + m) c')) w') : if Region.wanted o (yielded ops a.tmps) = true then Oper.wp P o a w K Q else E := by
  have hw : Region.wanted o (yielded ops a.tmps) = true := by simp [Region.wanted, hgd]
  rw [if_pos hw]
  exact wp_app s x ho he hs hown hx hrd h1 h63 hb h

theorem wpList_app {P : Program} {w : World} {ops : Array Oper} {rest : List Oper} {o : Oper} {a : Act} {Q : Exit → Act → World → Prop} (hgd : o.guard = none) (s x : Operand) {t : TypeId}
    (ho : o.op = .call { callee := .builtin .append, args := #[s, x], argTypes := #[t, t] })
    {e : TypeId} {sz bytes : Nat} {z : Value} (he : Ety P t e sz bytes z) {A : Option Addr} {n c : Nat} {xs : List Value} (hs : a.eval s = .slice A n c) (hown : Own w e sz A n c xs)
    {A2 : Option Addr} {m c2 : Nat} {news : List Value} (hx : a.eval x = .slice A2 m c2) (hrd : Rd w sz A2 m c2 news) (h1 : ∀ u ∈ news, u.oneCell' = true) (h63 : n + m ≤ maxLen) (hb : (n + m) * bytes ≤ 140737488355328)
    (h : ∀ A' c' w', Own w' e sz A' (n + m) c' (xs ++ news) → Chg (bo A) w w' → (∀ k ∈ bo A', k ∈ bo A ∨ (w.heap.size ≤ k ∧ k < w'.heap.size)) → (A' = none → A = none ∧ m = 0) →
      wpList P ops Q rest (a.put o.dst (.slice A' (n + m) c')) w') : wpList P ops Q (o :: rest) a w := by
  obtain ⟨A', c', w', hr, h2, h3, h4, h5⟩ := run_app (ty := o.type) he hown hrd h1 h63 hb
  refine wpList_plain hgd fun K hK => ?_
  unfold Oper.wp execOp
  simp only [ho, resolve, invoke, builtin, Sem.run_bind, Sem.run_pure, Result.andThen_ok, List.map_toArray, List.map_cons, List.map_nil, hs, hx, hr]
  exact hK _ _ (h A' c' w' h2 h3 h4 h5)

end Go.Proofs.Ytcdhmnefmbcmaaa.Vw

namespace Go.Proofs.Ytcdhmnefmbcmaaa.Vw
open Go.RowKit Go.ChangeShapes Go.WideShapes Go.Deep

theorem own : ownKnob Try.prog.godebug = none := by kernel_rfl
theorem laidOut : laidOutB Try.prog = true := by kernel_rfl

section
variable {H : Type} {enc : TypeId × Value → H} {P : Program} {w : World} {base : Nat} {spare : Nat → Bool} {held : Bool}
theorem open_slice_fields {t e : TypeId} {fs : Array Field} {fuel : Nat} {cs : List Value} {x : DataW H × List MemPlace} (ht : P.underlying t = some (.slice e)) (he : P.underlying e = some (.struct fs))
    (hone : oneCellFields P fs = true) (hC : P.cellsOf e = fs.size) (h : DataW.trod enc P w base spare held fuel t cs = some x) :
    (cs = [.slice none 0 0] ∧ x = (.nil, [])) ∨
    ∃ (a : Addr) (len cap m : Nat) (D : Nat → DataW H) (Pl : Nat → List MemPlace), cs = [.slice (some a) len cap] ∧ base ≤ a.block ∧ len ≤ cap ∧ cap ≤ maxLen ∧ m = (if spare a.block then cap else len) ∧
      x = (.slice ((List.range len).map D) ((List.range (m - len)).map fun j => D (len + j)), MemPlace.row a (m * fs.size) ++ (List.range m).flatMap Pl) ∧
      ∀ i, i < m → ∃ (ys : List (DataW H × List MemPlace)) (n : Nat), D i = .agg (ys.map (·.1)) ∧ Pl i = ys.flatMap (·.2) ∧ ys.length = fs.size ∧
        ∀ (j : Nat) (f : Field), fs[j]? = some f → ∃ (v : Value) (y : DataW H × List MemPlace), w.cell? (a.add (i * fs.size + j)) = some v ∧ ys[j]? = some y ∧ DataW.trod enc P w base spare held n f.type [v] = some y := by
  rcases open_slice ht h with h0 | ⟨a, len, cap, m, n, D, Pl, hcs, hb, hl, hm, hmm, hx, hi⟩
  · exact .inl h0
  · refine .inr ⟨a, len, cap, m, D, Pl, hcs, hb, hl, hm, hmm, by rw [hC] at hx; exact hx, fun i him => ?_⟩
    obtain ⟨cs', hc, ht'⟩ := hi i him
    rw [hC] at hc
    obtain ⟨ys, n', hn', hy, hlen, hyl, hf⟩ := DataW.trod_struct he ht'
    obtain ⟨_, hcl, hat⟩ := World.cells?_some hc
    simp only [Prod.mk.injEq] at hy
    refine ⟨ys, n', hy.1, hy.2, hyl, fun j f hj => ?_⟩
    obtain ⟨ho, hk⟩ := hone_of hone j f hj
    have hjl : j < fs.size := (Array.getElem?_eq_some_iff.1 hj).1
    have hcell := hat j hjl
    have hv : cs'[j]? = some (cs'[j]'(by omega)) := List.getElem?_eq_getElem (by omega)
    have h1 := hf j f hj
    rw [ho, hk] at h1
    have hone' : (cs'.drop j).take 1 = [cs'[j]'(by omega)] := by
      rw [List.drop_eq_getElem_cons (by omega)]
      rfl
    rw [hone'] at h1
    have hys : ys[j]? = some (ys[j]'(by omega)) := List.getElem?_eq_getElem (by omega)
    refine ⟨_, _, ?_, hys, h1.trans hys⟩
    rw [← Go.Deep.add_add, hcell, hv]
end

section
variable {H : Type} {enc : TypeId × Value → H} {P : Program}
theorem post_of_below {f : Func} {s : ChangeSpec} {apart fresh handsOn again : Bool} {W W' : World} {args : Array Value} {v : Value} {ds gs : List (DataW H)} {before pa pv : List MemPlace}
    (hW : DataW.Whole enc P f.params.toList s.vars apart W args.toList ds gs before)
    (hres : ∀ (b : Nat) (sp : Nat → Bool) (hd : Bool), DataW.TrodAll enc P W' b sp hd f.resultTypes.toList (v.resultList f.resultTypes.size) (s.fn H (ds ++ gs)).results [])
    (hargs : ∀ sp : Nat → Bool, (∀ p ∈ before, sp p.block = true) → DataW.TrodAll enc P W' 0 sp true f.params.toList args.toList (s.fn H (ds ++ gs)).args pa)
    (hvars : ∀ sp : Nat → Bool, (∀ p ∈ before, sp p.block = true) → DataW.TrodVars enc P W' sp s.vars (s.fn H (ds ++ gs)).vars pv)
    (hps : before = pa ++ pv) (hb : Below W.heap.size W W')
    (hok : ∀ (j : Nat) (t : TypeId) (r : Value), f.resultTypes[j]? = some t → (v.resultList f.resultTypes.size)[j]? = some r → Value.okWide P W' .any 0 t r) :
    s.post enc P f apart fresh handsOn again W args v W' := by
  have hlt : ∀ p ∈ before, p.block < W.heap.size := fun p hp => hW.lt p hp
  have hold : ∀ p ∈ before, (fun b => decide (b < W.heap.size)) p.block = true := fun p hp => by simpa using hlt p hp
  refine ⟨ds, gs, before, [], pa, pv, hW, hres _ _ _, hargs _ hold, hvars _ hold, World.keptBut_mono (fun p hp => ⟨hp, ?_⟩) (hb.frame (· ∈ before)), fun _ => ?_⟩
  · rw [hps, List.mem_append] at hp
    exact Or.inr hp
  · obtain ⟨_, _, _, _, _, hz, hn⟩ := hW
    refine ⟨hok, _, _, ([] ++ pa) ++ pv, ⟨[] ++ pa, pv, trodAll_append (hargs _ (fun _ _ => rfl)) (hres _ _ _), hvars _ (fun _ _ => rfl), rfl, ?_, ?_⟩, ?_⟩
    · intro b off hp
      have hin : MemPlace.cell b off ∈ before := by rw [hps]; simpa using hp
      rw [hb.frozen (hlt _ hin)]
      exact hz b off hin
    · intro ha
      have := hn ha
      rw [hps] at this
      simpa using this
    · intro p hp _
      rw [hps]
      simpa using hp
end

/-! bulk -/
theorem bulk_one {H : Type} (d : DataW H) : 1 ≤ Rows.uptoBulk d := by
  cases d with
  | lit l => cases l <;> simp [Rows.uptoBulk]
  | nil => simp [Rows.uptoBulk]
  | ptr d => simp [Rows.uptoBulk]
  | slice elems spare => simp [Rows.uptoBulk]
  | agg parts => simp [Rows.uptoBulk]
  | iface t d => simp [Rows.uptoBulk]
  | map entries => simp [Rows.uptoBulk]
  | held h => simp [Rows.uptoBulk]
theorem bulk_map_range {H : Type} (D : Nat → DataW H) (n : Nat) (f : Nat → Nat) (h : ∀ i, i < n → f i ≤ Rows.uptoBulk (D i)) : ((List.range n).map f).sum ≤ Rows.uptoBulkAll ((List.range n).map D) := by
  have gen : ∀ (l : List Nat), (∀ i ∈ l, f i ≤ Rows.uptoBulk (D i)) → (l.map f).sum ≤ Rows.uptoBulkAll (l.map D) := by
    intro l
    induction l with
    | nil => intro _; simp [Rows.uptoBulkAll]
    | cons x r ih =>
      intro hl
      have h1 := hl x (by simp)
      have h2 := ih (fun i hi => hl i (by simp [hi]))
      simp only [List.map_cons, List.sum_cons, Rows.uptoBulkAll]
      omega
  exact gen _ (fun i hi => h i (by simpa using hi))
theorem bulk_small {H : Type} {ds : List (DataW H)} (hk : Rows.uptoSmall H ds = true) : Rows.uptoBulkAll ds ≤ 1048576 := of_decide_eq_true hk

section
variable {H : Type} {enc : TypeId × Value → H} {P : Program}

/-- a slice of one-cell elements: it reads -/
theorem opn1 {t e : TypeId} {W : World} {sp : Nat → Bool} {held : Bool} {v : Value} {d : DataW H} {p : List MemPlace} {α : Type} (F : α → Value) (G : α → Nat)
    (ht : P.underlying t = some (.slice e)) (hc : P.cellsOf e = 1) (hel : ∀ n (u : Value) y, DataW.trod enc P W 0 sp held n e [u] = some y → ∃ a, u = F a ∧ G a ≤ Rows.uptoBulk y.1)
    (hv : ∃ a l c, v = .slice a l c) (h : DataW.Trod enc P W 0 sp held t v d p) :
    ∃ A n c, ∃ zs : List α, v = .slice A n c ∧ Rd W 1 A n c (zs.map F) ∧ zs.length = n ∧ (zs.map G).sum + 1 ≤ Rows.uptoBulk d := by
  obtain ⟨a0, l0, c0, rfl⟩ := hv
  obtain ⟨fuel, hf⟩ := h
  rcases open_slice1 ht hc hf with ⟨hcs, hx⟩ | ⟨a, len, cap, m, n, V, D, Pl, hcs, hb, hl, hm, hmm, hx, hi⟩
  · simp [Value.cells] at hcs
    obtain ⟨rfl, rfl, rfl⟩ := hcs
    simp only [Prod.mk.injEq] at hx
    obtain ⟨rfl, rfl⟩ := hx
    exact ⟨none, 0, 0, [], rfl, Rd.nil _ _, rfl, by simp [Rows.uptoBulk]⟩
  · simp [Value.cells] at hcs
    obtain ⟨rfl, rfl, rfl⟩ := hcs
    simp only [Prod.mk.injEq] at hx
    obtain ⟨rfl, rfl⟩ := hx
    have hle : l0 ≤ m := by rw [hmm]; split <;> omega
    have hex : ∀ i : Nat, i < l0 → ∃ z : α, V i = F z ∧ G z ≤ Rows.uptoBulk (D i) := fun i hil => hel _ _ _ (hi i (by omega)).2
    obtain ⟨Z, hZ⟩ : ∃ zs : List α, zs.length = l0 ∧ ∀ i z, zs[i]? = some z → V i = F z ∧ G z ≤ Rows.uptoBulk (D i) := by
      have : ∀ k, k ≤ l0 → ∃ zs : List α, zs.length = k ∧ ∀ i z, zs[i]? = some z → V i = F z ∧ G z ≤ Rows.uptoBulk (D i) := by
        intro k
        induction k with
        | zero => intro _; exact ⟨[], rfl, fun i z h => by simp at h⟩
        | succ k ih =>
          intro hk
          obtain ⟨zs, h1, h2⟩ := ih (by omega)
          obtain ⟨z, hz⟩ := hex k (by omega)
          refine ⟨zs ++ [z], by simp [h1], fun i y hy => ?_⟩
          by_cases hik : i < k
          · rw [List.getElem?_append_left (by omega)] at hy; exact h2 i y hy
          · rw [List.getElem?_append_right (by omega)] at hy
            have h0 : i = k := by
              rcases Nat.lt_or_ge k i with h3 | h3
              · rw [List.getElem?_eq_none (by simp; omega)] at hy; cases hy
              · omega
            subst h0
            rw [h1, Nat.sub_self] at hy
            simp at hy
            subst hy
            exact hz
      exact this l0 (Nat.le_refl _)
    refine ⟨some a, l0, c0, Z, rfl, ⟨by simp [hZ.1], hl, hm, (fun e => by cases e), fun ad e => ?_⟩, hZ.1, ?_⟩
    · injection e with e; subst e
      refine ⟨fun hp => ?_, fun j u hu => ?_⟩
      · have := (hi 0 (by omega)).1
        have := World.block_lt_of_cell? _ _ this
        rwa [add_block] at this
      · rw [List.getElem?_map] at hu
        cases hz : Z[j]? with
        | none => rw [hz] at hu; cases hu
        | some z =>
          rw [hz] at hu
          simp at hu
          subst hu
          have hj : j < l0 := by have := (List.getElem?_eq_some_iff.1 hz).1; omega
          rw [(hi j (by omega)).1, (hZ.2 j z hz).1]
    · have h1 := bulk_map_range D l0 (fun i => (Z[i]?.map G).getD 0) (fun i hil => by
        have hz : Z[i]? = some (Z[i]'(by omega)) := List.getElem?_eq_getElem (by omega)
        rw [hz]
        exact (hZ.2 i _ hz).2)
      have h2 : (List.range l0).map (fun i => (Z[i]?.map G).getD 0) = Z.map G := by
        apply List.ext_getElem?
        intro i
        rw [List.getElem?_map, List.getElem?_map]
        by_cases hil : i < l0
        · rw [List.getElem?_eq_getElem (by simpa using hil), List.getElem?_eq_getElem (by omega)]
          have hil' : i < Z.length := by omega
          simp [hil']
        · rw [List.getElem?_eq_none (by simp; omega), List.getElem?_eq_none (by omega)]
          rfl
      rw [h2] at h1
      simp only [Rows.uptoBulk]
      omega

theorem opn_int_el {e : TypeId} {k : IntKind} {W : World} {sp : Nat → Bool} {held : Bool} (he : P.underlying e = some (.int k)) : ∀ n (u : Value) (y : DataW H × List MemPlace), DataW.trod enc P W 0 sp held n e [u] = some y → ∃ a : { z : Int // (Lit.int k z).wf = true }, u = Value.int k a.1 ∧ 1 ≤ Rows.uptoBulk y.1 := fun n u y h => by
  obtain ⟨z, h1, rfl, h3⟩ := DataW.trod_int he h
  simp at h1
  exact ⟨⟨z, h3⟩, h1, by simp [Rows.uptoBulk]⟩
theorem opn_bool_el {e : TypeId} {W : World} {sp : Nat → Bool} {held : Bool} (he : P.underlying e = some .bool) : ∀ n (u : Value) (y : DataW H × List MemPlace), DataW.trod enc P W 0 sp held n e [u] = some y → ∃ a : Bool, u = Value.bool a ∧ 1 ≤ Rows.uptoBulk y.1 := fun n u y h => by
  obtain ⟨z, h1, rfl⟩ := DataW.trod_bool he h
  simp at h1
  exact ⟨z, h1, by simp [Rows.uptoBulk]⟩
theorem sum_one {α : Type} (l : List α) : (l.map (fun _ => 1)).sum = l.length := by induction l with | nil => rfl | cons x r ih => simp [ih]; omega

/-- a slice of integers -/
theorem opn_ints {t e : TypeId} {k : IntKind} {W : World} {sp : Nat → Bool} {held : Bool} {v : Value} {d : DataW H} {p : List MemPlace}
    (ht : P.underlying t = some (.slice e)) (he : P.underlying e = some (.int k)) (hc : P.cellsOf e = 1) (hv : ∃ a l c, v = .slice a l c) (h : DataW.Trod enc P W 0 sp held t v d p) :
    ∃ A n c, ∃ zs : List Int, v = .slice A n c ∧ Rd W 1 A n c (zs.map (Value.int k)) ∧ zs.length = n ∧ n + 1 ≤ Rows.uptoBulk d ∧ ∀ z ∈ zs, (Lit.int k z).wf = true := by
  obtain ⟨A, n, c, zs, h1, h2, h3, h4⟩ := opn1 (fun a : { z : Int // (Lit.int k z).wf = true } => Value.int k a.1) (fun _ => 1) ht hc (opn_int_el he) hv h
  rw [sum_one] at h4
  refine ⟨A, n, c, zs.map (·.1), h1, by rw [List.map_map]; exact h2, by simp [h3], by omega, fun z hz => ?_⟩
  obtain ⟨a, _, rfl⟩ := List.mem_map.1 hz
  exact a.2
theorem opn_bools {t e : TypeId} {W : World} {sp : Nat → Bool} {held : Bool} {v : Value} {d : DataW H} {p : List MemPlace}
    (ht : P.underlying t = some (.slice e)) (he : P.underlying e = some .bool) (hc : P.cellsOf e = 1) (hv : ∃ a l c, v = .slice a l c) (h : DataW.Trod enc P W 0 sp held t v d p) :
    ∃ A n c, ∃ ks : List Bool, v = .slice A n c ∧ Rd W 1 A n c (ks.map Value.bool) ∧ ks.length = n ∧ n + 1 ≤ Rows.uptoBulk d := by
  obtain ⟨A, n, c, zs, h1, h2, h3, h4⟩ := opn1 Value.bool (fun _ => 1) ht hc (opn_bool_el he) hv h
  rw [sum_one] at h4
  exact ⟨A, n, c, zs, h1, h2, h3, by omega⟩

/-- the arguments read behind the call as before -/
theorem trodAll_stays (hl : laidOutB P = true) {W W' : World} (hb : Below W.heap.size W W') {sp : Nat → Bool} : ∀ (ts : List TypeId) (vs : List Value) (ds : List (DataW H)) (ps : List MemPlace),
    (∀ t ∈ ts, P.readableRec t = true ∧ t < P.types.size) → DataW.TrodAll enc P W 0 (fun _ => true) true ts vs ds ps → (∀ x ∈ ps, x.block < W.heap.size) → (∀ x ∈ ps, sp x.block = true) → DataW.TrodAll enc P W' 0 sp true ts vs ds ps
  | [], [], [], ps, _, h, _, _ => h
  | t :: ts, v :: vs, d :: ds, ps, hr, h, hlt, hsp => by
    obtain ⟨p, q, h1, h2, rfl⟩ := h
    refine ⟨p, q, WideElems.Trod_stays hl (hr t (by simp)).1 (hr t (by simp)).2 h1 (fun x hx => hb.same (hlt x (by simp [hx]))) (fun x hx => hsp x (by simp [hx])), ?_, rfl⟩
    exact trodAll_stays hl hb ts vs ds q (fun t ht => hr t (by simp [ht])) h2 (fun x hx => hlt x (by simp [hx])) (fun x hx => hsp x (by simp [hx]))

/-- the row's last step for a law: true, and below the old heap's size nothing has turned -/
theorem post_law {fn : Func} {s : ChangeSpec} {tb : TypeId} {W W' : World} {args : Array Value} {ds gs : List (DataW H)} {before : List MemPlace}
    (hl : laidOutB P = true) (hW : DataW.Whole enc P fn.params.toList s.vars false W args.toList ds gs before) (hvars : s.vars = []) (hrt : fn.resultTypes = #[tb]) (htb : P.underlying tb = some .bool)
    (hrd : ∀ t ∈ fn.params.toList, P.readableRec t = true ∧ t < P.types.size)
    (hres : (s.fn H (ds ++ gs)).results = [.lit (.bool true)]) (hargs : (s.fn H (ds ++ gs)).args = ds) (hvs : (s.fn H (ds ++ gs)).vars = []) (hb : Below W.heap.size W W') :
    s.post enc P fn false true false false W args (.bool true) W' := by
  have hW' := hW
  obtain ⟨p, q, hA, hV, rfl, hfz, hnd⟩ := hW
  rw [hvars] at hV
  obtain ⟨rfl, rfl⟩ := trodVars_none hV
  have hlt : ∀ x ∈ p, x.block < W.heap.size := fun x hx => hW'.lt x (by simp [hx])
  refine post_of_below (pa := p) (pv := []) hW' (fun _ _ _ => ?_) (fun sp hsp => ?_) (fun sp _ => ?_) (by simp) hb ?_
  · rw [hrt, hres]
    exact trodAll_mk1 (shut_bool htb _)
  · rw [hargs]
    exact trodAll_stays hl hb _ _ _ _ hrd hA hlt (fun x hx => hsp x (by simp [hx]))
  · rw [hvars, hvs]; rfl
  · intro j t r hj hr
    rw [hrt] at hj hr
    match j, hj, hr with
    | 0, hj, hr =>
      simp [Value.resultList] at hj hr
      subst hj; subst hr
      exact okWide_bool_mk htb _
end
end Go.Proofs.Ytcdhmnefmbcmaaa.Vw
