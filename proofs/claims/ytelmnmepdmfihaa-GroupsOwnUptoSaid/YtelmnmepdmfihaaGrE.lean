/-
  Layer 17: the document's Gather.
-/
import Derived.Test.YtelmnmepdmfihaaGrD
namespace Go.Proofs.Ytelmnmepdmfihaa
open Go.RowKit

def pick1 (any : Bool) (last : Int) (s : Int × Bool) (t : Int) : Int × Bool := if any && decide (t ≤ last) then s else if !s.2 || decide (t < s.1) then (t, true) else s
def pickT (any : Bool) (last : Int) (l : List Int) : Int × Bool := l.foldl (pick1 any last) (0, false)

def PickOk (any : Bool) (last : Int) (l : List Int) (s : Int × Bool) : Prop :=
  (s.2 = false → ∀ t ∈ l, any = true ∧ t ≤ last) ∧ (s.2 = true → s.1 ∈ l ∧ ¬ (any = true ∧ s.1 ≤ last) ∧ ∀ t ∈ l, (any = true ∧ t ≤ last) ∨ s.1 ≤ t)
theorem pick1_ok {any : Bool} {last : Int} {l : List Int} {s : Int × Bool} (h : PickOk any last l s) (t : Int) : PickOk any last (l ++ [t]) (pick1 any last s t) := by
  obtain ⟨h1, h2⟩ := h
  unfold pick1
  by_cases hc : any = true ∧ t ≤ last
  · rw [if_pos (by simp [hc])]
    refine ⟨fun hs u hu => ?_, fun hs => ?_⟩
    · rcases List.mem_append.1 hu with hu | hu
      · exact h1 hs u hu
      · simp at hu; subst hu; exact hc
    · obtain ⟨a, b, c⟩ := h2 hs
      refine ⟨by simp [a], b, fun u hu => ?_⟩
      rcases List.mem_append.1 hu with hu | hu
      · exact c u hu
      · simp at hu; subst hu; exact .inl hc
  · rw [if_neg (by simpa using hc)]
    by_cases hd : s.2 = false ∨ t < s.1
    · rw [if_pos (by rcases hd with hd | hd <;> simp [hd])]
      refine ⟨fun hs => by simp at hs, fun _ => ⟨by simp, hc, fun u hu => ?_⟩⟩
      rcases List.mem_append.1 hu with hu | hu
      · cases hs : s.2 with
        | false => exact .inl (h1 hs u hu)
        | true =>
          rcases (h2 hs).2.2 u hu with e | e
          · exact .inl e
          · right
            rcases hd with hd | hd
            · rw [hs] at hd; cases hd
            · simp only; omega
      · simp at hu; subst hu; exact .inr (Int.le_refl _)
    · have hd1 : s.2 = true := by cases hs : s.2 <;> simp_all
      have hd2 : ¬ t < s.1 := fun e => hd (.inr e)
      rw [if_neg (by simp [hd1]; omega)]
      obtain ⟨a, b, c⟩ := h2 hd1
      refine ⟨fun hs => absurd (hd1.symm.trans hs) (by simp), fun _ => ⟨by simp [a], b, fun u hu => ?_⟩⟩
      rcases List.mem_append.1 hu with hu | hu
      · exact c u hu
      · simp at hu; subst hu; exact .inr (by omega)
theorem pickT_ok (any : Bool) (last : Int) (l : List Int) : PickOk any last l (pickT any last l) := by
  have key : ∀ (l pre : List Int) (s : Int × Bool), PickOk any last pre s → PickOk any last (pre ++ l) (l.foldl (pick1 any last) s) := by
    intro l
    induction l with
    | nil => intro pre s h; rw [List.append_nil]; exact h
    | cons x r ih =>
      intro pre s h
      have h2 := ih (pre ++ [x]) _ (pick1_ok h x)
      rw [List.append_assoc] at h2
      exact h2
  have h0 : PickOk any last [] (0, false) := ⟨by simp, by simp⟩
  exact key l [] (0, false) h0
theorem pickT_snoc (any : Bool) (last : Int) (l : List Int) (i : Nat) (t : Int) (h : l[i]? = some t) : pickT any last (l.take (i + 1)) = pick1 any last (pickT any last (l.take i)) t := by
  rw [List.take_add_one, h]; simp [pickT]

def lastT (T : List Int) (r : Nat) : Int := if r = 0 then 0 else T[r - 1]?.getD 0
theorem pickT_at (ts ids : List Int) (r : Nat) (hr : r ≤ (tys ts ids).length) :
    (∀ t, (tys ts ids)[r]? = some t → pickT (decide (0 < r)) (lastT (tys ts ids) r) (ids.map (tyOf ts)) = (t, true)) ∧
    (r = (tys ts ids).length → (pickT (decide (0 < r)) (lastT (tys ts ids) r) (ids.map (tyOf ts))).2 = false) := by
  obtain ⟨h1, h2⟩ := pickT_ok (decide (0 < r)) (lastT (tys ts ids) r) (ids.map (tyOf ts))
  obtain ⟨s, hs⟩ : ∃ s, s = pickT (decide (0 < r)) (lastT (tys ts ids) r) (ids.map (tyOf ts)) := ⟨_, rfl⟩
  rw [← hs] at h1 h2 ⊢
  clear hs
  have hm : ∀ t, t ∈ ids.map (tyOf ts) ↔ t ∈ tys ts ids := fun t => by rw [mem_tys]; simp
  simp only [hm] at h1 h2
  have mono : ∀ i j (hi : i < (tys ts ids).length) (hj : j < (tys ts ids).length), i < j → (tys ts ids)[i] < (tys ts ids)[j] := fun i j hi hj hij => List.pairwise_iff_getElem.1 (tys_sorted ts ids) i j hi hj hij
  have low : ∀ q (hq : q < (tys ts ids).length), (decide (0 < r) = true ∧ (tys ts ids)[q] ≤ lastT (tys ts ids) r) ↔ q < r := by
    intro q hq
    unfold lastT
    by_cases h0 : r = 0
    · subst h0; simp
    · rw [if_neg h0, List.getElem?_eq_getElem (show r - 1 < (tys ts ids).length by omega)]
      simp only [decide_eq_true_eq, Option.getD_some]
      constructor
      · rintro ⟨_, h⟩
        rcases Nat.lt_or_ge q r with h3 | h3
        · exact h3
        · have := mono (r - 1) q (by omega) hq (by omega); omega
      · intro h
        refine ⟨by omega, ?_⟩
        rcases Nat.lt_or_ge q (r - 1) with h3 | h3
        · have := mono q (r - 1) hq (by omega) h3; omega
        · obtain rfl : q = r - 1 := by omega
          exact Int.le_refl _
  refine ⟨fun t ht => ?_, fun hlen => ?_⟩
  · obtain ⟨hrl, rfl⟩ := List.getElem?_eq_some_iff.1 ht
    have hs2 : s.2 = true := by
      cases hs2 : s.2 with
      | true => rfl
      | false => exact absurd ((low r hrl).1 (h1 hs2 _ (List.getElem_mem _))) (by omega)
    obtain ⟨a, b, c⟩ := h2 hs2
    obtain ⟨q, hq, hqe⟩ := List.getElem_of_mem a
    rw [← hqe] at b c
    have hqr : ¬ q < r := fun h => b ((low q hq).2 h)
    have : q = r := by
      rcases c _ (List.getElem_mem hrl) with e | e
      · exact absurd ((low r hrl).1 e) (by omega)
      · rcases Nat.lt_or_ge r q with h3 | h3
        · have := mono r q hrl hq h3; omega
        · omega
    subst this
    obtain ⟨s1, s2⟩ := s
    simp at hqe hs2
    rw [hqe, hs2]
  · cases hs2 : s.2 with
    | false => rfl
    | true =>
      obtain ⟨a, b, c⟩ := h2 hs2
      obtain ⟨q, hq, hqe⟩ := List.getElem_of_mem a
      rw [← hqe] at b
      exact absurd ((low q hq).2 (by omega)) b
theorem lastT_succ {T : List Int} {r : Nat} {t : Int} (h : T[r]? = some t) : lastT T (r + 1) = t := by
  unfold lastT; simp [h]

/-- the bunches are told, for reading -/
def GathRd (bs : List Bn) (w : World) (e : Ending) (w' : World) : Prop := ∃ A c, e = .returned (.slice A bs.length c) ∧ BRd w' A bs.length c bs ∧ Chg [] w w'

theorem rway_any' (l : Lk) (node : Int) (k : Nat) (hk : wayOf l node = k) (w : World) : Calls Try.prog 29 #[.agg #[.bool l.live, .int .i64 l.src, .int .i64 l.dst, .int .i64 l.sp, .int .i64 l.tp, .int .i64 l.sn, .int .i64 l.tn], .int .i64 node] w
    fun e w' => e = .returned (.int .i64 (k : Int)) ∧ Chg [] w w' := by
  subst hk; exact rway_any l node w

def RowsOk (w : World) (ls : List Lk) (ts : List Int) (node : Int) (ids : List Int) (r : Nat) (rs : List (Int × B3)) : Prop := rs.length = r ∧ ∀ (i : Nat) (p : Int × B3) (t : Int), rs[i]? = some p → (tys ts ids)[i]? = some t → p.1 = t ∧ Own3 w p.2 (pk ls ts node ids t)
theorem RowsOk.chg {w w' : World} {ls : List Lk} {ts : List Int} {node : Int} {ids : List Int} {r : Nat} {rs : List (Int × B3)} (h : RowsOk w ls ts node ids r rs) (hc : Chg [] w w') : RowsOk w' ls ts node ids r rs :=
  ⟨h.1, fun i p t hp ht => ⟨(h.2 i p t hp ht).1, (h.2 i p t hp ht).2.chg hc (fun _ _ _ _ => List.not_mem_nil)⟩⟩
theorem RowsOk.chgA {w w' : World} {ls : List Lk} {ts : List Int} {node : Int} {ids : List Int} {r : Nat} {rs : List (Int × B3)} {e : TypeId} {sz n c : Nat} {A : Option Addr} {xs : List Value} (h : RowsOk w ls ts node ids r rs) (ho : Own w e sz A n c xs) (he : 3 ≠ e) (hr : r ≤ (tys ts ids).length) (hc : Chg (bo A) w w') : RowsOk w' ls ts node ids r rs :=
  ⟨h.1, fun i p t hp ht => ⟨(h.2 i p t hp ht).1, fun k hk => ((h.2 i p t hp ht).2 k hk).chg hc (fun x hx => ((h.2 i p t hp ht).2 k hk).own_ne ho he x hx)⟩⟩
theorem RowsOk.snoc {w : World} {ls : List Lk} {ts : List Int} {node : Int} {ids : List Int} {r : Nat} {rs : List (Int × B3)} {t : Int} {b : B3} (h : RowsOk w ls ts node ids r rs) (ht : (tys ts ids)[r]? = some t) (hb : Own3 w b (pk ls ts node ids t)) : RowsOk w ls ts node ids (r + 1) (rs ++ [(t, b)]) := by
  refine ⟨by simp [h.1], fun i p u hp hu => ?_⟩
  rcases Nat.lt_or_ge i rs.length with h1 | h1
  · rw [List.getElem?_append_left h1] at hp; exact h.2 i p u hp hu
  · rw [List.getElem?_append_right h1] at hp
    have hi : i = rs.length := by
      rcases Nat.lt_or_ge rs.length i with h2 | h2
      · rw [List.getElem?_eq_none (by simp; omega)] at hp; cases hp
      · omega
    subst hi
    simp at hp
    subst hp
    rw [h.1, ht] at hu
    injection hu with hu
    subst hu
    exact ⟨rfl, hb⟩
/-- a bunch under way, in its variable's block -/
structure Rb (wq wr : World) (ls : List Lk) (ts : List Int) (node : Int) (I : List Int) (t : Int) (b : B3) : Prop where
  blk : Blk wr wq.heap.size 52 #[.int .i64 t, b.sl 0, b.sl 1, b.sl 2]
  own : Own3 wr b (pk ls ts node I t)
  self : ∀ i j, i < 3 → j < 3 → ∀ x ∈ bo (b.A i), x ∈ bo (b.A j) → i = j
  new : ∀ i, i < 3 → ∀ x ∈ bo (b.A i), wq.heap.size < x
  chg : Chg [] wq wr
theorem bunch_set (b : B3) (t : Int) (k : Nat) (hk : k < 3) (A : Option Addr) (n c : Nat) : (#[.int .i64 t, b.sl 0, b.sl 1, b.sl 2] : Array Value).setIfInBounds (k + 1) (.slice A n c) = #[.int .i64 t, (b.set k A n c).sl 0, (b.set k A n c).sl 1, (b.set k A n c).sl 2] := by
  rcases (by omega : k = 0 ∨ k = 1 ∨ k = 2) with rfl | rfl | rfl <;> simp [B3.sl, B3.set]
theorem Rb.put {wq wr w5 w7 : World} {ls : List Lk} {ts : List Int} {node : Int} {I : List Int} {t : Int} {b : B3} {id : Int} {k : Nat} {A' : Option Addr} {c' : Nat} {o : Obj}
    (h : Rb wq wr ls ts node I t b) (hk3 : k < 3) (ht : tyOf ts id = t) (hk : wyOf ls node id = k) (hc : Chg [] wr w5) (hc7 : Chg (bo (b.A k)) (w5.alloc o).drew w7)
    (hown : Own w7 3 1 A' (b.n k + 1) c' (iv (pk ls ts node I t k) ++ [.int .i64 id]))
    (hnew : ∀ x ∈ bo A', x ∈ bo (b.A k) ∨ (w5.alloc o).drew.heap.size ≤ x) :
    Rb wq (w7.setCell ⟨wq.heap.size, k + 1, none⟩ (.slice A' (b.n k + 1) c')) ls ts node (I ++ [id]) t (b.set k A' (b.n k + 1) c') := by
  have hwq := h.chg.size
  have hbl := h.blk.lt
  have hsz := hc.size
  have hc1 : Chg [] wr (w5.alloc o).drew := (hc.alloc o).drew
  have hc2 : Chg (bo (b.A k)) wr w7 := (hc1.nil _).trans hc7 (fun x hx => .inl hx)
  have hnb : wq.heap.size ∉ bo (b.A k) := fun hx => by have := h.new k hk3 _ hx; omega
  have hb7 : Blk w7 wq.heap.size 52 #[.int .i64 t, b.sl 0, b.sl 1, b.sl 2] := h.blk.chg hc2 hnb
  have hnw : ∀ x ∈ bo A', x ∈ bo (b.A k) ∨ wr.heap.size ≤ x := fun x hx => by
    rcases hnew x hx with h1 | h1
    · exact .inl h1
    · have := hc1.size; exact .inr (by omega)
  have stay : ∀ A n c xs, Own w7 3 1 A n c xs → Own (w7.setCell ⟨wq.heap.size, k + 1, none⟩ (.slice A' (b.n k + 1) c')) 3 1 A n c xs := fun A n c xs ho =>
    ho.chg ((Chg.refl [wq.heap.size] w7).setCell (.inl (by simp)) _) (fun x hx hm => ho.blk_ne hb7 (by decide) x hx (by simpa using hm))
  have far : ∀ q, q < 3 → q ≠ k → ∀ x ∈ bo (b.A q), x ∉ bo A' := by
    intro q hq hqk x hx hx'
    rcases hnw x hx' with h1 | h1
    · exact hqk (h.self q k hq hk3 x hx h1)
    · have := (h.own q hq).lt x hx; omega
  refine ⟨?_, ?_, ?_, ?_, ?_⟩
  · have := hb7.set_ (k + 1) (.slice A' (b.n k + 1) c')
    rw [bunch_set b t k hk3] at this
    exact this
  · intro q hq
    rw [pk_snoc, ht, hk]
    by_cases hqk : q = k
    · subst hqk
      rw [if_pos ⟨rfl, rfl⟩]
      have h1 := stay _ _ _ _ hown
      simpa [B3.set, iv] using h1
    · rw [if_neg (fun e => hqk e.2.symm), List.append_nil]
      simp only [B3.set, if_neg hqk]
      exact stay _ _ _ _ ((h.own q hq).chg hc2 (fun x hx hm => hqk (h.self q k hq hk3 x hx hm)))
  · intro q q' hq hq' x hx hx'
    simp only [B3.set] at hx hx'
    by_cases h1 : q = k <;> by_cases h2 : q' = k
    · rw [h1, h2]
    · rw [if_pos h1] at hx; rw [if_neg h2] at hx'; exact absurd hx (far q' hq' h2 x hx')
    · rw [if_neg h1] at hx; rw [if_pos h2] at hx'; exact absurd hx' (far q hq h1 x hx)
    · rw [if_neg h1] at hx; rw [if_neg h2] at hx'; exact h.self q q' hq hq' x hx hx'
  · intro q hq x hx
    simp only [B3.set] at hx
    by_cases h1 : q = k
    · rw [if_pos h1] at hx
      rcases hnw x hx with h2 | h2
      · exact h.new k hk3 x h2
      · omega
    · rw [if_neg h1] at hx; exact h.new q hq x hx
  · exact ((h.chg.nil _).trans hc2 (fun x hx => .inl hx) |>.mono (M := bo (b.A k)) (L := []) (fun x hx => .inr (by have := h.new k hk3 x hx; omega))).setCell (.inr (Nat.le_refl _)) _
theorem Rb.skip {wq wr : World} {ls : List Lk} {ts : List Int} {node : Int} {I : List Int} {t : Int} {b : B3} {id : Int} (h : Rb wq wr ls ts node I t b) (ht : tyOf ts id ≠ t) : Rb wq wr ls ts node (I ++ [id]) t b :=
  ⟨h.blk, fun k hk => by rw [pk_snoc, if_neg (fun e => ht e.1), List.append_nil]; exact h.own k hk, h.self, h.new, h.chg⟩
end Go.Proofs.Ytelmnmepdmfihaa
