/-
  The document's Chunks over the virtual program, and its plain law; no condition but what each law names.
-/
import Derived.Test.YtcdhmnefmbcmaaaKWwU
namespace Go.Proofs.Ytcdhmnefmbcmaaa.Ww
open Go Go.RowKit
theorem und_bytessV : Tryw.prog.underlying 29 = some (.slice 22) := (Tryw.und _).trans Try.underlying29
theorem etyBytess : Ety Tryw.prog 29 22 1 24 (.slice none 0 0) := .mk' und_bytessV (by kernel_rfl) rfl (by decide)
/-- each of the rows is owned and reads as its list; all their blocks are in L -/
def Inn (w : World) (L : List Nat) (vs : List Value) (ws : List (List Int)) : Prop :=
  vs.length = ws.length ∧ ∀ (i : Nat) (x : List Int), ws[i]? = some x → ∃ A c, vs[i]? = some (.slice A x.length c) ∧ Own w 5 1 A x.length c (bv x) ∧ ∀ k ∈ bo A, k ∈ L
theorem Inn.chg {w w' : World} {L M : List Nat} {vs : List Value} {ws : List (List Int)} (h : Inn w L vs ws) (hc : Chg M w w') (hn : ∀ k ∈ L, k ∉ M) : Inn w' L vs ws :=
  ⟨h.1, fun i x hx => by
    obtain ⟨A, c, h1, h2, h3⟩ := h.2 i x hx
    exact ⟨A, c, h1, h2.chg hc (fun k hk hm => hn k (h3 k hk) hm), h3⟩⟩
theorem Inn.chgT {w w' : World} {L M : List Nat} {vs : List Value} {ws : List (List Int)} (h : Inn w L vs ws) (hc : Chg M w w') (hn : ∀ k ∈ L, k ∈ M → ∃ t cs, Blk w k t cs ∧ t ≠ 5) : Inn w' L vs ws :=
  ⟨h.1, fun i x hx => by
    obtain ⟨A, c, h1, h2, h3⟩ := h.2 i x hx
    refine ⟨A, c, h1, h2.chg hc (fun k hk hm => ?_), h3⟩
    obtain ⟨t, cs, hb, ht⟩ := hn k (h3 k hk) hm
    exact h2.blk_ne hb ht k hk rfl⟩
theorem Inn.mono {w : World} {L M : List Nat} {vs : List Value} {ws : List (List Int)} (h : Inn w L vs ws) (hs : ∀ k ∈ L, k ∈ M) : Inn w M vs ws :=
  ⟨h.1, fun i x hx => by obtain ⟨A, c, h1, h2, h3⟩ := h.2 i x hx; exact ⟨A, c, h1, h2, fun k hk => hs k (h3 k hk)⟩⟩
theorem Inn.snoc {w : World} {L : List Nat} {vs : List Value} {ws : List (List Int)} {A : Option Addr} {c : Nat} {x : List Int} (h : Inn w L vs ws) (ho : Own w 5 1 A x.length c (bv x)) (hk : ∀ k ∈ bo A, k ∈ L) :
    Inn w L (vs ++ [.slice A x.length c]) (ws ++ [x]) := by
  refine ⟨by simp [h.1], fun i y hy => ?_⟩
  by_cases hi : i < ws.length
  · rw [List.getElem?_append_left hi] at hy
    obtain ⟨A', c', h1, h2, h3⟩ := h.2 i y hy
    exact ⟨A', c', by rw [List.getElem?_append_left (by rw [h.1]; exact hi)]; exact h1, h2, h3⟩
  · rw [List.getElem?_append_right (by omega)] at hy
    by_cases h0 : i - ws.length = 0
    · rw [h0] at hy
      simp at hy
      subst hy
      refine ⟨A, c, ?_, ho, hk⟩
      rw [List.getElem?_append_right (by rw [h.1]; omega), h.1, h0]
      rfl
    · rw [List.getElem?_eq_none (by simp; omega)] at hy
      cases hy
/-- the pieces of a list, d long each (d + 1 here, so that it ends) -/
def cutr (d : Nat) (l : List Int) : List (List Int) :=
  match l with
  | [] => []
  | x :: r => ((x :: r).take (d + 1)) :: cutr d (r.drop d)
  termination_by l.length
  decreasing_by simp; omega
theorem cutr_nil (d : Nat) : cutr d [] = [] := by unfold cutr; rfl
theorem cutr_cut (d : Nat) (l : List Int) (h : l ≠ []) : cutr d l = l.take (d + 1) :: cutr d (l.drop (d + 1)) := by
  cases l with
  | nil => exact absurd rfl h
  | cons x r => rw [cutr]; rfl
theorem cutr_full (d : Nat) (p r : List Int) (h : p.length = d + 1) : cutr d (p ++ r) = p :: cutr d r := by
  rw [cutr_cut d _ (by intro e; rw [List.append_eq_nil_iff] at e; rw [e.1] at h; simp at h)]
  rw [List.take_append_of_le_length (by omega), List.take_of_length_le (by omega), List.drop_append_of_le_length (by omega), List.drop_of_length_le (by omega), List.nil_append]
theorem cutr_last (d : Nat) (p : List Int) (h0 : p ≠ []) (h : p.length ≤ d + 1) : cutr d p = [p] := by
  rw [cutr_cut d p h0, List.take_of_length_le h, List.drop_of_length_le h, cutr_nil]
theorem cutr_flat (d : Nat) : ∀ (n : Nat) (l : List Int), l.length = n → (cutr d l).flatten = l := by
  intro n
  induction n using Nat.strongRecOn with
  | _ n ih =>
    intro l hl
    by_cases h : l = []
    · subst h; rw [cutr_nil]; rfl
    · rw [cutr_cut d l h, List.flatten_cons, ih (l.drop (d + 1)).length (by
        have : 0 < l.length := List.length_pos_iff.2 h
        simp; omega) _ rfl, List.take_append_drop]
theorem cutr_pos (d : Nat) : ∀ (n : Nat) (l : List Int), l.length = n → ∀ p ∈ cutr d l, 0 < p.length ∧ p.length ≤ n := by
  intro n
  induction n using Nat.strongRecOn with
  | _ n ih =>
    intro l hl p hp
    by_cases h : l = []
    · subst h; rw [cutr_nil] at hp; cases hp
    · have h0 : 0 < l.length := List.length_pos_iff.2 h
      rw [cutr_cut d l h] at hp
      rcases List.mem_cons.1 hp with rfl | hp
      · simp; omega
      · have := ih (l.drop (d + 1)).length (by simp; omega) _ rfl p hp
        simp at this; omega
/-- the size that is meant -/
def szOf (size : Int) (n : Nat) : Nat := if size < 1 then n - 1 else size.toNat - 1
/-- where the document's loop stands -/
def Cut1 (size : Int) (zs : List Int) (k : Nat) (os : List (List Int)) (p : List Int) : Prop :=
  cutr (szOf size zs.length) zs = os ++ cutr (szOf size zs.length) (p ++ zs.drop k) ∧ p.length ≤ k ∧ p.length ≤ szOf size zs.length ∧ os.length ≤ k ∧ (k = zs.length → p = [])
theorem Cut1.start (size : Int) (zs : List Int) : Cut1 size zs 0 [] [] := ⟨rfl, Nat.le_refl _, Nat.zero_le _, Nat.le_refl _, fun _ => rfl⟩
theorem Cut1.close {size : Int} {zs : List Int} {k : Nat} {os : List (List Int)} {p : List Int} {x : Int} (h : Cut1 size zs k os p) (hx : zs[k]? = some x)
    (hc : ((p.length + 1 : Nat) : Int) = size ∨ k + 1 = zs.length) : Cut1 size zs (k + 1) (os ++ [p ++ [x]]) [] := by
  obtain ⟨h1, h2, h3, h4, _⟩ := h
  have hk : k < zs.length := (List.getElem?_eq_some_iff.1 hx).1
  have hd : zs.drop k = x :: zs.drop (k + 1) := by rw [List.drop_eq_getElem_cons hk]; congr 1; exact (List.getElem?_eq_some_iff.1 hx).2
  refine ⟨?_, Nat.zero_le _, Nat.zero_le _, by simp; omega, fun _ => rfl⟩
  rw [h1, hd, show p ++ x :: zs.drop (k + 1) = (p ++ [x]) ++ zs.drop (k + 1) by simp, List.nil_append, List.append_assoc os]
  refine congrArg (os ++ ·) ?_
  show cutr _ ((p ++ [x]) ++ zs.drop (k + 1)) = [p ++ [x]] ++ _
  by_cases hl : (p ++ [x]).length = szOf size zs.length + 1
  · rw [cutr_full _ _ _ hl]; rfl
  · have he : k + 1 = zs.length := by
      rcases hc with hc | hc
      · exfalso; apply hl; unfold szOf; simp; split <;> omega
      · exact hc
    rw [List.drop_of_length_le (by omega), List.append_nil, cutr_nil]
    exact cutr_last _ _ (by simp) (by simp at hl ⊢; omega)
theorem Cut1.go {size : Int} {zs : List Int} {k : Nat} {os : List (List Int)} {p : List Int} {x : Int} (h : Cut1 size zs k os p) (hx : zs[k]? = some x)
    (hc : ¬ ((p.length + 1 : Nat) : Int) = size) (hc2 : ¬ k + 1 = zs.length) : Cut1 size zs (k + 1) os (p ++ [x]) := by
  obtain ⟨h1, h2, h3, h4, _⟩ := h
  have hk : k < zs.length := (List.getElem?_eq_some_iff.1 hx).1
  have hd : zs.drop k = x :: zs.drop (k + 1) := by rw [List.drop_eq_getElem_cons hk]; congr 1; exact (List.getElem?_eq_some_iff.1 hx).2
  refine ⟨?_, by simp; omega, ?_, by omega, fun e => absurd e hc2⟩
  · rw [h1, hd, show p ++ x :: zs.drop (k + 1) = (p ++ [x]) ++ zs.drop (k + 1) by simp]
  · unfold szOf at h3 ⊢
    simp
    split at h3 <;> rename_i hs
    · rw [if_pos hs]; omega
    · rw [if_neg hs]; omega
theorem Cut1.done {size : Int} {zs : List Int} {k : Nat} {os : List (List Int)} {p : List Int} (h : Cut1 size zs k os p) (hk : k = zs.length) : os = cutr (szOf size zs.length) zs := by
  obtain ⟨h1, _, _, _, h5⟩ := h
  have := h5 hk
  subst this
  rw [h1, hk, List.drop_length, List.append_nil, cutr_nil, List.append_nil]
/-- rows in new memory are told -/
def NewRows (w : World) (ws : List (List Int)) (e : Ending) (w' : World) : Prop :=
  ∃ A c vs L, e = .returned (.slice A ws.length c) ∧ Own w' 22 1 A ws.length c vs ∧ Inn w' L vs ws ∧ Chg [] w w' ∧ (∀ k ∈ bo A, w.heap.size ≤ k) ∧ ∀ k ∈ L, w.heap.size ≤ k
/-- what the document's loop holds -/
def RcInv (w : World) (size : Int) (zs : List Int) (n : Nat) (o p i : Value) (wr : World) : Prop :=
  ∃ (k : Nat) (os : List (List Int)) (ps : List Int) (vs : List Value) (LL : List Nat) (O P : Option Addr) (oc pl pc : Nat), k ≤ n ∧ i = .int .i64 k ∧ o = .slice O os.length oc ∧ p = .slice P pl pc ∧
    pl = ps.length ∧ Own wr 22 1 O os.length oc vs ∧ Own wr 5 1 P pl pc (bv ps) ∧ Inn wr LL vs os ∧ Cut1 size zs k os ps ∧ Chg [] w wr ∧ (∀ k ∈ bo O, w.heap.size ≤ k) ∧ (∀ k ∈ bo P, w.heap.size ≤ k) ∧ (∀ k ∈ LL, w.heap.size ≤ k ∧ k < wr.heap.size) ∧ ∀ k ∈ bo P, k ∉ LL
section rc
variable {w wr w2 w3 : World} {size : Int} {zs : List Int} {n k : Nat} {os : List (List Int)} {ps : List Int} {vs : List Value} {LL : List Nat} {O P A2 O3 : Option Addr} {oc pc c2 c3 : Nat} {x : Int} {cs1 cs2 : Obj}
theorem rc_step (hN : (∀ k ∈ bo O, w.heap.size ≤ k) ∧ (∀ k ∈ bo P, w.heap.size ≤ k) ∧ (∀ k ∈ LL, w.heap.size ≤ k ∧ k < wr.heap.size) ∧ ∀ k ∈ bo P, k ∉ LL)
    (hO : Own wr 22 1 O os.length oc vs) (hI : Inn wr LL vs os) (hch : Chg [] w wr) (hP : Own wr 5 1 P ps.length pc (bv ps))
    (hc2 : Chg (bo P) (wr.alloc cs1) w2) (hn2 : ∀ k ∈ bo A2, k ∈ bo P ∨ ((wr.alloc cs1).heap.size ≤ k ∧ k < w2.heap.size)) :
    Own w2 22 1 O os.length oc vs ∧ Inn w2 LL vs os ∧ Chg [] w w2 ∧ (∀ k ∈ bo A2, w.heap.size ≤ k) ∧ (∀ k ∈ bo A2, k ∉ LL) ∧ (∀ k ∈ LL, w.heap.size ≤ k ∧ k < w2.heap.size) := by
  obtain ⟨h1, h2, h3, h4⟩ := hN
  have hsz : wr.heap.size + 1 ≤ w2.heap.size := by have := hc2.size; simpa using this
  have hsz0 := hch.size
  have ha : Chg [] wr (wr.alloc cs1) := (Chg.refl [] wr).alloc cs1
  refine ⟨(hO.chg ha (by simp)).chg hc2 (fun k hk hm => hO.own_ne hP (by decide) k hk hm), (hI.chg ha (by simp)).chg hc2 (fun k hk hm => h4 k hm hk), (hch.trans ha (by simp)).trans hc2 (fun y hy => .inr (h2 y hy)), ?_, ?_, fun k hk => ⟨(h3 k hk).1, by have := (h3 k hk).2; omega⟩⟩
  · intro k hk
    rcases hn2 k hk with h | h
    · exact h2 k h
    · have := h.1; simp at this; omega
  · intro k hk hl
    rcases hn2 k hk with h | h
    · exact h4 k h hl
    · have h5 := h.1; have := (h3 k hl).2; simp at h5; omega
theorem rc_go (hcl : Cut1 size zs k os ps) (hx : zs[k]? = some x) (hc1 : ¬ ((ps.length + 1 : Nat) : Int) = size) (hc2' : ¬ k + 1 = zs.length)
    (hN : (∀ k ∈ bo O, w.heap.size ≤ k) ∧ (∀ k ∈ bo P, w.heap.size ≤ k) ∧ (∀ k ∈ LL, w.heap.size ≤ k ∧ k < wr.heap.size) ∧ ∀ k ∈ bo P, k ∉ LL)
    (hO : Own wr 22 1 O os.length oc vs) (hI : Inn wr LL vs os) (hch : Chg [] w wr) (hP : Own wr 5 1 P ps.length pc (bv ps))
    (hc2 : Chg (bo P) (wr.alloc cs1) w2) (hn2 : ∀ k ∈ bo A2, k ∈ bo P ∨ ((wr.alloc cs1).heap.size ≤ k ∧ k < w2.heap.size)) (hw2 : Own w2 5 1 A2 (ps.length + 1) c2 (bv ps ++ [.int .u8 x])) (hk : k + 1 ≤ n) :
    RcInv w size zs n (.slice O os.length oc) (.slice A2 (ps.length + 1) c2) (.int .i64 ((k : Int) + 1)) w2 := by
  obtain ⟨g1, g2, g3, g4, g5, g6⟩ := rc_step hN hO hI hch hP hc2 hn2
  exact ⟨k + 1, os, ps ++ [x], vs, LL, O, A2, oc, ps.length + 1, c2, hk, by simp, rfl, rfl, by simp, g1, by simpa using hw2, g2, hcl.go hx hc1 hc2', g3, hN.1, g4, g6, g5⟩
theorem rc_close (hcl : Cut1 size zs k os ps) (hx : zs[k]? = some x) (hc1 : ((ps.length + 1 : Nat) : Int) = size ∨ k + 1 = zs.length)
    (hN : (∀ k ∈ bo O, w.heap.size ≤ k) ∧ (∀ k ∈ bo P, w.heap.size ≤ k) ∧ (∀ k ∈ LL, w.heap.size ≤ k ∧ k < wr.heap.size) ∧ ∀ k ∈ bo P, k ∉ LL)
    (hO : Own wr 22 1 O os.length oc vs) (hI : Inn wr LL vs os) (hch : Chg [] w wr) (hP : Own wr 5 1 P ps.length pc (bv ps))
    (hc2 : Chg (bo P) (wr.alloc cs1) w2) (hn2 : ∀ k ∈ bo A2, k ∈ bo P ∨ ((wr.alloc cs1).heap.size ≤ k ∧ k < w2.heap.size)) (hw2 : Own w2 5 1 A2 (ps.length + 1) c2 (bv ps ++ [.int .u8 x]))
    (hc3 : Chg (bo O) (w2.alloc cs2) w3) (hn3 : ∀ k ∈ bo O3, k ∈ bo O ∨ ((w2.alloc cs2).heap.size ≤ k ∧ k < w3.heap.size)) (hw3 : Own w3 22 1 O3 (os.length + 1) c3 (vs ++ [.slice A2 (ps.length + 1) c2])) (hk : k + 1 ≤ n) :
    RcInv w size zs n (.slice O3 (os.length + 1) c3) (.slice (some ⟨w3.heap.size, 0, none⟩) 0 0) (.int .i64 ((k : Int) + 1)) (w3.alloc (.cells #[] 5)) := by
  obtain ⟨g1, g2, g3, g4, g5, g6⟩ := rc_step hN hO hI hch hP hc2 hn2
  have hsz : w2.heap.size + 1 ≤ w3.heap.size := by have := hc3.size; simpa using this
  have hsz0 := g3.size
  have ha : Chg [] w2 (w2.alloc cs2) := (Chg.refl [] w2).alloc cs2
  have hb : Chg [] w3 (w3.alloc (.cells #[] 5)) := (Chg.refl [] w3).alloc _
  have hw2' : Own w3 5 1 A2 (ps.length + 1) c2 (bv ps ++ [.int .u8 x]) := (hw2.chg ha (by simp)).chg hc3 (fun k hk hm => g1.own_ne hw2 (by decide) k hm hk)
  have hI3 : Inn w3 LL vs os := (g2.chg ha (by simp)).chgT hc3 (fun k hl hm => by
    have gO := g1.chg ha (by simp)
    rcases gO.form with ⟨rfl, _⟩ | ⟨g, cur, rfl, hbk, _⟩
    · simp at hm
    · simp at hm; subst hm; exact ⟨_, cur, hbk, by decide⟩)
  refine ⟨k + 1, os ++ [ps ++ [x]], [], vs ++ [.slice A2 (ps.length + 1) c2], bo A2 ++ LL, O3, some ⟨w3.heap.size, 0, none⟩, c3, 0, 0, hk, by simp, by simp, rfl, rfl, ?_, ?_, ?_, hcl.close hx hc1, ((g3.trans ha (by simp)).trans hc3 (fun y hy => .inr (hN.1 y hy))).trans hb (by simp), ?_, ?_, ?_, ?_⟩
  · simpa using hw3.chg hb (by simp)
  · exact Own.lit w3 5 1 #[] 0 (by decide) rfl
  · have h1 : Inn w3 (bo A2 ++ LL) vs os := hI3.mono (fun k hk => List.mem_append.2 (.inr hk))
    have h2 := h1.snoc (A := A2) (c := c2) (x := ps ++ [x]) (by simpa using hw2') (fun k hk => List.mem_append.2 (.inl hk))
    simpa using h2.chg hb (by simp)
  · intro k hk
    rcases hn3 k hk with h | h
    · exact hN.1 k h
    · have := h.1; simp at this; omega
  · intro k hk; simp at hk; omega
  · intro k hk
    rcases List.mem_append.1 hk with h | h
    · exact ⟨g4 k h, by have := hw2.lt k h; simp; omega⟩
    · exact ⟨(g6 k h).1, by have := (g6 k h).2; simp; omega⟩
  · intro k hk hl
    simp at hk
    subst hk
    rcases List.mem_append.1 hl with h | h
    · have := hw2.lt _ h; omega
    · have := (g6 _ h).2; omega
end rc
set_option maxRecDepth 100000 in
set_option maxHeartbeats 3200000 in
theorem rchunks_any {A : Option Addr} {n c : Nat} {zs : List Int} {size : Int} {w : World} (hn : n ≤ 1073741824) (hrd : Rd w 1 A n c (bv zs)) :
    Calls Tryw.prog 12 #[.slice A n c, .int .i64 size] w (NewRows w (cutr (szOf size zs.length) zs)) := by
  have hl : zs.length = n := by have := hrd.1; simp at this; omega
  have HR := Lib.hid hrd
  have HL := Lib.hid hl
  clear hrd hl
  go_enter Tryw.func12, Try.ntmps12
  go_wp2
  go_loopw [5, 6, 7] (fun o p i wr => RcInv w size zs n o p i wr) (fun _ _ i _ => n - (intOf i).toNat)
  case atStart =>
    have h0 := (Chg.refl [] w).alloc (.cells #[] 22)
    have h1 := h0.alloc (.cells #[] 5)
    exact ⟨0, [], [], [], [], some ⟨w.heap.size, 0, none⟩, some ⟨w.heap.size + 1, 0, none⟩, 0, 0, 0, Nat.zero_le _, rfl, rfl, rfl, rfl, (Own.lit w 22 1 #[] 0 (by decide) rfl).chg ((Chg.refl [] _).alloc _) (by simp), by
      have := Own.lit (w.alloc (.cells #[] 22)) 5 1 #[] 0 (by decide) rfl
      simpa using this, ⟨rfl, fun i x hx => by simp at hx⟩, Cut1.start _ _, h1, by simp, by simp, by simp, by simp⟩
  case round => 
    obtain ⟨k, os, ps, vs, LL, O, P, oc, pl, pc, hk, rfl, rfl, rfl, hpl, hO, hP, hI, hcut, hchg, hnO, hnP, hnL, hPL⟩ := hrel
    have HPL := Lib.hid hpl
    by_cases hlt : k < n
    · obtain ⟨ad, x, rfl, hx, hcell⟩ := rd_byte (HR.out.chg hchg (by simp)) hlt
      have HX := Lib.hid hx
      have HC := Lib.hid hcut
      have HN := Lib.hid (show (∀ k ∈ bo O, w.heap.size ≤ k) ∧ (∀ k ∈ bo P, w.heap.size ≤ k) ∧ (∀ k ∈ LL, w.heap.size ≤ k ∧ k < wr.heap.size) ∧ ∀ k ∈ bo P, k ∉ LL from ⟨hnO, hnP, hnL, hPL⟩)
      have HO := Lib.hid hO
      have HP := Lib.hid hP
      have HI := Lib.hid hI
      have HCH := Lib.hid hchg
      have b1 : pl ≤ 1073741824 := by have := hcut.2.1; omega
      have b2 : os.length ≤ 1073741824 := by have := hcut.2.2.2.1; omega
      clear hx hcut hnO hnP hnL hPL hO hP hI hchg hpl
      by_cases hs : (pl : Int) + 1 = size
      · have q1 : ((pl : Int) + 1 == size) = true := by simpa using hs
        have HS := Lib.hid hs
        clear hs
        go_wp2_with (first
          | (at_builtin; refine wpList_app rfl _ _ rfl etyBytes rfl (HP.out.chg ((Chg.refl [] wr).alloc _) (by simp)) rfl (Own.lit wr 5 1 #[.int .u8 x] 1 (by decide) rfl).rd (one_int _ _) (by unfold maxLen; omega) (by omega) ?_; intro A2 c2 w2 hown2 hchg2 hnew2 _; have HO2 := Lib.hid ((HO.out.chg ((Chg.refl [] wr).alloc (.cells #[.int .u8 x] 5)) (by simp)).chg hchg2 (HO.out.own_ne HP.out (by decide))); have HW2 := Lib.hid hown2; have HN2 := Lib.hid hnew2; have HC2 := Lib.hid hchg2; clear hown2 hnew2 hchg2)
          | (at_builtin; refine wpList_app rfl _ _ rfl etyBytess rfl (HO2.out.chg ((Chg.refl [] w2).alloc _) (by simp)) rfl (Own.lit w2 22 1 #[.slice A2 (pl + 1) c2] 1 (by decide) rfl).rd (by simp [Value.oneCell']) (by unfold maxLen; omega) (by omega) ?_; intro O3 c3 w3 hown3 hchg3 hnew3 _; have HW3 := Lib.hid hown3; have HN3 := Lib.hid hnew3; have HC3 := Lib.hid hchg3; clear hown3 hnew3 hchg3))
        go_roundw
        case rel =>
          have hx := HX.out
          have hcl := HC.out
          have hpl := HPL.out
          subst hpl
          exact rc_close hcl hx (.inl (by have := HS.out; omega)) HN.out HO.out HI.out HCH.out HP.out HC2.out HN2.out HW2.out HC3.out HN3.out HW3.out (by omega)
        case measure => simp [intOf]; omega
      · have q1 : ((pl : Int) + 1 == size) = false := by simpa using hs
        have HS := Lib.hid hs
        clear hs
        by_cases hk1 : k + 1 = n
        · have q2 : ((k : Int) == (n : Int) - 1) = true := by simp; omega
          have HK := Lib.hid hk1
          clear hk1
          go_wp2_with (first
            | (at_builtin; refine wpList_app rfl _ _ rfl etyBytes rfl (HP.out.chg ((Chg.refl [] wr).alloc _) (by simp)) rfl (Own.lit wr 5 1 #[.int .u8 x] 1 (by decide) rfl).rd (one_int _ _) (by unfold maxLen; omega) (by omega) ?_; intro A2 c2 w2 hown2 hchg2 hnew2 _; have HO2 := Lib.hid ((HO.out.chg ((Chg.refl [] wr).alloc (.cells #[.int .u8 x] 5)) (by simp)).chg hchg2 (HO.out.own_ne HP.out (by decide))); have HW2 := Lib.hid hown2; have HN2 := Lib.hid hnew2; have HC2 := Lib.hid hchg2; clear hown2 hnew2 hchg2)
            | (at_builtin; refine wpList_app rfl _ _ rfl etyBytess rfl (HO2.out.chg ((Chg.refl [] w2).alloc _) (by simp)) rfl (Own.lit w2 22 1 #[.slice A2 (pl + 1) c2] 1 (by decide) rfl).rd (by simp [Value.oneCell']) (by unfold maxLen; omega) (by omega) ?_; intro O3 c3 w3 hown3 hchg3 hnew3 _; have HW3 := Lib.hid hown3; have HN3 := Lib.hid hnew3; have HC3 := Lib.hid hchg3; clear hown3 hnew3 hchg3))
          go_roundw
          case rel =>
            have hx := HX.out
            have hcl := HC.out
            have hpl := HPL.out
            subst hpl
            exact rc_close hcl hx (.inr (by have := HK.out; have := HL.out; omega)) HN.out HO.out HI.out HCH.out HP.out HC2.out HN2.out HW2.out HC3.out HN3.out HW3.out (by omega)
          case measure => simp [intOf]; omega
        · have q2 : ((k : Int) == (n : Int) - 1) = false := by simp; omega
          have HK := Lib.hid hk1
          clear hk1
          go_wp2_with (at_builtin; refine wpList_app rfl _ _ rfl etyBytes rfl (HP.out.chg ((Chg.refl [] wr).alloc _) (by simp)) rfl (Own.lit wr 5 1 #[.int .u8 x] 1 (by decide) rfl).rd (one_int _ _) (by unfold maxLen; omega) (by omega) ?_; intro A2 c2 w2 hown2 hchg2 hnew2 _; have HO2 := Lib.hid ((HO.out.chg ((Chg.refl [] wr).alloc (.cells #[.int .u8 x] 5)) (by simp)).chg hchg2 (HO.out.own_ne HP.out (by decide))); have HW2 := Lib.hid hown2; have HN2 := Lib.hid hnew2; have HC2 := Lib.hid hchg2; clear hown2 hnew2 hchg2)
          go_roundw
          case rel =>
            have hx := HX.out
            have hcl := HC.out
            have hpl := HPL.out
            subst hpl
            exact rc_go hcl hx (by have := HS.out; omega) (by have := HK.out; have := HL.out; omega) HN.out HO.out HI.out HCH.out HP.out HC2.out HN2.out HW2.out (by omega)
          case measure => simp [intOf]; omega
    · have HC := Lib.hid hcut
      have HO := Lib.hid hO
      have HI := Lib.hid hI
      have HCH := Lib.hid hchg
      have HN := Lib.hid (show (∀ k ∈ bo O, w.heap.size ≤ k) ∧ (∀ k ∈ LL, w.heap.size ≤ k ∧ k < wr.heap.size) from ⟨hnO, hnL⟩)
      clear hcut hnO hnP hnL hPL hO hP hI hchg hpl
      go_wp2
      go_ret
      have hd := HC.out.done (by have := HL.out; omega)
      subst hd
      exact ⟨O, oc, vs, LL, rfl, HO.out, HI.out, HCH.out, HN.out.1, fun k hk => (HN.out.2 k hk).1⟩
end Go.Proofs.Ytcdhmnefmbcmaaa.Ww
