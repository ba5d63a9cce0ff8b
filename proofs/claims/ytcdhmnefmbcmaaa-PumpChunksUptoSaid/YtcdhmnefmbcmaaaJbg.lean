/-
  The document's Chunks over the virtual program, and its plain law; no condition but what each law names.
  V's Chunks and what its closure answers; no condition but what each law names.
  V's Copy: what it asks of its sink; no condition but what each law names.
-/
import Derived.Test.YtcdhmnefmbcmaaaJbf
import Derived.Lib.AppendStr
namespace Go.Proofs.Ytcdhmnefmbcmaaa.Vw
open Go Go.RowKit
theorem und_bytessV : Tryv.prog.underlying 29 = some (.slice 22) := (Tryv.und _).trans Try.underlying29
theorem etyBytess : Ety Tryv.prog 29 22 1 24 (.slice none 0 0) := .mk' und_bytessV (by kernel_rfl) rfl (by decide)
/-- each of the rows is owned and reads as its list; all their blocks are in L -/
def Inn (w : World) (L : List Nat) (vs : List Value) (ws : List (List Int)) : Prop :=
  vs.length = ws.length ∧ ∀ (i : Nat) (x : List Int), ws[i]? = some x → ∃ A c, vs[i]? = some (.slice A x.length c) ∧ Own w 5 1 A x.length c (bv x) ∧ ∀ k ∈ bo A, k ∈ L
theorem Inn.chg {w w' : World} {L M : List Nat} {vs : List Value} {ws : List (List Int)} (h : Inn w L vs ws) (hc : Chg M w w') (hn : ∀ k ∈ L, k ∉ M) : Inn w' L vs ws :=
  ⟨h.1, fun i x hx => by
    obtain ⟨A, c, h1, h2, h3⟩ := h.2 i x hx
    exact ⟨A, c, h1, h2.chg hc (fun k hk hm => hn k (h3 k hk) hm), h3⟩⟩
theorem Inn.chgT {w w' : World} {L M : List Nat} {vs : List Value} {ws : List (List Int)} (h : Inn w L vs ws) (hc : Chg M w w') (hn : ∀ k ∈ L, k ∈ M → ∃ t cs, Blk w k t cs ∧ t ≠ 5) : Inn w' L vs ws :=
  ⟨h.1, fun i x hx => by
    obtain ⟨A, c, h1, h2, h3⟩ := h.2 i x hx
    refine ⟨A, c, h1, h2.chg hc (fun k hk hm => ?_), h3⟩
    obtain ⟨t, cs, hb, ht⟩ := hn k (h3 k hk) hm
    exact h2.blk_ne hb ht k hk rfl⟩
theorem Inn.mono {w : World} {L M : List Nat} {vs : List Value} {ws : List (List Int)} (h : Inn w L vs ws) (hs : ∀ k ∈ L, k ∈ M) : Inn w M vs ws :=
  ⟨h.1, fun i x hx => by obtain ⟨A, c, h1, h2, h3⟩ := h.2 i x hx; exact ⟨A, c, h1, h2, fun k hk => hs k (h3 k hk)⟩⟩
theorem Inn.snoc {w : World} {L : List Nat} {vs : List Value} {ws : List (List Int)} {A : Option Addr} {c : Nat} {x : List Int} (h : Inn w L vs ws) (ho : Own w 5 1 A x.length c (bv x)) (hk : ∀ k ∈ bo A, k ∈ L) :
    Inn w L (vs ++ [.slice A x.length c]) (ws ++ [x]) := by
  refine ⟨by simp [h.1], fun i y hy => ?_⟩
  by_cases hi : i < ws.length
  · rw [List.getElem?_append_left hi] at hy
    obtain ⟨A', c', h1, h2, h3⟩ := h.2 i y hy
    exact ⟨A', c', by rw [List.getElem?_append_left (by rw [h.1]; exact hi)]; exact h1, h2, h3⟩
  · rw [List.getElem?_append_right (by omega)] at hy
    by_cases h0 : i - ws.length = 0
    · rw [h0] at hy
      simp at hy
      subst hy
      refine ⟨A, c, ?_, ho, hk⟩
      rw [List.getElem?_append_right (by rw [h.1]; omega), h.1, h0]
      rfl
    · rw [List.getElem?_eq_none (by simp; omega)] at hy
      cases hy
/-- the pieces of a list, d long each (d + 1 here, so that it ends) -/
def cutr (d : Nat) (l : List Int) : List (List Int) :=
  match l with
  | [] => []
  | x :: r => ((x :: r).take (d + 1)) :: cutr d (r.drop d)
  termination_by l.length
  decreasing_by simp; omega
theorem cutr_nil (d : Nat) : cutr d [] = [] := by unfold cutr; rfl
theorem cutr_cut (d : Nat) (l : List Int) (h : l ≠ []) : cutr d l = l.take (d + 1) :: cutr d (l.drop (d + 1)) := by
  cases l with
  | nil => exact absurd rfl h
  | cons x r => rw [cutr]; rfl
theorem cutr_full (d : Nat) (p r : List Int) (h : p.length = d + 1) : cutr d (p ++ r) = p :: cutr d r := by
  rw [cutr_cut d _ (by intro e; rw [List.append_eq_nil_iff] at e; rw [e.1] at h; simp at h)]
  rw [List.take_append_of_le_length (by omega), List.take_of_length_le (by omega), List.drop_append_of_le_length (by omega), List.drop_of_length_le (by omega), List.nil_append]
theorem cutr_last (d : Nat) (p : List Int) (h0 : p ≠ []) (h : p.length ≤ d + 1) : cutr d p = [p] := by
  rw [cutr_cut d p h0, List.take_of_length_le h, List.drop_of_length_le h, cutr_nil]
theorem cutr_flat (d : Nat) : ∀ (n : Nat) (l : List Int), l.length = n → (cutr d l).flatten = l := by
  intro n
  induction n using Nat.strongRecOn with
  | _ n ih =>
    intro l hl
    by_cases h : l = []
    · subst h; rw [cutr_nil]; rfl
    · rw [cutr_cut d l h, List.flatten_cons, ih (l.drop (d + 1)).length (by
        have : 0 < l.length := List.length_pos_iff.2 h
        simp; omega) _ rfl, List.take_append_drop]
theorem cutr_pos (d : Nat) : ∀ (n : Nat) (l : List Int), l.length = n → ∀ p ∈ cutr d l, 0 < p.length ∧ p.length ≤ n := by
  intro n
  induction n using Nat.strongRecOn with
  | _ n ih =>
    intro l hl p hp
    by_cases h : l = []
    · subst h; rw [cutr_nil] at hp; cases hp
    · have h0 : 0 < l.length := List.length_pos_iff.2 h
      rw [cutr_cut d l h] at hp
      rcases List.mem_cons.1 hp with rfl | hp
      · simp; omega
      · have := ih (l.drop (d + 1)).length (by simp; omega) _ rfl p hp
        simp at this; omega
/-- the size that is meant -/
def szOf (size : Int) (n : Nat) : Nat := if size < 1 then n - 1 else size.toNat - 1
/-- where the document's loop stands -/
def Cut1 (size : Int) (zs : List Int) (k : Nat) (os : List (List Int)) (p : List Int) : Prop :=
  cutr (szOf size zs.length) zs = os ++ cutr (szOf size zs.length) (p ++ zs.drop k) ∧ p.length ≤ k ∧ p.length ≤ szOf size zs.length ∧ os.length ≤ k ∧ (k = zs.length → p = [])
theorem Cut1.start (size : Int) (zs : List Int) : Cut1 size zs 0 [] [] := ⟨rfl, Nat.le_refl _, Nat.zero_le _, Nat.le_refl _, fun _ => rfl⟩
theorem Cut1.close {size : Int} {zs : List Int} {k : Nat} {os : List (List Int)} {p : List Int} {x : Int} (h : Cut1 size zs k os p) (hx : zs[k]? = some x)
    (hc : ((p.length + 1 : Nat) : Int) = size ∨ k + 1 = zs.length) : Cut1 size zs (k + 1) (os ++ [p ++ [x]]) [] := by
  obtain ⟨h1, h2, h3, h4, _⟩ := h
  have hk : k < zs.length := (List.getElem?_eq_some_iff.1 hx).1
  have hd : zs.drop k = x :: zs.drop (k + 1) := by rw [List.drop_eq_getElem_cons hk]; congr 1; exact (List.getElem?_eq_some_iff.1 hx).2
  refine ⟨?_, Nat.zero_le _, Nat.zero_le _, by simp; omega, fun _ => rfl⟩
  rw [h1, hd, show p ++ x :: zs.drop (k + 1) = (p ++ [x]) ++ zs.drop (k + 1) by simp, List.nil_append, List.append_assoc os]
  refine congrArg (os ++ ·) ?_
  show cutr _ ((p ++ [x]) ++ zs.drop (k + 1)) = [p ++ [x]] ++ _
  by_cases hl : (p ++ [x]).length = szOf size zs.length + 1
  · rw [cutr_full _ _ _ hl]; rfl
  · have he : k + 1 = zs.length := by
      rcases hc with hc | hc
      · exfalso; apply hl; unfold szOf; simp; split <;> omega
      · exact hc
    rw [List.drop_of_length_le (by omega), List.append_nil, cutr_nil]
    exact cutr_last _ _ (by simp) (by simp at hl ⊢; omega)
theorem Cut1.go {size : Int} {zs : List Int} {k : Nat} {os : List (List Int)} {p : List Int} {x : Int} (h : Cut1 size zs k os p) (hx : zs[k]? = some x)
    (hc : ¬ ((p.length + 1 : Nat) : Int) = size) (hc2 : ¬ k + 1 = zs.length) : Cut1 size zs (k + 1) os (p ++ [x]) := by
  obtain ⟨h1, h2, h3, h4, _⟩ := h
  have hk : k < zs.length := (List.getElem?_eq_some_iff.1 hx).1
  have hd : zs.drop k = x :: zs.drop (k + 1) := by rw [List.drop_eq_getElem_cons hk]; congr 1; exact (List.getElem?_eq_some_iff.1 hx).2
  refine ⟨?_, by simp; omega, ?_, by omega, fun e => absurd e hc2⟩
  · rw [h1, hd, show p ++ x :: zs.drop (k + 1) = (p ++ [x]) ++ zs.drop (k + 1) by simp]
  · unfold szOf at h3 ⊢
    simp
    split at h3 <;> rename_i hs
    · rw [if_pos hs]; omega
    · rw [if_neg hs]; omega
theorem Cut1.done {size : Int} {zs : List Int} {k : Nat} {os : List (List Int)} {p : List Int} (h : Cut1 size zs k os p) (hk : k = zs.length) : os = cutr (szOf size zs.length) zs := by
  obtain ⟨h1, _, _, _, h5⟩ := h
  have := h5 hk
  subst this
  rw [h1, hk, List.drop_length, List.append_nil, cutr_nil, List.append_nil]
/-- rows in new memory are told -/
def NewRows (w : World) (ws : List (List Int)) (e : Ending) (w' : World) : Prop :=
  ∃ A c vs L, e = .returned (.slice A ws.length c) ∧ Own w' 22 1 A ws.length c vs ∧ Inn w' L vs ws ∧ Chg [] w w' ∧ (∀ k ∈ bo A, w.heap.size ≤ k) ∧ ∀ k ∈ L, w.heap.size ≤ k
/-- what the document's loop holds -/
def RcInv (w : World) (size : Int) (zs : List Int) (n : Nat) (o p i : Value) (wr : World) : Prop :=
  ∃ (k : Nat) (os : List (List Int)) (ps : List Int) (vs : List Value) (LL : List Nat) (O P : Option Addr) (oc pl pc : Nat), k ≤ n ∧ i = .int .i64 k ∧ o = .slice O os.length oc ∧ p = .slice P pl pc ∧
    pl = ps.length ∧ Own wr 22 1 O os.length oc vs ∧ Own wr 5 1 P pl pc (bv ps) ∧ Inn wr LL vs os ∧ Cut1 size zs k os ps ∧ Chg [] w wr ∧ (∀ k ∈ bo O, w.heap.size ≤ k) ∧ (∀ k ∈ bo P, w.heap.size ≤ k) ∧ (∀ k ∈ LL, w.heap.size ≤ k ∧ k < wr.heap.size) ∧ ∀ k ∈ bo P, k ∉ LL
section rc
variable {w wr w2 w3 : World} {size : Int} {zs : List Int} {n k : Nat} {os : List (List Int)} {ps : List Int} {vs : List Value} {LL : List Nat} {O P A2 O3 : Option Addr} {oc pc c2 c3 : Nat} {x : Int} {cs1 cs2 : Obj}
theorem rc_step (hN : (∀ k ∈ bo O, w.heap.size ≤ k) ∧ (∀ k ∈ bo P, w.heap.size ≤ k) ∧ (∀ k ∈ LL, w.heap.size ≤ k ∧ k < wr.heap.size) ∧ ∀ k ∈ bo P, k ∉ LL)
    (hO : Own wr 22 1 O os.length oc vs) (hI : Inn wr LL vs os) (hch : Chg [] w wr) (hP : Own wr 5 1 P ps.length pc (bv ps))
    (hc2 : Chg (bo P) (wr.alloc cs1) w2) (hn2 : ∀ k ∈ bo A2, k ∈ bo P ∨ ((wr.alloc cs1).heap.size ≤ k ∧ k < w2.heap.size)) :
    Own w2 22 1 O os.length oc vs ∧ Inn w2 LL vs os ∧ Chg [] w w2 ∧ (∀ k ∈ bo A2, w.heap.size ≤ k) ∧ (∀ k ∈ bo A2, k ∉ LL) ∧ (∀ k ∈ LL, w.heap.size ≤ k ∧ k < w2.heap.size) := by
  obtain ⟨h1, h2, h3, h4⟩ := hN
  have hsz : wr.heap.size + 1 ≤ w2.heap.size := by have := hc2.size; simpa using this
  have hsz0 := hch.size
  have ha : Chg [] wr (wr.alloc cs1) := (Chg.refl [] wr).alloc cs1
  refine ⟨(hO.chg ha (by simp)).chg hc2 (fun k hk hm => hO.own_ne hP (by decide) k hk hm), (hI.chg ha (by simp)).chg hc2 (fun k hk hm => h4 k hm hk), (hch.trans ha (by simp)).trans hc2 (fun y hy => .inr (h2 y hy)), ?_, ?_, fun k hk => ⟨(h3 k hk).1, by have := (h3 k hk).2; omega⟩⟩
  · intro k hk
    rcases hn2 k hk with h | h
    · exact h2 k h
    · have := h.1; simp at this; omega
  · intro k hk hl
    rcases hn2 k hk with h | h
    · exact h4 k h hl
    · have h5 := h.1; have := (h3 k hl).2; simp at h5; omega
theorem rc_go (hcl : Cut1 size zs k os ps) (hx : zs[k]? = some x) (hc1 : ¬ ((ps.length + 1 : Nat) : Int) = size) (hc2' : ¬ k + 1 = zs.length)
    (hN : (∀ k ∈ bo O, w.heap.size ≤ k) ∧ (∀ k ∈ bo P, w.heap.size ≤ k) ∧ (∀ k ∈ LL, w.heap.size ≤ k ∧ k < wr.heap.size) ∧ ∀ k ∈ bo P, k ∉ LL)
    (hO : Own wr 22 1 O os.length oc vs) (hI : Inn wr LL vs os) (hch : Chg [] w wr) (hP : Own wr 5 1 P ps.length pc (bv ps))
    (hc2 : Chg (bo P) (wr.alloc cs1) w2) (hn2 : ∀ k ∈ bo A2, k ∈ bo P ∨ ((wr.alloc cs1).heap.size ≤ k ∧ k < w2.heap.size)) (hw2 : Own w2 5 1 A2 (ps.length + 1) c2 (bv ps ++ [.int .u8 x])) (hk : k + 1 ≤ n) :
    RcInv w size zs n (.slice O os.length oc) (.slice A2 (ps.length + 1) c2) (.int .i64 ((k : Int) + 1)) w2 := by
  obtain ⟨g1, g2, g3, g4, g5, g6⟩ := rc_step hN hO hI hch hP hc2 hn2
  exact ⟨k + 1, os, ps ++ [x], vs, LL, O, A2, oc, ps.length + 1, c2, hk, by simp, rfl, rfl, by simp, g1, by simpa using hw2, g2, hcl.go hx hc1 hc2', g3, hN.1, g4, g6, g5⟩
theorem rc_close (hcl : Cut1 size zs k os ps) (hx : zs[k]? = some x) (hc1 : ((ps.length + 1 : Nat) : Int) = size ∨ k + 1 = zs.length)
    (hN : (∀ k ∈ bo O, w.heap.size ≤ k) ∧ (∀ k ∈ bo P, w.heap.size ≤ k) ∧ (∀ k ∈ LL, w.heap.size ≤ k ∧ k < wr.heap.size) ∧ ∀ k ∈ bo P, k ∉ LL)
    (hO : Own wr 22 1 O os.length oc vs) (hI : Inn wr LL vs os) (hch : Chg [] w wr) (hP : Own wr 5 1 P ps.length pc (bv ps))
    (hc2 : Chg (bo P) (wr.alloc cs1) w2) (hn2 : ∀ k ∈ bo A2, k ∈ bo P ∨ ((wr.alloc cs1).heap.size ≤ k ∧ k < w2.heap.size)) (hw2 : Own w2 5 1 A2 (ps.length + 1) c2 (bv ps ++ [.int .u8 x]))
    (hc3 : Chg (bo O) (w2.alloc cs2) w3) (hn3 : ∀ k ∈ bo O3, k ∈ bo O ∨ ((w2.alloc cs2).heap.size ≤ k ∧ k < w3.heap.size)) (hw3 : Own w3 22 1 O3 (os.length + 1) c3 (vs ++ [.slice A2 (ps.length + 1) c2])) (hk : k + 1 ≤ n) :
    RcInv w size zs n (.slice O3 (os.length + 1) c3) (.slice (some ⟨w3.heap.size, 0, none⟩) 0 0) (.int .i64 ((k : Int) + 1)) (w3.alloc (.cells #[] 5)) := by
  obtain ⟨g1, g2, g3, g4, g5, g6⟩ := rc_step hN hO hI hch hP hc2 hn2
  have hsz : w2.heap.size + 1 ≤ w3.heap.size := by have := hc3.size; simpa using this
  have hsz0 := g3.size
  have ha : Chg [] w2 (w2.alloc cs2) := (Chg.refl [] w2).alloc cs2
  have hb : Chg [] w3 (w3.alloc (.cells #[] 5)) := (Chg.refl [] w3).alloc _
  have hw2' : Own w3 5 1 A2 (ps.length + 1) c2 (bv ps ++ [.int .u8 x]) := (hw2.chg ha (by simp)).chg hc3 (fun k hk hm => g1.own_ne hw2 (by decide) k hm hk)
  have hI3 : Inn w3 LL vs os := (g2.chg ha (by simp)).chgT hc3 (fun k hl hm => by
    have gO := g1.chg ha (by simp)
    rcases gO.form with ⟨rfl, _⟩ | ⟨g, cur, rfl, hbk, _⟩
    · simp at hm
    · simp at hm; subst hm; exact ⟨_, cur, hbk, by decide⟩)
  refine ⟨k + 1, os ++ [ps ++ [x]], [], vs ++ [.slice A2 (ps.length + 1) c2], bo A2 ++ LL, O3, some ⟨w3.heap.size, 0, none⟩, c3, 0, 0, hk, by simp, by simp, rfl, rfl, ?_, ?_, ?_, hcl.close hx hc1, ((g3.trans ha (by simp)).trans hc3 (fun y hy => .inr (hN.1 y hy))).trans hb (by simp), ?_, ?_, ?_, ?_⟩
  · simpa using hw3.chg hb (by simp)
  · exact Own.lit w3 5 1 #[] 0 (by decide) rfl
  · have h1 : Inn w3 (bo A2 ++ LL) vs os := hI3.mono (fun k hk => List.mem_append.2 (.inr hk))
    have h2 := h1.snoc (A := A2) (c := c2) (x := ps ++ [x]) (by simpa using hw2') (fun k hk => List.mem_append.2 (.inl hk))
    simpa using h2.chg hb (by simp)
  · intro k hk
    rcases hn3 k hk with h | h
    · exact hN.1 k h
    · have := h.1; simp at this; omega
  · intro k hk; simp at hk; omega
  · intro k hk
    rcases List.mem_append.1 hk with h | h
    · exact ⟨g4 k h, by have := hw2.lt k h; simp; omega⟩
    · exact ⟨(g6 k h).1, by have := (g6 k h).2; simp; omega⟩
  · intro k hk hl
    simp at hk
    subst hk
    rcases List.mem_append.1 hl with h | h
    · have := hw2.lt _ h; omega
    · have := (g6 _ h).2; omega
end rc
set_option maxRecDepth 100000 in
set_option maxHeartbeats 3200000 in
theorem rchunks_any {A : Option Addr} {n c : Nat} {zs : List Int} {size : Int} {w : World} (hn : n ≤ 1073741824) (hrd : Rd w 1 A n c (bv zs)) :
    Calls Tryv.prog 12 #[.slice A n c, .int .i64 size] w (NewRows w (cutr (szOf size zs.length) zs)) := by
  have hl : zs.length = n := by have := hrd.1; simp at this; omega
  have HR := Lib.hid hrd
  have HL := Lib.hid hl
  clear hrd hl
  go_enter Tryv.func12, Try.ntmps12
  go_wp2
  go_loopw [5, 6, 7] (fun o p i wr => RcInv w size zs n o p i wr) (fun _ _ i _ => n - (intOf i).toNat)
  case atStart =>
    have h0 := (Chg.refl [] w).alloc (.cells #[] 22)
    have h1 := h0.alloc (.cells #[] 5)
    exact ⟨0, [], [], [], [], some ⟨w.heap.size, 0, none⟩, some ⟨w.heap.size + 1, 0, none⟩, 0, 0, 0, Nat.zero_le _, rfl, rfl, rfl, rfl, (Own.lit w 22 1 #[] 0 (by decide) rfl).chg ((Chg.refl [] _).alloc _) (by simp), by
      have := Own.lit (w.alloc (.cells #[] 22)) 5 1 #[] 0 (by decide) rfl
      simpa using this, ⟨rfl, fun i x hx => by simp at hx⟩, Cut1.start _ _, h1, by simp, by simp, by simp, by simp⟩
  case round => 
    obtain ⟨k, os, ps, vs, LL, O, P, oc, pl, pc, hk, rfl, rfl, rfl, hpl, hO, hP, hI, hcut, hchg, hnO, hnP, hnL, hPL⟩ := hrel
    have HPL := Lib.hid hpl
    by_cases hlt : k < n
    · obtain ⟨ad, x, rfl, hx, hcell⟩ := rd_byte (HR.out.chg hchg (by simp)) hlt
      have HX := Lib.hid hx
      have HC := Lib.hid hcut
      have HN := Lib.hid (show (∀ k ∈ bo O, w.heap.size ≤ k) ∧ (∀ k ∈ bo P, w.heap.size ≤ k) ∧ (∀ k ∈ LL, w.heap.size ≤ k ∧ k < wr.heap.size) ∧ ∀ k ∈ bo P, k ∉ LL from ⟨hnO, hnP, hnL, hPL⟩)
      have HO := Lib.hid hO
      have HP := Lib.hid hP
      have HI := Lib.hid hI
      have HCH := Lib.hid hchg
      have b1 : pl ≤ 1073741824 := by have := hcut.2.1; omega
      have b2 : os.length ≤ 1073741824 := by have := hcut.2.2.2.1; omega
      clear hx hcut hnO hnP hnL hPL hO hP hI hchg hpl
      by_cases hs : (pl : Int) + 1 = size
      · have q1 : ((pl : Int) + 1 == size) = true := by simpa using hs
        have HS := Lib.hid hs
        clear hs
        go_wp2_with (first
          | (at_builtin; refine wpList_app rfl _ _ rfl etyBytes rfl (HP.out.chg ((Chg.refl [] wr).alloc _) (by simp)) rfl (Own.lit wr 5 1 #[.int .u8 x] 1 (by decide) rfl).rd (one_int _ _) (by unfold maxLen; omega) (by omega) ?_; intro A2 c2 w2 hown2 hchg2 hnew2 _; have HO2 := Lib.hid ((HO.out.chg ((Chg.refl [] wr).alloc (.cells #[.int .u8 x] 5)) (by simp)).chg hchg2 (HO.out.own_ne HP.out (by decide))); have HW2 := Lib.hid hown2; have HN2 := Lib.hid hnew2; have HC2 := Lib.hid hchg2; clear hown2 hnew2 hchg2)
          | (at_builtin; refine wpList_app rfl _ _ rfl etyBytess rfl (HO2.out.chg ((Chg.refl [] w2).alloc _) (by simp)) rfl (Own.lit w2 22 1 #[.slice A2 (pl + 1) c2] 1 (by decide) rfl).rd (by simp [Value.oneCell']) (by unfold maxLen; omega) (by omega) ?_; intro O3 c3 w3 hown3 hchg3 hnew3 _; have HW3 := Lib.hid hown3; have HN3 := Lib.hid hnew3; have HC3 := Lib.hid hchg3; clear hown3 hnew3 hchg3))
        go_roundw
        case rel =>
          have hx := HX.out
          have hcl := HC.out
          have hpl := HPL.out
          subst hpl
          exact rc_close hcl hx (.inl (by have := HS.out; omega)) HN.out HO.out HI.out HCH.out HP.out HC2.out HN2.out HW2.out HC3.out HN3.out HW3.out (by omega)
        case measure => simp [intOf]; omega
      · have q1 : ((pl : Int) + 1 == size) = false := by simpa using hs
        have HS := Lib.hid hs
        clear hs
        by_cases hk1 : k + 1 = n
        · have q2 : ((k : Int) == (n : Int) - 1) = true := by simp; omega
          have HK := Lib.hid hk1
          clear hk1
          go_wp2_with (first
            | (at_builtin; refine wpList_app rfl _ _ rfl etyBytes rfl (HP.out.chg ((Chg.refl [] wr).alloc _) (by simp)) rfl (Own.lit wr 5 1 #[.int .u8 x] 1 (by decide) rfl).rd (one_int _ _) (by unfold maxLen; omega) (by omega) ?_; intro A2 c2 w2 hown2 hchg2 hnew2 _; have HO2 := Lib.hid ((HO.out.chg ((Chg.refl [] wr).alloc (.cells #[.int .u8 x] 5)) (by simp)).chg hchg2 (HO.out.own_ne HP.out (by decide))); have HW2 := Lib.hid hown2; have HN2 := Lib.hid hnew2; have HC2 := Lib.hid hchg2; clear hown2 hnew2 hchg2)
            | (at_builtin; refine wpList_app rfl _ _ rfl etyBytess rfl (HO2.out.chg ((Chg.refl [] w2).alloc _) (by simp)) rfl (Own.lit w2 22 1 #[.slice A2 (pl + 1) c2] 1 (by decide) rfl).rd (by simp [Value.oneCell']) (by unfold maxLen; omega) (by omega) ?_; intro O3 c3 w3 hown3 hchg3 hnew3 _; have HW3 := Lib.hid hown3; have HN3 := Lib.hid hnew3; have HC3 := Lib.hid hchg3; clear hown3 hnew3 hchg3))
          go_roundw
          case rel =>
            have hx := HX.out
            have hcl := HC.out
            have hpl := HPL.out
            subst hpl
            exact rc_close hcl hx (.inr (by have := HK.out; have := HL.out; omega)) HN.out HO.out HI.out HCH.out HP.out HC2.out HN2.out HW2.out HC3.out HN3.out HW3.out (by omega)
          case measure => simp [intOf]; omega
        · have q2 : ((k : Int) == (n : Int) - 1) = false := by simp; omega
          have HK := Lib.hid hk1
          clear hk1
          go_wp2_with (at_builtin; refine wpList_app rfl _ _ rfl etyBytes rfl (HP.out.chg ((Chg.refl [] wr).alloc _) (by simp)) rfl (Own.lit wr 5 1 #[.int .u8 x] 1 (by decide) rfl).rd (one_int _ _) (by unfold maxLen; omega) (by omega) ?_; intro A2 c2 w2 hown2 hchg2 hnew2 _; have HO2 := Lib.hid ((HO.out.chg ((Chg.refl [] wr).alloc (.cells #[.int .u8 x] 5)) (by simp)).chg hchg2 (HO.out.own_ne HP.out (by decide))); have HW2 := Lib.hid hown2; have HN2 := Lib.hid hnew2; have HC2 := Lib.hid hchg2; clear hown2 hnew2 hchg2)
          go_roundw
          case rel =>
            have hx := HX.out
            have hcl := HC.out
            have hpl := HPL.out
            subst hpl
            exact rc_go hcl hx (by have := HS.out; omega) (by have := HK.out; have := HL.out; omega) HN.out HO.out HI.out HCH.out HP.out HC2.out HN2.out HW2.out (by omega)
          case measure => simp [intOf]; omega
    · have HC := Lib.hid hcut
      have HO := Lib.hid hO
      have HI := Lib.hid hI
      have HCH := Lib.hid hchg
      have HN := Lib.hid (show (∀ k ∈ bo O, w.heap.size ≤ k) ∧ (∀ k ∈ LL, w.heap.size ≤ k ∧ k < wr.heap.size) from ⟨hnO, hnL⟩)
      clear hcut hnO hnP hnL hPL hO hP hI hchg hpl
      go_wp2
      go_ret
      have hd := HC.out.done (by have := HL.out; omega)
      subst hd
      exact ⟨O, oc, vs, LL, rfl, HO.out, HI.out, HCH.out, HN.out.1, fun k hk => (HN.out.2 k hk).1⟩
end Go.Proofs.Ytcdhmnefmbcmaaa.Vw

namespace Go.Proofs.Ytcdhmnefmbcmaaa.Vw
open Go Go.RowKit
theorem Tryv.ntmps9 : Tryv.f9.ntmps = 20 := rfl
/-- what Chunks gives: a function that holds the data and the size -/
def chunkV (zs : List Int) (size : Int) : Value := .func (.func 22) #[] #[.string (strOfNums zs), .int .i64 ((szOf size zs.length + 1 : Nat) : Int)]
theorem chunkV_eq {zs : List Int} {size d : Int} {n : Nat} (hl : zs.length = n) (h : d = ((szOf size n + 1 : Nat) : Int)) : Ending.returned (.func (.func 22) #[] #[.string (strOfNums zs), .int .i64 d]) = .returned (chunkV zs size) := by subst hl; subst h; rfl
set_option maxRecDepth 100000 in
set_option maxHeartbeats 3200000 in
theorem chunks_any {A : Option Addr} {n c : Nat} {zs : List Int} {size : Int} {w : World} (hn : n ≤ 1073741824) (hrd : Rd w 1 A n c (bv zs)) (hb : ∀ x ∈ zs, 0 ≤ x ∧ x ≤ 255) (hs : size ≤ 9223372036854775807) :
    Calls Tryv.prog 9 #[.slice A n c, .int .i64 size] w fun e w' => e = .returned (chunkV zs size) ∧ w' = w := by
  have hl : zs.length = n := by have := hrd.1; simp at this; omega
  have h1 := conv_rd hrd
  have hsz : (strOfNums zs).size = n := by rw [strOfNums_size]; exact hl
  have i1 : (n : Int) ≤ 1073741824 := by omega
  have HR := Lib.hid hrd
  have HL := Lib.hid hl
  have HB := Lib.hid hb
  clear hrd hl hb
  go_enter Tryv.func9, Tryv.ntmps9
  go_wp2
  unfold Tryv.loop9
  go_loopw [11] (fun i wr => ∃ (k : Nat), k ≤ n ∧ i = .int .i64 k ∧ wr = w) (fun i _ => n - (intOf i).toNat)
  case atStart => exact ⟨0, Nat.zero_le _, rfl, rfl⟩
  case round =>
    obtain ⟨k, hk, rfl, rfl⟩ := hrel
    by_cases hlt : k < n
    · obtain ⟨ad, x, rfl, hx, hcell⟩ := rd_byte HR.out hlt
      have hx2 := HB.out x (List.mem_of_getElem? hx)
      have q1 : decide (0 ≤ x) = true := by simpa using hx2.1
      have q2 : decide (x ≤ 255) = true := by simpa using hx2.2
      have HX := Lib.hid hx2
      clear hx hx2
      go_wp2
      go_roundw
      case rel => exact ⟨k + 1, by omega, by go_num, trivial⟩
      case measure => simp [intOf]; omega
    · have hkn : k = n := by omega
      by_cases hs1 : size < 1
      · have q1 : decide (size < 1) = true := by simpa using hs1
        have HS := Lib.hid hs1
        by_cases hn0 : n < 1
        · have HN0 := Lib.hid hn0
          go_wp2
          unfold Tryv.post9
          go_wp2
          all_goals (go_ret; exact ⟨chunkV_eq HL.out (by unfold szOf; have := HS.out; rw [if_pos this]; have := HN0.out; omega), rfl⟩)
        · have HN0 := Lib.hid hn0
          go_wp2
          unfold Tryv.post9
          go_wp2
          all_goals (go_ret; exact ⟨chunkV_eq HL.out (by unfold szOf; have := HS.out; rw [if_pos this]; have := HN0.out; omega), rfl⟩)
      · have q1 : decide (size < 1) = false := by simpa using hs1
        have HS := Lib.hid hs1
        go_wp2
        unfold Tryv.post9
        go_wp2
        all_goals (go_ret; exact ⟨chunkV_eq HL.out (by unfold szOf; have := HS.out; rw [if_neg (show ¬ size < 1 by omega)]; omega), rfl⟩)
end Go.Proofs.Ytcdhmnefmbcmaaa.Vw

namespace Go.Proofs.Ytcdhmnefmbcmaaa.Vw
open Go Go.RowKit
theorem und_strV : Tryv.prog.underlying 9 = some .string := (Tryv.und _).trans Try.underlying9
theorem strCells_nums {ys : List Int} (hb : ∀ x ∈ ys, 0 ≤ x ∧ x ≤ 255) : Lib.strCells (strOfNums ys) = bv ys := by
  unfold Lib.strCells
  rw [strOfNums_data, List.map_map]
  apply List.map_congr_left
  intro x hx
  have := hb x hx
  simp
  omega
theorem strOfNums_extract (zs : List Int) (i j : Nat) : (strOfNums zs).extract i j = strOfNums ((zs.drop i).take (j - i)) := by
  apply ByteArray.ext
  apply Array.ext'
  rw [ByteArray.data_extract, Array.toList_extract, strOfNums_data, strOfNums_data, List.extract_eq_take_drop, List.map_take, List.map_drop]
theorem wpList_appS {w : World} {ops : Array Oper} {rest : List Oper} {o : Oper} {a : Act} {Q : Exit → Act → World → Prop} (hgd : o.guard = none) (s x : Operand)
    (ho : o.op = .call { callee := .builtin .append, args := #[s, x], argTypes := #[22, 9] }) {ys : List Int} (hb : ∀ x ∈ ys, 0 ≤ x ∧ x ≤ 255)
    (hs : a.eval s = .slice none 0 0) (hx : a.eval x = .string (strOfNums ys)) (hl : ys.length ≤ 1073741824)
    (h : ∀ A' c' w', Own w' 5 1 A' ys.length c' (bv ys) → Chg [] w w' → (∀ k ∈ bo A', w.heap.size ≤ k) → wpList Tryv.prog ops Q rest (a.put o.dst (.slice A' ys.length c')) w') :
    wpList Tryv.prog ops Q (o :: rest) a w := by
  have hi : ∃ ie, Tryv.prog.info? 5 = some ie ∧ ie.zero = some (.int .u8 0) ∧ ie.size = 1 ∧ ie.bytes = 1 := by
    have h : (Tryv.prog.info? 5).map (fun i => (i.zero, i.size, i.bytes)) = some (some (.int .u8 0), 1, 1) := by kernel_rfl
    exact info_parts h
  obtain ⟨ie, hi1, hi2, hi3, hi4⟩ := hi
  have hsz : (strOfNums ys).size = ys.length := strOfNums_size ys
  refine Lib.wpList_append_own_string (P := Tryv.prog) w hgd s x 22 9 ho w.heap.size 5 ie und_bytesV und_strV hi1 hi2 hi3 hi4 (.slice none 0 0) 0 [] hs (World.ownsRow_nil w _ 5 1) (strOfNums ys) hx (by rw [hsz]; unfold maxLen; omega) (by rw [hsz]; omega) (Nat.le_refl _) ?_
  intro v' w' hown hg hnil
  rw [strCells_nums hb, hsz, List.nil_append, Nat.zero_add] at hown
  have hchg : Chg [] w w' := Chg.of_grown hg
  rcases hown.2 with ⟨h1, h2⟩ | ⟨g, cap, cur, h1, hb2, h3⟩
  · subst h1
    have := h none 0 w' (by rw [h2]; have hz : bv ys = [] := List.eq_nil_of_length_eq_zero (by simp [h2]); rw [hz]; exact Own.nil _ _ _) hchg (by simp)
    rwa [h2] at this
  · subst h1
    exact h _ _ w' ⟨hown.1, .inr ⟨g, cap, cur, rfl, Nat.zero_le _, h3⟩⟩ hchg (fun k hk => by simp at hk; omega)
theorem Tryv.call22 (p : Array Value) (w : World) : (callFunc 22 p).run Tryv.prog w = .ok (.enter 22 p) w := callV
theorem Tryv.ntmps22 : Tryv.f22.ntmps = 8 := rfl
theorem Tryv.ntmps19 : Tryv.f19.ntmps = 19 := rfl
theorem seq_any {s : ByteArray} {d : Int} {w : World} (h0 : 0 ≤ d) (h1 : d ≤ 9223372036854775807) : Calls Tryv.prog 22 #[.int .i64 0, .int .i64 0, .int .i64 0, .int .i64 0, .int .i64 0, .string s, .int .i64 d] w fun e w' => e = .returned (.tuple #[.string s, .int .i64 d]) ∧ w' = w := by
  go_enter Tryv.func22, Tryv.ntmps22
  go_wp2
  go_ret2
  exact ⟨rfl, rfl⟩
/-- the pieces that are left -/
theorem cutr_at {d lo : Nat} {zs : List Int} {C : List (List Int)} {k : Nat} (h : cutr d (zs.drop lo) = C.drop k) (hlo : lo < zs.length) :
    C[k]? = some ((zs.drop lo).take (d + 1)) ∧ cutr d (zs.drop (lo + (d + 1))) = C.drop (k + 1) := by
  rw [cutr_cut d _ (by intro e; have := congrArg List.length e; simp at this; omega), List.drop_drop] at h
  constructor
  · have h1 : (C.drop k)[0]? = some ((zs.drop lo).take (d + 1)) := by rw [← h]; rfl
    simpa using h1
  · have h2 : (C.drop k).drop 1 = cutr d (zs.drop (lo + (d + 1))) := by rw [← h]; rfl
    rw [List.drop_drop] at h2
    exact h2.symm
theorem Tryv.call15 (p : Array Value) (w : World) : (callFunc 15 p).run Tryv.prog w = .ok (.enter 15 p) w := by
  unfold callFunc
  simp only [Sem.run_bind]
  have : (program).run Tryv.prog w = .ok Tryv.prog w := rfl
  rw [this]
  simp only [Result.andThen_ok, Tryv.func15]
  rfl
/-- what a Copy leaves: all pieces taken; or the error of the k-th -/
def Cpd (S : Nat → World → Prop) (E : Nat → World → Prop) (N : Nat) (e : Ending) (w' : World) : Prop :=
  (e = .returned (.tuple #[.int .i64 (N : Int), .int .i64 0]) ∧ S N w') ∨ (∃ k, k < N ∧ e = .returned (.tuple #[.int .i64 (k : Int), .int .i64 85]) ∧ E k w')
/-- what Take leaves, in a Copy -/
def Tkn (S : Nat → World → Prop) (E : Nat → World → Prop) (k : Nat) (e : Ending) (w' : World) : Prop :=
  (e = .returned (.int .i64 0) ∧ S (k + 1) w') ∨ (e = .returned (.int .i64 85) ∧ E k w')
set_option maxRecDepth 100000 in
set_option maxHeartbeats 3200000 in
theorem copyB_any {zs : List Int} {size : Int} {rv : Value} {S : Nat → World → Prop} {E : Nat → World → Prop} {w : World} (hb : ∀ x ∈ zs, 0 ≤ x ∧ x ≤ 255) (hn : zs.length ≤ 1073741824) (hs : size ≤ 9223372036854775807) (h0 : S 0 w)
    (hT : ∀ (k : Nat) (p : List Int) (wr w2 : World) (A : Option Addr) (c : Nat), (cutr (szOf size zs.length) zs)[k]? = some p → S k wr → Chg [] wr w2 → Own w2 5 1 A p.length c (bv p) → (∀ j ∈ bo A, wr.heap.size ≤ j) →
      Calls Tryv.prog 15 #[rv, .slice A p.length c] w2 (Tkn S E k)) :
    Calls Tryv.prog 19 #[chunkV zs size, .iface 32 rv] w (Cpd S E (cutr (szOf size zs.length) zs).length) := by
  unfold chunkV
  have hcl : (strOfNums zs).size = zs.length := strOfNums_size zs
  generalize hd : szOf size zs.length = d at *
  generalize hC : cutr d zs = C at *
  generalize hN : zs.length = n at *
  have hd1 : (d : Int) + 1 ≤ 9223372036854775807 := by subst hd; unfold szOf; split <;> omega
  have HT := Lib.hid hT
  have HB := Lib.hid hb
  have HC := Lib.hid hC
  have HN := Lib.hid hN
  have H0 := Lib.hid h0
  have hm : ∀ w, (method 208 32 rv "Take").run Tryv.prog w = .ok (15, rv) w := fun _ => by kernel_rfl
  clear hT hb hC hN h0 hd
  have kCHUNKS1 := Tryv.call22
  have kPTAKE := Tryv.call15
  go_enter Tryv.func19, Tryv.ntmps19
  go_wp2_with (go_at_call 22; refine (seq_any (by omega) (by omega)).mono ?_; rintro e w1 ⟨rfl, rfl⟩)
  unfold Tryv.loop
  go_loopw [4, 5, 8] (fun c e lo wr => ∃ k l : Nat, c = .int .i64 k ∧ e = .int .i64 0 ∧ lo = .int .i64 l ∧ l ≤ n ∧ k ≤ l ∧ k ≤ C.length ∧ cutr d (zs.drop l) = C.drop k ∧ S k wr) (fun _ _ l _ => n - (intOf l).toNat)
  case atStart => exact ⟨0, 0, rfl, rfl, rfl, Nat.zero_le _, Nat.le_refl _, Nat.zero_le _, by rw [List.drop_zero, List.drop_zero]; exact HC.out, H0.out⟩
  case round =>
    obtain ⟨k, l, rfl, rfl, rfl, hl, hkl, hkC, hcut, hS⟩ := hrel
    by_cases hlt : l < n
    · have q := cutr_at hcut (by rw [HN.out]; exact hlt)
      have HQ := Lib.hid q
      have HS := Lib.hid hS
      clear q hcut hS
      by_cases hm1 : d + 1 ≤ n - l
      · have hm2 : ¬ (n : Int) - (l : Int) < (d : Int) + 1 := by omega
        have HM := Lib.hid hm1
        obtain ⟨ys, hys⟩ : ∃ ys, ys = (zs.drop l).take (d + 1) := ⟨_, rfl⟩
        have hyl : ys.length = (d + 1) := by rw [hys, List.length_take, List.length_drop, HN.out]; omega
        have hsl : ∀ w, (Instr.sliceAt 9 (.string (strOfNums zs)) (some (.int .i64 (l : Int))) (some (.int .i64 ((l : Int) + ((d : Int) + 1)))) none).run Tryv.prog w = .ok (.string (strOfNums ys)) w := fun w => by
          have h1 := run_slS (s := strOfNums zs) (i := l) (g := l + (d + 1)) (w := w) (by omega) (by rw [hcl]; omega)
          rw [strOfNums_extract, show l + (d + 1) - l = (d + 1) by omega] at h1
          rw [show ((l : Int) + ((d : Int) + 1) : Int) = ((l + (d + 1) : Nat) : Int) by omega, h1]
          have : (zs.drop l).take (d + 1) = ys := by
            rw [hys]
            first
              | done
              | (rw [List.take_of_length_le (by rw [List.length_drop, HN.out]; omega), List.take_of_length_le (by rw [List.length_drop, HN.out]; omega)])
          rw [this]
        have HYS := Lib.hid hys
        have HYL := Lib.hid hyl
        have hyb : ∀ x ∈ ys, 0 ≤ x ∧ x ≤ 255 := fun x hx => HB.out x (by rw [hys] at hx; exact List.drop_subset _ _ (List.take_subset _ _ hx))
        have HYB := Lib.hid hyb
        clear hys hyb hyl
        go_wp2_with (first
          | (at_builtin; refine wpList_appS rfl _ _ rfl HYB.out rfl rfl (by have := HYL.out; omega) ?_; intro A1 c1 w1 hown1 hchg1 hnew1)
          | (go_at_call 15; refine (HT.out k ys _ _ _ _ (by rw [HYS.out]; exact HQ.out.1) HS.out hchg1 hown1 hnew1).mono ?_; rintro e w3 (⟨rfl, hS3⟩ | ⟨rfl, hE3⟩)))
        all_goals (have hkl2 : k < C.length := (List.getElem?_eq_some_iff.1 HQ.out.1).1)
        all_goals first
          | (refine ⟨⟨k + 1, l + (d + 1), by go_num, rfl, by go_num, by omega, by omega, hkl2, HQ.out.2, hS3⟩, ?_⟩
             all_goals (simp [intOf]; omega; done))
          | (go_ret2; exact .inr ⟨k, hkl2, rfl, hE3⟩)
      · have hm2 : (n : Int) - (l : Int) < (d : Int) + 1 := by omega
        have HM := Lib.hid hm1
        obtain ⟨ys, hys⟩ : ∃ ys, ys = (zs.drop l).take (d + 1) := ⟨_, rfl⟩
        have hyl : ys.length = (n - l) := by rw [hys, List.length_take, List.length_drop, HN.out]; omega
        have hsl : ∀ w, (Instr.sliceAt 9 (.string (strOfNums zs)) (some (.int .i64 (l : Int))) (some (.int .i64 ((l : Int) + ((n : Int) - (l : Int))))) none).run Tryv.prog w = .ok (.string (strOfNums ys)) w := fun w => by
          have h1 := run_slS (s := strOfNums zs) (i := l) (g := l + (n - l)) (w := w) (by omega) (by rw [hcl]; omega)
          rw [strOfNums_extract, show l + (n - l) - l = (n - l) by omega] at h1
          rw [show ((l : Int) + ((n : Int) - (l : Int)) : Int) = ((l + (n - l) : Nat) : Int) by omega, h1]
          have : (zs.drop l).take (n - l) = ys := by
            rw [hys]
            first
              | done
              | (rw [List.take_of_length_le (by rw [List.length_drop, HN.out]; omega), List.take_of_length_le (by rw [List.length_drop, HN.out]; omega)])
          rw [this]
        have HYS := Lib.hid hys
        have HYL := Lib.hid hyl
        have hyb : ∀ x ∈ ys, 0 ≤ x ∧ x ≤ 255 := fun x hx => HB.out x (by rw [hys] at hx; exact List.drop_subset _ _ (List.take_subset _ _ hx))
        have HYB := Lib.hid hyb
        clear hys hyb hyl
        go_wp2_with (first
          | (at_builtin; refine wpList_appS rfl _ _ rfl HYB.out rfl rfl (by have := HYL.out; omega) ?_; intro A1 c1 w1 hown1 hchg1 hnew1)
          | (go_at_call 15; refine (HT.out k ys _ _ _ _ (by rw [HYS.out]; exact HQ.out.1) HS.out hchg1 hown1 hnew1).mono ?_; rintro e w3 (⟨rfl, hS3⟩ | ⟨rfl, hE3⟩)))
        all_goals (have hkl2 : k < C.length := (List.getElem?_eq_some_iff.1 HQ.out.1).1)
        all_goals first
          | (refine ⟨⟨k + 1, n, by go_num, rfl, by go_num, Nat.le_refl _, by omega, hkl2, by rw [← HQ.out.2, List.drop_of_length_le (by rw [HN.out]; omega), List.drop_of_length_le (by rw [HN.out]; omega)], hS3⟩, ?_⟩
             all_goals (simp [intOf]; omega; done))
          | (go_ret2; exact .inr ⟨k, hkl2, rfl, hE3⟩)
    · have hk : (C.drop k) = [] := by rw [← hcut, List.drop_of_length_le (by rw [HN.out]; omega), cutr_nil]
      go_wp2
      go_ret2
      have hk2 : k = C.length := by
        have := List.drop_eq_nil_iff.1 hk
        omega
      subst hk2
      exact .inl ⟨rfl, hS⟩
end Go.Proofs.Ytcdhmnefmbcmaaa.Vw
