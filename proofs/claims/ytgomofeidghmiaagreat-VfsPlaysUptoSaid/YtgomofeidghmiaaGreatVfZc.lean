/-
  Layer 08: the document's file system in memory: its parts turned.
-/
import Derived.Test.YtgomofeidghmiaaGreatVfZb
import Derived.Test.YtgomofeidghmiaaGreatVfRv
namespace Go.Proofs.YtgomofeidghmiaaGreat
open Go.RowKit

theorem RfM.ne0 {w : World} {R : RfG} {S : St} (h : RfM w R S) {i : Nat} {P : List Nat} (hi : R.parts[i + 1]? = some P) : ∀ x ∈ P, x ∉ [R.b] := fun x hx hm => h.lay.ne (i := i + 1) (j := 0) (Q := [R.b]) hi rfl (by omega) x hx hm
theorem RfM.spo0 {w : World} {R : RfG} {S : St} (h : RfM w R S) {i : Nat} {M : List Nat} (e : R.Ls[i]? = some M) : ∀ x ∈ M, x ∉ [R.b] := h.ne0 (i := i + 4) (by simpa [RfG.parts] using e)
/-- parts of R' are parts of R, or new -/
theorem RfG.all_of {R R' : RfG} {B : Nat} (h : ∀ P ∈ R'.parts, ∀ x ∈ P, x ∈ R.all ∨ B ≤ x) : ∀ x ∈ R'.all, x ∈ R.all ∨ B ≤ x := by
  intro x hx
  obtain ⟨P, hP, hx⟩ := List.mem_flatten.1 hx
  exact h P hP x hx
theorem RfG.part {R : RfG} {B : Nat} {i : Nat} {P : List Nat} (h : R.parts[i]? = some P) : ∀ x ∈ P, x ∈ R.all ∨ B ≤ x := fun _ hx => .inl (RfG.mem_all h hx)
theorem RfTo.next {w w1 w' : World} {R R1 : RfG} {S' : St} (hc : Chg R.all w w1) (hb : R1.b = R.b) (hsub : ∀ x ∈ R1.all, x ∈ R.all ∨ w.heap.size ≤ x) (h : RfTo w1 R1 S' w') : RfTo w R S' w' := by
  obtain ⟨R', h1, h2, h3, h4⟩ := h
  exact ⟨R', h1, h2.trans hb, fun x hx => by
    rcases h3 x hx with h | h
    · exact hsub x h
    · exact .inr (Nat.le_trans hc.size h), hc.trans h4 hsub⟩
theorem RfTo.before {w w1 w2 : World} {R : RfG} {S2 : St} (hc : Chg [] w w1) (h : RfTo w1 R S2 w2) : RfTo w R S2 w2 := .next (hc.nil _) rfl (fun _ hx => .inl hx) h
theorem RfTo.keep0 {w w1 w2 : World} {R : RfG} {S2 : St} (h : RfTo w R S2 w1) (hc : Chg [] w1 w2) : RfTo w R S2 w2 := by
  obtain ⟨R', h1, h2, h3, h4⟩ := h
  exact ⟨R', h1.keep0 hc, h2, h3, h4.trans0 hc⟩
theorem RfTo.chg {w w1 : World} {R : RfG} {S1 : St} (h : RfTo w R S1 w1) : Chg R.all w w1 := by obtain ⟨_, _, _, _, h⟩ := h; exact h

/-- all but the struct's own cells -/
theorem RfM.reblk {w w' : World} {R : RfG} {S S' : St} (h : RfM w R S) (hc : Chg [R.b] w w') (e1 : S'.seen = S.seen) (e2 : S'.safe = S.safe) (e3 : S'.chs = S.chs) (e4 : S'.files = S.files) (e5 : S'.wr = S.wr)
    (hb : Blk w' R.b 46 #[.slice R.sA S.seen.length R.sc, .slice R.pA S.safe.length R.pc, .slice R.cA S.chs.length R.cc, .slice R.fA S.files.length R.fc, .slice R.wA S.wr.length R.wc, .int .i64 S'.quota, .int .i64 S'.stop, .int .i64 (S'.steps : Int)]) : RfTo w R S' w' := by
  have hK : ∀ k ∈ R.K, k ∉ [R.b] := h.ne0 (i := 3) rfl
  refine ⟨R, ⟨by rw [e1, e2, e3, e4, e5]; exact hb, by rw [e1]; exact h.seen.chg hc (fun k hk => hK k (h.seenk k hk)), by rw [e1]; exact h.seenv, h.seenk, by rw [e2]; exact h.safe.chg hc (fun k hk => hK k (h.safek k hk)), by rw [e2]; exact h.safev, h.safek,
    by rw [e3]; exact h.chg.chg hc (h.ne0 (i := 0) rfl), by rw [e4]; exact h.fil.chg hc (h.ne0 (i := 1) rfl), by rw [e5]; exact h.wrs.chg hc (h.ne0 (i := 2) rfl), by rw [e4]; exact h.lsl, fun i g M f a1 a2 a3 => (h.spo i g M f a1 a2 (by rw [← e4]; exact a3)).chg hc (h.spo0 a2), h.lay.mono hc.size⟩, rfl, fun _ hx => .inl hx, hc.mono (fun x hx => .inl (by
      simp only [List.mem_singleton] at hx
      subst hx
      exact RfG.mem_all (i := 0) (P := [R.b]) rfl (by simp)))⟩
theorem RfM.setSteps {w : World} {R : RfG} {S : St} (h : RfM w R S) (k : Nat) : RfTo w R { S with steps := k } (w.setCell ⟨R.b, 7, none⟩ (.int .i64 (k : Nat))) :=
  h.reblk ((Chg.refl _ _).setCell (.inl (by simp)) _) rfl rfl rfl rfl rfl (by simpa using h.blk.set_ 7 (.int .i64 (k : Nat)))

section
variable {w w1 : World} {R : RfG} {S : St}
theorem RfM.newSeen (h : RfM w R S) {A : Option Addr} {c : Nat} {rs : List RF} {T : Tr} (hT : RTree w1 A T.length c rs) (hv : rval rs = T) (hc : Chg [] w w1) (hn : ∀ k ∈ bo A ++ rblk rs, k ∈ R.K ∨ (w.heap.size ≤ k ∧ k < w1.heap.size)) :
    RfTo w R { S with seen := T } (w1.setCell ⟨R.b, 0, none⟩ (.slice A T.length c)) := by
  have hb := h.blk.lt
  have h1 := h.keep0 hc
  have hcs : Chg [R.b] w1 (w1.setCell ⟨R.b, 0, none⟩ (.slice A T.length c)) := (Chg.refl _ _).setCell (.inl (by simp)) _
  have hK : ∀ k ∈ R.K, k ∉ [R.b] := h.ne0 (i := 3) rfl
  have hnb : ∀ k ∈ bo A ++ rblk rs, k ∉ [R.b] := fun k hk hm => by
    rcases hn k hk with h2 | h2
    · exact hK k h2 hm
    · simp only [List.mem_singleton] at hm; omega
  have hct := Nat.le_trans hc.size hcs.size
  have hlay := h.lay.set_ (w' := w1.setCell ⟨R.b, 0, none⟩ (.slice A T.length c)) (i := 4) (P := R.K) (P' := bo A ++ rblk rs ++ R.K) rfl (fun x hx => by
    rcases List.mem_append.1 hx with hx | hx
    · exact (hn x hx).imp id (·.1)
    · exact .inl hx) (fun x hx => by
    rcases List.mem_append.1 hx with hx | hx
    · rcases hn x hx with h2 | h2
      · have := h.lay.lt R.K (by simp [RfG.parts]) x h2; omega
      · exact Nat.lt_of_lt_of_le h2.2 hcs.size
    · have := h.lay.lt R.K (by simp [RfG.parts]) x hx; omega) hct
  refine ⟨{ R with sA := A, sc := c, rs := rs, K := bo A ++ rblk rs ++ R.K }, ⟨by simpa using h1.blk.set_ 0 (.slice A T.length c), hT.chg hcs hnb, hv, fun k hk => List.mem_append_left _ hk, h1.safe.chg hcs (fun k hk => hK k (h.safek k hk)), h.safev, fun k hk => List.mem_append_right _ (h.safek k hk),
    h1.chg.chg hcs (h.ne0 (i := 0) rfl), h1.fil.chg hcs (h.ne0 (i := 1) rfl), h1.wrs.chg hcs (h.ne0 (i := 2) rfl), h.lsl, fun i g M f a1 a2 a3 => (h1.spo i g M f a1 a2 a3).chg hcs (h.spo0 a2), hlay⟩, rfl, ?_, ?_⟩
  · refine RfG.all_of (fun P hP x hx => ?_)
    simp only [RfG.parts, List.mem_cons] at hP
    rcases hP with rfl | rfl | rfl | rfl | rfl | hP
    · exact RfG.part (i := 0) rfl x hx
    · exact RfG.part (i := 1) rfl x hx
    · exact RfG.part (i := 2) rfl x hx
    · exact RfG.part (i := 3) rfl x hx
    · rcases List.mem_append.1 hx with hx | hx
      · rcases hn x hx with h2 | h2
        · exact RfG.part (i := 4) rfl x h2
        · exact .inr h2.1
      · exact RfG.part (i := 4) rfl x hx
    · exact .inl (List.mem_flatten.2 ⟨P, by simp only [RfG.parts, List.mem_cons]; exact .inr (.inr (.inr (.inr (.inr hP)))), hx⟩)
  · exact ((hc.nil R.all).trans hcs (fun x hx => .inl (by simp only [List.mem_singleton] at hx; subst hx; exact RfG.mem_all (i := 0) (P := [R.b]) rfl (by simp))))
theorem RfM.newSafe (h : RfM w R S) {A : Option Addr} {c : Nat} {rs : List RF} {T : Tr} (hT : RTree w1 A T.length c rs) (hv : rval rs = T) (hc : Chg [] w w1) (hn : ∀ k ∈ bo A ++ rblk rs, k ∈ R.K ∨ (w.heap.size ≤ k ∧ k < w1.heap.size)) :
    RfTo w R { S with safe := T } (w1.setCell ⟨R.b, 1, none⟩ (.slice A T.length c)) := by
  have hb := h.blk.lt
  have h1 := h.keep0 hc
  have hcs : Chg [R.b] w1 (w1.setCell ⟨R.b, 1, none⟩ (.slice A T.length c)) := (Chg.refl _ _).setCell (.inl (by simp)) _
  have hK : ∀ k ∈ R.K, k ∉ [R.b] := h.ne0 (i := 3) rfl
  have hnb : ∀ k ∈ bo A ++ rblk rs, k ∉ [R.b] := fun k hk hm => by
    rcases hn k hk with h2 | h2
    · exact hK k h2 hm
    · simp only [List.mem_singleton] at hm; omega
  have hct := Nat.le_trans hc.size hcs.size
  have hlay := h.lay.set_ (w' := w1.setCell ⟨R.b, 1, none⟩ (.slice A T.length c)) (i := 4) (P := R.K) (P' := bo A ++ rblk rs ++ R.K) rfl (fun x hx => by
    rcases List.mem_append.1 hx with hx | hx
    · exact (hn x hx).imp id (·.1)
    · exact .inl hx) (fun x hx => by
    rcases List.mem_append.1 hx with hx | hx
    · rcases hn x hx with h2 | h2
      · have := h.lay.lt R.K (by simp [RfG.parts]) x h2; omega
      · exact Nat.lt_of_lt_of_le h2.2 hcs.size
    · have := h.lay.lt R.K (by simp [RfG.parts]) x hx; omega) hct
  refine ⟨{ R with pA := A, pc := c, ps := rs, K := bo A ++ rblk rs ++ R.K }, ⟨by simpa using h1.blk.set_ 1 (.slice A T.length c), h1.seen.chg hcs (fun k hk => hK k (h.seenk k hk)), h.seenv, fun k hk => List.mem_append_right _ (h.seenk k hk), hT.chg hcs hnb, hv, fun k hk => List.mem_append_left _ hk,
    h1.chg.chg hcs (h.ne0 (i := 0) rfl), h1.fil.chg hcs (h.ne0 (i := 1) rfl), h1.wrs.chg hcs (h.ne0 (i := 2) rfl), h.lsl, fun i g M f a1 a2 a3 => (h1.spo i g M f a1 a2 a3).chg hcs (h.spo0 a2), hlay⟩, rfl, ?_, ?_⟩
  · refine RfG.all_of (fun P hP x hx => ?_)
    simp only [RfG.parts, List.mem_cons] at hP
    rcases hP with rfl | rfl | rfl | rfl | rfl | hP
    · exact RfG.part (i := 0) rfl x hx
    · exact RfG.part (i := 1) rfl x hx
    · exact RfG.part (i := 2) rfl x hx
    · exact RfG.part (i := 3) rfl x hx
    · rcases List.mem_append.1 hx with hx | hx
      · rcases hn x hx with h2 | h2
        · exact RfG.part (i := 4) rfl x h2
        · exact .inr h2.1
      · exact RfG.part (i := 4) rfl x hx
    · exact .inl (List.mem_flatten.2 ⟨P, by simp only [RfG.parts, List.mem_cons]; exact .inr (.inr (.inr (.inr (.inr hP)))), hx⟩)
  · exact ((hc.nil R.all).trans hcs (fun x hx => .inl (by simp only [List.mem_singleton] at hx; subst hx; exact RfG.mem_all (i := 0) (P := [R.b]) rfl (by simp))))
/-- the changes have turned: from w on, in the row's block alone, then the struct's cell -/
theorem RfM.newChs (h : RfM w R S) {A : Option Addr} {c : Nat} {cs : List Chn} (ho : Own w1 118 5 A cs.length c (chv cs)) (hc : Chg (bo R.cA) w w1) (hn : ∀ k ∈ bo A, k ∈ bo R.cA ∨ w.heap.size ≤ k) :
    RfTo w R { S with chs := cs } (w1.setCell ⟨R.b, 2, none⟩ (.slice A cs.length c)) := by
  have hb := h.blk.lt
  have hcs : Chg [R.b] w1 (w1.setCell ⟨R.b, 2, none⟩ (.slice A cs.length c)) := (Chg.refl _ _).setCell (.inl (by simp)) _
  have hK : ∀ k ∈ R.K, k ∉ [R.b] := h.ne0 (i := 3) rfl
  have hbA : R.b ∉ bo R.cA := fun hm => h.ne0 (i := 0) rfl _ hm (by simp)
  have hne := fun (j : Nat) (P : List Nat) (hj : R.parts[j]? = some P) (hne : j ≠ 1) => fun x (hx : x ∈ P) => h.lay.ne (i := j) (j := 1) (Q := bo R.cA) hj rfl hne x hx
  have hnb : ∀ k ∈ bo A, k ∉ [R.b] := fun k hk hm => by
    rcases hn k hk with h2 | h2
    · exact h.ne0 (i := 0) rfl k h2 hm
    · simp only [List.mem_singleton] at hm; omega
  have hsz := hcs.size
  have hsz1 := hc.size
  have hlay := h.lay.set_ (w' := w1.setCell ⟨R.b, 2, none⟩ (.slice A cs.length c)) (i := 1) (P := bo R.cA) (P' := bo A) rfl hn (fun x hx => Nat.lt_of_lt_of_le (ho.lt x hx) hsz) (by omega)
  refine ⟨{ R with cA := A, cc := c }, ⟨by simpa using (h.blk.chg hc hbA).set_ 2 (.slice A cs.length c), (h.seen.chg hc (fun k hk => hne 4 _ rfl (by decide) k (h.seenk k hk))).chg hcs (fun k hk => hK k (h.seenk k hk)), h.seenv, h.seenk, (h.safe.chg hc (fun k hk => hne 4 _ rfl (by decide) k (h.safek k hk))).chg hcs (fun k hk => hK k (h.safek k hk)), h.safev, h.safek,
    ho.chg hcs hnb, (h.fil.chg hc (hne 2 _ rfl (by decide))).chg hcs (h.ne0 (i := 1) rfl), (h.wrs.chg hc (hne 3 _ rfl (by decide))).chg hcs (h.ne0 (i := 2) rfl), h.lsl, fun i g M f a1 a2 a3 => ((h.spo i g M f a1 a2 a3).chg hc (hne (i + 5) M (by simpa [RfG.parts] using a2) (by omega))).chg hcs (h.spo0 a2), hlay⟩, rfl, ?_, ?_⟩
  · refine RfG.all_of (fun P hP x hx => ?_)
    simp only [RfG.parts, List.mem_cons] at hP
    rcases hP with rfl | rfl | rfl | rfl | rfl | hP
    · exact RfG.part (i := 0) rfl x hx
    · exact (hn x hx).imp (fun h => RfG.mem_all (i := 1) (P := bo R.cA) rfl h) id
    · exact RfG.part (i := 2) rfl x hx
    · exact RfG.part (i := 3) rfl x hx
    · exact RfG.part (i := 4) rfl x hx
    · exact .inl (List.mem_flatten.2 ⟨P, by simp only [RfG.parts, List.mem_cons]; exact .inr (.inr (.inr (.inr (.inr hP)))), hx⟩)
  · exact (hc.mono (fun x hx => .inl (RfG.mem_all (i := 1) (P := bo R.cA) rfl hx))).trans hcs (fun x hx => .inl (by simp only [List.mem_singleton] at hx; subst hx; exact RfG.mem_all (i := 0) (P := [R.b]) rfl (by simp)))
theorem RfM.newWr (h : RfM w R S) {A : Option Addr} {c : Nat} {ws : List Nat} (ho : Own w1 3 1 A ws.length c (ws.map fun i => .int .i64 (i : Nat))) (hc : Chg (bo R.wA) w w1) (hn : ∀ k ∈ bo A, k ∈ bo R.wA ∨ w.heap.size ≤ k) :
    RfTo w R { S with wr := ws } (w1.setCell ⟨R.b, 4, none⟩ (.slice A ws.length c)) := by
  have hb := h.blk.lt
  have hcs : Chg [R.b] w1 (w1.setCell ⟨R.b, 4, none⟩ (.slice A ws.length c)) := (Chg.refl _ _).setCell (.inl (by simp)) _
  have hK : ∀ k ∈ R.K, k ∉ [R.b] := h.ne0 (i := 3) rfl
  have hbA : R.b ∉ bo R.wA := fun hm => h.ne0 (i := 2) rfl _ hm (by simp)
  have hne := fun (j : Nat) (P : List Nat) (hj : R.parts[j]? = some P) (hne : j ≠ 3) => fun x (hx : x ∈ P) => h.lay.ne (i := j) (j := 3) (Q := bo R.wA) hj rfl hne x hx
  have hnb : ∀ k ∈ bo A, k ∉ [R.b] := fun k hk hm => by
    rcases hn k hk with h2 | h2
    · exact h.ne0 (i := 2) rfl k h2 hm
    · simp only [List.mem_singleton] at hm; omega
  have hsz := hcs.size
  have hsz1 := hc.size
  have hlay := h.lay.set_ (w' := w1.setCell ⟨R.b, 4, none⟩ (.slice A ws.length c)) (i := 3) (P := bo R.wA) (P' := bo A) rfl hn (fun x hx => Nat.lt_of_lt_of_le (ho.lt x hx) hsz) (by omega)
  refine ⟨{ R with wA := A, wc := c }, ⟨by simpa using (h.blk.chg hc hbA).set_ 4 (.slice A ws.length c), (h.seen.chg hc (fun k hk => hne 4 _ rfl (by decide) k (h.seenk k hk))).chg hcs (fun k hk => hK k (h.seenk k hk)), h.seenv, h.seenk, (h.safe.chg hc (fun k hk => hne 4 _ rfl (by decide) k (h.safek k hk))).chg hcs (fun k hk => hK k (h.safek k hk)), h.safev, h.safek,
    (h.chg.chg hc (hne 1 _ rfl (by decide))).chg hcs (h.ne0 (i := 0) rfl), (h.fil.chg hc (hne 2 _ rfl (by decide))).chg hcs (h.ne0 (i := 1) rfl), ho.chg hcs hnb, h.lsl, fun i g M f a1 a2 a3 => ((h.spo i g M f a1 a2 a3).chg hc (hne (i + 5) M (by simpa [RfG.parts] using a2) (by omega))).chg hcs (h.spo0 a2), hlay⟩, rfl, ?_, ?_⟩
  · refine RfG.all_of (fun P hP x hx => ?_)
    simp only [RfG.parts, List.mem_cons] at hP
    rcases hP with rfl | rfl | rfl | rfl | rfl | hP
    · exact RfG.part (i := 0) rfl x hx
    · exact RfG.part (i := 1) rfl x hx
    · exact RfG.part (i := 2) rfl x hx
    · exact (hn x hx).imp (fun h => RfG.mem_all (i := 3) (P := bo R.wA) rfl h) id
    · exact RfG.part (i := 4) rfl x hx
    · exact .inl (List.mem_flatten.2 ⟨P, by simp only [RfG.parts, List.mem_cons]; exact .inr (.inr (.inr (.inr (.inr hP)))), hx⟩)
  · exact (hc.mono (fun x hx => .inl (RfG.mem_all (i := 3) (P := bo R.wA) rfl hx))).trans hcs (fun x hx => .inl (by simp only [List.mem_singleton] at hx; subst hx; exact RfG.mem_all (i := 0) (P := [R.b]) rfl (by simp)))
/-- a file more: its Spool new since w, at w1; the row turned at w2; then the struct's cell -/
theorem RfM.newFil {w2 : World} (h : RfM w R S) (hc1 : Chg [] w w1) {g : Nat} {L : List Nat} {f : Fil} (hL : ∀ k ∈ L, w.heap.size ≤ k) (hs : Rsp w1 g L f.1 f.2) {A : Option Addr} {c : Nat} (ho : Own w2 109 1 A (S.files.length + 1) c ((R.sg ++ [g]).map pv8)) (hc2 : Chg (bo R.fA) w1 w2) (hn : ∀ k ∈ bo A, k ∈ bo R.fA ∨ w1.heap.size ≤ k) :
    RfTo w R { S with files := S.files ++ [f] } (w2.setCell ⟨R.b, 3, none⟩ (.slice A (S.files.length + 1) c)) := by
  have hb := h.blk.lt
  have h1 := h.keep0 hc1
  have hcs : Chg [R.b] w2 (w2.setCell ⟨R.b, 3, none⟩ (.slice A (S.files.length + 1) c)) := (Chg.refl _ _).setCell (.inl (by simp)) _
  have hK : ∀ k ∈ R.K, k ∉ [R.b] := h.ne0 (i := 3) rfl
  have hbA : R.b ∉ bo R.fA := fun hm => h.ne0 (i := 1) rfl _ hm (by simp)
  have hne := fun (j : Nat) (P : List Nat) (hj : R.parts[j]? = some P) (hne : j ≠ 2) => fun x (hx : x ∈ P) => h.lay.ne (i := j) (j := 2) (Q := bo R.fA) hj rfl hne x hx
  have z1 := hc1.size
  have z2 := hc2.size
  have z3 := hcs.size
  have hnb : ∀ k ∈ bo A, k ∉ [R.b] := fun k hk hm => by
    rcases hn k hk with h2 | h2
    · exact h.ne0 (i := 1) rfl k h2 hm
    · simp only [List.mem_singleton] at hm; omega
  have hLf : ∀ k ∈ L, k ∉ bo R.fA := fun k hk hm => by have q1 := hL k hk; have q2 := h.lay.lt (bo R.fA) (by simp [RfG.parts]) k hm; omega
  have hLb : ∀ k ∈ L, k ∉ [R.b] := fun k hk hm => by simp only [List.mem_singleton] at hm; have q1 := hL k hk; omega
  have hl1 := h.lay.snoc (w' := w1) hL hs.lt z1
  have hlay := hl1.set_ (w' := w2.setCell ⟨R.b, 3, none⟩ (.slice A (S.files.length + 1) c)) (i := 2) (P := bo R.fA) (P' := bo A) rfl hn (fun x hx => Nat.lt_of_lt_of_le (ho.lt x hx) z3) (by omega)
  have lg := h.sgl
  have ll := h.lsl
  refine ⟨{ R with fA := A, fc := c, sg := R.sg ++ [g], Ls := R.Ls ++ [L] }, ⟨by simpa using (h1.blk.chg hc2 hbA).set_ 3 (.slice A (S.files.length + 1) c), (h1.seen.chg hc2 (fun k hk => hne 4 _ rfl (by decide) k (h.seenk k hk))).chg hcs (fun k hk => hK k (h.seenk k hk)), h.seenv, h.seenk, (h1.safe.chg hc2 (fun k hk => hne 4 _ rfl (by decide) k (h.safek k hk))).chg hcs (fun k hk => hK k (h.safek k hk)), h.safev, h.safek,
    (h1.chg.chg hc2 (hne 1 _ rfl (by decide))).chg hcs (h.ne0 (i := 0) rfl), by simpa using ho.chg hcs hnb, (h1.wrs.chg hc2 (hne 3 _ rfl (by decide))).chg hcs (h.ne0 (i := 2) rfl), by simp [ll], fun i g' M f' a1 a2 a3 => ?_, hlay⟩, rfl, ?_, ?_⟩
  · simp only at a1 a2 a3
    by_cases hi : i < S.files.length
    · rw [List.getElem?_append_left (by omega)] at a1 a2 a3
      exact ((h1.spo i g' M f' a1 a2 a3).chg hc2 (hne (i + 5) M (by simpa [RfG.parts] using a2) (by omega))).chg hcs (h.spo0 a2)
    · have hie : i = S.files.length := by
        have := (List.getElem?_eq_some_iff.1 a3).1
        simp at this; omega
      subst hie
      rw [List.getElem?_append_right (by omega), lg, Nat.sub_self] at a1
      rw [List.getElem?_append_right (by omega), ll, Nat.sub_self] at a2
      rw [List.getElem?_append_right (by omega), Nat.sub_self] at a3
      simp at a1 a2 a3
      subst a1; subst a2; subst a3
      exact (hs.chg hc2 hLf).chg hcs hLb
  · refine RfG.all_of (fun P hP x hx => ?_)
    simp only [RfG.parts, List.mem_cons] at hP
    rcases hP with rfl | rfl | rfl | rfl | rfl | hP
    · exact RfG.part (i := 0) rfl x hx
    · exact RfG.part (i := 1) rfl x hx
    · exact (hn x hx).imp (fun h => RfG.mem_all (i := 2) (P := bo R.fA) rfl h) (fun h => by omega)
    · exact RfG.part (i := 3) rfl x hx
    · exact RfG.part (i := 4) rfl x hx
    · rcases List.mem_append.1 hP with hP | hP
      · exact .inl (List.mem_flatten.2 ⟨P, by simp only [RfG.parts, List.mem_cons]; exact .inr (.inr (.inr (.inr (.inr hP)))), hx⟩)
      · simp only [List.mem_singleton] at hP
        subst hP
        exact .inr (hL x hx)
  · exact ((hc1.nil R.all).trans hc2 (fun x hx => .inl (RfG.mem_all (i := 2) (P := bo R.fA) rfl hx))).trans hcs (fun x hx => .inl (by simp only [List.mem_singleton] at hx; subst hx; exact RfG.mem_all (i := 0) (P := [R.b]) rfl (by simp)))
/-- one file's Spool has turned -/
theorem RfM.spool {w' : World} (h : RfM w R S) {i g : Nat} {L L' : List Nat} {φ : Fil → Fil} (hg : R.sg[i]? = some g) (hL : R.Ls[i]? = some L) (hc : Chg L w w') (hs : Rsp w' g L' (φ (S.files.getD i ([], []))).1 (φ (S.files.getD i ([], []))).2) (hn : ∀ k ∈ L', k ∈ L ∨ w.heap.size ≤ k) :
    RfTo w R { S with files := S.files.modify i φ } w' := by
  have hil : i < R.Ls.length := (List.getElem?_eq_some_iff.1 hL).1
  have hpi : R.parts[i + 5]? = some L := by simpa [RfG.parts] using hL
  have hne := fun (j : Nat) (P : List Nat) (hj : R.parts[j]? = some P) (hne : j ≠ i + 5) => fun x (hx : x ∈ P) => h.lay.ne (i := j) (j := i + 5) (Q := L) hj hpi hne x hx
  have hlay := h.lay.set_ (w' := w') (i := i + 5) (P' := L') hpi hn hs.lt hc.size
  refine ⟨{ R with Ls := R.Ls.set i L' }, ⟨by simpa using h.blk.chg hc (hne 0 _ rfl (by omega) _ (by simp)), h.seen.chg hc (fun k hk => hne 4 _ rfl (by omega) k (h.seenk k hk)), h.seenv, h.seenk, h.safe.chg hc (fun k hk => hne 4 _ rfl (by omega) k (h.safek k hk)), h.safev, h.safek, h.chg.chg hc (hne 1 _ rfl (by omega)), by simpa using h.fil.chg hc (hne 2 _ rfl (by omega)), h.wrs.chg hc (hne 3 _ rfl (by omega)), by simpa using h.lsl, ?_, by simpa [RfG.parts] using hlay⟩, rfl, ?_, ?_⟩
  · intro j gg M f e2 e3 e4
    by_cases hij : j = i
    · subst hij
      simp only at e2 e3 e4
      rw [List.getElem?_set_self hil] at e3
      injection e3 with e3
      rw [hg] at e2
      injection e2 with e2
      subst e2; subst e3
      rw [List.getElem?_modify] at e4
      simp only [if_true] at e4
      cases hf : S.files[j]? with
      | none => rw [hf] at e4; cases e4
      | some f0 =>
        rw [hf] at e4
        injection e4 with e4
        rw [List.getD_eq_getElem?_getD, hf] at hs
        subst e4
        exact hs
    · simp only at e2 e3 e4
      rw [List.getElem?_set_ne (by omega)] at e3
      rw [List.getElem?_modify] at e4
      simp only [show ¬ i = j from fun e => hij e.symm, if_false] at e4
      have e4' : S.files[j]? = some f := by simpa using e4
      exact (h.spo j gg M f e2 e3 e4').chg hc (hne (j + 5) M (by simpa [RfG.parts] using e3) (by omega))
  · refine RfG.all_of (fun P hP x hx => ?_)
    simp only [RfG.parts, List.mem_cons] at hP
    rcases hP with rfl | rfl | rfl | rfl | rfl | hP
    · exact RfG.part (i := 0) rfl x hx
    · exact RfG.part (i := 1) rfl x hx
    · exact RfG.part (i := 2) rfl x hx
    · exact RfG.part (i := 3) rfl x hx
    · exact RfG.part (i := 4) rfl x hx
    · rcases List.mem_or_eq_of_mem_set hP with h1 | rfl
      · exact .inl (List.mem_flatten.2 ⟨P, by simp only [RfG.parts, List.mem_cons]; exact .inr (.inr (.inr (.inr (.inr h1)))), hx⟩)
      · exact (hn x hx).imp (fun h => RfG.mem_all hpi h) id
  · exact hc.mono (fun x hx => .inl (RfG.mem_all hpi hx))
end
end Go.Proofs.YtgomofeidghmiaaGreat
