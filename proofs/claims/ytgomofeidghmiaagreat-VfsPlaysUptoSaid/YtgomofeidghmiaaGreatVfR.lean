/-
  Layer 08: Write, Sync.
-/
import Derived.Test.YtgomofeidghmiaaGreatVfQ
import Derived.Deep.RegionHeld3
import Derived.Deep.RegionLaw
import Derived.StillTailTactics
namespace Go.Proofs.YtgomofeidghmiaaGreat
open Go.RowKit

/-- one file's Spool has turned -/
theorem FsM.spool {w w' : World} {G : FsG} {S : St} (h : FsM w G S) {i g : Nat} {L L' : List Nat} {φ : Fil → Fil} (hg : G.sg[i]? = some g) (hL : G.Ls[i]? = some L) (hc : Chg L w w') (hs : Spo w' g L' (φ (S.files.getD i ([], []))).1 (φ (S.files.getD i ([], []))).2)
    (hn : ∀ k ∈ L', k ∈ L ∨ w.heap.size ≤ k) : FsM w' { G with Ls := G.Ls.set i L' } { S with files := S.files.modify i φ } := by
  have hil : i < G.Ls.length := (List.getElem?_eq_some_iff.1 hL).1
  have hpi : G.parts[i + 6]? = some L := by simpa [FsG.parts] using hL
  have hLL : ∀ x ∈ L, ∃ j P, j ∈ [i + 6] ∧ G.parts[j]? = some P ∧ x ∈ P := fun x hx => ⟨i + 6, L, by simp, hpi, hx⟩
  have ho := fun (j : Nat) (P : List Nat) (hj : G.parts[j]? = some P) (hne : j ∉ [i + 6]) => h.lay.others hLL hj hne
  have n6 : ∀ j, j < 6 → j ∉ [i + 6] := fun j hj hm => by simp at hm; omega
  refine ⟨h.blk.chg hc (ho 0 _ rfl (n6 0 (by decide)) _ (by simp)), h.tr1.keep hc (ho 1 _ rfl (n6 1 (by decide))), h.is1, h.tr2.keep hc (ho 2 _ rfl (n6 2 (by decide))), h.is2, h.own.chg hc (ho 3 _ rfl (n6 3 (by decide))), fun j c v a b => (h.chn j c v a b).keep hc (ho 5 _ rfl (n6 5 (by decide))) (fun _ h => h) (fun _ _ => rfl) (Nat.le_refl _),
    h.wrs.chg hc (ho 4 _ rfl (n6 4 (by decide))), by simpa using h.ibl, by simpa using h.sgl, by simpa using h.lsl, h.ibn, h.ibk, ?_, ?_⟩
  · intro j x gg M f e1 e2 e3 e4
    by_cases hij : j = i
    · subst hij
      simp only at e1 e2 e3 e4
      rw [List.getElem?_set_self hil] at e3
      injection e3 with e3
      rw [hg] at e2
      injection e2 with e2
      subst e2; subst e3
      rw [List.getElem?_modify] at e4
      simp only [if_true] at e4
      cases hf : S.files[j]? with
      | none => rw [hf] at e4; cases e4
      | some f0 =>
        rw [hf] at e4
        injection e4 with e4
        rw [List.getD_eq_getElem?_getD, hf] at hs
        subst e4
        have := h.ino j x g L f0 e1 hg hL hf
        exact ⟨this.1.chg hc (ho 5 _ rfl (n6 5 (by decide)) x (h.ibk x (List.mem_of_getElem? e1))), hs⟩
    · simp only at e1 e2 e3 e4
      rw [List.getElem?_set_ne (by omega)] at e3
      rw [List.getElem?_modify] at e4
      simp only [show ¬ i = j from fun e => hij e.symm, if_false] at e4
      have e4' : S.files[j]? = some f := by simpa using e4
      exact (h.ino j x gg M f e1 e2 e3 e4').keep hc (ho 5 _ rfl (n6 5 (by decide)) x (h.ibk x (List.mem_of_getElem? e1))) (ho (j + 6) M (by simpa [FsG.parts] using e3) (by simp; omega))
  · have := h.lay.set_ (w' := w') (i := i + 6) (P' := L') hpi hn hs.lt hc.size
    simpa [FsG.parts] using this
theorem FsG.all_spool {G : FsG} {i B : Nat} {L L' : List Nat} (hL : G.Ls[i]? = some L) (hn : ∀ k ∈ L', k ∈ L ∨ B ≤ k) : ∀ y ∈ FsG.all { G with Ls := G.Ls.set i L' }, y ∈ G.all ∨ B ≤ y := by
  intro y hy
  simp only [FsG.all, FsG.parts, List.flatten_cons, List.mem_append] at hy ⊢
  rcases hy with h | h | h | h | h | h | h
  · exact .inl (.inl h)
  · exact .inl (.inr (.inl h))
  · exact .inl (.inr (.inr (.inl h)))
  · exact .inl (.inr (.inr (.inr (.inl h))))
  · exact .inl (.inr (.inr (.inr (.inr (.inl h)))))
  · exact .inl (.inr (.inr (.inr (.inr (.inr (.inl h))))))
  · obtain ⟨P, hP, hy⟩ := List.mem_flatten.1 h
    rcases List.mem_or_eq_of_mem_set hP with h1 | rfl
    · exact .inl (.inr (.inr (.inr (.inr (.inr (.inr (List.mem_flatten.2 ⟨P, h1, hy⟩)))))))
    · rcases hn y hy with h2 | h2
      · exact .inl (.inr (.inr (.inr (.inr (.inr (.inr (List.mem_flatten.2 ⟨L, List.mem_of_getElem? hL, h2⟩)))))))
      · exact .inr h2

/-- the writes have turned, and the steps -/
theorem FsM.wrote {w w' : World} {G : FsG} {S : St} (h : FsM w G S) {A' : Option Addr} {c' : Nat} {wr' : List Nat} {st' : Nat} (hc : Chg (G.b :: bo G.Aw) w w')
    (hb : Blk w' G.b 92 #[.map (some G.t1), .map (some G.t2), .slice G.A S.chs.length G.c, .slice A' wr'.length c', .int .i64 S.quota, .int .i64 S.stop, .int .i64 (st' : Int)])
    (ho : Own w' 95 1 A' wr'.length c' (wr'.map (inoV G.ib))) (hA : ∀ x ∈ bo A', x ∈ bo G.Aw ∨ w.heap.size ≤ x) : FsTo w G { S with wr := wr', steps := st' } w' := by
  have hLL : ∀ x ∈ G.b :: bo G.Aw, ∃ j P, j ∈ [0, 4] ∧ G.parts[j]? = some P ∧ x ∈ P := fun x hx => by
    rcases List.mem_cons.1 hx with rfl | hx
    · exact ⟨0, _, by simp, rfl, by simp⟩
    · exact ⟨4, _, by simp, rfl, hx⟩
  have hk := fun (j : Nat) (P : List Nat) (hj : G.parts[j]? = some P) (hne : j ∉ [0, 4]) => h.lay.others hLL hj hne
  have hlay := h.lay.set_ (w' := w') (i := 4) (P := bo G.Aw) (P' := bo A') rfl hA ho.lt hc.size
  refine ⟨{ G with Aw := A', cw := c' }, ⟨hb, h.tr1.keep hc (hk 1 _ rfl (by simp)), h.is1, h.tr2.keep hc (hk 2 _ rfl (by simp)), h.is2, h.own.chg hc (hk 3 _ rfl (by simp)), fun j c v a b => (h.chn j c v a b).keep hc (hk 5 _ rfl (by simp)) (fun _ h => h) (fun _ _ => rfl) (Nat.le_refl _),
    ho, h.ibl, h.sgl, h.lsl, h.ibn, h.ibk, fun j x g L f e1 e2 e3 e4 => (h.ino j x g L f e1 e2 e3 e4).keep hc (hk 5 _ rfl (by simp) x (h.ibk x (List.mem_of_getElem? e1))) (hk (j + 6) L (by simpa [FsG.parts] using e3) (by simp)), hlay⟩, rfl, ?_, ?_⟩
  · intro x hx
    obtain ⟨P, hP, hx⟩ := List.mem_flatten.1 hx
    simp only [FsG.parts, List.mem_cons] at hP
    rcases hP with rfl | rfl | rfl | rfl | rfl | hP
    · exact .inl (FsG.mem_all (i := 0) rfl hx)
    · exact .inl (FsG.mem_all (i := 1) rfl hx)
    · exact .inl (FsG.mem_all (i := 2) rfl hx)
    · exact .inl (FsG.mem_all (i := 3) rfl hx)
    · exact (hA x hx).imp (fun h => FsG.mem_all (i := 4) rfl h) id
    · exact .inl (List.mem_flatten.2 ⟨P, by simp only [FsG.parts, List.mem_cons]; exact .inr (.inr (.inr (.inr (.inr hP)))), hx⟩)
  · exact hc.mono (fun x hx => .inl (by
      obtain ⟨j, P, _, hj, hxP⟩ := hLL x hx
      exact FsG.mem_all hj hxP))
/-- two steps, one behind the other -/
theorem FsTo.next {w w1 w' : World} {G G1 : FsG} {S' : St} (hc : Chg G.all w w1) (hb : G1.b = G.b) (hsub : ∀ x ∈ G1.all, x ∈ G.all ∨ w.heap.size ≤ x) (h : FsTo w1 G1 S' w') : FsTo w G S' w' := by
  obtain ⟨G', h1, h2, h3, h4⟩ := h
  exact ⟨G', h1, h2.trans hb, fun x hx => by
    rcases h3 x hx with h | h
    · exact hsub x h
    · exact .inr (Nat.le_trans hc.size h), hc.trans h4 hsub⟩

theorem etyInodes : Ety Tryz.prog 90 95 1 8 (.pointer none) := .mk' Tryz.underlying90 (by kernel_rfl) rfl (by decide)

set_option maxRecDepth 100000 in
set_option maxHeartbeats 3200000 in
theorem write_st {w : World} {G : FsG} {S : St} {B : Nat} (h : FsM w G S) (hi : Inv B S) (d n : ByteArray) (A : Option Addr) (k c : Nat) (xs : List Int) (hr : Rd w 1 A k c (bv xs)) (hB : B + k ≤ 1073741824) (hdis : ∀ x ∈ bo A, x ∉ G.all) :
    Calls Tryz.prog 26 #[.pointer (some ⟨G.b, 0, none⟩), .string d, .string n, .slice A k c] w fun e w' => e = .returned (.int .i64 (S.write d n xs).2) ∧ FsTo w G (S.write d n xs).1 w' := by
  have hlx : xs.length = k := by have := hr.1; simp at this; omega
  have HF := Lib.hid h
  have HI := Lib.hid hi
  have HBk := Lib.hid hB
  have HB : Hid (B ≤ 1073741824) := Lib.hid (by omega)
  have HR := Lib.hid hr
  have HLX := Lib.hid hlx
  have HDS := Lib.hid hdis
  have k63 : k ≤ 1073741824 := by omega
  clear h hi hB hr hlx hdis
  go_enter Tryz.func26, Tryz.ntmps26
  go_wp2_with fail
  refine (find_st HF.out d n).mono ?_
  rintro e w1 ⟨rfl, hc1⟩
  have HC1 := Lib.hid hc1
  obtain ⟨o, E, hE⟩ : ∃ o E, S.fnd d n = (o, E) := ⟨_, _, rfl⟩
  rw [hE]
  have HE := Lib.hid hE
  cases o with
  | none =>
    have hb : (E != 0) = true := by simpa using fnd_bad hE
    have HR : Hid (S.write d n xs = (S, E)) := Lib.hid (by unfold St.write; rw [HE.out])
    clear hE
    simp only [findV, Option.map_none]
    go_wp2
    go_ret
    exact ⟨by rw [HR.out]; rfl, by rw [HR.out]; exact FsTo.same HF.out HC1.out⟩
  | some x =>
    obtain ⟨he0, hd0, F, hF, hx⟩ := fnd_good hE
    subst he0
    have HXL := Lib.hid (fnd_lt HI.out hE)
    have HF1 := Lib.hid (HF.out.keep0 hc1)
    obtain ⟨g, L, hL, hbx, hs, hg, hix⟩ := (HF.out.keep0 hc1).spo (fnd_lt HI.out hE)
    have HL := Lib.hid hL
    have HG := Lib.hid hg
    have HS := Lib.hid hs
    have c0 := hbx.cell 0
    simp at c0
    have c6 := HF1.out.blk.cell 6
    have f6 := HF1.out.blk.frozen 6
    have c4 := HF1.out.blk.cell 4
    simp at c6 c4
    have hwt : IntKind.i64.wrap ((S.steps : Int) + 1) = ((S.steps + 1 : Nat) : Int) := by have := HI.out.st; have := HB.out; rw [IntKind.wrap_i64]; omega
    clear hF hE hx hd0 hs hc1 hL hg hix hbx
    simp only [findV, Option.map_some]
    by_cases hk0 : k = 0
    · subst hk0
      have hnil : xs = [] := List.eq_nil_of_length_eq_zero HLX.out
      have HR2 : Hid (S.write d n xs = ({ S with steps := S.steps + 1 }, 0)) := Lib.hid (by unfold St.write; rw [HE.out]; simp only [hnil, if_true])
      clear hnil c0 c4
      go_wp2
      go_ret
      refine ⟨by rw [HR2.out]; rfl, ?_⟩
      rw [HR2.out]
      have hF := HF1.out
      have hch : Chg [G.b] w1 (w1.setCell ⟨G.b, 6, none⟩ (.int .i64 ((S.steps + 1 : Nat) : Int))) := (Chg.refl _ _).setCell (.inl (by simp)) _
      refine FsTo.of (w0 := w1) (G0 := G) ?_ HC1.out rfl (fun x hx => .inl hx)
      refine hF.wrote (wr' := S.wr) (st' := S.steps + 1) (A' := G.Aw) (c' := G.cw) (hch.mono (fun x hx => .inl (by simp only [List.mem_singleton] at hx; subst hx; simp))) ?_ (hF.wrs.chg hch ?_) (fun x hx => .inl hx)
      · simpa using hF.blk.set_ 6 (.int .i64 ((S.steps + 1 : Nat) : Int))
      · intro y hy hm
        simp only [List.mem_singleton] at hm
        subst hm
        exact hF.lay.ne (i := 4) (j := 0) (P := bo G.Aw) (Q := [G.b]) rfl rfl (by decide) _ hy (by simp)
    · have hkz : ¬ k = 0 := hk0
      have hw64 : IntKind.i64.wrap (S.quota - (S.used : Int)) = S.quota - (S.used : Int) := by
        have h1 := HI.out.quota
        have h2 := used_le HI.out
        have h3 : B * B ≤ 1073741824 * 1073741824 := Nat.mul_le_mul HB.out HB.out
        rw [IntKind.wrap_i64]; omega
      have HXN : Hid (xs ≠ []) := Lib.hid (by intro e; have := HLX.out; rw [e] at this; simp at this; omega)
      go_wp2_with fail
      refine wp_region_held_drew (S := fun w' => Chg [] w1 w') (by kernel_rfl) ((Chg.refl _ _).drew) (fun hHeld => ?_)
      refine wpAnyH_take (i := 0) (v := ?_) rfl (by kernel_rfl) (by kernel_rfl) (by kernel_rfl) (fun _ _ _ h => h) (Or.inl ⟨by rfl, ?_⟩) (by assumption) ?_
      rotate_left
      · (intro w' hSw; go_simp; try with_reducible rfl)
      try simp only [Act.put, put8]
      refine wpAnyH_take (i := 1) (v := ?_) rfl (by kernel_rfl) (by kernel_rfl) (by kernel_rfl) (fun _ _ _ h => h) (Or.inl ⟨by rfl, ?_⟩) (by assumption) ?_
      rotate_left
      · (intro w' hSw; go_simp; try with_reducible rfl)
      try simp only [Act.put, put8]
      refine wpAnyH_take (i := 2) (v := ?_) rfl (by kernel_rfl) (by kernel_rfl) (by kernel_rfl) (fun _ _ _ h => h) (Or.inl ⟨by rfl, ?_⟩) (by assumption) ?_
      rotate_left
      · (intro w' hSw; go_simp; try with_reducible rfl)
      try simp only [Act.put, put8]
      refine wpAnyH_take (i := 3) (v := ?_) rfl (by kernel_rfl) (by kernel_rfl) (by kernel_rfl) (fun _ _ _ h => h) (Or.inl ⟨by rfl, ?_⟩) (by assumption) ?_
      rotate_left
      · (intro w' hSw; go_simp; try with_reducible rfl)
      try simp only [Act.put, put8]
      refine wpAnyH_take (i := 4) (v := ?_) rfl (by kernel_rfl) (by kernel_rfl) (by kernel_rfl) (fun _ _ _ h => h) (Or.inl ⟨by rfl, ?_⟩) (by assumption) ?_
      rotate_left
      · (intro w' hSw; go_simp; try with_reducible rfl)
      try simp only [Act.put, put8]
      refine wpAnyH_take (i := 5) (v := ?_) rfl (by kernel_rfl) (by kernel_rfl) (by kernel_rfl) (fun _ _ _ h => h) (Or.inl ⟨by rfl, ?_⟩) (by assumption) ?_
      rotate_left
      · (intro w' hSw; have y4 := hSw.cell c4 (by simp); go_simp; try with_reducible rfl)
      try simp only [Act.put, put8]
      refine wpAnyH_take (i := 6) (v := ?_) rfl (by kernel_rfl) (by kernel_rfl) (by kernel_rfl) (fun _ _ _ h => h) (Or.inl ⟨by rfl, ?_⟩) (by assumption) ?_
      rotate_left
      · (intro w' hSw; go_simp; try with_reducible rfl)
      try simp only [Act.put, put8]
      refine wpAnyH_ready (rs := [7]) (by kernel_rfl) (by simp) ?_
      refine AllReadyH.cons rfl (fun K hK => ?_) (AllReadyH.nil)
      go_simp
      refine (used_st (HF1.out.keep0 hHeld) HI.out HB.out).mono ?_
      rintro e w3 ⟨rfl, hc3⟩
      refine hK.out _ _ (hHeld.trans0 hc3) (fun hHeld => ?_)
      try simp only [Act.put, put8]
      clear hK K
      refine wpAnyH_take (i := 8) (v := ?_) rfl (by kernel_rfl) (by kernel_rfl) (by kernel_rfl) (fun _ _ _ h => h) (Or.inl ⟨by rfl, ?_⟩) (by assumption) ?_
      rotate_left
      · (intro w' hSw; go_simp; try with_reducible rfl)
      try simp only [Act.put, put8]
      refine wpAnyH_take (i := 9) (v := ?_) rfl (by kernel_rfl) (by kernel_rfl) (by kernel_rfl) (fun _ _ _ h => h) (Or.inl ⟨by rfl, ?_⟩) (by assumption) ?_
      rotate_left
      · (intro w' hSw; go_simp; try with_reducible rfl)
      try simp only [Act.put, put8]
      refine wpAnyH_done (by kernel_rfl) ?_ _
      try simp only [Act.put, put8]
      have HC3 := Lib.hid hHeld
      clear hHeld c4
      by_cases hlt : S.quota - (S.used : Int) < (k : Int)
      · have hdec : decide (S.quota - (S.used : Int) < (k : Int)) = true := by simpa using hlt
        rw [hdec]
        have HR2 : Hid (S.write d n xs = (S, 85)) := Lib.hid (by
          unfold St.write
          rw [HE.out]
          simp only [HXN.out, if_false]
          rw [if_pos (by rw [HLX.out]; omega)])
        clear hdec hlt hw64
        go_wp2
        go_ret
        exact ⟨by rw [HR2.out]; rfl, by rw [HR2.out]; exact FsTo.same HF.out (HC1.out.trans0 HC3.out)⟩
      · have hdec : decide (S.quota - (S.used : Int) < (k : Int)) = false := by simpa using hlt
        rw [hdec]
        have HR2 : Hid (S.write d n xs = ({ S with files := S.files.modify x (fun f => (f.1, f.2 ++ [xs])), wr := S.wr ++ [x], steps := S.steps + 1 }, 0)) := Lib.hid (by
          unfold St.write
          rw [HE.out]
          simp only [HXN.out, if_false]
          rw [if_neg (by rw [HLX.out]; omega)])
        have c03 := HC3.out.cell c0 List.not_mem_nil
        have HF3 := Lib.hid (HF1.out.keep0 HC3.out)
        have HS3 := Lib.hid (HS.out.chg HC3.out (fun _ _ => List.not_mem_nil))
        have HW1 : Hid (S.wr.length ≤ 1073741824) := Lib.hid (by have := HI.out.nw; have := HB.out; omega)
        have hw1 := HW1.out
        clear hdec hlt hw64 c0 c6 f6
        go_wp2_with fail
        refine (append_some g L _ _ A k c xs w3 HS3.out (by omega) (by have := (HI.out.fil x).1; have := HBk.out; omega) (by have := (HI.out.fil x).2; have := HB.out; omega) ((HR.out.chg HC1.out (fun _ _ => List.not_mem_nil)).chg HC3.out (fun _ _ => List.not_mem_nil))).mono ?_
        rintro e w4 ⟨L', rfl, hs4, hc4, hL4⟩
        have HF4 := Lib.hid (HF3.out.spool (φ := fun f => (f.1, f.2 ++ [xs])) HG.out HL.out hc4 hs4 hL4)
        have HC4 : Hid (Chg G.all w w4) := Lib.hid (((HC1.out.trans0 HC3.out).nil G.all).trans hc4 (fun y hy => .inl (FsG.mem_all (i := x + 6) (by simpa [FsG.parts] using HL.out) hy)))
        have HSUB : Hid (∀ y ∈ FsG.all { G with Ls := G.Ls.set x L' }, y ∈ G.all ∨ w.heap.size ≤ y) := Lib.hid (FsG.all_spool HL.out (fun y hy => (hL4 y hy).imp id (fun h => by have h1 := HC1.out.size; have h2 := HC3.out.size; omega)))
        have z3 := HF4.out.blk.cell 3
        simp at z3
        clear hs4 hc4 hL4 c03
        go_wp2_with (at_builtin; refine wpList_app rfl _ _ rfl etyInodes rfl (HF4.out.wrs.chg ((Chg.refl [] w4).alloc (.cells #[.pointer (some ⟨ibf G.ib x, 0, none⟩)] 95)) (fun _ _ => List.not_mem_nil)) rfl (Own.lit w4 95 1 #[.pointer (some ⟨ibf G.ib x, 0, none⟩)] 1 (by decide) rfl).rd (by simp [Value.oneCell']) (by unfold maxLen; show S.wr.length + 1 ≤ _; omega) (by show (S.wr.length + 1) * _ ≤ _; omega) ?_; intro A2 c2 w5 hown5 hchg5 hnew5 _; have HCX : Hid (Chg (bo G.Aw) w4 w5) := Lib.hid ((((Chg.refl [] w4).alloc (.cells #[.pointer (some ⟨ibf G.ib x, 0, none⟩)] 95)).nil _).trans hchg5 (fun x hx => .inl hx)); have hbA : G.b ∉ bo G.Aw := (fun hm => HF4.out.lay.ne (i := 4) (j := 0) (P := bo G.Aw) (Q := [G.b]) rfl rfl (by decide) _ hm (by simp)); have HB5 := Lib.hid (HF4.out.blk.chg HCX.out hbA); have y3 := HB5.out.cell 3; have f3 := HB5.out.frozen 3; have HB6 := Lib.hid (HB5.out.set_ 3 (.slice A2 (S.wr.length + 1) c2)); have y6 := HB6.out.cell 6; have f6 := HB6.out.frozen 6; simp at y3 y6; have HO5 := Lib.hid hown5; have HN5 : Hid (∀ x ∈ bo A2, x ∈ bo G.Aw ∨ w4.heap.size ≤ x) := Lib.hid (fun x hx => (hnew5 x hx).imp id (fun h => by have := h.1; simp at this; omega)); clear hown5 hchg5 hnew5 hbA)
        go_ret
        have hb7 := HB6.out.set_ 6 (.int .i64 ((S.steps + 1 : Nat) : Int))
        have hcs : Chg [G.b] w5 ((w5.setCell ⟨G.b, 3, none⟩ (.slice A2 (S.wr.length + 1) c2)).setCell ⟨G.b, 6, none⟩ (.int .i64 ((S.steps + 1 : Nat) : Int))) := ((Chg.refl _ _).setCell (.inl (by simp)) _).setCell (.inl (by simp)) _
        have hbo : ∀ y ∈ bo A2, y ∉ [G.b] := fun y hy hm => by
          simp only [List.mem_singleton] at hm
          subst hm
          rcases HN5.out _ hy with h1 | h1
          · exact HF4.out.lay.ne (i := 4) (j := 0) (P := bo G.Aw) (Q := [G.b]) rfl rfl (by decide) _ h1 (by simp)
          · have := HF4.out.blk.lt; simp only at this; omega
        refine ⟨by rw [HR2.out]; rfl, ?_⟩
        rw [HR2.out]
        refine FsTo.next (G1 := { G with Ls := G.Ls.set x L' }) HC4.out rfl HSUB.out ?_
        refine HF4.out.wrote (wr' := S.wr ++ [x]) (st' := S.steps + 1) (A' := A2) (c' := c2) ?_ ?_ ?_ HN5.out
        · exact (HCX.out.mono (fun y hy => .inl (List.mem_cons_of_mem _ hy))).trans hcs (fun y hy => .inl (by simp only [List.mem_singleton] at hy; subst hy; simp))
        · simpa using hb7
        · have q := HO5.out.chg hcs hbo
          simpa [inoV] using q

set_option maxRecDepth 100000 in
set_option maxHeartbeats 3200000 in
theorem sync_st {w : World} {G : FsG} {S : St} {B : Nat} (h : FsM w G S) (hi : Inv B S) (d n : ByteArray) (hB : B ≤ 1073741824) :
    Calls Tryz.prog 27 #[.pointer (some ⟨G.b, 0, none⟩), .string d, .string n] w fun e w' => e = .returned (.int .i64 (S.sync d n).2) ∧ FsTo w G (S.sync d n).1 w' := by
  have HF := Lib.hid h
  have HI := Lib.hid hi
  have HB := Lib.hid hB
  clear h hi hB
  go_enter Tryz.func27, Tryz.ntmps27
  go_wp2_with fail
  refine (find_st HF.out d n).mono ?_
  rintro e w1 ⟨rfl, hc1⟩
  have HC1 := Lib.hid hc1
  obtain ⟨o, E, hE⟩ : ∃ o E, S.fnd d n = (o, E) := ⟨_, _, rfl⟩
  rw [hE]
  have HE := Lib.hid hE
  cases o with
  | none =>
    have hb : (E != 0) = true := by simpa using fnd_bad hE
    have HR : Hid (S.sync d n = (S, E)) := Lib.hid (by unfold St.sync; rw [HE.out])
    clear hE
    simp only [findV, Option.map_none]
    go_wp2
    go_ret
    exact ⟨by rw [HR.out]; rfl, by rw [HR.out]; exact FsTo.same HF.out (HC1.out.alloc _)⟩
  | some x =>
    obtain ⟨he0, hd0, F, hF, hx⟩ := fnd_good hE
    subst he0
    have hxl := fnd_lt HI.out hE
    have HXL := Lib.hid hxl
    have hcA : Chg [] w1 (w1.alloc (.cells #[.pointer (some ⟨ibf G.ib x, 0, none⟩)] 95)) := (Chg.refl [] w1).alloc _
    have HF2 := Lib.hid ((HF.out.keep0 hc1).keep0 hcA)
    have HC2 := Lib.hid (hc1.trans0 hcA)
    obtain ⟨g, L, hL, hbx, hs, hg, hix⟩ := HF2.out.spo hxl
    have HL := Lib.hid hL
    have HG := Lib.hid hg
    have HS := Lib.hid hs
    have HIX := Lib.hid hix
    have c0 := hbx.cell 0
    simp only [List.getElem?_toArray, List.getElem?_cons_zero] at c0
    have HR : Hid (S.sync d n = ({ S with files := S.files.modify x (fun f => (Fil.all f, [])), wr := S.wr.filter (fun y => y != x), steps := S.steps + 1 }, 0)) := Lib.hid (by unfold St.sync; rw [HE.out])
    have HKB : Hid (Blk (w1.alloc (.cells #[.pointer (some ⟨ibf G.ib x, 0, none⟩)] 95)) w1.heap.size 95 #[.pointer (some ⟨ibf G.ib x, 0, none⟩)]) := Lib.hid (Blk.new w1 _ _)
    have HSZ : Hid (∀ y ∈ G.all, y < w1.heap.size) := Lib.hid (HF.out.keep0 hc1).lt
    obtain ⟨kb, hkb⟩ : ∃ kb, w1.heap.size = kb := ⟨_, rfl⟩
    obtain ⟨W, hW⟩ : ∃ W, w1.alloc (.cells #[.pointer (some ⟨ibf G.ib x, 0, none⟩)] 95) = W := ⟨_, rfl⟩
    have hck := HKB.out.cell 0
    simp only [List.getElem?_toArray, List.getElem?_cons_zero] at hck
    rw [hW] at HKB hck HF2 HC2 HS c0
    rw [hkb] at HKB hck HSZ
    clear hF hE hx hd0 hs hc1 hL hg hix hbx hcA hxl
    simp only [findV, Option.map_some]
    go_wp2_with fail
    refine (sync_any g L _ _ W HS.out (by have := (HI.out.fil x).1; have := HB.out; omega)).mono ?_
    rintro e w4 ⟨L', rfl, hs4, hc4, hL4⟩
    have HF4 := Lib.hid (HF2.out.spool (φ := fun f => (Fil.all f, [])) HG.out HL.out hc4 hs4 hL4)
    have HC4 : Hid (Chg G.all w w4) := Lib.hid ((HC2.out.nil G.all).trans hc4 (fun y hy => .inl (FsG.mem_all (i := x + 6) (by simpa [FsG.parts] using HL.out) hy)))
    have HSUB : Hid (∀ y ∈ FsG.all { G with Ls := G.Ls.set x L' }, y ∈ G.all ∨ w.heap.size ≤ y) := Lib.hid (FsG.all_spool HL.out (fun y hy => (hL4 y hy).imp id (fun h => by have h1 := HC2.out.size; omega)))
    have hkL : kb ∉ L := fun hm => by
      have := HSZ.out kb (FsG.mem_all (i := x + 6) (by simpa [FsG.parts] using HL.out) hm)
      omega
    have HKB4 := Lib.hid (HKB.out.chg hc4 hkL)
    have z3 := HF4.out.blk.cell 3
    have zk := HKB4.out.cell 0
    simp at z3 zk
    have HNW : Hid (S.wr.length ≤ 1073741824) := Lib.hid (by have := HI.out.nw; have := HB.out; omega)
    have HKW : Hid (kb ∉ bo G.Aw) := Lib.hid (fun hm => by
      have := HSZ.out kb (FsG.mem_all (i := 4) rfl hm)
      omega)
    have HIS : Hid (∀ i, i < S.files.length → ibf G.ib i ∈ G.K ∧ IsB w4 (ibf G.ib i)) := Lib.hid (fun i hi => by
      obtain ⟨gg, LL, _, hbb, _, _, hii⟩ := HF4.out.spo (i := i) (by simpa using hi)
      exact ⟨HF4.out.ibk _ (List.mem_of_getElem? hii), _, _, hbb⟩)
    have HOW : Hid (Own w4 95 1 G.Aw S.wr.length G.cw ((S.wr.map (ibf G.ib)).map pv)) := Lib.hid (by
      have := HF4.out.wrs
      rw [List.map_map]
      exact this)
    have hwt : IntKind.i64.wrap ((S.steps : Int) + 1) = ((S.steps + 1 : Nat) : Int) := by have := HI.out.st; have := HB.out; rw [IntKind.wrap_i64]; omega
    clear hs4 hc4 hL4 hck c0 hkL
    go_wp2_with fail
    refine (delf_any G.Aw S.wr.length G.cw (S.wr.map (ibf G.ib)) (ibf G.ib x) kb w4 HOW.out zk HKW.out (HIS.out x HXL.out).2 (fun y hy => by
      obtain ⟨i, hi, rfl⟩ := List.mem_map.1 hy
      exact (HIS.out i (HI.out.wr i hi)).2) (fun y hy => ?_) HNW.out).mono ?_
    · have hyK : y ∈ G.K := by
        rcases List.mem_cons.1 hy with rfl | hy
        · exact (HIS.out x HXL.out).1
        · obtain ⟨i, hi, rfl⟩ := List.mem_map.1 hy
          exact (HIS.out i (HI.out.wr i hi)).1
      exact HF4.out.lay.ne (i := 5) (j := 4) (P := G.K) (Q := bo G.Aw) rfl rfl (by decide) y hyK
    rintro e w5 ⟨hc5, n', hn', rfl, ho5⟩
    have hfm : (S.wr.map (ibf G.ib)).filter (fun y => y != ibf G.ib x) = (S.wr.filter (fun y => y != x)).map (ibf G.ib) := by
      rw [List.filter_map]
      congr 1
      refine List.filter_congr fun y hy => ?_
      simp only [Function.comp]
      have hyl := HI.out.wr y hy
      have hxl := HXL.out
      have hlen := HF.out.ibl
      have : (ibf G.ib y = ibf G.ib x) ↔ y = x := ⟨fun e => by
        unfold ibf at e
        rw [List.getD_eq_getElem?_getD, List.getD_eq_getElem?_getD, List.getElem?_eq_getElem (by omega), List.getElem?_eq_getElem (by omega)] at e
        exact (List.getElem_inj HF.out.ibn).1 e, fun e => by rw [e]⟩
      by_cases hxy : y = x
      · subst hxy; simp
      · have h2 : ¬ ibf G.ib y = ibf G.ib x := fun e => hxy (this.1 e)
        exact (bne_iff_ne.2 h2).trans (bne_iff_ne.2 hxy).symm
    rw [hfm] at ho5 hn'
    rw [List.length_map] at hn'
    subst hn'
    have hbA : G.b ∉ bo G.Aw := (fun hm => HF4.out.lay.ne (i := 4) (j := 0) (P := bo G.Aw) (Q := [G.b]) rfl rfl (by decide) _ hm (by simp))
    have HB5 := Lib.hid (HF4.out.blk.chg hc5 hbA)
    have y3 := HB5.out.cell 3
    have f3 := HB5.out.frozen 3
    have HB6 := Lib.hid (HB5.out.set_ 3 (.slice G.Aw (S.wr.filter (fun y => y != x)).length G.cw))
    have y6 := HB6.out.cell 6
    have f6 := HB6.out.frozen 6
    simp at y3 y6
    have HO5 := Lib.hid ho5
    have HC5 := Lib.hid hc5
    clear ho5 hc5 hbA hfm z3 zk
    obtain ⟨m', hm'⟩ : ∃ m', (S.wr.filter (fun y => y != x)).length = m' := ⟨_, rfl⟩
    rw [hm'] at y6 f6 HO5 HB6
    have HM' := Lib.hid hm'
    go_wp2
    go_ret
    have hb7 := HB6.out.set_ 6 (.int .i64 ((S.steps + 1 : Nat) : Int))
    have hcs : Chg [G.b] w5 ((w5.setCell ⟨G.b, 3, none⟩ (.slice G.Aw m' G.cw)).setCell ⟨G.b, 6, none⟩ (.int .i64 ((S.steps + 1 : Nat) : Int))) := ((Chg.refl _ _).setCell (.inl (by simp)) _).setCell (.inl (by simp)) _
    refine ⟨by rw [HR.out]; rfl, ?_⟩
    rw [HR.out]
    refine FsTo.next (G1 := { G with Ls := G.Ls.set x L' }) HC4.out rfl HSUB.out ?_
    refine HF4.out.wrote (wr' := S.wr.filter (fun y => y != x)) (st' := S.steps + 1) (A' := G.Aw) (c' := G.cw) ?_ ?_ ?_ (fun y hy => .inl hy)
    · exact (HC5.out.mono (fun y hy => .inl (List.mem_cons_of_mem _ hy))).trans hcs (fun y hy => .inl (by simp only [List.mem_singleton] at hy; subst hy; simp))
    · rw [HM'.out]; simpa using hb7
    · have q := HO5.out.chg hcs (fun y hy hm => by
        simp only [List.mem_singleton] at hm
        subst hm
        exact HF4.out.lay.ne (i := 4) (j := 0) (P := bo G.Aw) (Q := [G.b]) rfl rfl (by decide) _ hy (by simp))
      rw [HM'.out]
      rw [List.map_map] at q
      exact q
end Go.Proofs.YtgomofeidghmiaaGreat
