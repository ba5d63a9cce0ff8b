/-
  Layer 08: the program's file system: ask and find on it; what never changes grows; a file more; a change done.
-/
import Derived.Test.YtgomofeidghmiaaVfG
namespace Go.Proofs.Ytgomofeidghmiaa
open Go.RowKit

theorem ask_eq {G : FsG} {w : World} {S : St} (h : FsM w G S) (there : Bool) (ns : List ByteArray) : askE S.stop S.steps (tval G.g1) there ns = S.ask there ns := by
  have : ∀ k, (aget (tval G.g1) k).isNone = (aget S.seen k).isNone := fun k => by
    have := h.is1.top k
    rw [aget_tval]
    cases h1 : aget G.g1 k <;> cases h2 : aget S.seen k <;> rw [h1, h2] at this <;> first | rfl | cases this
  unfold askE St.ask St.down
  rw [this]
theorem find_eq {G : FsG} {w : World} {S : St} (h : FsM w G S) (d n : ByteArray) : findR S.stop S.steps G.g1 d n = ((S.fnd d n).1.map (ibf G.ib), (S.fnd d n).2) := by
  unfold findR St.fnd
  rw [ask_eq h]
  split
  · rfl
  · rw [h.is1.fol d n]
    cases aget (folOf S.seen d) n <;> rfl

theorem ask_st {G : FsG} {w : World} {S : St} (h : FsM w G S) (there : Bool) (A : Option Addr) (n c : Nat) (ns : List ByteArray) (hr : Rd w 1 A n c (svs ns)) (hn : n ≤ 1073741824) (ht : there = true → 0 < n) :
    Calls Try.prog 55 #[.pointer (some ⟨G.b, 0, none⟩), .bool there, .slice A n c] w fun e w' => e = .returned (.int .i64 (S.ask there ns)) ∧ Chg [] w w' := by
  rw [← ask_eq h]
  exact ask_any G.b G.t1 S.stop S.steps (tval G.g1) there A n c ns w (by simpa using h.blk.cell 0) (by simpa using h.blk.cell 5) (by simpa using h.blk.cell 6) h.tr1.top tval_maps hr hn ht
theorem find_st {G : FsG} {w : World} {S : St} (h : FsM w G S) (d n : ByteArray) :
    Calls Try.prog 60 #[.pointer (some ⟨G.b, 0, none⟩), .string d, .string n] w fun e w' => e = .returned (findV ((S.fnd d n).1.map (ibf G.ib), (S.fnd d n).2)) ∧ Chg [] w w' := by
  rw [← find_eq h]
  exact find_any G.b G.t1 S.stop S.steps G.g1 d n w (by simpa using h.blk.cell 0) (by simpa using h.blk.cell 5) (by simpa using h.blk.cell 6) h.tr1
theorem down_st {G : FsG} {w : World} {S : St} (h : FsM w G S) :
    Calls Try.prog 23 #[.pointer (some ⟨G.b, 0, none⟩)] w fun e w' => e = .returned (.bool S.down) ∧ Chg [] w w' :=
  down_any G.b S.stop S.steps w (by simpa using h.blk.cell 5) (by simpa using h.blk.cell 6)

/-- a block that never changes, more -/
theorem FsM.addK {w w1 : World} {G : FsG} {S : St} (h : FsM w G S) (hc : Chg [] w w1) {x : Nat} (hx : w.heap.size ≤ x) (hx1 : x < w1.heap.size) : FsM w1 { G with K := x :: G.K } S := by
  have h1 := h.keep0 hc
  refine ⟨h1.blk, h1.tr1, h1.is1, h1.tr2, h1.is2, h1.own, fun i c v a b => (h1.chn i c v a b).keep (Chg.refl [] w1) (fun _ _ => List.not_mem_nil) (fun _ hm => List.mem_cons_of_mem _ hm) (fun _ _ => rfl) (Nat.le_refl _), h1.wrs, h1.ibl, h1.sgl, h1.lsl, h1.ibn, fun y hy => List.mem_cons_of_mem _ (h1.ibk y hy), h1.ino, ?_⟩
  exact h.lay.set_ (i := 5) (P' := x :: G.K) rfl (fun y hy => by rcases List.mem_cons.1 hy with rfl | hy; exact .inr hx; exact .inl hy) (fun y hy => by
    rcases List.mem_cons.1 hy with rfl | hy
    · exact hx1
    · exact h1.lay.lt G.K (List.mem_of_getElem? (i := 5) rfl) y hy) hc.size

theorem ibf_old {ib : List Nat} {x i : Nat} (hi : i < ib.length) : ibf (ib ++ [x]) i = ibf ib i := by
  unfold ibf
  rw [List.getD_eq_getElem?_getD, List.getD_eq_getElem?_getD, List.getElem?_append_left hi]
theorem ibf_new (ib : List Nat) (x : Nat) : ibf (ib ++ [x]) ib.length = x := by
  unfold ibf
  rw [List.getD_eq_getElem?_getD, List.getElem?_append_right (Nat.le_refl _)]
  simp
theorem ibf_at {ib : List Nat} {i x : Nat} (h : ib[i]? = some x) : ibf ib i = x := by
  unfold ibf
  rw [List.getD_eq_getElem?_getD, h]; rfl
theorem TreeIs.grow {ib : List Nat} {g : GTr} {T : Tr} {m x : Nat} (h : TreeIs ib g T) (hv : Val m T) (hm : ib.length = m) : TreeIs (ib ++ [x]) g T :=
  ⟨h.top, fun k d F hd hF n => by
    rw [h.sub k d F hd hF n]
    cases hn : aget F n with
    | none => rfl
    | some i =>
      have := hv.ids _ (aget_mem hF) _ (aget_mem hn)
      simp only [Option.map_some]
      rw [ibf_old (by simpa [hm] using this)]⟩

/-- a file more -/
theorem FsM.addFile {w w1 w2 : World} {G : FsG} {S : St} {B : Nat} (h : FsM w G S) (hi : Inv B S) (hc1 : Chg [] w w1) {g : Nat} {L : List Nat} {f : List Int} (hL : ∀ k ∈ L, w.heap.size ≤ k) (hs : Spo w1 g L f []) (hc2 : Chg [] w1 w2)
    {x : Nat} (hx : w1.heap.size ≤ x) (hb : Blk w2 x 85 #[.pointer (some ⟨g, 0, none⟩)]) :
    FsM w2 { G with K := x :: G.K, ib := G.ib ++ [x], sg := G.sg ++ [g], Ls := G.Ls ++ [L] } { S with files := S.files ++ [(f, [])] } := by
  have h2 := h.keep0 (hc1.trans0 hc2)
  have hxl := hb.lt
  refine ⟨h2.blk, h2.tr1, h2.is1.grow hi.val h.ibl, h2.tr2, h2.is2.grow hi.safe h.ibl, h2.own, fun i c v a b => (h2.chn i c v a b).keep (Chg.refl [] w2) (fun _ _ => List.not_mem_nil) (fun _ hm => List.mem_cons_of_mem _ hm) (fun i hi => ibf_old hi) (by simp), ?_, by simp [h.ibl], by simp [h.sgl], by simp [h.lsl], ?_, ?_, ?_, ?_⟩
  · have e : S.wr.map (inoV (G.ib ++ [x])) = S.wr.map (inoV G.ib) := List.map_congr_left fun i hm => by
      unfold inoV
      rw [ibf_old (by rw [h.ibl]; exact hi.wr i hm)]
    show Own w2 81 1 G.Aw S.wr.length G.cw (S.wr.map (inoV (G.ib ++ [x])))
    rw [e]
    exact h2.wrs
  · show (G.ib ++ [x]).Nodup
    rw [List.nodup_append]
    refine ⟨h.ibn, by simp, fun a ha b hb => ?_⟩
    simp only [List.mem_singleton] at hb
    subst hb
    have := h.lay.lt G.K (List.mem_of_getElem? (i := 5) rfl) a (h.ibk a ha)
    have := hc1.size
    omega
  · intro y hy
    rcases List.mem_append.1 hy with hy | hy
    · exact List.mem_cons_of_mem _ (h.ibk y hy)
    · simp only [List.mem_singleton] at hy
      subst hy
      simp
  · intro i y gg M ff e1 e2 e3 e4
    have l1 := h.ibl; have l2 := h.sgl; have l3 := h.lsl
    by_cases hil : i < S.files.length
    · simp only at e1 e2 e3 e4
      rw [List.getElem?_append_left (by omega)] at e1 e2 e3 e4
      exact h2.ino i y gg M ff e1 e2 e3 e4
    · have hie : i = S.files.length := by
        have := (List.getElem?_eq_some_iff.1 e4).1
        simp at this; omega
      subst hie
      simp only at e1 e2 e3 e4
      rw [List.getElem?_append_right (by omega), l1, Nat.sub_self] at e1
      rw [List.getElem?_append_right (by omega), l2, Nat.sub_self] at e2
      rw [List.getElem?_append_right (by omega), l3, Nat.sub_self] at e3
      rw [List.getElem?_append_right (by omega), Nat.sub_self] at e4
      simp at e1 e2 e3 e4
      subst e1; subst e2; subst e3; subst e4
      exact ⟨hb, hs.chg hc2 (fun _ _ => List.not_mem_nil)⟩
  · have h3 := h.lay.snoc (w' := w1) hL hs.lt hc1.size
    have h4 := h3.set_ (w' := w2) (i := 5) (P := G.K) (P' := x :: G.K) rfl (fun y hy => by rcases List.mem_cons.1 hy with rfl | hy; exact .inr hx; exact .inl hy) (fun y hy => by
      rcases List.mem_cons.1 hy with rfl | hy
      · exact hxl
      · exact h2.lay.lt G.K (List.mem_of_getElem? (i := 5) rfl) y hy) hc2.size
    exact h4

/-- a change of names has been done and kept -/
theorem FsM.did {w w1 w' : World} {G : FsG} {S : St} {c : Chn} {v : Value} {A' : Option Addr} {c' : Nat} (h : FsM w G S) (hv : ChnV w G.ib G.K c v) (hcl : CloTo w G.t1 G.g1 G.ib (c.on S.seen) w1) (hc1 : Chg (G.b :: bo G.A) w1 w')
    (hb : Blk w' G.b 77 #[.map (some G.t1), .map (some G.t2), .slice A' (S.chs.length + 1) c', .slice G.Aw S.wr.length G.cw, .int .i64 S.quota, .int .i64 S.stop, .int .i64 ((S.steps + 1 : Nat) : Int)])
    (ho : Own w' 106 1 A' (S.chs.length + 1) c' (G.vs ++ [v])) (hA : ∀ x ∈ bo A', x ∈ bo G.A ∨ w1.heap.size ≤ x) : FsTo w G (S.make c) w' := by
  obtain ⟨⟨g', ht', hi', hsub⟩, hct⟩ := hcl
  have hm : ∀ (i : Nat) (P : List Nat), G.parts[i]? = some P → i ≠ 1 → ∀ x ∈ P, x ∉ tbl G.t1 G.g1 := fun i P hi hne x hx => h.lay.ne hi (j := 1) rfl hne x hx
  have hm2 : ∀ (i : Nat) (P : List Nat), G.parts[i]? = some P → i ≠ 0 → i ≠ 3 → ∀ x ∈ P, x ∉ G.b :: bo G.A := fun i P hi h0 h3 x hx hmem => by
    rcases List.mem_cons.1 hmem with rfl | hmem
    · exact h.lay.ne hi (j := 0) rfl h0 _ hx (by simp)
    · exact h.lay.ne hi (j := 3) rfl h3 x hx hmem
  have k1 : ∀ (i : Nat) (P : List Nat), G.parts[i]? = some P → i ≠ 0 → i ≠ 3 → i ≠ 1 → ∀ x ∈ P, x ∉ tbl G.t1 G.g1 ++ (G.b :: bo G.A) := fun i P hi h0 h3 h1 x hx hmem => by
    rcases List.mem_append.1 hmem with hmem | hmem
    · exact hm i P hi h1 x hx hmem
    · exact hm2 i P hi h0 h3 x hx hmem
  have hcc : Chg (tbl G.t1 G.g1 ++ (G.b :: bo G.A)) w w' := (hct.mono (fun x hx => .inl (List.mem_append_left _ hx))).trans hc1 (fun x hx => .inl (List.mem_append_right _ hx))
  have hlay1 := h.lay.set_ (w' := w1) (i := 1) (P' := tbl G.t1 g') rfl hsub ht'.lt hct.size
  have hlay2 := hlay1.set_ (w' := w') (i := 3) (P := bo G.A) (P' := bo A') rfl hA ho.lt hc1.size
  have htn : ∀ x ∈ tbl G.t1 g', x ∉ G.b :: bo G.A := fun x hx hmem => by
    rcases List.mem_cons.1 hmem with rfl | hmem
    · exact hlay1.ne (i := 1) (j := 0) (P := tbl G.t1 g') (Q := [G.b]) rfl rfl (by decide) _ hx (by simp)
    · exact hlay1.ne (i := 1) (j := 3) (P := tbl G.t1 g') (Q := bo G.A) rfl rfl (by decide) x hx hmem
  refine ⟨{ G with g1 := g', A := A', c := c', vs := G.vs ++ [v] }, ⟨?_, ht'.keep hc1 htn, hi', h.tr2.keep hcc (k1 2 _ rfl (by decide) (by decide) (by decide)), h.is2, ?_, ?_, h.wrs.chg hcc (k1 4 _ rfl (by decide) (by decide) (by decide)), h.ibl, h.sgl, h.lsl, h.ibn, h.ibk, ?_, hlay2⟩, rfl, ?_, ?_⟩
  · simpa [St.make] using hb
  · simpa [St.make] using ho
  · intro i c0 v0 e1 e2
    have hvl := h.vsl
    have hK : ∀ x ∈ G.K, x ∉ tbl G.t1 G.g1 ++ (G.b :: bo G.A) := k1 5 _ rfl (by decide) (by decide) (by decide)
    simp only [St.make] at e1 e2
    by_cases hil : i < S.chs.length
    · rw [List.getElem?_append_left (by omega)] at e1 e2
      exact (h.chn i c0 v0 e1 e2).keep hcc hK (fun _ h => h) (fun _ _ => rfl) (Nat.le_refl _)
    · have hie : i = S.chs.length := by
        have := (List.getElem?_eq_some_iff.1 e1).1
        simp at this; omega
      subst hie
      rw [List.getElem?_append_right (Nat.le_refl _), Nat.sub_self] at e1
      rw [List.getElem?_append_right (by omega), hvl, Nat.sub_self] at e2
      simp at e1 e2
      subst e1; subst e2
      exact hv.keep hcc hK (fun _ h => h) (fun _ _ => rfl) (Nat.le_refl _)
  · intro i x g L f e1 e2 e3 e4
    exact (h.ino i x g L f e1 e2 e3 e4).keep hcc (k1 5 _ rfl (by decide) (by decide) (by decide) x (h.ibk x (List.mem_of_getElem? e1))) (k1 (i + 6) L (by simpa [FsG.parts] using e3) (by omega) (by omega) (by omega))
  · intro x hx
    obtain ⟨P, hP, hx⟩ := List.mem_flatten.1 hx
    simp only [FsG.parts, List.mem_cons] at hP
    rcases hP with rfl | rfl | rfl | rfl | hP
    · exact .inl (FsG.mem_all (i := 0) rfl hx)
    · exact (hsub x hx).imp (fun h => FsG.mem_all (i := 1) rfl h) id
    · exact .inl (FsG.mem_all (i := 2) rfl hx)
    · exact (hA x hx).imp (fun h => FsG.mem_all (i := 3) rfl h) (fun h => Nat.le_trans hct.size h)
    · exact .inl (List.mem_flatten.2 ⟨P, by simp only [FsG.parts, List.mem_cons]; exact .inr (.inr (.inr (.inr hP))), hx⟩)
  · exact hcc.mono (fun x hx => .inl (by
      rcases List.mem_append.1 hx with hx | hx
      · exact FsG.mem_all (i := 1) rfl hx
      · rcases List.mem_cons.1 hx with rfl | hx
        · exact FsG.mem_all (i := 0) rfl (by simp)
        · exact FsG.mem_all (i := 3) rfl hx))
/-- what is new for a file system that has grown is new for the elder one -/
theorem FsTo.of {w w0 w' : World} {G G0 : FsG} {S' : St} (h : FsTo w0 G0 S' w') (hc : Chg [] w w0) (hb : G0.b = G.b) (hsub : ∀ x ∈ G0.all, x ∈ G.all ∨ w.heap.size ≤ x) : FsTo w G S' w' := by
  obtain ⟨G', h1, h2, h3, h4⟩ := h
  exact ⟨G', h1, h2.trans hb, fun x hx => by
    rcases h3 x hx with h | h
    · exact hsub x h
    · exact .inr (Nat.le_trans hc.size h), (hc.nil _).trans h4 hsub⟩
theorem FsG.all_addK {G : FsG} {x B : Nat} (hx : B ≤ x) : ∀ y ∈ FsG.all { G with K := x :: G.K }, y ∈ G.all ∨ B ≤ y := by
  intro y hy
  simp only [FsG.all, FsG.parts, List.flatten_cons, List.mem_append, List.mem_cons] at hy ⊢
  rcases hy with h | h | h | h | h | (rfl | h) | h
  · exact .inl (.inl h)
  · exact .inl (.inr (.inl h))
  · exact .inl (.inr (.inr (.inl h)))
  · exact .inl (.inr (.inr (.inr (.inl h))))
  · exact .inl (.inr (.inr (.inr (.inr (.inl h)))))
  · exact .inr hx
  · exact .inl (.inr (.inr (.inr (.inr (.inr (.inl h))))))
  · exact .inl (.inr (.inr (.inr (.inr (.inr (.inr h))))))
theorem FsG.all_addFile {G : FsG} {x g B : Nat} {L : List Nat} (hx : B ≤ x) (hL : ∀ k ∈ L, B ≤ k) : ∀ y ∈ FsG.all { G with K := x :: G.K, ib := G.ib ++ [x], sg := G.sg ++ [g], Ls := G.Ls ++ [L] }, y ∈ G.all ∨ B ≤ y := by
  intro y hy
  simp only [FsG.all, FsG.parts, List.flatten_cons, List.flatten_append, List.flatten_nil, List.append_nil, List.mem_append, List.mem_cons] at hy ⊢
  rcases hy with h | h | h | h | h | (rfl | h) | h | h
  · exact .inl (.inl h)
  · exact .inl (.inr (.inl h))
  · exact .inl (.inr (.inr (.inl h)))
  · exact .inl (.inr (.inr (.inr (.inl h))))
  · exact .inl (.inr (.inr (.inr (.inr (.inl h)))))
  · exact .inr hx
  · exact .inl (.inr (.inr (.inr (.inr (.inr (.inl h))))))
  · exact .inl (.inr (.inr (.inr (.inr (.inr (.inr h))))))
  · exact .inr (hL y h)
end Go.Proofs.Ytgomofeidghmiaa
