/-
  Layer 08: SyncNames, Dirs, List, Read.
-/
import Derived.Test.YtgomofeidghmiaaGreatVfJd
import Derived.Test.YtgomofeidghmiaaGreatVfJb
namespace Go.Proofs.YtgomofeidghmiaaGreat
open Go.RowKit

/-- new memory, and a number -/
def NewRowE (e : TypeId) (w : World) (xs : List Value) (n : Nat) (code : Int) (en : Ending) (w' : World) : Prop :=
  ∃ A c, en = .returned (.tuple #[.slice A n c, .int .i64 code]) ∧ Own w' e 1 A n c xs ∧ Chg [] w w' ∧ ∀ k ∈ bo A, w.heap.size ≤ k

/-- the parts but one are as they were -/
theorem Lay.others {w : World} {Ps : List (List Nat)} (h : Lay w Ps) {L : List Nat} {is : List Nat} (hL : ∀ x ∈ L, ∃ j P, j ∈ is ∧ Ps[j]? = some P ∧ x ∈ P) {i : Nat} {P : List Nat} (hi : Ps[i]? = some P) (hn : i ∉ is) : ∀ x ∈ P, x ∉ L := by
  intro x hx hm
  obtain ⟨j, Q, hj, hQ, hxq⟩ := hL x hm
  exact h.ne hi hQ (fun e => hn (e ▸ hj)) x hx hxq

theorem names_keep {S : St} : S.names = if S.ask false [] ≠ 0 then (S, S.ask false []) else ({ S with safe := S.seen, chs := [], steps := S.steps + 1 }, 0) := by
  unfold St.names St.ask
  cases hd : S.down <;> simp

set_option maxRecDepth 100000 in
set_option maxHeartbeats 3200000 in
theorem names_st {w : World} {G : FsG} {S : St} {B : Nat} (h : FsM w G S) (hi : Inv B S) (hB : B ≤ 1073741824) :
    Calls Tryz.prog 32 #[.pointer (some ⟨G.b, 0, none⟩)] w fun e w' => e = .returned (.int .i64 S.names.2) ∧ FsTo w G S.names.1 w' := by
  have HF := Lib.hid h
  have HI := Lib.hid hi
  have hwt : IntKind.i64.wrap ((S.steps : Int) + 1) = ((S.steps + 1 : Nat) : Int) := by have := hi.st; rw [IntKind.wrap_i64]; omega
  clear h hi hB
  go_enter Tryz.func32, Tryz.ntmps32
  go_wp2_with fail
  refine (ask_st HF.out false none 0 0 [] (Rd.nil w 1) (by decide) (by simp)).mono ?_
  rintro e w1 ⟨rfl, hc1⟩
  have HC1 := Lib.hid hc1
  obtain ⟨E, hE⟩ : ∃ E, S.ask false [] = E := ⟨_, rfl⟩
  rw [hE]
  have HE := Lib.hid hE
  clear hE
  by_cases h : E = 0
  · subst h
    have HF1 := Lib.hid (HF.out.keep0 hc1)
    have h0 := HF1.out.blk.cell 0
    simp at h0
    have HR : Hid (S.names = ({ S with safe := S.seen, chs := [], steps := S.steps + 1 }, 0)) := Lib.hid (by rw [names_keep, if_neg (by rw [HE.out]; simp)])
    clear hc1
    go_wp2_with fail
    refine (tclone_any w1 G.t1 G.g1 HF1.out.tr1).mono ?_
    rintro e w2 ⟨ob, g', rfl, htr, hnew, hc2, hcp⟩
    have HF2 := Lib.hid (HF1.out.keep0 hc2)
    have c1 := HF2.out.blk.frozen 1
    have x1 := HF2.out.blk.cell 1
    have x2 := HF2.out.blk.cell 2
    simp at x1 x2
    have hb2 := HF2.out.blk.set_ 1 (.map (some ob))
    have c2 := hb2.frozen 2
    have hb3 := hb2.set_ 2 (.slice none 0 0)
    have c6 := hb3.cell 6
    have f6 := hb3.frozen 6
    have hb4 := hb3.set_ 6 (.int .i64 ((S.steps + 1 : Nat) : Int))
    simp at c6
    have HB4 := Lib.hid hb4
    have HTR := Lib.hid htr
    have HN := Lib.hid hnew
    have HC2 := Lib.hid hc2
    have HCP := Lib.hid hcp
    clear htr hnew hc2 hcp hb2 hb3 hb4
    go_wp2
    go_ret
    refine ⟨by rw [HR.out]; rfl, ?_⟩
    rw [HR.out]
    have hF := HF2.out
    obtain ⟨w3, hw3⟩ : ∃ w3, ((w2.setCell ⟨G.b, 1, none⟩ (.map (some ob))).setCell ⟨G.b, 2, none⟩ (.slice none 0 0)).setCell ⟨G.b, 6, none⟩ (.int .i64 ((S.steps + 1 : Nat) : Int)) = w3 := ⟨_, rfl⟩
    have hb := HB4.out
    have hch : Chg [G.b] w2 w3 := by rw [← hw3]; exact (((Chg.refl [G.b] w2).setCell (.inl (by simp)) _).setCell (.inl (by simp)) _).setCell (.inl (by simp)) _
    have hw3' := hw3
    rw [hw3'] at hb
    show FsTo w G _ (((w2.setCell ⟨G.b, 1, none⟩ (.map (some ob))).setCell ⟨G.b, 2, none⟩ (.slice none 0 0)).setCell ⟨G.b, 6, none⟩ (.int .i64 ((S.steps + 1 : Nat) : Int)))
    rw [hw3]
    have hL : ∀ x ∈ [G.b], ∃ j P, j ∈ [0] ∧ G.parts[j]? = some P ∧ x ∈ P := fun x hx => ⟨0, [G.b], by simp, rfl, hx⟩
    have ho := fun (i : Nat) (P : List Nat) (hi : G.parts[i]? = some P) (hne : i ∉ [0]) => hF.lay.others hL hi hne
    have hG2 := HF1.out.lay.set_ (w' := w2) (i := 2) (P' := tbl ob g') rfl (fun x hx => .inr (HN.out x hx)) HTR.out.lt HC2.out.size
    have hG3 := hG2.set_ (w' := w3) (i := 3) (P := bo G.A) (P' := []) rfl (by simp) (by simp) hch.size
    refine ⟨{ G with t2 := ob, g2 := g', A := none, c := 0, vs := [] }, ⟨by simpa using hb, hF.tr1.keep hch (ho 1 _ rfl (by simp)), hF.is1, HTR.out.keep hch (fun x hx hm => ?_), hF.is1.copied HCP.out, Own.nil _ _ _, ?_, hF.wrs.chg hch (ho 4 _ rfl (by simp)), hF.ibl, hF.sgl, hF.lsl, hF.ibn, hF.ibk, ?_, hG3⟩, rfl, ?_, ?_⟩
    · exact hG2.ne (i := 2) (j := 0) (P := tbl ob g') (Q := [G.b]) rfl rfl (by decide) x hx hm
    · intro i c v e1 e2; simp at e1
    · intro i x g L f e1 e2 e3 e4
      exact (hF.ino i x g L f e1 e2 e3 e4).keep hch (ho 5 _ rfl (by simp) x (hF.ibk x (List.mem_of_getElem? e1))) (ho (i + 6) L (by simpa [FsG.parts] using e3) (by simp))
    · intro x hx
      obtain ⟨P, hP, hx⟩ := List.mem_flatten.1 hx
      simp only [FsG.parts, List.mem_cons] at hP
      rcases hP with rfl | rfl | rfl | rfl | hP
      · exact .inl (FsG.mem_all (i := 0) rfl hx)
      · exact .inl (FsG.mem_all (i := 1) rfl hx)
      · exact .inr (Nat.le_trans HC1.out.size (HN.out x hx))
      · simp at hx
      · exact .inl (List.mem_flatten.2 ⟨P, by simp only [FsG.parts, List.mem_cons]; exact .inr (.inr (.inr (.inr hP))), hx⟩)
    · exact (((HC1.out.trans0 HC2.out).nil [G.b]).trans hch (fun x hx => .inl hx)).mono (fun x hx => .inl (FsG.mem_all (i := 0) rfl hx))
  · have hb : (E != 0) = true := by simp [h]
    have HR : Hid (S.names = (S, E)) := Lib.hid (by rw [names_keep, HE.out, if_pos h])
    clear h
    go_wp2
    go_ret
    exact ⟨by rw [HR.out]; rfl, by rw [HR.out]; exact FsTo.same HF.out HC1.out⟩

theorem dirs_keep {S : St} : S.dirs = if S.ask false [] ≠ 0 then ([], S.ask false []) else (S.seen.map Prod.fst, 0) := by
  unfold St.dirs St.ask
  cases hd : S.down <;> simp
theorem len_le_maxLen {x : ByteArray} (h : goodP x = true) : x.size ≤ maxLen := by have := good_size h; unfold maxLen; omega

/-- slices.Sorted(maps.Keys(t)): the directories' names in order -/
theorem tkeys_sorted {w w0 : World} {tb : Nat} {g : GTr} {ib : List Nat} {T : Tr} {m : Nat} (ht : Tree w0 tb g) (hi : TreeIs ib g T) (hv : Val m T) (hl : T.length ≤ 1073741824) (hw : w = w0) :
    Calls Tryz.prog 80 #[.func (.func 100) #[] #[.pointer (some ⟨w0.heap.size, 0, none⟩)]] (w.alloc (.cells #[.map (some tb)] 88)) (NewRow 9 1 w0 (svs (T.map Prod.fst)) T.length) := by
  subst hw
  have hp := hi.keys ht.nodup hv.srt
  have hlen : (tval g).length = T.length := by have := hp.length_eq; simpa [tval] using this
  have hs : srt ((tval g).map Prod.fst) = T.map Prod.fst := srt_eq (by rw [tval_fst]; exact hp) hv.srt
  have := tsorted_any w tb (tval g) ht.top (fun p hp2 => by
    have : p.1 ∈ T.map Prod.fst := hp.mem_iff.1 (by rw [← tval_fst]; exact List.mem_map.2 ⟨p, hp2, rfl⟩)
    obtain ⟨q, hq, e⟩ := List.mem_map.1 this
    rw [← e]; exact len_le_maxLen (hv.nm q hq)) (by omega)
  rw [hs, hlen] at this
  refine this.mono ?_
  rintro e w' ⟨A, c, rfl, ho, hc, hn⟩
  exact ⟨A, c, rfl, ho, (((Chg.refl [] w).alloc _).trans0 hc), fun k hk => Nat.le_trans (by simp) (hn k hk)⟩
/-- slices.Sorted(maps.Keys(t[n])): a directory's files' names in order -/
theorem fkeys_sorted {w w0 : World} {fb : Nat} {f : List (ByteArray × Nat)} {ib : List Nat} {F : Fol} (hf : Mp w0 fb kvS (fval f)) (hi : ∀ n, aget f n = (aget F n).map (ibf ib)) (hs : Srt F) (hg : ∀ q ∈ F, goodP q.1 = true) (hl : F.length ≤ 1073741824) (hw : w = w0) :
    Calls Tryz.prog 80 #[.func (.func 99) #[] #[.pointer (some ⟨w0.heap.size, 0, none⟩)]] (w.alloc (.cells #[.map (some fb)] 94)) (NewRow 9 1 w0 (svs (F.map Prod.fst)) F.length) := by
  subst hw
  have hn : (f.map Prod.fst).Nodup := by rw [← fval_fst]; exact hf.nodup
  have hp := fol_keys hi hn hs
  have hlen : (fval f).length = F.length := by have := hp.length_eq; simpa [fval] using this
  have hs : srt ((fval f).map Prod.fst) = F.map Prod.fst := srt_eq (by rw [fval_fst]; exact hp) hs
  have := fsorted_any w fb (fval f) hf (fun p hp2 => by
    have : p.1 ∈ F.map Prod.fst := hp.mem_iff.1 (by rw [← fval_fst]; exact List.mem_map.2 ⟨p, hp2, rfl⟩)
    obtain ⟨q, hq, e⟩ := List.mem_map.1 this
    rw [← e]; exact len_le_maxLen (hg q hq)) (by omega)
  rw [hs, hlen] at this
  refine this.mono ?_
  rintro e w' ⟨A, c, rfl, ho, hc, hn⟩
  exact ⟨A, c, rfl, ho, (((Chg.refl [] w).alloc _).trans0 hc), fun k hk => Nat.le_trans (by simp) (hn k hk)⟩

set_option maxRecDepth 100000 in
set_option maxHeartbeats 3200000 in
theorem dirs_st {w : World} {G : FsG} {S : St} {B : Nat} (h : FsM w G S) (hi : Inv B S) (hB : B ≤ 1073741824) :
    Calls Tryz.prog 37 #[.pointer (some ⟨G.b, 0, none⟩)] w (NewRowE 9 w (svs S.dirs.1) S.dirs.1.length S.dirs.2) := by
  have HF := Lib.hid h
  have HI := Lib.hid hi
  have HB := Lib.hid (show S.seen.length ≤ 1073741824 by have := hi.wd; have := wd_len S.seen; omega)
  clear h hi hB
  go_enter Tryz.func37, Tryz.ntmps37
  go_wp2_with fail
  refine (ask_st HF.out false none 0 0 [] (Rd.nil w 1) (by decide) (by simp)).mono ?_
  rintro e w1 ⟨rfl, hc1⟩
  have HC1 := Lib.hid hc1
  obtain ⟨E, hE⟩ : ∃ E, S.ask false [] = E := ⟨_, rfl⟩
  rw [hE]
  have HE := Lib.hid hE
  clear hE
  by_cases h : E = 0
  · subst h
    have HF1 := Lib.hid (HF.out.keep0 hc1)
    have h0 := HF1.out.blk.cell 0
    simp at h0
    have HR : Hid (S.dirs = (S.seen.map Prod.fst, 0)) := Lib.hid (by rw [dirs_keep, if_neg (by rw [HE.out]; simp)])
    clear hc1
    go_wp2_with fail
    refine (tkeys_any (some G.t1) w1).mono ?_
    rintro e w2 ⟨rfl, hw2⟩
    have HW2 := Lib.hid hw2
    clear hw2
    go_wp2_with fail
    rw [HW2.out]
    refine (tkeys_sorted HF1.out.tr1 HF1.out.is1 HI.out.val HB.out rfl).mono ?_
    rintro e w3 ⟨A, c, rfl, ho, hc3, hn3⟩
    have HO := Lib.hid ho
    have HC3 := Lib.hid hc3
    have HN3 := Lib.hid hn3
    clear ho hc3 hn3
    go_wp2
    go_ret2
    rw [HR.out]
    refine ⟨A, c, by rw [List.length_map]; rfl, by rw [List.length_map]; exact HO.out, HC1.out.trans0 HC3.out, fun k hk => Nat.le_trans HC1.out.size (HN3.out k hk)⟩
  · have hb : (E != 0) = true := by simp [h]
    have HR : Hid (S.dirs = ([], E)) := Lib.hid (by rw [dirs_keep, HE.out, if_pos h])
    clear h
    go_wp2
    go_ret2
    rw [HR.out]
    exact ⟨none, 0, rfl, Own.nil _ _ _, HC1.out, by simp⟩

set_option maxRecDepth 100000 in
set_option maxHeartbeats 3200000 in
theorem list_st {w : World} {G : FsG} {S : St} {B : Nat} (h : FsM w G S) (hi : Inv B S) (hB : B ≤ 1073741824) (d : ByteArray) :
    Calls Tryz.prog 36 #[.pointer (some ⟨G.b, 0, none⟩), .string d] w (NewRowE 9 w (svs (S.list d).1) (S.list d).1.length (S.list d).2) := by
  have HF := Lib.hid h
  have HI := Lib.hid hi
  have HB := Lib.hid (show ∀ p ∈ S.seen, p.2.length ≤ 1073741824 from fun p hp => by have := hi.wd; have := wd_sub hp; omega)
  clear h hi hB
  go_enter Tryz.func36, Tryz.ntmps36
  go_wp2_with fail
  have hal : Chg [] w (w.alloc (.cells #[.string d] 9)) := (Chg.refl _ _).alloc _
  refine (ask_st (HF.out.keep0 hal) true _ 1 1 [d] (by simpa [svs] using (Own.lit w 9 1 #[.string d] 1 (by decide) rfl).rd) (by decide) (by simp)).mono ?_
  rintro e w1 ⟨rfl, hc1⟩
  have HC1 := Lib.hid (hal.trans0 hc1)
  clear hc1 hal
  obtain ⟨E, hE⟩ : ∃ E, S.ask true [d] = E := ⟨_, rfl⟩
  rw [hE]
  have HE := Lib.hid hE
  clear hE
  by_cases h : E = 0
  · subst h
    have HF1 := Lib.hid (HF.out.keep0 HC1.out)
    obtain ⟨F, hF⟩ := (ask_good HE.out).2.2 rfl
    simp only [List.headD_cons] at hF
    obtain ⟨g, hg, hsub⟩ := HF.out.is1.get hF
    have h0 := HF1.out.blk.cell 0
    simp at h0
    have hl := (Mp.lookup HF1.out.tr1.top (string_key Tryz.underlying9) Tryz.underlying88 (z := .map none) (by kernel_rfl) d).1
    simp only [aget_tval, hg, Option.map_some, Option.getD_some] at hl
    have HSUB := Lib.hid hsub
    have HFF := Lib.hid hF
    have HG := Lib.hid hg
    have HR : Hid (S.list d = (F.map Prod.fst, 0)) := Lib.hid (by unfold St.list; rw [if_neg (by rw [HE.out]; simp), fol_some hF])
    clear hsub hF hg
    go_wp2_with fail
    refine (fkeys_any (some g.1) w1).mono ?_
    rintro e w2 ⟨rfl, hw2⟩
    have HW2 := Lib.hid hw2
    clear hw2
    go_wp2_with fail
    rw [HW2.out]
    refine (fkeys_sorted (HF1.out.tr1.sub _ (aget_mem HG.out)) HSUB.out (HI.out.val.sub _ (aget_mem HFF.out)) (HI.out.val.nms _ (aget_mem HFF.out)) (HB.out _ (aget_mem HFF.out)) rfl).mono ?_
    rintro e w3 ⟨A, c, rfl, ho, hc3, hn3⟩
    have HO := Lib.hid ho
    have HC3 := Lib.hid hc3
    have HN3 := Lib.hid hn3
    clear ho hc3 hn3
    go_wp2
    go_ret2
    rw [HR.out]
    refine ⟨A, c, by rw [List.length_map]; rfl, by rw [List.length_map]; exact HO.out, HC1.out.trans0 HC3.out, fun k hk => Nat.le_trans HC1.out.size (HN3.out k hk)⟩
  · have hb : (E != 0) = true := by simp [h]
    have HR : Hid (S.list d = ([], E)) := Lib.hid (by unfold St.list; rw [HE.out, if_pos h])
    clear h
    go_wp2
    go_ret2
    rw [HR.out]
    exact ⟨none, 0, rfl, Own.nil _ _ _, HC1.out, by simp⟩

theorem FsM.spo {w : World} {G : FsG} {S : St} (h : FsM w G S) {i : Nat} (hi : i < S.files.length) : ∃ g L, G.Ls[i]? = some L ∧ Blk w (ibf G.ib i) 98 #[.pointer (some ⟨g, 0, none⟩)] ∧ Spo w g L (S.files.getD i ([], [])).1 (S.files.getD i ([], [])).2 ∧ G.sg[i]? = some g ∧ G.ib[i]? = some (ibf G.ib i) := by
  have hf : S.files[i]? = some S.files[i] := List.getElem?_eq_getElem hi
  obtain ⟨x, g, L, h1, h2, h3, h4, h5⟩ := h.at_ hf
  refine ⟨g, L, h3, by rw [ibf_at h1]; exact h4, ?_, h2, by rw [ibf_at h1]; exact h1⟩
  rw [List.getD_eq_getElem?_getD, hf]
  exact h5
theorem Inv.fil {B : Nat} {S : St} (h : Inv B S) (i : Nat) : (S.files.getD i ([], [])).1.length + (S.files.getD i ([], [])).2.flatten.length ≤ B ∧ (S.files.getD i ([], [])).2.length ≤ B := by
  rw [List.getD_eq_getElem?_getD]
  cases hf : S.files[i]? with
  | none => simp
  | some f =>
    have h1 := fil_le (List.mem_of_getElem? hf)
    have h2 := h.bulk
    simp only [Option.getD_some, Fil.all, List.length_append] at h1 ⊢
    omega
theorem fnd_lt {B : Nat} {S : St} (h : Inv B S) {d n : ByteArray} {x : Nat} {e : Int} (hf : S.fnd d n = (some x, e)) : x < S.files.length := by
  obtain ⟨_, _, F, hF, hx⟩ := fnd_good hf
  exact h.val.ids _ (aget_mem hF) _ (aget_mem hx)

set_option maxRecDepth 100000 in
set_option maxHeartbeats 3200000 in
theorem read_st {w : World} {G : FsG} {S : St} {B : Nat} (h : FsM w G S) (hi : Inv B S) (hB : B ≤ 1073741824) (d n : ByteArray) :
    Calls Tryz.prog 28 #[.pointer (some ⟨G.b, 0, none⟩), .string d, .string n] w (NewRowE 5 w (bv (S.read d n).1) (S.read d n).1.length (S.read d n).2) := by
  have HF := Lib.hid h
  have HI := Lib.hid hi
  have HB := Lib.hid hB
  clear h hi hB
  go_enter Tryz.func28, Tryz.ntmps28
  go_wp2_with fail
  refine (find_st HF.out d n).mono ?_
  rintro e w1 ⟨rfl, hc1⟩
  have HC1 := Lib.hid hc1
  obtain ⟨o, E, hE⟩ : ∃ o E, S.fnd d n = (o, E) := ⟨_, _, rfl⟩
  rw [hE]
  have HE := Lib.hid hE
  cases o with
  | some x =>
    obtain ⟨he0, hd0, F, hF, hx⟩ := fnd_good hE
    subst he0
    obtain ⟨g, L, _, hb, hs, _⟩ := (HF.out.keep0 hc1).spo (fnd_lt HI.out hE)
    have c0 := hb.cell 0
    simp at c0
    have HS := Lib.hid hs
    have HR : Hid (S.read d n = (S.bytes x, 0)) := Lib.hid (by unfold St.read; rw [HE.out])
    clear hF hE hx hd0 hb hs hc1
    simp only [findV, Option.map_some]
    go_wp2_with fail
    refine (seen_any g L _ _ w1 HS.out (by have := (HI.out.fil x).1; have := HB.out; omega) (S.bytes x).length rfl).mono ?_
    rintro e w2 ⟨A, c, rfl, ho, hc2, hn⟩
    have HO := Lib.hid ho
    have HC2 := Lib.hid hc2
    have HN := Lib.hid hn
    clear ho hc2 hn
    go_wp2
    go_ret2
    rw [HR.out]
    exact ⟨A, c, rfl, HO.out, HC1.out.trans0 HC2.out, fun k hk => Nat.le_trans HC1.out.size (HN.out k hk)⟩
  | none =>
    have hb : (E != 0) = true := by simpa using fnd_bad hE
    have HR : Hid (S.read d n = ([], E)) := Lib.hid (by unfold St.read; rw [HE.out])
    clear hE
    simp only [findV, Option.map_none]
    go_wp2
    go_ret2
    rw [HR.out]
    exact ⟨none, 0, rfl, Own.nil _ _ _, HC1.out, by simp⟩
end Go.Proofs.YtgomofeidghmiaaGreat
