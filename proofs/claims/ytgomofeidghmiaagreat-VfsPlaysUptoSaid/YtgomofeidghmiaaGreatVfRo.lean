/-
  Layer 08: the document's Open.
-/
import Derived.Test.YtgomofeidghmiaaGreatVfJi
import Derived.Test.YtgomofeidghmiaaGreatVfJh
import Derived.Test.YtgomofeidghmiaaGreatVfOp
namespace Go.Proofs.YtgomofeidghmiaaGreat
open Go.RowKit

/-- the document's file system is told, in new memory; or an error -/
def NewRf (w : World) (D : Dsk) (quota stop : Int) (e : Ending) (w' : World) : Prop :=
  (openE D quota ≠ 0 ∧ e = .returned (.tuple #[.pointer none, .int .i64 (openE D quota)]) ∧ Chg [] w w') ∨
  (openE D quota = 0 ∧ ∃ R, e = .returned (.tuple #[.pointer (some ⟨R.b, 0, none⟩), .int .i64 0]) ∧ RfM w' R (openS D quota stop) ∧ (∀ x ∈ R.all, w.heap.size ≤ x) ∧ Chg [] w w')

/-- half open -/
structure RoM (w : World) (b : Nat) (sA : Option Addr) (sc : Nat) (rs : List RF) (fA : Option Addr) (fc : Nat) (sg : List Nat) (Ls : List (List Nat)) (fs : List Fil) (q a : Int) : Prop where
  blk : Blk w b 46 #[.slice sA rs.length sc, .slice none 0 0, .slice none 0 0, .slice fA fs.length fc, .slice none 0 0, .int .i64 q, .int .i64 a, .int .i64 0]
  row : Own w 106 2 sA rs.length sc (nsv (rnsl rs))
  fil : ∀ r ∈ rs, Own w 108 2 r.1.A r.1.n r.1.c (nmv r.2)
  fls : Own w 109 1 fA fs.length fc (sg.map pv8)
  lsl : Ls.length = fs.length
  spo : ∀ (i g : Nat) (L : List Nat) (f : Fil), sg[i]? = some g → Ls[i]? = some L → fs[i]? = some f → Rsp w g L f.1 f.2
  lay : Lay w ([b] :: bo sA :: bo fA :: rblk rs :: Ls)
theorem RoM.keep0 {w w' : World} {b : Nat} {sA : Option Addr} {sc : Nat} {rs : List RF} {fA : Option Addr} {fc : Nat} {sg : List Nat} {Ls : List (List Nat)} {fs : List Fil} {q a : Int} (h : RoM w b sA sc rs fA fc sg Ls fs q a) (hc : Chg [] w w') : RoM w' b sA sc rs fA fc sg Ls fs q a :=
  ⟨h.blk.chg hc List.not_mem_nil, h.row.chg hc (fun _ _ => List.not_mem_nil), fun r hr => (h.fil r hr).chg hc (fun _ _ => List.not_mem_nil), h.fls.chg hc (fun _ _ => List.not_mem_nil), h.lsl, fun i g L f e1 e2 e3 => (h.spo i g L f e1 e2 e3).chg hc (fun _ _ => List.not_mem_nil), h.lay.mono hc.size⟩
theorem RoM.sgl {w : World} {b : Nat} {sA : Option Addr} {sc : Nat} {rs : List RF} {fA : Option Addr} {fc : Nat} {sg : List Nat} {Ls : List (List Nat)} {fs : List Fil} {q a : Int} (h : RoM w b sA sc rs fA fc sg Ls fs q a) : sg.length = fs.length := by have := h.fls.1; simp at this; omega
/-- a file more: its Spool in new memory, the row and the struct turned -/
theorem RoM.file {w w1 w2 : World} {b : Nat} {sA : Option Addr} {sc : Nat} {rs : List RF} {fA : Option Addr} {fc : Nat} {sg : List Nat} {Ls : List (List Nat)} {fs : List Fil} {q a : Int} (h : RoM w b sA sc rs fA fc sg Ls fs q a)
    (hc1 : Chg [] w w1) {g : Nat} {L : List Nat} {f : List Int} (hL : ∀ k ∈ L, w.heap.size ≤ k) (hs : Rsp w1 g L f []) {fA' : Option Addr} {fc' : Nat} (hc2 : Chg (b :: bo fA) w1 w2)
    (hb : Blk w2 b 46 #[.slice sA rs.length sc, .slice none 0 0, .slice none 0 0, .slice fA' (fs.length + 1) fc', .slice none 0 0, .int .i64 q, .int .i64 a, .int .i64 0])
    (ho : Own w2 109 1 fA' (fs.length + 1) fc' ((sg ++ [g]).map pv8)) (hA : ∀ x ∈ bo fA', x ∈ bo fA ∨ w1.heap.size ≤ x) : RoM w2 b sA sc rs fA' fc' (sg ++ [g]) (Ls ++ [L]) (fs ++ [(f, [])]) q a := by
  have h1 := h.keep0 hc1
  have hl1 := h.lay.snoc (w' := w1) hL (hs.lt) hc1.size
  have hLL : ∀ x ∈ b :: bo fA, ∃ j P, j ∈ [0, 2] ∧ ([b] :: bo sA :: bo fA :: rblk rs :: (Ls ++ [L]))[j]? = some P ∧ x ∈ P := fun x hx => by
    rcases List.mem_cons.1 hx with rfl | hx
    · exact ⟨0, _, by simp, rfl, by simp⟩
    · exact ⟨2, _, by simp, rfl, hx⟩
  have hk := fun (i : Nat) (P : List Nat) (hi : ([b] :: bo sA :: bo fA :: rblk rs :: (Ls ++ [L]))[i]? = some P) (hne : i ∉ [0, 2]) => Lay.others (w := w1) hl1 hLL hi hne
  refine ⟨by simpa using hb, h1.row.chg hc2 (hk 1 _ rfl (by simp)), fun r hr => (h1.fil r hr).chg hc2 (fun k hkm => hk 3 _ rfl (by simp) k (List.mem_flatMap.2 ⟨r, hr, hkm⟩)), by simpa using ho, by simp [h.lsl], fun i g' L' f' e1 e2 e3 => ?_, ?_⟩
  · have l1 := h.sgl; have l2 := h.lsl
    by_cases hi : i < fs.length
    · rw [List.getElem?_append_left (by omega)] at e1 e2 e3
      exact (h1.spo i g' L' f' e1 e2 e3).chg hc2 (hk (i + 4) L' (by simpa using (List.getElem?_append_left (by omega) : (Ls ++ [L])[i]? = Ls[i]?).trans e2) (by simp))
    · have hie : i = fs.length := by
        have := (List.getElem?_eq_some_iff.1 e3).1
        simp at this; omega
      subst hie
      rw [List.getElem?_append_right (by omega), l1, Nat.sub_self] at e1
      rw [List.getElem?_append_right (by omega), l2, Nat.sub_self] at e2
      rw [List.getElem?_append_right (by omega), Nat.sub_self] at e3
      simp at e1 e2 e3
      subst e1; subst e2; subst e3
      exact hs.chg hc2 (hk (fs.length + 4) L (by simp [← l2]) (by simp))
  · have := hl1.set_ (w' := w2) (i := 2) (P := bo fA) (P' := bo fA') rfl hA ho.lt hc2.size
    exact this
/-- a directory more -/
theorem RoM.dir {w w2 : World} {b : Nat} {sA : Option Addr} {sc : Nat} {rs : List RF} {fA : Option Addr} {fc : Nat} {sg : List Nat} {Ls : List (List Nat)} {fs : List Fil} {q a : Int} (h : RoM w b sA sc rs fA fc sg Ls fs q a)
    {r : RF} {w0 : World} (hl0 : Lay w0 ([b] :: bo sA :: rblk rs :: [])) (hr0 : ∀ k ∈ bo r.1.A, w0.heap.size ≤ k) (hro : Own w 108 2 r.1.A r.1.n r.1.c (nmv r.2)) (hrl : ∀ k ∈ bo r.1.A, ∀ P ∈ bo fA :: Ls, k ∉ P) {sA' : Option Addr} {sc' : Nat} (hc2 : Chg (b :: bo sA) w w2)
    (hb : Blk w2 b 46 #[.slice sA' (rs.length + 1) sc', .slice none 0 0, .slice none 0 0, .slice fA fs.length fc, .slice none 0 0, .int .i64 q, .int .i64 a, .int .i64 0])
    (ho : Own w2 106 2 sA' (rs.length + 1) sc' (nsv (rnsl (rs ++ [r])))) (hA : ∀ x ∈ bo sA', x ∈ bo sA ∨ w.heap.size ≤ x) : RoM w2 b sA' sc' (rs ++ [r]) fA fc sg Ls fs q a := by
  have hLL : ∀ x ∈ b :: bo sA, ∃ j P, j ∈ [0, 1] ∧ ([b] :: bo sA :: bo fA :: rblk rs :: Ls)[j]? = some P ∧ x ∈ P := fun x hx => by
    rcases List.mem_cons.1 hx with rfl | hx
    · exact ⟨0, _, by simp, rfl, by simp⟩
    · exact ⟨1, _, by simp, rfl, hx⟩
  have hk := fun (i : Nat) (P : List Nat) (hi : ([b] :: bo sA :: bo fA :: rblk rs :: Ls)[i]? = some P) (hne : i ∉ [0, 1]) => Lay.others (w := w) h.lay hLL hi hne
  have hrn : ∀ k ∈ bo r.1.A, k ∉ b :: bo sA := fun k hkr hm => by
    have h1 := hr0 k hkr
    rcases List.mem_cons.1 hm with rfl | hm
    · have := hl0.lt [k] (by simp) k (by simp); omega
    · have := hl0.lt (bo sA) (by simp) k hm; omega
  refine ⟨by simpa using hb, by simpa using ho, fun x hx => ?_, h.fls.chg hc2 (hk 2 _ rfl (by simp)), h.lsl, fun i g' L' f' e1 e2 e3 => (h.spo i g' L' f' e1 e2 e3).chg hc2 (hk (i + 4) L' (by simpa using e2) (by simp)), ?_⟩
  · rcases List.mem_append.1 hx with hx | hx
    · exact (h.fil x hx).chg hc2 (fun k hkm => hk 3 _ rfl (by simp) k (List.mem_flatMap.2 ⟨x, hx, hkm⟩))
    · simp only [List.mem_singleton] at hx
      subst hx
      exact hro.chg hc2 hrn
  · have h3 : Lay w ([b] :: bo sA :: bo fA :: rblk (rs ++ [r]) :: Ls) := by
      have hs := h.lay.sep
      simp only [Sep, List.pairwise_cons] at hs
      obtain ⟨s0, s1, s2, s3, s4⟩ := hs
      have hb0 := hl0.lt
      refine ⟨?_, fun P hP x hx => ?_⟩
      · simp only [Sep, List.pairwise_cons]
        refine ⟨fun P hP x hx hm => ?_, fun P hP x hx hm => ?_, fun P hP x hx hm => ?_, fun P hP x hx hm => ?_, s4⟩
        · simp only [List.mem_cons] at hP
          rcases hP with rfl | rfl | rfl | hP
          · exact s0 _ (by simp) x hx hm
          · exact s0 _ (by simp) x hx hm
          · rw [rblk_snoc] at hm
            rcases List.mem_append.1 hm with hm | hm
            · exact s0 _ (by simp) x hx hm
            · have h1 := hr0 x hm; have := hb0 [b] (by simp) x hx; omega
          · exact s0 P (by simp [hP]) x hx hm
        · simp only [List.mem_cons] at hP
          rcases hP with rfl | rfl | hP
          · exact s1 _ (by simp) x hx hm
          · rw [rblk_snoc] at hm
            rcases List.mem_append.1 hm with hm | hm
            · exact s1 _ (by simp) x hx hm
            · have h1 := hr0 x hm; have := hb0 (bo sA) (by simp) x hx; omega
          · exact s1 P (by simp [hP]) x hx hm
        · simp only [List.mem_cons] at hP
          rcases hP with rfl | hP
          · rw [rblk_snoc] at hm
            rcases List.mem_append.1 hm with hm | hm
            · exact s2 _ (by simp) x hx hm
            · exact hrl x hm _ (by simp) hx
          · exact s2 P (by simp [hP]) x hx hm
        · rw [rblk_snoc] at hx
          rcases List.mem_append.1 hx with hx | hx
          · exact s3 P hP x hx hm
          · exact hrl x hx P (by simp [hP]) hm
      · simp only [List.mem_cons] at hP
        rcases hP with rfl | rfl | rfl | rfl | hP
        · exact h.lay.lt _ (by simp) x hx
        · exact h.lay.lt _ (by simp) x hx
        · exact h.lay.lt _ (by simp) x hx
        · rw [rblk_snoc] at hx
          rcases List.mem_append.1 hx with hx | hx
          · exact h.lay.lt (rblk rs) (by simp) x hx
          · exact hro.lt x hx
        · exact h.lay.lt P (by simp [hP]) x hx
    have := h3.set_ (w' := w2) (i := 1) (P := bo sA) (P' := bo sA') rfl hA ho.lt hc2.size
    exact this
theorem Lay.sub {w : World} {Ps Qs : List (List Nat)} (h : Lay w Ps) (hs : Qs.Sublist Ps) : Lay w Qs := ⟨List.Pairwise.sublist hs h.sep, fun P hP => h.lt P (hs.subset hP)⟩
/-- whole -/
theorem RoM.done {w w3 w4 : World} {b : Nat} {sA : Option Addr} {sc : Nat} {rs : List RF} {fA : Option Addr} {fc : Nat} {sg : List Nat} {Ls : List (List Nat)} {fs : List Fil} {q a : Int} (h : RoM w b sA sc rs fA fc sg Ls fs q a)
    (hc : Chg [] w w3) {pA : Option Addr} {pc n : Nat} {ps : List RF} (hrn : rs.length = n) (hT : RTree w3 pA n pc ps) (hpv : rval ps = rval rs) (hnew : ∀ k ∈ bo pA ++ rblk ps, w.heap.size ≤ k ∧ k < w3.heap.size) (hc4 : Chg [b] w3 w4)
    (hb : Blk w4 b 46 #[.slice sA n sc, .slice pA n pc, .slice none 0 0, .slice fA fs.length fc, .slice none 0 0, .int .i64 q, .int .i64 a, .int .i64 0]) :
    RfM w4 ⟨b, sA, sc, rs, pA, pc, ps, none, 0, fA, fc, none, 0, bo sA ++ rblk rs ++ (bo pA ++ rblk ps), sg, Ls⟩ ⟨rval rs, rval rs, [], fs, [], q, a, 0⟩ := by
  have hl := h.lay
  have h3 := h.keep0 hc
  have hln : (rval rs).length = n := by simp [rval, hrn]
  have hbl := h.blk.lt
  have hnb : ∀ (i : Nat) (P : List Nat), ([b] :: bo sA :: bo fA :: rblk rs :: Ls)[i + 1]? = some P → ∀ x ∈ P, x ∉ [b] := fun i P hi x hx hm => hl.ne (i := 0) (j := i + 1) rfl hi (by omega) x hm hx
  have hsn : RTree w4 sA n sc rs := ⟨by have := (h3.row.chg hc4 (hnb 0 _ rfl)).rd; rw [hrn] at this; exact this, fun r hr => ((h3.fil r hr).chg hc4 (fun k hk => hnb 2 _ rfl k (List.mem_flatMap.2 ⟨r, hr, hk⟩))).rd⟩
  refine ⟨by simpa [hln] using hb, by rw [hln]; exact hsn, rfl, fun k hk => List.mem_append_left _ hk, by rw [hln]; exact hT.chg hc4 (fun k hk hm => by have := (hnew k hk).1; simp at hm; omega), hpv, fun k hk => List.mem_append_right _ hk, Own.nil _ _ _, h3.fls.chg hc4 (hnb 1 _ rfl), Own.nil _ _ _, h.lsl, fun i g L f e1 e2 e3 => (h3.spo i g L f e1 e2 e3).chg hc4 (hnb (i + 3) L (by simpa using e2)), ?_⟩
  have hlt : ∀ P ∈ ([b] :: bo sA :: bo fA :: rblk rs :: Ls), ∀ x ∈ P, x < w4.heap.size := fun P hP x hx => Nat.lt_of_lt_of_le (hl.lt P hP x hx) (Nat.le_trans hc.size hc4.size)
  have hs := hl.sep
  simp only [Sep, List.pairwise_cons] at hs
  obtain ⟨s0, s1, s2, s3, s4⟩ := hs
  refine ⟨?_, fun P hP x hx => ?_⟩
  · simp only [Sep, RfG.parts, List.pairwise_cons, bo_none]
    refine ⟨fun P hP x hx hm => ?_, by simp, fun P hP x hx hm => ?_, by simp, fun P hP x hx hm => ?_, s4⟩
    · simp only [List.mem_cons] at hP
      rcases hP with rfl | rfl | rfl | rfl | hP
      · simp at hm
      · exact s0 _ (by simp) x hx hm
      · simp at hm
      · rcases List.mem_append.1 hm with hm | hm
        · rcases List.mem_append.1 hm with hm | hm
          · exact s0 (bo sA) (by simp) x hx hm
          · exact s0 (rblk rs) (by simp) x hx hm
        · have := (hnew x hm).1; simp at hx; omega
      · exact s0 P (by simp [hP]) x hx hm
    · simp only [List.mem_cons] at hP
      rcases hP with rfl | rfl | hP
      · simp at hm
      · rcases List.mem_append.1 hm with hm | hm
        · rcases List.mem_append.1 hm with hm | hm
          · exact s1 (bo fA) (by simp) x hm hx
          · exact s2 (rblk rs) (by simp) x hx hm
        · have h1 := (hnew x hm).1; have h2 := hl.lt (bo fA) (by simp) x hx; omega
      · exact s2 P (by simp [hP]) x hx hm
    · rcases List.mem_append.1 hx with hx | hx
      · rcases List.mem_append.1 hx with hx | hx
        · exact s1 P (by simp [hP]) x hx hm
        · exact s3 P hP x hx hm
      · have h1 := (hnew x hx).1; have h2 := hl.lt P (by simp [hP]) x hm; omega
  · simp only [RfG.parts, List.mem_cons, bo_none] at hP
    rcases hP with rfl | rfl | rfl | rfl | rfl | hP
    · exact hlt [b] (by simp) x hx
    · simp at hx
    · exact hlt (bo fA) (by simp) x hx
    · simp at hx
    · rcases List.mem_append.1 hx with hx | hx
      · rcases List.mem_append.1 hx with hx | hx
        · exact hlt (bo sA) (by simp) x hx
        · exact hlt (rblk rs) (by simp) x hx
      · exact Nat.lt_of_lt_of_le (hnew x hx).2 hc4.size
    · exact hlt P (by simp [hP]) x hx
end Go.Proofs.YtgomofeidghmiaaGreat
