/-
  Layer 08, plain: a disk opened; the program's file system half open in memory.
  Layer 08: the program's file system half open in memory.
-/
import Derived.Test.YtgomofeidghmiaaGreatVfR
import Derived.Test.YtgomofeidghmiaaGreatVfJa
namespace Go.Proofs.YtgomofeidghmiaaGreat
open Go.RowKit

def noS : ByteArray := { data := #[] }
/-- a directory's files: the first error -/
def filesE (f : Bool) (last : ByteArray) : List (ByteArray × List Int) → Int
  | [] => 0
  | x :: r => if ordE f last x.1 ≠ 0 then ordE f last x.1 else filesE false x.1 r
/-- a disk: the first error -/
def dirsE (f : Bool) (last : ByteArray) : Dsk → Int
  | [] => 0
  | d :: r => if ordE f last d.1 ≠ 0 then ordE f last d.1 else if filesE true noS d.2 ≠ 0 then filesE true noS d.2 else dirsE false d.1 r
def openE (D : Dsk) (quota : Int) : Int := if quota < 0 then 2 else dirsE true noS D
def numF (n : Nat) : List (ByteArray × List Int) → Fol
  | [] => []
  | x :: r => (x.1, n) :: numF (n + 1) r
def numT (n : Nat) : Dsk → Tr
  | [] => []
  | d :: r => (d.1, numF n d.2) :: numT (n + d.2.length) r
def cnt8 (D : Dsk) : Nat := (D.map fun d => d.2.length).sum
def fls (D : Dsk) : List Fil := D.flatMap fun d => d.2.map fun x => (x.2, [])
def openS (D : Dsk) (quota stop : Int) : St := ⟨numT 0 D, numT 0 D, [], fls D, [], quota, stop, 0⟩

theorem numF_snoc (n : Nat) (l : List (ByteArray × List Int)) (x : ByteArray × List Int) : numF n (l ++ [x]) = numF n l ++ [(x.1, n + l.length)] := by
  induction l generalizing n with
  | nil => rfl
  | cons y r ih => simp [numF, ih]; omega
theorem numF_len (n : Nat) (l : List (ByteArray × List Int)) : (numF n l).length = l.length := by
  induction l generalizing n with
  | nil => rfl
  | cons y r ih => simp [numF, ih]
theorem numF_fst (n : Nat) (l : List (ByteArray × List Int)) : (numF n l).map Prod.fst = l.map Prod.fst := by
  induction l generalizing n with
  | nil => rfl
  | cons y r ih => simp [numF, ih]
theorem numT_fst (n : Nat) (D : Dsk) : (numT n D).map Prod.fst = D.map Prod.fst := by
  induction D generalizing n with
  | nil => rfl
  | cons y r ih => simp [numT, ih]
theorem cnt8_snoc (D : Dsk) (d : ByteArray × List (ByteArray × List Int)) : cnt8 (D ++ [d]) = cnt8 D + d.2.length := by simp [cnt8]
theorem numT_snoc (n : Nat) (D : Dsk) (d : ByteArray × List (ByteArray × List Int)) : numT n (D ++ [d]) = numT n D ++ [(d.1, numF (n + cnt8 D) d.2)] := by
  induction D generalizing n with
  | nil => simp [numT, cnt8]
  | cons y r ih => simp only [List.cons_append, numT, ih, cnt8, List.map_cons, List.sum_cons]; rw [show n + y.2.length + (r.map fun d => d.2.length).sum = n + (y.2.length + (r.map fun d => d.2.length).sum) by omega]
theorem fls_snoc (D : Dsk) (d : ByteArray × List (ByteArray × List Int)) : fls (D ++ [d]) = fls D ++ d.2.map fun x => (x.2, []) := by simp [fls]
theorem fls_len (D : Dsk) : (fls D).length = cnt8 D := by
  unfold fls cnt8
  induction D with
  | nil => rfl
  | cons y r ih => simp [ih]
theorem numF_ids {n : Nat} {l : List (ByteArray × List Int)} : ∀ q ∈ numF n l, q.2 < n + l.length := by
  induction l generalizing n with
  | nil => simp [numF]
  | cons y r ih =>
    intro q hq
    simp only [numF, List.mem_cons] at hq
    simp only [List.length_cons]
    rcases hq with rfl | hq
    · simp only; omega
    · have := ih q hq; omega
theorem numT_ids {n : Nat} {D : Dsk} : ∀ p ∈ numT n D, ∀ q ∈ p.2, q.2 < n + cnt8 D := by
  induction D generalizing n with
  | nil => simp [numT]
  | cons y r ih =>
    intro p hp q hq
    simp only [numT, List.mem_cons] at hp
    simp only [cnt8, List.map_cons, List.sum_cons]
    rcases hp with rfl | hp
    · have := numF_ids q hq; omega
    · have := ih p hp q hq
      simp only [cnt8] at this; omega

theorem leS_lt {a b : ByteArray} : leS a b = false ↔ ltS b a = true := by
  unfold leS ltS
  rw [Bool.or_eq_false_iff]
  have h1 : (Op.bytesLess a.toList b.toList = true) ↔ a.data.toList < b.data.toList := ltS_iff
  have h2 : (Op.bytesLess b.toList a.toList = true) ↔ b.data.toList < a.data.toList := ltS_iff
  rw [h2]
  constructor
  · rintro ⟨h3, h4⟩
    have h5 : ¬ a.data.toList < b.data.toList := fun h => by rw [h1.2 h] at h3; cases h3
    rcases List.le_iff_lt_or_eq.1 (List.not_lt.1 h5) with h6 | h6
    · exact h6
    · exfalso
      rw [data_inj h6] at h4
      simp at h4
  · intro h3
    refine ⟨?_, ?_⟩
    · rw [← Bool.not_eq_true, h1]
      exact fun h => List.lt_irrefl _ (List.lt_trans h h3)
    · cases he : (a.toList == b.toList) with
      | false => rfl
      | true =>
        have h4 : a.toList = b.toList := by simpa using he
        rw [ByteArray.toList_eq, ByteArray.toList_eq] at h4
        rw [h4] at h3
        exact absurd h3 (List.lt_irrefl _)
theorem ordE_zero {f : Bool} {last name : ByteArray} : ordE f last name = 0 ↔ goodP name = true ∧ (f = false → ltS last name = true) := by
  unfold ordE
  cases hg : goodP name with
  | false => simp
  | true =>
    rw [if_neg (by simp)]
    by_cases h : f = false ∧ leS name last = true
    · rw [if_pos h]
      constructor
      · intro h2; cases h2
      · rintro ⟨_, h2⟩
        have h3 := h2 h.1
        rw [← leS_lt, h.2] at h3
        cases h3
    · rw [if_neg h]
      refine ⟨fun _ => ⟨rfl, fun hf => ?_⟩, fun _ => rfl⟩
      rw [← leS_lt]
      cases hl : leS name last with
      | false => rfl
      | true => exact absurd ⟨hf, hl⟩ h
/-- good names in order -/
theorem filesE_zero {f : Bool} {last : ByteArray} {l : List (ByteArray × List Int)} (h : filesE f last l = 0) : (l.map Prod.fst).Pairwise (fun a b => ltS a b = true) ∧ (∀ x ∈ l, goodP x.1 = true) ∧ (f = false → ∀ x ∈ l, ltS last x.1 = true) := by
  induction l generalizing f last with
  | nil => exact ⟨List.Pairwise.nil, by simp, by simp⟩
  | cons x r ih =>
    unfold filesE at h
    by_cases ho : ordE f last x.1 = 0
    · rw [if_neg (by simp [ho])] at h
      obtain ⟨h1, h2, h3⟩ := ih h
      obtain ⟨h4, h5⟩ := ordE_zero.1 ho
      refine ⟨List.pairwise_cons.2 ⟨fun y hy => ?_, h1⟩, fun y hy => ?_, fun hf y hy => ?_⟩
      · obtain ⟨z, hz, rfl⟩ := List.mem_map.1 hy
        exact h3 rfl z hz
      · rcases List.mem_cons.1 hy with rfl | hy
        · exact h4
        · exact h2 y hy
      · rcases List.mem_cons.1 hy with rfl | hy
        · exact h5 hf
        · exact ltS_trans (h5 hf) (h3 rfl y hy)
    · rw [if_pos ho] at h; exact absurd h ho
theorem dirsE_zero {f : Bool} {last : ByteArray} {D : Dsk} (h : dirsE f last D = 0) : (D.map Prod.fst).Pairwise (fun a b => ltS a b = true) ∧ (∀ x ∈ D, goodP x.1 = true) ∧ (∀ x ∈ D, filesE true noS x.2 = 0) ∧ (f = false → ∀ x ∈ D, ltS last x.1 = true) := by
  induction D generalizing f last with
  | nil => exact ⟨List.Pairwise.nil, by simp, by simp, by simp⟩
  | cons x r ih =>
    unfold dirsE at h
    by_cases ho : ordE f last x.1 = 0
    · rw [if_neg (by simp [ho])] at h
      by_cases hf0 : filesE true noS x.2 = 0
      · rw [if_neg (by simp [hf0])] at h
        obtain ⟨h1, h2, h2', h3⟩ := ih h
        obtain ⟨h4, h5⟩ := ordE_zero.1 ho
        refine ⟨List.pairwise_cons.2 ⟨fun y hy => ?_, h1⟩, fun y hy => ?_, fun y hy => ?_, fun hf y hy => ?_⟩
        · obtain ⟨z, hz, rfl⟩ := List.mem_map.1 hy
          exact h3 rfl z hz
        · rcases List.mem_cons.1 hy with rfl | hy
          · exact h4
          · exact h2 y hy
        · rcases List.mem_cons.1 hy with rfl | hy
          · exact hf0
          · exact h2' y hy
        · rcases List.mem_cons.1 hy with rfl | hy
          · exact h5 hf
          · exact ltS_trans (h5 hf) (h3 rfl y hy)
      · rw [if_pos hf0] at h; exact absurd h hf0
    · rw [if_pos ho] at h; exact absurd h ho
theorem numT_mem {n : Nat} {D : Dsk} {p : ByteArray × Fol} (h : p ∈ numT n D) : ∃ m, ∃ d ∈ D, p = (d.1, numF m d.2) := by
  induction D generalizing n with
  | nil => simp [numT] at h
  | cons y r ih =>
    simp only [numT, List.mem_cons] at h
    rcases h with rfl | h
    · exact ⟨n, y, by simp, rfl⟩
    · obtain ⟨m, d, hd, e⟩ := ih h
      exact ⟨m, d, List.mem_cons_of_mem _ hd, e⟩
theorem numF_mem {n : Nat} {l : List (ByteArray × List Int)} {q : ByteArray × Nat} (h : q ∈ numF n l) : ∃ x ∈ l, q.1 = x.1 := by
  have : q.1 ∈ (numF n l).map Prod.fst := List.mem_map.2 ⟨q, h, rfl⟩
  rw [numF_fst] at this
  obtain ⟨x, hx, e⟩ := List.mem_map.1 this
  exact ⟨x, hx, e.symm⟩
theorem val_numT {f : Bool} {last : ByteArray} {D : Dsk} (h : dirsE f last D = 0) : Val (cnt8 D) (numT 0 D) := by
  obtain ⟨h1, h2, h3, _⟩ := dirsE_zero h
  refine ⟨by unfold Srt; rw [numT_fst]; exact h1, fun p hp => ?_, fun p hp q hq => by have := numT_ids p hp q hq; omega, fun p hp => ?_, fun p hp q hq => ?_⟩
  · obtain ⟨m, d, hd, rfl⟩ := numT_mem hp
    unfold Srt
    rw [numF_fst]
    exact (filesE_zero (h3 d hd)).1
  · obtain ⟨m, d, hd, rfl⟩ := numT_mem hp
    exact h2 d hd
  · obtain ⟨m, d, hd, rfl⟩ := numT_mem hp
    obtain ⟨x, hx, e⟩ := numF_mem hq
    rw [e]
    exact (filesE_zero (h3 d hd)).2.1 x hx
/-- how much a disk holds -/
def bulk8 (D : Dsk) : Nat := (D.map fun d => (d.2.map fun x => x.2.length + 1).sum + 1).sum
theorem wd_numT (n : Nat) (D : Dsk) : wd (numT n D) ≤ bulk8 D := by
  unfold wd bulk8
  induction D generalizing n with
  | nil => simp [numT]
  | cons y r ih =>
    simp only [numT, List.map_cons, List.sum_cons, numF_len]
    have h1 := ih (n + y.2.length)
    have h2 : y.2.length ≤ (y.2.map fun x => x.2.length + 1).sum := by
      generalize y.2 = l
      induction l with
      | nil => simp
      | cons z l ih2 => simp only [List.length_cons, List.map_cons, List.sum_cons]; omega
    omega
theorem fls_bulk (D : Dsk) : filesBulk (fls D) + cnt8 D ≤ bulk8 D := by
  unfold filesBulk fls bulk8 cnt8
  induction D with
  | nil => simp
  | cons y r ih =>
    simp only [List.flatMap_cons, List.map_append, List.sum_append, List.map_cons, List.sum_cons, List.map_map]
    have h2 : ((y.2.map ((fun f : Fil => f.all.length + f.2.length) ∘ fun x => (x.2, []))).sum) + y.2.length = (y.2.map fun x => x.2.length + 1).sum := by
      generalize y.2 = l
      induction l with
      | nil => simp
      | cons z l ih2 => simp only [List.length_cons, List.map_cons, List.sum_cons, Function.comp, Fil.all, List.flatten_nil, List.append_nil, List.length_nil] at ih2 ⊢; omega
    omega
theorem inv_open {D : Dsk} {quota stop : Int} (h : openE D quota = 0) (hq : quota ≤ 9223372036854775807) : Inv (bulk8 D) (openS D quota stop) := by
  unfold openE at h
  by_cases h0 : quota < 0
  · rw [if_pos h0] at h; cases h
  · rw [if_neg h0] at h
    have hv := val_numT h
    have hb := fls_bulk D
    refine ⟨by simp only [openS, fls_len]; exact hv, trivial, rfl, by simp [openS], ?_, ?_, ?_, by simp [openS], by simp [openS], ⟨by simp only [openS]; omega, hq⟩⟩
    · have := wd_numT 0 D; simp only [openS, List.length_nil]; omega
    · simp only [openS, fls_len]; omega
    · simp only [openS]; omega
end Go.Proofs.YtgomofeidghmiaaGreat

namespace Go.Proofs.YtgomofeidghmiaaGreat
open Go.RowKit

/-- where a half open file system lies -/
structure OpG where
  b : Nat
  t1 : Nat
  g1 : GTr
  ib : List Nat
  sg : List Nat
  Ls : List (List Nat)
def OpG.parts (G : OpG) : List (List Nat) := [G.b] :: tbl G.t1 G.g1 :: G.ib :: G.Ls
structure OpM (w : World) (G : OpG) (T : Tr) (fs : List Fil) (q a : Int) : Prop where
  blk : Blk w G.b 92 #[.map (some G.t1), .map none, .slice none 0 0, .slice none 0 0, .int .i64 q, .int .i64 a, .int .i64 0]
  tr1 : Tree w G.t1 G.g1
  is1 : TreeIs G.ib G.g1 T
  ibl : G.ib.length = fs.length
  sgl : G.sg.length = fs.length
  lsl : G.Ls.length = fs.length
  ibn : G.ib.Nodup
  ino : ∀ (i x g : Nat) (L : List Nat) (f : Fil), G.ib[i]? = some x → G.sg[i]? = some g → G.Ls[i]? = some L → fs[i]? = some f → InoM w x g L f
  lay : Lay w G.parts
theorem OpM.keep0 {w w' : World} {G : OpG} {T : Tr} {fs : List Fil} {q a : Int} (h : OpM w G T fs q a) (hc : Chg [] w w') : OpM w' G T fs q a :=
  ⟨h.blk.chg hc List.not_mem_nil, h.tr1.keep hc (fun _ _ => List.not_mem_nil), h.is1, h.ibl, h.sgl, h.lsl, h.ibn, fun i x g L f e1 e2 e3 e4 => (h.ino i x g L f e1 e2 e3 e4).keep hc List.not_mem_nil (fun _ _ => List.not_mem_nil), h.lay.mono hc.size⟩
theorem aget_snoc {α : Type} {T : List (ByteArray × α)} {d : ByteArray} {F : α} (hd : aget T d = none) (k : ByteArray) : aget (T ++ [(d, F)]) k = if d = k then some F else aget T k := by
  induction T with
  | nil => rw [List.nil_append, aget_cons]
  | cons p r ih =>
    rw [aget_cons] at hd
    by_cases hp : p.1 = d
    · rw [if_pos hp] at hd; cases hd
    · rw [if_neg hp] at hd
      rw [List.cons_append, aget_cons, ih hd, aget_cons]
      by_cases h1 : p.1 = k
      · rw [if_pos h1, if_neg (fun e => hp (h1.trans e.symm)), if_pos h1]
      · rw [if_neg h1, if_neg h1]
theorem Lay.others2 {w : World} {Ps : List (List Nat)} (h : Lay w Ps) {L : List Nat} {j : Nat} {Q : List Nat} (hj : Ps[j]? = some Q) (hL : ∀ x ∈ L, x ∈ Q) {i : Nat} {P : List Nat} (hi : Ps[i]? = some P) (hn : i ≠ j) : ∀ x ∈ P, x ∉ L :=
  fun x hx hm => h.ne hi hj hn x hx (hL x hm)

/-- a directory more -/
theorem OpM.dir {w w' : World} {G : OpG} {T : Tr} {fs : List Fil} {q a : Int} (h : OpM w G T fs q a) {d : ByteArray} {fb : Nat} (hd : aget T d = none) (hc : Chg [G.t1] w w') (htop : Mp w' G.t1 kvS (aput (tval G.g1) d (.map (some fb)))) (hfb : Mp w' fb kvS []) (hge : w.heap.size ≤ fb) :
    OpM w' { G with g1 := aput G.g1 d (fb, []) } (T ++ [(d, [])]) fs q a := by
  have ht1 : ∀ x ∈ [G.t1], x ∈ tbl G.t1 G.g1 := by simp [tbl]
  have ho := fun (i : Nat) (P : List Nat) (hi : G.parts[i]? = some P) (hn : i ≠ 1) => h.lay.others2 (j := 1) rfl ht1 hi hn
  have htl := h.tr1.top.lt
  have htr : Tree w' G.t1 (aput G.g1 d (fb, [])) := Tree.put h.tr1.nodup h.tr1.sub h.tr1.apart hc htop (by simpa [fval] using hfb) (by omega) (fun p hp _ e => by have := (h.tr1.sub p hp).lt; omega) (fun p hp _ => by simpa using h.tr1.ne_top hp)
  refine ⟨h.blk.chg hc (ho 0 _ rfl (by decide) _ (by simp)), htr, h.is1.put h.tr1.nodup (fun k => aget_snoc hd k) (fun n => rfl), h.ibl, h.sgl, h.lsl, h.ibn, fun i x g L f e1 e2 e3 e4 => ?_, ?_⟩
  · exact (h.ino i x g L f e1 e2 e3 e4).keep hc (ho 2 _ rfl (by decide) x (List.mem_of_getElem? e1)) (ho (i + 3) L (by simpa [OpG.parts] using e3) (by omega))
  · exact h.lay.set_ (w' := w') (i := 1) (P' := tbl G.t1 (aput G.g1 d (fb, []))) rfl (tbl_aput h.tr1.nodup (.inr hge)) htr.lt hc.size

/-- a file more, in the last directory -/
theorem OpM.file {w w1 w2 w3 : World} {G : OpG} {T : Tr} {fs : List Fil} {q a : Int} {d n : ByteArray} {F : Fol} (h : OpM w G (T ++ [(d, F)]) fs q a) (hd : aget T d = none) (hn : aget F n = none) (hids : ∀ p ∈ T ++ [(d, F)], ∀ q ∈ p.2, q.2 < fs.length)
    {fb : Nat} {f : List (ByteArray × Nat)} (he : aget G.g1 d = some (fb, f)) (hc1 : Chg [] w w1) {g : Nat} {L : List Nat} {ff : List Int} (hL : ∀ k ∈ L, w.heap.size ≤ k) (hs : Spo w1 g L ff []) (hc2 : Chg [] w1 w2) {x : Nat} (hx : w1.heap.size ≤ x) (hb : Blk w2 x 98 #[.pointer (some ⟨g, 0, none⟩)])
    (hc3 : Chg [fb] w2 w3) (hfb : Mp w3 fb kvS (aput (fval f) n (.pointer (some ⟨x, 0, none⟩)))) :
    OpM w3 { G with g1 := aput G.g1 d (fb, aput f n x), ib := G.ib ++ [x], sg := G.sg ++ [g], Ls := G.Ls ++ [L] } (T ++ [(d, F ++ [(n, fs.length)])]) (fs ++ [(ff, [])]) q a := by
  have hmem := aget_mem he
  have h2 := h.keep0 (hc1.trans0 hc2)
  have hfm : ∀ x ∈ [fb], x ∈ tbl G.t1 G.g1 := fun y hy => by simp only [List.mem_singleton] at hy; subst hy; exact mem_tbl hmem
  have ho := fun (i : Nat) (P : List Nat) (hi : G.parts[i]? = some P) (hn : i ≠ 1) => h2.lay.others2 (j := 1) rfl hfm hi hn
  have hfv : aput (fval f) n (.pointer (some ⟨x, 0, none⟩)) = fval (aput f n x) := aput_map (fun i : Nat => Value.pointer (some ⟨i, 0, none⟩)) f n x
  rw [hfv] at hfb
  have htop : Mp w3 G.t1 kvS (aput (tval G.g1) d (.map (some fb))) := by
    rw [aput_same (by rw [aget_tval, he]; rfl)]
    exact h2.tr1.top.chg hc3 (by simpa using (h2.tr1.ne_top hmem).symm)
  have hLn : ∀ p ∈ G.g1, p.1 ≠ d → p.2.1 ∉ [fb] := fun p hp hne => by simpa using h2.tr1.ne_sub hp hmem hne
  have htr : Tree w3 G.t1 (aput G.g1 d (fb, aput f n x)) := Tree.put h2.tr1.nodup h2.tr1.sub h2.tr1.apart hc3 htop hfb (h2.tr1.ne_top hmem) (fun p hp hne => by simpa using hLn p hp hne) hLn
  have hfs := h.is1.sub d (fb, f) F he (by rw [aget_snoc hd, if_pos rfl])
  have hxf : x ≠ fb := by
    have := h.lay.lt (tbl G.t1 G.g1) (List.mem_of_getElem? (i := 1) rfl) fb (mem_tbl hmem)
    have := hc1.size
    omega
  have hgrow : TreeIs (G.ib ++ [x]) G.g1 (T ++ [(d, F)]) := ⟨h.is1.top, fun k e F' hk hF' n' => by
    rw [h.is1.sub k e F' hk hF' n']
    cases hn' : aget F' n' with
    | none => rfl
    | some i =>
      have := hids _ (aget_mem hF') _ (aget_mem hn')
      simp only [Option.map_some]
      rw [ibf_old (by rw [h.ibl]; exact this)]⟩
  refine ⟨h2.blk.chg hc3 (ho 0 _ rfl (by decide) _ (by simp)), htr, ?_, by simp [h.ibl], by simp [h.sgl], by simp [h.lsl], ?_, ?_, ?_⟩
  · refine hgrow.put h.tr1.nodup (F := F ++ [(n, fs.length)]) (fun k => ?_) (fun n' => ?_)
    · rw [aget_snoc hd, aget_snoc hd]
      by_cases hk : d = k <;> simp [hk]
    · rw [aget_aput (h2.tr1.subnodup hmem), aget_snoc hn, hgrow.sub d (fb, f) F he (by rw [aget_snoc hd, if_pos rfl]) n']
      by_cases hnn : n = n'
      · rw [if_pos hnn, if_pos hnn, ← h.ibl]
        simp only [Option.map_some]
        rw [ibf_new]
      · rw [if_neg hnn, if_neg hnn]
  · show (G.ib ++ [x]).Nodup
    rw [List.nodup_append]
    refine ⟨h.ibn, by simp, fun y hy z hz => ?_⟩
    simp only [List.mem_singleton] at hz
    subst hz
    have := h.lay.lt G.ib (List.mem_of_getElem? (i := 2) rfl) y hy
    have := hc1.size
    omega
  · intro i y gg M f0 e1 e2 e3 e4
    have l1 := h.ibl; have l2 := h.sgl; have l3 := h.lsl
    by_cases hil : i < fs.length
    · simp only at e1 e2 e3
      rw [List.getElem?_append_left (by omega)] at e1 e2 e3 e4
      exact (h2.ino i y gg M f0 e1 e2 e3 e4).keep hc3 (ho 2 _ rfl (by decide) y (List.mem_of_getElem? e1)) (ho (i + 3) M (by simpa [OpG.parts] using e3) (by omega))
    · have hie : i = fs.length := by
        have := (List.getElem?_eq_some_iff.1 e4).1
        simp at this; omega
      subst hie
      simp only at e1 e2 e3
      rw [List.getElem?_append_right (by omega), l1, Nat.sub_self] at e1
      rw [List.getElem?_append_right (by omega), l2, Nat.sub_self] at e2
      rw [List.getElem?_append_right (by omega), l3, Nat.sub_self] at e3
      rw [List.getElem?_append_right (by omega), Nat.sub_self] at e4
      simp at e1 e2 e3 e4
      subst e1; subst e2; subst e3; subst e4
      refine ⟨hb.chg hc3 (by simpa using hxf), (hs.chg hc2 (fun _ _ => List.not_mem_nil)).chg hc3 (fun k hk hm => ?_)⟩
      simp only [List.mem_singleton] at hm
      subst hm
      have h1 := hL _ hk
      have h3 := h.lay.lt (tbl G.t1 G.g1) (List.mem_of_getElem? (i := 1) rfl) _ (mem_tbl hmem)
      simp only at h3
      omega
  · have l1 := h.lay.snoc (w' := w1) hL hs.lt hc1.size
    have l2 := l1.set_ (w' := w2) (i := 2) (P := G.ib) (P' := G.ib ++ [x]) rfl (fun y hy => by
      rcases List.mem_append.1 hy with hy | hy
      · exact .inl hy
      · simp only [List.mem_singleton] at hy; subst hy; exact .inr hx) (fun y hy => by
      rcases List.mem_append.1 hy with hy | hy
      · exact h2.lay.lt G.ib (List.mem_of_getElem? (i := 2) rfl) y hy
      · simp only [List.mem_singleton] at hy; subst hy; exact hb.lt) hc2.size
    have l3 := l2.set_ (w' := w3) (i := 1) (P := tbl G.t1 G.g1) (P' := tbl G.t1 (aput G.g1 d (fb, aput f n x))) rfl (tbl_aput h.tr1.nodup (.inl (mem_tbl hmem))) htr.lt hc3.size
    exact l3

/-- the names' last one -/
def lastN {α : Type} (last : ByteArray) (l : List (ByteArray × α)) : ByteArray := (l.getLast?.map (·.1)).getD last
theorem lastN_snoc {α : Type} (last : ByteArray) (l : List (ByteArray × α)) (x : ByteArray × α) : lastN last (l ++ [x]) = x.1 := by simp [lastN]
theorem lastN_cons {α : Type} (last : ByteArray) (l : List (ByteArray × α)) (x : ByteArray × α) : lastN last (x :: l) = lastN x.1 l := by
  unfold lastN
  cases l with
  | nil => rfl
  | cons y r => simp [List.getLast?_cons]
theorem filesE_split (f : Bool) (last : ByteArray) (a b : List (ByteArray × List Int)) (h : filesE f last a = 0) : filesE f last (a ++ b) = filesE (f && a.isEmpty) (lastN last a) b := by
  induction a generalizing f last with
  | nil => simp [lastN]
  | cons x r ih =>
    unfold filesE at h
    by_cases ho : ordE f last x.1 = 0
    · rw [if_neg (by simp [ho])] at h
      rw [List.cons_append, filesE, if_neg (by simp [ho]), ih false x.1 h, lastN_cons]
      simp
    · rw [if_pos ho] at h; exact absurd h ho
theorem dirsE_split (f : Bool) (last : ByteArray) (a b : Dsk) (h : dirsE f last a = 0) : dirsE f last (a ++ b) = dirsE (f && a.isEmpty) (lastN last a) b := by
  induction a generalizing f last with
  | nil => simp [lastN]
  | cons x r ih =>
    unfold dirsE at h
    by_cases ho : ordE f last x.1 = 0
    · rw [if_neg (by simp [ho])] at h
      by_cases hf : filesE true noS x.2 = 0
      · rw [if_neg (by simp [hf])] at h
        rw [List.cons_append, dirsE, if_neg (by simp [ho]), if_neg (by simp [hf]), ih false x.1 h, lastN_cons]
        simp
      · rw [if_pos hf] at h; exact absurd h hf
    · rw [if_pos ho] at h; exact absurd h ho
theorem take_drop_at {α : Type} {l : List α} {i : Nat} {x : α} (h : l[i]? = some x) : l = l.take i ++ x :: l.drop (i + 1) := by
  have hi := (List.getElem?_eq_some_iff.1 h).1
  conv => lhs; rw [← List.take_append_drop i l, List.drop_eq_getElem_cons hi]
  rw [(List.getElem?_eq_some_iff.1 h).2]
theorem dirsE_at {D : Dsk} {i : Nat} {d : ByteArray × List (ByteArray × List Int)} (hd : D[i]? = some d) (h : dirsE true noS (D.take i) = 0) :
    dirsE true noS D = dirsE (i == 0) (lastN noS (D.take i)) (d :: D.drop (i + 1)) := by
  have hi := (List.getElem?_eq_some_iff.1 hd).1
  conv => lhs; rw [take_drop_at hd]
  rw [dirsE_split _ _ _ _ h]
  congr 1
  cases i with
  | zero => rfl
  | succ k =>
    cases D with
    | nil => simp at hi
    | cons y r => rfl
theorem filesE_at {l : List (ByteArray × List Int)} {i : Nat} {d : ByteArray × List Int} (hd : l[i]? = some d) (h : filesE true noS (l.take i) = 0) :
    filesE true noS l = filesE (i == 0) (lastN noS (l.take i)) (d :: l.drop (i + 1)) := by
  have hi := (List.getElem?_eq_some_iff.1 hd).1
  conv => lhs; rw [take_drop_at hd]
  rw [filesE_split _ _ _ _ h]
  congr 1
  cases i with
  | zero => rfl
  | succ k =>
    cases l with
    | nil => simp at hi
    | cons y r => rfl
theorem dirsE_next {D : Dsk} {i : Nat} {d : ByteArray × List (ByteArray × List Int)} (hd : D[i]? = some d) (h : dirsE true noS (D.take i) = 0) (ho : ordE (i == 0) (lastN noS (D.take i)) d.1 = 0) (hf : filesE true noS d.2 = 0) : dirsE true noS (D.take (i + 1)) = 0 := by
  have hi := (List.getElem?_eq_some_iff.1 hd).1
  have h1 : (D.take (i + 1))[i]? = some d := by rw [List.getElem?_take_of_lt (by omega)]; exact hd
  rw [dirsE_at h1 (by rw [List.take_take, Nat.min_eq_left (by omega)]; exact h), List.take_take, Nat.min_eq_left (by omega)]
  unfold dirsE
  rw [if_neg (by simp [ho]), if_neg (by simp [hf])]
  rw [List.drop_of_length_le (by simp; omega)]
  rfl
theorem filesE_next {l : List (ByteArray × List Int)} {i : Nat} {d : ByteArray × List Int} (hd : l[i]? = some d) (h : filesE true noS (l.take i) = 0) (ho : ordE (i == 0) (lastN noS (l.take i)) d.1 = 0) : filesE true noS (l.take (i + 1)) = 0 := by
  have hi := (List.getElem?_eq_some_iff.1 hd).1
  have h1 : (l.take (i + 1))[i]? = some d := by rw [List.getElem?_take_of_lt (by omega)]; exact hd
  rw [filesE_at h1 (by rw [List.take_take, Nat.min_eq_left (by omega)]; exact h), List.take_take, Nat.min_eq_left (by omega)]
  unfold filesE
  rw [if_neg (by simp [ho])]
  rw [List.drop_of_length_le (by simp; omega)]
  rfl
/-- the next name is new -/
theorem dir_new {D : Dsk} {i : Nat} {d : ByteArray × List (ByteArray × List Int)} (hd : D[i]? = some d) (h : dirsE true noS (D.take i) = 0) (ho : ordE (i == 0) (lastN noS (D.take i)) d.1 = 0) : d.1 ∉ (D.take i).map Prod.fst := by
  have hi := (List.getElem?_eq_some_iff.1 hd).1
  have h2 : dirsE true noS (D.take i ++ [(d.1, [])]) = 0 := by
    rw [dirsE_split _ _ _ _ h, show (true && (D.take i).isEmpty) = (i == 0) by
      cases i with
      | zero => rfl
      | succ k => cases D with
        | nil => simp at hi
        | cons y r => rfl]
    unfold dirsE
    rw [if_neg (by simp [ho]), if_neg (by simp [filesE])]
    rfl
  have h3 := (dirsE_zero h2).1
  rw [List.map_append, List.pairwise_append] at h3
  intro hm
  have := h3.2.2 _ hm d.1 (by simp)
  rw [ltS_irrefl] at this
  cases this
theorem file_new {l : List (ByteArray × List Int)} {i : Nat} {d : ByteArray × List Int} (hd : l[i]? = some d) (h : filesE true noS (l.take i) = 0) (ho : ordE (i == 0) (lastN noS (l.take i)) d.1 = 0) : d.1 ∉ (l.take i).map Prod.fst := by
  have h3 := (filesE_zero (filesE_next hd h ho)).1
  rw [take_snoc _ _ _ hd, List.map_append, List.pairwise_append] at h3
  intro hm
  have := h3.2.2 _ hm d.1 (by simp)
  rw [ltS_irrefl] at this
  cases this
end Go.Proofs.YtgomofeidghmiaaGreat
