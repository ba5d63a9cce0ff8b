/-
  Layer 08: do at each change, on the whole file system; Mkdir, Rmdir, Rename, Remove, Create.
-/
import Derived.Test.YtgomofeidghmiaaGreatVfJc
import Derived.BigQuiet
namespace Go.Proofs.YtgomofeidghmiaaGreat
open Go.RowKit

theorem dodo_mkdir {w : World} {G : FsG} {S : St} {B : Nat} (h : FsM w G S) (hi : Inv B S) (hB : B ≤ 1073741824) {d : ByteArray} {k : Nat} (hok : Chn.ok S.files.length S.seen (.mkdir d)) (Kk : k ∈ G.K) (hk : w.cell? ⟨k, 0, none⟩ = some (.string d)) :
    Calls Tryz.prog 66 #[.pointer (some ⟨G.b, 0, none⟩), .func (.func 67) #[] #[.pointer (some ⟨k, 0, none⟩)]] w fun e w' => e = .returned (.int .i64 0) ∧ FsTo w G (S.make (.mkdir d)) w' := by
  have n1 : S.chs.length ≤ 1073741824 := by have := hi.wds; omega
  have n2 : S.steps ≤ 1073741824 := by have := hi.st; omega
  have hm : ∀ (j : Nat) (P : List Nat), G.parts[j]? = some P → j ≠ 1 → ∀ x ∈ P, x ∉ tbl G.t1 G.g1 := fun j P hj hne x hx => h.lay.ne hj (j := 1) rfl hne x hx
  refine (do_mkdir_any _ G.b G.t1 (some G.t2) G.A G.Aw S.chs.length G.c S.wr.length G.cw S.quota S.stop S.steps G.vs w (fun w' => CloTo w G.t1 G.g1 G.ib (Chn.on S.seen (.mkdir d)) w') (tbl G.t1 G.g1) ((cl_mkdir h.tr1 h.is1 hok.2 hk).mono (fun e w' hq => ⟨hq.1, hq.2, hq.2.2⟩)) h.blk h.own (hm 0 _ rfl (by decide) _ (by simp)) (hm 3 _ rfl (by decide)) n1 n2).mono ?_
  rintro e w' ⟨rfl, w1, hcl, hc0, hc1, A', c', hb, ho, hA⟩
  exact ⟨rfl, h.did ⟨k, rfl, Kk, hk⟩ hcl hc1 hb ho hA⟩

theorem dodo_rmdir {w : World} {G : FsG} {S : St} {B : Nat} (h : FsM w G S) (hi : Inv B S) (hB : B ≤ 1073741824) {d : ByteArray} {k : Nat} (_ : Chn.ok S.files.length S.seen (.rmdir d)) (Kk : k ∈ G.K) (hk : w.cell? ⟨k, 0, none⟩ = some (.string d)) :
    Calls Tryz.prog 66 #[.pointer (some ⟨G.b, 0, none⟩), .func (.func 79) #[] #[.pointer (some ⟨k, 0, none⟩)]] w fun e w' => e = .returned (.int .i64 0) ∧ FsTo w G (S.make (.rmdir d)) w' := by
  have n1 : S.chs.length ≤ 1073741824 := by have := hi.wds; omega
  have n2 : S.steps ≤ 1073741824 := by have := hi.st; omega
  have hm : ∀ (j : Nat) (P : List Nat), G.parts[j]? = some P → j ≠ 1 → ∀ x ∈ P, x ∉ tbl G.t1 G.g1 := fun j P hj hne x hx => h.lay.ne hj (j := 1) rfl hne x hx
  refine (do_rmdir_any _ G.b G.t1 (some G.t2) G.A G.Aw S.chs.length G.c S.wr.length G.cw S.quota S.stop S.steps G.vs w (fun w' => CloTo w G.t1 G.g1 G.ib (Chn.on S.seen (.rmdir d)) w') (tbl G.t1 G.g1) ((cl_rmdir h.tr1 h.is1 hk).mono (fun e w' hq => ⟨hq.1, hq.2, hq.2.2⟩)) h.blk h.own (hm 0 _ rfl (by decide) _ (by simp)) (hm 3 _ rfl (by decide)) n1 n2).mono ?_
  rintro e w' ⟨rfl, w1, hcl, hc0, hc1, A', c', hb, ho, hA⟩
  exact ⟨rfl, h.did ⟨k, rfl, Kk, hk⟩ hcl hc1 hb ho hA⟩

theorem dodo_remove {w : World} {G : FsG} {S : St} {B : Nat} (h : FsM w G S) (hi : Inv B S) (hB : B ≤ 1073741824) {d n : ByteArray} {k j : Nat} (hok : Chn.ok S.files.length S.seen (.remove d n)) (Kk : k ∈ G.K) (hk : w.cell? ⟨k, 0, none⟩ = some (.string d)) (Kj : j ∈ G.K) (hj : w.cell? ⟨j, 0, none⟩ = some (.string n)) :
    Calls Tryz.prog 66 #[.pointer (some ⟨G.b, 0, none⟩), .func (.func 78) #[] #[.pointer (some ⟨k, 0, none⟩), .pointer (some ⟨j, 0, none⟩)]] w fun e w' => e = .returned (.int .i64 0) ∧ FsTo w G (S.make (.remove d n)) w' := by
  have n1 : S.chs.length ≤ 1073741824 := by have := hi.wds; omega
  have n2 : S.steps ≤ 1073741824 := by have := hi.st; omega
  have hm : ∀ (j : Nat) (P : List Nat), G.parts[j]? = some P → j ≠ 1 → ∀ x ∈ P, x ∉ tbl G.t1 G.g1 := fun j P hj hne x hx => h.lay.ne hj (j := 1) rfl hne x hx
  refine (do_remove_any _ _ G.b G.t1 (some G.t2) G.A G.Aw S.chs.length G.c S.wr.length G.cw S.quota S.stop S.steps G.vs w (fun w' => CloTo w G.t1 G.g1 G.ib (Chn.on S.seen (.remove d n)) w') (tbl G.t1 G.g1) ((cl_remove h.tr1 h.is1 hi.val hok hk hj).mono (fun e w' hq => ⟨hq.1, hq.2, hq.2.2⟩)) h.blk h.own (hm 0 _ rfl (by decide) _ (by simp)) (hm 3 _ rfl (by decide)) n1 n2).mono ?_
  rintro e w' ⟨rfl, w1, hcl, hc0, hc1, A', c', hb, ho, hA⟩
  exact ⟨rfl, h.did ⟨k, j, rfl, Kk, Kj, hk, hj⟩ hcl hc1 hb ho hA⟩

theorem dodo_rename {w : World} {G : FsG} {S : St} {B : Nat} (h : FsM w G S) (hi : Inv B S) (hB : B ≤ 1073741824) {a b : ByteArray} {k j : Nat} (hok : Chn.ok S.files.length S.seen (.rename a b)) (Kk : k ∈ G.K) (hk : w.cell? ⟨k, 0, none⟩ = some (.string a)) (Kj : j ∈ G.K) (hj : w.cell? ⟨j, 0, none⟩ = some (.string b)) :
    Calls Tryz.prog 66 #[.pointer (some ⟨G.b, 0, none⟩), .func (.func 77) #[] #[.pointer (some ⟨k, 0, none⟩), .pointer (some ⟨j, 0, none⟩)]] w fun e w' => e = .returned (.int .i64 0) ∧ FsTo w G (S.make (.rename a b)) w' := by
  have n1 : S.chs.length ≤ 1073741824 := by have := hi.wds; omega
  have n2 : S.steps ≤ 1073741824 := by have := hi.st; omega
  have hm : ∀ (j : Nat) (P : List Nat), G.parts[j]? = some P → j ≠ 1 → ∀ x ∈ P, x ∉ tbl G.t1 G.g1 := fun j P hj hne x hx => h.lay.ne hj (j := 1) rfl hne x hx
  refine (do_rename_any _ _ G.b G.t1 (some G.t2) G.A G.Aw S.chs.length G.c S.wr.length G.cw S.quota S.stop S.steps G.vs w (fun w' => CloTo w G.t1 G.g1 G.ib (Chn.on S.seen (.rename a b)) w') (tbl G.t1 G.g1) ((cl_rename h.tr1 h.is1 hok hk hj (fun e => hm 5 _ rfl (by decide) k Kk (by simp [tbl, e])) (fun e => hm 5 _ rfl (by decide) j Kj (by simp [tbl, e]))).mono (fun e w' hq => ⟨hq.1, hq.2, hq.2.2⟩)) h.blk h.own (hm 0 _ rfl (by decide) _ (by simp)) (hm 3 _ rfl (by decide)) n1 n2).mono ?_
  rintro e w' ⟨rfl, w1, hcl, hc0, hc1, A', c', hb, ho, hA⟩
  exact ⟨rfl, h.did ⟨k, j, rfl, Kk, Kj, hk, hj⟩ hcl hc1 hb ho hA⟩

theorem dodo_create {w : World} {G : FsG} {S : St} {B : Nat} (h : FsM w G S) (hi : Inv B S) (hB : B ≤ 1073741824) {d n : ByteArray} {i x k j : Nat} (hok : Chn.ok S.files.length S.seen (.create d n i)) (Kx : x ∈ G.K) (hx : w.cell? ⟨x, 0, none⟩ = some (.pointer (some ⟨ibf G.ib i, 0, none⟩))) (Kk : k ∈ G.K) (hk : w.cell? ⟨k, 0, none⟩ = some (.string d)) (Kj : j ∈ G.K) (hj : w.cell? ⟨j, 0, none⟩ = some (.string n)) :
    Calls Tryz.prog 66 #[.pointer (some ⟨G.b, 0, none⟩), .func (.func 68) #[] #[.pointer (some ⟨x, 0, none⟩), .pointer (some ⟨k, 0, none⟩), .pointer (some ⟨j, 0, none⟩)]] w fun e w' => e = .returned (.int .i64 0) ∧ FsTo w G (S.make (.create d n i)) w' := by
  have n1 : S.chs.length ≤ 1073741824 := by have := hi.wds; omega
  have n2 : S.steps ≤ 1073741824 := by have := hi.st; omega
  have hm : ∀ (j : Nat) (P : List Nat), G.parts[j]? = some P → j ≠ 1 → ∀ x ∈ P, x ∉ tbl G.t1 G.g1 := fun j P hj hne x hx => h.lay.ne hj (j := 1) rfl hne x hx
  refine (do_create_any _ _ _ G.b G.t1 (some G.t2) G.A G.Aw S.chs.length G.c S.wr.length G.cw S.quota S.stop S.steps G.vs w (fun w' => CloTo w G.t1 G.g1 G.ib (Chn.on S.seen (.create d n i)) w') (tbl G.t1 G.g1) ((cl_create h.tr1 h.is1 hi.val hok hx hk hj).mono (fun e w' hq => ⟨hq.1, hq.2, hq.2.2⟩)) h.blk h.own (hm 0 _ rfl (by decide) _ (by simp)) (hm 3 _ rfl (by decide)) n1 n2).mono ?_
  rintro e w' ⟨rfl, w1, hcl, hc0, hc1, A', c', hb, ho, hA⟩
  exact ⟨rfl, h.did ⟨x, k, j, rfl, Kx, Kk, Kj, hx, hk, hj, by rw [h.ibl]; exact hok.1⟩ hcl hc1 hb ho hA⟩

theorem ask_good {S : St} {there : Bool} {ns : List ByteArray} (h : S.ask there ns = 0) : S.down = false ∧ (∀ n ∈ ns, goodP n = true) ∧ (there = true → ∃ F, aget S.seen (ns.headD ByteArray.empty) = some F) := by
  unfold St.ask at h
  cases hd : S.down with
  | true => rw [if_pos hd] at h; cases h
  | false =>
    rw [if_neg (by simp [hd])] at h
    cases hg : ns.all goodP with
    | false => rw [if_pos hg] at h; cases h
    | true =>
      rw [if_neg (by simp [hg])] at h
      refine ⟨rfl, fun n hn => List.all_eq_true.1 hg n hn, fun ht => ?_⟩
      cases hs : aget S.seen (ns.headD ByteArray.empty) with
      | some F => exact ⟨F, rfl⟩
      | none => rw [if_pos ⟨ht, by rw [hs]; rfl⟩] at h; cases h

set_option maxRecDepth 100000 in
set_option maxHeartbeats 3200000 in
theorem mkdir_st {w : World} {G : FsG} {S : St} {B : Nat} (h : FsM w G S) (hi : Inv B S) (hB : B ≤ 1073741824) (d : ByteArray) :
    Calls Tryz.prog 24 #[.pointer (some ⟨G.b, 0, none⟩), .string d] w fun e w' => e = .returned (.int .i64 (S.mkdir d).2) ∧ FsTo w G (S.mkdir d).1 w' := by
  have HF := Lib.hid h
  have HI := Lib.hid hi
  have HB := Lib.hid hB
  clear h hi hB
  go_enter Tryz.func24, Tryz.ntmps24
  go_wp2_with fail
  have hal : Chg [] w ((w.alloc (.cells #[.string d] 9)).alloc (.cells #[.string d] 9)) := ((Chg.refl _ _).alloc _).alloc _
  refine (ask_st (HF.out.keep0 hal) false _ 1 1 [d] (by simpa [svs] using (Own.lit (w.alloc (.cells #[.string d] 9)) 9 1 #[.string d] 1 (by decide) rfl).rd) (by decide) (by simp)).mono ?_
  rintro e w1 ⟨rfl, hc1⟩
  have HC1 : Hid (Chg [] w w1) := Lib.hid (hal.trans0 hc1)
  have hk : w1.cell? ⟨w.heap.size, 0, none⟩ = some (.string d) := hc1.cell (((Blk.new w 9 #[.string d]).alloc _).cell 0) (fun h => List.not_mem_nil h)
  have hs1 : w.heap.size < w1.heap.size := by have := hc1.size; simp at this; omega
  have HF1 := Lib.hid (HF.out.addK HC1.out (Nat.le_refl _) hs1)
  clear hc1 hal hs1
  obtain ⟨E, hE⟩ : ∃ E, S.ask false [d] = E := ⟨_, rfl⟩
  rw [hE]
  have HE := Lib.hid hE
  clear hE
  by_cases h : E = 0
  · subst h
    have h0 := HF1.out.blk.cell 0
    simp at h0
    have hl := fun q => (Mp.lookup (HF1.out.tr1.top.chg ((Chg.refl [] w1).drewN q) List.not_mem_nil) (string_key Tryz.underlying9) Tryz.underlying88 (z := .map none) (by kernel_rfl) d).1
    have hq := fun w r => run_neq_map_nil (P := Tryz.prog) w 94 _ _ r Tryz.underlying94
    simp only [aget_tval] at hl
    cases hd : aget G.g1 d with
    | some e =>
      rw [hd] at hl
      simp only [Option.map_some, Option.getD_some] at hl
      have HR : Hid (S.mkdir d = (S, 83)) := Lib.hid (by
        have := HF.out.is1.top d
        rw [hd] at this
        unfold St.mkdir
        rw [if_neg (by rw [HE.out]; simp), if_pos (by rw [← this]; rfl)])
      clear hd
      go_wp2_with fail
      go_quiet (fail)
      go_wp2
      go_ret
      exact ⟨by rw [HR.out]; rfl, by rw [HR.out]; exact FsTo.same HF.out (HC1.out.drewN _)⟩
    | none =>
      rw [hd] at hl
      simp only [Option.map_none, Option.getD_none] at hl
      have hT : aget S.seen d = none := by
        have := HF.out.is1.top d
        rw [hd] at this
        cases hs : aget S.seen d with
        | none => rfl
        | some F => rw [hs] at this; cases this
      have HR : Hid (S.mkdir d = (S.make (.mkdir d), 0)) := Lib.hid (by
        unfold St.mkdir
        rw [if_neg (by rw [HE.out]; simp), if_neg (by rw [hT]; simp)])
      have HT := Lib.hid hT
      clear hd hT
      go_wp2_with fail
      go_quiet (fail)
      go_wp2_with fail
      refine (dodo_mkdir (HF1.out.keep0 ((Chg.refl [] w1).drewN _)) HI.out HB.out ⟨(ask_good HE.out).2.1 d (by simp), HT.out⟩ (k := w.heap.size) (by simp) (((Chg.refl [] w1).drewN _).cell hk List.not_mem_nil)).mono ?_
      rintro e w2 ⟨rfl, hto⟩
      have HTO := Lib.hid hto
      clear hto
      go_wp2
      go_ret
      exact ⟨by rw [HR.out]; rfl, by rw [HR.out]; exact HTO.out.of (HC1.out.drewN _) rfl (FsG.all_addK (Nat.le_refl _))⟩
  · have hb : (E != 0) = true := by simp [h]
    have HR : Hid (S.mkdir d = (S, E)) := Lib.hid (by unfold St.mkdir; rw [HE.out, if_pos h])
    clear h
    go_wp2
    go_ret
    exact ⟨by rw [HR.out]; rfl, by rw [HR.out]; exact FsTo.same HF.out HC1.out⟩

theorem FsM.addK2 {w w1 : World} {G : FsG} {S : St} (h : FsM w G S) (hc : Chg [] w w1) (hx1 : w.heap.size + 1 < w1.heap.size) : FsM w1 { G with K := (w.heap.size + 1) :: w.heap.size :: G.K } S := by
  have hc0 : Chg [] w (w.alloc (.map #[] 0)) := (Chg.refl _ _).alloc _
  have h1 := h.addK (x := w.heap.size) hc0 (Nat.le_refl _) (by simp)
  have h2 := h.addK (x := w.heap.size) hc (Nat.le_refl _) (by omega)
  refine ⟨h2.blk, h2.tr1, h2.is1, h2.tr2, h2.is2, h2.own, fun i c v a b => (h2.chn i c v a b).keep (Chg.refl [] w1) (fun _ _ => List.not_mem_nil) (fun _ hm => List.mem_cons_of_mem _ hm) (fun _ _ => rfl) (Nat.le_refl _), h2.wrs, h2.ibl, h2.sgl, h2.lsl, h2.ibn, fun y hy => List.mem_cons_of_mem _ (h2.ibk y hy), h2.ino, ?_⟩
  exact h1.lay.set_ (w' := w1) (i := 5) (P' := (w.heap.size + 1) :: w.heap.size :: G.K) rfl (fun y hy => by
    rcases List.mem_cons.1 hy with rfl | hy
    · right; simp
    · exact .inl hy) (fun y hy => by
    rcases List.mem_cons.1 hy with rfl | hy
    · exact hx1
    · exact h2.lay.lt (w.heap.size :: G.K) (List.mem_of_getElem? (i := 5) rfl) y hy) (by simp; omega)
theorem FsG.all_addK2 {G : FsG} {x y B : Nat} (hx : B ≤ x) (hy : B ≤ y) : ∀ z ∈ FsG.all { G with K := y :: x :: G.K }, z ∈ G.all ∨ B ≤ z := by
  intro z hz
  rcases FsG.all_addK (G := { G with K := x :: G.K }) hy z hz with h | h
  · exact FsG.all_addK hx z h
  · exact .inr h
theorem Mp.len {κ : Type} {w : World} {b : Nat} {kv : κ → Value} {m : List (κ × Value)} (h : Mp w b kv m) {t k e ty : TypeId} (ht : Tryz.prog.underlying t = some (.map k e)) : (Builtin.len_ #[t] ty #[.map (some b)]).run Tryz.prog w = .ok (.int .i64 (m.length : Int)) w := by
  obtain ⟨es, clock, hb, he, _⟩ := h
  have hl : es.size = m.length := by have := congrArg List.length he; simpa using this
  have hrun : (getObj b).run Tryz.prog w = .ok (.map es clock) w := by simp [getObj, Sem.run, hb]
  simp [Builtin.len_, run_underlying ht, hrun, hl, goInt]

set_option maxRecDepth 100000 in
set_option maxHeartbeats 3200000 in
theorem rmdir_st {w : World} {G : FsG} {S : St} {B : Nat} (h : FsM w G S) (hi : Inv B S) (hB : B ≤ 1073741824) (d : ByteArray) :
    Calls Tryz.prog 35 #[.pointer (some ⟨G.b, 0, none⟩), .string d] w fun e w' => e = .returned (.int .i64 (S.rmdir d).2) ∧ FsTo w G (S.rmdir d).1 w' := by
  have HF := Lib.hid h
  have HI := Lib.hid hi
  have HB := Lib.hid hB
  clear h hi hB
  go_enter Tryz.func35, Tryz.ntmps35
  go_wp2_with fail
  have hal : Chg [] w ((w.alloc (.cells #[.string d] 9)).alloc (.cells #[.string d] 9)) := ((Chg.refl _ _).alloc _).alloc _
  refine (ask_st (HF.out.keep0 hal) true _ 1 1 [d] (by simpa [svs] using (Own.lit (w.alloc (.cells #[.string d] 9)) 9 1 #[.string d] 1 (by decide) rfl).rd) (by decide) (by simp)).mono ?_
  rintro e w1 ⟨rfl, hc1⟩
  have HC1 : Hid (Chg [] w w1) := Lib.hid (hal.trans0 hc1)
  have hk : w1.cell? ⟨w.heap.size, 0, none⟩ = some (.string d) := hc1.cell (((Blk.new w 9 #[.string d]).alloc _).cell 0) (fun h => List.not_mem_nil h)
  have hs1 : w.heap.size < w1.heap.size := by have := hc1.size; simp at this; omega
  have HF1 := Lib.hid (HF.out.addK HC1.out (Nat.le_refl _) hs1)
  clear hc1 hal hs1
  obtain ⟨E, hE⟩ : ∃ E, S.ask true [d] = E := ⟨_, rfl⟩
  rw [hE]
  have HE := Lib.hid hE
  clear hE
  by_cases h : E = 0
  · subst h
    obtain ⟨F, hF⟩ := (ask_good HE.out).2.2 rfl
    simp only [List.headD_cons] at hF
    obtain ⟨g, hg, hsub⟩ := HF.out.is1.get hF
    have h0 := HF1.out.blk.cell 0
    simp at h0
    have hl := fun q => (Mp.lookup (HF1.out.tr1.top.chg ((Chg.refl [] w1).drewN q) List.not_mem_nil) (string_key Tryz.underlying9) Tryz.underlying88 (z := .map none) (by kernel_rfl) d).1
    rw [show G.g1 = ({ G with K := w.heap.size :: G.K } : FsG).g1 from rfl] at hg
    have hlen := fun q ty => Mp.len ((HF1.out.tr1.sub _ (aget_mem hg)).chg ((Chg.refl [] w1).drewN q) List.not_mem_nil) (ty := ty) Tryz.underlying94
    simp only [aget_tval, hg] at hl
    simp only [Option.map_some, Option.getD_some] at hl
    have hfl : (fval g.2).length = F.length := by
      have := (fol_keys hsub (HF1.out.tr1.subnodup (aget_mem hg)) (HI.out.val.sub _ (aget_mem hF))).length_eq
      simpa [fval] using this
    simp only [hfl] at hlen
    have HFF := Lib.hid hF
    clear hg hsub hfl hF
    by_cases hz : 0 < F.length
    · have hz1 : ¬ F.length = 0 := by omega
      have HR : Hid (S.rmdir d = (S, 84)) := Lib.hid (by
        unfold St.rmdir
        rw [if_neg (by rw [HE.out]; simp), if_pos (by rw [fol_some HFF.out]; exact hz)]
        rfl)
      go_wp2_with fail
      go_quiet (fail)
      go_wp2
      go_ret
      exact ⟨by rw [HR.out]; rfl, by rw [HR.out]; exact FsTo.same HF.out (HC1.out.drewN _)⟩
    · have hz0 : F.length = 0 := by omega
      rw [hz0] at hlen
      have HR : Hid (S.rmdir d = (S.make (.rmdir d), 0)) := Lib.hid (by
        unfold St.rmdir
        rw [if_neg (by rw [HE.out]; simp), if_neg (by rw [fol_some HFF.out]; exact hz)])
      clear hz hz0
      go_wp2_with fail
      go_quiet (fail)
      go_wp2_with fail
      refine (dodo_rmdir (HF1.out.keep0 ((Chg.refl [] w1).drewN _)) HI.out HB.out ⟨F, HFF.out⟩ (k := w.heap.size) (by simp) (((Chg.refl [] w1).drewN _).cell hk List.not_mem_nil)).mono ?_
      rintro e w2 ⟨rfl, hto⟩
      have HTO := Lib.hid hto
      clear hto
      go_wp2
      go_ret
      exact ⟨by rw [HR.out]; rfl, by rw [HR.out]; exact HTO.out.of (HC1.out.drewN _) rfl (FsG.all_addK (Nat.le_refl _))⟩
  · have hb : (E != 0) = true := by simp [h]
    have HR : Hid (S.rmdir d = (S, E)) := Lib.hid (by unfold St.rmdir; rw [HE.out, if_pos h])
    clear h
    go_wp2
    go_ret
    exact ⟨by rw [HR.out]; rfl, by rw [HR.out]; exact FsTo.same HF.out HC1.out⟩

set_option maxRecDepth 100000 in
set_option maxHeartbeats 3200000 in
theorem rename_st {w : World} {G : FsG} {S : St} {B : Nat} (h : FsM w G S) (hi : Inv B S) (hB : B ≤ 1073741824) (d n : ByteArray) :
    Calls Tryz.prog 33 #[.pointer (some ⟨G.b, 0, none⟩), .string d, .string n] w fun e w' => e = .returned (.int .i64 (S.rename d n).2) ∧ FsTo w G (S.rename d n).1 w' := by
  have HF := Lib.hid h
  have HI := Lib.hid hi
  have HB := Lib.hid hB
  clear h hi hB
  go_enter Tryz.func33, Tryz.ntmps33
  go_wp2_with fail
  have hal : Chg [] w (((w.alloc (.cells #[.string d] 9)).alloc (.cells #[.string n] 9)).alloc (.cells #[.string d, .string n] 9)) := (((Chg.refl _ _).alloc _).alloc _).alloc _
  have hsz : ((w.alloc (.cells #[.string d] 9)).alloc (.cells #[.string n] 9)).heap.size = w.heap.size + 2 := by simp
  refine (ask_st (HF.out.keep0 hal) true _ 2 2 [d, n] (by simpa [svs] using (Own.lit ((w.alloc (.cells #[.string d] 9)).alloc (.cells #[.string n] 9)) 9 1 #[.string d, .string n] 2 (by decide) rfl).rd) (by decide) (by simp)).mono ?_
  rintro e w1 ⟨rfl, hc1⟩
  have HC1 : Hid (Chg [] w w1) := Lib.hid (hal.trans0 hc1)
  have hk : w1.cell? ⟨w.heap.size, 0, none⟩ = some (.string d) := hc1.cell ((((Blk.new w 9 #[.string d]).alloc _).alloc _).cell 0) (fun h => List.not_mem_nil h)
  have hj : w1.cell? ⟨w.heap.size + 1, 0, none⟩ = some (.string n) := hc1.cell (by simpa using (((Blk.new (w.alloc (.cells #[.string d] 9)) 9 #[.string n]).alloc _).cell 0)) (fun h => List.not_mem_nil h)
  have hs1 : w.heap.size + 1 < w1.heap.size := by have := hc1.size; simp at this; omega
  have HF1 := Lib.hid ((HF.out.addK HC1.out (Nat.le_refl w.heap.size) (by omega)))
  have HC1d : Hid (w.heap.size + 1 < w1.heap.size) := Lib.hid hs1
  clear hc1 hal hs1 hsz
  obtain ⟨E, hE⟩ : ∃ E, S.ask true [d, n] = E := ⟨_, rfl⟩
  rw [hE]
  have HE := Lib.hid hE
  clear hE
  by_cases h : E = 0
  · subst h
    obtain ⟨F, hF⟩ := (ask_good HE.out).2.2 rfl
    simp only [List.headD_cons] at hF
    have HFF := Lib.hid hF
    have HR : Hid (S.rename d n = (S.make (.rename d n), 0)) := Lib.hid (by
      unfold St.rename
      rw [if_neg (by rw [HE.out]; simp)])
    clear hF
    go_wp2_with fail
    refine (dodo_rename (HF.out.addK2 HC1.out HC1d.out) HI.out HB.out ⟨(ask_good HE.out).2.1 n (by simp), F, HFF.out⟩ (k := w.heap.size) (j := w.heap.size + 1) (by simp) hk (by simp) hj).mono ?_
    rintro e w2 ⟨rfl, hto⟩
    have HTO := Lib.hid hto
    clear hto
    go_wp2
    go_ret
    exact ⟨by rw [HR.out]; rfl, by rw [HR.out]; exact HTO.out.of HC1.out rfl (FsG.all_addK2 (Nat.le_refl _) (by omega))⟩
  · have hb : (E != 0) = true := by simp [h]
    have HR : Hid (S.rename d n = (S, E)) := Lib.hid (by unfold St.rename; rw [HE.out, if_pos h])
    clear h
    go_wp2
    go_ret
    exact ⟨by rw [HR.out]; rfl, by rw [HR.out]; exact FsTo.same HF.out HC1.out⟩

theorem fnd_good {S : St} {d n : ByteArray} {x : Nat} {e : Int} (h : S.fnd d n = (some x, e)) : e = 0 ∧ S.down = false ∧ ∃ F, aget S.seen d = some F ∧ aget F n = some x := by
  unfold St.fnd at h
  by_cases h0 : S.ask true [d, n] = 0
  · rw [if_neg (by simp [h0])] at h
    obtain ⟨hd, _, hF⟩ := ask_good h0
    obtain ⟨F, hF⟩ := hF rfl
    simp only [List.headD_cons] at hF
    rw [fol_some hF] at h
    cases hn : aget F n with
    | none => rw [hn] at h; cases h
    | some i => rw [hn] at h; injection h with h1 h2; injection h1 with h1; subst h1; exact ⟨h2.symm, hd, F, hF, hn⟩
  · rw [if_pos h0] at h; cases h
theorem fnd_bad {S : St} {d n : ByteArray} {e : Int} (h : S.fnd d n = (none, e)) : e ≠ 0 := by
  unfold St.fnd at h
  by_cases h0 : S.ask true [d, n] = 0
  · rw [if_neg (by simp [h0])] at h
    cases hn : aget (folOf S.seen d) n with
    | none => rw [hn] at h; injection h with _ h2; rw [← h2]; decide
    | some i => rw [hn] at h; cases h
  · rw [if_pos h0] at h; injection h with _ h2; rw [← h2]; exact h0

set_option maxRecDepth 100000 in
set_option maxHeartbeats 3200000 in
theorem remove_st {w : World} {G : FsG} {S : St} {B : Nat} (h : FsM w G S) (hi : Inv B S) (hB : B ≤ 1073741824) (d n : ByteArray) :
    Calls Tryz.prog 34 #[.pointer (some ⟨G.b, 0, none⟩), .string d, .string n] w fun e w' => e = .returned (.int .i64 (S.remove d n).2) ∧ FsTo w G (S.remove d n).1 w' := by
  have HF := Lib.hid h
  have HI := Lib.hid hi
  have HB := Lib.hid hB
  clear h hi hB
  go_enter Tryz.func34, Tryz.ntmps34
  go_wp2_with fail
  have hal : Chg [] w ((w.alloc (.cells #[.string d] 9)).alloc (.cells #[.string n] 9)) := ((Chg.refl _ _).alloc _).alloc _
  refine (find_st (HF.out.keep0 hal) d n).mono ?_
  rintro e w1 ⟨rfl, hc1⟩
  have HC1 : Hid (Chg [] w w1) := Lib.hid (hal.trans0 hc1)
  have hk : w1.cell? ⟨w.heap.size, 0, none⟩ = some (.string d) := hc1.cell (((Blk.new w 9 #[.string d]).alloc _).cell 0) (fun h => List.not_mem_nil h)
  have hj : w1.cell? ⟨w.heap.size + 1, 0, none⟩ = some (.string n) := hc1.cell (by simp) (fun h => List.not_mem_nil h)
  have hs1 : w.heap.size + 1 < w1.heap.size := by have := hc1.size; simp at this; omega
  have HC1d : Hid (w.heap.size + 1 < w1.heap.size) := Lib.hid hs1
  clear hc1 hal hs1
  obtain ⟨o, E, hE⟩ : ∃ o E, S.fnd d n = (o, E) := ⟨_, _, rfl⟩
  rw [hE]
  have HE := Lib.hid hE
  cases o with
  | some x =>
    obtain ⟨he0, hd0, F, hF, hx⟩ := fnd_good hE
    subst he0
    have HFF := Lib.hid hF
    have HR : Hid (S.remove d n = (S.make (.remove d n), 0)) := Lib.hid (by unfold St.remove; rw [HE.out])
    clear hF hE hx hd0
    simp only [findV, Option.map_some]
    go_wp2_with fail
    refine (dodo_remove (HF.out.addK2 HC1.out HC1d.out) HI.out HB.out ⟨F, HFF.out⟩ (k := w.heap.size) (j := w.heap.size + 1) (by simp) hk (by simp) hj).mono ?_
    rintro e w2 ⟨rfl, hto⟩
    have HTO := Lib.hid hto
    clear hto
    go_wp2
    go_ret
    exact ⟨by rw [HR.out]; rfl, by rw [HR.out]; exact HTO.out.of HC1.out rfl (FsG.all_addK2 (Nat.le_refl _) (by omega))⟩
  | none =>
    have hb : (E != 0) = true := by simpa using fnd_bad hE
    have HR : Hid (S.remove d n = (S, E)) := Lib.hid (by unfold St.remove; rw [HE.out])
    clear hE
    simp only [findV, Option.map_none]
    go_wp2
    go_ret
    exact ⟨by rw [HR.out]; rfl, by rw [HR.out]; exact FsTo.same HF.out HC1.out⟩

theorem filesBulk_snoc (fs : List Fil) (f : Fil) : filesBulk (fs ++ [f]) = filesBulk fs + (f.all.length + f.2.length) := by
  simp [filesBulk]
theorem Inv.addFile {B : Nat} {S : St} (h : Inv B S) (f : List Int) : Inv (B + f.length + 1) { S with files := S.files ++ [(f, [])] } := by
  obtain ⟨h1, h2, h3, h4, h5, h6, h7, h8, h9, h10⟩ := h
  refine ⟨h1.mono (by simp), okC_mono h2 (by simp), h3, fun x hx => by have := h4 x hx; simp; omega, by simp only; omega, by simp; omega, ?_, by simp only; omega, by simp only; omega, h10⟩
  simp only [filesBulk_snoc, Fil.all, List.flatten_nil, List.append_nil, List.length_nil]
  omega

set_option maxRecDepth 100000 in
set_option maxHeartbeats 3200000 in
theorem create_st {w : World} {G : FsG} {S : St} {B : Nat} (h : FsM w G S) (hi : Inv B S) (hB : B + 1 ≤ 1073741824) (d n : ByteArray) :
    Calls Tryz.prog 25 #[.pointer (some ⟨G.b, 0, none⟩), .string d, .string n] w fun e w' => e = .returned (.int .i64 (S.create d n).2) ∧ FsTo w G (S.create d n).1 w' := by
  have HF := Lib.hid h
  have HI := Lib.hid hi
  have HB := Lib.hid hB
  clear h hi hB
  go_enter Tryz.func25, Tryz.ntmps25
  go_wp2_with fail
  have hal : Chg [] w (((w.alloc (.cells #[.string d] 9)).alloc (.cells #[.string n] 9)).alloc (.cells #[.string d, .string n] 9)) := (((Chg.refl _ _).alloc _).alloc _).alloc _
  have hsz : ((w.alloc (.cells #[.string d] 9)).alloc (.cells #[.string n] 9)).heap.size = w.heap.size + 2 := by simp
  refine (ask_st (HF.out.keep0 hal) true _ 2 2 [d, n] (by simpa [svs] using (Own.lit ((w.alloc (.cells #[.string d] 9)).alloc (.cells #[.string n] 9)) 9 1 #[.string d, .string n] 2 (by decide) rfl).rd) (by decide) (by simp)).mono ?_
  rintro e w1 ⟨rfl, hc1⟩
  have HC1 : Hid (Chg [] w w1) := Lib.hid (hal.trans0 hc1)
  have hk : w1.cell? ⟨w.heap.size, 0, none⟩ = some (.string d) := hc1.cell ((((Blk.new w 9 #[.string d]).alloc _).alloc _).cell 0) (fun h => List.not_mem_nil h)
  have hj : w1.cell? ⟨w.heap.size + 1, 0, none⟩ = some (.string n) := hc1.cell (by simpa using (((Blk.new (w.alloc (.cells #[.string d] 9)) 9 #[.string n]).alloc _).cell 0)) (fun h => List.not_mem_nil h)
  have hs1 : w.heap.size + 1 < w1.heap.size := by have := hc1.size; simp at this; omega
  have HC1d : Hid (w.heap.size + 1 < w1.heap.size) := Lib.hid hs1
  have HF1 := Lib.hid (HF.out.addK2 HC1.out hs1)
  clear hc1 hal hs1 hsz
  obtain ⟨E, hE⟩ : ∃ E, S.ask true [d, n] = E := ⟨_, rfl⟩
  rw [hE]
  have HE := Lib.hid hE
  clear hE
  by_cases h : E = 0
  · subst h
    obtain ⟨F, hF⟩ := (ask_good HE.out).2.2 rfl
    simp only [List.headD_cons] at hF
    obtain ⟨g, hg, hsub⟩ := HF.out.is1.get hF
    have h0 := HF1.out.blk.cell 0
    simp at h0
    have hl := fun q => (Mp.lookup (HF1.out.tr1.top.chg ((Chg.refl [] w1).drewN q) List.not_mem_nil) (string_key Tryz.underlying9) Tryz.underlying88 (z := .map none) (by kernel_rfl) d).1
    rw [show G.g1 = ({ G with K := (w.heap.size + 1) :: w.heap.size :: G.K } : FsG).g1 from rfl] at hg
    have hl2 := fun q => (Mp.lookup ((HF1.out.tr1.sub _ (aget_mem hg)).chg ((Chg.refl [] w1).drewN q) List.not_mem_nil) (string_key Tryz.underlying9) Tryz.underlying94 (z := .pointer none) (by kernel_rfl) n).1
    simp only [aget_tval, hg] at hl
    simp only [Option.map_some, Option.getD_some] at hl
    simp only at hl2
    simp only [aget_fval, hsub n] at hl2
    have HFF := Lib.hid hF
    clear hg hsub hF
    cases hx : aget F n with
    | some x =>
      rw [hx] at hl2
      simp only [Option.map_some, Option.getD_some] at hl2
      have HR : Hid (S.create d n = (S, 83)) := Lib.hid (by
        unfold St.create
        rw [if_neg (by rw [HE.out]; simp), if_pos (by rw [fol_some HFF.out, hx]; rfl)])
      clear hx
      go_wp2_with fail
      go_quiet (fail)
      go_wp2
      go_ret
      exact ⟨by rw [HR.out]; rfl, by rw [HR.out]; exact FsTo.same HF.out (HC1.out.drewN _)⟩
    | none =>
      rw [hx] at hl2
      simp only [Option.map_none, Option.getD_none] at hl2
      have HR : Hid (S.create d n = (({ S with files := S.files ++ [([], [])] } : St).make (.create d n S.files.length), 0)) := Lib.hid (by
        unfold St.create
        rw [if_neg (by rw [HE.out]; simp), if_neg (by rw [fol_some HFF.out, hx]; simp)])
      have HX := Lib.hid hx
      clear hx
      go_wp2_with fail
      go_quiet (fail)
      go_wp2_with fail
      refine (new_any none 0 0 [] _ (by decide) (Rd.nil _ _)).mono ?_
      rintro e w2 ⟨sg, L, rfl, hs, hc2, hLn⟩
      have HC2 : Hid (Chg [] w1 w2) := Lib.hid (((Chg.refl [] w1).drewN _).trans0 hc2)
      have HS := Lib.hid hs
      have HLN : Hid (∀ k ∈ L, w1.heap.size ≤ k) := Lib.hid hLn
      have hk2 := HC2.out.cell hk List.not_mem_nil
      have hj2 := HC2.out.cell hj List.not_mem_nil
      clear hs hc2 hLn hk hj h0 hl hl2
      go_wp2_with fail
      have hF2 := HF1.out.addFile HI.out HC2.out HLN.out HS.out (w2 := w2.alloc (.cells #[.pointer (some ⟨sg, 0, none⟩)] 98)) ((Chg.refl [] w2).alloc _) (x := w2.heap.size) (Nat.le_refl _) (Blk.new w2 98 #[.pointer (some ⟨sg, 0, none⟩)])
      have hF3 := hF2.addK (w1 := (w2.alloc (.cells #[.pointer (some ⟨sg, 0, none⟩)] 98)).alloc (.cells #[.pointer (some ⟨w2.heap.size, 0, none⟩)] 95)) ((Chg.refl [] _).alloc _) (x := w2.heap.size + 1) (by simp) (by simp)
      have hc4 : Chg [] w2 ((w2.alloc (.cells #[.pointer (some ⟨sg, 0, none⟩)] 98)).alloc (.cells #[.pointer (some ⟨w2.heap.size, 0, none⟩)] 95)) := ((Chg.refl [] w2).alloc _).alloc _
      have hx4 : ((w2.alloc (.cells #[.pointer (some ⟨sg, 0, none⟩)] 98)).alloc (.cells #[.pointer (some ⟨w2.heap.size, 0, none⟩)] 95)).cell? ⟨w2.heap.size + 1, 0, none⟩ = some (.pointer (some ⟨w2.heap.size, 0, none⟩)) := by
        simp
      have hib : ibf (G.ib ++ [w2.heap.size]) S.files.length = w2.heap.size := by rw [← HF.out.ibl]; exact ibf_new _ _
      have hin := HI.out.addFile []
      refine (dodo_create hF3 hin (by simpa using HB.out) (i := S.files.length) ⟨by simp, (ask_good HE.out).2.1 n (by simp), F, HFF.out, HX.out⟩ (x := w2.heap.size + 1) (k := w.heap.size) (j := w.heap.size + 1) (by simp) (by show _ = some (Value.pointer (some ⟨ibf (G.ib ++ [w2.heap.size]) S.files.length, 0, none⟩)); rw [hib]; exact hx4) (by simp) (hc4.cell hk2 List.not_mem_nil) (by simp) (hc4.cell hj2 List.not_mem_nil)).mono ?_
      rintro e w5 ⟨rfl, hto⟩
      have HTO := Lib.hid hto
      have hsz2 := HC2.out.size
      have hsz1 := HC1.out.size
      have HALL : Hid (∀ y ∈ FsG.all { b := G.b, t1 := G.t1, t2 := G.t2, g1 := G.g1, g2 := G.g2, A := G.A, c := G.c, vs := G.vs, Aw := G.Aw, cw := G.cw, K := (w2.heap.size + 1) :: w2.heap.size :: (w.heap.size + 1) :: w.heap.size :: G.K, ib := G.ib ++ [w2.heap.size], sg := G.sg ++ [sg], Ls := G.Ls ++ [L] }, y ∈ G.all ∨ w.heap.size ≤ y) := Lib.hid (fun y hy => by
        rcases FsG.all_addK (B := w.heap.size) (G := { G with K := w2.heap.size :: (w.heap.size + 1) :: w.heap.size :: G.K, ib := G.ib ++ [w2.heap.size], sg := G.sg ++ [sg], Ls := G.Ls ++ [L] }) (x := w2.heap.size + 1) (by omega) y hy with h1 | h1
        · rcases FsG.all_addFile (B := w.heap.size) (G := { G with K := (w.heap.size + 1) :: w.heap.size :: G.K }) (x := w2.heap.size) (L := L) (g := sg) (by omega) (fun k hk => by have := HLN.out k hk; omega) y h1 with h2 | h2
          · exact FsG.all_addK2 (Nat.le_refl _) (by omega) y h2
          · exact .inr h2
        · exact .inr h1)
      have HCC : Hid (Chg [] w ((w2.alloc (.cells #[.pointer (some ⟨sg, 0, none⟩)] 98)).alloc (.cells #[.pointer (some ⟨w2.heap.size, 0, none⟩)] 95))) := Lib.hid ((HC1.out.trans0 HC2.out).trans0 hc4)
      clear hto hF2 hF3 hc4 hx4 hib hin hk2 hj2 hsz2 hsz1
      go_wp2
      go_ret
      exact ⟨by rw [HR.out]; rfl, by rw [HR.out]; exact HTO.out.of HCC.out rfl HALL.out⟩
  · have hb : (E != 0) = true := by simp [h]
    have HR : Hid (S.create d n = (S, E)) := Lib.hid (by unfold St.create; rw [HE.out, if_pos h])
    clear h
    go_wp2
    go_ret
    exact ⟨by rw [HR.out]; rfl, by rw [HR.out]; exact FsTo.same HF.out HC1.out⟩
end Go.Proofs.YtgomofeidghmiaaGreat
