/-
  Layer 17: the walk of GroupsOwn.
-/
import Derived.Test.YtelmnmepdmfihaaGrX
import Derived.Test.YtelmnmepdmfihaaGrO
import Derived.Test.YtelmnmepdmfihaaGrOc
namespace Go.Proofs.Ytelmnmepdmfihaa
open Go.RowKit

theorem mkL_len' (ls : List Lk) (ts : List Int) (node first : Int) : (mkL ls ts node first).length ≤ ls.length := by
  unfold mkL; split
  · rw [layB_length]; exact Nat.le_refl _
  · simp
theorem mkG_len' (ls : List Lk) (ts : List Int) (node first : Int) : (mkG ls ts node first).length ≤ ls.length := by
  unfold mkG; split
  · rw [grps_length]; exact gather_len ls ts node
  · simp
def blks (a b : Nat) : List Nat := (List.range b).filter fun x => decide (a ≤ x)
theorem mem_blks {a b x : Nat} : x ∈ blks a b ↔ a ≤ x ∧ x < b := by simp [blks, and_comm]
theorem BOwn.base {w00 w0 w : World} {A : Option Addr} {n c : Nat} {rs : List (Int × B3)} {bs : List Bn} (h : BOwn w0 w A n c rs bs) (hs : w00.heap.size ≤ w0.heap.size) : BOwn w00 w A n c rs bs :=
  ⟨h.own, h.len, h.row, h.sep, fun x hx => Nat.le_trans hs (h.newA x hx), fun p hp k hk x hx => Nat.le_trans hs (h.new3 p hp k hk x hx)⟩
theorem BOwn.rowsome {w0 w : World} {A : Option Addr} {n c : Nat} {rs : List (Int × B3)} {bs : List Bn} (h : BOwn w0 w A n c rs bs) {i : Nat} {p : Int × B3} (hp : rs[i]? = some p) : ∃ b, bs[i]? = some b ∧ Own3 w p.2 b.f := by
  obtain ⟨b, hb⟩ : ∃ b, bs[i]? = some b := ⟨_, List.getElem?_eq_getElem (by rw [← h.len]; exact (List.getElem?_eq_some_iff.1 hp).1)⟩
  exact ⟨b, hb, (h.row i p b hp hb).2⟩
/-- bunches that lie outside what has changed are read as before -/
theorem BOwn.brdL {w0 w w' : World} {A : Option Addr} {n c : Nat} {rs : List (Int × B3)} {bs : List Bn} {L : List Nat} (h : BOwn w0 w A n c rs bs) (hc : Chg L w w') (hn : ∀ x, w0.heap.size ≤ x → x ∉ L) : BRd w' A n c bs :=
  ⟨rs, (h.own.chg hc (fun x hx => hn x (h.newA x hx))).rd, h.len, fun i p b hp hb => ⟨(h.row i p b hp hb).1, fun k hk => (((h.row i p b hp hb).2 k hk).chg hc (fun x hx => hn x (h.new3 p (List.mem_of_getElem? hp) k hk x hx))).rd⟩⟩
theorem BRd.chg0' {w w' : World} {A : Option Addr} {n c : Nat} {bs : List Bn} (h : BRd w A n c bs) (hc : Chg [] w w') : BRd w' A n c bs := by
  obtain ⟨rs, h1, h2, h3⟩ := h
  exact ⟨rs, h1.chg hc (fun _ _ => List.not_mem_nil), h2, fun i p b hp hb => ⟨(h3 i p b hp hb).1, fun k hk => ((h3 i p b hp hb).2 k hk).chg hc (fun _ _ => List.not_mem_nil)⟩⟩
theorem BOwn.ao {W w3 w4 : World} {A : Option Addr} {n c : Nat} {rs : List (Int × B3)} {bs : List Bn} (h : BOwn W w3 A n c rs bs) (hn : bs.length = n) (hc : Chg [] w3 w4) :
    AO (blks W.heap.size w3.heap.size) w4 w4 A n c rs (fun i k => iv (((bs[i]?).map fun b => b.f k).getD [])) := by
  refine ⟨h.own.chg hc (fun _ _ => List.not_mem_nil), h.len.trans hn, fun i p hp k hk => ?_, h.sep, fun x hx => .inl (mem_blks.2 ⟨h.newA x hx, h.own.lt x hx⟩), fun i p hp k hk x hx => ?_, Chg.refl _ _⟩
  · obtain ⟨b, hb, ho⟩ := h.rowsome hp
    simp only [hb, Option.map_some, Option.getD_some]
    exact (ho k hk).chg hc (fun _ _ => List.not_mem_nil)
  · obtain ⟨b, hb, ho⟩ := h.rowsome hp
    exact .inl (mem_blks.2 ⟨h.new3 p (List.mem_of_getElem? hp) k hk x hx, (ho k hk).lt x hx⟩)

set_option maxRecDepth 1000000 in
set_option maxHeartbeats 6400000 in
theorem lgown_any (A : Option Addr) (n c : Nat) (ls : List Lk) (B : Option Addr) (m d : Nat) (ts : List Int) (node : Int) (w : World) (hrd : Rd w 7 A n c (lvs ls)) (hn : n ≤ 1073741824) (hts : Rd w 1 B m d (iv ts)) (hm : m ≤ 1073741824) (hwf : ∀ z ∈ ts, (Lit.int .i64 z).wf = true) :
    Calls Try.prog 9 #[.agg #[.slice A n c, .slice B m d], .int .i64 node] w fun e w' => e = .returned (.bool true) ∧ Chg [] w w' := by
  have hl : ls.length = n := by have := hrd.1; rw [lvs_length] at this; omega
  have HR := Lib.hid hrd
  have HO := Lib.hid hts
  have HL := Lib.hid hl
  have HWF := Lib.hid hwf
  clear hrd hts hl hwf
  go_enter Try.func9, Try.ntmps9
  go_wp2_with fail
  refine (gspeaks_any _).mono ?_
  rintro e w1 ⟨rfl, hc1⟩
  have hb := (Blk.new w 25 #[.slice A n c, .slice B m d]).chg hc1 (fun h => List.not_mem_nil h)
  have C1 : Chg [] w w1 := ((Chg.refl [] w).alloc _).trans0 hc1
  have z0 := hb.cell 0
  have z1 := hb.cell 1
  simp at z0 z1
  go_wp2_with fail
  refine (copied_any A n c ls B m d ts _ (HR.out.chg C1 (fun _ _ => List.not_mem_nil)) hn (HO.out.chg C1 (fun _ _ => List.not_mem_nil)) hm).mono ?_
  rintro e w2 ⟨A2, c2, B2, d2, rfl, hoa, hob, hc2, hna, hnb⟩
  clear z0 z1
  go_wp2_with fail
  have hb2 := (hb.chg hc2 (fun h => List.not_mem_nil h)).alloc (.cells #[.slice A2 n c2, .slice B2 m d2] 25)
  have hb3 := Blk.new w2 25 #[.slice A2 n c2, .slice B2 m d2]
  have hcw := (Chg.refl [] w2).alloc (.cells #[.slice A2 n c2, .slice B2 m d2] 25)
  obtain ⟨W, hW⟩ : ∃ W, W = w2.alloc (.cells #[.slice A2 n c2, .slice B2 m d2] 25) := ⟨_, rfl⟩
  rw [← hW] at hb2 hb3 hcw ⊢
  clear hW
  obtain ⟨Bi, hBi⟩ : ∃ Bi, Bi = w2.heap.size := ⟨_, rfl⟩
  rw [← hBi] at hb3 ⊢
  clear hBi
  have y0 := hb3.cell 0
  have y1 := hb3.cell 1
  simp at y0 y1
  have HC : Hid (Chg [] w W) := Lib.hid ((C1.trans0 hc2).trans0 hcw)
  have HOA : Hid (Own W 55 7 A2 n c2 (lvs ls)) := Lib.hid (hoa.chg hcw (fun _ _ => List.not_mem_nil))
  have HOB : Hid (Own W 3 1 B2 m d2 (iv ts)) := Lib.hid (hob.chg hcw (fun _ _ => List.not_mem_nil))
  have HB2 := Lib.hid hb2
  have HB3 := Lib.hid hb3
  clear hb hb2 hb3 hcw hoa hob hna hnb hc2 C1 hc1
  refine wp_region_held_drew (S := fun w' => Chg [] W w') (by kernel_rfl) ((Chg.refl _ _).drew) (fun hHeld => ?_)
  refine wpAnyH_take (i := 0) (v := ?_) rfl (by kernel_rfl) (by kernel_rfl) (by kernel_rfl) (fun _ _ _ h => h) (Or.inl ⟨by rfl, ?_⟩) (by assumption) ?_
  rotate_left
  · (intro w' hSw; go_simp; try with_reducible rfl)
  try simp only [Act.put, List.getElem_toArray, List.getElem_cons_zero, List.setIfInBounds_toArray, List.set_cons_zero, List.set_cons_succ]
  refine wpAnyH_take (i := 1) (v := ?_) rfl (by kernel_rfl) (by kernel_rfl) (by kernel_rfl) (fun _ _ _ h => h) (Or.inl ⟨by rfl, ?_⟩) (by assumption) ?_
  rotate_left
  · (intro w' hSw; have q := hSw.cell y0 (fun h => List.not_mem_nil h); go_simp; try with_reducible rfl)
  try simp only [Act.put, List.getElem_toArray, List.getElem_cons_zero, List.getElem_cons_succ, List.setIfInBounds_toArray, List.set_cons_zero, List.set_cons_succ]
  refine wpAnyH_take (i := 2) (v := ?_) rfl (by kernel_rfl) (by kernel_rfl) (by kernel_rfl) (fun _ _ _ h => h) (Or.inl ⟨by rfl, ?_⟩) (by assumption) ?_
  rotate_left
  · (intro w' hSw; go_simp; try with_reducible rfl)
  try simp only [Act.put, List.getElem_toArray, List.getElem_cons_zero, List.getElem_cons_succ, List.setIfInBounds_toArray, List.set_cons_zero, List.set_cons_succ]
  refine wpAnyH_take (i := 3) (v := ?_) rfl (by kernel_rfl) (by kernel_rfl) (by kernel_rfl) (fun _ _ _ h => h) (Or.inl ⟨by rfl, ?_⟩) (by assumption) ?_
  rotate_left
  · (intro w' hSw; have q := hSw.cell y1 (fun h => List.not_mem_nil h); go_simp; try with_reducible rfl)
  try simp only [Act.put, List.getElem_toArray, List.getElem_cons_zero, List.getElem_cons_succ, List.setIfInBounds_toArray, List.set_cons_zero, List.set_cons_succ]
  refine wpAnyH_take (i := 4) (v := ?_) rfl (by kernel_rfl) (by kernel_rfl) (by kernel_rfl) (fun _ _ _ h => h) (Or.inl ⟨by rfl, ?_⟩) (by assumption) ?_
  rotate_left
  · (intro w' hSw; go_simp; try with_reducible rfl)
  try simp only [Act.put, List.getElem_toArray, List.getElem_cons_zero, List.getElem_cons_succ, List.setIfInBounds_toArray, List.set_cons_zero, List.set_cons_succ]
  refine wpAnyH_take (i := 6) (v := ?_) rfl (by kernel_rfl) (by kernel_rfl) (by kernel_rfl) (fun _ _ _ h => h) (Or.inl ⟨by rfl, ?_⟩) (by assumption) ?_
  rotate_left
  · (intro w' hSw; go_simp; try with_reducible rfl)
  try simp only [Act.put, List.getElem_toArray, List.getElem_cons_zero, List.getElem_cons_succ, List.setIfInBounds_toArray, List.set_cons_zero, List.set_cons_succ]
  refine wpAnyH_take (i := 7) (v := ?_) rfl (by kernel_rfl) (by kernel_rfl) (by kernel_rfl) (fun _ _ _ h => h) (Or.inl ⟨by rfl, ?_⟩) (by assumption) ?_
  rotate_left
  · (intro w' hSw; have q := hSw.cell y0 (fun h => List.not_mem_nil h); go_simp; try with_reducible rfl)
  try simp only [Act.put, List.getElem_toArray, List.getElem_cons_zero, List.getElem_cons_succ, List.setIfInBounds_toArray, List.set_cons_zero, List.set_cons_succ]
  refine wpAnyH_take (i := 8) (v := ?_) rfl (by kernel_rfl) (by kernel_rfl) (by kernel_rfl) (fun _ _ _ h => h) (Or.inl ⟨by rfl, ?_⟩) (by assumption) ?_
  rotate_left
  · (intro w' hSw; go_simp; try with_reducible rfl)
  try simp only [Act.put, List.getElem_toArray, List.getElem_cons_zero, List.getElem_cons_succ, List.setIfInBounds_toArray, List.set_cons_zero, List.set_cons_succ]
  refine wpAnyH_take (i := 9) (v := ?_) rfl (by kernel_rfl) (by kernel_rfl) (by kernel_rfl) (fun _ _ _ h => h) (Or.inl ⟨by rfl, ?_⟩) (by assumption) ?_
  rotate_left
  · (intro w' hSw; have q := hSw.cell y1 (fun h => List.not_mem_nil h); go_simp; try with_reducible rfl)
  try simp only [Act.put, List.getElem_toArray, List.getElem_cons_zero, List.getElem_cons_succ, List.setIfInBounds_toArray, List.set_cons_zero, List.set_cons_succ]
  refine wpAnyH_take (i := 10) (v := ?_) rfl (by kernel_rfl) (by kernel_rfl) (by kernel_rfl) (fun _ _ _ h => h) (Or.inl ⟨by rfl, ?_⟩) (by assumption) ?_
  rotate_left
  · (intro w' hSw; go_simp; try with_reducible rfl)
  try simp only [Act.put, List.getElem_toArray, List.getElem_cons_zero, List.getElem_cons_succ, List.setIfInBounds_toArray, List.set_cons_zero, List.set_cons_succ]
  refine wpAnyH_ready (rs := [5]) (by kernel_rfl) (by simp) ?_
  refine AllReadyH.cons rfl (fun K hK => ?_) (AllReadyH.nil)
  go_simp
  refine (gather_any A2 n c2 ls B2 m d2 ts node _ (HOA.out.rd.chg hHeld (fun _ _ => List.not_mem_nil)) hn (HOB.out.rd.chg hHeld (fun _ _ => List.not_mem_nil)) hm HWF.out).mono ?_
  rintro e w3 ⟨Aa, ca, rsa, rfl, hba, hc3⟩
  have HBA := Lib.hid (hba.base hHeld.size)
  have H3 := Lib.hid (hHeld.trans0 hc3)
  clear hba hc3
  refine hK.out _ _ (H3.out) (fun hHeld => ?_)
  try simp only [Act.put, List.getElem_toArray, List.getElem_cons_zero, List.getElem_cons_succ, List.setIfInBounds_toArray, List.set_cons_zero, List.set_cons_succ]
  clear hK K
  refine wpAnyH_ready (rs := [11]) (by kernel_rfl) (by simp) ?_
  refine AllReadyH.cons rfl (fun K hK => ?_) (AllReadyH.nil)
  go_simp
  refine (gather_any A2 n c2 ls B2 m d2 ts node _ (HOA.out.rd.chg H3.out (fun _ _ => List.not_mem_nil)) hn (HOB.out.rd.chg H3.out (fun _ _ => List.not_mem_nil)) hm HWF.out).mono ?_
  rintro e w4 ⟨Ab, cb, rsb, rfl, hbb, hc4⟩
  have HBB := Lib.hid hbb
  have HC4 := Lib.hid hc4
  have H4 := Lib.hid (H3.out.trans0 hc4)
  clear hbb hc4
  refine hK.out _ _ (H4.out) (fun hHeld => ?_)
  try simp only [Act.put, List.getElem_toArray, List.getElem_cons_zero, List.getElem_cons_succ, List.setIfInBounds_toArray, List.set_cons_zero, List.set_cons_succ]
  clear hK K
  refine wpAnyH_take (i := 12) (v := ?_) rfl (by kernel_rfl) (by kernel_rfl) (by kernel_rfl) (fun _ _ _ h => h) (Or.inl ⟨by rfl, ?_⟩) (by assumption) ?_
  rotate_left
  · (intro w' hSw; go_simp; try with_reducible rfl)
  try simp only [Act.put, List.getElem_toArray, List.getElem_cons_zero, List.getElem_cons_succ, List.setIfInBounds_toArray, List.set_cons_zero, List.set_cons_succ]
  refine wpAnyH_take (i := 13) (v := ?_) rfl (by kernel_rfl) (by kernel_rfl) (by kernel_rfl) (fun _ _ _ h => h) (Or.inl ⟨by rfl, ?_⟩) (by assumption) ?_
  rotate_left
  · (intro w' hSw; go_simp; try with_reducible rfl)
  try simp only [Act.put, List.getElem_toArray, List.getElem_cons_zero, List.getElem_cons_succ, List.setIfInBounds_toArray, List.set_cons_zero, List.set_cons_succ]
  refine wpAnyH_done (by kernel_rfl) ?_ _
  try simp only [Act.put, List.getElem_toArray, List.getElem_cons_zero, List.getElem_cons_succ, List.setIfInBounds_toArray, List.set_cons_zero, List.set_cons_succ]
  clear y0 y1
  have hLnn := gather_len ls ts node
  have hfl := gather_flen' (ts := ts) (node := node) HL.out hn
  obtain ⟨bs, hbs⟩ : ∃ bs, gather ls ts node = bs := ⟨_, rfl⟩
  have hba := HBA.out
  have hbb := HBB.out
  clear HBA HBB
  rw [hbs] at hba hbb hLnn hfl ⊢
  obtain ⟨Ln, hLn⟩ : ∃ Ln, bs.length = Ln := ⟨_, rfl⟩
  rw [hLn] at hba hbb hLnn ⊢
  have HBS := Lib.hid hbs
  have HLN := Lib.hid hLn
  have HFL := Lib.hid hfl
  have hLn30 : Ln ≤ 1073741824 := by have := HL.out; omega
  have HAO := Lib.hid (hba.ao hLn HC4.out)
  have HSM : Hid (∀ (i : Nat) (p : Int × B3), rsa[i]? = some p → ∀ k, k < 3 → p.2.n k ≤ 1073741824) := Lib.hid (fun i p hp k hk => by
    obtain ⟨b, hb, ho⟩ := hba.rowsome hp
    have q := own_len (ho k hk)
    have := hfl i b hb k hk
    omega)
  obtain ⟨La, hLa⟩ : ∃ La, blks W.heap.size w3.heap.size = La := ⟨_, rfl⟩
  rw [hLa] at HAO
  have HNL : Hid (∀ x, x < W.heap.size → x ∉ La) := Lib.hid (fun x hx hm => by rw [← hLa, mem_blks] at hm; omega)
  have HNB : Hid (∀ x, w3.heap.size ≤ x → x ∉ La) := Lib.hid (fun x hx hm => by rw [← hLa, mem_blks] at hm; omega)
  have HLW : Hid (∀ x ∈ La, W.heap.size ≤ x) := Lib.hid (fun x hm => by rw [← hLa, mem_blks] at hm; exact hm.1)
  have HBB := Lib.hid hbb
  have HI4 : Hid (∀ w', Chg La w4 w' → Own w' 55 7 A2 n c2 (lvs ls)) := Lib.hid (fun w' h => (HOA.out.chg H4.out (fun _ _ => List.not_mem_nil)).chg h (fun x hx => HNL.out x (HOA.out.lt x hx)))
  have HJ4 : Hid (∀ w', Chg La w4 w' → Own w' 3 1 B2 m d2 (iv ts)) := Lib.hid (fun w' h => (HOB.out.chg H4.out (fun _ _ => List.not_mem_nil)).chg h (fun x hx => HNL.out x (HOB.out.lt x hx)))
  have HX4 : Hid (∀ w', Chg La w4 w' → Blk w' Bi 25 #[.slice A2 n c2, .slice B2 m d2]) := Lib.hid (fun w' h => (HB3.out.chg H4.out (fun h => List.not_mem_nil h)).chg h (HNL.out _ HB3.out.lt))
  have HY4 : Hid (∀ w', Chg La w4 w' → Blk w' w.heap.size 25 #[.slice A n c, .slice B m d]) := Lib.hid (fun w' h => (HB2.out.chg H4.out (fun h => List.not_mem_nil h)).chg h (HNL.out _ HB2.out.lt))
  have HT4 : Hid (∀ w', Chg La w4 w' → Chg [] w w') := Lib.hid (fun w' h => (HC.out.trans0 H4.out).trans h (fun x hx => .inr (Nat.le_trans HC.out.size (HLW.out x hx))))
  clear hba hbb hbs hLn hfl hLa hLnn
  go_wp2
  refine own_lp1 (La := La) (w0 := w4) (rs := rsa) w4 _ (Lib.hid (by intro c a d v w h; exact h)) HAO HSM hLn30 _ _ _ _ _ _ _ _ _ _ _ _ _ _ _ _ _ _ _ _ _ _ _ _ _ _ _ _ _ _ _ _ _ _ _ _ _ _ _ _ _ _ _ _ _ _ _ _ _ _ _ _ _ _ _ _ _ _ _ _ _ _ _ _ _ _ _ _ _ _ _ _ _ _ _ _ _ _ _ _ _ _ _ _ _ _ _ _ _ _ _ _ _ _ _ _ _ _ _ _ _ _ _ _ _ _ _ _ _ _ _ _ _ _ _ _ _ _ _ _ _ _ _ _ _ _ _ _ _ _ _ _ _ _ _ _ _ _ _ _ _ _ _ _ _ _ _ _ _ _ _ _ _ _ _ _ _ _ _ _ _ _ _ _ _ _ _ _ _ _ _ _ _ _ _ _ _ _ _ _ _ _ _ _ _ _ _ _ _ _ _ _ _ _ _ _ _ _ _ _ _ _ _ _ _ _ _ _ _ _ _ _ _ ?_
  refine Lib.hid ?_
  rintro rs5 vs5 v8 v10 v11 v44 v45 v46 v47 v48 v49 v50 v51 v52 v53 v54 v55 v56 v57 v58 v59 v60 v61 v62 v63 v64 v65 v66 v67 v68 v69 v70 v71 v72 v73 v74 v75 v76 v77 v78 v79 v80 v81 v82 v83 v84 v85 v86 v87 v88 v89 v90 v91 v92 v93 v94 v95 v96 v97 v98 v99 v100 v101 v102 v103 v104 v105 v106 v107 v108 v109 v110 v111 w5 ⟨hao5, h95⟩
  have HA5 := Lib.hid hao5
  have H95 := Lib.hid h95
  clear hao5 h95 HSM
  go_wp2
  refine own_lp4 (La := La) (w0 := w4) w5 _ HA5 H95 hLn30 _ _ _ _ _ _ _ _ _ _ _ _ _ _ _ _ _ _ _ _ _ _ _ _ _ _ _ _ _ _ _ _ _ _ _ _ _ _ _ _ _ _ _ _ _ _ _ _ _ _ _ _ _ _ _ _ _ _ _ _ _ _ _ _ _ _ _ _ _ _ _ _ _ _ _ _ _ _ _ _ _ _ _ _ _ _ _ _ _ _ _ _ _ _ _ _ _ _ _ _ _ _ _ _ _ _ _ _ _ _ _ _ _ _ _ _ _ _ _ _ _ _ _ _ _ _ _ _ _ _ _ _ _ _ _ _ _ _ _ _ _ _ _ _ _ _ _ _ _ _ _ _ _ _ _ _ _ _ _ _ _ _ _ _ _ _ _ _ _ _ _ _ _ _ _ _ _ _ _ _ _ _ _ _ _ _ _ _ _ _ _ _ _ _ _ _ _ _ _ _ _ _ _ _ _ _ _ _ _ _ _ _ _ ?_
  refine Lib.hid ?_
  rintro v4 v12 v14 v114 v115 v116 v117 v118 v119 v120 v121 v122 v123 v124 v125 v126 v127 v128 v129 v130 w6 hc6
  have HA6 := Lib.hid (HA5.out.chg0 hc6)
  clear hc6
  go_wp2_with (at_builtin; refine wpList_app rfl _ _ rfl etyBunches rfl (HA6.out.own.chg ((Chg.refl [] w6).alloc (.cells #[.int .i64 (-9), .slice none 0 0, .slice none 0 0, .slice none 0 0] 52)) (fun _ _ => List.not_mem_nil)) rfl (Own.lit w6 52 4 #[.int .i64 (-9), .slice none 0 0, .slice none 0 0, .slice none 0 0] 1 (by decide) rfl).rd (by simp [Value.oneCell']) (by unfold maxLen; omega) (by omega) ?_; intro A7 c7 w7 hown7 hchg7 hnew7 _; have HC7 : Hid (Chg La w4 w7) := Lib.hid ((HA6.out.chg.alloc (.cells #[.int .i64 (-9), .slice none 0 0, .slice none 0 0, .slice none 0 0] 52)).trans hchg7 HA6.out.inA); have n0 := (HX4.out w7 HC7.out).cell 0; have n1 := (HX4.out w7 HC7.out).cell 1; simp at n0 n1; clear hown7 hchg7 hnew7)
  refine (make_any A2 n c2 ls B2 m d2 ts node 3 _ (HI4.out w7 HC7.out).rd hn (HJ4.out w7 HC7.out).rd hm HWF.out).mono ?_
  rintro e w8 ⟨A8, N8, c8, A8g, N8g, c8g, E8, rfl, hE8, ho8, hN8, ho8g, hN8g, hc8, hn8, hn8g⟩
  have HC8 : Hid (Chg La w4 w8) := Lib.hid (HC7.out.trans0 hc8)
  have HO8 := Lib.hid ho8
  have HO8g := Lib.hid ho8g
  have HN8 : Hid (N8 ≤ 1073741824) := Lib.hid (by have := mkL_len' ls ts node 3; have := HL.out; omega)
  have HN8g : Hid (N8g ≤ 1073741824) := Lib.hid (by have := mkG_len' ls ts node 3; have := HL.out; omega)
  have HW8 : Hid ((∀ x ∈ bo A8, w4.heap.size ≤ x) ∧ ∀ x ∈ bo A8g, w4.heap.size ≤ x) := Lib.hid ⟨fun x hx => Nat.le_trans HC7.out.size (hn8 x hx), fun x hx => Nat.le_trans HC7.out.size (hn8g x hx)⟩
  clear hE8 ho8 hN8 ho8g hN8g hc8 hn8 hn8g n0 n1
  have n0 := (HX4.out w8 HC8.out).cell 0
  have n1 := (HX4.out w8 HC8.out).cell 1
  simp at n0 n1
  go_wp2_with fail
  refine (make_any A2 n c2 ls B2 m d2 ts node 3 _ (HI4.out w8 HC8.out).rd hn (HJ4.out w8 HC8.out).rd hm HWF.out).mono ?_
  rintro e w9 ⟨A9, N9, c9, A9g, N9g, c9g, E9, rfl, hE9, ho9, hN9, ho9g, hN9g, hc9, hn9, hn9g⟩
  have HC9 : Hid (Chg La w4 w9) := Lib.hid (HC8.out.trans0 hc9)
  have HL9 : Hid (Own w9 55 7 A8 N8 c8 (lvs (mkL ls ts node 3))) := Lib.hid (HO8.out.chg hc9 (fun _ _ => List.not_mem_nil))
  have HG9 : Hid (Own w9 58 7 A8g N8g c8g (lvs (mkG ls ts node 3))) := Lib.hid (HO8g.out.chg hc9 (fun _ _ => List.not_mem_nil))
  have HM9 := Lib.hid ho9
  have HMG9 := Lib.hid ho9g
  have HN9 : Hid (N9 ≤ 1073741824) := Lib.hid (by have := mkL_len' ls ts node 3; have := HL.out; omega)
  have HN9g : Hid (N9g ≤ 1073741824) := Lib.hid (by have := mkG_len' ls ts node 3; have := HL.out; omega)
  have HF9 : Hid (∀ x, x ∈ bo A9 ∨ x ∈ bo A9g → x ∉ bo A8 ++ bo A8g) := Lib.hid (fun x hx hm => by
    have q1 : w8.heap.size ≤ x := hx.elim (hn9 x) (hn9g x)
    rcases List.mem_append.1 hm with h | h
    · have := HO8.out.lt x h; omega
    · have := HO8g.out.lt x h; omega)
  clear hE9 ho9 hN9 ho9g hN9g hc9 hn9 hn9g n0 n1
  go_wp2
  refine own_lp6 (L0 := mkL ls ts node 3) w9 _ HL9 HN8.out _ _ _ _ _ _ _ _ _ _ _ _ _ _ _ _ _ _ _ _ _ _ _ _ _ _ _ _ _ _ _ _ _ _ _ _ _ _ _ _ _ _ _ _ _ _ _ _ _ _ _ _ _ _ _ _ _ _ _ _ _ _ _ _ _ _ _ _ _ _ _ _ _ _ _ _ _ _ _ _ _ _ _ _ _ _ _ _ _ _ _ _ _ _ _ _ _ _ _ _ _ _ _ _ _ _ _ _ _ _ _ _ _ _ _ _ _ _ _ _ _ _ _ _ _ _ _ _ _ _ _ _ _ _ _ _ _ _ _ _ _ _ _ _ _ _ _ _ _ _ _ _ _ _ _ _ _ _ _ _ _ _ _ _ _ _ _ _ _ _ _ _ _ _ _ _ _ _ _ _ _ _ _ _ _ _ _ _ _ _ _ _ _ _ _ _ _ _ _ _ _ _ _ _ _ _ _ _ _ _ _ _ _ ?_
  refine Lib.hid ?_
  rintro L10 v21 v157 v158 v159 v160 v161 v162 v163 v164 w10 ⟨ho10, hc10⟩
  have HO10 := Lib.hid ho10
  have HC10 : Hid (Chg (bo A8 ++ bo A8g) w9 w10) := Lib.hid (hc10.mono (fun x hx => .inl (List.mem_append_left _ hx)))
  have HG10 : Hid (Own w10 58 7 A8g N8g c8g (lvs (mkG ls ts node 3))) := Lib.hid (HG9.out.chg hc10 (HG9.out.own_ne HL9.out (by decide)))
  clear ho10 hc10
  go_wp2
  refine own_lp7 (L0 := mkG ls ts node 3) w10 _ HG10 HN8g.out _ _ _ _ _ _ _ _ _ _ _ _ _ _ _ _ _ _ _ _ _ _ _ _ _ _ _ _ _ _ _ _ _ _ _ _ _ _ _ _ _ _ _ _ _ _ _ _ _ _ _ _ _ _ _ _ _ _ _ _ _ _ _ _ _ _ _ _ _ _ _ _ _ _ _ _ _ _ _ _ _ _ _ _ _ _ _ _ _ _ _ _ _ _ _ _ _ _ _ _ _ _ _ _ _ _ _ _ _ _ _ _ _ _ _ _ _ _ _ _ _ _ _ _ _ _ _ _ _ _ _ _ _ _ _ _ _ _ _ _ _ _ _ _ _ _ _ _ _ _ _ _ _ _ _ _ _ _ _ _ _ _ _ _ _ _ _ _ _ _ _ _ _ _ _ _ _ _ _ _ _ _ _ _ _ _ _ _ _ _ _ _ _ _ _ _ _ _ _ _ _ _ _ _ _ _ _ _ _ _ _ _ _ ?_
  refine Lib.hid ?_
  rintro L11 v22 v167 v168 v169 v170 v171 v172 v173 v174 w11 ⟨ho11, hc11⟩
  have HO11 := Lib.hid ho11
  have HC11 : Hid (Chg (bo A8 ++ bo A8g) w9 w11) := Lib.hid (HC10.out.trans hc11 (fun x hx => .inl (List.mem_append_right _ hx)))
  have HL11 : Hid (Own w11 55 7 A8 N8 c8 (lvs L10)) := Lib.hid (HO10.out.chg hc11 (HO10.out.own_ne HG10.out (by decide)))
  have b8 := HN8.out
  have b8g := HN8g.out
  clear ho11 hc11
  go_wp2_with (first
    | (at_builtin; refine wpList_app rfl _ _ rfl etyLinks rfl (HL11.out.chg ((Chg.refl [] w11).alloc (.cells #[.bool false, .int .i64 0, .int .i64 0, .int .i64 0, .int .i64 0, .int .i64 0, .int .i64 0] 55)) (fun _ _ => List.not_mem_nil)) rfl (Own.lit w11 55 7 #[.bool false, .int .i64 0, .int .i64 0, .int .i64 0, .int .i64 0, .int .i64 0, .int .i64 0] 1 (by decide) rfl).rd (by simp [Value.oneCell']) (by unfold maxLen; omega) (by omega) ?_; intro A12 c12 w12 hown12 hchg12 hnew12 _; have HC12 : Hid (Chg (bo A8 ++ bo A8g) w9 w12) := Lib.hid ((HC11.out.alloc (.cells #[.bool false, .int .i64 0, .int .i64 0, .int .i64 0, .int .i64 0, .int .i64 0, .int .i64 0] 55)).trans hchg12 (fun x hx => .inl (List.mem_append_left _ hx))); have HG12 : Hid (Own w12 58 7 A8g N8g c8g (lvs L11)) := Lib.hid ((HO11.out.chg ((Chg.refl [] w11).alloc (.cells #[.bool false, .int .i64 0, .int .i64 0, .int .i64 0, .int .i64 0, .int .i64 0, .int .i64 0] 55)) (fun _ _ => List.not_mem_nil)).chg hchg12 (HO11.out.own_ne HL11.out (by decide))); clear hown12 hchg12 hnew12)
    | (at_builtin; refine wpList_app rfl _ _ rfl etyGroups rfl (HG12.out.chg ((Chg.refl [] w12).alloc (.cells #[.bool false, .int .i64 0, .int .i64 0, .int .i64 0, .int .i64 0, .int .i64 0, .int .i64 0] 58)) (fun _ _ => List.not_mem_nil)) rfl (Own.lit w12 58 7 #[.bool false, .int .i64 0, .int .i64 0, .int .i64 0, .int .i64 0, .int .i64 0, .int .i64 0] 1 (by decide) rfl).rd (by simp [Value.oneCell']) (by unfold maxLen; omega) (by omega) ?_; intro A13 c13 w13 hown13 hchg13 hnew13 _; have HC13 : Hid (Chg (bo A8 ++ bo A8g) w9 w13) := Lib.hid ((HC12.out.alloc (.cells #[.bool false, .int .i64 0, .int .i64 0, .int .i64 0, .int .i64 0, .int .i64 0, .int .i64 0] 58)).trans hchg13 (fun x hx => .inl (List.mem_append_right _ hx))); have HT13 : Hid (Chg La w4 w13) := Lib.hid (HC9.out.trans HC13.out (fun x hx => .inr ((List.mem_append.1 hx).elim (HW8.out.1 x) (HW8.out.2 x)))); have z0 := (HY4.out w13 HT13.out).cell 0; have z1 := (HY4.out w13 HT13.out).cell 1; simp at z0 z1; clear hown13 hchg13 hnew13))
  refine (rmake_any A n c ls B m d ts node 3 _ (HR.out.chg (HT4.out w13 HT13.out) (fun _ _ => List.not_mem_nil)) hn (HO.out.chg (HT4.out w13 HT13.out) (fun _ _ => List.not_mem_nil)) hm).mono ?_
  rintro e w14 ⟨A14, N14, c14, A14g, N14g, c14g, E14, rfl, hE14, ho14, hN14, ho14g, hN14g, hc14, hn14, hn14g⟩
  have HT14 : Hid (Chg La w4 w14) := Lib.hid (HT13.out.trans0 hc14)
  have HX14 := Lib.hid ho14
  have HXG14 := Lib.hid ho14g
  have HN14 : Hid (N14 ≤ 1073741824) := Lib.hid (by have := mkL_len' ls ts node 3; have := HL.out; omega)
  have HN14g : Hid (N14g ≤ 1073741824) := Lib.hid (by have := mkG_len' ls ts node 3; have := HL.out; omega)
  have HM14 : Hid (Own w14 55 7 A9 N9 c9 (lvs (mkL ls ts node 3))) := Lib.hid ((HM9.out.chg HC13.out (fun x hx => HF9.out x (.inl hx))).chg hc14 (fun _ _ => List.not_mem_nil))
  have HMG14 : Hid (Own w14 58 7 A9g N9g c9g (lvs (mkG ls ts node 3))) := Lib.hid ((HMG9.out.chg HC13.out (fun x hx => HF9.out x (.inr hx))).chg hc14 (fun _ _ => List.not_mem_nil))
  have HBB14 : Hid (BRd w14 Ab Ln cb bs) := Lib.hid (HBB.out.brdL HT14.out HNB.out)
  have HI14 : Hid (Rd w14 7 A2 n c2 (lvs ls)) := Lib.hid (HI4.out w14 HT14.out).rd
  have HJ14 : Hid (Rd w14 1 B2 m d2 (iv ts)) := Lib.hid (HJ4.out w14 HT14.out).rd
  have HR14 : Hid (Rd w14 7 A n c (lvs ls)) := Lib.hid (HR.out.chg (HT4.out w14 HT14.out) (fun _ _ => List.not_mem_nil))
  have HO14 : Hid (Rd w14 1 B m d (iv ts)) := Lib.hid (HO.out.chg (HT4.out w14 HT14.out) (fun _ _ => List.not_mem_nil))
  have hz := HY4.out w14 HT14.out
  have hx := HX4.out w14 HT14.out
  have HY14 := Lib.hid hz
  have HZ14 := Lib.hid hx
  clear hE14 ho14 hN14 ho14g hN14g hc14 hn14 hn14g z0 z1
  have z0 := hz.cell 0
  have z1 := hz.cell 1
  have n0 := hx.cell 0
  have n1 := hx.cell 1
  simp at z0 z1 n0 n1
  clear hz hx
  go_wp2_with fail
  refine (rgather_any A n c ls B m d ts node _ HR14.out hn HO14.out hm).mono ?_
  rintro e w15 ⟨A15, c15, rfl, hbr, hc15⟩
  rw [HBS.out] at hbr ⊢
  rw [HLN.out] at hbr ⊢
  have HBR := Lib.hid hbr
  have H15 := Lib.hid hc15
  clear hbr hc15 z0 z1 n0 n1
  go_wp2_with fail
  refine (same_any Ab Ln cb A15 Ln c15 bs _ hLn30 HLN.out HLN.out HFL.out (HBB14.out.chg0' H15.out) HBR.out).mono ?_
  rintro e w16 ⟨rfl, hc16⟩
  have H16 := Lib.hid (H15.out.trans0 hc16)
  clear hc16
  go_wp2_with fail
  refine (sameLinks_any A9 N9 c9 (mkL ls ts node 3) A14 N14 c14 (mkL ls ts node 3) _ HN9.out HN14.out (HM14.out.rd.chg H16.out (fun _ _ => List.not_mem_nil)) (HX14.out.rd.chg H16.out (fun _ _ => List.not_mem_nil))).mono ?_
  rintro e w17 ⟨rfl, hc17⟩
  rw [show decide (mkL ls ts node 3 = mkL ls ts node 3) = true from decide_eq_true rfl]
  have H17 := Lib.hid (H16.out.trans0 hc17)
  clear hc17
  go_wp2_with fail
  refine (sameGroups_any A9g N9g c9g (mkG ls ts node 3) A14g N14g c14g (mkG ls ts node 3) _ HN9g.out HN14g.out (HMG14.out.rd.chg H17.out (fun _ _ => List.not_mem_nil)) (HXG14.out.rd.chg H17.out (fun _ _ => List.not_mem_nil))).mono ?_
  rintro e w18 ⟨rfl, hc18⟩
  rw [show decide (mkG ls ts node 3 = mkG ls ts node 3) = true from decide_eq_true rfl]
  have H18 := Lib.hid (H17.out.trans0 hc18)
  clear hc18
  have z0 := (HY14.out.chg H18.out (fun h => List.not_mem_nil h)).cell 0
  have z1 := (HY14.out.chg H18.out (fun h => List.not_mem_nil h)).cell 1
  have n0 := (HZ14.out.chg H18.out (fun h => List.not_mem_nil h)).cell 0
  have n1 := (HZ14.out.chg H18.out (fun h => List.not_mem_nil h)).cell 1
  simp at z0 z1 n0 n1
  go_wp2_with fail
  refine (relsSame_any A2 n c2 ls B2 m d2 ts A c B d _ hn hm (HI14.out.chg H18.out (fun _ _ => List.not_mem_nil)) (HJ14.out.chg H18.out (fun _ _ => List.not_mem_nil)) (HR14.out.chg H18.out (fun _ _ => List.not_mem_nil)) (HO14.out.chg H18.out (fun _ _ => List.not_mem_nil))).mono ?_
  rintro e w19 ⟨rfl, hc19⟩
  have H19 := Lib.hid (H18.out.trans0 hc19)
  go_wp2
  go_ret
  exact ⟨rfl, (HT4.out w14 HT14.out).trans0 H19.out⟩
end Go.Proofs.Ytelmnmepdmfihaa
