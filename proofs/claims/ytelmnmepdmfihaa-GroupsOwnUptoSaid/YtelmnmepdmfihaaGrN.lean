/-
  Layer 17: the program's Make.
-/
import Derived.Test.YtelmnmepdmfihaaGrD
import Derived.Test.YtelmnmepdmfihaaGrM
namespace Go.Proofs.Ytelmnmepdmfihaa
open Go.RowKit

theorem share {G C : Prop} (h : G → C) (g : G) : C := h g

/-- a row of a list of bunches: where it stands -/
theorem Rd.bn {w : World} {A : Option Addr} {n c : Nat} {rs : List (Int × B3)} (h : Rd w 4 A n c (rows rs)) {j : Nat} {p : Int × B3} (hj : rs[j]? = some p) : ∃ ad, A = some ad ∧ w.cell? (ad.add (j * 4)) = some (.int .i64 p.1) ∧
    (∀ k, k < 3 → w.cell? ⟨(ad.add (j * 4)).block, (ad.add (j * 4)).off + (k + 1), none⟩ = some (.slice (p.2.A k) (p.2.n k) (p.2.c k))) := by
  have hl : rs.length = n := by have := h.1; rw [rows_length] at this; omega
  have hjn : j < n := by have := (List.getElem?_eq_some_iff.1 hj).1; omega
  obtain ⟨ad, rfl, _⟩ := h.some_ (by omega)
  have hc : ∀ k, k < 4 → ∀ u, (p.2.cs p.1)[k]? = some u → w.cell? (ad.add (j * 4 + k)) = some u := fun k hk u hu => (h.2.2.2.2 ad rfl).2 _ u (by rw [rows_get _ _ _ hk, hj]; exact hu)
  refine ⟨ad, rfl, hc 0 (by omega) _ rfl, fun k hk => ?_⟩
  rw [← add_field]
  refine hc (k + 1) (by omega) _ ?_
  rcases (by omega : k = 0 ∨ k = 1 ∨ k = 2) with rfl | rfl | rfl <;> rfl

set_option maxRecDepth 100000 in
set_option maxHeartbeats 6400000 in
theorem make_any (A : Option Addr) (n c : Nat) (ls : List Lk) (B : Option Addr) (m d : Nat) (ts : List Int) (node first : Int) (w : World) (hrd : Rd w 7 A n c (lvs ls)) (hn : n ≤ 1073741824) (hts : Rd w 1 B m d (iv ts)) (hm : m ≤ 1073741824) (hwf : ∀ z ∈ ts, (Lit.int .i64 z).wf = true) :
    Calls Try.prog 16 #[.slice A n c, .slice B m d, .int .i64 node, .int .i64 first] w (MakeTo ls ts node first w) := by
  have hl : ls.length = n := by have := hrd.1; rw [lvs_length] at this; omega
  have hol : ts.length = m := by have := hts.1; simp at this; omega
  have HR := Lib.hid hrd
  have HO := Lib.hid hts
  have HL := Lib.hid hl
  have HM := Lib.hid hol
  have HWF := Lib.hid hwf
  clear hrd hts hl hol hwf
  obtain ⟨Ln, hLn⟩ : ∃ Ln, (gather ls ts node).length = Ln := ⟨_, rfl⟩
  have hLnn : Ln ≤ n := by rw [← hLn, ← HL.out]; exact gather_len ls ts node
  have HLN := Lib.hid hLn
  clear hLn
  have bad : mkE ls ts node first = 2 → ∀ w', Chg [] w w' → MakeTo ls ts node first w (.returned (.tuple #[.slice none 0 0, .slice none 0 0, .int .i64 2])) w' := fun he w' hc =>
    ⟨none, 0, 0, none, 0, 0, 2, rfl, he.symm, by unfold mkL; rw [he, if_neg (by decide)]; exact Own.nil _ _ _, by unfold mkL; rw [he, if_neg (by decide)]; rfl, by unfold mkG; rw [he, if_neg (by decide)]; exact Own.nil _ _ _, by unfold mkG; rw [he, if_neg (by decide)]; rfl, hc, by simp, by simp⟩
  have BAD := Lib.hid bad
  clear bad
  have hwr : IntKind.i64.wrap (65536 - (Ln : Int)) = 65536 - (Ln : Int) := by rw [IntKind.wrap_i64]; omega
  go_enter Try.func16, Try.ntmps16
  go_wp2_with fail
  refine (gather_any A n c ls B m d ts node _ HR.out hn HO.out hm HWF.out).mono ?_
  rintro e w1 ⟨Ag, cg, rs, rfl, hbo, hc1⟩
  rw [HLN.out] at hbo ⊢
  have HBO := Lib.hid hbo
  have HC1 := Lib.hid hc1
  clear hbo hc1
  by_cases hmn : m = n
  · have t0 : ((m : Int) != n) = false := by simp [hmn]
    have HMN := Lib.hid hmn
    clear hmn
    by_cases hf0 : first < 0
    · have t1 : decide (first < 0) = true := by simp [hf0]
      have HE : Hid (mkE ls ts node first = 2) := Lib.hid (by unfold mkE; rw [if_pos (.inr (.inl hf0))])
      clear hf0
      go_wp2
      go_ret3
      exact BAD.out HE.out _ HC1.out
    · have t1 : decide (first < 0) = false := by simp; omega
      by_cases hf1 : 65536 - (Ln : Int) < first
      · have t2 : decide (65536 - (Ln : Int) < first) = true := by simp [hf1]
        have HE : Hid (mkE ls ts node first = 2) := Lib.hid (by unfold mkE; rw [if_pos (.inr (.inr (by rw [HLN.out]; exact hf1)))])
        clear hf0 hf1
        go_wp2
        go_ret3
        exact BAD.out HE.out _ HC1.out
      · have t2 : decide (65536 - (Ln : Int) < first) = false := by simp; omega
        have HE : Hid (mkE ls ts node first = 0) := Lib.hid (by unfold mkE; rw [if_neg (by rw [HLN.out, HM.out, HL.out]; rintro (h | h | h); exact h HMN.out; exact hf0 h; exact hf1 h)])
        have HF0 := Lib.hid hf0
        have HF1 := Lib.hid hf1
        clear hf0 hf1
        go_wp2_with fail
        refine (lclone_any A n c ls _ hn (HR.out.chg HC1.out (fun _ _ => List.not_mem_nil))).mono ?_
        rintro e w2 ⟨Ac, cc, rfl, hoc, hc2, hnc⟩
        have hmk : ∀ w : World, (Instr.makeSlice 35 (.int .i64 0) (.int .i64 (Ln : Int))).run Try.prog w = .ok (.slice (some ⟨w.heap.size, 0, none⟩) 0 Ln) (w.alloc (.cells (madeCells #[.bool false, .int .i64 0, .int .i64 0, .int .i64 0, .int .i64 0, .int .i64 0, .int .i64 0] (Ln * 7)) 58)) := fun w => by simpa using run_make_groups 0 Ln (Nat.zero_le _) (by omega) w
        have hog := own_make_groups 0 Ln (Nat.zero_le _) (by omega) w2
        have HOC := Lib.hid hoc
        have HC2 := Lib.hid hc2
        have HNC := Lib.hid hnc
        have HOG := Lib.hid hog
        clear hoc hc2 hnc hog
        go_wp2
        go_loopw [47, 12, 13] (fun q v u wr => ∃ (i : Nat) (Ao : Option Addr) (co : Nat) (Am : Option Addr) (cm : Nat), i ≤ Ln ∧ q = .int .i64 i ∧ v = .slice Ao n co ∧ u = .slice Am i cm ∧
          Own wr 55 7 Ao n co (lvs (layB node ls ((gather ls ts node).take i))) ∧ Own wr 58 7 Am i cm (lvs ((grps node first (gather ls ts node)).take i)) ∧ Chg [] w1 wr ∧ (∀ x ∈ bo Ao, w1.heap.size ≤ x) ∧ (∀ x ∈ bo Am, w1.heap.size ≤ x)) (fun q _ _ _ => Ln - (intOf q).toNat)
        case atStart => exact ⟨0, Ac, cc, _, Ln, Nat.zero_le _, rfl, rfl, rfl, by simpa [layB] using HOC.out.chg ((Chg.refl [] w2).alloc _) (fun _ _ => List.not_mem_nil), by simpa using HOG.out, HC2.out.alloc _, HNC.out, by simpa using HC2.out.size⟩
        case round =>
          obtain ⟨i, Ao, co, Am, cm, hi, rfl, rfl, rfl, hol, hog, hcr, hnl, hng⟩ := hrel
          by_cases hlt : i < Ln
          · obtain ⟨p, hp⟩ : ∃ p, rs[i]? = some p := ⟨_, List.getElem?_eq_getElem (by rw [HBO.out.len, HLN.out]; exact hlt)⟩
            obtain ⟨b, hb⟩ : ∃ b, (gather ls ts node)[i]? = some b := ⟨_, List.getElem?_eq_getElem (by rw [HLN.out]; exact hlt)⟩
            obtain ⟨hpt, hp3⟩ := HBO.out.row i p b hp hb
            obtain ⟨ag, rfl, y0, yk⟩ := (HBO.out.own.rd.chg hcr (fun _ _ => List.not_mem_nil)).bn hp
            have y1 := yk 0 (by decide)
            have y2 := yk 1 (by decide)
            have y3 := yk 2 (by decide)
            obtain ⟨t, s3⟩ := p
            simp only at hpt y0 y1 y2 y3 hp3
            have HPT := Lib.hid hpt
            have HB := Lib.hid hb
            have HP3 : Hid (Rd3 wr s3 b.f) := Lib.hid (hp3.rd.chg hcr (fun _ _ _ _ => List.not_mem_nil))
            have HOL := Lib.hid hol
            have HOG2 := Lib.hid hog
            have HCR := Lib.hid hcr
            have HNL := Lib.hid hnl
            have HNG := Lib.hid hng
            have hw1 : IntKind.i64.wrap (first + (i : Int)) = first + i := by rw [IntKind.wrap_i64]; have := HF1.out; have := HF0.out; omega
            have hw2 : IntKind.i64.wrap (first + (i : Int) + 1) = first + i + 1 := by rw [IntKind.wrap_i64]; have := HF1.out; have := HF0.out; omega
            clear hpt hb hp3 hol hog hcr hnl hng yk hp
            go_wp2_with fail
            obtain ⟨W, hW⟩ : ∃ W, W = wr.alloc (.cells #[.int .i64 t, .slice (s3.A 0) (s3.n 0) (s3.c 0), .slice (s3.A 1) (s3.n 1) (s3.c 1), .slice (s3.A 2) (s3.n 2) (s3.c 2)] 52) := ⟨_, rfl⟩
            have hbk : Blk W wr.heap.size 52 #[.int .i64 t, .slice (s3.A 0) (s3.n 0) (s3.c 0), .slice (s3.A 1) (s3.n 1) (s3.c 1), .slice (s3.A 2) (s3.n 2) (s3.c 2)] := by rw [hW]; exact Blk.new _ _ _
            have hcw : Chg [] wr W := by rw [hW]; exact (Chg.refl _ _).alloc _
            rw [← hW]
            clear hW y0 y1 y2 y3
            generalize wr.heap.size = Bk at hbk ⊢
            have z0 := hbk.cell 0
            have z1 := hbk.cell 1
            have z2 := hbk.cell 2
            have z3 := hbk.cell 3
            simp at z0 z1 z2 z3
            have HBK := Lib.hid hbk
            have HCW := Lib.hid hcw
            have HRD : Hid (Rd3 W s3 b.f) := Lib.hid (HP3.out.chg hcw (fun _ _ _ _ => List.not_mem_nil))
            clear hbk hcw
            refine wp_region_held_drew (S := fun w' => Chg [] W w') (by kernel_rfl) ((Chg.refl _ _).drew) (fun hHeld => ?_)
            refine wpAnyH_take (i := 0) (v := ?_) rfl (by kernel_rfl) (by kernel_rfl) (by kernel_rfl) (fun _ _ _ h => h) (Or.inl ⟨by rfl, ?_⟩) (by assumption) ?_
            rotate_left
            · (intro w' hSw; go_simp; try with_reducible rfl)
            try simp only [Act.put, List.getElem_toArray, List.getElem_cons_zero, List.setIfInBounds_toArray, List.set_cons_zero, List.set_cons_succ]
            refine wpAnyH_take (i := 1) (v := ?_) rfl (by kernel_rfl) (by kernel_rfl) (by kernel_rfl) (fun _ _ _ h => h) (Or.inl ⟨by rfl, ?_⟩) (by assumption) ?_
            rotate_left
            · (intro w' hSw; have q := hSw.cell z0 (fun h => List.not_mem_nil h); go_simp; try with_reducible rfl)
            try simp only [Act.put, List.getElem_toArray, List.getElem_cons_zero, List.getElem_cons_succ, List.setIfInBounds_toArray, List.set_cons_zero, List.set_cons_succ]
            refine wpAnyH_take (i := 2) (v := ?_) rfl (by kernel_rfl) (by kernel_rfl) (by kernel_rfl) (fun _ _ _ h => h) (Or.inl ⟨by rfl, ?_⟩) (by assumption) ?_
            rotate_left
            · (intro w' hSw; go_simp; try with_reducible rfl)
            try simp only [Act.put, List.getElem_toArray, List.getElem_cons_zero, List.getElem_cons_succ, List.setIfInBounds_toArray, List.set_cons_zero, List.set_cons_succ]
            refine wpAnyH_take (i := 3) (v := ?_) rfl (by kernel_rfl) (by kernel_rfl) (by kernel_rfl) (fun _ _ _ h => h) (Or.inl ⟨by rfl, ?_⟩) (by assumption) ?_
            rotate_left
            · (intro w' hSw; go_simp; try with_reducible rfl)
            try simp only [Act.put, List.getElem_toArray, List.getElem_cons_zero, List.getElem_cons_succ, List.setIfInBounds_toArray, List.set_cons_zero, List.set_cons_succ]
            refine wpAnyH_take (i := 4) (v := ?_) rfl (by kernel_rfl) (by kernel_rfl) (by kernel_rfl) (fun _ _ _ h => h) (Or.inl ⟨by rfl, ?_⟩) (by assumption) ?_
            rotate_left
            · (intro w' hSw; have q := hSw.cell z1 (fun h => List.not_mem_nil h); go_simp; try with_reducible rfl)
            try simp only [Act.put, List.getElem_toArray, List.getElem_cons_zero, List.getElem_cons_succ, List.setIfInBounds_toArray, List.set_cons_zero, List.set_cons_succ]
            refine wpAnyH_take (i := 6) (v := ?_) rfl (by kernel_rfl) (by kernel_rfl) (by kernel_rfl) (fun _ _ _ h => h) (Or.inl ⟨by rfl, ?_⟩) (by assumption) ?_
            rotate_left
            · (intro w' hSw; go_simp; try with_reducible rfl)
            try simp only [Act.put, List.getElem_toArray, List.getElem_cons_zero, List.getElem_cons_succ, List.setIfInBounds_toArray, List.set_cons_zero, List.set_cons_succ]
            refine wpAnyH_take (i := 7) (v := ?_) rfl (by kernel_rfl) (by kernel_rfl) (by kernel_rfl) (fun _ _ _ h => h) (Or.inl ⟨by rfl, ?_⟩) (by assumption) ?_
            rotate_left
            · (intro w' hSw; have q := hSw.cell z2 (fun h => List.not_mem_nil h); go_simp; try with_reducible rfl)
            try simp only [Act.put, List.getElem_toArray, List.getElem_cons_zero, List.getElem_cons_succ, List.setIfInBounds_toArray, List.set_cons_zero, List.set_cons_succ]
            refine wpAnyH_take (i := 9) (v := ?_) rfl (by kernel_rfl) (by kernel_rfl) (by kernel_rfl) (fun _ _ _ h => h) (Or.inl ⟨by rfl, ?_⟩) (by assumption) ?_
            rotate_left
            · (intro w' hSw; go_simp; try with_reducible rfl)
            try simp only [Act.put, List.getElem_toArray, List.getElem_cons_zero, List.getElem_cons_succ, List.setIfInBounds_toArray, List.set_cons_zero, List.set_cons_succ]
            refine wpAnyH_take (i := 10) (v := ?_) rfl (by kernel_rfl) (by kernel_rfl) (by kernel_rfl) (fun _ _ _ h => h) (Or.inl ⟨by rfl, ?_⟩) (by assumption) ?_
            rotate_left
            · (intro w' hSw; have q := hSw.cell z3 (fun h => List.not_mem_nil h); go_simp; try with_reducible rfl)
            try simp only [Act.put, List.getElem_toArray, List.getElem_cons_zero, List.getElem_cons_succ, List.setIfInBounds_toArray, List.set_cons_zero, List.set_cons_succ]
            refine wpAnyH_take (i := 12) (v := ?_) rfl (by kernel_rfl) (by kernel_rfl) (by kernel_rfl) (fun _ _ _ h => h) (Or.inl ⟨by rfl, ?_⟩) (by assumption) ?_
            rotate_left
            · (intro w' hSw; go_simp; try with_reducible rfl)
            try simp only [Act.put, List.getElem_toArray, List.getElem_cons_zero, List.getElem_cons_succ, List.setIfInBounds_toArray, List.set_cons_zero, List.set_cons_succ]
            refine wpAnyH_take (i := 13) (v := ?_) rfl (by kernel_rfl) (by kernel_rfl) (by kernel_rfl) (fun _ _ _ h => h) (Or.inl ⟨by rfl, ?_⟩) (by assumption) ?_
            rotate_left
            · (intro w' hSw; go_simp; try with_reducible rfl)
            try simp only [Act.put, List.getElem_toArray, List.getElem_cons_zero, List.getElem_cons_succ, List.setIfInBounds_toArray, List.set_cons_zero, List.set_cons_succ]
            refine wpAnyH_take (i := 14) (v := ?_) rfl (by kernel_rfl) (by kernel_rfl) (by kernel_rfl) (fun _ _ _ h => h) (Or.inl ⟨by rfl, ?_⟩) (by assumption) ?_
            rotate_left
            · (intro w' hSw; go_simp; try with_reducible rfl)
            try simp only [Act.put, List.getElem_toArray, List.getElem_cons_zero, List.getElem_cons_succ, List.setIfInBounds_toArray, List.set_cons_zero, List.set_cons_succ]
            refine wpAnyH_take (i := 15) (v := ?_) rfl (by kernel_rfl) (by kernel_rfl) (by kernel_rfl) (fun _ _ _ h => h) (Or.inl ⟨by rfl, ?_⟩) (by assumption) ?_
            rotate_left
            · (intro w' hSw; go_simp; try with_reducible rfl)
            try simp only [Act.put, List.getElem_toArray, List.getElem_cons_zero, List.getElem_cons_succ, List.setIfInBounds_toArray, List.set_cons_zero, List.set_cons_succ]
            have hc0 : Chg [] W W := Chg.refl _ _
            apply share
            · intro fin
              refine wpAnyH_ready (rs := [5, 17]) (by kernel_rfl) (by simp) ?_
              refine AllReadyH.cons rfl (fun K hK => ?_) (AllReadyH.cons rfl (fun K hK => ?_) (AllReadyH.nil))
              · go_simp
                refine (head_any _ _ _ _ _ ((HRD.out 0 (by decide)).chg hHeld (fun _ _ => List.not_mem_nil))).mono ?_
                rintro e w' ⟨rfl, rfl⟩
                refine hK.out _ _ (hHeld) (fun hHeld => ?_)
                try simp only [Act.put, List.getElem_toArray, List.getElem_cons_zero, List.getElem_cons_succ, List.setIfInBounds_toArray, List.set_cons_zero, List.set_cons_succ]
                clear hK K
                refine wpAnyH_ready (rs := [8, 17]) (by kernel_rfl) (by simp) ?_
                refine AllReadyH.cons rfl (fun K hK => ?_) (AllReadyH.cons rfl (fun K hK => ?_) (AllReadyH.nil))
                · go_simp
                  refine (head_any _ _ _ _ _ ((HRD.out 1 (by decide)).chg hHeld (fun _ _ => List.not_mem_nil))).mono ?_
                  rintro e w' ⟨rfl, rfl⟩
                  refine hK.out _ _ (hHeld) (fun hHeld => ?_)
                  try simp only [Act.put, List.getElem_toArray, List.getElem_cons_zero, List.getElem_cons_succ, List.setIfInBounds_toArray, List.set_cons_zero, List.set_cons_succ]
                  clear hK K
                  refine wpAnyH_ready (rs := [11, 17]) (by kernel_rfl) (by simp) ?_
                  refine AllReadyH.cons rfl (fun K hK => ?_) (AllReadyH.cons rfl (fun K hK => ?_) (AllReadyH.nil))
                  · go_simp
                    refine (head_any _ _ _ _ _ ((HRD.out 2 (by decide)).chg hHeld (fun _ _ => List.not_mem_nil))).mono ?_
                    rintro e w' ⟨rfl, rfl⟩
                    refine hK.out _ _ (hHeld) (fun hHeld => ?_)
                    try simp only [Act.put, List.getElem_toArray, List.getElem_cons_zero, List.getElem_cons_succ, List.setIfInBounds_toArray, List.set_cons_zero, List.set_cons_succ]
                    clear hK K
                    refine wpAnyH_take (i := 16) (v := ?_) rfl (by kernel_rfl) (by kernel_rfl) (by kernel_rfl) (fun _ _ _ h => h) (Or.inl ⟨by rfl, ?_⟩) (by assumption) ?_
                    rotate_left
                    · (intro w' hSw; go_simp; try with_reducible rfl)
                    try simp only [Act.put, List.getElem_toArray, List.getElem_cons_zero, List.getElem_cons_succ, List.setIfInBounds_toArray, List.set_cons_zero, List.set_cons_succ]
                    refine wpAnyH_ready (rs := [17]) (by kernel_rfl) (by simp) ?_
                    refine AllReadyH.cons rfl (fun K hK => ?_) (AllReadyH.nil)
                    go_simp
                    refine hK.out _ _ (hHeld.alloc _) (fun hHeld => ?_)
                    try simp only [Act.put, List.getElem_toArray, List.getElem_cons_zero, List.getElem_cons_succ, List.setIfInBounds_toArray, List.set_cons_zero, List.set_cons_succ]
                    clear hK K
                    refine wpAnyH_ready (rs := [18]) (by kernel_rfl) (by simp) ?_
                    refine AllReadyH.cons rfl (fun K hK => ?_) (AllReadyH.nil)
                    go_simp
                    refine hK.out _ _ (hc0.alloc _ |>.drew) (fun hHeld => ?_)
                    try simp only [Act.put, List.getElem_toArray, List.getElem_cons_zero, List.getElem_cons_succ, List.setIfInBounds_toArray, List.set_cons_zero, List.set_cons_succ]
                    clear hK K
                    refine wpAnyH_done (by kernel_rfl) ?_ _
                    try simp only [Act.put, List.getElem_toArray, List.getElem_cons_zero, List.getElem_cons_succ, List.setIfInBounds_toArray, List.set_cons_zero, List.set_cons_succ]
                    exact fin
                  · go_simp
                    refine hK.out _ _ (hHeld.alloc _) (fun hHeld => ?_)
                    try simp only [Act.put, List.getElem_toArray, List.getElem_cons_zero, List.getElem_cons_succ, List.setIfInBounds_toArray, List.set_cons_zero, List.set_cons_succ]
                    clear hK K
                    refine wpAnyH_ready (rs := [11]) (by kernel_rfl) (by simp) ?_
                    refine AllReadyH.cons rfl (fun K hK => ?_) (AllReadyH.nil)
                    go_simp
                    refine (head_any _ _ _ _ _ ((HRD.out 2 (by decide)).chg hHeld (fun _ _ => List.not_mem_nil))).mono ?_
                    rintro e w' ⟨rfl, rfl⟩
                    refine hK.out _ _ (hHeld) (fun hHeld => ?_)
                    try simp only [Act.put, List.getElem_toArray, List.getElem_cons_zero, List.getElem_cons_succ, List.setIfInBounds_toArray, List.set_cons_zero, List.set_cons_succ]
                    clear hK K
                    refine wpAnyH_take (i := 16) (v := ?_) rfl (by kernel_rfl) (by kernel_rfl) (by kernel_rfl) (fun _ _ _ h => h) (Or.inl ⟨by rfl, ?_⟩) (by assumption) ?_
                    rotate_left
                    · (intro w' hSw; go_simp; try with_reducible rfl)
                    try simp only [Act.put, List.getElem_toArray, List.getElem_cons_zero, List.getElem_cons_succ, List.setIfInBounds_toArray, List.set_cons_zero, List.set_cons_succ]
                    refine wpAnyH_ready (rs := [18]) (by kernel_rfl) (by simp) ?_
                    refine AllReadyH.cons rfl (fun K hK => ?_) (AllReadyH.nil)
                    go_simp
                    refine hK.out _ _ (hc0.alloc _ |>.drew) (fun hHeld => ?_)
                    try simp only [Act.put, List.getElem_toArray, List.getElem_cons_zero, List.getElem_cons_succ, List.setIfInBounds_toArray, List.set_cons_zero, List.set_cons_succ]
                    clear hK K
                    refine wpAnyH_done (by kernel_rfl) ?_ _
                    try simp only [Act.put, List.getElem_toArray, List.getElem_cons_zero, List.getElem_cons_succ, List.setIfInBounds_toArray, List.set_cons_zero, List.set_cons_succ]
                    exact fin
                · go_simp
                  refine hK.out _ _ (hHeld.alloc _) (fun hHeld => ?_)
                  try simp only [Act.put, List.getElem_toArray, List.getElem_cons_zero, List.getElem_cons_succ, List.setIfInBounds_toArray, List.set_cons_zero, List.set_cons_succ]
                  clear hK K
                  refine wpAnyH_ready (rs := [8]) (by kernel_rfl) (by simp) ?_
                  refine AllReadyH.cons rfl (fun K hK => ?_) (AllReadyH.nil)
                  go_simp
                  refine (head_any _ _ _ _ _ ((HRD.out 1 (by decide)).chg hHeld (fun _ _ => List.not_mem_nil))).mono ?_
                  rintro e w' ⟨rfl, rfl⟩
                  refine hK.out _ _ (hHeld) (fun hHeld => ?_)
                  try simp only [Act.put, List.getElem_toArray, List.getElem_cons_zero, List.getElem_cons_succ, List.setIfInBounds_toArray, List.set_cons_zero, List.set_cons_succ]
                  clear hK K
                  refine wpAnyH_ready (rs := [11]) (by kernel_rfl) (by simp) ?_
                  refine AllReadyH.cons rfl (fun K hK => ?_) (AllReadyH.nil)
                  go_simp
                  refine (head_any _ _ _ _ _ ((HRD.out 2 (by decide)).chg hHeld (fun _ _ => List.not_mem_nil))).mono ?_
                  rintro e w' ⟨rfl, rfl⟩
                  refine hK.out _ _ (hHeld) (fun hHeld => ?_)
                  try simp only [Act.put, List.getElem_toArray, List.getElem_cons_zero, List.getElem_cons_succ, List.setIfInBounds_toArray, List.set_cons_zero, List.set_cons_succ]
                  clear hK K
                  refine wpAnyH_take (i := 16) (v := ?_) rfl (by kernel_rfl) (by kernel_rfl) (by kernel_rfl) (fun _ _ _ h => h) (Or.inl ⟨by rfl, ?_⟩) (by assumption) ?_
                  rotate_left
                  · (intro w' hSw; go_simp; try with_reducible rfl)
                  try simp only [Act.put, List.getElem_toArray, List.getElem_cons_zero, List.getElem_cons_succ, List.setIfInBounds_toArray, List.set_cons_zero, List.set_cons_succ]
                  refine wpAnyH_ready (rs := [18]) (by kernel_rfl) (by simp) ?_
                  refine AllReadyH.cons rfl (fun K hK => ?_) (AllReadyH.nil)
                  go_simp
                  refine hK.out _ _ (hc0.alloc _ |>.drew) (fun hHeld => ?_)
                  try simp only [Act.put, List.getElem_toArray, List.getElem_cons_zero, List.getElem_cons_succ, List.setIfInBounds_toArray, List.set_cons_zero, List.set_cons_succ]
                  clear hK K
                  refine wpAnyH_done (by kernel_rfl) ?_ _
                  try simp only [Act.put, List.getElem_toArray, List.getElem_cons_zero, List.getElem_cons_succ, List.setIfInBounds_toArray, List.set_cons_zero, List.set_cons_succ]
                  exact fin
              · go_simp
                refine hK.out _ _ (hHeld.alloc _) (fun hHeld => ?_)
                try simp only [Act.put, List.getElem_toArray, List.getElem_cons_zero, List.getElem_cons_succ, List.setIfInBounds_toArray, List.set_cons_zero, List.set_cons_succ]
                clear hK K
                refine wpAnyH_ready (rs := [5]) (by kernel_rfl) (by simp) ?_
                refine AllReadyH.cons rfl (fun K hK => ?_) (AllReadyH.nil)
                go_simp
                refine (head_any _ _ _ _ _ ((HRD.out 0 (by decide)).chg hHeld (fun _ _ => List.not_mem_nil))).mono ?_
                rintro e w' ⟨rfl, rfl⟩
                refine hK.out _ _ (hHeld) (fun hHeld => ?_)
                try simp only [Act.put, List.getElem_toArray, List.getElem_cons_zero, List.getElem_cons_succ, List.setIfInBounds_toArray, List.set_cons_zero, List.set_cons_succ]
                clear hK K
                refine wpAnyH_ready (rs := [8]) (by kernel_rfl) (by simp) ?_
                refine AllReadyH.cons rfl (fun K hK => ?_) (AllReadyH.nil)
                go_simp
                refine (head_any _ _ _ _ _ ((HRD.out 1 (by decide)).chg hHeld (fun _ _ => List.not_mem_nil))).mono ?_
                rintro e w' ⟨rfl, rfl⟩
                refine hK.out _ _ (hHeld) (fun hHeld => ?_)
                try simp only [Act.put, List.getElem_toArray, List.getElem_cons_zero, List.getElem_cons_succ, List.setIfInBounds_toArray, List.set_cons_zero, List.set_cons_succ]
                clear hK K
                refine wpAnyH_ready (rs := [11]) (by kernel_rfl) (by simp) ?_
                refine AllReadyH.cons rfl (fun K hK => ?_) (AllReadyH.nil)
                go_simp
                refine (head_any _ _ _ _ _ ((HRD.out 2 (by decide)).chg hHeld (fun _ _ => List.not_mem_nil))).mono ?_
                rintro e w' ⟨rfl, rfl⟩
                refine hK.out _ _ (hHeld) (fun hHeld => ?_)
                try simp only [Act.put, List.getElem_toArray, List.getElem_cons_zero, List.getElem_cons_succ, List.setIfInBounds_toArray, List.set_cons_zero, List.set_cons_succ]
                clear hK K
                refine wpAnyH_take (i := 16) (v := ?_) rfl (by kernel_rfl) (by kernel_rfl) (by kernel_rfl) (fun _ _ _ h => h) (Or.inl ⟨by rfl, ?_⟩) (by assumption) ?_
                rotate_left
                · (intro w' hSw; go_simp; try with_reducible rfl)
                try simp only [Act.put, List.getElem_toArray, List.getElem_cons_zero, List.getElem_cons_succ, List.setIfInBounds_toArray, List.set_cons_zero, List.set_cons_succ]
                refine wpAnyH_ready (rs := [18]) (by kernel_rfl) (by simp) ?_
                refine AllReadyH.cons rfl (fun K hK => ?_) (AllReadyH.nil)
                go_simp
                refine hK.out _ _ (hc0.alloc _ |>.drew) (fun hHeld => ?_)
                try simp only [Act.put, List.getElem_toArray, List.getElem_cons_zero, List.getElem_cons_succ, List.setIfInBounds_toArray, List.set_cons_zero, List.set_cons_succ]
                clear hK K
                refine wpAnyH_done (by kernel_rfl) ?_ _
                try simp only [Act.put, List.getElem_toArray, List.getElem_cons_zero, List.getElem_cons_succ, List.setIfInBounds_toArray, List.set_cons_zero, List.set_cons_succ]
                exact fin
            · have hw3 : IntKind.i64.wrap ((Ln : Int) - 1) = (Ln : Int) - 1 := by rw [IntKind.wrap_i64]; omega
              clear z0 z1 z2 z3 hw1 hw2
              by_cases hla : i + 1 = Ln
              · have t3 : ((i : Int) == (Ln : Int) - 1) = true := by simp; omega
                have HLA := Lib.hid hla
                clear hla
                have hbka := HBK.out.alloc (.cells #[.bool true, .int .i64 t, .int .i64 node, .int .i64 (headOf (b.f 0)), .int .i64 (headOf (b.f 1)), .int .i64 (headOf (b.f 2)), .int .i64 (-1)] 58)
                have z1 := hbka.cell 1
                have z2 := hbka.cell 2
                have z3 := hbka.cell 3
                simp at z1 z2 z3
                clear hbka
                go_wp2
                have hbg := (Blk.new W 58 #[.bool true, .int .i64 t, .int .i64 node, .int .i64 (headOf (b.f 0)), .int .i64 (headOf (b.f 1)), .int .i64 (headOf (b.f 2)), .int .i64 (-1)])
                have HBG0 := Lib.hid hbg
                clear hbg
                go_loopw [83, 12] (fun q v wr => ∃ (j : Nat) (Ao2 : Option Addr) (co2 : Nat), j ≤ 3 ∧ q = .int .i64 j ∧ v = .slice Ao2 n co2 ∧ Own wr 55 7 Ao2 n co2 (lvs (layK node b (layB node ls ((gather ls ts node).take i)) j)) ∧ Blk wr W.heap.size 58 #[.bool true, .int .i64 t, .int .i64 node, .int .i64 (headOf (b.f 0)), .int .i64 (headOf (b.f 1)), .int .i64 (headOf (b.f 2)), .int .i64 (-1)] ∧ Blk wr (W.heap.size + 1) 23 #[s3.sl 0, s3.sl 1, s3.sl 2] ∧ Chg [] W wr ∧ (∀ x ∈ bo Ao2, w1.heap.size ≤ x)) (fun q _ _ => 3 - (intOf q).toNat)
                case atStart => exact ⟨0, Ao, co, by omega, rfl, rfl, HOL.out.chg (((HCW.out.alloc _).alloc _).drew) (fun _ _ => List.not_mem_nil), (HBG0.out.alloc _).drew, (by have q := Blk.new (W.alloc (.cells #[.bool true, .int .i64 t, .int .i64 node, .int .i64 (headOf (b.f 0)), .int .i64 (headOf (b.f 1)), .int .i64 (headOf (b.f 2)), .int .i64 (-1)] 58)) 23 #[s3.sl 0, s3.sl 1, s3.sl 2]; rw [show (W.alloc (.cells #[.bool true, .int .i64 t, .int .i64 node, .int .i64 (headOf (b.f 0)), .int .i64 (headOf (b.f 1)), .int .i64 (headOf (b.f 2)), .int .i64 (-1)] 58)).heap.size = W.heap.size + 1 by simp] at q; exact q.drew), ((((Chg.refl [] W).alloc _).alloc _).drew), HNL.out⟩
                case round =>
                  obtain ⟨j, Ao2, co2, hj3, rfl, rfl, hol, hbg, hbs, hcq, hnl⟩ := hrel
                  by_cases hj : j < 3
                  · have hj' : (j : Int) < 3 := by omega
                    have zs := hbs.cell j
                    rw [b3_at s3 j hj] at zs
                    have HBGQ := Lib.hid hbg
                    have HBSQ := Lib.hid hbs
                    have HCQ := Lib.hid hcq
                    have HNLQ := Lib.hid hnl
                    have hfl : s3.n j ≤ 1073741824 := by have q1 := rd_len (HRD.out j hj); have q2 := gather_flen HB.out j; rw [HL.out] at q2; omega
                    have hth := thread_any Ao2 n co2 (layK node b (layB node ls ((gather ls ts node).take i)) j) node (s3.A j) (s3.n j) (s3.c j) (b.f j) wr hol.rd hn ((HRD.out j hj).chg hcq (fun _ _ => List.not_mem_nil)) hfl
                    have hoe : ordE (layK node b (layB node ls ((gather ls ts node).take i)) j) node [] (b.f j) = 0 := gather_ord HB.out (fun id => by rw [layK_tch, layB_tch]) j
                    have HTH := Lib.hid hth
                    have HOE := Lib.hid hoe
                    clear hth hoe hol hbg hbs hcq hnl
                    go_wp2_with fail
                    refine HTH.out.mono ?_
                    rintro e w5 ⟨A5, N5, c5, E5, rfl, hE5, ho5, hN5, hc5, hn5⟩
                    rw [HOE.out] at hE5
                    have hthr : thr (layK node b (layB node ls ((gather ls ts node).take i)) j) node (b.f j) = layK node b (layB node ls ((gather ls ts node).take i)) (j + 1) := by unfold thr; rw [if_pos HOE.out]; rfl
                    rw [hthr] at ho5 hN5
                    rw [layK_length, layB_length, HL.out] at hN5
                    subst hE5
                    subst hN5
                    have HO5 := Lib.hid ho5
                    have HC5 := Lib.hid hc5
                    have HN5 := Lib.hid hn5
                    clear ho5 hc5 hn5 hthr zs
                    go_wp2
                    go_roundw
                    case rel => exact ⟨j + 1, A5, c5, by omega, by go_num, rfl, HO5.out, HBGQ.out.chg HC5.out (fun h => List.not_mem_nil h), HBSQ.out.chg HC5.out (fun h => List.not_mem_nil h), HCQ.out.trans0 HC5.out, fun x hx => by have q1 := HN5.out x hx; have q2 := HCR.out.size; have q3 := HCW.out.size; have q4 := HCQ.out.size; omega⟩
                    case measure => simp [intOf]; omega
                  · obtain rfl : j = 3 := by omega
                    have g0 := hbg.cell 0
                    have g1 := hbg.cell 1
                    have g2 := hbg.cell 2
                    have g3 := hbg.cell 3
                    have g4 := hbg.cell 4
                    have g5 := hbg.cell 5
                    have g6 := hbg.cell 6
                    simp at g0 g1 g2 g3 g4 g5 g6
                    have HOLQ := Lib.hid hol
                    have HCQ := Lib.hid hcq
                    have HNLQ := Lib.hid hnl
                    have hogq := HOG2.out.chg (HCW.out.trans0 hcq) (fun _ _ => List.not_mem_nil)
                    have HGQ := Lib.hid hogq
                    clear hol hbg hbs hcq hnl hogq
                    go_wp2_with (at_builtin; refine wpList_app rfl _ _ rfl etyGroups rfl (HGQ.out.chg ((Chg.refl [] wr).alloc _) (fun _ _ => List.not_mem_nil)) rfl (Own.lit wr 58 7 #[.bool true, .int .i64 t, .int .i64 node, .int .i64 (headOf (b.f 0)), .int .i64 (headOf (b.f 1)), .int .i64 (headOf (b.f 2)), .int .i64 (-1)] 1 (by decide) rfl).rd (by simp [Value.oneCell']) (by unfold maxLen; omega) (by omega) ?_; intro A7 c7 w7 hown7 hchg7 hnew7 _)
                    have HO7 := Lib.hid hown7
                    have HC7 := Lib.hid hchg7
                    have HN7 := Lib.hid hnew7
                    clear hown7 hchg7 hnew7 g0 g1 g2 g3 g4 g5 g6
                    go_roundw
                    case rel =>
                      have hcq7 : Chg (bo Am) wr w7 := (((Chg.refl [] wr).alloc _).nil _).trans HC7.out (fun x hx => .inl hx)
                      refine ⟨i + 1, Ao2, co2, A7, c7, by omega, by go_num, rfl, rfl, ?_, ?_, ?_, HNLQ.out, fun x hx => ?_⟩
                      · rw [layB_snoc node ls _ i b HB.out, ← layK_three]
                        exact HOLQ.out.chg hcq7 (HOLQ.out.own_ne HGQ.out (by decide))
                      · have hgr : (grps node first (gather ls ts node))[i]? = some (grp node first Ln i b) := by rw [grps_get, HB.out, HLN.out]; rfl
                        have hge : grp node first Ln i b = ⟨true, t, node, headOf (b.f 0), headOf (b.f 1), headOf (b.f 2), (-1)⟩ := by unfold grp; rw [HPT.out, if_neg (by have := HLA.out; omega)]
                        rw [take_snoc _ _ _ hgr, lvs_append, hge]
                        simpa [lvs, lv] using HO7.out
                      · exact ((HCR.out.trans0 HCW.out).trans0 HCQ.out).trans hcq7 (fun x hx => .inr (HNG.out x hx))
                      · rcases HN7.out x hx with h | h
                        · exact HNG.out x h
                        · have q1 := ((HCR.out.trans0 HCW.out).trans0 HCQ.out).size; simp at h; omega
                    case measure => simp [intOf]; omega
              · have t3 : ((i : Int) == (Ln : Int) - 1) = false := by simp; omega
                have HLA := Lib.hid hla
                clear hla
                have hbka := HBK.out.alloc (.cells #[.bool true, .int .i64 t, .int .i64 node, .int .i64 (headOf (b.f 0)), .int .i64 (headOf (b.f 1)), .int .i64 (headOf (b.f 2)), .int .i64 (first + i + 1)] 58)
                have z1 := hbka.cell 1
                have z2 := hbka.cell 2
                have z3 := hbka.cell 3
                simp at z1 z2 z3
                clear hbka
                go_wp2
                have hbg := (Blk.new W 58 #[.bool true, .int .i64 t, .int .i64 node, .int .i64 (headOf (b.f 0)), .int .i64 (headOf (b.f 1)), .int .i64 (headOf (b.f 2)), .int .i64 (first + i + 1)])
                have HBG0 := Lib.hid hbg
                clear hbg
                go_loopw [83, 12] (fun q v wr => ∃ (j : Nat) (Ao2 : Option Addr) (co2 : Nat), j ≤ 3 ∧ q = .int .i64 j ∧ v = .slice Ao2 n co2 ∧ Own wr 55 7 Ao2 n co2 (lvs (layK node b (layB node ls ((gather ls ts node).take i)) j)) ∧ Blk wr W.heap.size 58 #[.bool true, .int .i64 t, .int .i64 node, .int .i64 (headOf (b.f 0)), .int .i64 (headOf (b.f 1)), .int .i64 (headOf (b.f 2)), .int .i64 (first + i + 1)] ∧ Blk wr (W.heap.size + 1) 23 #[s3.sl 0, s3.sl 1, s3.sl 2] ∧ Chg [] W wr ∧ (∀ x ∈ bo Ao2, w1.heap.size ≤ x)) (fun q _ _ => 3 - (intOf q).toNat)
                case atStart => exact ⟨0, Ao, co, by omega, rfl, rfl, HOL.out.chg (((HCW.out.alloc _).alloc _).drew) (fun _ _ => List.not_mem_nil), (HBG0.out.alloc _).drew, (by have q := Blk.new (W.alloc (.cells #[.bool true, .int .i64 t, .int .i64 node, .int .i64 (headOf (b.f 0)), .int .i64 (headOf (b.f 1)), .int .i64 (headOf (b.f 2)), .int .i64 (first + i + 1)] 58)) 23 #[s3.sl 0, s3.sl 1, s3.sl 2]; rw [show (W.alloc (.cells #[.bool true, .int .i64 t, .int .i64 node, .int .i64 (headOf (b.f 0)), .int .i64 (headOf (b.f 1)), .int .i64 (headOf (b.f 2)), .int .i64 (first + i + 1)] 58)).heap.size = W.heap.size + 1 by simp] at q; exact q.drew), ((((Chg.refl [] W).alloc _).alloc _).drew), HNL.out⟩
                case round =>
                  obtain ⟨j, Ao2, co2, hj3, rfl, rfl, hol, hbg, hbs, hcq, hnl⟩ := hrel
                  by_cases hj : j < 3
                  · have hj' : (j : Int) < 3 := by omega
                    have zs := hbs.cell j
                    rw [b3_at s3 j hj] at zs
                    have HBGQ := Lib.hid hbg
                    have HBSQ := Lib.hid hbs
                    have HCQ := Lib.hid hcq
                    have HNLQ := Lib.hid hnl
                    have hfl : s3.n j ≤ 1073741824 := by have q1 := rd_len (HRD.out j hj); have q2 := gather_flen HB.out j; rw [HL.out] at q2; omega
                    have hth := thread_any Ao2 n co2 (layK node b (layB node ls ((gather ls ts node).take i)) j) node (s3.A j) (s3.n j) (s3.c j) (b.f j) wr hol.rd hn ((HRD.out j hj).chg hcq (fun _ _ => List.not_mem_nil)) hfl
                    have hoe : ordE (layK node b (layB node ls ((gather ls ts node).take i)) j) node [] (b.f j) = 0 := gather_ord HB.out (fun id => by rw [layK_tch, layB_tch]) j
                    have HTH := Lib.hid hth
                    have HOE := Lib.hid hoe
                    clear hth hoe hol hbg hbs hcq hnl
                    go_wp2_with fail
                    refine HTH.out.mono ?_
                    rintro e w5 ⟨A5, N5, c5, E5, rfl, hE5, ho5, hN5, hc5, hn5⟩
                    rw [HOE.out] at hE5
                    have hthr : thr (layK node b (layB node ls ((gather ls ts node).take i)) j) node (b.f j) = layK node b (layB node ls ((gather ls ts node).take i)) (j + 1) := by unfold thr; rw [if_pos HOE.out]; rfl
                    rw [hthr] at ho5 hN5
                    rw [layK_length, layB_length, HL.out] at hN5
                    subst hE5
                    subst hN5
                    have HO5 := Lib.hid ho5
                    have HC5 := Lib.hid hc5
                    have HN5 := Lib.hid hn5
                    clear ho5 hc5 hn5 hthr zs
                    go_wp2
                    go_roundw
                    case rel => exact ⟨j + 1, A5, c5, by omega, by go_num, rfl, HO5.out, HBGQ.out.chg HC5.out (fun h => List.not_mem_nil h), HBSQ.out.chg HC5.out (fun h => List.not_mem_nil h), HCQ.out.trans0 HC5.out, fun x hx => by have q1 := HN5.out x hx; have q2 := HCR.out.size; have q3 := HCW.out.size; have q4 := HCQ.out.size; omega⟩
                    case measure => simp [intOf]; omega
                  · obtain rfl : j = 3 := by omega
                    have g0 := hbg.cell 0
                    have g1 := hbg.cell 1
                    have g2 := hbg.cell 2
                    have g3 := hbg.cell 3
                    have g4 := hbg.cell 4
                    have g5 := hbg.cell 5
                    have g6 := hbg.cell 6
                    simp at g0 g1 g2 g3 g4 g5 g6
                    have HOLQ := Lib.hid hol
                    have HCQ := Lib.hid hcq
                    have HNLQ := Lib.hid hnl
                    have hogq := HOG2.out.chg (HCW.out.trans0 hcq) (fun _ _ => List.not_mem_nil)
                    have HGQ := Lib.hid hogq
                    clear hol hbg hbs hcq hnl hogq
                    go_wp2_with (at_builtin; refine wpList_app rfl _ _ rfl etyGroups rfl (HGQ.out.chg ((Chg.refl [] wr).alloc _) (fun _ _ => List.not_mem_nil)) rfl (Own.lit wr 58 7 #[.bool true, .int .i64 t, .int .i64 node, .int .i64 (headOf (b.f 0)), .int .i64 (headOf (b.f 1)), .int .i64 (headOf (b.f 2)), .int .i64 (first + i + 1)] 1 (by decide) rfl).rd (by simp [Value.oneCell']) (by unfold maxLen; omega) (by omega) ?_; intro A7 c7 w7 hown7 hchg7 hnew7 _)
                    have HO7 := Lib.hid hown7
                    have HC7 := Lib.hid hchg7
                    have HN7 := Lib.hid hnew7
                    clear hown7 hchg7 hnew7 g0 g1 g2 g3 g4 g5 g6
                    go_roundw
                    case rel =>
                      have hcq7 : Chg (bo Am) wr w7 := (((Chg.refl [] wr).alloc _).nil _).trans HC7.out (fun x hx => .inl hx)
                      refine ⟨i + 1, Ao2, co2, A7, c7, by omega, by go_num, rfl, rfl, ?_, ?_, ?_, HNLQ.out, fun x hx => ?_⟩
                      · rw [layB_snoc node ls _ i b HB.out, ← layK_three]
                        exact HOLQ.out.chg hcq7 (HOLQ.out.own_ne HGQ.out (by decide))
                      · have hgr : (grps node first (gather ls ts node))[i]? = some (grp node first Ln i b) := by rw [grps_get, HB.out, HLN.out]; rfl
                        have hge : grp node first Ln i b = ⟨true, t, node, headOf (b.f 0), headOf (b.f 1), headOf (b.f 2), (first + i + 1)⟩ := by unfold grp; rw [HPT.out, if_pos (by have := HLA.out; omega)]
                        rw [take_snoc _ _ _ hgr, lvs_append, hge]
                        simpa [lvs, lv] using HO7.out
                      · exact ((HCR.out.trans0 HCW.out).trans0 HCQ.out).trans hcq7 (fun x hx => .inr (HNG.out x hx))
                      · rcases HN7.out x hx with h | h
                        · exact HNG.out x h
                        · have q1 := ((HCR.out.trans0 HCW.out).trans0 HCQ.out).size; simp at h; omega
                    case measure => simp [intOf]; omega
          · obtain rfl : i = Ln := by omega
            have HOL := Lib.hid hol
            have HOG2 := Lib.hid hog
            have HCR := Lib.hid (HC1.out.trans0 hcr)
            have HNL := Lib.hid hnl
            have HNG := Lib.hid hng
            clear hol hog hcr hnl hng
            go_wp2
            go_ret3
            have hmL : mkL ls ts node first = layB node ls (gather ls ts node) := by unfold mkL; rw [if_pos HE.out]
            have hmG : mkG ls ts node first = grps node first (gather ls ts node) := by unfold mkG; rw [if_pos HE.out]
            refine ⟨Ao, n, co, Am, i, cm, 0, rfl, HE.out.symm, ?_, ?_, ?_, ?_, HCR.out, fun x hx => Nat.le_trans HC1.out.size (HNL.out x hx), fun x hx => Nat.le_trans HC1.out.size (HNG.out x hx)⟩
            · rw [hmL]
              have := HOL.out
              rw [List.take_of_length_le (by rw [HLN.out]; exact Nat.le_refl _)] at this
              exact this
            · rw [hmL, layB_length, HL.out]
            · rw [hmG]
              have := HOG2.out
              rw [List.take_of_length_le (by rw [grps_length, HLN.out]; exact Nat.le_refl _)] at this
              exact this
            · rw [hmG, grps_length, HLN.out]
  · have t0 : ((m : Int) != n) = true := by simp; omega
    have HE : Hid (mkE ls ts node first = 2) := Lib.hid (by unfold mkE; rw [if_pos (.inl (by rw [HM.out, HL.out]; exact hmn))])
    clear hmn
    go_wp2
    go_ret3
    exact BAD.out HE.out _ HC1.out
end Go.Proofs.Ytelmnmepdmfihaa
