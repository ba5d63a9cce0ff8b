/-
  Layer 17: the document's Make.
-/
import Derived.Test.YtelmnmepdmfihaaGrN
import Derived.Test.YtelmnmepdmfihaaGrF
import Derived.Test.YtelmnmepdmfihaaLkV
namespace Go.Proofs.Ytelmnmepdmfihaa
open Go.RowKit

set_option maxRecDepth 100000 in
set_option maxHeartbeats 6400000 in
theorem rmake_any (A : Option Addr) (n c : Nat) (ls : List Lk) (B : Option Addr) (m d : Nat) (ts : List Int) (node first : Int) (w : World) (hrd : Rd w 7 A n c (lvs ls)) (hn : n ≤ 1073741824) (hts : Rd w 1 B m d (iv ts)) (hm : m ≤ 1073741824) :
    Calls Try.prog 17 #[.slice A n c, .slice B m d, .int .i64 node, .int .i64 first] w (MakeTo ls ts node first w) := by
  have hl : ls.length = n := by have := hrd.1; rw [lvs_length] at this; omega
  have hol : ts.length = m := by have := hts.1; simp at this; omega
  have HR := Lib.hid hrd
  have HO := Lib.hid hts
  have HL := Lib.hid hl
  have HM := Lib.hid hol
  clear hrd hts hl hol
  obtain ⟨Ln, hLn⟩ : ∃ Ln, (gather ls ts node).length = Ln := ⟨_, rfl⟩
  have hLnn : Ln ≤ n := by rw [← hLn, ← HL.out]; exact gather_len ls ts node
  have HLN := Lib.hid hLn
  clear hLn
  have bad : mkE ls ts node first = 2 → ∀ (w1 : World), Chg [] w w1 → MakeTo ls ts node first w (.returned (.tuple #[.slice (some ⟨w1.heap.size, 0, none⟩) 0 0, .slice (some ⟨w1.heap.size + 1, 0, none⟩) 0 0, .int .i64 2])) ((w1.alloc (.cells #[] 55)).alloc (.cells #[] 58)) := fun he w1 hc =>
    ⟨_, 0, 0, _, 0, 0, 2, rfl, he.symm, by unfold mkL; rw [he, if_neg (by decide)]; exact (Own.lit w1 55 7 #[] 0 (by decide) rfl).chg ((Chg.refl [] _).alloc _) (fun _ _ => List.not_mem_nil), by unfold mkL; rw [he, if_neg (by decide)]; rfl, by unfold mkG; rw [he, if_neg (by decide)]; (have q := Own.lit (w1.alloc (.cells #[] 55)) 58 7 #[] 0 (by decide) rfl); simpa [lvs] using q, by unfold mkG; rw [he, if_neg (by decide)]; rfl, (hc.alloc _).alloc _, by simpa using hc.size, by have := hc.size; simp; omega⟩
  have BAD := Lib.hid bad
  clear bad
  have hwr : IntKind.i64.wrap (65536 - (Ln : Int)) = 65536 - (Ln : Int) := by rw [IntKind.wrap_i64]; omega
  go_enter Try.func17, Try.ntmps17
  go_wp2_with fail
  refine (rgather_any A n c ls B m d ts node _ HR.out hn HO.out hm).mono ?_
  rintro e w1 ⟨Ag, cg, rfl, ⟨rs, hrg, hrl, hrr⟩, hc1⟩
  rw [HLN.out] at hrg ⊢
  have HRG := Lib.hid hrg
  have HRL := Lib.hid hrl
  have HRR := Lib.hid hrr
  have HC1 := Lib.hid hc1
  clear hrg hrl hrr hc1
  by_cases hmn : m = n
  · have t0 : ((m : Int) != n) = false := by simp [hmn]
    have HMN := Lib.hid hmn
    clear hmn
    by_cases hf0 : first < 0
    · have t1 : decide (first < 0) = true := by simp [hf0]
      have HE : Hid (mkE ls ts node first = 2) := Lib.hid (by unfold mkE; rw [if_pos (.inr (.inl hf0))])
      clear hf0
      go_wp2
      go_ret3
      exact BAD.out HE.out w1 HC1.out
    · have t1 : decide (first < 0) = false := by simp; omega
      by_cases hf1 : 65536 - (Ln : Int) < first
      · have t2 : decide (65536 - (Ln : Int) < first) = true := by simp [hf1]
        have HE : Hid (mkE ls ts node first = 2) := Lib.hid (by unfold mkE; rw [if_pos (.inr (.inr (by rw [HLN.out]; exact hf1)))])
        clear hf0 hf1
        go_wp2
        go_ret3
        exact BAD.out HE.out w1 HC1.out
      · have t2 : decide (65536 - (Ln : Int) < first) = false := by simp; omega
        have HE : Hid (mkE ls ts node first = 0) := Lib.hid (by unfold mkE; rw [if_neg (by rw [HLN.out, HM.out, HL.out]; rintro (h | h | h); exact h HMN.out; exact hf0 h; exact hf1 h)])
        have HF0 := Lib.hid hf0
        have HF1 := Lib.hid hf1
        clear hf0 hf1
        have hle := Own.lit w1 55 7 #[] 0 (by decide) rfl
        go_wp2_with (at_builtin; refine wpList_app rfl _ _ rfl etyLinks rfl hle rfl (HR.out.chg (HC1.out.alloc (.cells #[] 55)) (fun _ _ => List.not_mem_nil)) (lvs_one ls) (by unfold maxLen; omega) (by omega) ?_; intro Ac cc w2 hoc hc2 hnc _; have HOC := Lib.hid hoc; have HC2' := Lib.hid hc2; have HNC' := Lib.hid hnc; clear hoc hc2 hnc hle)
        have HC2 : Hid (Chg [] w1 w2) := Lib.hid (((Chg.refl [] w1).alloc _).trans HC2'.out (fun x hx => .inr (by simp at hx; omega)))
        have HNC : Hid (∀ x ∈ bo Ac, w1.heap.size ≤ x) := Lib.hid (fun x hx => by rcases HNC'.out x hx with h | h; (simp at h; omega); (simp at h; omega))
        have hog := Own.lit w2 58 7 #[] 0 (by decide) rfl
        have HOG := Lib.hid hog
        clear hog
        go_loopw [14, 12, 13] (fun q v u wr => ∃ (i : Nat) (Ao : Option Addr) (co : Nat) (Am : Option Addr) (cm : Nat), i ≤ Ln ∧ q = .int .i64 i ∧ v = .slice Ao n co ∧ u = .slice Am i cm ∧
          Own wr 55 7 Ao n co (lvs (layB node ls ((gather ls ts node).take i))) ∧ Own wr 58 7 Am i cm (lvs ((grps node first (gather ls ts node)).take i)) ∧ Chg [] w1 wr ∧ (∀ x ∈ bo Ao, w1.heap.size ≤ x) ∧ (∀ x ∈ bo Am, w1.heap.size ≤ x)) (fun q _ _ _ => Ln - (intOf q).toNat)
        case atStart => exact ⟨0, Ac, cc, _, 0, Nat.zero_le _, rfl, by first | rfl | (congr 1; omega), rfl, by simpa [layB] using HOC.out.chg ((Chg.refl [] w2).alloc _) (fun _ _ => List.not_mem_nil), by simpa [lvs] using HOG.out, HC2.out.alloc _, HNC.out, by simpa using HC2.out.size⟩
        case round =>
          obtain ⟨i, Ao, co, Am, cm, hi, rfl, rfl, rfl, hol, hog, hcr, hnl, hng⟩ := hrel
          by_cases hlt : i < Ln
          · obtain ⟨p, hp⟩ : ∃ p, rs[i]? = some p := ⟨_, List.getElem?_eq_getElem (by rw [HRL.out, HLN.out]; exact hlt)⟩
            obtain ⟨b, hb⟩ : ∃ b, (gather ls ts node)[i]? = some b := ⟨_, List.getElem?_eq_getElem (by rw [HLN.out]; exact hlt)⟩
            obtain ⟨hpt, hp3⟩ := HRR.out i p b hp hb
            obtain ⟨ag, rfl, y0, yk⟩ := (HRG.out.chg hcr (fun _ _ => List.not_mem_nil)).bn hp
            have y1 := yk 0 (by decide)
            have y2 := yk 1 (by decide)
            have y3 := yk 2 (by decide)
            have hagb : ag.block < w1.heap.size := (HRG.out.2.2.2.2 ag rfl).1 (by omega)
            have HAG : Hid (∀ o : Nat, (⟨(ag.add (i * 4)).block, o, none⟩ : Addr).block ∉ bo Am) := Lib.hid (fun o hm => by have q := hng _ hm; simp only [add_block] at q; omega)
            have HAG0 : Hid ((ag.add (i * 4)).block ∉ bo Am) := Lib.hid (fun hm => by have q := hng _ hm; rw [add_block] at q; omega)
            obtain ⟨t, s3⟩ := p
            simp only at hpt y0 y1 y2 y3 hp3
            have HPT := Lib.hid hpt
            have HB := Lib.hid hb
            have HP3 : Hid (Rd3 wr s3 b.f) := Lib.hid (hp3.chg hcr (fun _ _ _ _ => List.not_mem_nil))
            have HOL := Lib.hid hol
            have HOG2 := Lib.hid hog
            have HCR := Lib.hid hcr
            have HNL := Lib.hid hnl
            have HNG := Lib.hid hng
            have HY0 := Lib.hid y0
            have HY1 := Lib.hid y1
            have HY2 := Lib.hid y2
            have HY3 := Lib.hid y3
            have hi1 : (i : Int) < Ln := by omega
            have hwi : IntKind.i64.wrap ((i : Int) + 1) = (i : Int) + 1 := by rw [IntKind.wrap_i64]; omega
            have hw1 : IntKind.i64.wrap (first + (i : Int)) = first + i := by rw [IntKind.wrap_i64]; have := HF1.out; have := HF0.out; omega
            have hw2 : IntKind.i64.wrap (first + (i : Int) + 1) = first + i + 1 := by rw [IntKind.wrap_i64]; have := HF1.out; have := HF0.out; omega
            have hol0 : Own wr 55 7 Ao n co (lvs (layK node b (layB node ls ((gather ls ts node).take i)) 0)) := hol
            have hfl : ∀ j, j < 3 → s3.n j ≤ 1073741824 := fun j hj => by have q1 := rd_len (HP3.out j hj); have q2 := gather_flen hb j; rw [HL.out] at q2; omega
            have HFL := Lib.hid hfl
            have HOE : Hid (∀ j, ordE (layK node b (layB node ls ((gather ls ts node).take i)) j) node [] (b.f j) = 0) := Lib.hid (fun j => gather_ord hb (fun id => by rw [layK_tch, layB_tch]) j)
            have HTR : Hid (∀ j, thr (layK node b (layB node ls ((gather ls ts node).take i)) j) node (b.f j) = layK node b (layB node ls ((gather ls ts node).take i)) (j + 1)) := Lib.hid (fun j => by unfold thr; rw [if_pos (HOE.out j)]; rfl)
            have HLK : Hid (∀ j, (layK node b (layB node ls ((gather ls ts node).take i)) j).length = n) := Lib.hid (fun j => by rw [layK_length, layB_length, HL.out])
            have HOW0 := Lib.hid hol0
            have HCW0 : Hid (Chg [] wr wr) := Lib.hid (Chg.refl _ _)
            clear hpt hb hp3 hol hog hcr hnl hng yk hp y0 y2 y3 hol0 hfl hagb
            go_wp2_with fail
            refine (gthread_any Ao n co _ node (s3.A 0) (s3.n 0) (s3.c 0) (b.f 0) wr HOW0.out.rd hn ((HP3.out 0 (by decide)).chg HCW0.out (fun _ _ => List.not_mem_nil)) (HFL.out 0 (by decide))).mono ?_
            rintro e wa ⟨Aa, Nq0, ca, Ev0, rfl, hE5, ho5, hN5, hc5, hn5⟩
            rw [HTR.out 0] at ho5 hN5
            rw [HLK.out 1] at hN5
            subst Nq0
            have HOW1 := Lib.hid ho5
            have HCW1 := Lib.hid (HCW0.out.trans0 hc5)
            have HNW1 : Hid (∀ x ∈ bo Aa, w1.heap.size ≤ x) := Lib.hid (fun x hx => by have q1 := hn5 x hx; have q2 := HCR.out.size; have q3 := HCW0.out.size; omega)
            clear hE5 ho5 hc5 hn5 y1
            have yn := HCW1.out.cell HY2.out (fun h => List.not_mem_nil h)
            go_wp2_with fail
            refine (gthread_any Aa n ca _ node (s3.A 1) (s3.n 1) (s3.c 1) (b.f 1) wa HOW1.out.rd hn ((HP3.out 1 (by decide)).chg HCW1.out (fun _ _ => List.not_mem_nil)) (HFL.out 1 (by decide))).mono ?_
            rintro e wb ⟨Ab, Nq1, cb, Ev1, rfl, hE5, ho5, hN5, hc5, hn5⟩
            rw [HTR.out 1] at ho5 hN5
            rw [HLK.out 2] at hN5
            subst Nq1
            have HOW2 := Lib.hid ho5
            have HCW2 := Lib.hid (HCW1.out.trans0 hc5)
            have HNW2 : Hid (∀ x ∈ bo Ab, w1.heap.size ≤ x) := Lib.hid (fun x hx => by have q1 := hn5 x hx; have q2 := HCR.out.size; have q3 := HCW1.out.size; omega)
            clear hE5 ho5 hc5 hn5 yn
            have yn := HCW2.out.cell HY3.out (fun h => List.not_mem_nil h)
            go_wp2_with fail
            refine (gthread_any Ab n cb _ node (s3.A 2) (s3.n 2) (s3.c 2) (b.f 2) wb HOW2.out.rd hn ((HP3.out 2 (by decide)).chg HCW2.out (fun _ _ => List.not_mem_nil)) (HFL.out 2 (by decide))).mono ?_
            rintro e W ⟨Ao2, Nq2, co2, Ev2, rfl, hE5, ho5, hN5, hc5, hn5⟩
            rw [HTR.out 2] at ho5 hN5
            rw [HLK.out 3] at hN5
            subst Nq2
            have HOW3 := Lib.hid ho5
            have HCW3 := Lib.hid (HCW2.out.trans0 hc5)
            have HNW3 : Hid (∀ x ∈ bo Ao2, w1.heap.size ≤ x) := Lib.hid (fun x hx => by have q1 := hn5 x hx; have q2 := HCR.out.size; have q3 := HCW2.out.size; omega)
            clear hE5 ho5 hc5 hn5 yn
            have HOLQ := HOW3
            have HCQ := HCW3
            have HNLQ := HNW3
            have HGQ : Hid (Own W 58 7 Am i cm (lvs ((grps node first (gather ls ts node)).take i))) := Lib.hid (HOG2.out.chg HCQ.out (fun _ _ => List.not_mem_nil))
            have HRD : Hid (Rd3 W s3 b.f) := Lib.hid (HP3.out.chg HCQ.out (fun _ _ _ _ => List.not_mem_nil))
            have v0 := HCQ.out.cell HY0.out (fun h => List.not_mem_nil h)
            have v1 := HCQ.out.cell HY1.out (fun h => List.not_mem_nil h)
            have v2 := HCQ.out.cell HY2.out (fun h => List.not_mem_nil h)
            have v3 := HCQ.out.cell HY3.out (fun h => List.not_mem_nil h)
            by_cases hla : i + 1 = Ln
            · have t3 : decide ((i : Int) + 1 < (Ln : Int)) = false := by simp; omega
              have HLA := Lib.hid hla
              clear hla
              go_wp2_with fail
              refine wp_region_held_drew (S := fun w' => Chg (bo Am) W w') (by kernel_rfl) ((Chg.refl _ _).drew) (fun hHeld => ?_)
              refine wpAnyH_take (i := 0) (v := ?_) rfl (by kernel_rfl) (by kernel_rfl) (by kernel_rfl) (fun _ _ _ h => h) (Or.inl ⟨by rfl, ?_⟩) (by assumption) ?_
              rotate_left
              · (intro w' hSw; go_simp; try with_reducible rfl)
              try simp only [Act.put, List.getElem_toArray, List.getElem_cons_zero, List.setIfInBounds_toArray, List.set_cons_zero, List.set_cons_succ]
              refine wpAnyH_take (i := 1) (v := ?_) rfl (by kernel_rfl) (by kernel_rfl) (by kernel_rfl) (fun _ _ _ h => h) (Or.inl ⟨by rfl, ?_⟩) (by assumption) ?_
              rotate_left
              · (intro w' hSw; go_simp; try with_reducible rfl)
              try simp only [Act.put, List.getElem_toArray, List.getElem_cons_zero, List.getElem_cons_succ, List.setIfInBounds_toArray, List.set_cons_zero, List.set_cons_succ]
              refine wpAnyH_take (i := 2) (v := ?_) rfl (by kernel_rfl) (by kernel_rfl) (by kernel_rfl) (fun _ _ _ h => h) (Or.inl ⟨by rfl, ?_⟩) (by assumption) ?_
              rotate_left
              · (intro w' hSw; go_simp; try with_reducible rfl)
              try simp only [Act.put, List.getElem_toArray, List.getElem_cons_zero, List.getElem_cons_succ, List.setIfInBounds_toArray, List.set_cons_zero, List.set_cons_succ]
              refine wpAnyH_take (i := 3) (v := ?_) rfl (by kernel_rfl) (by kernel_rfl) (by kernel_rfl) (fun _ _ _ h => h) (Or.inl ⟨by rfl, ?_⟩) (by assumption) ?_
              rotate_left
              · (intro w' hSw; go_simp; try with_reducible rfl)
              try simp only [Act.put, List.getElem_toArray, List.getElem_cons_zero, List.getElem_cons_succ, List.setIfInBounds_toArray, List.set_cons_zero, List.set_cons_succ]
              refine wpAnyH_take (i := 4) (v := ?_) rfl (by kernel_rfl) (by kernel_rfl) (by kernel_rfl) (fun _ _ _ h => h) (Or.inl ⟨by rfl, ?_⟩) (by assumption) ?_
              rotate_left
              · (intro w' hSw; go_simp; try with_reducible rfl)
              try simp only [Act.put, List.getElem_toArray, List.getElem_cons_zero, List.getElem_cons_succ, List.setIfInBounds_toArray, List.set_cons_zero, List.set_cons_succ]
              refine wpAnyH_take (i := 5) (v := ?_) rfl (by kernel_rfl) (by kernel_rfl) (by kernel_rfl) (fun _ _ _ h => h) (Or.inl ⟨by rfl, ?_⟩) (by assumption) ?_
              rotate_left
              · (intro w' hSw; have q := hSw.cell v0 HAG0.out; go_simp; try with_reducible rfl)
              try simp only [Act.put, List.getElem_toArray, List.getElem_cons_zero, List.getElem_cons_succ, List.setIfInBounds_toArray, List.set_cons_zero, List.set_cons_succ]
              refine wpAnyH_take (i := 6) (v := ?_) rfl (by kernel_rfl) (by kernel_rfl) (by kernel_rfl) (fun _ _ _ h => h) (Or.inl ⟨by rfl, ?_⟩) (by assumption) ?_
              rotate_left
              · (intro w' hSw; go_simp; try with_reducible rfl)
              try simp only [Act.put, List.getElem_toArray, List.getElem_cons_zero, List.getElem_cons_succ, List.setIfInBounds_toArray, List.set_cons_zero, List.set_cons_succ]
              refine wpAnyH_take (i := 7) (v := ?_) rfl (by kernel_rfl) (by kernel_rfl) (by kernel_rfl) (fun _ _ _ h => h) (Or.inl ⟨by rfl, ?_⟩) (by assumption) ?_
              rotate_left
              · (intro w' hSw; go_simp; try with_reducible rfl)
              try simp only [Act.put, List.getElem_toArray, List.getElem_cons_zero, List.getElem_cons_succ, List.setIfInBounds_toArray, List.set_cons_zero, List.set_cons_succ]
              refine wpAnyH_take (i := 8) (v := ?_) rfl (by kernel_rfl) (by kernel_rfl) (by kernel_rfl) (fun _ _ _ h => h) (Or.inl ⟨by rfl, ?_⟩) (by assumption) ?_
              rotate_left
              · (intro w' hSw; go_simp; try with_reducible rfl)
              try simp only [Act.put, List.getElem_toArray, List.getElem_cons_zero, List.getElem_cons_succ, List.setIfInBounds_toArray, List.set_cons_zero, List.set_cons_succ]
              refine wpAnyH_take (i := 9) (v := ?_) rfl (by kernel_rfl) (by kernel_rfl) (by kernel_rfl) (fun _ _ _ h => h) (Or.inl ⟨by rfl, ?_⟩) (by assumption) ?_
              rotate_left
              · (intro w' hSw; go_simp; try with_reducible rfl)
              try simp only [Act.put, List.getElem_toArray, List.getElem_cons_zero, List.getElem_cons_succ, List.setIfInBounds_toArray, List.set_cons_zero, List.set_cons_succ]
              refine wpAnyH_take (i := 10) (v := ?_) rfl (by kernel_rfl) (by kernel_rfl) (by kernel_rfl) (fun _ _ _ h => h) (Or.inl ⟨by rfl, ?_⟩) (by assumption) ?_
              rotate_left
              · (intro w' hSw; go_simp; try with_reducible rfl)
              try simp only [Act.put, List.getElem_toArray, List.getElem_cons_zero, List.getElem_cons_succ, List.setIfInBounds_toArray, List.set_cons_zero, List.set_cons_succ]
              refine wpAnyH_take (i := 11) (v := ?_) rfl (by kernel_rfl) (by kernel_rfl) (by kernel_rfl) (fun _ _ _ h => h) (Or.inl ⟨by rfl, ?_⟩) (by assumption) ?_
              rotate_left
              · (intro w' hSw; have q := hSw.cell v1 HAG0.out; go_simp; try with_reducible rfl)
              try simp only [Act.put, List.getElem_toArray, List.getElem_cons_zero, List.getElem_cons_succ, List.setIfInBounds_toArray, List.set_cons_zero, List.set_cons_succ]
              refine wpAnyH_take (i := 13) (v := ?_) rfl (by kernel_rfl) (by kernel_rfl) (by kernel_rfl) (fun _ _ _ h => h) (Or.inl ⟨by rfl, ?_⟩) (by assumption) ?_
              rotate_left
              · (intro w' hSw; go_simp; try with_reducible rfl)
              try simp only [Act.put, List.getElem_toArray, List.getElem_cons_zero, List.getElem_cons_succ, List.setIfInBounds_toArray, List.set_cons_zero, List.set_cons_succ]
              refine wpAnyH_take (i := 14) (v := ?_) rfl (by kernel_rfl) (by kernel_rfl) (by kernel_rfl) (fun _ _ _ h => h) (Or.inl ⟨by rfl, ?_⟩) (by assumption) ?_
              rotate_left
              · (intro w' hSw; go_simp; try with_reducible rfl)
              try simp only [Act.put, List.getElem_toArray, List.getElem_cons_zero, List.getElem_cons_succ, List.setIfInBounds_toArray, List.set_cons_zero, List.set_cons_succ]
              refine wpAnyH_take (i := 15) (v := ?_) rfl (by kernel_rfl) (by kernel_rfl) (by kernel_rfl) (fun _ _ _ h => h) (Or.inl ⟨by rfl, ?_⟩) (by assumption) ?_
              rotate_left
              · (intro w' hSw; go_simp; try with_reducible rfl)
              try simp only [Act.put, List.getElem_toArray, List.getElem_cons_zero, List.getElem_cons_succ, List.setIfInBounds_toArray, List.set_cons_zero, List.set_cons_succ]
              refine wpAnyH_take (i := 16) (v := ?_) rfl (by kernel_rfl) (by kernel_rfl) (by kernel_rfl) (fun _ _ _ h => h) (Or.inl ⟨by rfl, ?_⟩) (by assumption) ?_
              rotate_left
              · (intro w' hSw; go_simp; try with_reducible rfl)
              try simp only [Act.put, List.getElem_toArray, List.getElem_cons_zero, List.getElem_cons_succ, List.setIfInBounds_toArray, List.set_cons_zero, List.set_cons_succ]
              refine wpAnyH_take (i := 17) (v := ?_) rfl (by kernel_rfl) (by kernel_rfl) (by kernel_rfl) (fun _ _ _ h => h) (Or.inl ⟨by rfl, ?_⟩) (by assumption) ?_
              rotate_left
              · (intro w' hSw; have q := hSw.cell v2 HAG0.out; go_simp; try with_reducible rfl)
              try simp only [Act.put, List.getElem_toArray, List.getElem_cons_zero, List.getElem_cons_succ, List.setIfInBounds_toArray, List.set_cons_zero, List.set_cons_succ]
              refine wpAnyH_take (i := 19) (v := ?_) rfl (by kernel_rfl) (by kernel_rfl) (by kernel_rfl) (fun _ _ _ h => h) (Or.inl ⟨by rfl, ?_⟩) (by assumption) ?_
              rotate_left
              · (intro w' hSw; go_simp; try with_reducible rfl)
              try simp only [Act.put, List.getElem_toArray, List.getElem_cons_zero, List.getElem_cons_succ, List.setIfInBounds_toArray, List.set_cons_zero, List.set_cons_succ]
              refine wpAnyH_take (i := 20) (v := ?_) rfl (by kernel_rfl) (by kernel_rfl) (by kernel_rfl) (fun _ _ _ h => h) (Or.inl ⟨by rfl, ?_⟩) (by assumption) ?_
              rotate_left
              · (intro w' hSw; go_simp; try with_reducible rfl)
              try simp only [Act.put, List.getElem_toArray, List.getElem_cons_zero, List.getElem_cons_succ, List.setIfInBounds_toArray, List.set_cons_zero, List.set_cons_succ]
              refine wpAnyH_take (i := 21) (v := ?_) rfl (by kernel_rfl) (by kernel_rfl) (by kernel_rfl) (fun _ _ _ h => h) (Or.inl ⟨by rfl, ?_⟩) (by assumption) ?_
              rotate_left
              · (intro w' hSw; go_simp; try with_reducible rfl)
              try simp only [Act.put, List.getElem_toArray, List.getElem_cons_zero, List.getElem_cons_succ, List.setIfInBounds_toArray, List.set_cons_zero, List.set_cons_succ]
              refine wpAnyH_take (i := 22) (v := ?_) rfl (by kernel_rfl) (by kernel_rfl) (by kernel_rfl) (fun _ _ _ h => h) (Or.inl ⟨by rfl, ?_⟩) (by assumption) ?_
              rotate_left
              · (intro w' hSw; go_simp; try with_reducible rfl)
              try simp only [Act.put, List.getElem_toArray, List.getElem_cons_zero, List.getElem_cons_succ, List.setIfInBounds_toArray, List.set_cons_zero, List.set_cons_succ]
              refine wpAnyH_take (i := 23) (v := ?_) rfl (by kernel_rfl) (by kernel_rfl) (by kernel_rfl) (fun _ _ _ h => h) (Or.inl ⟨by rfl, ?_⟩) (by assumption) ?_
              rotate_left
              · (intro w' hSw; have q := hSw.cell v3 HAG0.out; go_simp; try with_reducible rfl)
              try simp only [Act.put, List.getElem_toArray, List.getElem_cons_zero, List.getElem_cons_succ, List.setIfInBounds_toArray, List.set_cons_zero, List.set_cons_succ]
              refine wpAnyH_take (i := 25) (v := ?_) rfl (by kernel_rfl) (by kernel_rfl) (by kernel_rfl) (fun _ _ _ h => h) (Or.inl ⟨by rfl, ?_⟩) (by assumption) ?_
              rotate_left
              · (intro w' hSw; go_simp; try with_reducible rfl)
              try simp only [Act.put, List.getElem_toArray, List.getElem_cons_zero, List.getElem_cons_succ, List.setIfInBounds_toArray, List.set_cons_zero, List.set_cons_succ]
              refine wpAnyH_ready (rs := [12]) (by kernel_rfl) (by simp) ?_
              refine AllReadyH.cons rfl (fun K hK => ?_) (AllReadyH.nil)
              go_simp
              refine (rfirst_any _ _ _ _ _ ((HRD.out 0 (by decide)).chg ((Chg.refl [] W).drew) (fun _ _ => List.not_mem_nil))).mono ?_
              rintro e w' ⟨rfl, rfl⟩
              refine hK.out _ _ (hHeld) (fun hHeld => ?_)
              try simp only [Act.put, List.getElem_toArray, List.getElem_cons_zero, List.getElem_cons_succ, List.setIfInBounds_toArray, List.set_cons_zero, List.set_cons_succ]
              clear hK K
              refine wpAnyH_ready (rs := [18]) (by kernel_rfl) (by simp) ?_
              refine AllReadyH.cons rfl (fun K hK => ?_) (AllReadyH.nil)
              go_simp
              refine (rfirst_any _ _ _ _ _ ((HRD.out 1 (by decide)).chg ((Chg.refl [] W).drew) (fun _ _ => List.not_mem_nil))).mono ?_
              rintro e w' ⟨rfl, rfl⟩
              refine hK.out _ _ (hHeld) (fun hHeld => ?_)
              try simp only [Act.put, List.getElem_toArray, List.getElem_cons_zero, List.getElem_cons_succ, List.setIfInBounds_toArray, List.set_cons_zero, List.set_cons_succ]
              clear hK K
              refine wpAnyH_ready (rs := [24]) (by kernel_rfl) (by simp) ?_
              refine AllReadyH.cons rfl (fun K hK => ?_) (AllReadyH.nil)
              go_simp
              refine (rfirst_any _ _ _ _ _ ((HRD.out 2 (by decide)).chg ((Chg.refl [] W).drew) (fun _ _ => List.not_mem_nil))).mono ?_
              rintro e w' ⟨rfl, rfl⟩
              refine hK.out _ _ (hHeld) (fun hHeld => ?_)
              try simp only [Act.put, List.getElem_toArray, List.getElem_cons_zero, List.getElem_cons_succ, List.setIfInBounds_toArray, List.set_cons_zero, List.set_cons_succ]
              clear hK K
              refine wpAnyH_take (i := 26) (v := ?_) rfl (by kernel_rfl) (by kernel_rfl) (by kernel_rfl) (fun _ _ _ h => h) (Or.inl ⟨by rfl, ?_⟩) (by assumption) ?_
              rotate_left
              · (intro w' hSw; go_simp; try with_reducible rfl)
              try simp only [Act.put, List.getElem_toArray, List.getElem_cons_zero, List.getElem_cons_succ, List.setIfInBounds_toArray, List.set_cons_zero, List.set_cons_succ]
              refine wpAnyH_ready (rs := [27]) (by kernel_rfl) (by simp) ?_
              refine AllReadyH.cons rfl (fun K hK => ?_) (AllReadyH.nil)
              go_simp
              refine hK.out _ _ (hHeld.alloc _) (fun hHeld => ?_)
              try simp only [Act.put, List.getElem_toArray, List.getElem_cons_zero, List.getElem_cons_succ, List.setIfInBounds_toArray, List.set_cons_zero, List.set_cons_succ]
              clear hK K
              refine wpAnyH_ready (rs := [28]) (by kernel_rfl) (by simp) ?_
              refine AllReadyH.cons rfl (fun K hK => ?_) (AllReadyH.nil)
              refine step_app rfl _ _ rfl etyGroups rfl (HGQ.out.chg (((Chg.refl [] W).alloc (.cells #[.bool true, .int .i64 t, .int .i64 node, .int .i64 (headOf (b.f 0)), .int .i64 (headOf (b.f 1)), .int .i64 (headOf (b.f 2)), .int .i64 (-1)] 58)).drew) (fun _ _ => List.not_mem_nil)) rfl ((Own.lit W 58 7 #[.bool true, .int .i64 t, .int .i64 node, .int .i64 (headOf (b.f 0)), .int .i64 (headOf (b.f 1)), .int .i64 (headOf (b.f 2)), .int .i64 (-1)] 1 (by decide) rfl).chg ((Chg.refl [] _).drew) (fun _ _ => List.not_mem_nil)).rd (by simp [Value.oneCell']) (by unfold maxLen; omega) (by omega) ?_
              intro A7 c7 w7 hown7 hchg7 hnew7 _
              have HO7 := Lib.hid hown7
              have HC7 := Lib.hid hchg7
              have HN7 := Lib.hid hnew7
              have hs7 : Chg (bo Am) W w7 := ((((Chg.refl [] W).alloc _).drew).nil _).trans hchg7 (fun x hx => .inl hx)
              clear hown7 hchg7 hnew7
              refine hK.out _ _ (hs7) (fun hHeld => ?_)
              try simp only [Act.put, List.getElem_toArray, List.getElem_cons_zero, List.getElem_cons_succ, List.setIfInBounds_toArray, List.set_cons_zero, List.set_cons_succ]
              clear hK K
              refine wpAnyH_take (i := 29) (v := ?_) rfl (by kernel_rfl) (by kernel_rfl) (by kernel_rfl) (fun _ _ _ h => h) (Or.inl ⟨by rfl, ?_⟩) (by assumption) ?_
              rotate_left
              · (intro w' hSw; go_simp; try with_reducible rfl)
              try simp only [Act.put, List.getElem_toArray, List.getElem_cons_zero, List.getElem_cons_succ, List.setIfInBounds_toArray, List.set_cons_zero, List.set_cons_succ]
              refine wpAnyH_done (by kernel_rfl) ?_ _
              try simp only [Act.put, List.getElem_toArray, List.getElem_cons_zero, List.getElem_cons_succ, List.setIfInBounds_toArray, List.set_cons_zero, List.set_cons_succ]
              clear v0 v1 v2 v3
              go_wp2
              go_roundw
              case rel =>
                have hcq7 : Chg (bo Am) W w7 := ((((Chg.refl [] W).alloc _).drew).nil _).trans HC7.out (fun x hx => .inl hx)
                refine ⟨i + 1, Ao2, co2, A7, c7, by omega, by go_num, rfl, rfl, ?_, ?_, ?_, HNLQ.out, fun x hx => ?_⟩
                · rw [layB_snoc node ls _ i b HB.out, ← layK_three]
                  exact HOLQ.out.chg hcq7 (HOLQ.out.own_ne HGQ.out (by decide))
                · have hgr : (grps node first (gather ls ts node))[i]? = some (grp node first Ln i b) := by rw [grps_get, HB.out, HLN.out]; rfl
                  have hge : grp node first Ln i b = ⟨true, t, node, headOf (b.f 0), headOf (b.f 1), headOf (b.f 2), (-1)⟩ := by unfold grp; rw [HPT.out, if_neg (by have := HLA.out; omega)]
                  rw [take_snoc _ _ _ hgr, lvs_append, hge]
                  simpa [lvs, lv] using HO7.out
                · exact (HCR.out.trans0 HCQ.out).trans hcq7 (fun x hx => .inr (HNG.out x hx))
                · rcases HN7.out x hx with h | h
                  · exact HNG.out x h
                  · have q1 := (HCR.out.trans0 HCQ.out).size; simp at h; omega
              case measure => simp [intOf]; omega
            · have t3 : decide ((i : Int) + 1 < (Ln : Int)) = true := by simp; omega
              have HLA := Lib.hid hla
              clear hla
              go_wp2_with fail
              refine wp_region_held_drew (S := fun w' => Chg (bo Am) W w') (by kernel_rfl) ((Chg.refl _ _).drew) (fun hHeld => ?_)
              refine wpAnyH_take (i := 0) (v := ?_) rfl (by kernel_rfl) (by kernel_rfl) (by kernel_rfl) (fun _ _ _ h => h) (Or.inl ⟨by rfl, ?_⟩) (by assumption) ?_
              rotate_left
              · (intro w' hSw; go_simp; try with_reducible rfl)
              try simp only [Act.put, List.getElem_toArray, List.getElem_cons_zero, List.setIfInBounds_toArray, List.set_cons_zero, List.set_cons_succ]
              refine wpAnyH_take (i := 1) (v := ?_) rfl (by kernel_rfl) (by kernel_rfl) (by kernel_rfl) (fun _ _ _ h => h) (Or.inl ⟨by rfl, ?_⟩) (by assumption) ?_
              rotate_left
              · (intro w' hSw; go_simp; try with_reducible rfl)
              try simp only [Act.put, List.getElem_toArray, List.getElem_cons_zero, List.getElem_cons_succ, List.setIfInBounds_toArray, List.set_cons_zero, List.set_cons_succ]
              refine wpAnyH_take (i := 2) (v := ?_) rfl (by kernel_rfl) (by kernel_rfl) (by kernel_rfl) (fun _ _ _ h => h) (Or.inl ⟨by rfl, ?_⟩) (by assumption) ?_
              rotate_left
              · (intro w' hSw; go_simp; try with_reducible rfl)
              try simp only [Act.put, List.getElem_toArray, List.getElem_cons_zero, List.getElem_cons_succ, List.setIfInBounds_toArray, List.set_cons_zero, List.set_cons_succ]
              refine wpAnyH_take (i := 3) (v := ?_) rfl (by kernel_rfl) (by kernel_rfl) (by kernel_rfl) (fun _ _ _ h => h) (Or.inl ⟨by rfl, ?_⟩) (by assumption) ?_
              rotate_left
              · (intro w' hSw; go_simp; try with_reducible rfl)
              try simp only [Act.put, List.getElem_toArray, List.getElem_cons_zero, List.getElem_cons_succ, List.setIfInBounds_toArray, List.set_cons_zero, List.set_cons_succ]
              refine wpAnyH_take (i := 4) (v := ?_) rfl (by kernel_rfl) (by kernel_rfl) (by kernel_rfl) (fun _ _ _ h => h) (Or.inl ⟨by rfl, ?_⟩) (by assumption) ?_
              rotate_left
              · (intro w' hSw; go_simp; try with_reducible rfl)
              try simp only [Act.put, List.getElem_toArray, List.getElem_cons_zero, List.getElem_cons_succ, List.setIfInBounds_toArray, List.set_cons_zero, List.set_cons_succ]
              refine wpAnyH_take (i := 5) (v := ?_) rfl (by kernel_rfl) (by kernel_rfl) (by kernel_rfl) (fun _ _ _ h => h) (Or.inl ⟨by rfl, ?_⟩) (by assumption) ?_
              rotate_left
              · (intro w' hSw; have q := hSw.cell v0 HAG0.out; go_simp; try with_reducible rfl)
              try simp only [Act.put, List.getElem_toArray, List.getElem_cons_zero, List.getElem_cons_succ, List.setIfInBounds_toArray, List.set_cons_zero, List.set_cons_succ]
              refine wpAnyH_take (i := 6) (v := ?_) rfl (by kernel_rfl) (by kernel_rfl) (by kernel_rfl) (fun _ _ _ h => h) (Or.inl ⟨by rfl, ?_⟩) (by assumption) ?_
              rotate_left
              · (intro w' hSw; go_simp; try with_reducible rfl)
              try simp only [Act.put, List.getElem_toArray, List.getElem_cons_zero, List.getElem_cons_succ, List.setIfInBounds_toArray, List.set_cons_zero, List.set_cons_succ]
              refine wpAnyH_take (i := 7) (v := ?_) rfl (by kernel_rfl) (by kernel_rfl) (by kernel_rfl) (fun _ _ _ h => h) (Or.inl ⟨by rfl, ?_⟩) (by assumption) ?_
              rotate_left
              · (intro w' hSw; go_simp; try with_reducible rfl)
              try simp only [Act.put, List.getElem_toArray, List.getElem_cons_zero, List.getElem_cons_succ, List.setIfInBounds_toArray, List.set_cons_zero, List.set_cons_succ]
              refine wpAnyH_take (i := 8) (v := ?_) rfl (by kernel_rfl) (by kernel_rfl) (by kernel_rfl) (fun _ _ _ h => h) (Or.inl ⟨by rfl, ?_⟩) (by assumption) ?_
              rotate_left
              · (intro w' hSw; go_simp; try with_reducible rfl)
              try simp only [Act.put, List.getElem_toArray, List.getElem_cons_zero, List.getElem_cons_succ, List.setIfInBounds_toArray, List.set_cons_zero, List.set_cons_succ]
              refine wpAnyH_take (i := 9) (v := ?_) rfl (by kernel_rfl) (by kernel_rfl) (by kernel_rfl) (fun _ _ _ h => h) (Or.inl ⟨by rfl, ?_⟩) (by assumption) ?_
              rotate_left
              · (intro w' hSw; go_simp; try with_reducible rfl)
              try simp only [Act.put, List.getElem_toArray, List.getElem_cons_zero, List.getElem_cons_succ, List.setIfInBounds_toArray, List.set_cons_zero, List.set_cons_succ]
              refine wpAnyH_take (i := 10) (v := ?_) rfl (by kernel_rfl) (by kernel_rfl) (by kernel_rfl) (fun _ _ _ h => h) (Or.inl ⟨by rfl, ?_⟩) (by assumption) ?_
              rotate_left
              · (intro w' hSw; go_simp; try with_reducible rfl)
              try simp only [Act.put, List.getElem_toArray, List.getElem_cons_zero, List.getElem_cons_succ, List.setIfInBounds_toArray, List.set_cons_zero, List.set_cons_succ]
              refine wpAnyH_take (i := 11) (v := ?_) rfl (by kernel_rfl) (by kernel_rfl) (by kernel_rfl) (fun _ _ _ h => h) (Or.inl ⟨by rfl, ?_⟩) (by assumption) ?_
              rotate_left
              · (intro w' hSw; have q := hSw.cell v1 HAG0.out; go_simp; try with_reducible rfl)
              try simp only [Act.put, List.getElem_toArray, List.getElem_cons_zero, List.getElem_cons_succ, List.setIfInBounds_toArray, List.set_cons_zero, List.set_cons_succ]
              refine wpAnyH_take (i := 13) (v := ?_) rfl (by kernel_rfl) (by kernel_rfl) (by kernel_rfl) (fun _ _ _ h => h) (Or.inl ⟨by rfl, ?_⟩) (by assumption) ?_
              rotate_left
              · (intro w' hSw; go_simp; try with_reducible rfl)
              try simp only [Act.put, List.getElem_toArray, List.getElem_cons_zero, List.getElem_cons_succ, List.setIfInBounds_toArray, List.set_cons_zero, List.set_cons_succ]
              refine wpAnyH_take (i := 14) (v := ?_) rfl (by kernel_rfl) (by kernel_rfl) (by kernel_rfl) (fun _ _ _ h => h) (Or.inl ⟨by rfl, ?_⟩) (by assumption) ?_
              rotate_left
              · (intro w' hSw; go_simp; try with_reducible rfl)
              try simp only [Act.put, List.getElem_toArray, List.getElem_cons_zero, List.getElem_cons_succ, List.setIfInBounds_toArray, List.set_cons_zero, List.set_cons_succ]
              refine wpAnyH_take (i := 15) (v := ?_) rfl (by kernel_rfl) (by kernel_rfl) (by kernel_rfl) (fun _ _ _ h => h) (Or.inl ⟨by rfl, ?_⟩) (by assumption) ?_
              rotate_left
              · (intro w' hSw; go_simp; try with_reducible rfl)
              try simp only [Act.put, List.getElem_toArray, List.getElem_cons_zero, List.getElem_cons_succ, List.setIfInBounds_toArray, List.set_cons_zero, List.set_cons_succ]
              refine wpAnyH_take (i := 16) (v := ?_) rfl (by kernel_rfl) (by kernel_rfl) (by kernel_rfl) (fun _ _ _ h => h) (Or.inl ⟨by rfl, ?_⟩) (by assumption) ?_
              rotate_left
              · (intro w' hSw; go_simp; try with_reducible rfl)
              try simp only [Act.put, List.getElem_toArray, List.getElem_cons_zero, List.getElem_cons_succ, List.setIfInBounds_toArray, List.set_cons_zero, List.set_cons_succ]
              refine wpAnyH_take (i := 17) (v := ?_) rfl (by kernel_rfl) (by kernel_rfl) (by kernel_rfl) (fun _ _ _ h => h) (Or.inl ⟨by rfl, ?_⟩) (by assumption) ?_
              rotate_left
              · (intro w' hSw; have q := hSw.cell v2 HAG0.out; go_simp; try with_reducible rfl)
              try simp only [Act.put, List.getElem_toArray, List.getElem_cons_zero, List.getElem_cons_succ, List.setIfInBounds_toArray, List.set_cons_zero, List.set_cons_succ]
              refine wpAnyH_take (i := 19) (v := ?_) rfl (by kernel_rfl) (by kernel_rfl) (by kernel_rfl) (fun _ _ _ h => h) (Or.inl ⟨by rfl, ?_⟩) (by assumption) ?_
              rotate_left
              · (intro w' hSw; go_simp; try with_reducible rfl)
              try simp only [Act.put, List.getElem_toArray, List.getElem_cons_zero, List.getElem_cons_succ, List.setIfInBounds_toArray, List.set_cons_zero, List.set_cons_succ]
              refine wpAnyH_take (i := 20) (v := ?_) rfl (by kernel_rfl) (by kernel_rfl) (by kernel_rfl) (fun _ _ _ h => h) (Or.inl ⟨by rfl, ?_⟩) (by assumption) ?_
              rotate_left
              · (intro w' hSw; go_simp; try with_reducible rfl)
              try simp only [Act.put, List.getElem_toArray, List.getElem_cons_zero, List.getElem_cons_succ, List.setIfInBounds_toArray, List.set_cons_zero, List.set_cons_succ]
              refine wpAnyH_take (i := 21) (v := ?_) rfl (by kernel_rfl) (by kernel_rfl) (by kernel_rfl) (fun _ _ _ h => h) (Or.inl ⟨by rfl, ?_⟩) (by assumption) ?_
              rotate_left
              · (intro w' hSw; go_simp; try with_reducible rfl)
              try simp only [Act.put, List.getElem_toArray, List.getElem_cons_zero, List.getElem_cons_succ, List.setIfInBounds_toArray, List.set_cons_zero, List.set_cons_succ]
              refine wpAnyH_take (i := 22) (v := ?_) rfl (by kernel_rfl) (by kernel_rfl) (by kernel_rfl) (fun _ _ _ h => h) (Or.inl ⟨by rfl, ?_⟩) (by assumption) ?_
              rotate_left
              · (intro w' hSw; go_simp; try with_reducible rfl)
              try simp only [Act.put, List.getElem_toArray, List.getElem_cons_zero, List.getElem_cons_succ, List.setIfInBounds_toArray, List.set_cons_zero, List.set_cons_succ]
              refine wpAnyH_take (i := 23) (v := ?_) rfl (by kernel_rfl) (by kernel_rfl) (by kernel_rfl) (fun _ _ _ h => h) (Or.inl ⟨by rfl, ?_⟩) (by assumption) ?_
              rotate_left
              · (intro w' hSw; have q := hSw.cell v3 HAG0.out; go_simp; try with_reducible rfl)
              try simp only [Act.put, List.getElem_toArray, List.getElem_cons_zero, List.getElem_cons_succ, List.setIfInBounds_toArray, List.set_cons_zero, List.set_cons_succ]
              refine wpAnyH_take (i := 25) (v := ?_) rfl (by kernel_rfl) (by kernel_rfl) (by kernel_rfl) (fun _ _ _ h => h) (Or.inl ⟨by rfl, ?_⟩) (by assumption) ?_
              rotate_left
              · (intro w' hSw; go_simp; try with_reducible rfl)
              try simp only [Act.put, List.getElem_toArray, List.getElem_cons_zero, List.getElem_cons_succ, List.setIfInBounds_toArray, List.set_cons_zero, List.set_cons_succ]
              refine wpAnyH_ready (rs := [12]) (by kernel_rfl) (by simp) ?_
              refine AllReadyH.cons rfl (fun K hK => ?_) (AllReadyH.nil)
              go_simp
              refine (rfirst_any _ _ _ _ _ ((HRD.out 0 (by decide)).chg ((Chg.refl [] W).drew) (fun _ _ => List.not_mem_nil))).mono ?_
              rintro e w' ⟨rfl, rfl⟩
              refine hK.out _ _ (hHeld) (fun hHeld => ?_)
              try simp only [Act.put, List.getElem_toArray, List.getElem_cons_zero, List.getElem_cons_succ, List.setIfInBounds_toArray, List.set_cons_zero, List.set_cons_succ]
              clear hK K
              refine wpAnyH_ready (rs := [18]) (by kernel_rfl) (by simp) ?_
              refine AllReadyH.cons rfl (fun K hK => ?_) (AllReadyH.nil)
              go_simp
              refine (rfirst_any _ _ _ _ _ ((HRD.out 1 (by decide)).chg ((Chg.refl [] W).drew) (fun _ _ => List.not_mem_nil))).mono ?_
              rintro e w' ⟨rfl, rfl⟩
              refine hK.out _ _ (hHeld) (fun hHeld => ?_)
              try simp only [Act.put, List.getElem_toArray, List.getElem_cons_zero, List.getElem_cons_succ, List.setIfInBounds_toArray, List.set_cons_zero, List.set_cons_succ]
              clear hK K
              refine wpAnyH_ready (rs := [24]) (by kernel_rfl) (by simp) ?_
              refine AllReadyH.cons rfl (fun K hK => ?_) (AllReadyH.nil)
              go_simp
              refine (rfirst_any _ _ _ _ _ ((HRD.out 2 (by decide)).chg ((Chg.refl [] W).drew) (fun _ _ => List.not_mem_nil))).mono ?_
              rintro e w' ⟨rfl, rfl⟩
              refine hK.out _ _ (hHeld) (fun hHeld => ?_)
              try simp only [Act.put, List.getElem_toArray, List.getElem_cons_zero, List.getElem_cons_succ, List.setIfInBounds_toArray, List.set_cons_zero, List.set_cons_succ]
              clear hK K
              refine wpAnyH_take (i := 26) (v := ?_) rfl (by kernel_rfl) (by kernel_rfl) (by kernel_rfl) (fun _ _ _ h => h) (Or.inl ⟨by rfl, ?_⟩) (by assumption) ?_
              rotate_left
              · (intro w' hSw; go_simp; try with_reducible rfl)
              try simp only [Act.put, List.getElem_toArray, List.getElem_cons_zero, List.getElem_cons_succ, List.setIfInBounds_toArray, List.set_cons_zero, List.set_cons_succ]
              refine wpAnyH_ready (rs := [27]) (by kernel_rfl) (by simp) ?_
              refine AllReadyH.cons rfl (fun K hK => ?_) (AllReadyH.nil)
              go_simp
              refine hK.out _ _ (hHeld.alloc _) (fun hHeld => ?_)
              try simp only [Act.put, List.getElem_toArray, List.getElem_cons_zero, List.getElem_cons_succ, List.setIfInBounds_toArray, List.set_cons_zero, List.set_cons_succ]
              clear hK K
              refine wpAnyH_ready (rs := [28]) (by kernel_rfl) (by simp) ?_
              refine AllReadyH.cons rfl (fun K hK => ?_) (AllReadyH.nil)
              refine step_app rfl _ _ rfl etyGroups rfl (HGQ.out.chg (((Chg.refl [] W).alloc (.cells #[.bool true, .int .i64 t, .int .i64 node, .int .i64 (headOf (b.f 0)), .int .i64 (headOf (b.f 1)), .int .i64 (headOf (b.f 2)), .int .i64 (first + i + 1)] 58)).drew) (fun _ _ => List.not_mem_nil)) rfl ((Own.lit W 58 7 #[.bool true, .int .i64 t, .int .i64 node, .int .i64 (headOf (b.f 0)), .int .i64 (headOf (b.f 1)), .int .i64 (headOf (b.f 2)), .int .i64 (first + i + 1)] 1 (by decide) rfl).chg ((Chg.refl [] _).drew) (fun _ _ => List.not_mem_nil)).rd (by simp [Value.oneCell']) (by unfold maxLen; omega) (by omega) ?_
              intro A7 c7 w7 hown7 hchg7 hnew7 _
              have HO7 := Lib.hid hown7
              have HC7 := Lib.hid hchg7
              have HN7 := Lib.hid hnew7
              have hs7 : Chg (bo Am) W w7 := ((((Chg.refl [] W).alloc _).drew).nil _).trans hchg7 (fun x hx => .inl hx)
              clear hown7 hchg7 hnew7
              refine hK.out _ _ (hs7) (fun hHeld => ?_)
              try simp only [Act.put, List.getElem_toArray, List.getElem_cons_zero, List.getElem_cons_succ, List.setIfInBounds_toArray, List.set_cons_zero, List.set_cons_succ]
              clear hK K
              refine wpAnyH_take (i := 29) (v := ?_) rfl (by kernel_rfl) (by kernel_rfl) (by kernel_rfl) (fun _ _ _ h => h) (Or.inl ⟨by rfl, ?_⟩) (by assumption) ?_
              rotate_left
              · (intro w' hSw; go_simp; try with_reducible rfl)
              try simp only [Act.put, List.getElem_toArray, List.getElem_cons_zero, List.getElem_cons_succ, List.setIfInBounds_toArray, List.set_cons_zero, List.set_cons_succ]
              refine wpAnyH_done (by kernel_rfl) ?_ _
              try simp only [Act.put, List.getElem_toArray, List.getElem_cons_zero, List.getElem_cons_succ, List.setIfInBounds_toArray, List.set_cons_zero, List.set_cons_succ]
              clear v0 v1 v2 v3
              go_wp2
              go_roundw
              case rel =>
                have hcq7 : Chg (bo Am) W w7 := ((((Chg.refl [] W).alloc _).drew).nil _).trans HC7.out (fun x hx => .inl hx)
                refine ⟨i + 1, Ao2, co2, A7, c7, by omega, by go_num, rfl, rfl, ?_, ?_, ?_, HNLQ.out, fun x hx => ?_⟩
                · rw [layB_snoc node ls _ i b HB.out, ← layK_three]
                  exact HOLQ.out.chg hcq7 (HOLQ.out.own_ne HGQ.out (by decide))
                · have hgr : (grps node first (gather ls ts node))[i]? = some (grp node first Ln i b) := by rw [grps_get, HB.out, HLN.out]; rfl
                  have hge : grp node first Ln i b = ⟨true, t, node, headOf (b.f 0), headOf (b.f 1), headOf (b.f 2), (first + i + 1)⟩ := by unfold grp; rw [HPT.out, if_pos (by have := HLA.out; omega)]
                  rw [take_snoc _ _ _ hgr, lvs_append, hge]
                  simpa [lvs, lv] using HO7.out
                · exact (HCR.out.trans0 HCQ.out).trans hcq7 (fun x hx => .inr (HNG.out x hx))
                · rcases HN7.out x hx with h | h
                  · exact HNG.out x h
                  · have q1 := (HCR.out.trans0 HCQ.out).size; simp at h; omega
              case measure => simp [intOf]; omega
          · obtain rfl : i = Ln := by omega
            have HOL := Lib.hid hol
            have HOG2 := Lib.hid hog
            have HCR := Lib.hid (HC1.out.trans0 hcr)
            have HNL := Lib.hid hnl
            have HNG := Lib.hid hng
            clear hol hog hcr hnl hng
            go_wp2
            go_ret3
            have hmL : mkL ls ts node first = layB node ls (gather ls ts node) := by unfold mkL; rw [if_pos HE.out]
            have hmG : mkG ls ts node first = grps node first (gather ls ts node) := by unfold mkG; rw [if_pos HE.out]
            refine ⟨Ao, n, co, Am, i, cm, 0, rfl, HE.out.symm, ?_, ?_, ?_, ?_, HCR.out, fun x hx => Nat.le_trans HC1.out.size (HNL.out x hx), fun x hx => Nat.le_trans HC1.out.size (HNG.out x hx)⟩
            · rw [hmL]
              have := HOL.out
              rw [List.take_of_length_le (by rw [HLN.out]; exact Nat.le_refl _)] at this
              exact this
            · rw [hmL, layB_length, HL.out]
            · rw [hmG]
              have := HOG2.out
              rw [List.take_of_length_le (by rw [grps_length, HLN.out]; exact Nat.le_refl _)] at this
              exact this
            · rw [hmG, grps_length, HLN.out]
  · have t0 : ((m : Int) != n) = true := by simp; omega
    have HE : Hid (mkE ls ts node first = 2) := Lib.hid (by unfold mkE; rw [if_pos (.inl (by rw [HM.out, HL.out]; exact hmn))])
    clear hmn
    go_wp2
    go_ret3
    exact BAD.out HE.out w1 HC1.out
end Go.Proofs.Ytelmnmepdmfihaa
