/-
  Layer 08: the walk of VfsCrashes.
-/
import Derived.Test.YtgomofeidghmiaaGreatVfZk
namespace Go.Proofs.YtgomofeidghmiaaGreat
open Go.RowKit

set_option maxRecDepth 100000 in
set_option maxHeartbeats 12800000 in
theorem lvcrashes_any (A : Option Addr) (n c : Nat) (ds : List DM) (quota stop : Int) (SA : Option Addr) (sn sc : Nat) (os : List O8) (K : Option Addr) (kn kc : Nat) (ks : List Bool) (names : Int) (w : World)
    (hd : DirsR w A n c ds) (hs : Scr8 w SA sn os) (hk : Rd w 1 K kn kc (kv ks)) (hq : quota ≤ 9223372036854775807) (hB : bulk8 (dval8 ds) + opsB os + 4 ≤ 536870912) (hsn : sn ≤ 1073741824) (hkn : kn ≤ 1073741824) :
    Calls Tryz.prog 4 #[.agg #[.slice A n c, .int .i64 quota, .int .i64 stop], .slice SA sn sc, .agg #[.slice K kn kc, .int .i64 names]] w fun e w' => e = .returned (.bool true) ∧ Chg [] w w' := by
  have HD := Lib.hid hd
  have HS := Lib.hid hs
  have HB := Lib.hid hB
  have HBN := Lib.hid (bulk8_bnd hd (B := 1073741824) (by omega))
  have HL := Lib.hid hs.1
  have HK := Lib.hid hk
  clear hd hs hB hk
  go_enter Tryz.func4, Tryz.ntmps4
  obtain ⟨sb, hsb⟩ : ∃ sb, w.heap.size = sb := ⟨_, rfl⟩
  obtain ⟨fb, hfb⟩ : ∃ fb, sb + 1 = fb := ⟨_, rfl⟩
  obtain ⟨W, hW⟩ : ∃ W, (w.alloc (.cells #[.slice A n c, .int .i64 quota, .int .i64 stop] 24)).alloc (.cells #[.slice K kn kc, .int .i64 names] 52) = W := ⟨_, rfl⟩
  have hbk : Blk W sb 24 #[.slice A n c, .int .i64 quota, .int .i64 stop] := by rw [← hW, ← hsb]; exact (Blk.new w _ _).alloc _
  have hbf : Blk W fb 52 #[.slice K kn kc, .int .i64 names] := by
    have := Blk.new (w.alloc (.cells #[.slice A n c, .int .i64 quota, .int .i64 stop] 24)) 52 #[.slice K kn kc, .int .i64 names]
    rw [← hW, ← hfb, ← hsb]
    simpa using this
  have hcW : Chg [] w W := by rw [← hW]; exact ((Chg.refl [] w).alloc _).alloc _
  have HBK := Lib.hid hbk
  have HBF := Lib.hid hbf
  have HCW := Lib.hid hcW
  clear hbk hbf hcW
  go_wp2_with fail
  refine (speaks_any _).mono ?_
  rintro e w1 ⟨rfl, hc1⟩
  have HC1 : Hid (Chg [] w w1) := Lib.hid (HCW.out.trans0 hc1)
  have b0 := (HBK.out.chg hc1 List.not_mem_nil).cell 0
  have b1 := (HBK.out.chg hc1 List.not_mem_nil).cell 1
  have b2 := (HBK.out.chg hc1 List.not_mem_nil).cell 2
  simp only [List.getElem?_toArray, List.getElem?_cons_succ, List.getElem?_cons_zero] at b0 b1 b2
  have HBK1 := Lib.hid (HBK.out.chg hc1 List.not_mem_nil)
  have HBF1 := Lib.hid (HBF.out.chg hc1 List.not_mem_nil)
  clear hc1
  go_wp2_with fail
  refine (lawopen_any w1 A n c ds quota stop (HD.out.chg0 HC1.out) HBN.out.1 (by have := HB.out; omega) HBN.out.2.2.2).mono ?_
  rintro e w2 hop
  rcases hop with ⟨h0, rfl, hc⟩ | ⟨h0, G, R, rfl, hF, hR, hnG, hnR, hdis, hc⟩
  · have HC2 := Lib.hid (HC1.out.trans0 hc)
    clear h0 hc b0 b1 b2
    go_wp2
    go_ret
    exact ⟨rfl, HC2.out⟩
  ·
    have HQ0 := Lib.hid h0
    obtain ⟨S0, hS0⟩ : ∃ S0, openS (dval8 ds) quota stop = S0 := ⟨_, rfl⟩
    rw [hS0] at hF hR
    have HI0 : Hid (Inv (bulk8 (dval8 ds)) S0) := Lib.hid (by rw [← hS0]; exact inv_open h0 hq)
    have HS0 := Lib.hid hS0
    have HF2 : Hid (Bth w1 w2 G.b R.b S0 S0 []) := Lib.hid ⟨G, R, hF, hR, rfl, rfl, hnG, hnR, hdis, fun _ hx => absurd hx List.not_mem_nil, hc⟩
    have HC2 := Lib.hid (HC1.out.trans0 hc)
    have HD2 := Lib.hid (HD.out.chg0 HC2.out)
    obtain ⟨p, hp⟩ : ∃ p, G.b = p := ⟨_, rfl⟩
    obtain ⟨q, hq2⟩ : ∃ q, R.b = q := ⟨_, rfl⟩
    rw [hp, hq2] at HF2
    rw [hp, hq2]
    clear h0 hF hR hnG hnR hdis hc hp hq2 hS0 b0 b1 b2
    have HBF2 := Lib.hid (HBF1.out.chg HF2.out.chg List.not_mem_nil)
    go_wp2
    go_loopw [30] (fun z wr => ∃ i : Nat, i ≤ sn ∧ z = .int .i64 i ∧ Bth w1 wr p q (runO S0 (os.take i)) (runO S0 (os.take i)) []) (fun z _ => sn - (intOf z).toNat)
    case atStart => exact ⟨0, Nat.zero_le _, rfl, HF2.out⟩
    case round =>
      obtain ⟨i, hi, rfl, hfa⟩ := hrel
      have HFA := Lib.hid hfa
      have HCR : Hid (Chg [] w wr) := Lib.hid (HC1.out.trans0 hfa.chg)
      clear hfa
      by_cases hlt : i < sn
      ·
        have hlt' : (i : Int) < sn := by omega
        obtain ⟨o, ho⟩ : ∃ o, os[i]? = some o := ⟨_, List.getElem?_eq_getElem (by have := HL.out; omega)⟩
        obtain ⟨ad, rfl, hat, hrd⟩ := HS.out.at_ ho
        have hat2 := hat.chg HCR.out List.not_mem_nil
        have x0 := hat2.c0
        have x1 := hat2.c1
        have x2 := hat2.c2
        have x3 := hat2.c3
        have x4 := hat2.c4
        have HRD := Lib.hid hrd
        have HTK : Hid (runO S0 (os.take (i + 1)) = (callK (runO S0 (os.take i)) (kd o.kind) o.dir o.name o.dest o.data).1) := Lib.hid (by rw [take_snoc os i o ho, runO_snoc])
        have HBO : Hid (bulk8 (dval8 ds) + opsB (os.take i) + o.n + 4 ≤ 536870912 ∧ opsB (os.take (i + 1)) ≤ opsB os) := Lib.hid (by
          have h1 := opsB_take os (i + 1)
          have h2 := h1
          rw [take_snoc os i o ho, opsB_snoc, hrd.blen] at h2
          have h3 := HB.out
          exact ⟨by omega, h1⟩)
        have HI := Lib.hid (HI0.out.runO (os.take i))
        have HI6 := Lib.hid (HI0.out.runO (os.take (i + 1)))
        clear hat hat2 hrd ho
        obtain ⟨kind, dir, name, dest, oA, on, oc, data⟩ := o
        simp only at x0 x1 x2 x3 x4
        obtain ⟨vb, hvb⟩ : ∃ vb, wr.heap.size = vb := ⟨_, rfl⟩
        obtain ⟨W5, hW5⟩ : ∃ W5, wr.alloc (.cells #[.int .i64 kind, .string dir, .string name, .string dest, .slice oA on oc] 33) = W5 := ⟨_, rfl⟩
        have hv5 : Blk W5 vb 33 #[.int .i64 kind, .string dir, .string name, .string dest, .slice oA on oc] := by rw [← hW5, ← hvb]; exact Blk.new wr _ _
        have hc5 : Chg [] wr W5 := by rw [← hW5]; exact (Chg.refl [] wr).alloc _
        have v0 := hv5.cell 0
        have v1 := hv5.cell 1
        have v2 := hv5.cell 2
        have v3 := hv5.cell 3
        have v4 := hv5.cell 4
        simp only [List.getElem?_toArray, List.getElem?_cons_succ, List.getElem?_cons_zero] at v0 v1 v2 v3 v4
        have HF5 := Lib.hid (HFA.out.add (Y := [vb]) hc5 (fun x hx => by simp only [List.mem_singleton] at hx; subst hx; exact ⟨Nat.le_of_eq hvb, hv5.lt⟩))
        have HV5 := Lib.hid hv5
        have HC5 := Lib.hid hc5
        clear hv5 hc5
        go_wp2_with fail
        refine (HF5.out.call HI.out ⟨kind, dir, name, dest, oA, on, oc, data⟩ (HRD.out.chg HC1.out (fun _ _ => List.not_mem_nil)) (by have := HBO.out.1; simp only at this ⊢; omega)).mono ?_
        rintro e w6 ⟨dA, dn, dc, nA, nn, nc, L6, rfl, hdo, hno, hc6, hl6, hf6⟩
        have HF6 := Lib.hid hf6
        have HV6 := Lib.hid (HV5.out.chg hc6 (hl6 vb (by simp)))
        clear x0 x1 x2 x3 x4 v0 v1 v2 v3 v4 hdo hno hc6 hl6 hf6
        have v0 := HV6.out.cell 0
        have v1 := HV6.out.cell 1
        have v2 := HV6.out.cell 2
        have v3 := HV6.out.cell 3
        have v4 := HV6.out.cell 4
        simp only [List.getElem?_toArray, List.getElem?_cons_succ, List.getElem?_cons_zero] at v0 v1 v2 v3 v4
        go_wp2_with fail
        refine (HF6.out.model HI.out ⟨kind, dir, name, dest, oA, on, oc, data⟩ (HRD.out.chg HC1.out (fun _ _ => List.not_mem_nil)) (by have := HBO.out.1; simp only at this ⊢; omega)).mono ?_
        rintro e w7 ⟨dA2, dn2, dc2, nA2, nn2, nc2, L7, rfl, hdo, hno, hc7, hl7, hf7⟩
        have HF7 : Hid (Bth w1 w7 p q (runO S0 (os.take (i + 1))) (runO S0 (os.take (i + 1))) []) := Lib.hid (by rw [HTK.out]; exact hf7.sub (fun _ hx => absurd hx List.not_mem_nil))
        clear v0 v1 v2 v3 v4 hdo hno hc7 hl7 hf7
        go_wp2
        go_roundw
        case rel => exact ⟨i + 1, by omega, by go_num, HF7.out⟩
        case measure => simp [intOf]; omega
      · obtain rfl : i = sn := by omega
        have him : os.take i = os := List.take_of_length_le (by have := HL.out; omega)
        have hf0 : Bth w1 wr p q (runO S0 os) (runO S0 os) [] := by have := HFA.out; rw [him] at this; exact this
        obtain ⟨S, hS⟩ : ∃ S, runO S0 os = S := ⟨_, rfl⟩
        have hi0 := HI0.out.runO os
        rw [hS] at hi0 hf0
        have HI := Lib.hid hi0
        obtain ⟨G2, R2, hg, hr, rfl, rfl, hnG, hnR, hdis, _, hcw⟩ := hf0
        have HG := Lib.hid hg
        have HR := Lib.hid hr
        have HNG := Lib.hid hnG
        have HNR := Lib.hid hnR
        have HCW1 := Lib.hid hcw
        have HBS : Hid (bulk8 (dval8 ds) + opsB os ≤ 1073741824) := Lib.hid (by have := HB.out; omega)
        have HBS1 : Hid (bulk8 (dval8 ds) + opsB os + 1 ≤ 536870912) := Lib.hid (by have := HB.out; omega)
        have f0 := (HBF1.out.chg hcw List.not_mem_nil).cell 0
        have f1 := (HBF1.out.chg hcw List.not_mem_nil).cell 1
        simp only [List.getElem?_toArray, List.getElem?_cons_succ, List.getElem?_cons_zero] at f0 f1
        clear him hi0 hS hg hr hnG hnR hdis hcw
        have HKR : Hid (Rd wr 1 K kn kc (kv ks)) := Lib.hid ((HK.out.chg HC1.out (fun _ _ => List.not_mem_nil)).chg HCW1.out (fun _ _ => List.not_mem_nil))
        go_upto_region 12 with fail
        go_cut [12] (fun s12 wx => ∃ (fb2 : Nat) (A5 : Option Addr) (c5 : Nat), s12 = .pointer (some ⟨fb2, 0, none⟩) ∧ Blk wx fb2 52 #[.slice A5 kn c5, .int .i64 names] ∧ Rd wx 1 A5 kn c5 (kv ks) ∧ Chg [] wr wx)
        case first =>
          refine wp_region_held_drew (S := fun w' => Chg [] wr w') (by kernel_rfl) ((Chg.refl _ _).drew) (fun hHeld => ?_)
          refine wpAnyH_take (i := 1) (v := ?_) rfl (by kernel_rfl) (by kernel_rfl) (by kernel_rfl) (fun _ _ _ h => h) (Or.inl ⟨by rfl, ?_⟩) (by assumption) ?_
          rotate_left
          · (intro w' hSw; go_simp; try with_reducible rfl)
          try simp only [Act.put, put8]
          refine wpAnyH_take (i := 2) (v := ?_) rfl (by kernel_rfl) (by kernel_rfl) (by kernel_rfl) (fun _ _ _ h => h) (Or.inl ⟨by rfl, ?_⟩) (by assumption) ?_
          rotate_left
          · (intro w' hSw; have y := hSw.cell f0 List.not_mem_nil; go_simp; try with_reducible rfl)
          try simp only [Act.put, put8]
          refine wpAnyH_take (i := 4) (v := ?_) rfl (by kernel_rfl) (by kernel_rfl) (by kernel_rfl) (fun _ _ _ h => h) (Or.inl ⟨by rfl, ?_⟩) (by assumption) ?_
          rotate_left
          · (intro w' hSw; go_simp; try with_reducible rfl)
          try simp only [Act.put, put8]
          refine wpAnyH_take (i := 5) (v := ?_) rfl (by kernel_rfl) (by kernel_rfl) (by kernel_rfl) (fun _ _ _ h => h) (Or.inl ⟨by rfl, ?_⟩) (by assumption) ?_
          rotate_left
          · (intro w' hSw; have y := hSw.cell f1 List.not_mem_nil; go_simp; try with_reducible rfl)
          try simp only [Act.put, put8]
          refine wpAnyH_ready (rs := [0, 7]) (by kernel_rfl) (by simp) ?_
          refine AllReadyH.cons rfl (fun K hK => ?_) (AllReadyH.cons rfl (fun K hK => ?_) (AllReadyH.nil))
          · go_simp
            refine hK.out _ _ (hHeld.alloc _) (fun hHeld => ?_)
            try simp only [Act.put, put8]
            clear hK K
            refine wpAnyH_ready (rs := [3, 7]) (by kernel_rfl) (by simp) ?_
            refine AllReadyH.cons rfl (fun K hK => ?_) (AllReadyH.cons rfl (fun K hK => ?_) (AllReadyH.nil))
            · have HCX : Hid (Chg [] wr (wr.drew.alloc (.cells #[] 4))) := Lib.hid (by exact hHeld)
              refine step_app rfl _ _ rfl etyBools rfl (Own.lit wr.drew 4 1 #[] 0 (by decide) rfl) rfl (HKR.out.chg HCX.out (fun _ _ => List.not_mem_nil)) (by intro u hu; obtain ⟨b, _, rfl⟩ := List.mem_map.1 hu; rfl) (by unfold maxLen; omega) (by omega) ?_
              intro A5 c5 w5 hown5 hchg5 hnew5 _
              have HO5 : Hid (Rd w5 1 A5 kn c5 (kv ks)) := Lib.hid (by have := hown5.rd; simpa using this)
              have HC5 : Hid (Chg [] wr w5) := Lib.hid (HCX.out.trans hchg5 (fun x hx => by simp at hx; subst hx; right; simp))
              clear hown5 hchg5
              have HNW5 := Lib.hid hnew5
              clear hnew5
              refine hK.out _ _ (HC5.out) (fun hHeld => ?_)
              try simp only [Act.put, put8]
              clear hK K
              refine wpAnyH_take (i := 6) (v := ?_) rfl (by kernel_rfl) (by kernel_rfl) (by kernel_rfl) (fun _ _ _ h => h) (Or.inl ⟨by rfl, ?_⟩) (by assumption) ?_
              rotate_left
              · (intro w' hSw; go_simp; try with_reducible rfl)
              try simp only [Act.put, put8]
              refine wpAnyH_ready (rs := [7]) (by kernel_rfl) (by simp) ?_
              refine AllReadyH.cons rfl (fun K hK => ?_) (AllReadyH.nil)
              go_simp
              refine hK.out _ _ (hHeld.alloc _) (fun hHeld => ?_)
              try simp only [Act.put, put8]
              clear hK K
              refine wpAnyH_ready (rs := [8]) (by kernel_rfl) (by simp) ?_
              refine AllReadyH.cons rfl (fun K hK => ?_) (AllReadyH.nil)
              go_simp
              refine hK.out _ _ (HC5.out.alloc _) (fun hHeld => ?_)
              try simp only [Act.put, put8]
              clear hK K
              refine wpAnyH_done (by kernel_rfl) ?_ _
              try simp only [Act.put, put8]
              clear hHeld f0 f1
              go_wp2_with fail
              go_meet
              refine ⟨w5.heap.size, A5, c5, ?_, Blk.new w5 _ _, HO5.out.chg ((Chg.refl [] w5).alloc _) (fun _ _ => List.not_mem_nil), HC5.out.alloc _⟩
              first | rfl | simp
            · go_simp
              refine hK.out _ _ (hHeld.alloc _) (fun hHeld => ?_)
              try simp only [Act.put, put8]
              clear hK K
              refine wpAnyH_ready (rs := [3]) (by kernel_rfl) (by simp) ?_
              refine AllReadyH.cons rfl (fun K hK => ?_) (AllReadyH.nil)
              have HCX : Hid (Chg [] wr ((wr.drew.alloc (.cells #[] 4)).alloc (.cells #[.slice none 0 0, .int .i64 0] 52))) := Lib.hid (by exact hHeld)
              refine step_app rfl _ _ rfl etyBools rfl ((Own.lit wr.drew 4 1 #[] 0 (by decide) rfl).chg ((Chg.refl [] _).alloc _) (fun _ _ => List.not_mem_nil)) rfl (HKR.out.chg HCX.out (fun _ _ => List.not_mem_nil)) (by intro u hu; obtain ⟨b, _, rfl⟩ := List.mem_map.1 hu; rfl) (by unfold maxLen; omega) (by omega) ?_
              intro A5 c5 w5 hown5 hchg5 hnew5 _
              have HO5 : Hid (Rd w5 1 A5 kn c5 (kv ks)) := Lib.hid (by have := hown5.rd; simpa using this)
              have HC5 : Hid (Chg [] wr w5) := Lib.hid (HCX.out.trans hchg5 (fun x hx => by simp at hx; subst hx; right; simp))
              have HBT : Hid (Blk w5 (wr.heap.size + 1) 52 #[.slice none 0 0, .int .i64 0]) := Lib.hid (Blk.chg (w := ((wr.drew.alloc (.cells #[] 4)).alloc (.cells #[.slice none 0 0, .int .i64 0] 52))) (by have := Blk.new (wr.drew.alloc (.cells #[] 4)) 52 #[.slice none 0 0, .int .i64 0]; simpa using this) hchg5 (by simp))
              have z0 := HBT.out.frozen 0
              have z1 := HBT.out.frozen 1
              have y0 := HBT.out.cell 0
              have y1 := HBT.out.cell 1
              simp only [List.getElem?_toArray, List.getElem?_cons_succ, List.getElem?_cons_zero] at y0 y1
              clear hown5 hchg5
              have HNW5 := Lib.hid hnew5
              clear hnew5
              refine hK.out _ _ (HC5.out) (fun hHeld => ?_)
              try simp only [Act.put, put8]
              clear hK K
              refine wpAnyH_take (i := 6) (v := ?_) rfl (by kernel_rfl) (by kernel_rfl) (by kernel_rfl) (fun _ _ _ h => h) (Or.inl ⟨by rfl, ?_⟩) (by assumption) ?_
              rotate_left
              · (intro w' hSw; go_simp; try with_reducible rfl)
              try simp only [Act.put, put8]
              refine wpAnyH_ready (rs := [8]) (by kernel_rfl) (by simp) ?_
              refine AllReadyH.cons rfl (fun K hK => ?_) (AllReadyH.nil)
              go_simp
              refine hK.out _ _ (((HC5.out.setCell (.inr (by simp)) _).setCell (.inr (by simp)) _)) (fun hHeld => ?_)
              try simp only [Act.put, put8]
              clear hK K
              refine wpAnyH_done (by kernel_rfl) ?_ _
              try simp only [Act.put, put8]
              clear hHeld f0 f1
              go_wp2_with fail
              go_meet
              refine ⟨(wr.heap.size + 1), A5, c5, ?_, by have := (HBT.out.set_ 0 (.slice A5 kn c5)).set_ 1 (.int .i64 names); simpa using this, HO5.out.chg (((Chg.refl [(wr.heap.size + 1)] w5).setCell (.inl (by simp)) _).setCell (.inl (by simp)) _) (fun k hk hm => by simp only [List.mem_singleton] at hm; subst hm; rcases HNW5.out _ hk with h | h <;> simp at h <;> omega), ?_⟩
              · first | rfl | simp
              · exact (HC5.out.setCell (.inr (by simp)) _).setCell (.inr (by simp)) _
          · go_simp
            refine hK.out _ _ (hHeld.alloc _) (fun hHeld => ?_)
            try simp only [Act.put, put8]
            clear hK K
            refine wpAnyH_ready (rs := [0]) (by kernel_rfl) (by simp) ?_
            refine AllReadyH.cons rfl (fun K hK => ?_) (AllReadyH.nil)
            go_simp
            refine hK.out _ _ (hHeld.alloc _) (fun hHeld => ?_)
            try simp only [Act.put, put8]
            clear hK K
            refine wpAnyH_ready (rs := [3]) (by kernel_rfl) (by simp) ?_
            refine AllReadyH.cons rfl (fun K hK => ?_) (AllReadyH.nil)
            have HCX : Hid (Chg [] wr ((wr.drew.alloc (.cells #[.slice none 0 0, .int .i64 0] 52)).alloc (.cells #[] 4))) := Lib.hid (by exact hHeld)
            refine step_app rfl _ _ rfl etyBools rfl (by have := Own.lit (wr.drew.alloc (.cells #[.slice none 0 0, .int .i64 0] 52)) 4 1 #[] 0 (by decide) rfl; simpa using this : Own ((wr.drew.alloc (.cells #[.slice none 0 0, .int .i64 0] 52)).alloc (.cells #[] 4)) 4 1 (some ⟨wr.heap.size + 1, 0, none⟩) 0 0 []) rfl (HKR.out.chg HCX.out (fun _ _ => List.not_mem_nil)) (by intro u hu; obtain ⟨b, _, rfl⟩ := List.mem_map.1 hu; rfl) (by unfold maxLen; omega) (by omega) ?_
            intro A5 c5 w5 hown5 hchg5 hnew5 _
            have HO5 : Hid (Rd w5 1 A5 kn c5 (kv ks)) := Lib.hid (by have := hown5.rd; simpa using this)
            have HC5 : Hid (Chg [] wr w5) := Lib.hid (HCX.out.trans hchg5 (fun x hx => by simp at hx; subst hx; right; simp))
            have HBT : Hid (Blk w5 wr.heap.size 52 #[.slice none 0 0, .int .i64 0]) := Lib.hid (Blk.chg (w := ((wr.drew.alloc (.cells #[.slice none 0 0, .int .i64 0] 52)).alloc (.cells #[] 4))) ((by have := Blk.new wr.drew 52 #[.slice none 0 0, .int .i64 0]; simpa using this : Blk (wr.drew.alloc (.cells #[.slice none 0 0, .int .i64 0] 52)) wr.heap.size 52 #[.slice none 0 0, .int .i64 0]).alloc _) hchg5 (by simp))
            have z0 := HBT.out.frozen 0
            have z1 := HBT.out.frozen 1
            have y0 := HBT.out.cell 0
            have y1 := HBT.out.cell 1
            simp only [List.getElem?_toArray, List.getElem?_cons_succ, List.getElem?_cons_zero] at y0 y1
            clear hown5 hchg5
            have HNW5 := Lib.hid hnew5
            clear hnew5
            refine hK.out _ _ (HC5.out) (fun hHeld => ?_)
            try simp only [Act.put, put8]
            clear hK K
            refine wpAnyH_take (i := 6) (v := ?_) rfl (by kernel_rfl) (by kernel_rfl) (by kernel_rfl) (fun _ _ _ h => h) (Or.inl ⟨by rfl, ?_⟩) (by assumption) ?_
            rotate_left
            · (intro w' hSw; go_simp; try with_reducible rfl)
            try simp only [Act.put, put8]
            refine wpAnyH_ready (rs := [8]) (by kernel_rfl) (by simp) ?_
            refine AllReadyH.cons rfl (fun K hK => ?_) (AllReadyH.nil)
            go_simp
            refine hK.out _ _ (((HC5.out.setCell (.inr (by simp)) _).setCell (.inr (by simp)) _)) (fun hHeld => ?_)
            try simp only [Act.put, put8]
            clear hK K
            refine wpAnyH_done (by kernel_rfl) ?_ _
            try simp only [Act.put, put8]
            clear hHeld f0 f1
            go_wp2_with fail
            go_meet
            refine ⟨wr.heap.size, A5, c5, ?_, by have := (HBT.out.set_ 0 (.slice A5 kn c5)).set_ 1 (.int .i64 names); simpa using this, HO5.out.chg (((Chg.refl [wr.heap.size] w5).setCell (.inl (by simp)) _).setCell (.inl (by simp)) _) (fun k hk hm => by simp only [List.mem_singleton] at hm; subst hm; rcases HNW5.out _ hk with h | h <;> simp at h <;> omega), ?_⟩
            · first | rfl | simp
            · exact (HC5.out.setCell (.inr (by simp)) _).setCell (.inr (by simp)) _
        case rest =>
          obtain ⟨fb2, A5, c5, rfl, hb8, hrd8, hc8⟩ := hcut
          obtain ⟨w8, hw8⟩ : ∃ w8 : World, w8 = wc := ⟨_, rfl⟩
          subst hw8
          have g0 := hb8.cell 0
          have g1 := hb8.cell 1
          have k0 := hc8.cell f0 List.not_mem_nil
          have k1 := hc8.cell f1 List.not_mem_nil
          simp only [List.getElem?_toArray, List.getElem?_cons_succ, List.getElem?_cons_zero] at g0 g1
          have HRD8 := Lib.hid hrd8
          have HC8 := Lib.hid hc8
          have HG8 := Lib.hid (HG.out.keep0 hc8)
          have HR8 := Lib.hid (HR.out.keep0 hc8)
          have HKR8 := Lib.hid (HKR.out.chg hc8 (fun _ _ => List.not_mem_nil))
          clear hb8 hrd8 hc8 f0 f1
          go_wp2_with fail
          refine wp_region_held_drew (S := fun w' => Chg [] w8 w') (by kernel_rfl) ((Chg.refl _ _).drew) (fun hHeld => ?_)
          refine wpAnyH_take (i := 0) (v := ?_) rfl (by kernel_rfl) (by kernel_rfl) (by kernel_rfl) (fun _ _ _ h => h) (Or.inl ⟨by rfl, ?_⟩) (by assumption) ?_
          rotate_left
          · (intro w' hSw; go_simp; try with_reducible rfl)
          try simp only [Act.put, put8]
          refine wpAnyH_take (i := 1) (v := ?_) rfl (by kernel_rfl) (by kernel_rfl) (by kernel_rfl) (fun _ _ _ h => h) (Or.inl ⟨by rfl, ?_⟩) (by assumption) ?_
          rotate_left
          · (intro w' hSw; have y := hSw.cell g0 List.not_mem_nil; have z := hSw.cell g1 List.not_mem_nil; go_simp; try with_reducible rfl)
          try simp only [Act.put, put8]
          refine wpAnyH_take (i := 3) (v := ?_) rfl (by kernel_rfl) (by kernel_rfl) (by kernel_rfl) (fun _ _ _ h => h) (Or.inl ⟨by rfl, ?_⟩) (by assumption) ?_
          rotate_left
          · (intro w' hSw; go_simp; try with_reducible rfl)
          try simp only [Act.put, put8]
          refine wpAnyH_take (i := 4) (v := ?_) rfl (by kernel_rfl) (by kernel_rfl) (by kernel_rfl) (fun _ _ _ h => h) (Or.inl ⟨by rfl, ?_⟩) (by assumption) ?_
          rotate_left
          · (intro w' hSw; have y := hSw.cell k0 List.not_mem_nil; have z := hSw.cell k1 List.not_mem_nil; go_simp; try with_reducible rfl)
          try simp only [Act.put, put8]
          refine wpAnyH_ready (rs := [2]) (by kernel_rfl) (by simp) ?_
          refine AllReadyH.cons rfl (fun K hK => ?_) (AllReadyH.nil)
          go_simp
          refine (durable_st (HG8.out.keep0 hHeld) HI.out HBS.out A5 kn c5 ks names (HRD8.out.chg hHeld (fun _ _ => List.not_mem_nil)) hkn).mono ?_
          rintro ee wa ⟨Aa, na, ca, dsa, rfl, hds, hdv, hc, hn⟩
          have HDSa := Lib.hid hds.rd
          have HDVa := Lib.hid hdv
          have HBNa := Lib.hid (hds.rd.bnd (B := 536870912) (by rw [hdv]; have h1 := siz_left HI.out ks names; have h2 := HBS1.out; omega))
          have hHa := hHeld.trans0 hc
          have HCCa := Lib.hid hc
          clear hds hdv hc hn
          refine hK.out _ _ (hHa) (fun hHeld => ?_)
          try simp only [Act.put, put8]
          clear hK K
          refine wpAnyH_ready (rs := [5]) (by kernel_rfl) (by simp) ?_
          refine AllReadyH.cons rfl (fun K hK => ?_) (AllReadyH.nil)
          go_simp
          refine (rdurable_any (HR8.out.keep0 hHa) HI.out HBS1.out _ _ _ ks names (HKR8.out.chg hHa (fun _ _ => List.not_mem_nil)) hkn).mono ?_
          rintro ee wb ⟨Ab, nb, cb, dsb, rfl, hds, hdv, hc, hn⟩
          have HDSb := Lib.hid hds.rd
          have HDVb := Lib.hid hdv
          have HBNb := Lib.hid (hds.rd.bnd (B := 536870912) (by rw [hdv]; have h1 := siz_left HI.out ks names; have h2 := HBS1.out; omega))
          have hHb := hHa.trans0 hc
          have HCCb := Lib.hid hc
          clear hds hdv hc hn
          refine hK.out _ _ (hHb) (fun hHeld => ?_)
          try simp only [Act.put, put8]
          clear hK K
          refine wpAnyH_ready (rs := [6]) (by kernel_rfl) (by simp) ?_
          refine AllReadyH.cons rfl (fun K hK => ?_) (AllReadyH.nil)
          go_simp
          refine (same8_any _ _ _ dsa _ _ _ dsb _ (HDSa.out.chg0 HCCb.out) (HDSb.out) (Nat.le_trans HBNa.out.1 (by decide)) (fun x hx => Nat.le_trans (HBNa.out.2 x hx) (by decide))).mono ?_
          rintro ee wc ⟨bb, rfl, hbb, hc⟩
          rw [hbb (by rw [HDVa.out, HDVb.out])]
          have hHc := hHb.trans0 hc
          clear hc hbb
          refine hK.out _ _ (hHc) (fun hHeld => ?_)
          try simp only [Act.put, put8]
          clear hK K
          refine wpAnyH_take (i := 7) (v := ?_) rfl (by kernel_rfl) (by kernel_rfl) (by kernel_rfl) (fun _ _ _ h => h) (Or.inl ⟨by rfl, ?_⟩) (by assumption) ?_
          rotate_left
          · (intro w' hSw; go_simp; try with_reducible rfl)
          try simp only [Act.put, put8]
          refine wpAnyH_take (i := 8) (v := ?_) rfl (by kernel_rfl) (by kernel_rfl) (by kernel_rfl) (fun _ _ _ h => h) (Or.inl ⟨by rfl, ?_⟩) (by assumption) ?_
          rotate_left
          · (intro w' hSw; go_simp; try with_reducible rfl)
          try simp only [Act.put, put8]
          refine wpAnyH_take (i := 9) (v := ?_) rfl (by kernel_rfl) (by kernel_rfl) (by kernel_rfl) (fun _ _ _ h => h) (Or.inl ⟨by rfl, ?_⟩) (by assumption) ?_
          rotate_left
          · (intro w' hSw; have y := hSw.cell g0 List.not_mem_nil; have z := hSw.cell g1 List.not_mem_nil; go_simp; try with_reducible rfl)
          try simp only [Act.put, put8]
          refine wpAnyH_take (i := 11) (v := ?_) rfl (by kernel_rfl) (by kernel_rfl) (by kernel_rfl) (fun _ _ _ h => h) (Or.inl ⟨by rfl, ?_⟩) (by assumption) ?_
          rotate_left
          · (intro w' hSw; go_simp; try with_reducible rfl)
          try simp only [Act.put, put8]
          refine wpAnyH_take (i := 12) (v := ?_) rfl (by kernel_rfl) (by kernel_rfl) (by kernel_rfl) (fun _ _ _ h => h) (Or.inl ⟨by rfl, ?_⟩) (by assumption) ?_
          rotate_left
          · (intro w' hSw; have y := hSw.cell k0 List.not_mem_nil; have z := hSw.cell k1 List.not_mem_nil; go_simp; try with_reducible rfl)
          try simp only [Act.put, put8]
          refine wpAnyH_ready (rs := [10]) (by kernel_rfl) (by simp) ?_
          refine AllReadyH.cons rfl (fun K hK => ?_) (AllReadyH.nil)
          go_simp
          refine (durable_st (HG8.out.keep0 hHc) HI.out HBS.out A5 kn c5 ks names (HRD8.out.chg hHc (fun _ _ => List.not_mem_nil)) hkn).mono ?_
          rintro ee wd ⟨Ad, nd, cd, dsd, rfl, hds, hdv, hc, hn⟩
          have HDSd := Lib.hid hds.rd
          have HDVd := Lib.hid hdv
          have HBNd := Lib.hid (hds.rd.bnd (B := 536870912) (by rw [hdv]; have h1 := siz_left HI.out ks names; have h2 := HBS1.out; omega))
          have hHd := hHc.trans0 hc
          have HCCd := Lib.hid hc
          clear hds hdv hc hn
          refine hK.out _ _ (hHd) (fun hHeld => ?_)
          try simp only [Act.put, put8]
          clear hK K
          refine wpAnyH_ready (rs := [13]) (by kernel_rfl) (by simp) ?_
          refine AllReadyH.cons rfl (fun K hK => ?_) (AllReadyH.nil)
          go_simp
          refine (rdurable_any (HR8.out.keep0 hHd) HI.out HBS1.out _ _ _ ks names (HKR8.out.chg hHd (fun _ _ => List.not_mem_nil)) hkn).mono ?_
          rintro ee we ⟨Ae, ne, ce, dse, rfl, hds, hdv, hc, hn⟩
          have HDSe := Lib.hid hds.rd
          have HDVe := Lib.hid hdv
          have HBNe := Lib.hid (hds.rd.bnd (B := 536870912) (by rw [hdv]; have h1 := siz_left HI.out ks names; have h2 := HBS1.out; omega))
          have hHe := hHd.trans0 hc
          have HCCe := Lib.hid hc
          clear hds hdv hc hn
          refine hK.out _ _ (hHe) (fun hHeld => ?_)
          try simp only [Act.put, put8]
          clear hK K
          refine wpAnyH_ready (rs := [14]) (by kernel_rfl) (by simp) ?_
          refine AllReadyH.cons rfl (fun K hK => ?_) (AllReadyH.nil)
          go_simp
          refine (same8_any _ _ _ dsd _ _ _ dse _ (HDSd.out.chg0 HCCe.out) (HDSe.out) (Nat.le_trans HBNd.out.1 (by decide)) (fun x hx => Nat.le_trans (HBNd.out.2 x hx) (by decide))).mono ?_
          rintro ee wf ⟨bb, rfl, hbb, hc⟩
          rw [hbb (by rw [HDVd.out, HDVe.out])]
          have hHf := hHe.trans0 hc
          clear hc hbb
          refine hK.out _ _ (hHf) (fun hHeld => ?_)
          try simp only [Act.put, put8]
          clear hK K
          refine wpAnyH_take (i := 15) (v := ?_) rfl (by kernel_rfl) (by kernel_rfl) (by kernel_rfl) (fun _ _ _ h => h) (Or.inl ⟨by rfl, ?_⟩) (by assumption) ?_
          rotate_left
          · (intro w' hSw; go_simp; try with_reducible rfl)
          try simp only [Act.put, put8]
          refine wpAnyH_take (i := 16) (v := ?_) rfl (by kernel_rfl) (by kernel_rfl) (by kernel_rfl) (fun _ _ _ h => h) (Or.inl ⟨by rfl, ?_⟩) (by assumption) ?_
          rotate_left
          · (intro w' hSw; go_simp; try with_reducible rfl)
          try simp only [Act.put, put8]
          refine wpAnyH_take (i := 17) (v := ?_) rfl (by kernel_rfl) (by kernel_rfl) (by kernel_rfl) (fun _ _ _ h => h) (Or.inl ⟨by rfl, ?_⟩) (by assumption) ?_
          rotate_left
          · (intro w' hSw; go_simp; try with_reducible rfl)
          try simp only [Act.put, put8]
          refine wpAnyH_take (i := 19) (v := ?_) rfl (by kernel_rfl) (by kernel_rfl) (by kernel_rfl) (fun _ _ _ h => h) (Or.inl ⟨by rfl, ?_⟩) (by assumption) ?_
          rotate_left
          · (intro w' hSw; go_simp; try with_reducible rfl)
          try simp only [Act.put, put8]
          refine wpAnyH_ready (rs := [18]) (by kernel_rfl) (by simp) ?_
          refine AllReadyH.cons rfl (fun K hK => ?_) (AllReadyH.nil)
          go_simp
          refine (view_st (HG8.out.keep0 hHf) HI.out HBS.out).mono ?_
          rintro ee wg ⟨Ag, ng, cg, dsg, rfl, hds, hdv, hc, hn⟩
          have HDSg := Lib.hid hds.rd
          have HDVg := Lib.hid hdv
          have HBNg := Lib.hid (hds.rd.bnd (B := 536870912) (by rw [hdv]; have h1 := siz_view HI.out; have h2 := HBS1.out; omega))
          have hHg := hHf.trans0 hc
          have HCCg := Lib.hid hc
          clear hds hdv hc hn
          refine hK.out _ _ (hHg) (fun hHeld => ?_)
          try simp only [Act.put, put8]
          clear hK K
          refine wpAnyH_ready (rs := [20]) (by kernel_rfl) (by simp) ?_
          refine AllReadyH.cons rfl (fun K hK => ?_) (AllReadyH.nil)
          go_simp
          refine (rview_any (HR8.out.keep0 hHg) HI.out HBS.out).mono ?_
          rintro ee wh ⟨Ah, nh, ch, dsh, rfl, hds, hdv, hc, hn⟩
          have HDSh := Lib.hid hds.rd
          have HDVh := Lib.hid hdv
          have HBNh := Lib.hid (hds.rd.bnd (B := 536870912) (by rw [hdv]; have h1 := siz_view HI.out; have h2 := HBS1.out; omega))
          have hHh := hHg.trans0 hc
          have HCCh := Lib.hid hc
          clear hds hdv hc hn
          refine hK.out _ _ (hHh) (fun hHeld => ?_)
          try simp only [Act.put, put8]
          clear hK K
          refine wpAnyH_ready (rs := [21]) (by kernel_rfl) (by simp) ?_
          refine AllReadyH.cons rfl (fun K hK => ?_) (AllReadyH.nil)
          go_simp
          refine (same8_any _ _ _ dsg _ _ _ dsh _ (HDSg.out.chg0 HCCh.out) (HDSh.out) (Nat.le_trans HBNg.out.1 (by decide)) (fun x hx => Nat.le_trans (HBNg.out.2 x hx) (by decide))).mono ?_
          rintro ee wi ⟨bb, rfl, hbb, hc⟩
          rw [hbb (by rw [HDVg.out, HDVh.out])]
          have hHi := hHh.trans0 hc
          clear hc hbb
          refine hK.out _ _ (hHi) (fun hHeld => ?_)
          try simp only [Act.put, put8]
          clear hK K
          refine wpAnyH_take (i := 22) (v := ?_) rfl (by kernel_rfl) (by kernel_rfl) (by kernel_rfl) (fun _ _ _ h => h) (Or.inl ⟨by rfl, ?_⟩) (by assumption) ?_
          rotate_left
          · (intro w' hSw; go_simp; try with_reducible rfl)
          try simp only [Act.put, put8]
          refine wpAnyH_take (i := 23) (v := ?_) rfl (by kernel_rfl) (by kernel_rfl) (by kernel_rfl) (fun _ _ _ h => h) (Or.inl ⟨by rfl, ?_⟩) (by assumption) ?_
          rotate_left
          · (intro w' hSw; go_simp; try with_reducible rfl)
          try simp only [Act.put, put8]
          refine wpAnyH_done (by kernel_rfl) ?_ _
          try simp only [Act.put, put8]
          have HFIN : Hid (Chg [] w _) := Lib.hid (((HC1.out.trans0 HCW1.out).trans0 HC8.out).trans0 hHi)
          clear hHa hHb hHc hHd hHe hHf hHg hHh hHi hHeld g0 g1 k0 k1
          go_wp2
          go_ret
          exact ⟨rfl, HFIN.out⟩
end Go.Proofs.YtgomofeidghmiaaGreat
