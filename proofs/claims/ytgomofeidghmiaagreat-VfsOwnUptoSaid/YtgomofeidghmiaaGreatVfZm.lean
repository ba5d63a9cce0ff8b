/-
  Layer 08: the walk of VfsOwn.
-/
import Derived.Test.YtgomofeidghmiaaGreatVfZk
import Derived.Test.YtgomofeidghmiaaGreatVfZj
namespace Go.Proofs.YtgomofeidghmiaaGreat
open Go.RowKit

theorem view_len {B : Nat} {S : St} (hi : Inv B S) : ∀ p ∈ S.view, ∀ q ∈ p.2, q.2.length ≤ B := by
  unfold St.view
  split
  · intro p hp; simp at hp
  · intro p hp q hq
    obtain ⟨p0, _, rfl⟩ := List.mem_map.1 hp
    obtain ⟨q0, _, rfl⟩ := List.mem_map.1 hq
    exact hi.len _
theorem left_len {B : Nat} {S : St} (hi : Inv B S) (ks : List Bool) (names : Int) : ∀ p ∈ S.left ks names, ∀ q ∈ p.2, q.2.length ≤ B := by
  intro p hp q hq
  obtain ⟨p0, _, rfl⟩ := List.mem_map.1 hp
  obtain ⟨q0, _, rfl⟩ := List.mem_map.1 hq
  exact Nat.le_trans (aft_le _ _ _ _ (Nat.le_refl _)) (hi.fil _).1
theorem DirsR.fbnd {w : World} {A : Option Addr} {n c : Nat} {ds : List DM} (h : DirsR w A n c ds) {B : Nat} (hb : ∀ p ∈ dval8 ds, ∀ q ∈ p.2, q.2.length ≤ B) : ∀ d ∈ ds, ∀ f ∈ d.2, f.1.n ≤ B := by
  intro d hd f hf
  have h1 := hb (d.1.nm, fval8 d.2) (List.mem_map.2 ⟨d, hd, rfl⟩) (f.1.nm, f.2) (List.mem_map.2 ⟨f, hf, rfl⟩)
  have h2 := ((h.fil d hd).dat f hf).1
  simp only at h1
  simp [bv] at h2
  omega

set_option maxRecDepth 100000 in
set_option maxHeartbeats 12800000 in
theorem lvown_any (A : Option Addr) (n c : Nat) (ds : List DM) (quota stop : Int) (SA : Option Addr) (sn sc : Nat) (os : List O8) (K : Option Addr) (kn kc : Nat) (ks : List Bool) (names : Int) (w : World)
    (hd : DirsR w A n c ds) (hs : Scr8 w SA sn os) (hk : Rd w 1 K kn kc (kv ks)) (hq : quota ≤ 9223372036854775807) (hB : bulk8 (dval8 ds) + opsB os + 4 ≤ 536870912) (hsn : sn ≤ 1073741824) (hkn : kn ≤ 1073741824) :
    Calls Tryz.prog 5 #[.agg #[.slice A n c, .int .i64 quota, .int .i64 stop], .slice SA sn sc, .agg #[.slice K kn kc, .int .i64 names]] w fun e w' => e = .returned (.bool true) ∧ Chg [] w w' := by
  have HD := Lib.hid hd
  have HS := Lib.hid hs
  have HB := Lib.hid hB
  have HBN := Lib.hid (bulk8_bnd hd (B := 1073741824) (by omega))
  have HL := Lib.hid hs.1
  have HK := Lib.hid hk
  clear hd hs hB hk
  go_enter Tryz.func5, Tryz.ntmps5
  obtain ⟨sb, hsb⟩ : ∃ sb, w.heap.size = sb := ⟨_, rfl⟩
  obtain ⟨fb, hfb⟩ : ∃ fb, sb + 1 = fb := ⟨_, rfl⟩
  obtain ⟨W, hW⟩ : ∃ W, (w.alloc (.cells #[.slice A n c, .int .i64 quota, .int .i64 stop] 24)).alloc (.cells #[.slice K kn kc, .int .i64 names] 52) = W := ⟨_, rfl⟩
  have hbk : Blk W sb 24 #[.slice A n c, .int .i64 quota, .int .i64 stop] := by rw [← hW, ← hsb]; exact (Blk.new w _ _).alloc _
  have hbf : Blk W fb 52 #[.slice K kn kc, .int .i64 names] := by
    have := Blk.new (w.alloc (.cells #[.slice A n c, .int .i64 quota, .int .i64 stop] 24)) 52 #[.slice K kn kc, .int .i64 names]
    rw [← hW, ← hfb, ← hsb]
    simpa using this
  have hcW : Chg [] w W := by rw [← hW]; exact ((Chg.refl [] w).alloc _).alloc _
  have HBK := Lib.hid hbk
  have HBF := Lib.hid hbf
  have HCW := Lib.hid hcW
  clear hbk hbf hcW
  go_wp2_with fail
  refine (speaks_any _).mono ?_
  rintro e w1 ⟨rfl, hc1⟩
  have HC1 : Hid (Chg [] w w1) := Lib.hid (HCW.out.trans0 hc1)
  have b0 := (HBK.out.chg hc1 List.not_mem_nil).cell 0
  have b1 := (HBK.out.chg hc1 List.not_mem_nil).cell 1
  have b2 := (HBK.out.chg hc1 List.not_mem_nil).cell 2
  simp only [List.getElem?_toArray, List.getElem?_cons_succ, List.getElem?_cons_zero] at b0 b1 b2
  have HBK1 := Lib.hid (HBK.out.chg hc1 List.not_mem_nil)
  have HBF1 := Lib.hid (HBF.out.chg hc1 List.not_mem_nil)
  clear hc1
  go_wp2_with fail
  refine (lawopen_any w1 A n c ds quota stop (HD.out.chg0 HC1.out) HBN.out.1 (by have := HB.out; omega) HBN.out.2.2.2).mono ?_
  rintro e w2 hop
  rcases hop with ⟨h0, rfl, hc⟩ | ⟨h0, G, R, rfl, hF, hR, hnG, hnR, hdis, hc⟩
  · have HC2 := Lib.hid (HC1.out.trans0 hc)
    clear h0 hc b0 b1 b2
    go_wp2
    go_ret
    exact ⟨rfl, HC2.out⟩
  ·
    have HQ0 := Lib.hid h0
    obtain ⟨S0, hS0⟩ : ∃ S0, openS (dval8 ds) quota stop = S0 := ⟨_, rfl⟩
    rw [hS0] at hF hR
    have HI0 : Hid (Inv (bulk8 (dval8 ds)) S0) := Lib.hid (by rw [← hS0]; exact inv_open h0 hq)
    have HS0 := Lib.hid hS0
    have HF2 : Hid (Bth w1 w2 G.b R.b S0 S0 []) := Lib.hid ⟨G, R, hF, hR, rfl, rfl, hnG, hnR, hdis, fun _ hx => absurd hx List.not_mem_nil, hc⟩
    have HC2 := Lib.hid (HC1.out.trans0 hc)
    have HD2 := Lib.hid (HD.out.chg0 HC2.out)
    obtain ⟨p, hp⟩ : ∃ p, G.b = p := ⟨_, rfl⟩
    obtain ⟨q, hq2⟩ : ∃ q, R.b = q := ⟨_, rfl⟩
    rw [hp, hq2] at HF2
    rw [hp, hq2]
    clear h0 hF hR hnG hnR hdis hc hp hq2 hS0 b0 b1 b2
    have HBF2 := Lib.hid (HBF1.out.chg HF2.out.chg List.not_mem_nil)
    go_wp2
    go_loopw [33] (fun z wr => ∃ i : Nat, i ≤ sn ∧ z = .int .i64 i ∧ Bth w1 wr p q (runO S0 (os.take i)) (runO S0 (os.take i)) []) (fun z _ => sn - (intOf z).toNat)
    case atStart => exact ⟨0, Nat.zero_le _, rfl, HF2.out⟩
    case round =>
      obtain ⟨i, hi, rfl, hfa⟩ := hrel
      have HFA := Lib.hid hfa
      have HCR : Hid (Chg [] w wr) := Lib.hid (HC1.out.trans0 hfa.chg)
      clear hfa
      by_cases hlt : i < sn
      ·
        have hlt' : (i : Int) < sn := by omega
        obtain ⟨o, ho⟩ : ∃ o, os[i]? = some o := ⟨_, List.getElem?_eq_getElem (by have := HL.out; omega)⟩
        obtain ⟨ad, rfl, hat, hrd⟩ := HS.out.at_ ho
        have hat2 := hat.chg HCR.out List.not_mem_nil
        have x0 := hat2.c0
        have x1 := hat2.c1
        have x2 := hat2.c2
        have x3 := hat2.c3
        have x4 := hat2.c4
        have HRD := Lib.hid hrd
        have HTK : Hid (runO S0 (os.take (i + 1)) = (callK (runO S0 (os.take i)) (kd o.kind) o.dir o.name o.dest o.data).1) := Lib.hid (by rw [take_snoc os i o ho, runO_snoc])
        have HBO : Hid (bulk8 (dval8 ds) + opsB (os.take i) + o.n + 4 ≤ 536870912 ∧ opsB (os.take (i + 1)) ≤ opsB os) := Lib.hid (by
          have h1 := opsB_take os (i + 1)
          have h2 := h1
          rw [take_snoc os i o ho, opsB_snoc, hrd.blen] at h2
          have h3 := HB.out
          exact ⟨by omega, h1⟩)
        have HI := Lib.hid (HI0.out.runO (os.take i))
        have HI6 := Lib.hid (HI0.out.runO (os.take (i + 1)))
        clear hat hat2 hrd ho
        obtain ⟨kind, dir, name, dest, oA, on, oc, data⟩ := o
        simp only at x0 x1 x2 x3 x4
        obtain ⟨vb, hvb⟩ : ∃ vb, wr.heap.size = vb := ⟨_, rfl⟩
        obtain ⟨W5, hW5⟩ : ∃ W5, wr.alloc (.cells #[.int .i64 kind, .string dir, .string name, .string dest, .slice oA on oc] 33) = W5 := ⟨_, rfl⟩
        have hv5 : Blk W5 vb 33 #[.int .i64 kind, .string dir, .string name, .string dest, .slice oA on oc] := by rw [← hW5, ← hvb]; exact Blk.new wr _ _
        have hc5 : Chg [] wr W5 := by rw [← hW5]; exact (Chg.refl [] wr).alloc _
        have v0 := hv5.cell 0
        have v1 := hv5.cell 1
        have v2 := hv5.cell 2
        have v3 := hv5.cell 3
        have v4 := hv5.cell 4
        simp only [List.getElem?_toArray, List.getElem?_cons_succ, List.getElem?_cons_zero] at v0 v1 v2 v3 v4
        have HF5 := Lib.hid (HFA.out.add (Y := [vb]) hc5 (fun x hx => by simp only [List.mem_singleton] at hx; subst hx; exact ⟨Nat.le_of_eq hvb, hv5.lt⟩))
        have HV5 := Lib.hid hv5
        have HC5 := Lib.hid hc5
        clear hv5 hc5
        go_wp2_with fail
        refine (HF5.out.call HI.out ⟨kind, dir, name, dest, oA, on, oc, data⟩ (HRD.out.chg HC1.out (fun _ _ => List.not_mem_nil)) (by have := HBO.out.1; simp only at this ⊢; omega)).mono ?_
        rintro e w6 ⟨dA, dn, dc, nA, nn, nc, L6, rfl, hdo, hno, hc6, hl6, hf6⟩
        have HF6 := Lib.hid hf6
        have HV6 := Lib.hid (HV5.out.chg hc6 (hl6 vb (by simp)))
        clear x0 x1 x2 x3 x4 v0 v1 v2 v3 v4 hdo hno hc6 hl6 hf6
        have v0 := HV6.out.cell 0
        have v1 := HV6.out.cell 1
        have v2 := HV6.out.cell 2
        have v3 := HV6.out.cell 3
        have v4 := HV6.out.cell 4
        simp only [List.getElem?_toArray, List.getElem?_cons_succ, List.getElem?_cons_zero] at v0 v1 v2 v3 v4
        go_wp2_with fail
        refine (HF6.out.model HI.out ⟨kind, dir, name, dest, oA, on, oc, data⟩ (HRD.out.chg HC1.out (fun _ _ => List.not_mem_nil)) (by have := HBO.out.1; simp only at this ⊢; omega)).mono ?_
        rintro e w7 ⟨dA2, dn2, dc2, nA2, nn2, nc2, L7, rfl, hdo, hno, hc7, hl7, hf7⟩
        have HF7 : Hid (Bth w1 w7 p q (runO S0 (os.take (i + 1))) (runO S0 (os.take (i + 1))) []) := Lib.hid (by rw [HTK.out]; exact hf7.sub (fun _ hx => absurd hx List.not_mem_nil))
        clear v0 v1 v2 v3 v4 hdo hno hc7 hl7 hf7
        go_wp2
        go_roundw
        case rel => exact ⟨i + 1, by omega, by go_num, HF7.out⟩
        case measure => simp [intOf]; omega
      · obtain rfl : i = sn := by omega
        have him : os.take i = os := List.take_of_length_le (by have := HL.out; omega)
        have hf0 : Bth w1 wr p q (runO S0 os) (runO S0 os) [] := by have := HFA.out; rw [him] at this; exact this
        obtain ⟨S, hS⟩ : ∃ S, runO S0 os = S := ⟨_, rfl⟩
        have hi0 := HI0.out.runO os
        rw [hS] at hi0 hf0
        have HI := Lib.hid hi0
        obtain ⟨G2, R2, hg, hr, rfl, rfl, hnG, hnR, hdis, _, hcw⟩ := hf0
        have HG := Lib.hid hg
        have HR := Lib.hid hr
        have HNG := Lib.hid hnG
        have HNR := Lib.hid hnR
        have HCW1 := Lib.hid hcw
        have HBS : Hid (bulk8 (dval8 ds) + opsB os ≤ 1073741824) := Lib.hid (by have := HB.out; omega)
        have HBS1 : Hid (bulk8 (dval8 ds) + opsB os + 1 ≤ 536870912) := Lib.hid (by have := HB.out; omega)
        clear him hi0 hS hg hr hnG hnR hdis hcw
        have HKR : Hid (Rd wr 1 K kn kc (kv ks)) := Lib.hid ((HK.out.chg HC1.out (fun _ _ => List.not_mem_nil)).chg HCW1.out (fun _ _ => List.not_mem_nil))
        go_wp2_with fail
        refine (view_st HG.out HI.out HBS.out).mono ?_
        rintro e w3 ⟨A3, n3, c3, ds3, rfl, hds, hdv, hc, hn⟩
        have HDO3 := Lib.hid hds
        have HNN3 := Lib.hid hn
        have HDV3 := Lib.hid hdv
        have HBN3 := Lib.hid (hds.rd.bnd (B := 536870912) (by rw [hdv]; have h1 := siz_view HI.out; have h2 := HBS1.out; omega))
        have HCC3 := Lib.hid hc
        clear hds hdv hc hn
        have HG3 := Lib.hid (HG.out.keep0 HCC3.out)
        go_wp2_with fail
        refine (view_st HG3.out HI.out HBS.out).mono ?_
        rintro e w4 ⟨A4, n4, c4, ds4, rfl, hds, hdv, hc, hn⟩
        have HDO4 := Lib.hid hds
        have HNN4 := Lib.hid hn
        have HDV4 := Lib.hid hdv
        have HBN4 := Lib.hid (hds.rd.bnd (B := 536870912) (by rw [hdv]; have h1 := siz_view HI.out; have h2 := HBS1.out; omega))
        have HCC4 := Lib.hid hc
        clear hds hdv hc hn
        have HC34 : Hid (Chg [] wr w4) := Lib.hid (HCC3.out.trans0 HCC4.out)
        have HG4 := Lib.hid (HG3.out.keep0 HCC4.out)
        have HKR4 : Hid (Rd w4 1 K kn kc (kv ks)) := Lib.hid (HKR.out.chg HC34.out (fun _ _ => List.not_mem_nil))
        have f0 := (HBF1.out.chg (HCW1.out.trans0 HC34.out) List.not_mem_nil).cell 0
        have f1 := (HBF1.out.chg (HCW1.out.trans0 HC34.out) List.not_mem_nil).cell 1
        simp only [List.getElem?_toArray, List.getElem?_cons_succ, List.getElem?_cons_zero] at f0 f1
        go_wp2_with fail
        refine wp_region_held_drew (S := fun w' => Chg [] w4 w') (by kernel_rfl) ((Chg.refl _ _).drew) (fun hHeld => ?_)
        refine wpAnyH_take (i := 0) (v := ?_) rfl (by kernel_rfl) (by kernel_rfl) (by kernel_rfl) (fun _ _ _ h => h) (Or.inl ⟨by rfl, ?_⟩) (by assumption) ?_
        rotate_left
        · (intro w' hSw; go_simp; try with_reducible rfl)
        try simp only [Act.put, put8]
        refine wpAnyH_take (i := 1) (v := ?_) rfl (by kernel_rfl) (by kernel_rfl) (by kernel_rfl) (fun _ _ _ h => h) (Or.inl ⟨by rfl, ?_⟩) (by assumption) ?_
        rotate_left
        · (intro w' hSw; have y := hSw.cell f0 List.not_mem_nil; have z := hSw.cell f1 List.not_mem_nil; go_simp; try with_reducible rfl)
        try simp only [Act.put, put8]
        refine wpAnyH_take (i := 3) (v := ?_) rfl (by kernel_rfl) (by kernel_rfl) (by kernel_rfl) (fun _ _ _ h => h) (Or.inl ⟨by rfl, ?_⟩) (by assumption) ?_
        rotate_left
        · (intro w' hSw; go_simp; try with_reducible rfl)
        try simp only [Act.put, put8]
        refine wpAnyH_take (i := 4) (v := ?_) rfl (by kernel_rfl) (by kernel_rfl) (by kernel_rfl) (fun _ _ _ h => h) (Or.inl ⟨by rfl, ?_⟩) (by assumption) ?_
        rotate_left
        · (intro w' hSw; have y := hSw.cell f0 List.not_mem_nil; have z := hSw.cell f1 List.not_mem_nil; go_simp; try with_reducible rfl)
        try simp only [Act.put, put8]
        refine wpAnyH_ready (rs := [2]) (by kernel_rfl) (by simp) ?_
        refine AllReadyH.cons rfl (fun K hK => ?_) (AllReadyH.nil)
        go_simp
        refine (durable_st (HG4.out.keep0 hHeld) HI.out HBS.out _ _ _ ks names (HKR4.out.chg hHeld (fun _ _ => List.not_mem_nil)) hkn).mono ?_
        rintro ee wa ⟨Aa, na, ca, dsa, rfl, hds, hdv, hc, hn⟩
        have HDSa := Lib.hid hds.rd
        have HDOa := Lib.hid hds
        have HNNa := Lib.hid hn
        have HDVa := Lib.hid hdv
        have HBNa := Lib.hid (hds.rd.bnd (B := 536870912) (by rw [hdv]; have h1 := siz_left HI.out ks names; have h2 := HBS1.out; omega))
        have hHa := hHeld.trans0 hc
        have HCCa := Lib.hid hc
        clear hds hdv hc hn
        refine hK.out _ _ (hHa) (fun hHeld => ?_)
        try simp only [Act.put, put8]
        clear hK K
        refine wpAnyH_ready (rs := [5]) (by kernel_rfl) (by simp) ?_
        refine AllReadyH.cons rfl (fun K hK => ?_) (AllReadyH.nil)
        go_simp
        refine (durable_st (HG4.out.keep0 hHa) HI.out HBS.out _ _ _ ks names (HKR4.out.chg hHa (fun _ _ => List.not_mem_nil)) hkn).mono ?_
        rintro ee wb ⟨Ab, nb, cb, dsb, rfl, hds, hdv, hc, hn⟩
        have HDSb := Lib.hid hds.rd
        have HDOb := Lib.hid hds
        have HNNb := Lib.hid hn
        have HDVb := Lib.hid hdv
        have HBNb := Lib.hid (hds.rd.bnd (B := 536870912) (by rw [hdv]; have h1 := siz_left HI.out ks names; have h2 := HBS1.out; omega))
        have hHb := hHa.trans0 hc
        have HCCb := Lib.hid hc
        clear hds hdv hc hn
        refine hK.out _ _ (hHb) (fun hHeld => ?_)
        try simp only [Act.put, put8]
        clear hK K
        refine wpAnyH_take (i := 6) (v := ?_) rfl (by kernel_rfl) (by kernel_rfl) (by kernel_rfl) (fun _ _ _ h => h) (Or.inl ⟨by rfl, ?_⟩) (by assumption) ?_
        rotate_left
        · (intro w' hSw; go_simp; try with_reducible rfl)
        try simp only [Act.put, put8]
        refine wpAnyH_take (i := 7) (v := ?_) rfl (by kernel_rfl) (by kernel_rfl) (by kernel_rfl) (fun _ _ _ h => h) (Or.inl ⟨by rfl, ?_⟩) (by assumption) ?_
        rotate_left
        · (intro w' hSw; go_simp; try with_reducible rfl)
        try simp only [Act.put, put8]
        refine wpAnyH_done (by kernel_rfl) ?_ _
        try simp only [Act.put, put8]
        have HC4B : Hid (Chg [] w4 wb) := Lib.hid hHb
        have HSZ : Hid (w4.heap.size ≤ w4.drew.heap.size ∧ w4.drew.heap.size ≤ wa.heap.size) := Lib.hid ⟨Nat.le_refl _, by have := HCCa.out.size; simpa using this⟩
        clear hHa hHb hHeld f0 f1
        have HW7 : Hid (DirsO wb A3 n3 c3 ds3) := Lib.hid ((HDO3.out.chg HCC4.out (fun _ _ => List.not_mem_nil)).chg HC4B.out (fun _ _ => List.not_mem_nil))
        go_wp2_with fail
        refine (lwreck_any A3 n3 c3 ds3 wb HW7.out HBN3.out.1 (fun x hx => ⟨HBN3.out.2 x hx, fun f hf => Nat.le_trans (HW7.out.rd.fbnd (by rw [HDV3.out]; exact view_len HI.out) x hx f hf) HBS.out⟩)).mono ?_
        rintro e w7 ⟨rfl, hc7⟩
        have HC7 := Lib.hid hc7
        have HL3 : Hid (∀ x ∈ bo A3 ++ dblk ds3, wr.heap.size ≤ x ∧ x < w3.heap.size) := Lib.hid (fun x hx => ⟨HNN3.out x hx, HDO3.out.lt x hx⟩)
        have HLa : Hid (∀ x ∈ bo Aa ++ dblk dsa, w4.heap.size ≤ x ∧ x < wa.heap.size) := Lib.hid (fun x hx => ⟨Nat.le_trans HSZ.out.1 (HNNa.out x hx), HDOa.out.lt x hx⟩)
        have HW8 : Hid (DirsO w7 Aa na ca dsa) := Lib.hid ((HDOa.out.chg HCCb.out (fun _ _ => List.not_mem_nil)).chg hc7 (fun x hx hm => by have h1 := (HLa.out x hx).1; have h2 := (HL3.out x hm).2; have h3 := HCC4.out.size; omega))
        clear hc7
        go_wp2_with fail
        refine (lwreck_any Aa na ca dsa w7 HW8.out HBNa.out.1 (fun x hx => ⟨HBNa.out.2 x hx, fun f hf => Nat.le_trans (HW8.out.rd.fbnd (by rw [HDVa.out]; exact left_len HI.out ks names) x hx f hf) HBS.out⟩)).mono ?_
        rintro e w8 ⟨rfl, hc8⟩
        have HC8 := Lib.hid hc8
        have HCR8 : Hid (Chg [] wr w8) := Lib.hid (((HC34.out.trans0 HC4B.out).trans HC7.out (fun x hx => .inr (HL3.out x hx).1)).trans hc8 (fun x hx => .inr (by have h1 := (HLa.out x hx).1; have h2 := HC34.out.size; omega)))
        have HDR4 : Hid (DirsR w8 A4 n4 c4 ds4) := Lib.hid (((HDO4.out.chg HC4B.out (fun _ _ => List.not_mem_nil)).chg HC7.out (fun x hx hm => by have h1 := HNN4.out x hx; have h2 := (HL3.out x hm).2; omega)).chg hc8 (fun x hx hm => by have h1 := HDO4.out.lt x hx; have h2 := (HLa.out x hm).1; omega)).rd
        have HDRb : Hid (DirsR w8 Ab nb cb dsb) := Lib.hid ((HDOb.out.chg HC7.out (fun x hx hm => by have h1 := HNNb.out x hx; have h2 := (HL3.out x hm).2; have h3 := HCC4.out.size; have h4 := HSZ.out; omega)).chg hc8 (fun x hx hm => by have h1 := HNNb.out x hx; have h2 := (HLa.out x hm).2; omega)).rd
        have HG8 := Lib.hid (HG.out.keep0 HCR8.out)
        have HR8 := Lib.hid (HR.out.keep0 HCR8.out)
        have HKR8 := Lib.hid (HKR.out.chg HCR8.out (fun _ _ => List.not_mem_nil))
        have k0 := (HBF1.out.chg (HCW1.out.trans0 HCR8.out) List.not_mem_nil).cell 0
        have k1 := (HBF1.out.chg (HCW1.out.trans0 HCR8.out) List.not_mem_nil).cell 1
        simp only [List.getElem?_toArray, List.getElem?_cons_succ, List.getElem?_cons_zero] at k0 k1
        clear hc8
        go_wp2_with fail
        refine wp_region_held_drew (S := fun w' => Chg [] w8 w') (by kernel_rfl) ((Chg.refl _ _).drew) (fun hHeld => ?_)
        refine wpAnyH_take (i := 0) (v := ?_) rfl (by kernel_rfl) (by kernel_rfl) (by kernel_rfl) (fun _ _ _ h => h) (Or.inl ⟨by rfl, ?_⟩) (by assumption) ?_
        rotate_left
        · (intro w' hSw; go_simp; try with_reducible rfl)
        try simp only [Act.put, put8]
        refine wpAnyH_take (i := 1) (v := ?_) rfl (by kernel_rfl) (by kernel_rfl) (by kernel_rfl) (fun _ _ _ h => h) (Or.inl ⟨by rfl, ?_⟩) (by assumption) ?_
        rotate_left
        · (intro w' hSw; go_simp; try with_reducible rfl)
        try simp only [Act.put, put8]
        refine wpAnyH_ready (rs := [2]) (by kernel_rfl) (by simp) ?_
        refine AllReadyH.cons rfl (fun K hK => ?_) (AllReadyH.nil)
        go_simp
        refine (rview_any (HR8.out.keep0 hHeld) HI.out HBS.out).mono ?_
        rintro ee wg ⟨Ag, ng, cg, dsg, rfl, hds, hdv, hc, hn⟩
        have HDSg := Lib.hid hds.rd
        have HDVg := Lib.hid hdv
        have HBNg := Lib.hid (hds.rd.bnd (B := 536870912) (by rw [hdv]; have h1 := siz_view HI.out; have h2 := HBS1.out; omega))
        have hHg := hHeld.trans0 hc
        have HCCg := Lib.hid hc
        clear hds hdv hc hn
        refine hK.out _ _ (hHg) (fun hHeld => ?_)
        try simp only [Act.put, put8]
        clear hK K
        refine wpAnyH_ready (rs := [3]) (by kernel_rfl) (by simp) ?_
        refine AllReadyH.cons rfl (fun K hK => ?_) (AllReadyH.nil)
        go_simp
        refine (same8_any _ _ _ ds4 _ _ _ dsg _ (HDR4.out.chg0 hHg) (HDSg.out) (Nat.le_trans HBN4.out.1 (by decide)) (fun x hx => Nat.le_trans (HBN4.out.2 x hx) (by decide))).mono ?_
        rintro ee wh ⟨bb, rfl, hbb, hc⟩
        rw [hbb (by rw [HDV4.out, HDVg.out])]
        have hHh := hHg.trans0 hc
        clear hc hbb
        refine hK.out _ _ (hHh) (fun hHeld => ?_)
        try simp only [Act.put, put8]
        clear hK K
        refine wpAnyH_take (i := 4) (v := ?_) rfl (by kernel_rfl) (by kernel_rfl) (by kernel_rfl) (fun _ _ _ h => h) (Or.inl ⟨by rfl, ?_⟩) (by assumption) ?_
        rotate_left
        · (intro w' hSw; go_simp; try with_reducible rfl)
        try simp only [Act.put, put8]
        refine wpAnyH_take (i := 5) (v := ?_) rfl (by kernel_rfl) (by kernel_rfl) (by kernel_rfl) (fun _ _ _ h => h) (Or.inl ⟨by rfl, ?_⟩) (by assumption) ?_
        rotate_left
        · (intro w' hSw; go_simp; try with_reducible rfl)
        try simp only [Act.put, put8]
        refine wpAnyH_take (i := 6) (v := ?_) rfl (by kernel_rfl) (by kernel_rfl) (by kernel_rfl) (fun _ _ _ h => h) (Or.inl ⟨by rfl, ?_⟩) (by assumption) ?_
        rotate_left
        · (intro w' hSw; go_simp; try with_reducible rfl)
        try simp only [Act.put, put8]
        refine wpAnyH_take (i := 7) (v := ?_) rfl (by kernel_rfl) (by kernel_rfl) (by kernel_rfl) (fun _ _ _ h => h) (Or.inl ⟨by rfl, ?_⟩) (by assumption) ?_
        rotate_left
        · (intro w' hSw; have y := hSw.cell k0 List.not_mem_nil; have z := hSw.cell k1 List.not_mem_nil; go_simp; try with_reducible rfl)
        try simp only [Act.put, put8]
        refine wpAnyH_ready (rs := [8]) (by kernel_rfl) (by simp) ?_
        refine AllReadyH.cons rfl (fun K hK => ?_) (AllReadyH.nil)
        go_simp
        refine (rdurable_any (HR8.out.keep0 hHh) HI.out HBS1.out _ _ _ ks names (HKR8.out.chg hHh (fun _ _ => List.not_mem_nil)) hkn).mono ?_
        rintro ee wi ⟨Ai, ni, ci, dsi, rfl, hds, hdv, hc, hn⟩
        have HDSi := Lib.hid hds.rd
        have HDVi := Lib.hid hdv
        have HBNi := Lib.hid (hds.rd.bnd (B := 536870912) (by rw [hdv]; have h1 := siz_left HI.out ks names; have h2 := HBS1.out; omega))
        have hHi := hHh.trans0 hc
        have HCCi := Lib.hid hc
        clear hds hdv hc hn
        refine hK.out _ _ (hHi) (fun hHeld => ?_)
        try simp only [Act.put, put8]
        clear hK K
        refine wpAnyH_ready (rs := [9]) (by kernel_rfl) (by simp) ?_
        refine AllReadyH.cons rfl (fun K hK => ?_) (AllReadyH.nil)
        go_simp
        refine (same8_any _ _ _ dsb _ _ _ dsi _ (HDRb.out.chg0 hHi) (HDSi.out) (Nat.le_trans HBNb.out.1 (by decide)) (fun x hx => Nat.le_trans (HBNb.out.2 x hx) (by decide))).mono ?_
        rintro ee wj ⟨bb, rfl, hbb, hc⟩
        rw [hbb (by rw [HDVb.out, HDVi.out])]
        have hHj := hHi.trans0 hc
        clear hc hbb
        refine hK.out _ _ (hHj) (fun hHeld => ?_)
        try simp only [Act.put, put8]
        clear hK K
        refine wpAnyH_take (i := 10) (v := ?_) rfl (by kernel_rfl) (by kernel_rfl) (by kernel_rfl) (fun _ _ _ h => h) (Or.inl ⟨by rfl, ?_⟩) (by assumption) ?_
        rotate_left
        · (intro w' hSw; go_simp; try with_reducible rfl)
        try simp only [Act.put, put8]
        refine wpAnyH_take (i := 11) (v := ?_) rfl (by kernel_rfl) (by kernel_rfl) (by kernel_rfl) (fun _ _ _ h => h) (Or.inl ⟨by rfl, ?_⟩) (by assumption) ?_
        rotate_left
        · (intro w' hSw; go_simp; try with_reducible rfl)
        try simp only [Act.put, put8]
        refine wpAnyH_take (i := 12) (v := ?_) rfl (by kernel_rfl) (by kernel_rfl) (by kernel_rfl) (fun _ _ _ h => h) (Or.inl ⟨by rfl, ?_⟩) (by assumption) ?_
        rotate_left
        · (intro w' hSw; go_simp; try with_reducible rfl)
        try simp only [Act.put, put8]
        refine wpAnyH_take (i := 14) (v := ?_) rfl (by kernel_rfl) (by kernel_rfl) (by kernel_rfl) (fun _ _ _ h => h) (Or.inl ⟨by rfl, ?_⟩) (by assumption) ?_
        rotate_left
        · (intro w' hSw; go_simp; try with_reducible rfl)
        try simp only [Act.put, put8]
        refine wpAnyH_ready (rs := [13]) (by kernel_rfl) (by simp) ?_
        refine AllReadyH.cons rfl (fun K hK => ?_) (AllReadyH.nil)
        go_simp
        refine (view_st (HG8.out.keep0 hHj) HI.out HBS.out).mono ?_
        rintro ee wk ⟨Ak, nk, ck, dsk, rfl, hds, hdv, hc, hn⟩
        have HDSk := Lib.hid hds.rd
        have HDVk := Lib.hid hdv
        have HBNk := Lib.hid (hds.rd.bnd (B := 536870912) (by rw [hdv]; have h1 := siz_view HI.out; have h2 := HBS1.out; omega))
        have hHk := hHj.trans0 hc
        have HCCk := Lib.hid hc
        clear hds hdv hc hn
        refine hK.out _ _ (hHk) (fun hHeld => ?_)
        try simp only [Act.put, put8]
        clear hK K
        refine wpAnyH_ready (rs := [15]) (by kernel_rfl) (by simp) ?_
        refine AllReadyH.cons rfl (fun K hK => ?_) (AllReadyH.nil)
        go_simp
        refine (rview_any (HR8.out.keep0 hHk) HI.out HBS.out).mono ?_
        rintro ee wl ⟨Al, nl, cl, dsl, rfl, hds, hdv, hc, hn⟩
        have HDSl := Lib.hid hds.rd
        have HDVl := Lib.hid hdv
        have HBNl := Lib.hid (hds.rd.bnd (B := 536870912) (by rw [hdv]; have h1 := siz_view HI.out; have h2 := HBS1.out; omega))
        have hHl := hHk.trans0 hc
        have HCCl := Lib.hid hc
        clear hds hdv hc hn
        refine hK.out _ _ (hHl) (fun hHeld => ?_)
        try simp only [Act.put, put8]
        clear hK K
        refine wpAnyH_ready (rs := [16]) (by kernel_rfl) (by simp) ?_
        refine AllReadyH.cons rfl (fun K hK => ?_) (AllReadyH.nil)
        go_simp
        refine (same8_any _ _ _ dsk _ _ _ dsl _ (HDSk.out.chg0 HCCl.out) (HDSl.out) (Nat.le_trans HBNk.out.1 (by decide)) (fun x hx => Nat.le_trans (HBNk.out.2 x hx) (by decide))).mono ?_
        rintro ee wm ⟨bb, rfl, hbb, hc⟩
        rw [hbb (by rw [HDVk.out, HDVl.out])]
        have hHm := hHl.trans0 hc
        clear hc hbb
        refine hK.out _ _ (hHm) (fun hHeld => ?_)
        try simp only [Act.put, put8]
        clear hK K
        refine wpAnyH_take (i := 17) (v := ?_) rfl (by kernel_rfl) (by kernel_rfl) (by kernel_rfl) (fun _ _ _ h => h) (Or.inl ⟨by rfl, ?_⟩) (by assumption) ?_
        rotate_left
        · (intro w' hSw; go_simp; try with_reducible rfl)
        try simp only [Act.put, put8]
        refine wpAnyH_take (i := 18) (v := ?_) rfl (by kernel_rfl) (by kernel_rfl) (by kernel_rfl) (fun _ _ _ h => h) (Or.inl ⟨by rfl, ?_⟩) (by assumption) ?_
        rotate_left
        · (intro w' hSw; go_simp; try with_reducible rfl)
        try simp only [Act.put, put8]
        refine wpAnyH_take (i := 19) (v := ?_) rfl (by kernel_rfl) (by kernel_rfl) (by kernel_rfl) (fun _ _ _ h => h) (Or.inl ⟨by rfl, ?_⟩) (by assumption) ?_
        rotate_left
        · (intro w' hSw; go_simp; try with_reducible rfl)
        try simp only [Act.put, put8]
        refine wpAnyH_take (i := 20) (v := ?_) rfl (by kernel_rfl) (by kernel_rfl) (by kernel_rfl) (fun _ _ _ h => h) (Or.inl ⟨by rfl, ?_⟩) (by assumption) ?_
        rotate_left
        · (intro w' hSw; have y := hSw.cell k0 List.not_mem_nil; have z := hSw.cell k1 List.not_mem_nil; go_simp; try with_reducible rfl)
        try simp only [Act.put, put8]
        refine wpAnyH_take (i := 22) (v := ?_) rfl (by kernel_rfl) (by kernel_rfl) (by kernel_rfl) (fun _ _ _ h => h) (Or.inl ⟨by rfl, ?_⟩) (by assumption) ?_
        rotate_left
        · (intro w' hSw; go_simp; try with_reducible rfl)
        try simp only [Act.put, put8]
        refine wpAnyH_take (i := 23) (v := ?_) rfl (by kernel_rfl) (by kernel_rfl) (by kernel_rfl) (fun _ _ _ h => h) (Or.inl ⟨by rfl, ?_⟩) (by assumption) ?_
        rotate_left
        · (intro w' hSw; have y := hSw.cell k0 List.not_mem_nil; have z := hSw.cell k1 List.not_mem_nil; go_simp; try with_reducible rfl)
        try simp only [Act.put, put8]
        refine wpAnyH_ready (rs := [21]) (by kernel_rfl) (by simp) ?_
        refine AllReadyH.cons rfl (fun K hK => ?_) (AllReadyH.nil)
        go_simp
        refine (durable_st (HG8.out.keep0 hHm) HI.out HBS.out _ _ _ ks names (HKR8.out.chg hHm (fun _ _ => List.not_mem_nil)) hkn).mono ?_
        rintro ee wn ⟨An, nn, cn, dsn, rfl, hds, hdv, hc, hn⟩
        have HDSn := Lib.hid hds.rd
        have HDVn := Lib.hid hdv
        have HBNn := Lib.hid (hds.rd.bnd (B := 536870912) (by rw [hdv]; have h1 := siz_left HI.out ks names; have h2 := HBS1.out; omega))
        have hHn := hHm.trans0 hc
        have HCCn := Lib.hid hc
        clear hds hdv hc hn
        refine hK.out _ _ (hHn) (fun hHeld => ?_)
        try simp only [Act.put, put8]
        clear hK K
        refine wpAnyH_ready (rs := [24]) (by kernel_rfl) (by simp) ?_
        refine AllReadyH.cons rfl (fun K hK => ?_) (AllReadyH.nil)
        go_simp
        refine (rdurable_any (HR8.out.keep0 hHn) HI.out HBS1.out _ _ _ ks names (HKR8.out.chg hHn (fun _ _ => List.not_mem_nil)) hkn).mono ?_
        rintro ee wo ⟨Ao, no, co, dso, rfl, hds, hdv, hc, hn⟩
        have HDSo := Lib.hid hds.rd
        have HDVo := Lib.hid hdv
        have HBNo := Lib.hid (hds.rd.bnd (B := 536870912) (by rw [hdv]; have h1 := siz_left HI.out ks names; have h2 := HBS1.out; omega))
        have hHo := hHn.trans0 hc
        have HCCo := Lib.hid hc
        clear hds hdv hc hn
        refine hK.out _ _ (hHo) (fun hHeld => ?_)
        try simp only [Act.put, put8]
        clear hK K
        refine wpAnyH_ready (rs := [25]) (by kernel_rfl) (by simp) ?_
        refine AllReadyH.cons rfl (fun K hK => ?_) (AllReadyH.nil)
        go_simp
        refine (same8_any _ _ _ dsn _ _ _ dso _ (HDSn.out.chg0 HCCo.out) (HDSo.out) (Nat.le_trans HBNn.out.1 (by decide)) (fun x hx => Nat.le_trans (HBNn.out.2 x hx) (by decide))).mono ?_
        rintro ee wp ⟨bb, rfl, hbb, hc⟩
        rw [hbb (by rw [HDVn.out, HDVo.out])]
        have hHp := hHo.trans0 hc
        clear hc hbb
        refine hK.out _ _ (hHp) (fun hHeld => ?_)
        try simp only [Act.put, put8]
        clear hK K
        refine wpAnyH_take (i := 26) (v := ?_) rfl (by kernel_rfl) (by kernel_rfl) (by kernel_rfl) (fun _ _ _ h => h) (Or.inl ⟨by rfl, ?_⟩) (by assumption) ?_
        rotate_left
        · (intro w' hSw; go_simp; try with_reducible rfl)
        try simp only [Act.put, put8]
        refine wpAnyH_take (i := 27) (v := ?_) rfl (by kernel_rfl) (by kernel_rfl) (by kernel_rfl) (fun _ _ _ h => h) (Or.inl ⟨by rfl, ?_⟩) (by assumption) ?_
        rotate_left
        · (intro w' hSw; go_simp; try with_reducible rfl)
        try simp only [Act.put, put8]
        refine wpAnyH_done (by kernel_rfl) ?_ _
        try simp only [Act.put, put8]
        have HFIN : Hid (Chg [] w _) := Lib.hid (((HC1.out.trans0 HCW1.out).trans0 HCR8.out).trans0 hHp)
        clear hHg hHh hHi hHj hHk hHl hHm hHn hHo hHp hHeld k0 k1
        go_wp2
        go_ret
        exact ⟨rfl, HFIN.out⟩
end Go.Proofs.YtgomofeidghmiaaGreat
