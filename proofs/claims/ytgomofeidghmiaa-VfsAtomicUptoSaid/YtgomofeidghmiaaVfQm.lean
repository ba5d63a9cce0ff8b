/-
  Layer 08: the walk of VfsAtomic.
-/
import Derived.Test.YtgomofeidghmiaaVfJf
namespace Go.Proofs.Ytgomofeidghmiaa
open Go.RowKit

set_option maxRecDepth 100000 in
set_option maxHeartbeats 6400000 in
theorem lvatomic_any (A : Option Addr) (n c : Nat) (ds : List DM) (SA : Option Addr) (sn sc : Nat) (os : List O8) (a b : ByteArray) (K : Option Addr) (kn kc : Nat) (ks : List Bool) (names : Int) (w : World)
    (hd : DirsR w A n c ds) (hs : Scr8 w SA sn os) (hk : Rd w 1 K kn kc (kv ks)) (hB : 2 * (bulk8 (dval8 ds) + opsB os) + 4 ≤ 1073741824) (hsn : sn ≤ 1073741824) (hkn : kn ≤ 1073741824) :
    Calls Try.prog 7 #[.slice A n c, .slice SA sn sc, .agg #[.string a, .string b, .slice K kn kc, .int .i64 names]] w fun e w' => e = .returned (.bool true) ∧ Chg [] w w' := by
  have hq : (1099511627776 : Int) ≤ 9223372036854775807 := by decide
  have HD := Lib.hid hd
  have HS := Lib.hid hs
  have HB := Lib.hid hB
  have HBN := Lib.hid (bulk8_bnd hd (B := 1073741824) (by omega))
  have HL := Lib.hid hs.1
  have HK := Lib.hid hk
  clear hd hs hB hk
  go_enter Try.func7, Try.ntmps7
  obtain ⟨mb, hmb⟩ : ∃ mb, w.heap.size = mb := ⟨_, rfl⟩
  obtain ⟨W, hW⟩ : ∃ W, w.alloc (.cells #[.string a, .string b, .slice K kn kc, .int .i64 names] 61) = W := ⟨_, rfl⟩
  have hbk : Blk W mb 61 #[.string a, .string b, .slice K kn kc, .int .i64 names] := by rw [← hW, ← hmb]; exact Blk.new w _ _
  have hcW : Chg [] w W := by rw [← hW]; exact (Chg.refl [] w).alloc _
  have HBK := Lib.hid hbk
  have HCW := Lib.hid hcW
  clear hbk hcW
  go_wp2_with fail
  refine (speaks_any _).mono ?_
  rintro e w0 ⟨rfl, hc1⟩
  have HC0 : Hid (Chg [] w w0) := Lib.hid (HCW.out.trans0 hc1)
  have b0 := (HBK.out.chg hc1 List.not_mem_nil).cell 0
  have b1 := (HBK.out.chg hc1 List.not_mem_nil).cell 1
  have b2 := (HBK.out.chg hc1 List.not_mem_nil).cell 2
  have b3 := (HBK.out.chg hc1 List.not_mem_nil).cell 3
  simp only [List.getElem?_toArray, List.getElem?_cons_succ, List.getElem?_cons_zero] at b0 b1 b2 b3
  clear hc1
  obtain ⟨fb, hfb⟩ : ∃ fb, w0.heap.size = fb := ⟨_, rfl⟩
  obtain ⟨w1, hw1⟩ : ∃ w1, (w0.alloc (.cells #[.slice K kn kc, .int .i64 names] 46)).drew = w1 := ⟨_, rfl⟩
  have hbf : Blk w1 fb 46 #[.slice K kn kc, .int .i64 names] := by rw [← hw1, ← hfb]; exact (Blk.new w0 _ _).drew
  have HBF1 := Lib.hid hbf
  have HC1 : Hid (Chg [] w w1) := Lib.hid (by rw [← hw1]; exact (HC0.out.alloc _).drew)
  have HC01 : Hid (Chg [] w0 w1) := Lib.hid (by rw [← hw1]; exact ((Chg.refl _ _).alloc _).drew)
  clear hbf
  go_wp2_with fail
  refine wp_region_held_drew (S := fun w' => Chg [] w0 w') (by kernel_rfl) ((Chg.refl _ _).drew) (fun hHeld => ?_)
  refine wpAnyH_take (i := 0) (v := ?_) rfl (by kernel_rfl) (by kernel_rfl) (by kernel_rfl) (fun _ _ _ h => h) (Or.inl ⟨by rfl, ?_⟩) (by assumption) ?_
  rotate_left
  · (intro w' hSw; go_simp; try with_reducible rfl)
  try simp only [Act.put, List.getElem_toArray, List.getElem_cons_zero, List.setIfInBounds_toArray, List.set_cons_zero, List.set_cons_succ]
  refine wpAnyH_take (i := 1) (v := ?_) rfl (by kernel_rfl) (by kernel_rfl) (by kernel_rfl) (fun _ _ _ h => h) (Or.inl ⟨by rfl, ?_⟩) (by assumption) ?_
  rotate_left
  · (intro w' hSw; have y := hSw.cell b0 List.not_mem_nil; go_simp; try with_reducible rfl)
  try simp only [Act.put, List.getElem_toArray, List.getElem_cons_zero, List.getElem_cons_succ, List.setIfInBounds_toArray, List.set_cons_zero, List.set_cons_succ]
  refine wpAnyH_take (i := 2) (v := ?_) rfl (by kernel_rfl) (by kernel_rfl) (by kernel_rfl) (fun _ _ _ h => h) (Or.inl ⟨by rfl, ?_⟩) (by assumption) ?_
  rotate_left
  · (intro w' hSw; go_simp; try with_reducible rfl)
  try simp only [Act.put, List.getElem_toArray, List.getElem_cons_zero, List.getElem_cons_succ, List.setIfInBounds_toArray, List.set_cons_zero, List.set_cons_succ]
  refine wpAnyH_take (i := 3) (v := ?_) rfl (by kernel_rfl) (by kernel_rfl) (by kernel_rfl) (fun _ _ _ h => h) (Or.inl ⟨by rfl, ?_⟩) (by assumption) ?_
  rotate_left
  · (intro w' hSw; have y := hSw.cell b1 List.not_mem_nil; go_simp; try with_reducible rfl)
  try simp only [Act.put, List.getElem_toArray, List.getElem_cons_zero, List.getElem_cons_succ, List.setIfInBounds_toArray, List.set_cons_zero, List.set_cons_succ]
  refine wpAnyH_take (i := 4) (v := ?_) rfl (by kernel_rfl) (by kernel_rfl) (by kernel_rfl) (fun _ _ _ h => h) (Or.inl ⟨by rfl, ?_⟩) (by assumption) ?_
  rotate_left
  · (intro w' hSw; go_simp; try with_reducible rfl)
  try simp only [Act.put, List.getElem_toArray, List.getElem_cons_zero, List.getElem_cons_succ, List.setIfInBounds_toArray, List.set_cons_zero, List.set_cons_succ]
  refine wpAnyH_take (i := 5) (v := ?_) rfl (by kernel_rfl) (by kernel_rfl) (by kernel_rfl) (fun _ _ _ h => h) (Or.inl ⟨by rfl, ?_⟩) (by assumption) ?_
  rotate_left
  · (intro w' hSw; have y := hSw.cell b2 List.not_mem_nil; have z := hSw.cell b3 List.not_mem_nil; go_simp; try with_reducible rfl)
  try simp only [Act.put, List.getElem_toArray, List.getElem_cons_zero, List.getElem_cons_succ, List.setIfInBounds_toArray, List.set_cons_zero, List.set_cons_succ]
  refine wpAnyH_ready (rs := [6]) (by kernel_rfl) (by simp) ?_
  refine AllReadyH.cons rfl (fun K hK => ?_) (AllReadyH.nil)
  go_simp
  have hHa := hHeld.alloc (.cells #[.slice none 0 0, .int .i64 0] 46)
  refine hK.out _ _ (hHa) (fun hHeld => ?_)
  try simp only [Act.put, List.getElem_toArray, List.getElem_cons_zero, List.getElem_cons_succ, List.setIfInBounds_toArray, List.set_cons_zero, List.set_cons_succ]
  clear hK K
  refine wpAnyH_take (i := 7) (v := ?_) rfl (by kernel_rfl) (by kernel_rfl) (by kernel_rfl) (fun _ _ _ h => h) (Or.inl ⟨by rfl, ?_⟩) (by assumption) ?_
  rotate_left
  · (intro w' hSw; go_simp; try with_reducible rfl)
  try simp only [Act.put, List.getElem_toArray, List.getElem_cons_zero, List.getElem_cons_succ, List.setIfInBounds_toArray, List.set_cons_zero, List.set_cons_succ]
  refine wpAnyH_take (i := 8) (v := ?_) rfl (by kernel_rfl) (by kernel_rfl) (by kernel_rfl) (fun _ _ _ h => h) (Or.inl ⟨by rfl, ?_⟩) (by assumption) ?_
  rotate_left
  · (intro w' hSw; go_simp; try with_reducible rfl)
  try simp only [Act.put, List.getElem_toArray, List.getElem_cons_zero, List.getElem_cons_succ, List.setIfInBounds_toArray, List.set_cons_zero, List.set_cons_succ]
  refine wpAnyH_ready (rs := [9]) (by kernel_rfl) (by simp) ?_
  refine AllReadyH.cons rfl (fun K hK => ?_) (AllReadyH.nil)
  go_simp
  refine hK.out _ _ (HC01.out) (fun hHeld => ?_)
  try simp only [Act.put, List.getElem_toArray, List.getElem_cons_zero, List.getElem_cons_succ, List.setIfInBounds_toArray, List.set_cons_zero, List.set_cons_succ]
  clear hK K
  refine wpAnyH_done (by kernel_rfl) ?_ _
  try simp only [Act.put, List.getElem_toArray, List.getElem_cons_zero, List.getElem_cons_succ, List.setIfInBounds_toArray, List.set_cons_zero, List.set_cons_succ]
  clear b0 b1 b2 b3 hHeld hHa hw1
  go_wp2_with fail
  refine (lawopen_any w1 A n c ds 1099511627776 (-1) (HD.out.chg0 HC1.out) HBN.out.1 (by have := HB.out; omega) HBN.out.2.2.2).mono ?_
  rintro e w2 hop
  rcases hop with ⟨h0, rfl, hc⟩ | ⟨h0, G, R, rfl, hF, hR, hnG, hnR, hdis, hc⟩
  · have HC2 := Lib.hid (HC1.out.trans0 hc)
    clear h0 hc
    go_wp2
    go_ret
    exact ⟨rfl, HC2.out⟩
  ·
    have HQ0 := Lib.hid h0
    obtain ⟨S0, hS0⟩ : ∃ S0, openS (dval8 ds) (1099511627776) (-1) = S0 := ⟨_, rfl⟩
    rw [hS0] at hF
    have HI0 : Hid (Inv (bulk8 (dval8 ds)) S0) := Lib.hid (by rw [← hS0]; exact inv_open h0 hq)
    have HS0 := Lib.hid hS0
    have HF2 : Hid (FsAt w1 w2 G.b S0) := Lib.hid (.opened hF hnG (Chg.refl _ _) hc)
    have HC2 := Lib.hid (HC1.out.trans0 hc)
    have HD2 := Lib.hid (HD.out.chg0 HC2.out)
    obtain ⟨p, hp⟩ : ∃ p, G.b = p := ⟨_, rfl⟩
    rw [hp] at HF2 ⊢
    clear h0 hF hR hnG hnR hdis hc hp hS0
    go_wp2
    go_loopw [46] (fun z wr => ∃ i : Nat, i ≤ sn ∧ z = .int .i64 i ∧ FsAt w1 wr p (runO S0 (os.take i))) (fun z _ => sn - (intOf z).toNat)
    case atStart => exact ⟨0, Nat.zero_le _, rfl, HF2.out⟩
    case round =>
      obtain ⟨i, hi, rfl, hfa⟩ := hrel
      have HFA := Lib.hid hfa
      have HCR : Hid (Chg [] w wr) := Lib.hid (HC1.out.trans0 hfa.chg)
      clear hfa
      by_cases hlt : i < sn
      ·
        have hlt' : (i : Int) < sn := by omega
        obtain ⟨o, ho⟩ : ∃ o, os[i]? = some o := ⟨_, List.getElem?_eq_getElem (by have := HL.out; omega)⟩
        obtain ⟨ad, rfl, hat, hrd⟩ := HS.out.at_ ho
        have hat2 := hat.chg HCR.out List.not_mem_nil
        have x0 := hat2.c0
        have x1 := hat2.c1
        have x2 := hat2.c2
        have x3 := hat2.c3
        have x4 := hat2.c4
        have HRD := Lib.hid hrd
        have HTK : Hid (runO S0 (os.take (i + 1)) = (callK (runO S0 (os.take i)) (kd o.kind) o.dir o.name o.dest o.data).1) := Lib.hid (by rw [take_snoc os i o ho, runO_snoc])
        have HBO : Hid (bulk8 (dval8 ds) + opsB (os.take i) + o.n + 4 ≤ 1073741824 ∧ opsB (os.take (i + 1)) ≤ opsB os) := Lib.hid (by
          have h1 := opsB_take os (i + 1)
          have h2 := h1
          rw [take_snoc os i o ho, opsB_snoc, hrd.blen] at h2
          have h3 := HB.out
          exact ⟨by omega, h1⟩)
        have HI := Lib.hid (HI0.out.runO (os.take i))
        have HI6 := Lib.hid (HI0.out.runO (os.take (i + 1)))
        clear hat hat2 hrd ho
        obtain ⟨kind, dir, name, dest, oA, on, oc, data⟩ := o
        simp only at x0 x1 x2 x3 x4
        obtain ⟨vb, hvb⟩ : ∃ vb, wr.heap.size = vb := ⟨_, rfl⟩
        obtain ⟨W5, hW5⟩ : ∃ W5, wr.alloc (.cells #[.int .i64 kind, .string dir, .string name, .string dest, .slice oA on oc] 53) = W5 := ⟨_, rfl⟩
        have hv5 : Blk W5 vb 53 #[.int .i64 kind, .string dir, .string name, .string dest, .slice oA on oc] := by rw [← hW5, ← hvb]; exact Blk.new wr _ _
        have hc5 : Chg [] wr W5 := by rw [← hW5]; exact (Chg.refl [] wr).alloc _
        have v0 := hv5.cell 0
        have v1 := hv5.cell 1
        have v2 := hv5.cell 2
        have v3 := hv5.cell 3
        have v4 := hv5.cell 4
        simp only [List.getElem?_toArray, List.getElem?_cons_succ, List.getElem?_cons_zero] at v0 v1 v2 v3 v4
        have HF5 := Lib.hid (HFA.out.keep0 hc5)
        have HV5 := Lib.hid hv5
        have HC5 := Lib.hid hc5
        clear hv5 hc5
        go_wp2_with fail
        refine (HF5.out.call HI.out ⟨kind, dir, name, dest, oA, on, oc, data⟩ (HRD.out.chg HC1.out (fun _ _ => List.not_mem_nil)) (by have := HBO.out.1; simp only at this ⊢; omega)).mono ?_
        rintro e w6 ⟨dA, dn, dc, nA, nn, nc, rfl, hdo, hno, hnw, hf6⟩
        have HF6 : Hid (FsAt w1 w6 p (runO S0 (os.take (i + 1)))) := Lib.hid (by rw [HTK.out]; exact hf6)
        clear x0 x1 x2 x3 x4 v0 v1 v2 v3 v4 hdo hno hnw hf6
        go_wp2
        go_roundw
        case rel => exact ⟨i + 1, by omega, by go_num, HF6.out⟩
        case measure => simp [intOf]; omega
      · obtain rfl : i = sn := by omega
        have him : os.take i = os := List.take_of_length_le (by have := HL.out; omega)
        have hst0 : (runO S0 os).stop < 0 := by rw [runO_stop, ← HS0.out]; exact (by decide : (-1 : Int) < 0)
        have HIS0 := HI0.out.runO os
        have HFS0 : FsAt w1 wr p (runO S0 os) := by have := HFA.out; rw [him] at this; exact this
        obtain ⟨S, hS⟩ : ∃ S, runO S0 os = S := ⟨_, rfl⟩
        rw [hS] at hst0 HIS0 HFS0
        have HIS := Lib.hid HIS0
        have HFS := Lib.hid HFS0
        have hcv := cnt8_view HIS0
        have HSO := Lib.hid (settle_ok hst0 HIS0)
        have HBB : Hid (bulk8 (dval8 ds) + opsB os + cnt8 S.view + 4 ≤ 1073741824) := Lib.hid (by have h2 := HB.out; omega)
        have HI2 := Lib.hid HIS0.settle
        clear him hst0 HIS0 HFS0 hS hcv
        obtain ⟨S2, hS2⟩ : ∃ S2, (settleS S).1 = S2 := ⟨_, rfl⟩
        have HS2 := Lib.hid hS2
        rw [hS2] at HSO HI2
        clear hS2
        go_wp2_with fail
        refine (HFS.out.settle HIS.out (by have := HBB.out; omega)).mono ?_
        rintro e w4 ⟨rfl, hf4⟩
        rw [HSO.out.1]
        rw [HS2.out] at hf4
        have HF4 := Lib.hid hf4
        clear hf4
        obtain ⟨G2, hM, hb2, hn2, hcw⟩ := HF4.out
        have HM := Lib.hid hM
        have HGB := Lib.hid hb2
        have HN2 := Lib.hid hn2
        have HCW1 := Lib.hid hcw
        clear hM hb2 hn2 hcw
        go_wp2_with fail
        refine (FsTo.of_view HM.out HGB.out HI2.out (by have := HBB.out; omega)).mono ?_
        rintro e w5 ⟨⟨A5, n5, c5, ds5, rfl, hds, hdv, hc, hn⟩, hto, _⟩
        have HDS5 := Lib.hid hds.rd
        have HDV5 := Lib.hid hdv
        have HBN5 := Lib.hid (hds.rd.bnd (B := 1073741824) (by rw [hdv]; exact Nat.le_trans (siz_view HI2.out) (by have := HBB.out; omega)))
        have HCC5 := Lib.hid hc
        have HF5 := Lib.hid hto
        have HNE5 : Hid (∀ x ∈ bo A5 ++ dblk ds5, x ∉ G2.all) := Lib.hid (fun x hx hm => by have h1 := hn x hx; have h2 := HM.out.lt x hm; omega)
        clear hds hdv hc hn hto
        have HLN5 : Hid (ds5.length = n5) := Lib.hid (by have := HDS5.out.row.nsl; simpa [dnsl] using this)
        have hn5 : n5 ≤ 1073741824 := HBN5.out.1
        go_wp2
        go_loopw [16, 61] (fun t z wr => ∃ j : Nat, j ≤ n5 ∧ z = .int .i64 j ∧ t = .bool (thereB ((dval8 ds5).take j) a) ∧ Chg [] w5 wr) (fun _ z _ => n5 - (intOf z).toNat)
        case atStart => exact ⟨0, Nat.zero_le _, rfl, rfl, Chg.refl _ _⟩
        case round =>
          obtain ⟨j, hj, rfl, rfl, hcj⟩ := hrel
          have HCJ := Lib.hid hcj
          clear hcj
          obtain ⟨tb, htb⟩ : ∃ tb, thereB ((dval8 ds5).take j) a = tb := ⟨_, rfl⟩
          rw [htb]
          have HTB := Lib.hid htb
          clear htb
          by_cases hjl : j < n5
          · have hjl' : (j : Int) < n5 := by omega
            obtain ⟨d, hd⟩ : ∃ d, ds5[j]? = some d := ⟨_, List.getElem?_eq_getElem (by have := HLN5.out; omega)⟩
            obtain ⟨⟨dnm, dA, dn, dc⟩, dfs⟩ := d
            obtain ⟨ad, rfl, hat⟩ := (HDS5.out.chg0 HCJ.out).row.ns (j := j) (x := ⟨dnm, dA, dn, dc⟩) (by unfold dnsl; rw [List.getElem?_map, hd]; rfl)
            have x0 := hat.c0
            have x1 := hat.c1
            obtain ⟨cb, hcb⟩ : ∃ cb, (dnm.toList == a.toList) = cb := ⟨_, rfl⟩
            have HTS : Hid (thereB ((dval8 ds5).take (j + 1)) a = (tb || cb)) := Lib.hid (by
              have h1 : (dval8 ds5)[j]? = some (dnm, fval8 dfs) := by unfold dval8; rw [List.getElem?_map, hd]; rfl
              rw [take_snoc _ _ _ h1, thereB_snoc, HTB.out, ← hcb, str_beq])
            clear hd hat
            obtain ⟨vb, hvb⟩ : ∃ vb, wr.heap.size = vb := ⟨_, rfl⟩
            obtain ⟨W6, hW6⟩ : ∃ W6, wr.alloc (.cells #[.string dnm, .slice dA dn dc] 38) = W6 := ⟨_, rfl⟩
            have hv6 : Blk W6 vb 38 #[.string dnm, .slice dA dn dc] := by rw [← hW6, ← hvb]; exact Blk.new wr _ _
            have HC6 : Hid (Chg [] wr W6) := Lib.hid (by rw [← hW6]; exact (Chg.refl [] wr).alloc _)
            have v0 := hv6.cell 0
            simp only [List.getElem?_toArray, List.getElem?_cons_succ, List.getElem?_cons_zero] at v0
            clear hv6
            cases tb
            all_goals
              go_wp2
              go_roundw
              case rel => exact ⟨j + 1, by omega, by go_num, by rw [HTS.out]; simp, HCJ.out.trans0 HC6.out⟩
              case measure => simp [intOf]; omega
          · obtain rfl : j = n5 := by omega
            have htk : (dval8 ds5).take j = dval8 ds5 := List.take_of_length_le (by simp only [dval8, List.length_map]; have := HLN5.out; omega)
            have HTH : Hid (thereB S2.view a = tb) := Lib.hid (by rw [← HDV5.out, ← htk]; exact HTB.out)
            have HF6 := Lib.hid (HF5.out.keep0 HCJ.out)
            clear htk
            obtain ⟨S3, hS3⟩ : ∃ S3, (S2.rename a b).1 = S3 := ⟨_, rfl⟩
            obtain ⟨rc, hrc⟩ : ∃ rc, (S2.rename a b).2 = rc := ⟨_, rfl⟩
            have HI3 : Hid (Inv (bulk8 (dval8 ds) + opsB os + cnt8 S.view + 1 + 1) S3) := Lib.hid (by rw [← hS3]; exact HI2.out.rename a b)
            have HS3 := Lib.hid hS3
            have HRC := Lib.hid hrc
            clear hS3 hrc
            go_wp2_with fail
            refine (HF6.out.rename HGB.out HI2.out (by have := HBB.out; omega) a b).mono ?_
            rintro e w7 ⟨rfl, hf7⟩
            rw [HRC.out]
            rw [HS3.out] at hf7
            have HF7 := Lib.hid hf7
            clear hf7
            go_wp2_with fail
            refine (HF7.out.view HGB.out HI3.out (by have := HBB.out; omega)).mono ?_
            rintro e w8 ⟨A8, n8, c8, ds8, rfl, hds, hdv, hc, hn⟩
            have HDS8 := Lib.hid hds.rd
            have HDV8 := Lib.hid hdv
            have HBN8 := Lib.hid (hds.rd.bnd (B := 1073741824) (by rw [hdv]; exact Nat.le_trans (siz_view HI3.out) (by have := HBB.out; omega)))
            have HCC8 := Lib.hid hc
            have HF8 := Lib.hid (HF7.out.keep0 hc)
            clear hds hdv hc hn
            have HDR5 := Lib.hid (HDS5.out.chg HF8.out.chg HNE5.out)
            have HDR8 := HDS8
            by_cases hno : thereB S2.view a = false ∨ goodP b = false
            · obtain ⟨k1, k2⟩ := rename_no HSO.out.2.1 HI2.out hno
              rw [HRC.out] at k1
              have r1 : (rc == 0) = false := by simpa using k1
              have r2 : (rc != 0) = true := by simp [bne, r1]
              have HEQ : Hid (S3 = S2) := Lib.hid (by rw [← HS3.out]; exact k2)
              rw [HTH.out] at hno
              have HNO := Lib.hid hno
              clear hno k2
              cases tb with
              | false =>
                go_wp2_with fail
                refine (same8_any _ _ _ ds5 _ _ _ ds8 w8 (HDR5.out) (HDR8.out) HBN5.out.1 HBN5.out.2).mono ?_
                rintro e w9 ⟨bb, rfl, hbb, hc⟩
                rw [hbb (by rw [HDV5.out, HDV8.out, HEQ.out])]
                have HF9 := Lib.hid (HF8.out.keep0 hc)
                have HCS := Lib.hid hc
                clear hc hbb
                have HFIN : Hid (Chg [] w w9) := Lib.hid ((HC1.out.trans0 (HCW1.out.trans0 HCC5.out)).trans HF9.out.chg (fun x hx => .inr (Nat.le_trans HC1.out.size (HN2.out x hx))))
                go_wp2
                go_ret
                exact ⟨rfl, HFIN.out⟩
              | true =>
                go_wp2_with fail
                refine (rgood_any b w8).mono ?_
                rintro e w8b ⟨rfl, hcg⟩
                rw [HNO.out.resolve_left (by simp)]
                have HF8b := Lib.hid (HF8.out.keep0 hcg)
                have HDR5 := Lib.hid (HDS5.out.chg HF8b.out.chg HNE5.out)
                have HDR8 := Lib.hid (HDS8.out.chg0 hcg)
                clear hcg
                go_wp2_with fail
                refine (same8_any _ _ _ ds5 _ _ _ ds8 _ (HDR5.out) (HDR8.out) HBN5.out.1 HBN5.out.2).mono ?_
                rintro e w9 ⟨bb, rfl, hbb, hc⟩
                rw [hbb (by rw [HDV5.out, HDV8.out, HEQ.out])]
                have HF9 := Lib.hid (HF8b.out.keep0 hc)
                have HCS := Lib.hid hc
                clear hc hbb
                have HFIN : Hid (Chg [] w w9) := Lib.hid ((HC1.out.trans0 (HCW1.out.trans0 HCC5.out)).trans HF9.out.chg (fun x hx => .inr (Nat.le_trans HC1.out.size (HN2.out x hx))))
                go_wp2
                go_ret
                exact ⟨rfl, HFIN.out⟩
            · have ht : thereB S2.view a = true := by cases h : thereB S2.view a with
                | true => rfl
                | false => exact absurd (.inl h) hno
              have hg : goodP b = true := by cases h : goodP b with
                | true => rfl
                | false => exact absurd (.inr h) hno
              obtain ⟨k1, k2, k3⟩ := rename_yes HSO.out.2.1 HI2.out ht hg
              have hrc0 : rc = 0 := by rw [← HRC.out, k1]
              subst hrc0
              obtain rfl : tb = true := by rw [← HTH.out]; exact ht
              have HS3' : Hid (S3 = S2.make (.rename a b)) := Lib.hid (by rw [← HS3.out, k1])
              have HK2 := Lib.hid k2
              have HK3 := Lib.hid k3
              have HG := Lib.hid hg
              clear hno ht hg k1 k2 k3
              go_wp2_with fail
              refine (rgood_any b w8).mono ?_
              rintro e w8b ⟨rfl, hcgb⟩
              rw [HG.out]
              have HF8b := Lib.hid (HF8.out.keep0 hcgb)
              have HDS8b := Lib.hid (HDS8.out.chg0 hcgb)
              clear hcgb
              have hcg : Chg [] w1 w8b := HCW1.out.trans0 (HCC5.out) |>.trans HF8b.out.chg (fun x hx => .inr (HN2.out x hx))
              have HCG := Lib.hid hcg
              have f0 := (HBF1.out.chg hcg List.not_mem_nil).cell 0
              have f1 := (HBF1.out.chg hcg List.not_mem_nil).cell 1
              simp only [List.getElem?_toArray, List.getElem?_cons_succ, List.getElem?_cons_zero] at f0 f1
              clear hcg
              go_wp2_with fail
              refine (HF8b.out.durable HGB.out HI3.out (by have := HBB.out; omega) names ((HK.out.chg HC1.out (fun _ _ => List.not_mem_nil)).chg HCG.out (fun _ _ => List.not_mem_nil)) hkn).mono ?_
              rintro e w9 ⟨A9, n9, c9, ds9, rfl, hds, hdv, hc, hn⟩
              have HDS9 := Lib.hid hds.rd
              have HDV9 := Lib.hid hdv
              have HBN9 := Lib.hid (hds.rd.bnd (B := 1073741824) (by rw [hdv]; exact Nat.le_trans (siz_left HI3.out ks names) (by have := HBB.out; omega)))
              have HCC9 := Lib.hid hc
              have HF9 := Lib.hid (HF8b.out.keep0 hc)
              clear hds hdv hc hn
              have g1 := HCC9.out.cell f1 List.not_mem_nil
              clear f0 f1
              have HDR5b := Lib.hid (HDS5.out.chg HF9.out.chg HNE5.out)
              have HDR8b := Lib.hid (HDS8b.out.chg0 HCC9.out)
              have HDR9 := HDS9
              by_cases hnm : names < 1
              · go_wp2_with fail
                refine (same8_any _ _ _ ds9 _ _ _ ds5 w9 (HDR9.out) (HDR5b.out) HBN9.out.1 HBN9.out.2).mono ?_
                rintro e w10 ⟨bb, rfl, hbb, hc⟩
                rw [hbb (by rw [HDV9.out, HDV5.out, HS3'.out]; exact HK2.out ks names hnm)]
                have HF10 := Lib.hid (HF9.out.keep0 hc)
                have HCS := Lib.hid hc
                clear hc hbb
                have HFIN : Hid (Chg [] w w10) := Lib.hid ((HC1.out.trans0 (HCW1.out.trans0 HCC5.out)).trans HF10.out.chg (fun x hx => .inr (Nat.le_trans HC1.out.size (HN2.out x hx))))
                go_wp2
                go_ret
                exact ⟨rfl, HFIN.out⟩
              · go_wp2_with fail
                refine (same8_any _ _ _ ds9 _ _ _ ds8 w9 (HDR9.out) (HDR8b.out) HBN9.out.1 HBN9.out.2).mono ?_
                rintro e w10 ⟨bb, rfl, hbb, hc⟩
                rw [hbb (by rw [HDV9.out, HDV8.out, HS3'.out]; exact HK3.out ks names hnm)]
                have HF10 := Lib.hid (HF9.out.keep0 hc)
                have HCS := Lib.hid hc
                clear hc hbb
                have HFIN : Hid (Chg [] w w10) := Lib.hid ((HC1.out.trans0 (HCW1.out.trans0 HCC5.out)).trans HF10.out.chg (fun x hx => .inr (Nat.le_trans HC1.out.size (HN2.out x hx))))
                go_wp2
                go_ret
                exact ⟨rfl, HFIN.out⟩
end Go.Proofs.Ytgomofeidghmiaa
