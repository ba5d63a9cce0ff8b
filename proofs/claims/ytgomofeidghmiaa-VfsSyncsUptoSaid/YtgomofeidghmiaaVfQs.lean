/-
  Layer 08: the walk of VfsSyncs.
-/
import Derived.Test.YtgomofeidghmiaaVfJf
namespace Go.Proofs.Ytgomofeidghmiaa
open Go.RowKit

set_option maxRecDepth 100000 in
set_option maxHeartbeats 6400000 in
theorem lvsyncs_any (A : Option Addr) (n c : Nat) (ds : List DM) (quota stop : Int) (SA : Option Addr) (sn sc : Nat) (os : List O8) (K : Option Addr) (kn kc : Nat) (ks : List Bool) (names : Int) (w : World)
    (hd : DirsR w A n c ds) (hs : Scr8 w SA sn os) (hk : Rd w 1 K kn kc (kv ks)) (hq : quota ≤ 9223372036854775807) (hB : 2 * (bulk8 (dval8 ds) + opsB os) + 4 ≤ 1073741824) (hsn : sn ≤ 1073741824) (hkn : kn ≤ 1073741824) :
    Calls Try.prog 6 #[.agg #[.slice A n c, .int .i64 quota, .int .i64 stop], .slice SA sn sc, .agg #[.slice K kn kc, .int .i64 names]] w fun e w' => e = .returned (.bool true) ∧ Chg [] w w' := by
  have HD := Lib.hid hd
  have HS := Lib.hid hs
  have HB := Lib.hid hB
  have HBN := Lib.hid (bulk8_bnd hd (B := 1073741824) (by omega))
  have HL := Lib.hid hs.1
  have HK := Lib.hid hk
  clear hd hs hB hk
  go_enter Try.func6, Try.ntmps6
  obtain ⟨sb, hsb⟩ : ∃ sb, w.heap.size = sb := ⟨_, rfl⟩
  obtain ⟨fb, hfb⟩ : ∃ fb, sb + 1 = fb := ⟨_, rfl⟩
  obtain ⟨W, hW⟩ : ∃ W, (w.alloc (.cells #[.slice A n c, .int .i64 quota, .int .i64 stop] 26)).alloc (.cells #[.slice K kn kc, .int .i64 names] 46) = W := ⟨_, rfl⟩
  have hbk : Blk W sb 26 #[.slice A n c, .int .i64 quota, .int .i64 stop] := by rw [← hW, ← hsb]; exact (Blk.new w _ _).alloc _
  have hbf : Blk W fb 46 #[.slice K kn kc, .int .i64 names] := by
    have := Blk.new (w.alloc (.cells #[.slice A n c, .int .i64 quota, .int .i64 stop] 26)) 46 #[.slice K kn kc, .int .i64 names]
    rw [← hW, ← hfb, ← hsb]
    simpa using this
  have hcW : Chg [] w W := by rw [← hW]; exact ((Chg.refl [] w).alloc _).alloc _
  have HBK := Lib.hid hbk
  have HBF := Lib.hid hbf
  have HCW := Lib.hid hcW
  clear hbk hbf hcW
  go_wp2_with fail
  refine (speaks_any _).mono ?_
  rintro e w1 ⟨rfl, hc1⟩
  have HC1 : Hid (Chg [] w w1) := Lib.hid (HCW.out.trans0 hc1)
  have b0 := (HBK.out.chg hc1 List.not_mem_nil).cell 0
  have b1 := (HBK.out.chg hc1 List.not_mem_nil).cell 1
  have b2 := (HBK.out.chg hc1 List.not_mem_nil).cell 2
  simp only [List.getElem?_toArray, List.getElem?_cons_succ, List.getElem?_cons_zero] at b0 b1 b2
  have HBK1 := Lib.hid (HBK.out.chg hc1 List.not_mem_nil)
  have HBF1 := Lib.hid (HBF.out.chg hc1 List.not_mem_nil)
  clear hc1
  go_wp2_with fail
  refine (lawopen_any w1 A n c ds quota (-1) (HD.out.chg0 HC1.out) HBN.out.1 (by have := HB.out; omega) HBN.out.2.2.2).mono ?_
  rintro e w2 hop
  rcases hop with ⟨h0, rfl, hc⟩ | ⟨h0, G, R, rfl, hF, hR, hnG, hnR, hdis, hc⟩
  · have HC2 := Lib.hid (HC1.out.trans0 hc)
    clear h0 hc b0 b1 b2
    go_wp2
    go_ret
    exact ⟨rfl, HC2.out⟩
  ·
    have HQ0 := Lib.hid h0
    obtain ⟨S0, hS0⟩ : ∃ S0, openS (dval8 ds) (quota) (-1) = S0 := ⟨_, rfl⟩
    rw [hS0] at hF
    have HI0 : Hid (Inv (bulk8 (dval8 ds)) S0) := Lib.hid (by rw [← hS0]; exact inv_open h0 hq)
    have HS0 := Lib.hid hS0
    have HF2 : Hid (FsAt w1 w2 G.b S0) := Lib.hid (.opened hF hnG (Chg.refl _ _) hc)
    have HC2 := Lib.hid (HC1.out.trans0 hc)
    have HD2 := Lib.hid (HD.out.chg0 HC2.out)
    obtain ⟨p, hp⟩ : ∃ p, G.b = p := ⟨_, rfl⟩
    rw [hp] at HF2 ⊢
    have HBF2 := Lib.hid (HBF1.out.chg hc List.not_mem_nil)
    clear h0 hF hR hnG hnR hdis hc hp hS0 b0 b1 b2
    go_wp2
    go_loopw [34] (fun z wr => ∃ i : Nat, i ≤ sn ∧ z = .int .i64 i ∧ FsAt w1 wr p (runO S0 (os.take i))) (fun z _ => sn - (intOf z).toNat)
    case atStart => exact ⟨0, Nat.zero_le _, rfl, HF2.out⟩
    case round =>
      obtain ⟨i, hi, rfl, hfa⟩ := hrel
      have HFA := Lib.hid hfa
      have HCR : Hid (Chg [] w wr) := Lib.hid (HC1.out.trans0 hfa.chg)
      clear hfa
      by_cases hlt : i < sn
      ·
        have hlt' : (i : Int) < sn := by omega
        obtain ⟨o, ho⟩ : ∃ o, os[i]? = some o := ⟨_, List.getElem?_eq_getElem (by have := HL.out; omega)⟩
        obtain ⟨ad, rfl, hat, hrd⟩ := HS.out.at_ ho
        have hat2 := hat.chg HCR.out List.not_mem_nil
        have x0 := hat2.c0
        have x1 := hat2.c1
        have x2 := hat2.c2
        have x3 := hat2.c3
        have x4 := hat2.c4
        have HRD := Lib.hid hrd
        have HTK : Hid (runO S0 (os.take (i + 1)) = (callK (runO S0 (os.take i)) (kd o.kind) o.dir o.name o.dest o.data).1) := Lib.hid (by rw [take_snoc os i o ho, runO_snoc])
        have HBO : Hid (bulk8 (dval8 ds) + opsB (os.take i) + o.n + 4 ≤ 1073741824 ∧ opsB (os.take (i + 1)) ≤ opsB os) := Lib.hid (by
          have h1 := opsB_take os (i + 1)
          have h2 := h1
          rw [take_snoc os i o ho, opsB_snoc, hrd.blen] at h2
          have h3 := HB.out
          exact ⟨by omega, h1⟩)
        have HI := Lib.hid (HI0.out.runO (os.take i))
        have HI6 := Lib.hid (HI0.out.runO (os.take (i + 1)))
        clear hat hat2 hrd ho
        obtain ⟨kind, dir, name, dest, oA, on, oc, data⟩ := o
        simp only at x0 x1 x2 x3 x4
        obtain ⟨vb, hvb⟩ : ∃ vb, wr.heap.size = vb := ⟨_, rfl⟩
        obtain ⟨W5, hW5⟩ : ∃ W5, wr.alloc (.cells #[.int .i64 kind, .string dir, .string name, .string dest, .slice oA on oc] 53) = W5 := ⟨_, rfl⟩
        have hv5 : Blk W5 vb 53 #[.int .i64 kind, .string dir, .string name, .string dest, .slice oA on oc] := by rw [← hW5, ← hvb]; exact Blk.new wr _ _
        have hc5 : Chg [] wr W5 := by rw [← hW5]; exact (Chg.refl [] wr).alloc _
        have v0 := hv5.cell 0
        have v1 := hv5.cell 1
        have v2 := hv5.cell 2
        have v3 := hv5.cell 3
        have v4 := hv5.cell 4
        simp only [List.getElem?_toArray, List.getElem?_cons_succ, List.getElem?_cons_zero] at v0 v1 v2 v3 v4
        have HF5 := Lib.hid (HFA.out.keep0 hc5)
        have HV5 := Lib.hid hv5
        have HC5 := Lib.hid hc5
        clear hv5 hc5
        go_wp2_with fail
        refine (HF5.out.call HI.out ⟨kind, dir, name, dest, oA, on, oc, data⟩ (HRD.out.chg HC1.out (fun _ _ => List.not_mem_nil)) (by have := HBO.out.1; simp only at this ⊢; omega)).mono ?_
        rintro e w6 ⟨dA, dn, dc, nA, nn, nc, rfl, hdo, hno, hnw, hf6⟩
        have HF6 : Hid (FsAt w1 w6 p (runO S0 (os.take (i + 1)))) := Lib.hid (by rw [HTK.out]; exact hf6)
        clear x0 x1 x2 x3 x4 v0 v1 v2 v3 v4 hdo hno hnw hf6
        go_wp2
        go_roundw
        case rel => exact ⟨i + 1, by omega, by go_num, HF6.out⟩
        case measure => simp [intOf]; omega
      · obtain rfl : i = sn := by omega
        have him : os.take i = os := List.take_of_length_le (by have := HL.out; omega)
        have hst0 : (runO S0 os).stop < 0 := by rw [runO_stop, ← HS0.out]; exact (by decide : (-1 : Int) < 0)
        have HIS0 := HI0.out.runO os
        have HFS0 : FsAt w1 wr p (runO S0 os) := by have := HFA.out; rw [him] at this; exact this
        obtain ⟨S, hS⟩ : ∃ S, runO S0 os = S := ⟨_, rfl⟩
        rw [hS] at hst0 HIS0 HFS0
        have HIS := Lib.hid HIS0
        have HFS := Lib.hid HFS0
        have hcv := cnt8_view HIS0
        have HSO := Lib.hid (settle_ok hst0 HIS0)
        have HBB : Hid (bulk8 (dval8 ds) + opsB os + cnt8 S.view + 4 ≤ 1073741824) := Lib.hid (by have h2 := HB.out; omega)
        have HI2 := Lib.hid HIS0.settle
        clear him hst0 HIS0 HFS0 hS hcv
        obtain ⟨S2, hS2⟩ : ∃ S2, (settleS S).1 = S2 := ⟨_, rfl⟩
        have HS2 := Lib.hid hS2
        rw [hS2] at HSO HI2
        clear hS2
        obtain ⟨G2, hM, hb2, hn2, hcw⟩ := HFS.out
        have HM := Lib.hid hM
        have HGB := Lib.hid hb2
        have HN2 := Lib.hid hn2
        have HCW1 := Lib.hid hcw
        clear hM hb2 hn2 hcw
        go_wp2_with fail
        refine (FsTo.of_view HM.out HGB.out HIS.out (by have := HBB.out; omega)).mono ?_
        rintro e w3 ⟨⟨A3, n3, c3, ds3, rfl, hds, hdv, hc, hn⟩, hto, _⟩
        have HDS3 := Lib.hid hds.rd
        have HDV3 := Lib.hid hdv
        have HBN3 := Lib.hid (hds.rd.bnd (B := 1073741824) (by rw [hdv]; exact Nat.le_trans (siz_view HIS.out) (by have := HBB.out; omega)))
        have HCC3 := Lib.hid hc
        have HF3 := Lib.hid hto
        have HNE3 : Hid (∀ x ∈ bo A3 ++ dblk ds3, x ∉ G2.all) := Lib.hid (fun x hx hm => by have h1 := hn x hx; have h2 := HM.out.lt x hm; omega)
        clear hds hdv hc hn hto
        go_wp2_with fail
        refine (HF3.out.settle HGB.out HIS.out (by have := HBB.out; omega)).mono ?_
        rintro e w4 ⟨rfl, hf4⟩
        rw [HSO.out.1]
        rw [HS2.out] at hf4
        have HF4 := Lib.hid hf4
        clear hf4
        go_wp2_with fail
        refine (HF4.out.view HGB.out HI2.out (by have := HBB.out; omega)).mono ?_
        rintro e w5 ⟨A5, n5, c5, ds5, rfl, hds, hdv, hc, hn⟩
        have HDS5 := Lib.hid hds.rd
        have HDV5 := Lib.hid hdv
        have HBN5 := Lib.hid (hds.rd.bnd (B := 1073741824) (by rw [hdv]; exact Nat.le_trans (siz_view HI2.out) (by have := HBB.out; omega)))
        have HCC5 := Lib.hid hc
        have HF5 := Lib.hid (HF4.out.keep0 hc)
        clear hds hdv hc hn
        have HDR3 := Lib.hid (HDS3.out.chg HF5.out.chg HNE3.out)
        have HDR5 := HDS5
        go_wp2_with fail
        refine (same8_any A5 n5 c5 ds5 A3 n3 c3 ds3 w5 (HDR5.out) (HDR3.out) HBN5.out.1 HBN5.out.2).mono ?_
        rintro e w6 ⟨bb, rfl, hbb, hc⟩
        rw [hbb (by rw [HDV5.out, HDV3.out]; exact HSO.out.2.2)]
        have HF6 := Lib.hid (HF5.out.keep0 hc)
        have HCS := Lib.hid hc
        clear hc hbb
        have HDR6 := Lib.hid (HDS3.out.chg HF6.out.chg HNE3.out)
        have hcg : Chg [] w1 w6 := HCW1.out.trans0 (HCC3.out) |>.trans HF6.out.chg (fun x hx => .inr (HN2.out x hx))
        have HCG := Lib.hid hcg
        have f0 := (HBF1.out.chg hcg List.not_mem_nil).cell 0
        have f1 := (HBF1.out.chg hcg List.not_mem_nil).cell 1
        simp only [List.getElem?_toArray, List.getElem?_cons_succ, List.getElem?_cons_zero] at f0 f1
        clear hcg
        go_wp2_with fail
        refine (HF6.out.durable HGB.out HI2.out (by have := HBB.out; omega) names ((HK.out.chg HC1.out (fun _ _ => List.not_mem_nil)).chg HCG.out (fun _ _ => List.not_mem_nil)) hkn).mono ?_
        rintro e w7 ⟨A7, n7, c7, ds7, rfl, hds, hdv, hc, hn⟩
        have HDS7 := Lib.hid hds.rd
        have HDV7 := Lib.hid hdv
        have HBN7 := Lib.hid (hds.rd.bnd (B := 1073741824) (by rw [hdv]; exact Nat.le_trans ((fun h => siz_left h ks names) HI2.out) (by have := HBB.out; omega)))
        have HCC7 := Lib.hid hc
        have HF7 := Lib.hid (HF6.out.keep0 hc)
        clear hds hdv hc hn
        clear f0 f1
        have HDR7 := HDS7
        have HDR3b := Lib.hid (HDS3.out.chg HF7.out.chg HNE3.out)
        go_wp2_with fail
        refine (same8_any A7 n7 c7 ds7 A3 n3 c3 ds3 w7 (HDR7.out) (HDR3b.out) HBN7.out.1 HBN7.out.2).mono ?_
        rintro e w8 ⟨bb, rfl, hbb, hc⟩
        rw [hbb (by rw [HDV7.out, HDV3.out, HSO.out.2.1.left]; exact HSO.out.2.2)]
        have HF8 := Lib.hid (HF7.out.keep0 hc)
        have HCS := Lib.hid hc
        clear hc hbb
        have HFIN : Hid (Chg [] w w8) := Lib.hid ((HC1.out.trans0 (HCW1.out.trans0 HCC3.out)).trans HF8.out.chg (fun x hx => .inr (Nat.le_trans HC1.out.size (HN2.out x hx))))
        go_wp2
        go_ret
        exact ⟨rfl, HFIN.out⟩
end Go.Proofs.Ytgomofeidghmiaa
