/-
  Layer 08: the walk of VfsQuota.
-/
import Derived.Test.YtgomofeidghmiaaVfJf
namespace Go.Proofs.Ytgomofeidghmiaa
open Go.RowKit

set_option maxRecDepth 100000 in
set_option maxHeartbeats 6400000 in
theorem lvquota_any (A : Option Addr) (n c : Nat) (ds : List DM) (quota stop : Int) (SA : Option Addr) (sn sc : Nat) (os : List O8) (w : World)
    (hd : DirsR w A n c ds) (hs : Scr8 w SA sn os) (hq : quota ≤ 9223372036854775807) (hB : bulk8 (dval8 ds) + opsB os + 4 ≤ 1073741824) (hsn : sn ≤ 1073741824) :
    Calls Try.prog 8 #[.agg #[.slice A n c, .int .i64 quota, .int .i64 stop], .slice SA sn sc] w fun e w' => e = .returned (.bool true) ∧ Chg [] w w' := by
  have HD := Lib.hid hd
  have HS := Lib.hid hs
  have HB := Lib.hid hB
  have HBN := Lib.hid (bulk8_bnd hd (B := 1073741824) (by omega))
  have HL := Lib.hid hs.1
  clear hd hs hB
  obtain ⟨mb, hmb⟩ : ∃ mb : Nat, bytesOf (dval8 ds) = mb := ⟨_, rfl⟩
  have HM1 := Lib.hid hmb
  have hmb' : (mb : Int) ≤ 1073741824 := by have := HBN.out.2.1; omega
  obtain ⟨M, hM⟩ : ∃ M : Int, max quota (mb : Int) = M := ⟨_, rfl⟩
  have HMX := Lib.hid hM
  clear hmb hM
  go_enter Try.func8, Try.ntmps8
  obtain ⟨sb, hsb⟩ : ∃ sb, w.heap.size = sb := ⟨_, rfl⟩
  obtain ⟨W, hW⟩ : ∃ W, w.alloc (.cells #[.slice A n c, .int .i64 quota, .int .i64 stop] 26) = W := ⟨_, rfl⟩
  have hbk : Blk W sb 26 #[.slice A n c, .int .i64 quota, .int .i64 stop] := by rw [← hW, ← hsb]; exact Blk.new w _ _
  have hcW : Chg [] w W := by rw [← hW]; exact (Chg.refl [] w).alloc _
  have HBK := Lib.hid hbk
  have HCW := Lib.hid hcW
  clear hbk hcW
  go_wp2_with fail
  refine (speaks_any _).mono ?_
  rintro e w1 ⟨rfl, hc1⟩
  have HC1 : Hid (Chg [] w w1) := Lib.hid (HCW.out.trans0 hc1)
  have b0 := (HBK.out.chg hc1 List.not_mem_nil).cell 0
  have b1 := (HBK.out.chg hc1 List.not_mem_nil).cell 1
  have b2 := (HBK.out.chg hc1 List.not_mem_nil).cell 2
  simp only [List.getElem?_toArray, List.getElem?_cons_succ, List.getElem?_cons_zero] at b0 b1 b2
  have HBK1 := Lib.hid (HBK.out.chg hc1 List.not_mem_nil)
  clear hc1
  go_wp2_with fail
  refine (lawopen_any w1 A n c ds quota stop (HD.out.chg0 HC1.out) HBN.out.1 (by have := HB.out; omega) HBN.out.2.2.2).mono ?_
  rintro e w2 hop
  rcases hop with ⟨h0, rfl, hc⟩ | ⟨h0, G, R, rfl, hF, hR, hnG, hnR, hdis, hc⟩
  · have HC2 := Lib.hid (HC1.out.trans0 hc)
    clear h0 hc b0 b1 b2
    go_wp2
    go_ret
    exact ⟨rfl, HC2.out⟩
  ·
    have HQ0 := Lib.hid h0
    obtain ⟨S0, hS0⟩ : ∃ S0, openS (dval8 ds) (quota) (stop) = S0 := ⟨_, rfl⟩
    rw [hS0] at hF
    have HI0 : Hid (Inv (bulk8 (dval8 ds)) S0) := Lib.hid (by rw [← hS0]; exact inv_open h0 hq)
    have HS0 := Lib.hid hS0
    have HF2 : Hid (FsAt w1 w2 G.b S0) := Lib.hid (.opened hF hnG (Chg.refl _ _) hc)
    have HC2 := Lib.hid (HC1.out.trans0 hc)
    have HD2 := Lib.hid (HD.out.chg0 HC2.out)
    obtain ⟨p, hp⟩ : ∃ p, G.b = p := ⟨_, rfl⟩
    rw [hp] at HF2 ⊢
    have HROOM : Hid (Room M S0) := Lib.hid (by rw [← HS0.out, ← HMX.out, ← HM1.out]; exact Room.open_)
    have hM0 : 0 ≤ M := by have := HI0.out.quota.1; have h2 := HROOM.out.quota; omega
    have b0 := (HBK1.out.chg hc List.not_mem_nil).cell 0
    have b1 := (HBK1.out.chg hc List.not_mem_nil).cell 1
    simp only [List.getElem?_toArray, List.getElem?_cons_succ, List.getElem?_cons_zero] at b0 b1
    clear h0 hF hR hnG hnR hdis hc hp hS0 b2
    go_wp2_with fail
    refine wp_region_held_drew (S := fun w' => Chg [] w2 w') (by kernel_rfl) ((Chg.refl _ _).drew) (fun hHeld => ?_)
    refine wpAnyH_take (i := 0) (v := ?_) rfl (by kernel_rfl) (by kernel_rfl) (by kernel_rfl) (fun _ _ _ h => h) (Or.inl ⟨by rfl, ?_⟩) (by assumption) ?_
    rotate_left
    · (intro w' hSw; go_simp; try with_reducible rfl)
    try simp only [Act.put, List.getElem_toArray, List.getElem_cons_zero, List.setIfInBounds_toArray, List.set_cons_zero, List.set_cons_succ]
    refine wpAnyH_take (i := 1) (v := ?_) rfl (by kernel_rfl) (by kernel_rfl) (by kernel_rfl) (fun _ _ _ h => h) (Or.inl ⟨by rfl, ?_⟩) (by assumption) ?_
    rotate_left
    · (intro w' hSw; have y := hSw.cell b1 List.not_mem_nil; go_simp; try with_reducible rfl)
    try simp only [Act.put, List.getElem_toArray, List.getElem_cons_zero, List.getElem_cons_succ, List.setIfInBounds_toArray, List.set_cons_zero, List.set_cons_succ]
    refine wpAnyH_take (i := 2) (v := ?_) rfl (by kernel_rfl) (by kernel_rfl) (by kernel_rfl) (fun _ _ _ h => h) (Or.inl ⟨by rfl, ?_⟩) (by assumption) ?_
    rotate_left
    · (intro w' hSw; go_simp; try with_reducible rfl)
    try simp only [Act.put, List.getElem_toArray, List.getElem_cons_zero, List.getElem_cons_succ, List.setIfInBounds_toArray, List.set_cons_zero, List.set_cons_succ]
    refine wpAnyH_take (i := 3) (v := ?_) rfl (by kernel_rfl) (by kernel_rfl) (by kernel_rfl) (fun _ _ _ h => h) (Or.inl ⟨by rfl, ?_⟩) (by assumption) ?_
    rotate_left
    · (intro w' hSw; have y := hSw.cell b0 List.not_mem_nil; go_simp; try with_reducible rfl)
    try simp only [Act.put, List.getElem_toArray, List.getElem_cons_zero, List.getElem_cons_succ, List.setIfInBounds_toArray, List.set_cons_zero, List.set_cons_succ]
    refine wpAnyH_ready (rs := [4]) (by kernel_rfl) (by simp) ?_
    refine AllReadyH.cons rfl (fun K hK => ?_) (AllReadyH.nil)
    go_simp
    refine (rbytes_any A n c ds _ (HD2.out.chg0 hHeld) HBN.out.1 (fun d hd => (HBN.out.2.2.2 d hd).1) (Nat.le_trans HBN.out.2.1 (by decide))).mono ?_
    rintro ee w3 ⟨rfl, hc3⟩
    rw [HM1.out]
    have hHc := hHeld.trans0 hc3
    have HC3 : Hid (Chg [] w2 w3) := Lib.hid (((Chg.refl [] w2).drew).trans0 hc3)
    clear hc3
    refine hK.out _ _ (hHc) (fun hHeld => ?_)
    try simp only [Act.put, List.getElem_toArray, List.getElem_cons_zero, List.getElem_cons_succ, List.setIfInBounds_toArray, List.set_cons_zero, List.set_cons_succ]
    clear hK K
    refine wpAnyH_ready (rs := [5]) (by kernel_rfl) (by simp) ?_
    refine AllReadyH.cons rfl (fun K hK => ?_) (AllReadyH.nil)
    go_simp
    rw [HMX.out]
    refine hK.out _ _ (hHc) (fun hHeld => ?_)
    try simp only [Act.put, List.getElem_toArray, List.getElem_cons_zero, List.getElem_cons_succ, List.setIfInBounds_toArray, List.set_cons_zero, List.set_cons_succ]
    clear hK K
    refine wpAnyH_take (i := 6) (v := ?_) rfl (by kernel_rfl) (by kernel_rfl) (by kernel_rfl) (fun _ _ _ h => h) (Or.inl ⟨by rfl, ?_⟩) (by assumption) ?_
    rotate_left
    · (intro w' hSw; go_simp; try with_reducible rfl)
    try simp only [Act.put, List.getElem_toArray, List.getElem_cons_zero, List.getElem_cons_succ, List.setIfInBounds_toArray, List.set_cons_zero, List.set_cons_succ]
    refine wpAnyH_done (by kernel_rfl) ?_ _
    try simp only [Act.put, List.getElem_toArray, List.getElem_cons_zero, List.getElem_cons_succ, List.setIfInBounds_toArray, List.set_cons_zero, List.set_cons_succ]
    have HF3 := Lib.hid (HF2.out.keep0 HC3.out)
    clear hHeld hHc b0 b1
    go_wp2
    go_loopw [34] (fun z wr => ∃ i : Nat, i ≤ sn ∧ z = .int .i64 i ∧ FsAt w1 wr p (runO S0 (os.take i))) (fun z _ => sn - (intOf z).toNat)
    case atStart => exact ⟨0, Nat.zero_le _, rfl, HF3.out⟩
    case round =>
      obtain ⟨i, hi, rfl, hfa⟩ := hrel
      have HFA := Lib.hid hfa
      have HCR : Hid (Chg [] w wr) := Lib.hid (HC1.out.trans0 hfa.chg)
      clear hfa
      by_cases hlt : i < sn
      ·
        have hlt' : (i : Int) < sn := by omega
        obtain ⟨o, ho⟩ : ∃ o, os[i]? = some o := ⟨_, List.getElem?_eq_getElem (by have := HL.out; omega)⟩
        obtain ⟨ad, rfl, hat, hrd⟩ := HS.out.at_ ho
        have hat2 := hat.chg HCR.out List.not_mem_nil
        have x0 := hat2.c0
        have x1 := hat2.c1
        have x2 := hat2.c2
        have x3 := hat2.c3
        have x4 := hat2.c4
        have HRD := Lib.hid hrd
        have HTK : Hid (runO S0 (os.take (i + 1)) = (callK (runO S0 (os.take i)) (kd o.kind) o.dir o.name o.dest o.data).1) := Lib.hid (by rw [take_snoc os i o ho, runO_snoc])
        have HBO : Hid (bulk8 (dval8 ds) + opsB (os.take i) + o.n + 4 ≤ 1073741824 ∧ opsB (os.take (i + 1)) ≤ opsB os) := Lib.hid (by
          have h1 := opsB_take os (i + 1)
          have h2 := h1
          rw [take_snoc os i o ho, opsB_snoc, hrd.blen] at h2
          have h3 := HB.out
          exact ⟨by omega, h1⟩)
        have HI := Lib.hid (HI0.out.runO (os.take i))
        have HI6 := Lib.hid (HI0.out.runO (os.take (i + 1)))
        clear hat hat2 hrd ho
        obtain ⟨kind, dir, name, dest, oA, on, oc, data⟩ := o
        simp only at x0 x1 x2 x3 x4
        obtain ⟨vb, hvb⟩ : ∃ vb, wr.heap.size = vb := ⟨_, rfl⟩
        obtain ⟨W5, hW5⟩ : ∃ W5, wr.alloc (.cells #[.int .i64 kind, .string dir, .string name, .string dest, .slice oA on oc] 53) = W5 := ⟨_, rfl⟩
        have hv5 : Blk W5 vb 53 #[.int .i64 kind, .string dir, .string name, .string dest, .slice oA on oc] := by rw [← hW5, ← hvb]; exact Blk.new wr _ _
        have hc5 : Chg [] wr W5 := by rw [← hW5]; exact (Chg.refl [] wr).alloc _
        have v0 := hv5.cell 0
        have v1 := hv5.cell 1
        have v2 := hv5.cell 2
        have v3 := hv5.cell 3
        have v4 := hv5.cell 4
        simp only [List.getElem?_toArray, List.getElem?_cons_succ, List.getElem?_cons_zero] at v0 v1 v2 v3 v4
        have HF5 := Lib.hid (HFA.out.keep0 hc5)
        have HV5 := Lib.hid hv5
        have HC5 := Lib.hid hc5
        clear hv5 hc5
        go_wp2_with fail
        refine (HF5.out.call HI.out ⟨kind, dir, name, dest, oA, on, oc, data⟩ (HRD.out.chg HC1.out (fun _ _ => List.not_mem_nil)) (by have := HBO.out.1; simp only at this ⊢; omega)).mono ?_
        rintro e w6 ⟨dA, dn, dc, nA, nn, nc, rfl, hdo, hno, hnw, hf6⟩
        have HF6 : Hid (FsAt w1 w6 p (runO S0 (os.take (i + 1)))) := Lib.hid (by rw [HTK.out]; exact hf6)
        clear x0 x1 x2 x3 x4 v0 v1 v2 v3 v4 hdo hno hnw hf6
        obtain ⟨u, hu⟩ : ∃ u : Nat, (runO S0 (os.take (i + 1))).used = u := ⟨_, rfl⟩
        have hum : (u : Int) ≤ M := by rw [← hu]; exact (HROOM.out.runO HI0.out (os.take (i + 1))).used hM0
        have HU := Lib.hid hu
        have HBB : Hid (bulk8 (dval8 ds) + opsB (os.take (i + 1)) ≤ 1073741824) := Lib.hid (by have h1 := HBO.out.2; have h2 := HB.out; omega)
        clear hu
        go_wp2_with fail
        refine (HF6.out.used HI6.out HBB.out).mono ?_
        rintro e w7 ⟨rfl, hc7⟩
        rw [HU.out]
        have HF7 := Lib.hid (HF6.out.keep0 hc7)
        clear hc7
        go_wp2_with fail
        refine (HF7.out.used HI6.out HBB.out).mono ?_
        rintro e w8 ⟨rfl, hc8⟩
        rw [HU.out]
        have HF8 := Lib.hid (HF7.out.keep0 hc8)
        clear hc8
        go_wp2_with fail
        refine (HF8.out.view HI6.out HBB.out).mono ?_
        rintro e w9 ⟨A9, n9, c9, ds9, rfl, hds, hdv, hc9, hn9⟩
        have HDS := Lib.hid hds
        have HUB : Hid (bytesOf (dval8 ds9) = u) := Lib.hid (by rw [hdv]; exact HU.out)
        have HB9 := Lib.hid (hds.rd.bnd (B := 1073741824) (by rw [hdv]; exact Nat.le_trans (siz_view HI6.out) HBB.out))
        have HF9 := Lib.hid (HF8.out.keep0 hc9)
        have HBY : Hid (bytesOf (dval8 ds9) ≤ 1152921504606846976) := Lib.hid (by rw [hdv]; exact bytes_view HI6.out HBB.out)
        clear hds hdv hc9 hn9
        go_wp2_with fail
        refine (rbytes_any A9 n9 c9 ds9 w9 HDS.out.rd HB9.out.1 HB9.out.2 HBY.out).mono ?_
        rintro e w10 ⟨rfl, hc10⟩
        rw [HUB.out]
        have HF10 := Lib.hid (HF9.out.keep0 hc10)
        clear hc10
        go_wp2
        go_roundw
        case rel => exact ⟨i + 1, by omega, by go_num, HF10.out⟩
        case measure => simp [intOf]; omega
      · obtain rfl : i = sn := by omega
        go_wp2
        go_ret
        exact ⟨rfl, HCR.out⟩
end Go.Proofs.Ytgomofeidghmiaa
