/-
  Layer 08: the walk of VfsPower.
-/
import Derived.Test.YtgomofeidghmiaaVfJf
namespace Go.Proofs.Ytgomofeidghmiaa
open Go.RowKit

set_option maxRecDepth 100000 in
set_option maxHeartbeats 6400000 in
theorem lvpower_any (A : Option Addr) (n c : Nat) (ds : List DM) (quota stop : Int) (SA : Option Addr) (sn sc : Nat) (os : List O8) (K : Option Addr) (kn kc : Nat) (ks : List Bool) (names : Int) (w : World)
    (hd : DirsR w A n c ds) (hs : Scr8 w SA sn os) (hk : Rd w 1 K kn kc (kv ks)) (hq : quota ≤ 9223372036854775807) (hB : bulk8 (dval8 ds) + opsB os + 4 ≤ 1073741824) (hsn : sn ≤ 1073741824) (hkn : kn ≤ 1073741824) :
    Calls Try.prog 9 #[.agg #[.slice A n c, .int .i64 quota, .int .i64 stop], .slice SA sn sc, .agg #[.slice K kn kc, .int .i64 names]] w fun e w' => e = .returned (.bool true) ∧ Chg [] w w' := by
  have HD := Lib.hid hd
  have HS := Lib.hid hs
  have HB := Lib.hid hB
  have HBN := Lib.hid (bulk8_bnd hd (B := 1073741824) (by omega))
  have HL := Lib.hid hs.1
  have HK := Lib.hid hk
  clear hd hs hB hk
  go_enter Try.func9, Try.ntmps9
  obtain ⟨sb, hsb⟩ : ∃ sb, w.heap.size = sb := ⟨_, rfl⟩
  obtain ⟨fb, hfb⟩ : ∃ fb, sb + 1 = fb := ⟨_, rfl⟩
  obtain ⟨W, hW⟩ : ∃ W, (w.alloc (.cells #[.slice A n c, .int .i64 quota, .int .i64 stop] 26)).alloc (.cells #[.slice K kn kc, .int .i64 names] 46) = W := ⟨_, rfl⟩
  have hbk : Blk W sb 26 #[.slice A n c, .int .i64 quota, .int .i64 stop] := by rw [← hW, ← hsb]; exact (Blk.new w _ _).alloc _
  have hbf : Blk W fb 46 #[.slice K kn kc, .int .i64 names] := by
    have := Blk.new (w.alloc (.cells #[.slice A n c, .int .i64 quota, .int .i64 stop] 26)) 46 #[.slice K kn kc, .int .i64 names]
    rw [← hW, ← hfb, ← hsb]
    simpa using this
  have hcW : Chg [] w W := by rw [← hW]; exact ((Chg.refl [] w).alloc _).alloc _
  have HBK := Lib.hid hbk
  have HBF := Lib.hid hbf
  have HCW := Lib.hid hcW
  clear hbk hbf hcW
  go_wp2_with fail
  refine (speaks_any _).mono ?_
  rintro e w1 ⟨rfl, hc1⟩
  have HC1 : Hid (Chg [] w w1) := Lib.hid (HCW.out.trans0 hc1)
  have b0 := (HBK.out.chg hc1 List.not_mem_nil).cell 0
  have b1 := (HBK.out.chg hc1 List.not_mem_nil).cell 1
  have b2 := (HBK.out.chg hc1 List.not_mem_nil).cell 2
  simp only [List.getElem?_toArray, List.getElem?_cons_succ, List.getElem?_cons_zero] at b0 b1 b2
  have HBK1 := Lib.hid (HBK.out.chg hc1 List.not_mem_nil)
  have HBF1 := Lib.hid (HBF.out.chg hc1 List.not_mem_nil)
  clear hc1
  go_wp2_with fail
  refine (lawopen_any w1 A n c ds quota stop (HD.out.chg0 HC1.out) HBN.out.1 (by have := HB.out; omega) HBN.out.2.2.2).mono ?_
  rintro e w2 hop
  rcases hop with ⟨h0, rfl, hc⟩ | ⟨h0, G, R, rfl, hF, hR, hnG, hnR, hdis, hc⟩
  · have HC2 := Lib.hid (HC1.out.trans0 hc)
    clear h0 hc b0 b1 b2
    go_wp2
    go_ret
    exact ⟨rfl, HC2.out⟩
  ·
    have HQ0 := Lib.hid h0
    obtain ⟨S0, hS0⟩ : ∃ S0, openS (dval8 ds) (quota) (stop) = S0 := ⟨_, rfl⟩
    rw [hS0] at hF
    have HI0 : Hid (Inv (bulk8 (dval8 ds)) S0) := Lib.hid (by rw [← hS0]; exact inv_open h0 hq)
    have HS0 := Lib.hid hS0
    have HF2 : Hid (FsAt w1 w2 G.b S0) := Lib.hid (.opened hF hnG (Chg.refl _ _) hc)
    have HC2 := Lib.hid (HC1.out.trans0 hc)
    have HD2 := Lib.hid (HD.out.chg0 HC2.out)
    obtain ⟨p, hp⟩ : ∃ p, G.b = p := ⟨_, rfl⟩
    rw [hp] at HF2 ⊢
    have HSTOP : Hid (S0.stop = stop ∧ S0.steps = 0) := Lib.hid (by rw [← HS0.out]; exact ⟨rfl, rfl⟩)
    clear h0 hF hR hnG hnR hdis hc hp hS0 b0 b1 b2
    go_wp2
    go_loopw [35] (fun z wr => ∃ i : Nat, i ≤ sn ∧ z = .int .i64 i ∧ FsAt w1 wr p (runO S0 (os.take i))) (fun z _ => sn - (intOf z).toNat)
    case atStart => exact ⟨0, Nat.zero_le _, rfl, HF2.out⟩
    case round =>
      obtain ⟨i, hi, rfl, hfa⟩ := hrel
      have HFA := Lib.hid hfa
      have HCR : Hid (Chg [] w wr) := Lib.hid (HC1.out.trans0 hfa.chg)
      clear hfa
      by_cases hlt : i < sn
      ·
        have hlt' : (i : Int) < sn := by omega
        obtain ⟨o, ho⟩ : ∃ o, os[i]? = some o := ⟨_, List.getElem?_eq_getElem (by have := HL.out; omega)⟩
        obtain ⟨ad, rfl, hat, hrd⟩ := HS.out.at_ ho
        have hat2 := hat.chg HCR.out List.not_mem_nil
        have x0 := hat2.c0
        have x1 := hat2.c1
        have x2 := hat2.c2
        have x3 := hat2.c3
        have x4 := hat2.c4
        have HRD := Lib.hid hrd
        have HTK : Hid (runO S0 (os.take (i + 1)) = (callK (runO S0 (os.take i)) (kd o.kind) o.dir o.name o.dest o.data).1) := Lib.hid (by rw [take_snoc os i o ho, runO_snoc])
        have HBO : Hid (bulk8 (dval8 ds) + opsB (os.take i) + o.n + 4 ≤ 1073741824 ∧ opsB (os.take (i + 1)) ≤ opsB os) := Lib.hid (by
          have h1 := opsB_take os (i + 1)
          have h2 := h1
          rw [take_snoc os i o ho, opsB_snoc, hrd.blen] at h2
          have h3 := HB.out
          exact ⟨by omega, h1⟩)
        have HI := Lib.hid (HI0.out.runO (os.take i))
        have HI6 := Lib.hid (HI0.out.runO (os.take (i + 1)))
        clear hat hat2 hrd ho
        obtain ⟨kind, dir, name, dest, oA, on, oc, data⟩ := o
        simp only at x0 x1 x2 x3 x4
        obtain ⟨vb, hvb⟩ : ∃ vb, wr.heap.size = vb := ⟨_, rfl⟩
        obtain ⟨W5, hW5⟩ : ∃ W5, wr.alloc (.cells #[.int .i64 kind, .string dir, .string name, .string dest, .slice oA on oc] 53) = W5 := ⟨_, rfl⟩
        have hv5 : Blk W5 vb 53 #[.int .i64 kind, .string dir, .string name, .string dest, .slice oA on oc] := by rw [← hW5, ← hvb]; exact Blk.new wr _ _
        have hc5 : Chg [] wr W5 := by rw [← hW5]; exact (Chg.refl [] wr).alloc _
        have v0 := hv5.cell 0
        have v1 := hv5.cell 1
        have v2 := hv5.cell 2
        have v3 := hv5.cell 3
        have v4 := hv5.cell 4
        simp only [List.getElem?_toArray, List.getElem?_cons_succ, List.getElem?_cons_zero] at v0 v1 v2 v3 v4
        have HF5 := Lib.hid (HFA.out.keep0 hc5)
        have HV5 := Lib.hid hv5
        have HC5 := Lib.hid hc5
        clear hv5 hc5
        have HK15 := Lib.hid (kd_eq kind).1
        have hk16 := (kd_eq kind).2
        have HBB : Hid (bulk8 (dval8 ds) + opsB (os.take i) ≤ 1073741824 ∧ bulk8 (dval8 ds) + opsB (os.take (i + 1)) ≤ 1073741824) := Lib.hid (by have h1 := HBO.out; have h2 := HB.out; omega)
        have HD5 : Hid (∀ x ∈ bo oA, 0 < on → x < w.heap.size) := Lib.hid (fun x hx h0 => by
          obtain ⟨ad, he, h1⟩ := HRD.out.some_ h0
          have he2 : oA = some ad := he
          rw [he2] at hx
          simp at hx
          omega)
        obtain ⟨S, hS⟩ : ∃ S, runO S0 (os.take i) = S := ⟨_, rfl⟩
        have hsto : S.stop = stop := by rw [← hS, runO_stop]; exact HSTOP.out.1
        have hsti : S.steps ≤ i := by
          have h1 := runO_steps S0 (os.take i)
          rw [hS, HSTOP.out.2, List.length_take] at h1
          omega
        simp only at HTK
        rw [hS] at HTK HI HF5 HFA
        have hdn : S.down = downB stop S.steps := by unfold St.down; rw [hsto]
        obtain ⟨st, hst⟩ : ∃ st, S.steps = st := ⟨_, rfl⟩
        rw [hst] at hdn hsti
        have hstb : (st : Int) ≤ 1073741824 := by omega
        have hsti' : (st : Int) ≤ i := by omega
        obtain ⟨k, hkk⟩ : ∃ k, kd kind = k := ⟨_, rfl⟩
        rw [hkk] at HK15 hk16 HTK
        obtain ⟨S1, hS1⟩ : ∃ S1, (callK S k dir name dest data).1 = S1 := ⟨_, rfl⟩
        obtain ⟨cd, hcd⟩ : ∃ cd, (callK S k dir name dest data).2.1 = cd := ⟨_, rfl⟩
        have hstp := (callK_step S hk16 dir name dest data).2.2
        rw [hS1, hcd, hst] at hstp
        rw [hS1] at HTK
        have HST := Lib.hid hst
        have HSTP := Lib.hid hstp
        have HCD := Lib.hid hcd
        have HS1 := Lib.hid hS1
        have HKK := Lib.hid hkk
        clear hS hst hstp hcd hS1 HI6 hkk hsto
        obtain ⟨G2, hM, hb2, hn2, hcw⟩ := HFA.out
        have HM := Lib.hid hM
        have HGB := Lib.hid hb2
        have HN2 := Lib.hid hn2
        have HCW1 := Lib.hid hcw
        clear hM hb2 hn2 hcw
        have HNV : Hid (vb ∉ G2.all) := Lib.hid (fun hm => by have := HM.out.lt vb hm; omega)
        go_wp2_with fail
        refine (HF5.out.down).mono ?_
        rintro e w6 ⟨rfl, hc6⟩
        have HF6 := Lib.hid (HF5.out.keep0 hc6)
        have HC6 := Lib.hid hc6
        obtain ⟨dn, hdn'⟩ : ∃ dn, S.down = dn := ⟨_, rfl⟩
        rw [hdn']
        have HDN := Lib.hid hdn'
        rw [hdn'] at hdn
        have HDNB := Lib.hid hdn
        clear hc6 hdn' hdn
        go_wp2_with fail
        refine (HF6.out.steps).mono ?_
        rintro e w6' ⟨rfl, rfl⟩
        rw [HST.out]
        have HM6 := Lib.hid (HM.out.keep0 (HC5.out.trans0 HC6.out))
        have hc16 : Chg [] w1 w6' := HF6.out.chg
        have b2 := (HBK1.out.chg hc16 List.not_mem_nil).cell 2
        have f0 := (HBF1.out.chg hc16 List.not_mem_nil).cell 0
        have f1 := (HBF1.out.chg hc16 List.not_mem_nil).cell 1
        simp only [List.getElem?_toArray, List.getElem?_cons_succ, List.getElem?_cons_zero] at b2 f0 f1
        have HC16 := Lib.hid hc16
        clear hc16 x0 x1 x2 x3 x4 v0 v1 v2 v3 v4
        have hcases : (dn = true ∧ 0 ≤ stop ∧ stop ≤ (st : Int)) ∨ (dn = false ∧ 0 ≤ stop ∧ (st : Int) < stop) ∨ (dn = false ∧ stop < 0) := by
          have h1 := HDNB.out
          unfold downB at h1
          by_cases k1 : 0 ≤ stop
          · by_cases k2 : stop ≤ (st : Int)
            · exact .inl ⟨by rw [h1]; simp [k1, k2], k1, k2⟩
            · exact .inr (.inl ⟨by rw [h1]; simp [k2], k1, by omega⟩)
          · exact .inr (.inr ⟨by rw [h1]; simp [k1], by omega⟩)
        have HDIS : Hid (0 < on → ∀ x ∈ bo oA, x ∉ G2.all ∧ x < w1.heap.size) := Lib.hid (fun h0 x hx => by
          have h1 := HD5.out x hx h0
          have h2 := HC1.out.size
          exact ⟨fun hm => by have := HN2.out x hm; omega, by omega⟩)
        rcases hcases with ⟨rfl, hs0, hs1⟩ | ⟨rfl, hs0, hs1⟩ | ⟨rfl, hs0⟩
        · have hall : callK S k dir name dest data = (S, 80, [], []) := callK_down HDN.out k dir name dest data
          obtain rfl : cd = 80 := by rw [← HCD.out, hall]
          obtain rfl : S1 = S := by rw [← HS1.out, hall]
          have HV0 : Hid (S1.view = []) := Lib.hid (by unfold St.view; rw [if_pos HDN.out])
          clear hall
          go_wp2_with fail
          refine (FsTo.of_durable HM6.out HGB.out HI.out (by have := HBB.out; omega) names ((HK.out.chg HC1.out (fun _ _ => List.not_mem_nil)).chg HC16.out (fun _ _ => List.not_mem_nil)) hkn).mono ?_
          rintro e w7 ⟨⟨A7, n7, c7, ds7, rfl, hds, hdv, hc, hn⟩, hto, _⟩
          have HDS7 := Lib.hid hds.rd
          have HDV7 := Lib.hid hdv
          have HBN7 := Lib.hid (hds.rd.bnd (B := 1073741824) (by rw [hdv]; exact Nat.le_trans ((fun h => siz_left h ks names) HI.out) (by have := HBB.out; omega)))
          have HCC7 := Lib.hid hc
          have HF7 := Lib.hid hto
          have HNE7 : Hid (∀ x ∈ bo A7 ++ dblk ds7, x ∉ G2.all) := Lib.hid (fun x hx hm => by have h1 := hn x hx; have h2 := HM6.out.lt x hm; omega)
          clear hds hdv hc hn hto
          have HV7 := Lib.hid ((HV5.out.chg HC6.out List.not_mem_nil).chg HCC7.out List.not_mem_nil)
          have HC17 := Lib.hid (HC16.out.trans0 HCC7.out)
          have v0 := HV7.out.cell 0
          have v1 := HV7.out.cell 1
          have v2 := HV7.out.cell 2
          have v3 := HV7.out.cell 3
          have v4 := HV7.out.cell 4
          simp only [List.getElem?_toArray, List.getElem?_cons_succ, List.getElem?_cons_zero] at v0 v1 v2 v3 v4
          clear f0 f1 b2
          go_wp2_with fail
          have hcall := HF7.out.call HGB.out HI.out ⟨kind, dir, name, dest, oA, on, oc, data⟩ ((HRD.out.chg HC1.out (fun _ _ => List.not_mem_nil)).chg HC17.out (fun _ _ => List.not_mem_nil)) (by have := HBO.out.1; simp only at this ⊢; omega) (fun h0 x hx => ⟨(HDIS.out h0 x hx).1, Nat.lt_of_lt_of_le (HDIS.out h0 x hx).2 HC17.out.size⟩)
          simp only [HKK.out, HCD.out, HS1.out] at hcall
          refine hcall.mono ?_
          clear hcall
          rintro e w8 ⟨dA, dnn, dc, nA, nn, nc, rfl, hdo, hno, hnw, hf8⟩
          have HV8 := Lib.hid (HV7.out.chg hf8.chg HNV.out)
          obtain ⟨ab, hab⟩ : ∃ ab, w8.heap.size = ab := ⟨_, rfl⟩
          obtain ⟨W8, hW8⟩ : ∃ W8, w8.alloc (.cells #[.int .i64 80, .slice dA dnn dc, .slice nA nn nc] 56) = W8 := ⟨_, rfl⟩
          have hv8 : Blk W8 ab 56 #[.int .i64 80, .slice dA dnn dc, .slice nA nn nc] := by rw [← hW8, ← hab]; exact Blk.new w8 _ _
          have hc8 : Chg [] w8 W8 := by rw [← hW8]; exact (Chg.refl [] w8).alloc _
          have HF8 := Lib.hid (hf8.keep0 hc8)
          have y0 := hv8.cell 0
          have x0 := (HV8.out.chg hc8 List.not_mem_nil).cell 0
          simp only [List.getElem?_toArray, List.getElem?_cons_succ, List.getElem?_cons_zero] at x0 y0
          clear hdo hno hnw hf8 hv8 hc8 v0 v1 v2 v3 v4
          go_upto_region 15 with fail
          rw [HK15.out]
          go_wp2_with fail
          refine (HF8.out.view HGB.out HI.out (by have := HBB.out; omega)).mono ?_
          rintro e w9 ⟨A9, n9, c9, ds9, rfl, hds, hdv, hc, hn⟩
          have HDS9 := Lib.hid hds.rd
          have HDV9 := Lib.hid hdv
          have HBN9 := Lib.hid (hds.rd.bnd (B := 1073741824) (by rw [hdv]; exact Nat.le_trans (siz_view HI.out) (by have := HBB.out; omega)))
          have HCC9 := Lib.hid hc
          have HF9 := Lib.hid (HF8.out.keep0 hc)
          clear hds hdv hc hn
          obtain rfl : n9 = 0 := by
            have h1 := HDV9.out
            rw [HV0.out] at h1
            have h2 : ds9 = [] := by simpa [dval8] using h1
            have h3 := HDS9.out.row.nsl
            rw [h2] at h3
            exact h3.symm
          have hcg : Chg [] w1 w9 := HC17.out.trans HF9.out.chg (fun x hx => .inr (HN2.out x hx))
          have HCG := Lib.hid hcg
          have f0 := (HBF1.out.chg hcg List.not_mem_nil).cell 0
          have f1 := (HBF1.out.chg hcg List.not_mem_nil).cell 1
          simp only [List.getElem?_toArray, List.getElem?_cons_succ, List.getElem?_cons_zero] at f0 f1
          clear hcg x0 y0
          go_wp2_with fail
          refine (HF9.out.durable HGB.out HI.out (by have := HBB.out; omega) names ((HK.out.chg HC1.out (fun _ _ => List.not_mem_nil)).chg HCG.out (fun _ _ => List.not_mem_nil)) hkn).mono ?_
          rintro e w10 ⟨A10, n10, c10, ds10, rfl, hds, hdv, hc, hn⟩
          have HDS10 := Lib.hid hds.rd
          have HDV10 := Lib.hid hdv
          have HBN10 := Lib.hid (hds.rd.bnd (B := 1073741824) (by rw [hdv]; exact Nat.le_trans ((fun h => siz_left h ks names) HI.out) (by have := HBB.out; omega)))
          have HCC10 := Lib.hid hc
          have HF10 := Lib.hid (HF9.out.keep0 hc)
          clear hds hdv hc hn
          have HDR10 := HDS10
          have HDR7 := Lib.hid (HDS7.out.chg HF10.out.chg HNE7.out)
          clear f0 f1
          go_wp2_with fail
          refine (same8_any A10 n10 c10 ds10 A7 n7 c7 ds7 w10 (HDR10.out) (HDR7.out) HBN10.out.1 HBN10.out.2).mono ?_
          rintro e w11 ⟨bb, rfl, hbb, hc⟩
          rw [hbb (by rw [HDV10.out, HDV7.out])]
          have HF11 := Lib.hid (HF10.out.keep0 hc)
          have HCS := Lib.hid hc
          clear hc hbb
          have HST1 : Hid ((S1.steps : Int) = st) := Lib.hid (by rw [HST.out])
          have e1 : ((st : Int) == (st : Int) + 1) = false := beq_eq_false_iff_ne.2 (by omega)
          go_wp2_with fail
          refine (HF11.out.steps HGB.out).mono ?_
          rintro e w12 ⟨rfl, rfl⟩
          rw [HST1.out]
          go_wp2_with fail
          refine (HF11.out.steps HGB.out).mono ?_
          rintro e w13 ⟨rfl, rfl⟩
          rw [HST1.out]
          go_wp2
          go_roundw
          case rel => exact ⟨i + 1, by omega, by go_num, (by rw [HTK.out]; obtain ⟨G9, q1, q2, q3, q4⟩ := HF11.out; exact ⟨G9, q1, q2.trans HGB.out, fun x hx => (q3 x hx).elim (HN2.out x) (fun h => Nat.le_trans HC17.out.size h), HC17.out.trans q4 (fun x hx => .inr (HN2.out x hx))⟩)⟩
          case measure => simp [intOf]; omega
        all_goals
          go_wp2_with fail
          refine (FsTo.of_durable HM6.out HGB.out HI.out (by have := HBB.out; omega) names ((HK.out.chg HC1.out (fun _ _ => List.not_mem_nil)).chg HC16.out (fun _ _ => List.not_mem_nil)) hkn).mono ?_
          rintro e w7 ⟨⟨A7, n7, c7, ds7, rfl, hds, hdv, hc, hn⟩, hto, _⟩
          have HDS7 := Lib.hid hds.rd
          have HDV7 := Lib.hid hdv
          have HBN7 := Lib.hid (hds.rd.bnd (B := 1073741824) (by rw [hdv]; exact Nat.le_trans ((fun h => siz_left h ks names) HI.out) (by have := HBB.out; omega)))
          have HCC7 := Lib.hid hc
          have HF7 := Lib.hid hto
          have HNE7 : Hid (∀ x ∈ bo A7 ++ dblk ds7, x ∉ G2.all) := Lib.hid (fun x hx hm => by have h1 := hn x hx; have h2 := HM6.out.lt x hm; omega)
          clear hds hdv hc hn hto
          have HV7 := Lib.hid ((HV5.out.chg HC6.out List.not_mem_nil).chg HCC7.out List.not_mem_nil)
          have HC17 := Lib.hid (HC16.out.trans0 HCC7.out)
          have v0 := HV7.out.cell 0
          have v1 := HV7.out.cell 1
          have v2 := HV7.out.cell 2
          have v3 := HV7.out.cell 3
          have v4 := HV7.out.cell 4
          simp only [List.getElem?_toArray, List.getElem?_cons_succ, List.getElem?_cons_zero] at v0 v1 v2 v3 v4
          clear f0 f1 b2
          go_wp2_with fail
          have hcall := HF7.out.call HGB.out HI.out ⟨kind, dir, name, dest, oA, on, oc, data⟩ ((HRD.out.chg HC1.out (fun _ _ => List.not_mem_nil)).chg HC17.out (fun _ _ => List.not_mem_nil)) (by have := HBO.out.1; simp only at this ⊢; omega) (fun h0 x hx => ⟨(HDIS.out h0 x hx).1, Nat.lt_of_lt_of_le (HDIS.out h0 x hx).2 HC17.out.size⟩)
          simp only [HKK.out, HCD.out, HS1.out] at hcall
          refine hcall.mono ?_
          clear hcall
          rintro e w8 ⟨dA, dnn, dc, nA, nn, nc, rfl, hdo, hno, hnw, hf8⟩
          have HV8 := Lib.hid (HV7.out.chg hf8.chg HNV.out)
          obtain ⟨ab, hab⟩ : ∃ ab, w8.heap.size = ab := ⟨_, rfl⟩
          obtain ⟨W8, hW8⟩ : ∃ W8, w8.alloc (.cells #[.int .i64 cd, .slice dA dnn dc, .slice nA nn nc] 56) = W8 := ⟨_, rfl⟩
          have hv8 : Blk W8 ab 56 #[.int .i64 cd, .slice dA dnn dc, .slice nA nn nc] := by rw [← hW8, ← hab]; exact Blk.new w8 _ _
          have hc8 : Chg [] w8 W8 := by rw [← hW8]; exact (Chg.refl [] w8).alloc _
          have HF8 := Lib.hid (hf8.keep0 hc8)
          have y0 := hv8.cell 0
          have x0 := (HV8.out.chg hc8 List.not_mem_nil).cell 0
          simp only [List.getElem?_toArray, List.getElem?_cons_succ, List.getElem?_cons_zero] at x0 y0
          clear hdo hno hnw hf8 hv8 hc8 v0 v1 v2 v3 v4
          go_upto_region 15 with fail
          rw [HK15.out]
          have h5 : cd ≠ 0 ∨ (cd = 0 ∧ k < 8) ∨ (cd = 0 ∧ 8 ≤ k ∧ k ≤ 10) ∨ (cd = 0 ∧ 10 < k ∧ k < 15) ∨ (cd = 0 ∧ k = 15) := by omega
          rcases h5 with h5 | ⟨rfl, h5⟩ | ⟨rfl, h5, h6⟩ | ⟨rfl, h5, h6⟩ | ⟨rfl, rfl⟩
          · have c1 : (cd == 0) = false := beq_eq_false_iff_ne.2 h5
            have HST1 : Hid ((S1.steps : Int) = st) := Lib.hid (by rw [HSTP.out, if_neg (fun h => h5 h.1)]; rfl)
            have e1 : ((st : Int) == (st : Int) + 1) = false := beq_eq_false_iff_ne.2 (by omega)
            go_wp2_with fail
            refine (HF8.out.steps HGB.out).mono ?_
            rintro e w12 ⟨rfl, rfl⟩
            rw [HST1.out]
            go_wp2_with fail
            refine (HF8.out.steps HGB.out).mono ?_
            rintro e w13 ⟨rfl, rfl⟩
            rw [HST1.out]
            go_wp2
            go_roundw
            case rel => exact ⟨i + 1, by omega, by go_num, (by rw [HTK.out]; obtain ⟨G9, q1, q2, q3, q4⟩ := HF8.out; exact ⟨G9, q1, q2.trans HGB.out, fun x hx => (q3 x hx).elim (HN2.out x) (fun h => Nat.le_trans HC17.out.size h), HC17.out.trans q4 (fun x hx => .inr (HN2.out x hx))⟩)⟩
            case measure => simp [intOf]; omega
          · have h7 : (k : Int) < 8 := by omega
            have HST1 : Hid ((S1.steps : Int) = (st : Int) + 1) := Lib.hid (by rw [HSTP.out, if_pos ⟨rfl, by unfold chK; simp <;> omega⟩]; rfl)
            go_wp2_with fail
            refine (HF8.out.steps HGB.out).mono ?_
            rintro e w12 ⟨rfl, rfl⟩
            rw [HST1.out]
            go_wp2
            go_roundw
            case rel => exact ⟨i + 1, by omega, by go_num, (by rw [HTK.out]; obtain ⟨G9, q1, q2, q3, q4⟩ := HF8.out; exact ⟨G9, q1, q2.trans HGB.out, fun x hx => (q3 x hx).elim (HN2.out x) (fun h => Nat.le_trans HC17.out.size h), HC17.out.trans q4 (fun x hx => .inr (HN2.out x hx))⟩)⟩
            case measure => simp [intOf]; omega
          · have h7 : ¬ (k : Int) < 8 := by omega
            have h8 : ¬ (10 : Int) < k := by omega
            have HST1 : Hid ((S1.steps : Int) = st) := Lib.hid (by rw [HSTP.out, if_neg (by unfold chK; simp <;> omega)]; rfl)
            have e1 : ((st : Int) == (st : Int) + 1) = false := beq_eq_false_iff_ne.2 (by omega)
            go_wp2_with fail
            refine (HF8.out.steps HGB.out).mono ?_
            rintro e w12 ⟨rfl, rfl⟩
            rw [HST1.out]
            go_wp2_with fail
            refine (HF8.out.steps HGB.out).mono ?_
            rintro e w13 ⟨rfl, rfl⟩
            rw [HST1.out]
            go_wp2
            go_roundw
            case rel => exact ⟨i + 1, by omega, by go_num, (by rw [HTK.out]; obtain ⟨G9, q1, q2, q3, q4⟩ := HF8.out; exact ⟨G9, q1, q2.trans HGB.out, fun x hx => (q3 x hx).elim (HN2.out x) (fun h => Nat.le_trans HC17.out.size h), HC17.out.trans q4 (fun x hx => .inr (HN2.out x hx))⟩)⟩
            case measure => simp [intOf]; omega
          · have h7 : ¬ (k : Int) < 8 := by omega
            have h8 : (10 : Int) < k := by omega
            have h9 : (k : Int) < 15 := by omega
            have HST1 : Hid ((S1.steps : Int) = (st : Int) + 1) := Lib.hid (by rw [HSTP.out, if_pos ⟨rfl, by unfold chK; simp <;> omega⟩]; rfl)
            go_wp2_with fail
            refine (HF8.out.steps HGB.out).mono ?_
            rintro e w12 ⟨rfl, rfl⟩
            rw [HST1.out]
            go_wp2
            go_roundw
            case rel => exact ⟨i + 1, by omega, by go_num, (by rw [HTK.out]; obtain ⟨G9, q1, q2, q3, q4⟩ := HF8.out; exact ⟨G9, q1, q2.trans HGB.out, fun x hx => (q3 x hx).elim (HN2.out x) (fun h => Nat.le_trans HC17.out.size h), HC17.out.trans q4 (fun x hx => .inr (HN2.out x hx))⟩)⟩
            case measure => simp [intOf]; omega
          · have HST1 : Hid ((S1.steps : Int) = st) := Lib.hid (by rw [HSTP.out, if_neg (by unfold chK; simp <;> omega)]; rfl)
            have e1 : ((st : Int) == (st : Int) + 1) = false := beq_eq_false_iff_ne.2 (by omega)
            go_wp2_with fail
            refine (HF8.out.steps HGB.out).mono ?_
            rintro e w12 ⟨rfl, rfl⟩
            rw [HST1.out]
            go_wp2_with fail
            refine (HF8.out.steps HGB.out).mono ?_
            rintro e w13 ⟨rfl, rfl⟩
            rw [HST1.out]
            go_wp2
            go_roundw
            case rel => exact ⟨i + 1, by omega, by go_num, (by rw [HTK.out]; obtain ⟨G9, q1, q2, q3, q4⟩ := HF8.out; exact ⟨G9, q1, q2.trans HGB.out, fun x hx => (q3 x hx).elim (HN2.out x) (fun h => Nat.le_trans HC17.out.size h), HC17.out.trans q4 (fun x hx => .inr (HN2.out x hx))⟩)⟩
            case measure => simp [intOf]; omega
      · obtain rfl : i = sn := by omega
        go_wp2
        go_ret
        exact ⟨rfl, HCR.out⟩
end Go.Proofs.Ytgomofeidghmiaa
