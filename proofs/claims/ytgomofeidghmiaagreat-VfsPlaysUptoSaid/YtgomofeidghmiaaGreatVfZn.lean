/-
  Layer 08: the walk of VfsPlays.
-/
import Derived.Test.YtgomofeidghmiaaGreatVfZk
namespace Go.Proofs.YtgomofeidghmiaaGreat
open Go.RowKit

theorem names_len {B : Nat} {S : St} (hi : Inv B S) (m : Nat) (d n t : ByteArray) (xs : List Int) : (callK S m d n t xs).2.2.2.length ≤ B := by
  have hl : (S.list d).1.length ≤ B := by
    unfold St.list
    split
    · simp
    · have h1 := wd_fol S.seen d
      have h2 := hi.wd
      simp only [List.length_map]
      omega
  have hd : S.dirs.1.length ≤ B := by
    unfold St.dirs
    split
    · simp
    · have h1 := wd_len S.seen
      have h2 := hi.wd
      simp only [List.length_map]
      omega
  unfold callK
  split <;> first | exact hl | exact hd | simp
section bth
variable {w0 w w' : World} {p q : Nat} {S S2 : St} {X : List Nat} {B : Nat}
theorem Bth.steps (h : Bth w0 w p q S S2 X) : Calls Tryz.prog 11 #[.pointer (some ⟨p, 0, none⟩)] w fun e w' => e = .returned (.int .i64 (S.steps : Int)) ∧ w' = w := by
  obtain ⟨G, R, hg, hr, rfl, rfl, _⟩ := h
  exact steps_any G.b S.steps w (by simpa using hg.blk.cell 6)
theorem Bth.st7 (h : Bth w0 w p q S S2 X) : w.cell? ⟨q, 7, none⟩ = some (.int .i64 (S2.steps : Int)) := by
  obtain ⟨G, R, hg, hr, rfl, rfl, _⟩ := h
  simpa using hr.blk.cell 7
theorem Bth.down (h : Bth w0 w p q S S2 X) : Calls Tryz.prog 12 #[.pointer (some ⟨p, 0, none⟩)] w fun e w' => e = .returned (.bool S.down) ∧ Chg [] w w' := by
  obtain ⟨G, R, hg, hr, rfl, rfl, _⟩ := h
  exact down_st hg
theorem Bth.rdown (h : Bth w0 w p q S S2 X) : Calls Tryz.prog 13 #[.pointer (some ⟨q, 0, none⟩)] w fun e w' => e = .returned (.bool S2.down) ∧ Chg [] w w' := by
  obtain ⟨G, R, hg, hr, rfl, rfl, _⟩ := h
  exact hr.down
theorem Bth.used (h : Bth w0 w p q S S2 X) (hi : Inv B S) (hB : B ≤ 1073741824) : Calls Tryz.prog 14 #[.pointer (some ⟨p, 0, none⟩)] w fun e w' => e = .returned (.int .i64 (S.used : Int)) ∧ Chg [] w w' := by
  obtain ⟨G, R, hg, hr, rfl, rfl, _⟩ := h
  exact used_st hg hi hB
theorem Bth.rused (h : Bth w0 w p q S S2 X) (hi : Inv B S2) (hB : B ≤ 1073741824) : Calls Tryz.prog 15 #[.pointer (some ⟨q, 0, none⟩)] w fun e w' => e = .returned (.int .i64 (S2.used : Int)) ∧ Chg [] w w' := by
  obtain ⟨G, R, hg, hr, rfl, rfl, _⟩ := h
  exact rused_any hr hi hB
end bth

set_option maxRecDepth 100000 in
set_option maxHeartbeats 12800000 in
theorem lvplays_any (A : Option Addr) (n c : Nat) (ds : List DM) (quota stop : Int) (SA : Option Addr) (sn sc : Nat) (os : List O8) (w : World)
    (hd : DirsR w A n c ds) (hs : Scr8 w SA sn os) (hq : quota ≤ 9223372036854775807) (hB : bulk8 (dval8 ds) + opsB os + 4 ≤ 536870912) (hsn : sn ≤ 1073741824) :
    Calls Tryz.prog 3 #[.agg #[.slice A n c, .int .i64 quota, .int .i64 stop], .slice SA sn sc] w fun e w' => e = .returned (.bool true) ∧ Chg [] w w' := by
  have HD := Lib.hid hd
  have HS := Lib.hid hs
  have HB := Lib.hid hB
  have HBN := Lib.hid (bulk8_bnd hd (B := 1073741824) (by omega))
  have HL := Lib.hid hs.1
  clear hd hs hB
  go_enter Tryz.func3, Tryz.ntmps3
  obtain ⟨sb, hsb⟩ : ∃ sb, w.heap.size = sb := ⟨_, rfl⟩
  obtain ⟨W, hW⟩ : ∃ W, w.alloc (.cells #[.slice A n c, .int .i64 quota, .int .i64 stop] 24) = W := ⟨_, rfl⟩
  have hbk : Blk W sb 24 #[.slice A n c, .int .i64 quota, .int .i64 stop] := by rw [← hW, ← hsb]; exact Blk.new w _ _
  have hcW : Chg [] w W := by rw [← hW]; exact (Chg.refl [] w).alloc _
  have HBK := Lib.hid hbk
  have HCW := Lib.hid hcW
  clear hbk hcW
  go_wp2_with fail
  refine (speaks_any _).mono ?_
  rintro e w1 ⟨rfl, hc1⟩
  have HC1 : Hid (Chg [] w w1) := Lib.hid (HCW.out.trans0 hc1)
  have b0 := (HBK.out.chg hc1 List.not_mem_nil).cell 0
  have b1 := (HBK.out.chg hc1 List.not_mem_nil).cell 1
  have b2 := (HBK.out.chg hc1 List.not_mem_nil).cell 2
  simp only [List.getElem?_toArray, List.getElem?_cons_succ, List.getElem?_cons_zero] at b0 b1 b2
  have HBK1 := Lib.hid (HBK.out.chg hc1 List.not_mem_nil)
  clear hc1
  go_wp2_with fail
  refine (lawopen_any w1 A n c ds quota stop (HD.out.chg0 HC1.out) HBN.out.1 (by have := HB.out; omega) HBN.out.2.2.2).mono ?_
  rintro e w2 hop
  rcases hop with ⟨h0, rfl, hc⟩ | ⟨h0, G, R, rfl, hF, hR, hnG, hnR, hdis, hc⟩
  · have HC2 := Lib.hid (HC1.out.trans0 hc)
    clear h0 hc b0 b1 b2
    go_wp2
    go_ret
    exact ⟨rfl, HC2.out⟩
  ·
    have HQ0 := Lib.hid h0
    obtain ⟨S0, hS0⟩ : ∃ S0, openS (dval8 ds) quota stop = S0 := ⟨_, rfl⟩
    rw [hS0] at hF hR
    have HI0 : Hid (Inv (bulk8 (dval8 ds)) S0) := Lib.hid (by rw [← hS0]; exact inv_open h0 hq)
    have HS0 := Lib.hid hS0
    have HF2 : Hid (Bth w1 w2 G.b R.b S0 S0 []) := Lib.hid ⟨G, R, hF, hR, rfl, rfl, hnG, hnR, hdis, fun _ hx => absurd hx List.not_mem_nil, hc⟩
    have HC2 := Lib.hid (HC1.out.trans0 hc)
    have HD2 := Lib.hid (HD.out.chg0 HC2.out)
    obtain ⟨p, hp⟩ : ∃ p, G.b = p := ⟨_, rfl⟩
    obtain ⟨q, hq2⟩ : ∃ q, R.b = q := ⟨_, rfl⟩
    rw [hp, hq2] at HF2
    rw [hp, hq2]
    clear h0 hF hR hnG hnR hdis hc hp hq2 hS0 b0 b1 b2
    go_wp2
    go_loopw [30] (fun z wr => ∃ i : Nat, i ≤ sn ∧ z = .int .i64 i ∧ Bth w1 wr p q (runO S0 (os.take i)) (runO S0 (os.take i)) []) (fun z _ => sn - (intOf z).toNat)
    case atStart => exact ⟨0, Nat.zero_le _, rfl, HF2.out⟩
    case round =>
      obtain ⟨i, hi, rfl, hfa⟩ := hrel
      have HFA := Lib.hid hfa
      have HCR : Hid (Chg [] w wr) := Lib.hid (HC1.out.trans0 hfa.chg)
      clear hfa
      by_cases hlt : i < sn
      ·
        have hlt' : (i : Int) < sn := by omega
        obtain ⟨o, ho⟩ : ∃ o, os[i]? = some o := ⟨_, List.getElem?_eq_getElem (by have := HL.out; omega)⟩
        obtain ⟨ad, rfl, hat, hrd⟩ := HS.out.at_ ho
        have hat2 := hat.chg HCR.out List.not_mem_nil
        have x0 := hat2.c0
        have x1 := hat2.c1
        have x2 := hat2.c2
        have x3 := hat2.c3
        have x4 := hat2.c4
        have HRD := Lib.hid hrd
        have HTK : Hid (runO S0 (os.take (i + 1)) = (callK (runO S0 (os.take i)) (kd o.kind) o.dir o.name o.dest o.data).1) := Lib.hid (by rw [take_snoc os i o ho, runO_snoc])
        have HBO : Hid (bulk8 (dval8 ds) + opsB (os.take i) + o.n + 4 ≤ 536870912 ∧ opsB (os.take (i + 1)) ≤ opsB os) := Lib.hid (by
          have h1 := opsB_take os (i + 1)
          have h2 := h1
          rw [take_snoc os i o ho, opsB_snoc, hrd.blen] at h2
          have h3 := HB.out
          exact ⟨by omega, h1⟩)
        have HI := Lib.hid (HI0.out.runO (os.take i))
        have HI6 := Lib.hid (HI0.out.runO (os.take (i + 1)))
        clear hat hat2 hrd ho
        obtain ⟨kind, dir, name, dest, oA, on, oc, data⟩ := o
        simp only at x0 x1 x2 x3 x4
        obtain ⟨vb, hvb⟩ : ∃ vb, wr.heap.size = vb := ⟨_, rfl⟩
        obtain ⟨W5, hW5⟩ : ∃ W5, wr.alloc (.cells #[.int .i64 kind, .string dir, .string name, .string dest, .slice oA on oc] 33) = W5 := ⟨_, rfl⟩
        have hv5 : Blk W5 vb 33 #[.int .i64 kind, .string dir, .string name, .string dest, .slice oA on oc] := by rw [← hW5, ← hvb]; exact Blk.new wr _ _
        have hc5 : Chg [] wr W5 := by rw [← hW5]; exact (Chg.refl [] wr).alloc _
        have v0 := hv5.cell 0
        have v1 := hv5.cell 1
        have v2 := hv5.cell 2
        have v3 := hv5.cell 3
        have v4 := hv5.cell 4
        simp only [List.getElem?_toArray, List.getElem?_cons_succ, List.getElem?_cons_zero] at v0 v1 v2 v3 v4
        have HF5 := Lib.hid (HFA.out.add (Y := [vb]) hc5 (fun x hx => by simp only [List.mem_singleton] at hx; subst hx; exact ⟨Nat.le_of_eq hvb, hv5.lt⟩))
        have HV5 := Lib.hid hv5
        have HC5 := Lib.hid hc5
        clear hv5 hc5
        obtain ⟨⟨S1, cd, zs, ns⟩, hrr⟩ : ∃ r, callK (runO S0 (os.take i)) (kd kind) dir name dest data = r := ⟨_, rfl⟩
        have HRR := Lib.hid hrr
        have hnb := names_len HI.out (kd kind) dir name dest data
        rw [hrr] at hnb
        simp only at hnb
        have HTK1 : Hid (runO S0 (os.take (i + 1)) = S1) := Lib.hid (by rw [HTK.out]; simp only [hrr])
        have HNB : Hid (ns.length ≤ 1073741824) := Lib.hid (by have := HBO.out.1; omega)
        clear hrr hnb
        go_wp2_with fail
        have hcall := HF5.out.call HI.out ⟨kind, dir, name, dest, oA, on, oc, data⟩ (HRD.out.chg HC1.out (fun _ _ => List.not_mem_nil)) (by have := HBO.out.1; simp only at this ⊢; omega)
        simp only [HRR.out] at hcall
        refine hcall.mono ?_
        clear hcall
        rintro e w6 ⟨dA, dn, dc, nA, nn, nc, L6, rfl, hdo, hno, hc6, hl6, hf6⟩
        have HV6 := Lib.hid (HV5.out.chg hc6 (hl6 vb (by simp)))
        have HDA6 := Lib.hid hdo
        have HNA6 := Lib.hid hno
        have hnn : nn ≤ 1073741824 := by have h1 := hno.1; have h2 := HNB.out; simp [svs] at h1; omega
        have hdn : (dn : Int) ≤ 9223372036854775807 := by have h1 := hdo.rd.2.1; have h2 := hdo.rd.2.2.1; unfold maxLen at h2; omega
        obtain ⟨ab, hab⟩ : ∃ ab, w6.heap.size = ab := ⟨_, rfl⟩
        obtain ⟨W8, hW8⟩ : ∃ W8, w6.alloc (.cells #[.int .i64 cd, .slice dA dn dc, .slice nA nn nc] 36) = W8 := ⟨_, rfl⟩
        have hb8 : Blk W8 ab 36 #[.int .i64 cd, .slice dA dn dc, .slice nA nn nc] := by rw [← hW8, ← hab]; exact Blk.new w6 _ _
        have hc8 : Chg [] w6 W8 := by rw [← hW8]; exact (Chg.refl [] w6).alloc _
        have HB8 := Lib.hid hb8
        have HC8 := Lib.hid hc8
        have HV8 := Lib.hid (HV6.out.chg hc8 List.not_mem_nil)
        have HF8 := Lib.hid (hf6.add (Y := [ab]) hc8 (fun x hx => by simp only [List.mem_singleton] at hx; subst hx; exact ⟨Nat.le_of_eq hab, hb8.lt⟩))
        clear x0 x1 x2 x3 x4 v0 v1 v2 v3 v4 hdo hno hc6 hl6 hf6 hb8 hc8
        go_upto_region 10 with fail
        refine wp_region_held_drew (S := fun w' => Blk w' ab 36 #[.int .i64 cd, .slice dA dn dc, .slice nA nn nc] ∧ Blk w' vb 33 #[.int .i64 kind, .string dir, .string name, .string dest, .slice oA on oc]) (by kernel_rfl) (⟨HB8.out.drew, HV8.out.drew⟩) (fun hHeld => ?_)
        refine wpAnyH_take (i := 0) (v := ?_) rfl (by kernel_rfl) (by kernel_rfl) (by kernel_rfl) (fun _ _ _ h => h) (Or.inl ⟨by rfl, ?_⟩) (by assumption) ?_
        rotate_left
        · (intro w' hSw; have y0 := hSw.1.cell 0; have y1 := hSw.1.cell 1; have y2 := hSw.1.cell 2; simp only [List.getElem?_toArray, List.getElem?_cons_succ, List.getElem?_cons_zero] at y0 y1 y2; go_simp; try with_reducible rfl)
        try simp only [Act.put, put8]
        refine wpAnyH_take (i := 1) (v := ?_) rfl (by kernel_rfl) (by kernel_rfl) (by kernel_rfl) (fun _ _ _ h => h) (Or.inl ⟨by rfl, ?_⟩) (by assumption) ?_
        rotate_left
        · (intro w' hSw; go_simp; try with_reducible rfl)
        try simp only [Act.put, put8]
        refine wpAnyH_take (i := 2) (v := ?_) rfl (by kernel_rfl) (by kernel_rfl) (by kernel_rfl) (fun _ _ _ h => h) (Or.inl ⟨by rfl, ?_⟩) (by assumption) ?_
        rotate_left
        · (intro w' hSw; have y0 := hSw.2.cell 0; have y1 := hSw.2.cell 1; have y2 := hSw.2.cell 2; have y3 := hSw.2.cell 3; have y4 := hSw.2.cell 4; simp only [List.getElem?_toArray, List.getElem?_cons_succ, List.getElem?_cons_zero] at y0 y1 y2 y3 y4; go_simp; try with_reducible rfl)
        try simp only [Act.put, put8]
        refine wpAnyH_ready (rs := [3]) (by kernel_rfl) (by simp) ?_
        refine AllReadyH.cons rfl (fun K hK => ?_) (AllReadyH.nil)
        go_simp
        have hmod := (HF8.out.keep0 ((Chg.refl [] W8).drew)).model HI.out ⟨kind, dir, name, dest, oA, on, oc, data⟩ (HRD.out.chg HC1.out (fun _ _ => List.not_mem_nil)) (by have := HBO.out.1; simp only at this ⊢; omega)
        simp only [HRR.out] at hmod
        refine hmod.mono ?_
        clear hmod
        rintro ee w9 ⟨dA2, dn2, dc2, nA2, nn2, nc2, L9, rfl, hdo2, hno2, hc9, hl9, hf9⟩
        have HF9 := Lib.hid hf9
        have HB9 := Lib.hid (HB8.out.drew.chg hc9 (hl9 ab (by simp)))
        have HV9 := Lib.hid (HV8.out.drew.chg hc9 (hl9 vb (by simp)))
        have hcd9 : Chg L9 w6 w9 := ((HC8.out.drew).nil L9).trans hc9 (fun x hx => .inl hx)
        have HDA9 : Hid (Own w9 5 1 dA dn dc (bv zs)) := Lib.hid (HDA6.out.chg hcd9 (fun x hx => hl9 x (by simp [hx])))
        have HNA9 : Hid (Own w9 9 1 nA nn nc (svs ns)) := Lib.hid (HNA6.out.chg hcd9 (fun x hx => hl9 x (by simp [hx])))
        have HDA2 := Lib.hid hdo2
        have HNA2 := Lib.hid hno2
        clear hdo2 hno2 hc9 hl9 hf9 hcd9
        refine hK.out _ _ (⟨HB9.out, HV9.out⟩) (fun hHeld => ?_)
        try simp only [Act.put, put8]
        clear hK K
        refine wpAnyH_ready (rs := [4]) (by kernel_rfl) (by simp) ?_
        refine AllReadyH.cons rfl (fun K hK => ?_) (AllReadyH.nil)
        go_simp
        refine (lsame_any cd dA dn dc dA2 dn2 dc2 zs nA nn nc nA2 nn2 nc2 ns w9 HDA9.out.rd HDA2.out.rd HNA9.out.rd HNA2.out.rd hnn).mono ?_
        rintro ee w10 ⟨rfl, hc⟩
        have HC10 := Lib.hid hc
        clear hc
        refine hK.out _ _ (⟨HB9.out.chg HC10.out List.not_mem_nil, HV9.out.chg HC10.out List.not_mem_nil⟩) (fun hHeld => ?_)
        try simp only [Act.put, put8]
        clear hK K
        refine wpAnyH_take (i := 5) (v := ?_) rfl (by kernel_rfl) (by kernel_rfl) (by kernel_rfl) (fun _ _ _ h => h) (Or.inl ⟨by rfl, ?_⟩) (by assumption) ?_
        rotate_left
        · (intro w' hSw; go_simp; try with_reducible rfl)
        try simp only [Act.put, put8]
        refine wpAnyH_done (by kernel_rfl) ?_ _
        try simp only [Act.put, put8]
        have HB10 := Lib.hid (HB9.out.chg HC10.out List.not_mem_nil)
        have HF10 := Lib.hid (HF9.out.keep0 HC10.out)
        have HDA10 := Lib.hid (HDA9.out.chg HC10.out (fun _ _ => List.not_mem_nil))
        have HNA10 := Lib.hid (HNA9.out.chg HC10.out (fun _ _ => List.not_mem_nil))
        have HND : Hid (ab ∉ bo dA) := Lib.hid (fun hm => HDA10.out.blk_ne HB10.out (by decide) ab hm rfl)
        have HNN : Hid (ab ∉ bo nA) := Lib.hid (fun hm => HNA10.out.blk_ne HB10.out (by decide) ab hm rfl)
        have HDN2 : Hid (∀ x ∈ bo nA, x ∉ bo dA) := Lib.hid (HNA10.out.own_ne HDA10.out (by decide))
        have y1 := HB10.out.cell 1
        have y2 := HB10.out.cell 2
        simp only [List.getElem?_toArray, List.getElem?_cons_succ, List.getElem?_cons_zero] at y1 y2
        clear hHeld hab hW8
        go_wp2
        go_loopw [46] (fun z wi => ∃ (j : Nat) (vs : List Value), j ≤ dn ∧ z = .int .i64 j ∧ Own wi 5 1 dA dn dc vs ∧ Chg (bo dA) w10 wi) (fun z _ => dn - (intOf z).toNat)
        case atStart => exact ⟨0, _, Nat.zero_le _, rfl, HDA10.out, Chg.refl _ _⟩
        case round =>
          obtain ⟨j, vs, hj, rfl, hoj, hcj⟩ := hrel
          obtain ⟨wk, hwk⟩ : ∃ wk : World, wk = wr := ⟨_, rfl⟩
          subst hwk
          have HCJ := Lib.hid hcj
          have z1 := HCJ.out.cell y1 HND.out
          clear hcj
          by_cases hjl : j < dn
          · have hjl' : (j : Int) < dn := by omega
            obtain ⟨cd2, u, hcd2, hxj, hcx, hfz, hset⟩ := hoj.at1 hjl
            have HSET := Lib.hid hset
            subst hcd2
            clear hxj hset hoj y1 y2
            go_wp2
            go_roundw
            case rel => exact ⟨j + 1, _, by omega, by go_num, HSET.out _, HCJ.out.setCell (.inl (by rw [add_block]; simp)) _⟩
            case measure => simp [intOf]; omega
          · obtain rfl : j = dn := by omega
            have HF11 : Hid (Bth w1 wk p q S1 S1 (bo dA ++ bo nA)) := Lib.hid ((HF10.out.sub (Y := bo dA ++ bo nA) (fun _ hx => List.mem_append_right _ (List.mem_append_left _ hx))).keep HCJ.out (fun x hx => List.mem_append_left _ hx))
            have HNA11 := Lib.hid (HNA10.out.chg HCJ.out HDN2.out)
            have y3 := HCJ.out.cell y2 HND.out
            clear hoj y1 y2 z1
            go_wp2
            go_loopw [57] (fun z wi => ∃ (j : Nat) (vs : List Value), j ≤ nn ∧ z = .int .i64 j ∧ Own wi 9 1 nA nn nc vs ∧ Chg (bo nA) wk wi) (fun z _ => nn - (intOf z).toNat)
            case atStart => exact ⟨0, _, Nat.zero_le _, rfl, HNA11.out, Chg.refl _ _⟩
            case round =>
              obtain ⟨j, vs, hj, rfl, hoj, hcj⟩ := hrel
              obtain ⟨wm, hwk⟩ : ∃ wm : World, wm = wr := ⟨_, rfl⟩
              subst hwk
              have HCM := Lib.hid hcj
              have z1 := HCM.out.cell y3 HNN.out
              clear hcj
              by_cases hjl : j < nn
              · have hjl' : (j : Int) < nn := by omega
                obtain ⟨cd2, u, hcd2, hxj, hcx, hfz, hset⟩ := hoj.at1 hjl
                have HSET := Lib.hid hset
                subst hcd2
                clear hxj hset hoj y3
                go_wp2
                go_roundw
                case rel => exact ⟨j + 1, _, by omega, by go_num, HSET.out _, HCM.out.setCell (.inl (by rw [add_block]; simp)) _⟩
                case measure => simp [intOf]; omega
              · obtain rfl : j = nn := by omega
                obtain ⟨w12, hw12⟩ : ∃ w12 : World, w12 = wm := ⟨_, rfl⟩
                subst hw12
                have HF12 : Hid (Bth w1 w12 p q S1 S1 []) := Lib.hid ((HF11.out.keep HCM.out (fun x hx => List.mem_append_right _ hx)).sub (fun _ hx => absurd hx List.not_mem_nil))
                obtain ⟨st, hst⟩ : ∃ st : Int, (S1.steps : Int) = st := ⟨_, rfl⟩
                obtain ⟨dw, hdw⟩ : ∃ dw, S1.down = dw := ⟨_, rfl⟩
                obtain ⟨us, hus⟩ : ∃ us : Int, (S1.used : Int) = us := ⟨_, rfl⟩
                have r7 := HF12.out.st7
                rw [hst] at r7
                have HST := Lib.hid hst
                have HDN := Lib.hid hdw
                have HU := Lib.hid hus
                have hi6 := HI6.out
                rw [HTK1.out] at hi6
                have HI6 := Lib.hid hi6
                have HBS6 : Hid (bulk8 (dval8 ds) + opsB (os.take (i + 1)) ≤ 1073741824) := Lib.hid (by have h1 := HBO.out.2; have h2 := HB.out; omega)
                clear hoj y3 z1 hst hdw hus hi6
                go_wp2_with fail
                refine wp_region_held_drew (S := fun w' => Chg [] w12 w') (by kernel_rfl) ((Chg.refl _ _).drew) (fun hHeld => ?_)
                refine wpAnyH_take (i := 0) (v := ?_) rfl (by kernel_rfl) (by kernel_rfl) (by kernel_rfl) (fun _ _ _ h => h) (Or.inl ⟨by rfl, ?_⟩) (by assumption) ?_
                rotate_left
                · (intro w' hSw; go_simp; try with_reducible rfl)
                try simp only [Act.put, put8]
                refine wpAnyH_take (i := 2) (v := ?_) rfl (by kernel_rfl) (by kernel_rfl) (by kernel_rfl) (fun _ _ _ h => h) (Or.inl ⟨by rfl, ?_⟩) (by assumption) ?_
                rotate_left
                · (intro w' hSw; go_simp; try with_reducible rfl)
                try simp only [Act.put, put8]
                refine wpAnyH_take (i := 3) (v := ?_) rfl (by kernel_rfl) (by kernel_rfl) (by kernel_rfl) (fun _ _ _ h => h) (Or.inl ⟨by rfl, ?_⟩) (by assumption) ?_
                rotate_left
                · (intro w' hSw; go_simp; try with_reducible rfl)
                try simp only [Act.put, put8]
                refine wpAnyH_take (i := 4) (v := ?_) rfl (by kernel_rfl) (by kernel_rfl) (by kernel_rfl) (fun _ _ _ h => h) (Or.inl ⟨by rfl, ?_⟩) (by assumption) ?_
                rotate_left
                · (intro w' hSw; go_simp; try with_reducible rfl)
                try simp only [Act.put, put8]
                refine wpAnyH_take (i := 5) (v := ?_) rfl (by kernel_rfl) (by kernel_rfl) (by kernel_rfl) (fun _ _ _ h => h) (Or.inl ⟨by rfl, ?_⟩) (by assumption) ?_
                rotate_left
                · (intro w' hSw; have y := hSw.cell r7 List.not_mem_nil; go_simp; try with_reducible rfl)
                try simp only [Act.put, put8]
                refine wpAnyH_ready (rs := [1]) (by kernel_rfl) (by simp) ?_
                refine AllReadyH.cons rfl (fun K hK => ?_) (AllReadyH.nil)
                go_simp
                refine ((HF12.out.keep0 hHeld).steps).mono ?_
                rintro ee wh ⟨rfl, rfl⟩
                rw [HST.out]
                refine hK.out _ _ (hHeld) (fun hHeld => ?_)
                try simp only [Act.put, put8]
                clear hK K
                refine wpAnyH_take (i := 6) (v := ?_) rfl (by kernel_rfl) (by kernel_rfl) (by kernel_rfl) (fun _ _ _ h => h) (Or.inl ⟨by rfl, ?_⟩) (by assumption) ?_
                rotate_left
                · (intro w' hSw; go_simp; try with_reducible rfl)
                try simp only [Act.put, put8]
                refine wpAnyH_take (i := 7) (v := ?_) rfl (by kernel_rfl) (by kernel_rfl) (by kernel_rfl) (fun _ _ _ h => h) (Or.inl ⟨by rfl, ?_⟩) (by assumption) ?_
                rotate_left
                · (intro w' hSw; go_simp; try with_reducible rfl)
                try simp only [Act.put, put8]
                refine wpAnyH_take (i := 8) (v := ?_) rfl (by kernel_rfl) (by kernel_rfl) (by kernel_rfl) (fun _ _ _ h => h) (Or.inl ⟨by rfl, ?_⟩) (by assumption) ?_
                rotate_left
                · (intro w' hSw; go_simp; try with_reducible rfl)
                try simp only [Act.put, put8]
                refine wpAnyH_take (i := 10) (v := ?_) rfl (by kernel_rfl) (by kernel_rfl) (by kernel_rfl) (fun _ _ _ h => h) (Or.inl ⟨by rfl, ?_⟩) (by assumption) ?_
                rotate_left
                · (intro w' hSw; go_simp; try with_reducible rfl)
                try simp only [Act.put, put8]
                refine wpAnyH_ready (rs := [9]) (by kernel_rfl) (by simp) ?_
                refine AllReadyH.cons rfl (fun K hK => ?_) (AllReadyH.nil)
                go_simp
                refine ((HF12.out.keep0 hHeld).down).mono ?_
                rintro ee wi ⟨rfl, hc⟩
                rw [HDN.out]
                have hHi := hHeld.trans0 hc
                clear hc
                refine hK.out _ _ (hHi) (fun hHeld => ?_)
                try simp only [Act.put, put8]
                clear hK K
                refine wpAnyH_ready (rs := [11]) (by kernel_rfl) (by simp) ?_
                refine AllReadyH.cons rfl (fun K hK => ?_) (AllReadyH.nil)
                go_simp
                refine ((HF12.out.keep0 hHi).rdown).mono ?_
                rintro ee wj ⟨rfl, hc⟩
                rw [HDN.out]
                have hHj := hHi.trans0 hc
                clear hc
                refine hK.out _ _ (hHj) (fun hHeld => ?_)
                try simp only [Act.put, put8]
                clear hK K
                refine wpAnyH_take (i := 12) (v := ?_) rfl (by kernel_rfl) (by kernel_rfl) (by kernel_rfl) (fun _ _ _ h => h) (Or.inl ⟨by rfl, ?_⟩) (by assumption) ?_
                rotate_left
                · (intro w' hSw; go_simp; try with_reducible rfl)
                try simp only [Act.put, put8]
                refine wpAnyH_take (i := 13) (v := ?_) rfl (by kernel_rfl) (by kernel_rfl) (by kernel_rfl) (fun _ _ _ h => h) (Or.inl ⟨by rfl, ?_⟩) (by assumption) ?_
                rotate_left
                · (intro w' hSw; go_simp; try with_reducible rfl)
                try simp only [Act.put, put8]
                refine wpAnyH_take (i := 14) (v := ?_) rfl (by kernel_rfl) (by kernel_rfl) (by kernel_rfl) (fun _ _ _ h => h) (Or.inl ⟨by rfl, ?_⟩) (by assumption) ?_
                rotate_left
                · (intro w' hSw; go_simp; try with_reducible rfl)
                try simp only [Act.put, put8]
                refine wpAnyH_take (i := 15) (v := ?_) rfl (by kernel_rfl) (by kernel_rfl) (by kernel_rfl) (fun _ _ _ h => h) (Or.inl ⟨by rfl, ?_⟩) (by assumption) ?_
                rotate_left
                · (intro w' hSw; go_simp; try with_reducible rfl)
                try simp only [Act.put, put8]
                refine wpAnyH_take (i := 17) (v := ?_) rfl (by kernel_rfl) (by kernel_rfl) (by kernel_rfl) (fun _ _ _ h => h) (Or.inl ⟨by rfl, ?_⟩) (by assumption) ?_
                rotate_left
                · (intro w' hSw; go_simp; try with_reducible rfl)
                try simp only [Act.put, put8]
                refine wpAnyH_ready (rs := [16]) (by kernel_rfl) (by simp) ?_
                refine AllReadyH.cons rfl (fun K hK => ?_) (AllReadyH.nil)
                go_simp
                refine ((HF12.out.keep0 hHj).used HI6.out HBS6.out).mono ?_
                rintro ee wk ⟨rfl, hc⟩
                rw [HU.out]
                have hHk := hHj.trans0 hc
                clear hc
                refine hK.out _ _ (hHk) (fun hHeld => ?_)
                try simp only [Act.put, put8]
                clear hK K
                refine wpAnyH_ready (rs := [18]) (by kernel_rfl) (by simp) ?_
                refine AllReadyH.cons rfl (fun K hK => ?_) (AllReadyH.nil)
                go_simp
                refine ((HF12.out.keep0 hHk).rused HI6.out HBS6.out).mono ?_
                rintro ee wl ⟨rfl, hc⟩
                rw [HU.out]
                have hHl := hHk.trans0 hc
                clear hc
                refine hK.out _ _ (hHl) (fun hHeld => ?_)
                try simp only [Act.put, put8]
                clear hK K
                refine wpAnyH_take (i := 19) (v := ?_) rfl (by kernel_rfl) (by kernel_rfl) (by kernel_rfl) (fun _ _ _ h => h) (Or.inl ⟨by rfl, ?_⟩) (by assumption) ?_
                rotate_left
                · (intro w' hSw; go_simp; try with_reducible rfl)
                try simp only [Act.put, put8]
                refine wpAnyH_take (i := 20) (v := ?_) rfl (by kernel_rfl) (by kernel_rfl) (by kernel_rfl) (fun _ _ _ h => h) (Or.inl ⟨by rfl, ?_⟩) (by assumption) ?_
                rotate_left
                · (intro w' hSw; go_simp; try with_reducible rfl)
                try simp only [Act.put, put8]
                refine wpAnyH_done (by kernel_rfl) ?_ _
                try simp only [Act.put, put8]

                have HF13 : Hid (Bth w1 _ p q (runO S0 (os.take (i + 1))) (runO S0 (os.take (i + 1))) []) := Lib.hid (by rw [HTK1.out]; exact HF12.out.keep0 hHl)
                clear hHeld hHi hHj hHk hHl r7
                go_wp2
                go_roundw
                case rel => exact ⟨i + 1, by omega, by go_num, HF13.out⟩
                case measure => simp [intOf]; omega
      · obtain rfl : i = sn := by omega
        have him : os.take i = os := List.take_of_length_le (by have := HL.out; omega)
        have hf0 : Bth w1 wr p q (runO S0 os) (runO S0 os) [] := by have := HFA.out; rw [him] at this; exact this
        obtain ⟨S, hS⟩ : ∃ S, runO S0 os = S := ⟨_, rfl⟩
        have hi0 := HI0.out.runO os
        rw [hS] at hi0 hf0
        have HI := Lib.hid hi0
        obtain ⟨G2, R2, hg, hr, rfl, rfl, hnG, hnR, hdis, _, hcw⟩ := hf0
        have HG := Lib.hid hg
        have HR := Lib.hid hr
        have HNG := Lib.hid hnG
        have HNR := Lib.hid hnR
        have HCW1 := Lib.hid hcw
        have HBS : Hid (bulk8 (dval8 ds) + opsB os ≤ 1073741824) := Lib.hid (by have := HB.out; omega)
        have HBS1 : Hid (bulk8 (dval8 ds) + opsB os + 1 ≤ 536870912) := Lib.hid (by have := HB.out; omega)
        clear him hi0 hS hg hr hnG hnR hdis hcw
        go_wp2_with fail
        refine (view_st HG.out HI.out HBS.out).mono ?_
        rintro e w3 ⟨A3, n3, c3, ds3, rfl, hds, hdv, hc, hn⟩
        have HDS3 := Lib.hid hds.rd
        have HDV3 := Lib.hid hdv
        have HBN3 := Lib.hid (hds.rd.bnd (B := 536870912) (by rw [hdv]; have h1 := siz_view HI.out; have h2 := HBS1.out; omega))
        have HCC3 := Lib.hid hc
        clear hds hdv hc hn
        go_wp2_with fail
        refine (rview_any (HR.out.keep0 HCC3.out) HI.out HBS.out).mono ?_
        rintro e w4 ⟨A4, n4, c4, ds4, rfl, hds, hdv, hc, hn⟩
        have HDS4 := Lib.hid hds.rd
        have HDV4 := Lib.hid hdv
        have HCC4 := Lib.hid hc
        clear hds hdv hc hn
        go_wp2_with fail
        refine (same8_any _ _ _ ds3 _ _ _ ds4 w4 (HDS3.out.chg0 HCC4.out) HDS4.out (Nat.le_trans HBN3.out.1 (by decide)) (fun x hx => Nat.le_trans (HBN3.out.2 x hx) (by decide))).mono ?_
        rintro e w5 ⟨bb, rfl, hbb, hc⟩
        rw [hbb (by rw [HDV3.out, HDV4.out])]
        have HFIN : Hid (Chg [] w w5) := Lib.hid ((((HC1.out.trans0 HCW1.out).trans0 HCC3.out).trans0 HCC4.out).trans0 hc)
        clear hbb hc
        go_wp2
        go_ret
        exact ⟨rfl, HFIN.out⟩
end Go.Proofs.YtgomofeidghmiaaGreat
