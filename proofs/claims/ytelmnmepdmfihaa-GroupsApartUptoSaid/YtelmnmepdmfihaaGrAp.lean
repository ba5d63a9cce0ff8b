/-
  Layer 17: the walk of GroupsApart.
-/
import Derived.Test.YtelmnmepdmfihaaGrX
import Derived.Test.YtelmnmepdmfihaaGrPp
namespace Go.Proofs.Ytelmnmepdmfihaa
open Go.RowKit

theorem apart_all {a b : Int} (hab : a ≠ b) : ∀ (L : List (List Int)) (ls : List Lk) (oa : List Int), Good ls a oa (-1) → SelfOk ls oa → (∀ o ∈ L, ordE ls b [] o = 0) → Good (layAll b ls L) a oa (-1) ∧ SelfOk (layAll b ls L) oa
  | [], _, _, h1, h2, _ => ⟨h1, h2⟩
  | o :: r, ls, oa, h1, h2, h3 => by
    obtain ⟨g1, g2⟩ := lay_apart hab h1 h2 (h3 o (by simp))
    exact apart_all hab r (layG ls b o o) oa g1 g2 (fun o' ho' => by rw [ordE_congr (fun id => tch_layG ls b b o o id)]; exact h3 o' (by simp [ho']))
theorem apart_good {ls : List Lk} {ts : List Int} {a b : Int} (hab : a ≠ b) {oa : List Int} (h1 : Good ls a oa (-1)) (h2 : SelfOk ls oa) : Good (layB b ls (gath ls ts b)) a oa (-1) ∧ SelfOk (layB b ls (gath ls ts b)) oa := by
  rw [layB_all]
  refine apart_all hab _ ls oa h1 h2 (fun o ho => ?_)
  unfold chains at ho
  obtain ⟨x, hx, ho⟩ := List.mem_flatMap.1 ho
  obtain ⟨u, hu, rfl⟩ := List.mem_map.1 hx
  simp [bnOf] at ho
  rcases ho with rfl | rfl | rfl <;> exact pk_ord (fun _ => rfl)

set_option maxRecDepth 100000 in
set_option maxHeartbeats 6400000 in
theorem lgapart_any (A : Option Addr) (n c : Nat) (ls : List Lk) (B : Option Addr) (m d : Nat) (ts : List Int) (na nb : Int) (w : World) (hrd : Rd w 7 A n c (lvs ls)) (hn : n ≤ 1073741824) (hts : Rd w 1 B m d (iv ts)) (hm : m ≤ 1073741824) (hwf : ∀ z ∈ ts, (Lit.int .i64 z).wf = true) :
    Calls Try.prog 8 #[.agg #[.slice A n c, .slice B m d], .int .i64 na, .int .i64 nb] w fun e w' => e = .returned (.bool true) ∧ Chg [] w w' := by
  have hl : ls.length = n := by have := hrd.1; rw [lvs_length] at this; omega
  have hol : ts.length = m := by have := hts.1; simp at this; omega
  have HR := Lib.hid hrd
  have HO := Lib.hid hts
  have HL := Lib.hid hl
  have HM := Lib.hid hol
  have HWF := Lib.hid hwf
  clear hrd hts hl hol hwf
  go_enter Try.func8, Try.ntmps8
  go_wp2_with fail
  refine (gspeaks_any _).mono ?_
  rintro e w1 ⟨rfl, hc1⟩
  have hb := (Blk.new w 25 #[.slice A n c, .slice B m d]).chg hc1 (fun h => List.not_mem_nil h)
  have C1 : Chg [] w w1 := ((Chg.refl [] w).alloc _).trans0 hc1
  have z0 := hb.cell 0
  have z1 := hb.cell 1
  simp at z0 z1
  have HB := Lib.hid hb
  have HC1 := Lib.hid C1
  clear hb C1 hc1
  by_cases hmn : n = m
  · have t0 : ((n : Int) != m) = false := by simp [hmn]
    have HMN := Lib.hid hmn
    clear hmn
    by_cases hab : na = nb
    · have t1 : (na == nb) = true := by simp [hab]
      clear hab
      go_wp2
      go_ret
      exact ⟨rfl, HC1.out⟩
    · have t1 : (na == nb) = false := by simp [hab]
      have HAB := Lib.hid hab
      clear hab
      by_cases hbig : 10000 < n
      · have t2 : decide ((10000 : Int) < (n : Int)) = true := by simp; omega
        clear hbig
        go_wp2
        go_ret
        exact ⟨rfl, HC1.out⟩
      · have t2 : decide ((10000 : Int) < (n : Int)) = false := by simp; omega
        have hn4 : n ≤ 10000 := by omega
        clear hbig
        have HGA : Hid (∀ x, gather ls ts x = gath ls ts x) := Lib.hid (fun x => by unfold gather; rw [if_pos (by rw [HM.out, HL.out]; exact HMN.out.symm)])
        obtain ⟨La, hLa⟩ : ∃ La, (gath ls ts na).length = La := ⟨_, rfl⟩
        have HLA := Lib.hid hLa
        have hLan : La ≤ n := by have q := gather_len ls ts na; rw [HGA.out, hLa, HL.out] at q; exact q
        obtain ⟨l1, hl1⟩ : ∃ l1, l1 = layB na ls (gath ls ts na) := ⟨_, rfl⟩
        have HL1 := Lib.hid hl1
        have HLN1 : Hid (l1.length = n) := Lib.hid (by rw [hl1, layB_length, HL.out])
        have HGB : Hid (gather l1 ts nb = gath l1 ts nb) := Lib.hid (by unfold gather; rw [if_pos (by rw [HM.out, HLN1.out]; exact HMN.out.symm)])
        obtain ⟨Lb, hLb⟩ : ∃ Lb, (gath l1 ts nb).length = Lb := ⟨_, rfl⟩
        have HLB := Lib.hid hLb
        have hLbn : Lb ≤ n := by have q := gather_len l1 ts nb; rw [HGB.out, hLb, HLN1.out] at q; exact q
        have HFL : Hid (∀ (i : Nat) (b : Bn), (gath ls ts na)[i]? = some b → ∀ k, k < 3 → (b.f k).length ≤ 1073741824) := Lib.hid (by have q := gather_flen' (ts := ts) (node := na) HL.out hn; rw [HGA.out] at q; exact q)
        have HE1 : Hid (mkE ls ts na 0 = 0) := Lib.hid (by unfold mkE; rw [if_neg (by rw [HGA.out, hLa, HM.out, HL.out]; rintro (h | h | h); exact h HMN.out.symm; omega; omega)])
        have HE2 : Hid (mkE l1 ts nb La = 0) := Lib.hid (by unfold mkE; rw [if_neg (by rw [HGB.out, hLb, HM.out, HLN1.out]; rintro (h | h | h); exact h HMN.out.symm; omega; omega)])
        have hmL1 : mkL ls ts na 0 = l1 := by unfold mkL; rw [if_pos HE1.out, HGA.out]; exact hl1.symm
        have hmG1 : mkG ls ts na 0 = grps na 0 (gath ls ts na) := by unfold mkG; rw [if_pos HE1.out, HGA.out]
        have hmL2 : mkL l1 ts nb La = layB nb l1 (gath l1 ts nb) := by unfold mkL; rw [if_pos HE2.out, HGB.out]
        have hmG2 : mkG l1 ts nb La = grps nb La (gath l1 ts nb) := by unfold mkG; rw [if_pos HE2.out, HGB.out]
        have HML1 := Lib.hid hmL1
        have HMG1 := Lib.hid hmG1
        have HML2 := Lib.hid hmL2
        have HMG2 := Lib.hid hmG2
        have hse1 : SameEnds ls l1 := by rw [hl1]; exact SameEnds.layB ls na _ _ (SameEnds.refl ls)
        have hread := reads_made (ls := ls) (ls2 := layB nb l1 (gath l1 ts nb)) (ts := ts) (node := na) (gs := grps na 0 (gath ls ts na) ++ grps nb La (gath l1 ts nb)) (start := 0) (by rw [HM.out, HL.out]; exact HMN.out.symm) (SameEnds.layB ls nb _ _ hse1) (fun t ht k hk => by
            obtain ⟨g1, g2⟩ := made_good (ls := ls) (node := na) ht hk
            rw [← hl1] at g1 g2
            exact apart_good HAB.out g1 g2) (fun i hi => by
            rw [Nat.zero_add, List.getElem?_append_left (by rw [grps_length]; exact hi)]
            rfl)
        obtain ⟨bs', hre, hbe⟩ := hread
        have HBE := Lib.hid hbe
        rw [hLa] at hre
        clear hLa hl1 hLb hmL1 hmG1 hmL2 hmG2 hse1 hbe
        go_wp2_with fail
        refine (copied_any A n c ls B m d ts _ (HR.out.chg HC1.out (fun _ _ => List.not_mem_nil)) hn (HO.out.chg HC1.out (fun _ _ => List.not_mem_nil)) hm).mono ?_
        rintro e w2 ⟨A2, c2, B2, d2, rfl, hoa, hob, hc2, hna, hnb⟩
        clear z0 z1
        have hb3 := Blk.new w2 25 #[.slice A2 n c2, .slice B2 m d2]
        have hcw := (Chg.refl [] w2).alloc (.cells #[.slice A2 n c2, .slice B2 m d2] 25)
        have HC0 : Hid (Chg [] w (w2.alloc (.cells #[.slice A2 n c2, .slice B2 m d2] 25))) := Lib.hid ((HC1.out.trans0 hc2).trans0 hcw)
        have HOA0 := Lib.hid (hoa.chg hcw (fun _ _ => List.not_mem_nil))
        have HOB0 := Lib.hid (hob.chg hcw (fun _ _ => List.not_mem_nil))
        have HB30 := Lib.hid hb3
        clear hb3 hcw hoa hob hna hnb hc2
        go_wp2_with fail
        refine (make_any A2 n c2 ls B2 m d2 ts na 0 _ HOA0.out.rd hn HOB0.out.rd hm HWF.out).mono ?_
        rintro e w3 ⟨A3, N3, c3, A4, N4, c4, E, rfl, hE, ho3, hN3, ho4, hN4, hc3, hn3, hn4⟩
        rw [HE1.out] at hE
        rw [HML1.out] at ho3 hN3
        rw [HMG1.out] at ho4 hN4
        rw [HLN1.out] at hN3
        rw [grps_length, HLA.out] at hN4
        subst hE
        subst N3
        subst N4
        have HC : Hid (Chg [] w w3) := Lib.hid (HC0.out.trans0 hc3)
        have HOA := Lib.hid (HOA0.out.chg hc3 (fun _ _ => List.not_mem_nil))
        have HOB := Lib.hid (HOB0.out.chg hc3 (fun _ _ => List.not_mem_nil))
        have hb3 := HB30.out.chg hc3 (fun h => List.not_mem_nil h)
        have x1 := hb3.cell 1
        simp at x1
        obtain ⟨Bi, hBi⟩ : ∃ Bi, Bi = w2.heap.size := ⟨_, rfl⟩
        rw [← hBi] at hb3 x1 ⊢
        have HB3 := Lib.hid hb3
        have HO3 := Lib.hid ho3
        have HO4 := Lib.hid ho4
        clear hb3 hc3 hBi ho3 ho4 hn3 hn4
        go_wp2_with fail
        refine (make_any A3 n c3 l1 B2 m d2 ts nb La _ HO3.out.rd hn HOB.out.rd hm HWF.out).mono ?_
        rintro e w4 ⟨A5, N5, c5, A6, N6, c6, E, rfl, hE, ho5, hN5, ho6, hN6, hc4, hn5, hn6⟩
        rw [HE2.out] at hE
        rw [HML2.out] at ho5 hN5
        rw [HMG2.out] at ho6 hN6
        rw [layB_length, HLN1.out] at hN5
        rw [grps_length, HLB.out] at hN6
        subst hE
        subst N5
        subst N6
        have HC4 := Lib.hid hc4
        have HO5 := Lib.hid ho5
        have HO6 := Lib.hid ho6
        clear ho5 ho6 hc4 hn5 hn6 x1
        by_cases hz : La = 0
        · subst hz
          clear hre
          have hem := Own.lit w4 58 7 #[] 0 (by decide) rfl
          have hsrc := HO4.out.rd.chg (HC4.out.alloc (.cells #[] 58)) (fun _ _ => List.not_mem_nil)
          go_wp2_with (first
            | (at_builtin; refine wpList_app rfl _ _ rfl etyGroups rfl hem rfl hsrc (lvs_one _) (by unfold maxLen; omega) (by omega) ?_; intro A7 c7 w7 hown7 hchg7 hnew7 _; have hs7 : Chg [] w4 w7 := ((Chg.refl [] w4).alloc _).trans hchg7 (fun x hx => .inr (by simp at hx; omega)); have hsrc6 := HO6.out.rd.chg hs7 (fun _ _ => List.not_mem_nil); have hown7' : Own w7 58 7 A7 0 c7 (lvs (grps na 0 (gath ls ts na))) := (by simpa using hown7); clear hem hsrc)
            | (at_builtin; refine wpList_app rfl _ _ rfl etyGroups rfl hown7' rfl hsrc6 (lvs_one _) (by unfold maxLen; omega) (by omega) ?_; intro A8 c8 w8 hown8 hchg8 hnew8 _; have hs8 : Chg [] w4 w8 := hs7.trans hchg8 (fun x hx => .inr (by rcases hnew7 x hx with h | h; (simp at h; omega); (simp at h; omega))); have HO8 := Lib.hid hown8; have HS8 := Lib.hid hs8; clear hown8 hchg8 hnew8 hs8 hsrc6 hown7 hown7' hchg7 hnew7 hs7)
            | fail)
          go_wp2
          go_ret
          exact ⟨rfl, (HC.out.trans0 HC4.out).trans0 HS8.out⟩
        · have t3 : ((La : Int) == 0) = false := by simp; omega
          rw [if_neg hz] at hre
          have HRE := Lib.hid hre
          have hp : 0 < La := by omega
          clear hre hz
          have hem := Own.lit w4 58 7 #[] 0 (by decide) rfl
          have hsrc := HO4.out.rd.chg (HC4.out.alloc (.cells #[] 58)) (fun _ _ => List.not_mem_nil)
          go_wp2_with (first
            | (at_builtin; refine wpList_app rfl _ _ rfl etyGroups rfl hem rfl hsrc (lvs_one _) (by unfold maxLen; omega) (by omega) ?_; intro A7 c7 w7 hown7 hchg7 hnew7 _; have hs7 : Chg [] w4 w7 := ((Chg.refl [] w4).alloc _).trans hchg7 (fun x hx => .inr (by simp at hx; omega)); have hsrc6 := HO6.out.rd.chg hs7 (fun _ _ => List.not_mem_nil); have hown7' : Own w7 58 7 A7 La c7 (lvs (grps na 0 (gath ls ts na))) := (by simpa using hown7); clear hem hsrc)
            | (at_builtin; refine wpList_app rfl _ _ rfl etyGroups rfl hown7' rfl hsrc6 (lvs_one _) (by unfold maxLen; omega) (by omega) ?_; intro A8 c8 w8 hown8 hchg8 hnew8 _; have hs8 : Chg [] w4 w8 := hs7.trans hchg8 (fun x hx => .inr (by rcases hnew7 x hx with h | h; (simp at h; omega); (simp at h; omega))); have HO8 := Lib.hid hown8; have HS8 := Lib.hid hs8; have x1 := (HB3.out.chg (HC4.out.trans0 hs8) (fun h => List.not_mem_nil h)).cell 1; simp at x1; clear hown8 hchg8 hnew8 hs8 hsrc6 hown7 hown7' hchg7 hnew7 hs7)
            | fail)
          have hrd := read_any A5 n c5 (layB nb l1 (gath l1 ts nb)) B2 m d2 ts A8 (La + Lb) c8 (grps na 0 (gath ls ts na) ++ grps nb La (gath l1 ts nb)) na 0 w8 (HO5.out.rd.chg HS8.out (fun _ _ => List.not_mem_nil)) hn (HOB.out.rd.chg (HC4.out.trans0 HS8.out) (fun _ _ => List.not_mem_nil)) hm (by have q := HO8.out.rd; rw [← lvs_append] at q; exact q) (by omega)
          refine hrd.mono ?_
          clear hrd
          rintro e w9 ⟨A9, c9, rfl, hbr, hc9⟩
          have HRE' : Hid (reads (layB nb l1 (gath l1 ts nb)) ts (grps na 0 (gath ls ts na) ++ grps nb La (gath l1 ts nb)) na 0 = (bs', 0)) := HRE
          rw [HRE'.out] at hbr ⊢
          simp only at hbr ⊢
          have hbl : bs'.length = La := HBE.out.1.trans HLA.out
          rw [hbl] at hbr ⊢
          have HBR2 := Lib.hid (hbr.brd.eq HBE.out)
          have HC9 := Lib.hid ((HC4.out.trans0 HS8.out).trans0 hc9)
          have x0 := (HB3.out.chg HC9.out (fun h => List.not_mem_nil h)).cell 0
          have x1 := (HB3.out.chg HC9.out (fun h => List.not_mem_nil h)).cell 1
          simp at x0 x1
          clear hbr hc9 hbl
          go_wp2_with fail
          refine (gather_any A2 n c2 ls B2 m d2 ts na _ (HOA.out.rd.chg HC9.out (fun _ _ => List.not_mem_nil)) hn (HOB.out.rd.chg HC9.out (fun _ _ => List.not_mem_nil)) hm HWF.out).mono ?_
          rintro e w10 ⟨A10, c10, rs10, rfl, hbo, hc10⟩
          rw [HGA.out, HLA.out] at hbo ⊢
          have HW10 := Lib.hid hbo.brd
          have HBR10 := Lib.hid (HBR2.out.chg0 hc10)
          have HC10 := Lib.hid (HC9.out.trans0 hc10)
          clear hbo hc10 x0 x1
          go_wp2_with fail
          refine (same_any A9 La c9 A10 La c10 (gath ls ts na) _ (by omega) HLA.out HLA.out HFL.out HBR10.out HW10.out).mono ?_
          rintro e w11 ⟨rfl, hc11⟩
          go_wp2
          go_ret
          exact ⟨rfl, (HC.out.trans0 HC10.out).trans0 hc11⟩
  · have t0 : ((n : Int) != m) = true := by simp; omega
    clear hmn
    go_wp2
    go_ret
    exact ⟨rfl, HC1.out⟩
end Go.Proofs.Ytelmnmepdmfihaa
