/-
  Layer 17: the walk of GroupsThere.
-/
import Derived.Test.YtelmnmepdmfihaaGrX
import Derived.Test.YtelmnmepdmfihaaGrPp
import Derived.Laws.BitsLemmas
namespace Go.Proofs.Ytelmnmepdmfihaa
open Go.RowKit

theorem and63 (n : Int) : bits .and .i64 n 63 = n % 64 := by
  have h63 : (BitVec.ofInt 64 63).toNat = 2 ^ 6 - 1 := by decide
  have key : (BitVec.ofInt 64 n &&& BitVec.ofInt 64 63).toNat = (n % ((2 ^ 64 : Nat) : Int)).toNat % 2 ^ 6 := by
    rw [BitVec.toNat_and, BitVec.toNat_ofInt, h63, Nat.and_two_pow_sub_one_eq_mod]
  show IntKind.i64.wrap ((BitVec.ofInt 64 n &&& BitVec.ofInt 64 63).toNat : Nat) = n % 64
  rw [key, IntKind.wrap_i64]
  omega

set_option maxRecDepth 100000 in
set_option maxHeartbeats 6400000 in
theorem lgthere_any (A : Option Addr) (n c : Nat) (ls : List Lk) (B : Option Addr) (m d : Nat) (ts : List Int) (node before : Int) (w : World) (hrd : Rd w 7 A n c (lvs ls)) (hn : n ≤ 1073741824) (hn2 : n ≤ 536870912) (hts : Rd w 1 B m d (iv ts)) (hm : m ≤ 1073741824) (hwf : ∀ z ∈ ts, (Lit.int .i64 z).wf = true) :
    Calls Try.prog 6 #[.agg #[.slice A n c, .slice B m d], .int .i64 node, .int .i64 before] w fun e w' => e = .returned (.bool true) ∧ Chg [] w w' := by
  have hl : ls.length = n := by have := hrd.1; rw [lvs_length] at this; omega
  have hol : ts.length = m := by have := hts.1; simp at this; omega
  have HR := Lib.hid hrd
  have HO := Lib.hid hts
  have HL := Lib.hid hl
  have HM := Lib.hid hol
  have HWF := Lib.hid hwf
  clear hrd hts hl hol hwf
  go_enter Try.func6, Try.ntmps6
  go_wp2_with fail
  refine (gspeaks_any _).mono ?_
  rintro e w1 ⟨rfl, hc1⟩
  have hb := (Blk.new w 25 #[.slice A n c, .slice B m d]).chg hc1 (fun h => List.not_mem_nil h)
  have C1 : Chg [] w w1 := ((Chg.refl [] w).alloc _).trans0 hc1
  have z0 := hb.cell 0
  have z1 := hb.cell 1
  simp at z0 z1
  have HB := Lib.hid hb
  have HC1 := Lib.hid C1
  clear hb C1 hc1
  by_cases hmn : n = m
  · have t0 : ((n : Int) != m) = false := by simp [hmn]
    have HMN := Lib.hid hmn
    clear hmn
    have HGA : Hid (gather ls ts node = gath ls ts node) := Lib.hid (by unfold gather; rw [if_pos (by rw [HM.out, HL.out]; exact HMN.out.symm)])
    obtain ⟨b0, hb0⟩ : ∃ b0 : Nat, before % 64 = (b0 : Int) := ⟨(before % 64).toNat, by omega⟩
    have hb64 : b0 < 64 := by omega
    have hand : bits .and .i64 before 63 = (b0 : Int) := (and63 before).trans hb0
    have HB0 := Lib.hid hb0
    clear hb0
    go_wp2_with fail
    refine (copied_any A n c ls B m d ts _ (HR.out.chg HC1.out (fun _ _ => List.not_mem_nil)) hn (HO.out.chg HC1.out (fun _ _ => List.not_mem_nil)) hm).mono ?_
    rintro e w2 ⟨A2, c2, B2, d2, rfl, hoa, hob, hc2, hna, hnb⟩
    clear z0 z1 hand
    have hb3 := Blk.new w2 25 #[.slice A2 n c2, .slice B2 m d2]
    have hcw := (Chg.refl [] w2).alloc (.cells #[.slice A2 n c2, .slice B2 m d2] 25)
    have HC0 : Hid (Chg [] w (w2.alloc (.cells #[.slice A2 n c2, .slice B2 m d2] 25))) := Lib.hid ((HC1.out.trans0 hc2).trans0 hcw)
    have HOA0 := Lib.hid (hoa.chg hcw (fun _ _ => List.not_mem_nil))
    have HOB0 := Lib.hid (hob.chg hcw (fun _ _ => List.not_mem_nil))
    have HB30 := Lib.hid hb3
    clear hb3 hcw hoa hob hna hnb hc2
    go_wp2_with fail
    refine (gather_any A2 n c2 ls B2 m d2 ts node _ HOA0.out.rd hn HOB0.out.rd hm HWF.out).mono ?_
    rintro e w3 ⟨Aw, cw, rsw, rfl, hbo, hc3⟩
    rw [HGA.out] at hbo ⊢
    obtain ⟨Lb, hLb⟩ : ∃ Lb, (gath ls ts node).length = Lb := ⟨_, rfl⟩
    rw [hLb] at hbo ⊢
    have HLG := Lib.hid hLb
    have hLn : Lb ≤ n := by have q := gather_len ls ts node; rw [HGA.out, hLb, HL.out] at q; exact q
    have HFL : Hid (∀ (i : Nat) (b : Bn), (gath ls ts node)[i]? = some b → ∀ k, k < 3 → (b.f k).length ≤ 1073741824) := Lib.hid (by have q := gather_flen' (ts := ts) (node := node) HL.out hn; rw [HGA.out] at q; exact q)
    have HBW := Lib.hid hbo.brd
    have HC : Hid (Chg [] w w3) := Lib.hid (HC0.out.trans0 hc3)
    have HOA := Lib.hid (HOA0.out.chg hc3 (fun _ _ => List.not_mem_nil))
    have HOB := Lib.hid (HOB0.out.chg hc3 (fun _ _ => List.not_mem_nil))
    have hb3 := HB30.out.chg hc3 (fun h => List.not_mem_nil h)
    have x0 := hb3.cell 0
    have x1 := hb3.cell 1
    simp at x0 x1
    obtain ⟨Bi, hBi⟩ : ∃ Bi, Bi = w2.heap.size := ⟨_, rfl⟩
    rw [← hBi] at hb3 x0 x1 ⊢
    have HB3 := Lib.hid hb3
    clear hb3 hbo hc3 hLb hBi
    go_wp2_with fail
    refine (make_any A2 n c2 ls B2 m d2 ts node b0 _ HOA.out.rd hn HOB.out.rd hm HWF.out).mono ?_
    rintro e w4 ⟨A3, N3, c3, A4, N4, c4, E, rfl, hE, ho3, hN3, ho4, hN4, hc4, hn3, hn4⟩
    have HC34 := Lib.hid hc4
    have HC34' := Lib.hid hc4
    clear x0 x1
    by_cases hov : 65536 - (Lb : Int) < (b0 : Int)
    · have hE2 : mkE ls ts node b0 = 2 := by unfold mkE; rw [if_pos (.inr (.inr (by rw [HGA.out, HLG.out]; exact hov)))]
      rw [hE2] at hE
      subst hE
      have hw : IntKind.i64.wrap (65536 - (b0 : Int)) = 65536 - (b0 : Int) := by rw [IntKind.wrap_i64]; omega
      have t1 : decide (65536 - (b0 : Int) < (Lb : Int)) = true := by simp; omega
      clear ho3 hN3 ho4 hN4 hc4 hn3 hn4 hE2 hov
      go_wp2
      go_ret
      exact ⟨by first | rfl | simp, HC.out.trans0 HC34.out⟩
    · have hE2 : mkE ls ts node b0 = 0 := by unfold mkE; rw [if_neg (by rw [HGA.out, HLG.out, HM.out, HL.out]; rintro (h | h | h); exact h HMN.out.symm; omega; exact hov h)]
      have hmL : mkL ls ts node b0 = layB node ls (gath ls ts node) := by unfold mkL; rw [if_pos hE2, HGA.out]
      have hmG : mkG ls ts node b0 = grps node b0 (gath ls ts node) := by unfold mkG; rw [if_pos hE2, HGA.out]
      rw [hE2] at hE
      subst hE
      rw [hmL] at ho3 hN3
      rw [hmG] at ho4 hN4
      rw [layB_length, HL.out] at hN3
      rw [grps_length, HLG.out] at hN4
      subst N3
      subst N4
      have HO3 := Lib.hid ho3
      have HO4 := Lib.hid ho4
      clear ho3 ho4 hc4 hn3 hn4 hE2 hmL hmG hov
      have hll : ((Lb : Int) != (Lb : Int)) = false := by simp
      have hmk := fun w => run_make_groups b0 b0 (Nat.le_refl _) (by omega) w
      obtain ⟨bs', hre, hbe⟩ := reads_made (ls := ls) (ls2 := layB node ls (gath ls ts node)) (ts := ts) (node := node) (gs := List.replicate b0 lk0 ++ grps node b0 (gath ls ts node)) (start := b0) (by rw [HM.out, HL.out]; exact HMN.out.symm) (SameEnds.layB ls node _ _ (SameEnds.refl ls)) (fun t ht k hk => made_good ht hk) (fun i hi => by
        rw [List.getElem?_append_right (by simp)]
        simp)
      have HBE := Lib.hid hbe
      rw [HLG.out] at hre
      have HRE0 := Lib.hid hre
      clear hre hbe
      have hmo := own_make_groups b0 b0 (Nat.le_refl _) (by omega) w4
      have hsr := HO4.out.rd.chg ((Chg.refl [] w4).alloc (.cells (madeCells #[.bool false, .int .i64 0, .int .i64 0, .int .i64 0, .int .i64 0, .int .i64 0, .int .i64 0] (b0 * 7)) 58)) (fun _ _ => List.not_mem_nil)
      by_cases hz : Lb = 0
      · subst hz
        go_wp2_with (at_builtin; refine wpList_app rfl _ _ rfl etyGroups rfl hmo rfl hsr (lvs_one _) (by unfold maxLen; omega) (by omega) ?_; intro A7 c7 w7 hown7 hchg7 hnew7 _; have HO7 := Lib.hid hown7; have HS7 : Hid (Chg [] w4 w7) := Lib.hid (((Chg.refl [] w4).alloc _).trans hchg7 (fun x hx => .inr (by simp at hx; omega))); have x1q := (HB3.out.chg (HC34.out.trans0 HS7.out) (fun h => List.not_mem_nil h)).cell 1; simp at x1q; clear hmo hsr hown7 hchg7 hnew7)
        have HRE : Hid (reads (layB node ls (gath ls ts node)) ts (List.replicate b0 lk0 ++ grps node b0 (gath ls ts node)) node (-1) = (bs', 0)) := Lib.hid (by have q := HRE0.out; rw [if_pos trivial] at q; exact q)
        have x1 := (HB3.out.chg (HC34.out.trans0 HS7.out) (fun h => List.not_mem_nil h)).cell 1
        simp at x1
        have hrd := read_any A3 n c3 (layB node ls (gath ls ts node)) B2 m d2 ts A7 (b0 + 0) c7 (List.replicate b0 lk0 ++ grps node b0 (gath ls ts node)) node (-1) w7 (HO3.out.rd.chg HS7.out (fun _ _ => List.not_mem_nil)) hn (HOB.out.rd.chg (HC34.out.trans0 HS7.out) (fun _ _ => List.not_mem_nil)) hm (by have q := HO7.out.rd; rw [← lvs_append] at q; exact q) (by omega)
        refine hrd.mono ?_
        clear hrd
        rintro e w8 ⟨A8, c8, rfl, hbr, hc8⟩
        rw [HRE.out] at hbr ⊢
        simp only at hbr ⊢
        have HBR := Lib.hid (hbr.brd.eq HBE.out)
        have HC8 := Lib.hid hc8
        have hbl : bs'.length = 0 := HBE.out.1.trans HLG.out
        rw [hbl] at hbr ⊢
        have HBR2 : Hid (BRd w8 A8 0 c8 (gath ls ts node)) := Lib.hid (hbr.brd.eq HBE.out)
        have HW8 : Hid (BRd w8 Aw 0 cw (gath ls ts node)) := Lib.hid (((HBW.out.chg0 HC34'.out).chg0 HS7.out).chg0 hc8)
        clear hbr hc8 hbl x1
        go_wp2_with fail
        refine (same_any A8 0 c8 Aw 0 cw (gath ls ts node) _ (by omega) HLG.out HLG.out HFL.out HBR2.out HW8.out).mono ?_
        rintro e w9 ⟨rfl, hc9⟩
        have HC9 := Lib.hid (((HC34.out.trans0 HS7.out).trans0 HC8.out).trans0 hc9)
        have x0 := (HB3.out.chg HC9.out (fun h => List.not_mem_nil h)).cell 0
        simp at x0
        have hnn : ((n : Int) == (n : Int)) = true := by simp
        go_wp2
        go_ret
        exact ⟨rfl, HC.out.trans0 HC9.out⟩
      · have t2 : decide ((0 : Int) < (Lb : Int)) = true := by simp; omega
        have HZ := Lib.hid hz
        have hp : 0 < Lb := by omega
        clear hz
        go_wp2_with (at_builtin; refine wpList_app rfl _ _ rfl etyGroups rfl hmo rfl hsr (lvs_one _) (by unfold maxLen; omega) (by omega) ?_; intro A7 c7 w7 hown7 hchg7 hnew7 _; have HO7 := Lib.hid hown7; have HS7 : Hid (Chg [] w4 w7) := Lib.hid (((Chg.refl [] w4).alloc _).trans hchg7 (fun x hx => .inr (by simp at hx; omega))); have x1q := (HB3.out.chg (HC34.out.trans0 HS7.out) (fun h => List.not_mem_nil h)).cell 1; simp at x1q; clear hmo hsr hown7 hchg7 hnew7)
        have HRE : Hid (reads (layB node ls (gath ls ts node)) ts (List.replicate b0 lk0 ++ grps node b0 (gath ls ts node)) node (b0 : Int) = (bs', 0)) := Lib.hid (by have q := HRE0.out; rw [if_neg HZ.out] at q; exact q)
        have x1 := (HB3.out.chg (HC34.out.trans0 HS7.out) (fun h => List.not_mem_nil h)).cell 1
        simp at x1
        have hrd := read_any A3 n c3 (layB node ls (gath ls ts node)) B2 m d2 ts A7 (b0 + Lb) c7 (List.replicate b0 lk0 ++ grps node b0 (gath ls ts node)) node ((b0 : Int)) w7 (HO3.out.rd.chg HS7.out (fun _ _ => List.not_mem_nil)) hn (HOB.out.rd.chg (HC34.out.trans0 HS7.out) (fun _ _ => List.not_mem_nil)) hm (by have q := HO7.out.rd; rw [← lvs_append] at q; exact q) (by omega)
        refine hrd.mono ?_
        clear hrd
        rintro e w8 ⟨A8, c8, rfl, hbr, hc8⟩
        rw [HRE.out] at hbr ⊢
        simp only at hbr ⊢
        have HBR := Lib.hid (hbr.brd.eq HBE.out)
        have HC8 := Lib.hid hc8
        have hbl : bs'.length = Lb := HBE.out.1.trans HLG.out
        rw [hbl] at hbr ⊢
        have HBR2 : Hid (BRd w8 A8 Lb c8 (gath ls ts node)) := Lib.hid (hbr.brd.eq HBE.out)
        have HW8 : Hid (BRd w8 Aw Lb cw (gath ls ts node)) := Lib.hid (((HBW.out.chg0 HC34'.out).chg0 HS7.out).chg0 hc8)
        clear hbr hc8 hbl x1
        go_wp2_with fail
        refine (same_any A8 Lb c8 Aw Lb cw (gath ls ts node) _ (by omega) HLG.out HLG.out HFL.out HBR2.out HW8.out).mono ?_
        rintro e w9 ⟨rfl, hc9⟩
        have HC9 := Lib.hid (((HC34.out.trans0 HS7.out).trans0 HC8.out).trans0 hc9)
        have x0 := (HB3.out.chg HC9.out (fun h => List.not_mem_nil h)).cell 0
        simp at x0
        have hnn : ((n : Int) == (n : Int)) = true := by simp
        go_wp2
        go_ret
        exact ⟨rfl, HC.out.trans0 HC9.out⟩
  · have t0 : ((n : Int) != m) = true := by simp; omega
    clear hmn
    go_wp2
    go_ret
    exact ⟨rfl, HC1.out⟩
end Go.Proofs.Ytelmnmepdmfihaa
