/-
  Layer 17: the program's Gather.
-/
import Derived.Test.YtelmnmepdmfihaaGrC
import Derived.Test.YtelmnmepdmfihaaLkP
import Derived.Deep.RegionHeld3
import Derived.Deep.RegionLaw
import Derived.StillTailTactics
namespace Go.Proofs.Ytelmnmepdmfihaa
open Go.RowKit

/-- the bunches are told, all in new memory -/
def GathTo (bs : List Bn) (w : World) (e : Ending) (w' : World) : Prop := ∃ A c rs, e = .returned (.slice A bs.length c) ∧ BOwn w w' A bs.length c rs bs ∧ Chg [] w w'

theorem bins_zero (w : World) : (zeroValue 62).run Try.prog w = .ok B3.nil.arr w := by
  have h : Try.t62.zero = some B3.nil.arr := by kernel_rfl
  simp [go_sem, zeroValue, h]
theorem mpb_und : Try.prog.underlying 60 = some (.map 3 62) := Try.underlying60

theorem ty_wf {ls : List Lk} {ts : List Int} (hwf : ∀ z ∈ ts, (Lit.int .i64 z).wf = true) (hl : ts.length = ls.length) {node : Int} {id : Int} (h : id ∈ incident ls node) : (Lit.int .i64 (tyOf ts id)).wf = true := by
  obtain ⟨h0, l, hl1, _⟩ := incident_at h
  have := (List.getElem?_eq_some_iff.1 hl1).1
  unfold tyOf
  rw [List.getElem?_eq_getElem (by omega)]
  exact hwf _ (List.getElem_mem _)

set_option maxRecDepth 100000 in
set_option maxHeartbeats 3200000 in
theorem gather_any (A : Option Addr) (n c : Nat) (ls : List Lk) (B : Option Addr) (m d : Nat) (ts : List Int) (node : Int) (w : World) (hrd : Rd w 7 A n c (lvs ls)) (hn : n ≤ 1073741824) (hts : Rd w 1 B m d (iv ts)) (_ : m ≤ 1073741824) (hwf : ∀ z ∈ ts, (Lit.int .i64 z).wf = true) :
    Calls Try.prog 13 #[.slice A n c, .slice B m d, .int .i64 node] w (GathTo (gather ls ts node) w) := by
  have hl : ls.length = n := by have := hrd.1; rw [lvs_length] at this; omega
  have hol : ts.length = m := by have := hts.1; simp at this; omega
  have HR := Lib.hid hrd
  have HO := Lib.hid hts
  have HL := Lib.hid hl
  have HM := Lib.hid hol
  have HWF := Lib.hid hwf
  clear hrd hts hl hol hwf
  have hmm := @run_makeMap Try.prog
  by_cases hmn : m = n
  · have t0 : ((m : Int) != n) = false := by simp [hmn]
    have HMN := Lib.hid hmn
    clear hmn
    go_enter Try.func13, Try.ntmps13
    go_wp2_with fail
    have hch0 : Chg [] w (w.alloc (.map #[] 0)) := (Chg.refl _ _).alloc _
    obtain ⟨N0, hN0⟩ : ∃ N0, (incident ls node).length = N0 := ⟨_, rfl⟩
    have hmp0 := Mp.made w kvI
    refine (incident_any A n c ls node _ (HR.out.chg hch0 (by simp)) hn N0 hN0).mono ?_
    rintro e w1 ⟨A1, c1, rfl, ho1, hch1, hnew1⟩
    have hmp1 := hmp0.chg hch1 (by simp)
    have HC1 := Lib.hid (hch0.trans0 hch1)
    have HN0 := Lib.hid hN0
    have HO1 := Lib.hid ho1
    have HMP1 := Lib.hid hmp1
    have HW1 := Lib.hid hnew1
    have hbl := hmp1.lt
    have hN0n : N0 ≤ n := by rw [← hN0, ← HL.out]; have := inc_le ls node ls.length; rw [inc_all] at this; exact this
    clear hmp0 hmp1 ho1 hnew1 hN0 hch0
    generalize hBm : w.heap.size = Bm at *
    clear hch1
    go_wp2
    go_loopw [24] (fun q wr => ∃ (k : Nat) (g : List (Int × B3)), k ≤ N0 ∧ q = .int .i64 k ∧ Gh w1 wr ls ts node ((incident ls node).take k) g ∧ Mp wr Bm kvI (g.map fun p => (p.1, p.2.arr)) ∧ Chg [Bm] w1 wr) (fun q _ => N0 - (intOf q).toNat)
    case atStart => exact ⟨0, [], Nat.zero_le _, rfl, Gh.nil _ _ _ _ _, HMP1.out, Chg.refl _ _⟩
    case round =>
      obtain ⟨k, g, hk, rfl, hg, hmp, hch1⟩ := hrel
      have hch : Chg [] w wr := HC1.out.trans hch1 (fun x hx => .inr (by simp at hx; subst hx; exact Nat.le_of_eq hBm))
      by_cases hlt : k < N0
      · obtain ⟨ad, id, hA1, hid, hcell⟩ := rd_int (HO1.out.rd.chg hch1 (fun x hx hm => HO1.out.mp_ne HMP1.out x hx (by simpa using hm))) hlt
        subst hA1
        have hmem : id ∈ incident ls node := List.mem_of_getElem? hid
        obtain ⟨h0, l, hl1, hlive, htou⟩ := incident_at hmem
        obtain ⟨j, rfl⟩ := Int.eq_ofNat_of_zero_le h0
        simp only [Int.toNat_natCast] at hl1
        have hjn : j < n := by have := (List.getElem?_eq_some_iff.1 hl1).1; have := HL.out; omega
        obtain ⟨al, rfl, hat⟩ := (HR.out.chg hch (by simp)).lk hl1
        obtain ⟨x0, x1, x2, x3, x4, x5, x6⟩ := hat
        obtain ⟨bt, t, rfl, ht, htc⟩ := rd_int (HO.out.chg hch (by simp)) (show j < m by have := HMN.out; omega)
        have HBT : Hid (bt.block < Bm) := Lib.hid (by rw [← hBm]; exact (HO.out.2.2.2.2 bt rfl).1 (by have := HMN.out; omega))
        have HTB : Hid ((bt.add j).block ≠ Bm) := Lib.hid (by rw [add_block]; have := HBT.out; omega)
        have hjn' : (j : Int) < n := by omega
        have hjm' : (j : Int) < m := by have := HMN.out; omega
        have HTY : Hid (tyOf ts j = t) := Lib.hid (by unfold tyOf; simp [ht])
        have HWY : Hid (wyOf ls node j = wayOf l node) := Lib.hid (by unfold wyOf; simp [hl1])
        obtain ⟨b, hb⟩ := hg.at_ (tyOf ts j)
        have hlk := (hmp.lookup mp_key mpb_und (bins_zero wr) t).1
        rw [show t = tyOf ts j from HTY.out.symm, hb.val, HTY.out] at hlk
        obtain ⟨wy, hwy⟩ : ∃ wy, wayOf l node = wy := ⟨_, rfl⟩
        have hw3 : wy < 3 := by rw [← hwy]; exact wayOf_lt _ _
        have hw3' : (wy : Int) < 3 := by omega
        have HID := Lib.hid hid
        have HB := Lib.hid hb
        have HG := Lib.hid hg
        have HMP := Lib.hid hmp
        have HCH := Lib.hid hch
        have HCH1 := Lib.hid hch1
        have HWL := Lib.hid hwy
        have HMEM := Lib.hid hmem
        have HL1 := Lib.hid hl1
        clear hid hb hg hmp hch hch1 hwy ht hmem hlive htou hl1
        go_wp2_with fail
        refine wp_region_held_drew (S := fun w' => Chg [] wr w') (by kernel_rfl) ((Chg.refl _ _).drew) (fun hHeld => ?_)
        refine wpAnyH_take (i := 0) (v := ?_) rfl (by kernel_rfl) (by kernel_rfl) (by kernel_rfl) (fun _ _ _ h => h) (Or.inl ⟨by rfl, ?_⟩) (by assumption) ?_
        rotate_left
        · (intro w' hSw; go_simp; try with_reducible rfl)
        try simp only [Act.put, List.getElem_toArray, List.getElem_cons_zero, List.setIfInBounds_toArray, List.set_cons_zero, List.set_cons_succ]
        refine wpAnyH_take (i := 1) (v := ?_) rfl (by kernel_rfl) (by kernel_rfl) (by kernel_rfl) (fun _ _ _ h => h) (Or.inl ⟨by rfl, ?_⟩) (by assumption) ?_
        rotate_left
        · (intro w' hSw; go_simp; try with_reducible rfl)
        try simp only [Act.put, List.getElem_toArray, List.getElem_cons_zero, List.getElem_cons_succ, List.setIfInBounds_toArray, List.set_cons_zero, List.set_cons_succ]
        refine wpAnyH_take (i := 2) (v := ?_) rfl (by kernel_rfl) (by kernel_rfl) (by kernel_rfl) (fun _ _ _ h => h) (Or.inl ⟨by rfl, ?_⟩) (by assumption) ?_
        rotate_left
        · (intro w' hSw; go_simp; try with_reducible rfl)
        try simp only [Act.put, List.getElem_toArray, List.getElem_cons_zero, List.getElem_cons_succ, List.setIfInBounds_toArray, List.set_cons_zero, List.set_cons_succ]
        refine wpAnyH_take (i := 3) (v := ?_) rfl (by kernel_rfl) (by kernel_rfl) (by kernel_rfl) (fun _ _ _ h => h) (Or.inl ⟨by rfl, ?_⟩) (by assumption) ?_
        rotate_left
        · (intro w' hSw; go_simp; try with_reducible rfl)
        try simp only [Act.put, List.getElem_toArray, List.getElem_cons_zero, List.getElem_cons_succ, List.setIfInBounds_toArray, List.set_cons_zero, List.set_cons_succ]
        refine wpAnyH_take (i := 4) (v := ?_) rfl (by kernel_rfl) (by kernel_rfl) (by kernel_rfl) (fun _ _ _ h => h) (Or.inl ⟨by rfl, ?_⟩) (by assumption) ?_
        rotate_left
        · (intro w' hSw; have q := hSw.cell htc (by simp); go_simp; try with_reducible rfl)
        try simp only [Act.put, List.getElem_toArray, List.getElem_cons_zero, List.getElem_cons_succ, List.setIfInBounds_toArray, List.set_cons_zero, List.set_cons_succ]
        refine wpAnyH_take (i := 5) (v := ?_) rfl (by kernel_rfl) (by kernel_rfl) (by kernel_rfl) (fun _ _ _ h => h) (Or.inl ⟨by rfl, ?_⟩) (by assumption) ?_
        rotate_left
        · (intro w' hSw; have q := ((HMP.out.chg hSw (by simp)).lookup mp_key mpb_und (bins_zero w') (tyOf ts j)).1; rw [HB.out.val, HTY.out] at q; simp only [B3.arr, B3.sl] at q; go_simp; try with_reducible rfl)
        try simp only [Act.put, List.getElem_toArray, List.getElem_cons_zero, List.getElem_cons_succ, List.setIfInBounds_toArray, List.set_cons_zero, List.set_cons_succ]
        refine wpAnyH_take (i := 6) (v := ?_) rfl (by kernel_rfl) (by kernel_rfl) (by kernel_rfl) (fun _ _ _ h => h) (Or.inl ⟨by rfl, ?_⟩) (by assumption) ?_
        rotate_left
        · (intro w' hSw; go_simp; try with_reducible rfl)
        try simp only [Act.put, List.getElem_toArray, List.getElem_cons_zero, List.getElem_cons_succ, List.setIfInBounds_toArray, List.set_cons_zero, List.set_cons_succ]
        refine wpAnyH_take (i := 7) (v := ?_) rfl (by kernel_rfl) (by kernel_rfl) (by kernel_rfl) (fun _ _ _ h => h) (Or.inl ⟨by rfl, ?_⟩) (by assumption) ?_
        rotate_left
        · (intro w' hSw; go_simp; try with_reducible rfl)
        try simp only [Act.put, List.getElem_toArray, List.getElem_cons_zero, List.getElem_cons_succ, List.setIfInBounds_toArray, List.set_cons_zero, List.set_cons_succ]
        refine wpAnyH_take (i := 8) (v := ?_) rfl (by kernel_rfl) (by kernel_rfl) (by kernel_rfl) (fun _ _ _ h => h) (Or.inl ⟨by rfl, ?_⟩) (by assumption) ?_
        rotate_left
        · (intro w' hSw; go_simp; try with_reducible rfl)
        try simp only [Act.put, List.getElem_toArray, List.getElem_cons_zero, List.getElem_cons_succ, List.setIfInBounds_toArray, List.set_cons_zero, List.set_cons_succ]
        refine wpAnyH_take (i := 9) (v := ?_) rfl (by kernel_rfl) (by kernel_rfl) (by kernel_rfl) (fun _ _ _ h => h) (Or.inl ⟨by rfl, ?_⟩) (by assumption) ?_
        rotate_left
        · (intro w' hSw; have y0 := hSw.cell x0 (by simp); have y1 := hSw.cell x1 (by simp); have y2 := hSw.cell x2 (by simp); have y3 := hSw.cell x3 (by simp); have y4 := hSw.cell x4 (by simp); have y5 := hSw.cell x5 (by simp); have y6 := hSw.cell x6 (by simp); go_simp; try with_reducible rfl)
        try simp only [Act.put, List.getElem_toArray, List.getElem_cons_zero, List.getElem_cons_succ, List.setIfInBounds_toArray, List.set_cons_zero, List.set_cons_succ]
        refine wpAnyH_take (i := 10) (v := ?_) rfl (by kernel_rfl) (by kernel_rfl) (by kernel_rfl) (fun _ _ _ h => h) (Or.inl ⟨by rfl, ?_⟩) (by assumption) ?_
        rotate_left
        · (intro w' hSw; go_simp; try with_reducible rfl)
        try simp only [Act.put, List.getElem_toArray, List.getElem_cons_zero, List.getElem_cons_succ, List.setIfInBounds_toArray, List.set_cons_zero, List.set_cons_succ]
        refine wpAnyH_ready (rs := [11, 12]) (by kernel_rfl) (by simp) ?_
        refine AllReadyH.cons rfl (fun K hK => ?_) (AllReadyH.cons rfl (fun K hK => ?_) (AllReadyH.nil))
        · go_simp
          refine (way_any' l node wy HWL.out _).mono ?_
          rintro e w3 ⟨rfl, hc3⟩
          have hc3' := hHeld.trans0 hc3
          refine hK.out _ _ (hHeld.trans0 hc3) (fun hHeld => ?_)
          try simp only [Act.put, List.getElem_toArray, List.getElem_cons_zero, List.getElem_cons_succ, List.setIfInBounds_toArray, List.set_cons_zero, List.set_cons_succ]
          clear hK K
          refine wpAnyH_ready (rs := [12]) (by kernel_rfl) (by simp) ?_
          refine AllReadyH.cons rfl (fun K hK => ?_) (AllReadyH.nil)
          go_simp
          refine hK.out _ _ (hHeld.alloc _) (fun hHeld => ?_)
          try simp only [Act.put, List.getElem_toArray, List.getElem_cons_zero, List.getElem_cons_succ, List.setIfInBounds_toArray, List.set_cons_zero, List.set_cons_succ]
          clear hK K
          refine wpAnyH_ready (rs := [13]) (by kernel_rfl) (by simp) ?_
          refine AllReadyH.cons rfl (fun K hK => ?_) (AllReadyH.nil)
          go_simp
          refine hK.out _ _ (by first | exact hHeld.alloc _ | exact ((hHeld.setCell (.inr (by simp)) _).setCell (.inr (by simp)) _).setCell (.inr (by simp)) _ | exact hc3'.alloc _) (fun hHeld => ?_)
          try simp only [Act.put, List.getElem_toArray, List.getElem_cons_zero, List.getElem_cons_succ, List.setIfInBounds_toArray, List.set_cons_zero, List.set_cons_succ]
          clear hK K
          refine wpAnyH_take (i := 14) (v := ?_) rfl (by kernel_rfl) (by kernel_rfl) (by kernel_rfl) (fun _ _ _ h => h) (Or.inl ⟨by rfl, ?_⟩) (by assumption) ?_
          rotate_left
          · (intro w' hSw; go_simp; try with_reducible rfl)
          try simp only [Act.put, List.getElem_toArray, List.getElem_cons_zero, List.getElem_cons_succ, List.setIfInBounds_toArray, List.set_cons_zero, List.set_cons_succ]
          refine wpAnyH_done (by kernel_rfl) ?_ _
          obtain ⟨W, hW⟩ : ∃ W, W = w3.alloc (.cells #[.slice (b.A 0) (b.n 0) (b.c 0), .slice (b.A 1) (b.n 1) (b.c 1), .slice (b.A 2) (b.n 2) (b.c 2)] 62) := ⟨_, rfl⟩
          have HBk : Hid (Blk W w3.heap.size 62 #[b.sl 0, b.sl 1, b.sl 2]) := Lib.hid (by rw [hW]; exact Blk.new _ _ _)
          have HCW : Hid (Chg [] wr W) := Lib.hid (by rw [hW]; exact hHeld)
          have HBN : Hid (wr.heap.size ≤ w3.heap.size) := Lib.hid hc3.size
          rw [← hW]
          clear hW
          generalize w3.heap.size = Bk at *
          clear hHeld
          have HKB : Hid (Bk ≠ Bm) := Lib.hid (by have q1 := HMP.out.lt; have q2 := HBN.out; omega)
          have hbw := HBk.out.cell wy
          rw [b3_at b wy hw3] at hbw
          have hbf := HBk.out.frozen wy
          have howW := (HB.out.own wy hw3).chg HCW.out (fun _ _ => List.not_mem_nil)
          rw [HTY.out] at howW
          have hbn : b.n wy ≤ N0 := by
            have q1 := own_len howW
            have q2 := pk_le ls ts node ((incident ls node).take k) t wy
            rw [List.length_take, HN0.out] at q2
            omega
          have HBA : Hid (∀ x ∈ bo (b.A wy), x ≠ Bk) := Lib.hid (howW.blk_ne HBk.out (by decide))
          have HNB : Hid (Bk ∉ bo (b.A wy)) := Lib.hid (fun hx => HBA.out Bk hx rfl)
          go_wp2_with (at_builtin; refine wpList_app rfl _ _ rfl etyInts rfl (howW.chg ((Chg.refl [] W).alloc _) (fun _ _ => List.not_mem_nil)) rfl (Own.lit W 3 1 #[.int .i64 j] 1 (by decide) rfl).rd (one_int _ _) (by unfold maxLen; omega) (by omega) ?_; intro A2 c2 W2 hown2 hchg2 hnew2 _; have hb2 := (HBk.out.alloc _).chg hchg2 HNB.out; have hf2 := hb2.frozen wy; have hc2 := hb2.cell wy; rw [b3_at b wy hw3] at hc2; have HOW2 := Lib.hid hown2; have HCG2 := Lib.hid hchg2; have HNW2 := Lib.hid hnew2; have HB2 := Lib.hid hb2; clear hown2 hchg2 hnew2 hb2)
          obtain ⟨W3, hW3⟩ : ∃ W3, W3 = W2.setCell ⟨Bk, wy, none⟩ (.slice A2 (b.n wy + 1) c2) := ⟨_, rfl⟩
          obtain ⟨b', hb'⟩ : ∃ b', b' = b.set wy A2 (b.n wy + 1) c2 := ⟨_, rfl⟩
          rw [← hW3]
          have HB' := Lib.hid hb'
          have HB3 : Hid (Blk W3 Bk 62 #[b'.sl 0, b'.sl 1, b'.sl 2]) := Lib.hid (by have q := HB2.out.set_ wy (.slice A2 (b.n wy + 1) c2); rw [b3_set b wy hw3, ← hb', ← hW3] at q; exact q)
          have q0 : W.heap.size ≤ W2.heap.size := by have := HCG2.out.size; simp at this; omega
          have hcW2 : Chg (bo (b.A wy)) wr W2 := ((HCW.out.alloc _).nil _).trans HCG2.out (fun x hx => .inl hx)
          have HC3 : Hid (Chg (bo (b.A wy)) wr W3) := Lib.hid (by rw [hW3]; exact hcW2.setCell (.inr HBN.out) _)
          have HOW3 : Hid (Own W3 3 1 A2 (b.n wy + 1) c2 (iv (pk ls ts node ((incident ls node).take k) t wy) ++ [.int .i64 j])) := Lib.hid (by
            rw [hW3]
            refine HOW2.out.chg ((Chg.refl [Bk] W2).setCell (.inl (by simp)) _) (fun x hx hm => ?_)
            have hm : x = Bk := by simpa using hm
            exact HOW2.out.blk_ne HB2.out (by decide) x hx hm)
          clear hW3 hb' hcW2 hf2 hc2 hbf hbw howW
          have HMP3 : Hid (Mp W3 Bm kvI (g.map fun p => (p.1, p.2.arr))) := Lib.hid (HMP.out.chg HC3.out (fun hx => (HB.out.own wy hw3).mp_ne HMP.out Bm hx rfl))
          have HTC3 : Hid (W3.cell? (bt.add j) = some (.int .i64 t)) := Lib.hid (HC3.out.cell htc (fun hm => by have q1 := HB.out.new wy hw3 _ hm; have q2 := HC1.out.size; rw [add_block] at q1; have q3 := HBT.out; omega))
          have z0 := HB3.out.cell 0
          have z1 := HB3.out.cell 1
          have z2 := HB3.out.cell 2
          simp at z0 z1 z2
          have Z0 := Lib.hid z0
          have Z1 := Lib.hid z1
          have Z2 := Lib.hid z2
          clear z0 z1 z2
          refine wp_region_held_drew (S := fun w' => Chg [Bm] W3 w') (by kernel_rfl) ((Chg.refl _ _).drew) (fun hHeld => ?_)
          refine wpAnyH_take (i := 0) (v := ?_) rfl (by kernel_rfl) (by kernel_rfl) (by kernel_rfl) (fun _ _ _ h => h) (Or.inl ⟨by rfl, ?_⟩) (by assumption) ?_
          rotate_left
          · (intro w' hSw; go_simp; try with_reducible rfl)
          try simp only [Act.put, List.getElem_toArray, List.getElem_cons_zero, List.setIfInBounds_toArray, List.set_cons_zero, List.set_cons_succ]
          refine wpAnyH_take (i := 1) (v := ?_) rfl (by kernel_rfl) (by kernel_rfl) (by kernel_rfl) (fun _ _ _ h => h) (Or.inl ⟨by rfl, ?_⟩) (by assumption) ?_
          rotate_left
          · (intro w' hSw; go_simp; try with_reducible rfl)
          try simp only [Act.put, List.getElem_toArray, List.getElem_cons_zero, List.getElem_cons_succ, List.setIfInBounds_toArray, List.set_cons_zero, List.set_cons_succ]
          refine wpAnyH_take (i := 2) (v := ?_) rfl (by kernel_rfl) (by kernel_rfl) (by kernel_rfl) (fun _ _ _ h => h) (Or.inl ⟨by rfl, ?_⟩) (by assumption) ?_
          rotate_left
          · (intro w' hSw; go_simp; try with_reducible rfl)
          try simp only [Act.put, List.getElem_toArray, List.getElem_cons_zero, List.getElem_cons_succ, List.setIfInBounds_toArray, List.set_cons_zero, List.set_cons_succ]
          refine wpAnyH_take (i := 3) (v := ?_) rfl (by kernel_rfl) (by kernel_rfl) (by kernel_rfl) (fun _ _ _ h => h) (Or.inl ⟨by rfl, ?_⟩) (by assumption) ?_
          rotate_left
          · (intro w' hSw; go_simp; try with_reducible rfl)
          try simp only [Act.put, List.getElem_toArray, List.getElem_cons_zero, List.getElem_cons_succ, List.setIfInBounds_toArray, List.set_cons_zero, List.set_cons_succ]
          refine wpAnyH_take (i := 4) (v := ?_) rfl (by kernel_rfl) (by kernel_rfl) (by kernel_rfl) (fun _ _ _ h => h) (Or.inl ⟨by rfl, ?_⟩) (by assumption) ?_
          rotate_left
          · (intro w' hSw; have q := hSw.cell HTC3.out (fun h => HTB.out (by simpa using h)); go_simp; try with_reducible rfl)
          try simp only [Act.put, List.getElem_toArray, List.getElem_cons_zero, List.getElem_cons_succ, List.setIfInBounds_toArray, List.set_cons_zero, List.set_cons_succ]
          refine wpAnyH_take (i := 5) (v := ?_) rfl (by kernel_rfl) (by kernel_rfl) (by kernel_rfl) (fun _ _ _ h => h) (Or.inl ⟨by rfl, ?_⟩) (by assumption) ?_
          rotate_left
          · (intro w' hSw; have y0 := hSw.cell Z0.out (fun h => HKB.out (by simpa using h)); have y1 := hSw.cell Z1.out (fun h => HKB.out (by simpa using h)); have y2 := hSw.cell Z2.out (fun h => HKB.out (by simpa using h)); simp only [B3.sl] at y0 y1 y2; go_simp; try with_reducible rfl)
          try simp only [Act.put, List.getElem_toArray, List.getElem_cons_zero, List.getElem_cons_succ, List.setIfInBounds_toArray, List.set_cons_zero, List.set_cons_succ]
          have hmq := HMP3.out.chg ((Chg.refl [] W3).drew) (by simp)
          obtain ⟨w4, hu, hmp4, hc4⟩ := hmq.update mp_key mpb_und t b'.arr
          simp only [B3.arr, B3.sl] at hu
          have HMP4 := Lib.hid hmp4
          have HC4 := Lib.hid hc4
          clear hmp4 hc4 hmq
          refine wpAnyH_ready (rs := [6]) (by kernel_rfl) (by simp) ?_
          refine AllReadyH.cons rfl (fun K hK => ?_) (AllReadyH.nil)
          go_simp
          refine hK.out _ _ (((Chg.refl _ _).drew).trans HC4.out (fun _ h => .inl h)) (fun hHeld => ?_)
          try simp only [Act.put, List.getElem_toArray, List.getElem_cons_zero, List.getElem_cons_succ, List.setIfInBounds_toArray, List.set_cons_zero, List.set_cons_succ]
          clear hK K
          refine wpAnyH_done (by kernel_rfl) ?_ _
          try simp only [Act.put, List.getElem_toArray, List.getElem_cons_zero, List.getElem_cons_succ, List.setIfInBounds_toArray, List.set_cons_zero, List.set_cons_succ]
          go_wp2
          go_roundw
          case rel =>
            have HC5 : Chg (bo (b.A wy) ++ [Bm]) wr w4 := (HC3.out.mono (fun x hx => .inl (List.mem_append_left _ hx))).trans (((Chg.refl [] W3).drew).nil _ |>.trans HC4.out (fun x hx => .inl hx)) (fun x hx => .inl (List.mem_append_right _ hx))
            refine ⟨k + 1, aput g t b', by omega, by go_num, ?_, ?_, HCH1.out.trans HC5 (fun x hx => ?_)⟩
            · rw [take_snoc _ _ _ HID.out]
              refine HG.out.put' (L := bo (b.A wy) ++ [Bm]) (c' := c2) HTY.out (HWY.out.trans HWL.out) (by have q := HB.out; rw [HTY.out] at q; exact q) HCH1.out.size HC5 (fun x hx => ?_) ?_ (fun x hx => ?_) HB'.out
              · rcases List.mem_append.1 hx with h | h
                · exact .inl h
                · refine .inr (.inr (fun e sz A n c xs ho he hm => ho.mp_ne HMP.out x hm (by simpa using h)))
              · exact HOW3.out.chg (((Chg.refl [] W3).drew).nil [Bm] |>.trans HC4.out (fun x hx => .inl hx)) (fun x hx hm => HOW3.out.mp_ne HMP3.out x hx (by simpa using hm))
              · rcases HNW2.out x hx with h | h
                · exact .inl h
                · have q1 := HCW.out.size; simp at h; exact .inr (by omega)
            · rw [← aput_map]
              exact HMP4.out
            · rcases List.mem_append.1 hx with h | h
              · exact .inr (HB.out.new wy hw3 x h)
              · exact .inl h
          case measure => simp [intOf]; omega
        · go_simp
          refine hK.out _ _ (hHeld.alloc _) (fun hHeld => ?_)
          try simp only [Act.put, List.getElem_toArray, List.getElem_cons_zero, List.getElem_cons_succ, List.setIfInBounds_toArray, List.set_cons_zero, List.set_cons_succ]
          clear hK K
          refine wpAnyH_ready (rs := [11]) (by kernel_rfl) (by simp) ?_
          refine AllReadyH.cons rfl (fun K hK => ?_) (AllReadyH.nil)
          have hbz : Blk (wr.alloc (.cells #[.slice none 0 0, .slice none 0 0, .slice none 0 0] 62)) wr.heap.size 62 #[.slice none 0 0, .slice none 0 0, .slice none 0 0] := Blk.new _ _ _
          go_simp
          refine (way_any' l node wy HWL.out _).mono ?_
          rintro e w3 ⟨rfl, hc3⟩
          have hbz3 := hbz.drew.chg hc3 (by simp)
          have z0 := hbz3.cell 0; have z1 := hbz3.cell 1; have z2 := hbz3.cell 2
          simp at z0 z1 z2
          have e0 := hbz3.frozen 0; have e1 := hbz3.frozen 1; have e2 := hbz3.frozen 2
          refine hK.out _ _ (hHeld.trans0 hc3) (fun hHeld => ?_)
          try simp only [Act.put, List.getElem_toArray, List.getElem_cons_zero, List.getElem_cons_succ, List.setIfInBounds_toArray, List.set_cons_zero, List.set_cons_succ]
          clear hK K
          refine wpAnyH_ready (rs := [13]) (by kernel_rfl) (by simp) ?_
          refine AllReadyH.cons rfl (fun K hK => ?_) (AllReadyH.nil)
          go_simp
          refine hK.out _ _ (by first | exact hHeld.alloc _ | exact ((hHeld.setCell (.inr (by simp)) _).setCell (.inr (by simp)) _).setCell (.inr (by simp)) _ | exact hc3'.alloc _) (fun hHeld => ?_)
          try simp only [Act.put, List.getElem_toArray, List.getElem_cons_zero, List.getElem_cons_succ, List.setIfInBounds_toArray, List.set_cons_zero, List.set_cons_succ]
          clear hK K
          refine wpAnyH_take (i := 14) (v := ?_) rfl (by kernel_rfl) (by kernel_rfl) (by kernel_rfl) (fun _ _ _ h => h) (Or.inl ⟨by rfl, ?_⟩) (by assumption) ?_
          rotate_left
          · (intro w' hSw; go_simp; try with_reducible rfl)
          try simp only [Act.put, List.getElem_toArray, List.getElem_cons_zero, List.getElem_cons_succ, List.setIfInBounds_toArray, List.set_cons_zero, List.set_cons_succ]
          refine wpAnyH_done (by kernel_rfl) ?_ _
          obtain ⟨W, hW⟩ : ∃ W, W = (((w3.setCell ⟨wr.heap.size, 0, none⟩ (.slice (b.A 0) (b.n 0) (b.c 0))).setCell ⟨wr.heap.size, 1, none⟩ (.slice (b.A 1) (b.n 1) (b.c 1))).setCell ⟨wr.heap.size, 2, none⟩ (.slice (b.A 2) (b.n 2) (b.c 2))) := ⟨_, rfl⟩
          have HBk : Hid (Blk W wr.heap.size 62 #[b.sl 0, b.sl 1, b.sl 2]) := Lib.hid (by rw [hW]; exact ((hbz3.set_ 0 _).set_ 1 _).set_ 2 _)
          have HCW : Hid (Chg [] wr W) := Lib.hid (by rw [hW]; exact hHeld)
          have HBN : Hid (wr.heap.size ≤ wr.heap.size) := Lib.hid (Nat.le_refl _)
          rw [← hW]
          clear hW z0 z1 z2 e0 e1 e2
          obtain ⟨Bk, hBk⟩ : ∃ Bk, Bk = wr.heap.size := ⟨_, rfl⟩
          rw [← hBk] at HBk ⊢
          have HBN : Hid (wr.heap.size ≤ Bk) := Lib.hid (Nat.le_of_eq hBk.symm)
          clear hBk hbz hbz3
          clear hHeld
          have HKB : Hid (Bk ≠ Bm) := Lib.hid (by have q1 := HMP.out.lt; have q2 := HBN.out; omega)
          have hbw := HBk.out.cell wy
          rw [b3_at b wy hw3] at hbw
          have hbf := HBk.out.frozen wy
          have howW := (HB.out.own wy hw3).chg HCW.out (fun _ _ => List.not_mem_nil)
          rw [HTY.out] at howW
          have hbn : b.n wy ≤ N0 := by
            have q1 := own_len howW
            have q2 := pk_le ls ts node ((incident ls node).take k) t wy
            rw [List.length_take, HN0.out] at q2
            omega
          have HBA : Hid (∀ x ∈ bo (b.A wy), x ≠ Bk) := Lib.hid (howW.blk_ne HBk.out (by decide))
          have HNB : Hid (Bk ∉ bo (b.A wy)) := Lib.hid (fun hx => HBA.out Bk hx rfl)
          go_wp2_with (at_builtin; refine wpList_app rfl _ _ rfl etyInts rfl (howW.chg ((Chg.refl [] W).alloc _) (fun _ _ => List.not_mem_nil)) rfl (Own.lit W 3 1 #[.int .i64 j] 1 (by decide) rfl).rd (one_int _ _) (by unfold maxLen; omega) (by omega) ?_; intro A2 c2 W2 hown2 hchg2 hnew2 _; have hb2 := (HBk.out.alloc _).chg hchg2 HNB.out; have hf2 := hb2.frozen wy; have hc2 := hb2.cell wy; rw [b3_at b wy hw3] at hc2; have HOW2 := Lib.hid hown2; have HCG2 := Lib.hid hchg2; have HNW2 := Lib.hid hnew2; have HB2 := Lib.hid hb2; clear hown2 hchg2 hnew2 hb2)
          obtain ⟨W3, hW3⟩ : ∃ W3, W3 = W2.setCell ⟨Bk, wy, none⟩ (.slice A2 (b.n wy + 1) c2) := ⟨_, rfl⟩
          obtain ⟨b', hb'⟩ : ∃ b', b' = b.set wy A2 (b.n wy + 1) c2 := ⟨_, rfl⟩
          rw [← hW3]
          have HB' := Lib.hid hb'
          have HB3 : Hid (Blk W3 Bk 62 #[b'.sl 0, b'.sl 1, b'.sl 2]) := Lib.hid (by have q := HB2.out.set_ wy (.slice A2 (b.n wy + 1) c2); rw [b3_set b wy hw3, ← hb', ← hW3] at q; exact q)
          have q0 : W.heap.size ≤ W2.heap.size := by have := HCG2.out.size; simp at this; omega
          have hcW2 : Chg (bo (b.A wy)) wr W2 := ((HCW.out.alloc _).nil _).trans HCG2.out (fun x hx => .inl hx)
          have HC3 : Hid (Chg (bo (b.A wy)) wr W3) := Lib.hid (by rw [hW3]; exact hcW2.setCell (.inr HBN.out) _)
          have HOW3 : Hid (Own W3 3 1 A2 (b.n wy + 1) c2 (iv (pk ls ts node ((incident ls node).take k) t wy) ++ [.int .i64 j])) := Lib.hid (by
            rw [hW3]
            refine HOW2.out.chg ((Chg.refl [Bk] W2).setCell (.inl (by simp)) _) (fun x hx hm => ?_)
            have hm : x = Bk := by simpa using hm
            exact HOW2.out.blk_ne HB2.out (by decide) x hx hm)
          clear hW3 hb' hcW2 hf2 hc2 hbf hbw howW
          have HMP3 : Hid (Mp W3 Bm kvI (g.map fun p => (p.1, p.2.arr))) := Lib.hid (HMP.out.chg HC3.out (fun hx => (HB.out.own wy hw3).mp_ne HMP.out Bm hx rfl))
          have HTC3 : Hid (W3.cell? (bt.add j) = some (.int .i64 t)) := Lib.hid (HC3.out.cell htc (fun hm => by have q1 := HB.out.new wy hw3 _ hm; have q2 := HC1.out.size; rw [add_block] at q1; have q3 := HBT.out; omega))
          have z0 := HB3.out.cell 0
          have z1 := HB3.out.cell 1
          have z2 := HB3.out.cell 2
          simp at z0 z1 z2
          have Z0 := Lib.hid z0
          have Z1 := Lib.hid z1
          have Z2 := Lib.hid z2
          clear z0 z1 z2
          refine wp_region_held_drew (S := fun w' => Chg [Bm] W3 w') (by kernel_rfl) ((Chg.refl _ _).drew) (fun hHeld => ?_)
          refine wpAnyH_take (i := 0) (v := ?_) rfl (by kernel_rfl) (by kernel_rfl) (by kernel_rfl) (fun _ _ _ h => h) (Or.inl ⟨by rfl, ?_⟩) (by assumption) ?_
          rotate_left
          · (intro w' hSw; go_simp; try with_reducible rfl)
          try simp only [Act.put, List.getElem_toArray, List.getElem_cons_zero, List.setIfInBounds_toArray, List.set_cons_zero, List.set_cons_succ]
          refine wpAnyH_take (i := 1) (v := ?_) rfl (by kernel_rfl) (by kernel_rfl) (by kernel_rfl) (fun _ _ _ h => h) (Or.inl ⟨by rfl, ?_⟩) (by assumption) ?_
          rotate_left
          · (intro w' hSw; go_simp; try with_reducible rfl)
          try simp only [Act.put, List.getElem_toArray, List.getElem_cons_zero, List.getElem_cons_succ, List.setIfInBounds_toArray, List.set_cons_zero, List.set_cons_succ]
          refine wpAnyH_take (i := 2) (v := ?_) rfl (by kernel_rfl) (by kernel_rfl) (by kernel_rfl) (fun _ _ _ h => h) (Or.inl ⟨by rfl, ?_⟩) (by assumption) ?_
          rotate_left
          · (intro w' hSw; go_simp; try with_reducible rfl)
          try simp only [Act.put, List.getElem_toArray, List.getElem_cons_zero, List.getElem_cons_succ, List.setIfInBounds_toArray, List.set_cons_zero, List.set_cons_succ]
          refine wpAnyH_take (i := 3) (v := ?_) rfl (by kernel_rfl) (by kernel_rfl) (by kernel_rfl) (fun _ _ _ h => h) (Or.inl ⟨by rfl, ?_⟩) (by assumption) ?_
          rotate_left
          · (intro w' hSw; go_simp; try with_reducible rfl)
          try simp only [Act.put, List.getElem_toArray, List.getElem_cons_zero, List.getElem_cons_succ, List.setIfInBounds_toArray, List.set_cons_zero, List.set_cons_succ]
          refine wpAnyH_take (i := 4) (v := ?_) rfl (by kernel_rfl) (by kernel_rfl) (by kernel_rfl) (fun _ _ _ h => h) (Or.inl ⟨by rfl, ?_⟩) (by assumption) ?_
          rotate_left
          · (intro w' hSw; have q := hSw.cell HTC3.out (fun h => HTB.out (by simpa using h)); go_simp; try with_reducible rfl)
          try simp only [Act.put, List.getElem_toArray, List.getElem_cons_zero, List.getElem_cons_succ, List.setIfInBounds_toArray, List.set_cons_zero, List.set_cons_succ]
          refine wpAnyH_take (i := 5) (v := ?_) rfl (by kernel_rfl) (by kernel_rfl) (by kernel_rfl) (fun _ _ _ h => h) (Or.inl ⟨by rfl, ?_⟩) (by assumption) ?_
          rotate_left
          · (intro w' hSw; have y0 := hSw.cell Z0.out (fun h => HKB.out (by simpa using h)); have y1 := hSw.cell Z1.out (fun h => HKB.out (by simpa using h)); have y2 := hSw.cell Z2.out (fun h => HKB.out (by simpa using h)); simp only [B3.sl] at y0 y1 y2; go_simp; try with_reducible rfl)
          try simp only [Act.put, List.getElem_toArray, List.getElem_cons_zero, List.getElem_cons_succ, List.setIfInBounds_toArray, List.set_cons_zero, List.set_cons_succ]
          have hmq := HMP3.out.chg ((Chg.refl [] W3).drew) (by simp)
          obtain ⟨w4, hu, hmp4, hc4⟩ := hmq.update mp_key mpb_und t b'.arr
          simp only [B3.arr, B3.sl] at hu
          have HMP4 := Lib.hid hmp4
          have HC4 := Lib.hid hc4
          clear hmp4 hc4 hmq
          refine wpAnyH_ready (rs := [6]) (by kernel_rfl) (by simp) ?_
          refine AllReadyH.cons rfl (fun K hK => ?_) (AllReadyH.nil)
          go_simp
          refine hK.out _ _ (((Chg.refl _ _).drew).trans HC4.out (fun _ h => .inl h)) (fun hHeld => ?_)
          try simp only [Act.put, List.getElem_toArray, List.getElem_cons_zero, List.getElem_cons_succ, List.setIfInBounds_toArray, List.set_cons_zero, List.set_cons_succ]
          clear hK K
          refine wpAnyH_done (by kernel_rfl) ?_ _
          try simp only [Act.put, List.getElem_toArray, List.getElem_cons_zero, List.getElem_cons_succ, List.setIfInBounds_toArray, List.set_cons_zero, List.set_cons_succ]
          go_wp2
          go_roundw
          case rel =>
            have HC5 : Chg (bo (b.A wy) ++ [Bm]) wr w4 := (HC3.out.mono (fun x hx => .inl (List.mem_append_left _ hx))).trans (((Chg.refl [] W3).drew).nil _ |>.trans HC4.out (fun x hx => .inl hx)) (fun x hx => .inl (List.mem_append_right _ hx))
            refine ⟨k + 1, aput g t b', by omega, by go_num, ?_, ?_, HCH1.out.trans HC5 (fun x hx => ?_)⟩
            · rw [take_snoc _ _ _ HID.out]
              refine HG.out.put' (L := bo (b.A wy) ++ [Bm]) (c' := c2) HTY.out (HWY.out.trans HWL.out) (by have q := HB.out; rw [HTY.out] at q; exact q) HCH1.out.size HC5 (fun x hx => ?_) ?_ (fun x hx => ?_) HB'.out
              · rcases List.mem_append.1 hx with h | h
                · exact .inl h
                · refine .inr (.inr (fun e sz A n c xs ho he hm => ho.mp_ne HMP.out x hm (by simpa using h)))
              · exact HOW3.out.chg (((Chg.refl [] W3).drew).nil [Bm] |>.trans HC4.out (fun x hx => .inl hx)) (fun x hx hm => HOW3.out.mp_ne HMP3.out x hx (by simpa using hm))
              · rcases HNW2.out x hx with h | h
                · exact .inl h
                · have q1 := HCW.out.size; simp at h; exact .inr (by omega)
            · rw [← aput_map]
              exact HMP4.out
            · rcases List.mem_append.1 hx with h | h
              · exact .inr (HB.out.new wy hw3 x h)
              · exact .inl h
          case measure => simp [intOf]; omega
      · obtain rfl : k = N0 := by omega
        have hgt : (incident ls node).take k = incident ls node := List.take_of_length_le (by rw [HN0.out]; exact Nat.le_refl _)
        rw [hgt] at hg
        have hsort := hg.sorted
        have hks : ∀ p ∈ g.map (fun p => (p.1, p.2.arr)), (Lit.int .i64 p.1).wf = true := by
          intro p hp
          obtain ⟨p', hp', rfl⟩ := List.mem_map.1 hp
          obtain ⟨id, hid, he⟩ := (hg.keys p'.1).1 (List.mem_map.2 ⟨p', hp', rfl⟩)
          simp only
          rw [← he]
          exact ty_wf HWF.out (by rw [HM.out, HL.out]; exact HMN.out) hid
        have hgl : g.length ≤ n := by have := hg.bnd; rw [HN0.out] at this; omega
        obtain ⟨T, hT⟩ : ∃ T, g.length = T := ⟨_, rfl⟩
        have hTl : (tys ts (incident ls node)).length = T := by rw [← hsort, (List.mergeSort_perm _ _).length_eq, List.length_map]; exact hT
        have hTn : T ≤ n := by omega
        have cS := sorted_any wr Bm (g.map fun p => (p.1, p.2.arr)) hmp hks (by rw [List.length_map]; omega)
        rw [List.map_map, show (Prod.fst ∘ fun p : Int × B3 => (p.1, p.2.arr)) = Prod.fst from rfl, hsort, List.length_map, hT] at cS
        have CS := Lib.hid cS
        have HG := Lib.hid hg
        have HMP := Lib.hid hmp
        have HCH := Lib.hid hch
        have HT := Lib.hid hT
        have HTL := Lib.hid hTl
        clear cS hg hmp hch hT hTl hgt hsort hks hgl hch1
        go_wp2_with fail
        refine (keys_any (some Bm) wr).mono ?_
        rintro e w2 ⟨rfl, rfl⟩
        go_wp2_with fail
        refine CS.out.mono ?_
        rintro e w3 ⟨A3, c3, rfl, ho3, hc3, hn3⟩
        have HO3 := Lib.hid ho3
        have HC3 : Hid (Chg [] wr w3) := Lib.hid (((Chg.refl _ _).alloc _).trans0 hc3)
        clear ho3 hc3 hn3
        obtain ⟨wo, hwo⟩ : ∃ wo : World, wo = wr := ⟨_, rfl⟩
        subst hwo
        go_wp2
        go_loopw [59, 6] (fun q v WQ => ∃ (i : Nat) (A' : Option Addr) (c' : Nat), i ≤ T ∧ q = .int .i64 i ∧ v = .slice A' i c' ∧ Own WQ 52 4 A' i c' (rows (rowsOf g ((tys ts (incident ls node)).take i))) ∧ Chg [] wo WQ ∧ Chg [] w3 WQ ∧ (∀ x ∈ bo A', w3.heap.size ≤ x)) (fun q _ _ => T - (intOf q).toNat)
        case atStart => exact ⟨0, none, 0, Nat.zero_le _, rfl, rfl, by simpa [rowsOf, rows] using Own.nil w3 _ _, HC3.out, Chg.refl _ _, by simp⟩
        case round =>
          obtain ⟨i, A', c', hi, rfl, rfl, hown, hcq, hcq3, hnew⟩ := hrel
          by_cases hlt : i < T
          · obtain ⟨a3, t, hA3, ht, hcell⟩ := rd_int (HO3.out.rd.chg hcq3 (fun _ _ => List.not_mem_nil)) hlt
            subst hA3
            have hlk := ((HMP.out.chg hcq (fun h => List.not_mem_nil h)).lookup mp_key mpb_und (bins_zero wr) t).1
            rw [bO_arr] at hlk
            simp only [B3.arr, B3.sl] at hlk
            have HT2 := Lib.hid ht
            have HNW := Lib.hid hnew
            obtain ⟨b, hb⟩ : ∃ b, b = bO g t := ⟨_, rfl⟩
            rw [← hb] at hlk
            have HB := Lib.hid hb
            clear hb ht hnew
            go_wp2_with fail
            refine (bunch_any _ _ _ _ _ _ _ _ _ t _).mono ?_
            rintro e w4 ⟨rfl, hc4⟩
            have ho4 := hown.chg hc4 (fun _ _ => List.not_mem_nil)
            go_wp2_with (at_builtin; refine wpList_app rfl _ _ rfl etyBunches rfl (ho4.chg ((Chg.refl [] w4).alloc _) (fun _ _ => List.not_mem_nil)) rfl (Own.lit w4 52 4 #[.int .i64 t, .slice (b.A 0) (b.n 0) (b.c 0), .slice (b.A 1) (b.n 1) (b.c 1), .slice (b.A 2) (b.n 2) (b.c 2)] 1 (by decide) rfl).rd (by simp [Value.oneCell']) (by unfold maxLen; omega) (by omega) ?_; intro A5 c5 w5 hown5 hchg5 hnew5 _)
            go_roundw
            case rel =>
              refine ⟨i + 1, A5, c5, by omega, by go_num, rfl, ?_, ((hcq.trans0 hc4).alloc _).trans hchg5 (fun x hx => .inr (Nat.le_trans HC3.out.size (HNW.out x hx))), ((hcq3.trans0 hc4).alloc _).trans hchg5 (fun x hx => .inr (HNW.out x hx)), fun x hx => ?_⟩
              · rw [rows_snoc g _ i t HT2.out, ← HB.out]
                exact hown5
              · rcases hnew5 x hx with h | h
                · exact HNW.out x h
                · have q1 := (hcq3.trans0 hc4).size; simp at h; omega
            case measure => simp [intOf]; omega
          · obtain rfl : i = T := by omega
            have HBO : Hid (BOwn w wr A' i c' (rowsOf g (tys ts (incident ls node))) (gath ls ts node)) := Lib.hid (HG.out.bown HC1.out.size hcq (by rw [List.take_of_length_le (by rw [HTL.out]; exact Nat.le_refl _)] at hown; exact hown) (fun x hx => Nat.le_trans (HCH.out.trans0 HC3.out).size (hnew x hx)))
            have HGA : Hid (gather ls ts node = gath ls ts node) := Lib.hid (by unfold gather; rw [if_pos (by rw [HM.out, HL.out]; exact HMN.out)])
            have HLE : Hid ((gath ls ts node).length = i) := Lib.hid (by unfold gath; rw [List.length_map, HTL.out])
            have HCE := Lib.hid (HCH.out.trans0 hcq)
            clear hown hnew hcq hcq3
            go_wp2
            go_ret
            refine ⟨A', c', rowsOf g (tys ts (incident ls node)), ?_, ?_, HCE.out⟩
            · rw [HGA.out, HLE.out]; rfl
            · rw [HGA.out, HLE.out]; exact HBO.out
  · have t0 : ((m : Int) != n) = true := by simp; omega
    have HT : Hid (gather ls ts node = []) := Lib.hid (by unfold gather; rw [if_neg (by rw [HM.out, HL.out]; exact hmn)])
    clear hmn
    go_enter Try.func13, Try.ntmps13
    go_wp2
    go_ret
    refine ⟨none, 0, [], by rw [HT.out]; rfl, ?_, by repeat (first | exact Chg.refl _ _ | apply Chg.alloc)⟩
    rw [HT.out]
    exact ⟨Own.nil _ _ _, rfl, by simp, by intro i j p q h; simp at h, by simp, by simp⟩
end Go.Proofs.Ytelmnmepdmfihaa
