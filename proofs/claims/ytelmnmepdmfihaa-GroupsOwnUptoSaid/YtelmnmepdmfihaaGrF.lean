/-
  Layer 17: the document's Gather, walked.
-/
import Derived.Test.YtelmnmepdmfihaaGrE
import Derived.Test.YtelmnmepdmfihaaLkU
namespace Go.Proofs.Ytelmnmepdmfihaa
open Go.RowKit

set_option maxRecDepth 100000 in
set_option maxHeartbeats 6400000 in
theorem rgather_any (A : Option Addr) (n c : Nat) (ls : List Lk) (B : Option Addr) (m d : Nat) (ts : List Int) (node : Int) (w : World) (hrd : Rd w 7 A n c (lvs ls)) (hn : n ≤ 1073741824) (hts : Rd w 1 B m d (iv ts)) (hm : m ≤ 1073741824) :
    Calls Try.prog 14 #[.slice A n c, .slice B m d, .int .i64 node] w (GathRd (gather ls ts node) w) := by
  have hl : ls.length = n := by have := hrd.1; rw [lvs_length] at this; omega
  have hol : ts.length = m := by have := hts.1; simp at this; omega
  have HR := Lib.hid hrd
  have HO := Lib.hid hts
  have HL := Lib.hid hl
  have HM := Lib.hid hol
  clear hrd hts hl hol
  by_cases hmn : m = n
  · have t0 : ((m : Int) != n) = false := by simp [hmn]
    have HMN := Lib.hid hmn
    have HGA : Hid (gather ls ts node = gath ls ts node) := Lib.hid (by unfold gather; rw [if_pos (by rw [HM.out, HL.out]; exact HMN.out)])
    clear hmn
    go_enter Try.func14, Try.ntmps14
    go_wp2_with fail
    obtain ⟨N0, hN0⟩ : ∃ N0, (incident ls node).length = N0 := ⟨_, rfl⟩
    have hch0 : Chg [] w (w.alloc (.cells #[] 52)) := (Chg.refl _ _).alloc _
    have ho0 : Own (w.alloc (.cells #[] 52)) 52 4 (some ⟨w.heap.size, 0, none⟩) 0 0 [] := Own.lit w 52 4 #[] 0 (by decide) rfl
    refine (gincident_any A n c ls node _ (HR.out.chg hch0 (fun _ _ => List.not_mem_nil)) hn N0 hN0).mono ?_
    rintro e w1 ⟨A1, c1, rfl, ho1, hch1, hnew1⟩
    have HC1 := Lib.hid (hch0.trans0 hch1)
    have HO0 := Lib.hid (ho0.chg hch1 (fun _ _ => List.not_mem_nil))
    have HN0 := Lib.hid hN0
    have HO1 := Lib.hid ho1
    have hN0n : N0 ≤ n := by rw [← hN0, ← HL.out]; have := inc_le ls node ls.length; rw [inc_all] at this; exact this
    obtain ⟨T, hT⟩ : ∃ T, T = tys ts (incident ls node) := ⟨_, rfl⟩
    obtain ⟨TN, hTN⟩ : ∃ TN, T.length = TN := ⟨_, rfl⟩
    have hTn : TN ≤ n := by rw [← hTN, hT]; have := tys_le ts (incident ls node); omega
    have HT := Lib.hid hT
    have HTN := Lib.hid hTN
    clear hch0 ho0 hch1 ho1 hnew1 hN0 hT hTN
    generalize hBm : w.heap.size = Bm at *
    have HBM := Lib.hid hBm
    clear hBm
    -- where an id of the list stands
    have HAT : Hid (∀ (wr : World) (i : Nat), Chg [] w wr → Chg [Bm] w1 wr → i < N0 → ∃ (ad bt al : Addr) (j : Nat) (t : Int) (l : Lk), A1 = some ad ∧ B = some bt ∧ A = some al ∧ wr.cell? (ad.add i) = some (.int .i64 j) ∧ wr.cell? (bt.add j) = some (.int .i64 t) ∧ LkAt wr (al.add (j * 7)) l ∧ (incident ls node)[i]? = some (j : Int) ∧ tyOf ts j = t ∧ wyOf ls node j = wayOf l node ∧ j < n) := Lib.hid (by
      intro wr i hcw hc hi
      obtain ⟨ad, id, hA1, hid, hcell⟩ := rd_int (HO1.out.rd.chg hc (fun x hx hm => HO1.out.own_ne HO0.out (by decide) x hx (by simpa [← HBM.out] using hm))) hi
      have hmem : id ∈ incident ls node := List.mem_of_getElem? hid
      obtain ⟨h0, l, hl1, hlive, htou⟩ := incident_at hmem
      obtain ⟨j, rfl⟩ := Int.eq_ofNat_of_zero_le h0
      simp only [Int.toNat_natCast] at hl1
      have hjn : j < n := by have := (List.getElem?_eq_some_iff.1 hl1).1; have := HL.out; omega
      obtain ⟨al, hA, hat⟩ := (HR.out.chg (hcw) (fun _ _ => List.not_mem_nil)).lk hl1
      obtain ⟨bt, t, hB, ht, htc⟩ := rd_int (HO.out.chg (hcw) (fun _ _ => List.not_mem_nil)) (show j < m by have := HMN.out; omega)
      exact ⟨ad, bt, al, j, t, l, hA1, hB, hA, hcell, htc, hat, hid, by unfold tyOf; simp [ht], by unfold wyOf; simp [hl1], hjn⟩)
    go_wp2
    go_loopw [7, 9, 10] (fun v la an wr => ∃ (r : Nat) (A' : Option Addr) (c' : Nat) (rs : List (Int × B3)), r ≤ TN ∧ v = .slice A' r c' ∧ la = .int .i64 (lastT T r) ∧ an = .bool (decide (0 < r)) ∧ Own wr 52 4 A' r c' (rows rs) ∧ RowsOk wr ls ts node (incident ls node) r rs ∧ Chg [] w wr ∧ Chg [Bm] w1 wr ∧ (∀ x ∈ bo A', w1.heap.size ≤ x ∨ x = Bm)) (fun v _ _ _ => match v with | .slice _ r _ => TN + 1 - r | _ => 0)
    case atStart => exact ⟨0, _, 0, [], Nat.zero_le _, rfl, rfl, rfl, HO0.out, ⟨rfl, by simp⟩, HC1.out, Chg.refl _ _, by simp⟩
    case round =>
      obtain ⟨r, A', c', rs, hr, rfl, rfl, rfl, hown, hrows, hch, hch1, hnA⟩ := hrel
      obtain ⟨any, hany⟩ : ∃ any, any = decide (0 < r) := ⟨_, rfl⟩
      obtain ⟨last, hlast⟩ : ∃ last, last = lastT T r := ⟨_, rfl⟩
      rw [← hany, ← hlast]
      have HANY := Lib.hid hany
      have HLAST := Lib.hid hlast
      have HOWN := Lib.hid hown
      have HROWS := Lib.hid hrows
      have HCH := Lib.hid hch
      have HCH1 := Lib.hid hch1
      have HNA := Lib.hid hnA
      clear hany hlast hown hrows hch hch1 hnA
      obtain ⟨wo, hwo⟩ : ∃ wo : World, wo = wr := ⟨_, rfl⟩
      subst hwo
      go_wp2
      go_loopw [13, 11, 12] (fun q le fo wr => ∃ (i : Nat), i ≤ N0 ∧ q = .int .i64 i ∧ le = .int .i64 (pickT any last (((incident ls node).map (tyOf ts)).take i)).1 ∧ fo = .bool (pickT any last (((incident ls node).map (tyOf ts)).take i)).2 ∧ Chg [] wo wr) (fun q _ _ _ => N0 - (intOf q).toNat)
      case atStart => exact ⟨0, Nat.zero_le _, rfl, rfl, rfl, Chg.refl _ _⟩
      case round =>
        obtain ⟨i, hi, rfl, rfl, rfl, hco⟩ := hrel
        by_cases hlt : i < N0
        · obtain ⟨ad, bt, al, j, t, l, rfl, rfl, rfl, x0, x1, -, hid, hty, hwy, hjn⟩ := HAT.out wr i (HCH.out.trans0 hco) (HCH1.out.trans0 hco) hlt
          have hjm : j < m := by have := HMN.out; omega
          have hmap : ((incident ls node).map (tyOf ts))[i]? = some t := by rw [List.getElem?_map, hid]; simp [hty]
          have HP := Lib.hid (pickT_snoc any last _ i t hmap)
          have HCO := Lib.hid hco
          obtain ⟨s, hs⟩ : ∃ s, s = pickT any last (((incident ls node).map (tyOf ts)).take i) := ⟨_, rfl⟩
          rw [← hs] at HP ⊢
          have HS := Lib.hid hs
          clear hmap hid hty hwy hs hco
          obtain ⟨s1, s2⟩ := s
          simp only at HP ⊢
          have fin : ∀ q1 q2, (q1, q2) = pick1 any last (s1, s2) t → pickT any last (((incident ls node).map (tyOf ts)).take (i + 1)) = (q1, q2) := fun q1 q2 h => by rw [HP.out]; exact h.symm
          have FIN := Lib.hid fin
          clear fin HS HP
          cases any with
          | false =>
            cases s2 with
            | false =>
              go_wp2
              go_roundw
              case rel => exact ⟨i + 1, by omega, by go_num, by rw [FIN.out t true (by simp [pick1])], by rw [FIN.out t true (by simp [pick1])], HCO.out⟩
              case measure => simp [intOf]; omega
            | true =>
              by_cases h2 : t < s1
              · have g2 : (decide (t < s1)) = true := by simp [h2]
                have H2 := Lib.hid h2
                clear h2
                go_wp2
                go_roundw
                case rel => exact ⟨i + 1, by omega, by go_num, by rw [FIN.out t true (by simp [pick1, H2.out])], by rw [FIN.out t true (by simp [pick1, H2.out])], HCO.out⟩
                case measure => simp [intOf]; omega
              · have g2 : (decide (t < s1)) = false := by simp [h2]
                have H2 := Lib.hid h2
                clear h2
                go_wp2
                go_roundw
                case rel => exact ⟨i + 1, by omega, by go_num, by rw [FIN.out s1 true (by simp [pick1, H2.out])], by rw [FIN.out s1 true (by simp [pick1, H2.out])], HCO.out⟩
                case measure => simp [intOf]; omega
          | true =>
            by_cases h1 : t ≤ last
            · have g1 : (decide (t ≤ last)) = true := by simp [h1]
              have H1 := Lib.hid h1
              clear h1
              go_wp2
              go_roundw
              case rel => exact ⟨i + 1, by omega, by go_num, by rw [FIN.out s1 s2 (by simp [pick1, H1.out])], by rw [FIN.out s1 s2 (by simp [pick1, H1.out])], HCO.out⟩
              case measure => simp [intOf]; omega
            · have g1 : (decide (t ≤ last)) = false := by simp [h1]
              have H1 := Lib.hid h1
              clear h1
              cases s2 with
              | false =>
                go_wp2
                go_roundw
                case rel => exact ⟨i + 1, by omega, by go_num, by rw [FIN.out t true (by simp [pick1, H1.out])], by rw [FIN.out t true (by simp [pick1, H1.out])], HCO.out⟩
                case measure => simp [intOf]; omega
              | true =>
                by_cases h2 : t < s1
                · have g2 : (decide (t < s1)) = true := by simp [h2]
                  have H2 := Lib.hid h2
                  clear h2
                  go_wp2
                  go_roundw
                  case rel => exact ⟨i + 1, by omega, by go_num, by rw [FIN.out t true (by simp [pick1, H1.out, H2.out])], by rw [FIN.out t true (by simp [pick1, H1.out, H2.out])], HCO.out⟩
                  case measure => simp [intOf]; omega
                · have g2 : (decide (t < s1)) = false := by simp [h2]
                  have H2 := Lib.hid h2
                  clear h2
                  go_wp2
                  go_roundw
                  case rel => exact ⟨i + 1, by omega, by go_num, by rw [FIN.out s1 true (by simp [pick1, H1.out, H2.out])], by rw [FIN.out s1 true (by simp [pick1, H1.out, H2.out])], HCO.out⟩
                  case measure => simp [intOf]; omega
        · obtain rfl : N0 = i := by omega
          have hall : ((incident ls node).map (tyOf ts)).take N0 = (incident ls node).map (tyOf ts) := List.take_of_length_le (by rw [List.length_map, HN0.out]; exact Nat.le_refl _)
          rw [hall, HANY.out, HLAST.out, HT.out]
          obtain ⟨hp1, hp2⟩ := pickT_at ts (incident ls node) r (by rw [← HT.out, HTN.out]; exact hr)
          by_cases hrT : r < TN
          · obtain ⟨t, ht⟩ : ∃ t, (tys ts (incident ls node))[r]? = some t := ⟨_, List.getElem?_eq_getElem (by rw [← HT.out, HTN.out]; exact hrT)⟩
            rw [hp1 t ht]
            have HTT := Lib.hid ht
            have HCO := Lib.hid hco
            clear hp1 hp2 ht hall hco
            go_wp2
            obtain ⟨wq, hwq⟩ : ∃ wq : World, wq = wr := ⟨_, rfl⟩
            subst hwq
            obtain ⟨Bb, hBb⟩ : ∃ Bb, wq.heap.size = Bb := ⟨_, rfl⟩
            have HBB := Lib.hid hBb
            have hb0 : Blk (wq.alloc (.cells #[.int .i64 t, .slice none 0 0, .slice none 0 0, .slice none 0 0] 52)) wq.heap.size 52 #[.int .i64 t, .slice none 0 0, .slice none 0 0, .slice none 0 0] := Blk.new _ _ _
            have HB0 := Lib.hid hb0
            clear hb0
            go_loopw [16] (fun q wr => ∃ (i : Nat) (b : B3), i ≤ N0 ∧ q = .int .i64 i ∧ Rb wq wr ls ts node ((incident ls node).take i) t b) (fun q _ => N0 - (intOf q).toNat)
            case atStart => exact ⟨0, B3.nil, Nat.zero_le _, rfl, ⟨HB0.out, Own3.nil _ _ (fun i => by simp [pk_nil]), by simp [B3.nil], by simp [B3.nil], (Chg.refl _ _).alloc _⟩⟩
            case round =>
              obtain ⟨i, b, hi, rfl, hrb⟩ := hrel
              have HRB := Lib.hid hrb
              obtain ⟨hbk, hown, hself, hnew, hcq⟩ := hrb
              rw [hBb] at hbk hnew ⊢
              by_cases hlt : i < N0
              · obtain ⟨ad, bt, al, j, t2, l, rfl, rfl, rfl, x0, x1, hat, hid, hty, hwy, hjn⟩ := HAT.out wr i ((HCH.out.trans0 HCO.out).trans0 hcq) ((HCH1.out.trans0 HCO.out).trans0 hcq) hlt
                have hjm : j < m := by have := HMN.out; omega
                have HID := Lib.hid hid
                have HBK := Lib.hid hbk
                have HOB := Lib.hid hown
                have HSF := Lib.hid hself
                have HNB := Lib.hid hnew
                have HCQ := Lib.hid hcq
                have HTY := Lib.hid hty
                have HWY := Lib.hid hwy
                clear hid hbk hown hself hnew hcq hty hwy
                by_cases htt : t2 = t
                · have g1 : (t2 != t) = false := by simp [htt]
                  have HTE := Lib.hid htt
                  clear htt
                  obtain ⟨x20, x21, x22, x23, x24, x25, x26⟩ := hat
                  obtain ⟨wy, hwy⟩ : ∃ wy, wayOf l node = wy := ⟨_, rfl⟩
                  have hw3 : wy < 3 := by rw [← hwy]; exact wayOf_lt _ _
                  have HWL := Lib.hid hwy
                  clear hwy
                  go_wp2_with fail
                  refine (rway_any' l node wy HWL.out _).mono ?_
                  rintro e w5 ⟨rfl, hc5⟩
                  have HC5 := Lib.hid hc5
                  clear hc5 x1 x20 x21 x22 x23 x24 x25 x26
                  rcases (by omega : wy = 0 ∨ wy = 1 ∨ wy = 2) with rfl | rfl | rfl
                  · have hb5 := HBK.out.chg HC5.out (fun h => List.not_mem_nil h)
                    have HB5 := Lib.hid hb5
                    have x5 := HC5.out.cell x0 (fun h => List.not_mem_nil h)
                    have z0 := hb5.cell 1
                    simp [B3.sl] at z0
                    clear hb5 x0
                    have ho6 := HOB.out.chg HC5.out (fun _ _ _ _ => List.not_mem_nil) 0 (by decide)
                    have hbn : b.n 0 ≤ N0 := by
                      have q1 := own_len ho6
                      have q2 := pk_le ls ts node ((incident ls node).take i) t 0
                      rw [List.length_take, HN0.out] at q2
                      omega
                    have hnb : Bb ∉ bo (b.A 0) := fun h => by have := HNB.out 0 (by decide) Bb h; omega
                    have HHB := Lib.hid hnb
                    have hna : (ad.add i).block ∉ Bb :: bo (b.A 0) := fun h => by
                      rw [add_block] at h
                      have q1 := HO1.out.lt ad.block (by simp)
                      have q2 := ((HCH1.out.trans0 HCO.out)).size
                      rcases List.mem_cons.1 h with h | h
                      · have := HBB.out; omega
                      · have := HNB.out 0 (by decide) _ h; have := HBB.out; omega
                    have HNAD := Lib.hid hna
                    have HO6 := Lib.hid ho6
                    clear hnb hna ho6
                    go_wp2_with fail
                    refine wp_region_held_drew (S := fun w' => Chg (Bb :: bo (b.A 0)) w5 w') (by kernel_rfl) ((Chg.refl _ _).drew) (fun hHeld => ?_)
                    refine wpAnyH_take (i := 0) (v := ?_) rfl (by kernel_rfl) (by kernel_rfl) (by kernel_rfl) (fun _ _ _ h => h) (Or.inl ⟨by rfl, ?_⟩) (by assumption) ?_
                    rotate_left
                    · (intro w' hSw; go_simp; try with_reducible rfl)
                    try simp only [Act.put, List.getElem_toArray, List.getElem_cons_zero, List.setIfInBounds_toArray, List.set_cons_zero, List.set_cons_succ]
                    refine wpAnyH_take (i := 2) (v := ?_) rfl (by kernel_rfl) (by kernel_rfl) (by kernel_rfl) (fun _ _ _ h => h) (Or.inl ⟨by rfl, ?_⟩) (by assumption) ?_
                    rotate_left
                    · (intro w' hSw; go_simp; try with_reducible rfl)
                    try simp only [Act.put, List.getElem_toArray, List.getElem_cons_zero, List.getElem_cons_succ, List.setIfInBounds_toArray, List.set_cons_zero, List.set_cons_succ]
                    refine wpAnyH_take (i := 3) (v := ?_) rfl (by kernel_rfl) (by kernel_rfl) (by kernel_rfl) (fun _ _ _ h => h) (Or.inl ⟨by rfl, ?_⟩) (by assumption) ?_
                    rotate_left
                    · (intro w' hSw; go_simp; try with_reducible rfl)
                    try simp only [Act.put, List.getElem_toArray, List.getElem_cons_zero, List.getElem_cons_succ, List.setIfInBounds_toArray, List.set_cons_zero, List.set_cons_succ]
                    refine wpAnyH_take (i := 4) (v := ?_) rfl (by kernel_rfl) (by kernel_rfl) (by kernel_rfl) (fun _ _ _ h => h) (Or.inl ⟨by rfl, ?_⟩) (by assumption) ?_
                    rotate_left
                    · (intro w' hSw; go_simp; try with_reducible rfl)
                    try simp only [Act.put, List.getElem_toArray, List.getElem_cons_zero, List.getElem_cons_succ, List.setIfInBounds_toArray, List.set_cons_zero, List.set_cons_succ]
                    refine wpAnyH_take (i := 5) (v := ?_) rfl (by kernel_rfl) (by kernel_rfl) (by kernel_rfl) (fun _ _ _ h => h) (Or.inl ⟨by rfl, ?_⟩) (by assumption) ?_
                    rotate_left
                    · (intro w' hSw; have q := hSw.cell x5 HNAD.out; go_simp; try with_reducible rfl)
                    try simp only [Act.put, List.getElem_toArray, List.getElem_cons_zero, List.getElem_cons_succ, List.setIfInBounds_toArray, List.set_cons_zero, List.set_cons_succ]
                    refine wpAnyH_ready (rs := [1, 6]) (by kernel_rfl) (by simp) ?_
                    refine AllReadyH.cons rfl (fun K hK => ?_) (AllReadyH.cons rfl (fun K hK => ?_) (AllReadyH.nil))
                    · go_simp
                      refine hK.out _ _ (hHeld) (fun hHeld => ?_)
                      try simp only [Act.put, List.getElem_toArray, List.getElem_cons_zero, List.getElem_cons_succ, List.setIfInBounds_toArray, List.set_cons_zero, List.set_cons_succ]
                      clear hK K
                      refine wpAnyH_ready (rs := [6]) (by kernel_rfl) (by simp) ?_
                      refine AllReadyH.cons rfl (fun K hK => ?_) (AllReadyH.nil)
                      go_simp
                      refine hK.out _ _ (hHeld.alloc _) (fun hHeld => ?_)
                      try simp only [Act.put, List.getElem_toArray, List.getElem_cons_zero, List.getElem_cons_succ, List.setIfInBounds_toArray, List.set_cons_zero, List.set_cons_succ]
                      clear hK K
                      refine wpAnyH_ready (rs := [7]) (by kernel_rfl) (by simp) ?_
                      refine AllReadyH.cons rfl (fun K hK => ?_) (AllReadyH.nil)
                      refine step_app rfl _ _ rfl etyInts rfl (HO6.out.chg (((Chg.refl [] w5).alloc (.cells #[.int .i64 j] 3)).drew) (fun _ _ => List.not_mem_nil)) rfl ((Own.lit w5 3 1 #[.int .i64 j] 1 (by decide) rfl).chg ((Chg.refl [] _).drew) (fun _ _ => List.not_mem_nil)).rd (one_int _ _) (by unfold maxLen; omega) (by omega) ?_
                      intro A3 c3 w7 hown7 hchg7 hnew7 _
                      have hb7 := ((HB5.out.alloc (.cells #[.int .i64 j] 3)).drew).chg hchg7 HHB.out
                      have f7 := hb7.frozen 1
                      have z7 := hb7.cell 1
                      simp [B3.sl] at z7
                      have HO7 := Lib.hid hown7
                      have HCG7 := Lib.hid hchg7
                      have HNW7 := Lib.hid hnew7
                      have HB7 := Lib.hid hb7
                      have hS7 : Chg (Bb :: bo (b.A 0)) w5 w7 := ((((Chg.refl [] w5).alloc _).drew).nil _).trans hchg7 (fun x hx => .inl (List.mem_cons_of_mem _ hx))
                      clear hown7 hchg7 hnew7 hb7
                      refine hK.out _ _ (hS7) (fun hHeld => ?_)
                      try simp only [Act.put, List.getElem_toArray, List.getElem_cons_zero, List.getElem_cons_succ, List.setIfInBounds_toArray, List.set_cons_zero, List.set_cons_succ]
                      clear hK K
                      refine wpAnyH_take (i := 8) (v := ?_) rfl (by kernel_rfl) (by kernel_rfl) (by kernel_rfl) (fun _ _ _ h => h) (Or.inl ⟨by rfl, ?_⟩) (by assumption) ?_
                      rotate_left
                      · (intro w' hSw; go_simp; try with_reducible rfl)
                      try simp only [Act.put, List.getElem_toArray, List.getElem_cons_zero, List.getElem_cons_succ, List.setIfInBounds_toArray, List.set_cons_zero, List.set_cons_succ]
                      refine wpAnyH_ready (rs := [9]) (by kernel_rfl) (by simp) ?_
                      refine AllReadyH.cons rfl (fun K hK => ?_) (AllReadyH.nil)
                      go_simp
                      refine hK.out _ _ (hHeld.setCell (.inl (by simp)) _) (fun hHeld => ?_)
                      try simp only [Act.put, List.getElem_toArray, List.getElem_cons_zero, List.getElem_cons_succ, List.setIfInBounds_toArray, List.set_cons_zero, List.set_cons_succ]
                      clear hK K
                      refine wpAnyH_done (by kernel_rfl) ?_ _
                      try simp only [Act.put, List.getElem_toArray, List.getElem_cons_zero, List.getElem_cons_succ, List.setIfInBounds_toArray, List.set_cons_zero, List.set_cons_succ]
                      go_wp2
                      go_roundw
                      case rel =>
                        refine ⟨i + 1, b.set 0 A3 (b.n 0 + 1) c3, by omega, by go_num, ?_⟩
                        rw [take_snoc _ _ _ HID.out, ← HBB.out]
                        exact HRB.out.put (k := 0) (by decide) (HTY.out.trans HTE.out) (HWY.out.trans HWL.out) HC5.out HCG7.out HO7.out (fun x hx => (HNW7.out x hx).imp id And.left)
                      case measure => simp [intOf]; omega
                    · go_simp
                      refine hK.out _ _ (hHeld.alloc _) (fun hHeld => ?_)
                      try simp only [Act.put, List.getElem_toArray, List.getElem_cons_zero, List.getElem_cons_succ, List.setIfInBounds_toArray, List.set_cons_zero, List.set_cons_succ]
                      clear hK K
                      have z0b := (HB5.out.alloc (.cells #[.int .i64 j] 3)).cell 1
                      simp [B3.sl] at z0b
                      refine wpAnyH_ready (rs := [1]) (by kernel_rfl) (by simp) ?_
                      refine AllReadyH.cons rfl (fun K hK => ?_) (AllReadyH.nil)
                      go_simp
                      refine hK.out _ _ (hHeld) (fun hHeld => ?_)
                      try simp only [Act.put, List.getElem_toArray, List.getElem_cons_zero, List.getElem_cons_succ, List.setIfInBounds_toArray, List.set_cons_zero, List.set_cons_succ]
                      clear hK K
                      refine wpAnyH_ready (rs := [7]) (by kernel_rfl) (by simp) ?_
                      refine AllReadyH.cons rfl (fun K hK => ?_) (AllReadyH.nil)
                      refine step_app rfl _ _ rfl etyInts rfl (HO6.out.chg (((Chg.refl [] w5).alloc (.cells #[.int .i64 j] 3)).drew) (fun _ _ => List.not_mem_nil)) rfl ((Own.lit w5 3 1 #[.int .i64 j] 1 (by decide) rfl).chg ((Chg.refl [] _).drew) (fun _ _ => List.not_mem_nil)).rd (one_int _ _) (by unfold maxLen; omega) (by omega) ?_
                      intro A3 c3 w7 hown7 hchg7 hnew7 _
                      have hb7 := ((HB5.out.alloc (.cells #[.int .i64 j] 3)).drew).chg hchg7 HHB.out
                      have f7 := hb7.frozen 1
                      have z7 := hb7.cell 1
                      simp [B3.sl] at z7
                      have HO7 := Lib.hid hown7
                      have HCG7 := Lib.hid hchg7
                      have HNW7 := Lib.hid hnew7
                      have HB7 := Lib.hid hb7
                      have hS7 : Chg (Bb :: bo (b.A 0)) w5 w7 := ((((Chg.refl [] w5).alloc _).drew).nil _).trans hchg7 (fun x hx => .inl (List.mem_cons_of_mem _ hx))
                      clear hown7 hchg7 hnew7 hb7
                      refine hK.out _ _ (hS7) (fun hHeld => ?_)
                      try simp only [Act.put, List.getElem_toArray, List.getElem_cons_zero, List.getElem_cons_succ, List.setIfInBounds_toArray, List.set_cons_zero, List.set_cons_succ]
                      clear hK K
                      refine wpAnyH_take (i := 8) (v := ?_) rfl (by kernel_rfl) (by kernel_rfl) (by kernel_rfl) (fun _ _ _ h => h) (Or.inl ⟨by rfl, ?_⟩) (by assumption) ?_
                      rotate_left
                      · (intro w' hSw; go_simp; try with_reducible rfl)
                      try simp only [Act.put, List.getElem_toArray, List.getElem_cons_zero, List.getElem_cons_succ, List.setIfInBounds_toArray, List.set_cons_zero, List.set_cons_succ]
                      refine wpAnyH_ready (rs := [9]) (by kernel_rfl) (by simp) ?_
                      refine AllReadyH.cons rfl (fun K hK => ?_) (AllReadyH.nil)
                      go_simp
                      refine hK.out _ _ (hHeld.setCell (.inl (by simp)) _) (fun hHeld => ?_)
                      try simp only [Act.put, List.getElem_toArray, List.getElem_cons_zero, List.getElem_cons_succ, List.setIfInBounds_toArray, List.set_cons_zero, List.set_cons_succ]
                      clear hK K
                      refine wpAnyH_done (by kernel_rfl) ?_ _
                      try simp only [Act.put, List.getElem_toArray, List.getElem_cons_zero, List.getElem_cons_succ, List.setIfInBounds_toArray, List.set_cons_zero, List.set_cons_succ]
                      go_wp2
                      go_roundw
                      case rel =>
                        refine ⟨i + 1, b.set 0 A3 (b.n 0 + 1) c3, by omega, by go_num, ?_⟩
                        rw [take_snoc _ _ _ HID.out, ← HBB.out]
                        exact HRB.out.put (k := 0) (by decide) (HTY.out.trans HTE.out) (HWY.out.trans HWL.out) HC5.out HCG7.out HO7.out (fun x hx => (HNW7.out x hx).imp id And.left)
                      case measure => simp [intOf]; omega
            
                  · have hb5 := HBK.out.chg HC5.out (fun h => List.not_mem_nil h)
                    have HB5 := Lib.hid hb5
                    have x5 := HC5.out.cell x0 (fun h => List.not_mem_nil h)
                    have z0 := hb5.cell 2
                    simp [B3.sl] at z0
                    clear hb5 x0
                    have ho6 := HOB.out.chg HC5.out (fun _ _ _ _ => List.not_mem_nil) 1 (by decide)
                    have hbn : b.n 1 ≤ N0 := by
                      have q1 := own_len ho6
                      have q2 := pk_le ls ts node ((incident ls node).take i) t 1
                      rw [List.length_take, HN0.out] at q2
                      omega
                    have hnb : Bb ∉ bo (b.A 1) := fun h => by have := HNB.out 1 (by decide) Bb h; omega
                    have HHB := Lib.hid hnb
                    have hna : (ad.add i).block ∉ Bb :: bo (b.A 1) := fun h => by
                      rw [add_block] at h
                      have q1 := HO1.out.lt ad.block (by simp)
                      have q2 := ((HCH1.out.trans0 HCO.out)).size
                      rcases List.mem_cons.1 h with h | h
                      · have := HBB.out; omega
                      · have := HNB.out 1 (by decide) _ h; have := HBB.out; omega
                    have HNAD := Lib.hid hna
                    have HO6 := Lib.hid ho6
                    clear hnb hna ho6
                    go_wp2_with fail
                    refine wp_region_held_drew (S := fun w' => Chg (Bb :: bo (b.A 1)) w5 w') (by kernel_rfl) ((Chg.refl _ _).drew) (fun hHeld => ?_)
                    refine wpAnyH_take (i := 0) (v := ?_) rfl (by kernel_rfl) (by kernel_rfl) (by kernel_rfl) (fun _ _ _ h => h) (Or.inl ⟨by rfl, ?_⟩) (by assumption) ?_
                    rotate_left
                    · (intro w' hSw; go_simp; try with_reducible rfl)
                    try simp only [Act.put, List.getElem_toArray, List.getElem_cons_zero, List.setIfInBounds_toArray, List.set_cons_zero, List.set_cons_succ]
                    refine wpAnyH_take (i := 2) (v := ?_) rfl (by kernel_rfl) (by kernel_rfl) (by kernel_rfl) (fun _ _ _ h => h) (Or.inl ⟨by rfl, ?_⟩) (by assumption) ?_
                    rotate_left
                    · (intro w' hSw; go_simp; try with_reducible rfl)
                    try simp only [Act.put, List.getElem_toArray, List.getElem_cons_zero, List.getElem_cons_succ, List.setIfInBounds_toArray, List.set_cons_zero, List.set_cons_succ]
                    refine wpAnyH_take (i := 3) (v := ?_) rfl (by kernel_rfl) (by kernel_rfl) (by kernel_rfl) (fun _ _ _ h => h) (Or.inl ⟨by rfl, ?_⟩) (by assumption) ?_
                    rotate_left
                    · (intro w' hSw; go_simp; try with_reducible rfl)
                    try simp only [Act.put, List.getElem_toArray, List.getElem_cons_zero, List.getElem_cons_succ, List.setIfInBounds_toArray, List.set_cons_zero, List.set_cons_succ]
                    refine wpAnyH_take (i := 4) (v := ?_) rfl (by kernel_rfl) (by kernel_rfl) (by kernel_rfl) (fun _ _ _ h => h) (Or.inl ⟨by rfl, ?_⟩) (by assumption) ?_
                    rotate_left
                    · (intro w' hSw; go_simp; try with_reducible rfl)
                    try simp only [Act.put, List.getElem_toArray, List.getElem_cons_zero, List.getElem_cons_succ, List.setIfInBounds_toArray, List.set_cons_zero, List.set_cons_succ]
                    refine wpAnyH_take (i := 5) (v := ?_) rfl (by kernel_rfl) (by kernel_rfl) (by kernel_rfl) (fun _ _ _ h => h) (Or.inl ⟨by rfl, ?_⟩) (by assumption) ?_
                    rotate_left
                    · (intro w' hSw; have q := hSw.cell x5 HNAD.out; go_simp; try with_reducible rfl)
                    try simp only [Act.put, List.getElem_toArray, List.getElem_cons_zero, List.getElem_cons_succ, List.setIfInBounds_toArray, List.set_cons_zero, List.set_cons_succ]
                    refine wpAnyH_ready (rs := [1, 6]) (by kernel_rfl) (by simp) ?_
                    refine AllReadyH.cons rfl (fun K hK => ?_) (AllReadyH.cons rfl (fun K hK => ?_) (AllReadyH.nil))
                    · go_simp
                      refine hK.out _ _ (hHeld) (fun hHeld => ?_)
                      try simp only [Act.put, List.getElem_toArray, List.getElem_cons_zero, List.getElem_cons_succ, List.setIfInBounds_toArray, List.set_cons_zero, List.set_cons_succ]
                      clear hK K
                      refine wpAnyH_ready (rs := [6]) (by kernel_rfl) (by simp) ?_
                      refine AllReadyH.cons rfl (fun K hK => ?_) (AllReadyH.nil)
                      go_simp
                      refine hK.out _ _ (hHeld.alloc _) (fun hHeld => ?_)
                      try simp only [Act.put, List.getElem_toArray, List.getElem_cons_zero, List.getElem_cons_succ, List.setIfInBounds_toArray, List.set_cons_zero, List.set_cons_succ]
                      clear hK K
                      refine wpAnyH_ready (rs := [7]) (by kernel_rfl) (by simp) ?_
                      refine AllReadyH.cons rfl (fun K hK => ?_) (AllReadyH.nil)
                      refine step_app rfl _ _ rfl etyInts rfl (HO6.out.chg (((Chg.refl [] w5).alloc (.cells #[.int .i64 j] 3)).drew) (fun _ _ => List.not_mem_nil)) rfl ((Own.lit w5 3 1 #[.int .i64 j] 1 (by decide) rfl).chg ((Chg.refl [] _).drew) (fun _ _ => List.not_mem_nil)).rd (one_int _ _) (by unfold maxLen; omega) (by omega) ?_
                      intro A3 c3 w7 hown7 hchg7 hnew7 _
                      have hb7 := ((HB5.out.alloc (.cells #[.int .i64 j] 3)).drew).chg hchg7 HHB.out
                      have f7 := hb7.frozen 2
                      have z7 := hb7.cell 2
                      simp [B3.sl] at z7
                      have HO7 := Lib.hid hown7
                      have HCG7 := Lib.hid hchg7
                      have HNW7 := Lib.hid hnew7
                      have HB7 := Lib.hid hb7
                      have hS7 : Chg (Bb :: bo (b.A 1)) w5 w7 := ((((Chg.refl [] w5).alloc _).drew).nil _).trans hchg7 (fun x hx => .inl (List.mem_cons_of_mem _ hx))
                      clear hown7 hchg7 hnew7 hb7
                      refine hK.out _ _ (hS7) (fun hHeld => ?_)
                      try simp only [Act.put, List.getElem_toArray, List.getElem_cons_zero, List.getElem_cons_succ, List.setIfInBounds_toArray, List.set_cons_zero, List.set_cons_succ]
                      clear hK K
                      refine wpAnyH_take (i := 8) (v := ?_) rfl (by kernel_rfl) (by kernel_rfl) (by kernel_rfl) (fun _ _ _ h => h) (Or.inl ⟨by rfl, ?_⟩) (by assumption) ?_
                      rotate_left
                      · (intro w' hSw; go_simp; try with_reducible rfl)
                      try simp only [Act.put, List.getElem_toArray, List.getElem_cons_zero, List.getElem_cons_succ, List.setIfInBounds_toArray, List.set_cons_zero, List.set_cons_succ]
                      refine wpAnyH_ready (rs := [9]) (by kernel_rfl) (by simp) ?_
                      refine AllReadyH.cons rfl (fun K hK => ?_) (AllReadyH.nil)
                      go_simp
                      refine hK.out _ _ (hHeld.setCell (.inl (by simp)) _) (fun hHeld => ?_)
                      try simp only [Act.put, List.getElem_toArray, List.getElem_cons_zero, List.getElem_cons_succ, List.setIfInBounds_toArray, List.set_cons_zero, List.set_cons_succ]
                      clear hK K
                      refine wpAnyH_done (by kernel_rfl) ?_ _
                      try simp only [Act.put, List.getElem_toArray, List.getElem_cons_zero, List.getElem_cons_succ, List.setIfInBounds_toArray, List.set_cons_zero, List.set_cons_succ]
                      go_wp2
                      go_roundw
                      case rel =>
                        refine ⟨i + 1, b.set 1 A3 (b.n 1 + 1) c3, by omega, by go_num, ?_⟩
                        rw [take_snoc _ _ _ HID.out, ← HBB.out]
                        exact HRB.out.put (k := 1) (by decide) (HTY.out.trans HTE.out) (HWY.out.trans HWL.out) HC5.out HCG7.out HO7.out (fun x hx => (HNW7.out x hx).imp id And.left)
                      case measure => simp [intOf]; omega
                    · go_simp
                      refine hK.out _ _ (hHeld.alloc _) (fun hHeld => ?_)
                      try simp only [Act.put, List.getElem_toArray, List.getElem_cons_zero, List.getElem_cons_succ, List.setIfInBounds_toArray, List.set_cons_zero, List.set_cons_succ]
                      clear hK K
                      have z0b := (HB5.out.alloc (.cells #[.int .i64 j] 3)).cell 2
                      simp [B3.sl] at z0b
                      refine wpAnyH_ready (rs := [1]) (by kernel_rfl) (by simp) ?_
                      refine AllReadyH.cons rfl (fun K hK => ?_) (AllReadyH.nil)
                      go_simp
                      refine hK.out _ _ (hHeld) (fun hHeld => ?_)
                      try simp only [Act.put, List.getElem_toArray, List.getElem_cons_zero, List.getElem_cons_succ, List.setIfInBounds_toArray, List.set_cons_zero, List.set_cons_succ]
                      clear hK K
                      refine wpAnyH_ready (rs := [7]) (by kernel_rfl) (by simp) ?_
                      refine AllReadyH.cons rfl (fun K hK => ?_) (AllReadyH.nil)
                      refine step_app rfl _ _ rfl etyInts rfl (HO6.out.chg (((Chg.refl [] w5).alloc (.cells #[.int .i64 j] 3)).drew) (fun _ _ => List.not_mem_nil)) rfl ((Own.lit w5 3 1 #[.int .i64 j] 1 (by decide) rfl).chg ((Chg.refl [] _).drew) (fun _ _ => List.not_mem_nil)).rd (one_int _ _) (by unfold maxLen; omega) (by omega) ?_
                      intro A3 c3 w7 hown7 hchg7 hnew7 _
                      have hb7 := ((HB5.out.alloc (.cells #[.int .i64 j] 3)).drew).chg hchg7 HHB.out
                      have f7 := hb7.frozen 2
                      have z7 := hb7.cell 2
                      simp [B3.sl] at z7
                      have HO7 := Lib.hid hown7
                      have HCG7 := Lib.hid hchg7
                      have HNW7 := Lib.hid hnew7
                      have HB7 := Lib.hid hb7
                      have hS7 : Chg (Bb :: bo (b.A 1)) w5 w7 := ((((Chg.refl [] w5).alloc _).drew).nil _).trans hchg7 (fun x hx => .inl (List.mem_cons_of_mem _ hx))
                      clear hown7 hchg7 hnew7 hb7
                      refine hK.out _ _ (hS7) (fun hHeld => ?_)
                      try simp only [Act.put, List.getElem_toArray, List.getElem_cons_zero, List.getElem_cons_succ, List.setIfInBounds_toArray, List.set_cons_zero, List.set_cons_succ]
                      clear hK K
                      refine wpAnyH_take (i := 8) (v := ?_) rfl (by kernel_rfl) (by kernel_rfl) (by kernel_rfl) (fun _ _ _ h => h) (Or.inl ⟨by rfl, ?_⟩) (by assumption) ?_
                      rotate_left
                      · (intro w' hSw; go_simp; try with_reducible rfl)
                      try simp only [Act.put, List.getElem_toArray, List.getElem_cons_zero, List.getElem_cons_succ, List.setIfInBounds_toArray, List.set_cons_zero, List.set_cons_succ]
                      refine wpAnyH_ready (rs := [9]) (by kernel_rfl) (by simp) ?_
                      refine AllReadyH.cons rfl (fun K hK => ?_) (AllReadyH.nil)
                      go_simp
                      refine hK.out _ _ (hHeld.setCell (.inl (by simp)) _) (fun hHeld => ?_)
                      try simp only [Act.put, List.getElem_toArray, List.getElem_cons_zero, List.getElem_cons_succ, List.setIfInBounds_toArray, List.set_cons_zero, List.set_cons_succ]
                      clear hK K
                      refine wpAnyH_done (by kernel_rfl) ?_ _
                      try simp only [Act.put, List.getElem_toArray, List.getElem_cons_zero, List.getElem_cons_succ, List.setIfInBounds_toArray, List.set_cons_zero, List.set_cons_succ]
                      go_wp2
                      go_roundw
                      case rel =>
                        refine ⟨i + 1, b.set 1 A3 (b.n 1 + 1) c3, by omega, by go_num, ?_⟩
                        rw [take_snoc _ _ _ HID.out, ← HBB.out]
                        exact HRB.out.put (k := 1) (by decide) (HTY.out.trans HTE.out) (HWY.out.trans HWL.out) HC5.out HCG7.out HO7.out (fun x hx => (HNW7.out x hx).imp id And.left)
                      case measure => simp [intOf]; omega
            
                  · have hb5 := HBK.out.chg HC5.out (fun h => List.not_mem_nil h)
                    have HB5 := Lib.hid hb5
                    have x5 := HC5.out.cell x0 (fun h => List.not_mem_nil h)
                    have z0 := hb5.cell 3
                    simp [B3.sl] at z0
                    clear hb5 x0
                    have ho6 := HOB.out.chg HC5.out (fun _ _ _ _ => List.not_mem_nil) 2 (by decide)
                    have hbn : b.n 2 ≤ N0 := by
                      have q1 := own_len ho6
                      have q2 := pk_le ls ts node ((incident ls node).take i) t 2
                      rw [List.length_take, HN0.out] at q2
                      omega
                    have hnb : Bb ∉ bo (b.A 2) := fun h => by have := HNB.out 2 (by decide) Bb h; omega
                    have HHB := Lib.hid hnb
                    have hna : (ad.add i).block ∉ Bb :: bo (b.A 2) := fun h => by
                      rw [add_block] at h
                      have q1 := HO1.out.lt ad.block (by simp)
                      have q2 := ((HCH1.out.trans0 HCO.out)).size
                      rcases List.mem_cons.1 h with h | h
                      · have := HBB.out; omega
                      · have := HNB.out 2 (by decide) _ h; have := HBB.out; omega
                    have HNAD := Lib.hid hna
                    have HO6 := Lib.hid ho6
                    clear hnb hna ho6
                    go_wp2_with fail
                    refine wp_region_held_drew (S := fun w' => Chg (Bb :: bo (b.A 2)) w5 w') (by kernel_rfl) ((Chg.refl _ _).drew) (fun hHeld => ?_)
                    refine wpAnyH_take (i := 0) (v := ?_) rfl (by kernel_rfl) (by kernel_rfl) (by kernel_rfl) (fun _ _ _ h => h) (Or.inl ⟨by rfl, ?_⟩) (by assumption) ?_
                    rotate_left
                    · (intro w' hSw; go_simp; try with_reducible rfl)
                    try simp only [Act.put, List.getElem_toArray, List.getElem_cons_zero, List.setIfInBounds_toArray, List.set_cons_zero, List.set_cons_succ]
                    refine wpAnyH_take (i := 2) (v := ?_) rfl (by kernel_rfl) (by kernel_rfl) (by kernel_rfl) (fun _ _ _ h => h) (Or.inl ⟨by rfl, ?_⟩) (by assumption) ?_
                    rotate_left
                    · (intro w' hSw; go_simp; try with_reducible rfl)
                    try simp only [Act.put, List.getElem_toArray, List.getElem_cons_zero, List.getElem_cons_succ, List.setIfInBounds_toArray, List.set_cons_zero, List.set_cons_succ]
                    refine wpAnyH_take (i := 3) (v := ?_) rfl (by kernel_rfl) (by kernel_rfl) (by kernel_rfl) (fun _ _ _ h => h) (Or.inl ⟨by rfl, ?_⟩) (by assumption) ?_
                    rotate_left
                    · (intro w' hSw; go_simp; try with_reducible rfl)
                    try simp only [Act.put, List.getElem_toArray, List.getElem_cons_zero, List.getElem_cons_succ, List.setIfInBounds_toArray, List.set_cons_zero, List.set_cons_succ]
                    refine wpAnyH_take (i := 4) (v := ?_) rfl (by kernel_rfl) (by kernel_rfl) (by kernel_rfl) (fun _ _ _ h => h) (Or.inl ⟨by rfl, ?_⟩) (by assumption) ?_
                    rotate_left
                    · (intro w' hSw; go_simp; try with_reducible rfl)
                    try simp only [Act.put, List.getElem_toArray, List.getElem_cons_zero, List.getElem_cons_succ, List.setIfInBounds_toArray, List.set_cons_zero, List.set_cons_succ]
                    refine wpAnyH_take (i := 5) (v := ?_) rfl (by kernel_rfl) (by kernel_rfl) (by kernel_rfl) (fun _ _ _ h => h) (Or.inl ⟨by rfl, ?_⟩) (by assumption) ?_
                    rotate_left
                    · (intro w' hSw; have q := hSw.cell x5 HNAD.out; go_simp; try with_reducible rfl)
                    try simp only [Act.put, List.getElem_toArray, List.getElem_cons_zero, List.getElem_cons_succ, List.setIfInBounds_toArray, List.set_cons_zero, List.set_cons_succ]
                    refine wpAnyH_ready (rs := [1, 6]) (by kernel_rfl) (by simp) ?_
                    refine AllReadyH.cons rfl (fun K hK => ?_) (AllReadyH.cons rfl (fun K hK => ?_) (AllReadyH.nil))
                    · go_simp
                      refine hK.out _ _ (hHeld) (fun hHeld => ?_)
                      try simp only [Act.put, List.getElem_toArray, List.getElem_cons_zero, List.getElem_cons_succ, List.setIfInBounds_toArray, List.set_cons_zero, List.set_cons_succ]
                      clear hK K
                      refine wpAnyH_ready (rs := [6]) (by kernel_rfl) (by simp) ?_
                      refine AllReadyH.cons rfl (fun K hK => ?_) (AllReadyH.nil)
                      go_simp
                      refine hK.out _ _ (hHeld.alloc _) (fun hHeld => ?_)
                      try simp only [Act.put, List.getElem_toArray, List.getElem_cons_zero, List.getElem_cons_succ, List.setIfInBounds_toArray, List.set_cons_zero, List.set_cons_succ]
                      clear hK K
                      refine wpAnyH_ready (rs := [7]) (by kernel_rfl) (by simp) ?_
                      refine AllReadyH.cons rfl (fun K hK => ?_) (AllReadyH.nil)
                      refine step_app rfl _ _ rfl etyInts rfl (HO6.out.chg (((Chg.refl [] w5).alloc (.cells #[.int .i64 j] 3)).drew) (fun _ _ => List.not_mem_nil)) rfl ((Own.lit w5 3 1 #[.int .i64 j] 1 (by decide) rfl).chg ((Chg.refl [] _).drew) (fun _ _ => List.not_mem_nil)).rd (one_int _ _) (by unfold maxLen; omega) (by omega) ?_
                      intro A3 c3 w7 hown7 hchg7 hnew7 _
                      have hb7 := ((HB5.out.alloc (.cells #[.int .i64 j] 3)).drew).chg hchg7 HHB.out
                      have f7 := hb7.frozen 3
                      have z7 := hb7.cell 3
                      simp [B3.sl] at z7
                      have HO7 := Lib.hid hown7
                      have HCG7 := Lib.hid hchg7
                      have HNW7 := Lib.hid hnew7
                      have HB7 := Lib.hid hb7
                      have hS7 : Chg (Bb :: bo (b.A 2)) w5 w7 := ((((Chg.refl [] w5).alloc _).drew).nil _).trans hchg7 (fun x hx => .inl (List.mem_cons_of_mem _ hx))
                      clear hown7 hchg7 hnew7 hb7
                      refine hK.out _ _ (hS7) (fun hHeld => ?_)
                      try simp only [Act.put, List.getElem_toArray, List.getElem_cons_zero, List.getElem_cons_succ, List.setIfInBounds_toArray, List.set_cons_zero, List.set_cons_succ]
                      clear hK K
                      refine wpAnyH_take (i := 8) (v := ?_) rfl (by kernel_rfl) (by kernel_rfl) (by kernel_rfl) (fun _ _ _ h => h) (Or.inl ⟨by rfl, ?_⟩) (by assumption) ?_
                      rotate_left
                      · (intro w' hSw; go_simp; try with_reducible rfl)
                      try simp only [Act.put, List.getElem_toArray, List.getElem_cons_zero, List.getElem_cons_succ, List.setIfInBounds_toArray, List.set_cons_zero, List.set_cons_succ]
                      refine wpAnyH_ready (rs := [9]) (by kernel_rfl) (by simp) ?_
                      refine AllReadyH.cons rfl (fun K hK => ?_) (AllReadyH.nil)
                      go_simp
                      refine hK.out _ _ (hHeld.setCell (.inl (by simp)) _) (fun hHeld => ?_)
                      try simp only [Act.put, List.getElem_toArray, List.getElem_cons_zero, List.getElem_cons_succ, List.setIfInBounds_toArray, List.set_cons_zero, List.set_cons_succ]
                      clear hK K
                      refine wpAnyH_done (by kernel_rfl) ?_ _
                      try simp only [Act.put, List.getElem_toArray, List.getElem_cons_zero, List.getElem_cons_succ, List.setIfInBounds_toArray, List.set_cons_zero, List.set_cons_succ]
                      go_wp2
                      go_roundw
                      case rel =>
                        refine ⟨i + 1, b.set 2 A3 (b.n 2 + 1) c3, by omega, by go_num, ?_⟩
                        rw [take_snoc _ _ _ HID.out, ← HBB.out]
                        exact HRB.out.put (k := 2) (by decide) (HTY.out.trans HTE.out) (HWY.out.trans HWL.out) HC5.out HCG7.out HO7.out (fun x hx => (HNW7.out x hx).imp id And.left)
                      case measure => simp [intOf]; omega
                    · go_simp
                      refine hK.out _ _ (hHeld.alloc _) (fun hHeld => ?_)
                      try simp only [Act.put, List.getElem_toArray, List.getElem_cons_zero, List.getElem_cons_succ, List.setIfInBounds_toArray, List.set_cons_zero, List.set_cons_succ]
                      clear hK K
                      have z0b := (HB5.out.alloc (.cells #[.int .i64 j] 3)).cell 3
                      simp [B3.sl] at z0b
                      refine wpAnyH_ready (rs := [1]) (by kernel_rfl) (by simp) ?_
                      refine AllReadyH.cons rfl (fun K hK => ?_) (AllReadyH.nil)
                      go_simp
                      refine hK.out _ _ (hHeld) (fun hHeld => ?_)
                      try simp only [Act.put, List.getElem_toArray, List.getElem_cons_zero, List.getElem_cons_succ, List.setIfInBounds_toArray, List.set_cons_zero, List.set_cons_succ]
                      clear hK K
                      refine wpAnyH_ready (rs := [7]) (by kernel_rfl) (by simp) ?_
                      refine AllReadyH.cons rfl (fun K hK => ?_) (AllReadyH.nil)
                      refine step_app rfl _ _ rfl etyInts rfl (HO6.out.chg (((Chg.refl [] w5).alloc (.cells #[.int .i64 j] 3)).drew) (fun _ _ => List.not_mem_nil)) rfl ((Own.lit w5 3 1 #[.int .i64 j] 1 (by decide) rfl).chg ((Chg.refl [] _).drew) (fun _ _ => List.not_mem_nil)).rd (one_int _ _) (by unfold maxLen; omega) (by omega) ?_
                      intro A3 c3 w7 hown7 hchg7 hnew7 _
                      have hb7 := ((HB5.out.alloc (.cells #[.int .i64 j] 3)).drew).chg hchg7 HHB.out
                      have f7 := hb7.frozen 3
                      have z7 := hb7.cell 3
                      simp [B3.sl] at z7
                      have HO7 := Lib.hid hown7
                      have HCG7 := Lib.hid hchg7
                      have HNW7 := Lib.hid hnew7
                      have HB7 := Lib.hid hb7
                      have hS7 : Chg (Bb :: bo (b.A 2)) w5 w7 := ((((Chg.refl [] w5).alloc _).drew).nil _).trans hchg7 (fun x hx => .inl (List.mem_cons_of_mem _ hx))
                      clear hown7 hchg7 hnew7 hb7
                      refine hK.out _ _ (hS7) (fun hHeld => ?_)
                      try simp only [Act.put, List.getElem_toArray, List.getElem_cons_zero, List.getElem_cons_succ, List.setIfInBounds_toArray, List.set_cons_zero, List.set_cons_succ]
                      clear hK K
                      refine wpAnyH_take (i := 8) (v := ?_) rfl (by kernel_rfl) (by kernel_rfl) (by kernel_rfl) (fun _ _ _ h => h) (Or.inl ⟨by rfl, ?_⟩) (by assumption) ?_
                      rotate_left
                      · (intro w' hSw; go_simp; try with_reducible rfl)
                      try simp only [Act.put, List.getElem_toArray, List.getElem_cons_zero, List.getElem_cons_succ, List.setIfInBounds_toArray, List.set_cons_zero, List.set_cons_succ]
                      refine wpAnyH_ready (rs := [9]) (by kernel_rfl) (by simp) ?_
                      refine AllReadyH.cons rfl (fun K hK => ?_) (AllReadyH.nil)
                      go_simp
                      refine hK.out _ _ (hHeld.setCell (.inl (by simp)) _) (fun hHeld => ?_)
                      try simp only [Act.put, List.getElem_toArray, List.getElem_cons_zero, List.getElem_cons_succ, List.setIfInBounds_toArray, List.set_cons_zero, List.set_cons_succ]
                      clear hK K
                      refine wpAnyH_done (by kernel_rfl) ?_ _
                      try simp only [Act.put, List.getElem_toArray, List.getElem_cons_zero, List.getElem_cons_succ, List.setIfInBounds_toArray, List.set_cons_zero, List.set_cons_succ]
                      go_wp2
                      go_roundw
                      case rel =>
                        refine ⟨i + 1, b.set 2 A3 (b.n 2 + 1) c3, by omega, by go_num, ?_⟩
                        rw [take_snoc _ _ _ HID.out, ← HBB.out]
                        exact HRB.out.put (k := 2) (by decide) (HTY.out.trans HTE.out) (HWY.out.trans HWL.out) HC5.out HCG7.out HO7.out (fun x hx => (HNW7.out x hx).imp id And.left)
                      case measure => simp [intOf]; omega
            
                · have g1 : (t2 != t) = true := by simp [htt]
                  have HTE := Lib.hid htt
                  clear htt hat
                  go_wp2
                  go_roundw
                  case rel => exact ⟨i + 1, b, by omega, by go_num, by rw [take_snoc _ _ _ HID.out]; exact HRB.out.skip (by rw [HTY.out]; exact HTE.out)⟩
                  case measure => simp [intOf]; omega
              · obtain rfl : i = N0 := by omega
                rw [List.take_of_length_le (by rw [HN0.out]; exact Nat.le_refl _)] at hown
                have z0 := hbk.cell 0
                have z1 := hbk.cell 1
                have z2 := hbk.cell 2
                have z3 := hbk.cell 3
                simp [B3.sl] at z0 z1 z2 z3
                have HOB := Lib.hid hown
                have HCQ := Lib.hid hcq
                clear hbk hown hself hnew hcq
                have hc6 : Chg [] wo wr := HCO.out.trans0 HCQ.out
                have hcb : Chg [] wr wr := Chg.refl _ _
                have ho6 := HOWN.out.chg hc6 (fun _ _ => List.not_mem_nil)
                go_wp2_with (at_builtin; refine wpList_app rfl _ _ rfl etyBunches rfl (ho6.chg ((Chg.refl [] wr).alloc _) (fun _ _ => List.not_mem_nil)) rfl (Own.lit wr 52 4 #[.int .i64 t, .slice (b.A 0) (b.n 0) (b.c 0), .slice (b.A 1) (b.n 1) (b.c 1), .slice (b.A 2) (b.n 2) (b.c 2)] 1 (by decide) rfl).rd (by simp [Value.oneCell']) (by unfold maxLen; omega) (by omega) ?_; intro A7 c7 w7 hown7 hchg7 hnew7 _)
                go_roundw
                case rel =>
                  have q1 := HCH1.out.size
                  have hc67 : Chg (bo A') wr w7 := (((Chg.refl [] wr).alloc _).nil _).trans hchg7 (fun x hx => .inl hx)
                  refine ⟨r + 1, A7, c7, rs ++ [(t, b)], by omega, rfl, ?_, ?_, ?_, ?_, ?_, ?_, fun x hx => ?_⟩
                  · rw [HT.out, lastT_succ HTT.out]
                  · simp
                  · rw [rows_append]; simpa [rows, B3.cs, B3.sl] using hown7
                  · have h1 := (HROWS.out.chg hc6).chgA ho6 (by decide) (by rw [← HT.out, HTN.out]; omega) hc67
                    exact h1.snoc HTT.out (fun k hk => ((HOB.out k hk).chg hcb (fun _ _ => List.not_mem_nil)).chg hc67 (((HOB.out k hk).chg hcb (fun _ _ => List.not_mem_nil)).own_ne ho6 (by decide)))
                  · exact (HCH.out.trans0 hc6).trans hc67 (fun x hx => by
                      rcases HNA.out x hx with h | h
                      · exact .inr (Nat.le_trans HC1.out.size h)
                      · exact .inr (by rw [h, ← HBM.out]; exact Nat.le_refl _))
                  · exact (HCH1.out.trans0 hc6).trans hc67 (fun x hx => by
                      rcases HNA.out x hx with h | h
                      · exact .inr h
                      · exact .inl (by simp [h]))
                  · rcases hnew7 x hx with h | h
                    · exact HNA.out x h
                    · have q2 := hc6.size; simp at h; exact .inl (by omega)
                case measure => simp; omega
          · have hpf := hp2 (by rw [← HT.out, HTN.out]; omega)
            rw [hpf]
            have hre : r = TN := by omega
            have HRE := Lib.hid hre
            have HCO := Lib.hid hco
            clear hp1 hp2 hall hpf hre hco
            go_wp2
            go_ret
            have hle : (gath ls ts node).length = r := by unfold gath; rw [List.length_map, ← HT.out, HTN.out]; exact HRE.out.symm
            rw [HGA.out]
            refine ⟨A', c', by rw [hle]; rfl, ⟨rs, by rw [hle]; exact HOWN.out.rd.chg HCO.out (fun _ _ => List.not_mem_nil), by rw [HROWS.out.1, hle], fun i p b hp hb => ?_⟩, HCH.out.trans0 HCO.out⟩
            unfold gath at hb
            rw [List.getElem?_map] at hb
            cases htt : (tys ts (incident ls node))[i]? with
            | none => rw [htt] at hb; cases hb
            | some t =>
              rw [htt] at hb
              simp at hb
              subst hb
              obtain ⟨h1, h2⟩ := HROWS.out.2 i p t hp htt
              exact ⟨h1, (h2.chg HCO.out (fun _ _ _ _ => List.not_mem_nil)).rd⟩
  · have t0 : ((m : Int) != n) = true := by simp; omega
    have HT : Hid (gather ls ts node = []) := Lib.hid (by unfold gather; rw [if_neg (by rw [HM.out, HL.out]; exact hmn)])
    clear hmn
    go_enter Try.func14, Try.ntmps14
    go_wp2
    go_ret
    refine ⟨some ⟨w.heap.size, 0, none⟩, 0, by rw [HT.out]; rfl, ?_, by repeat (first | exact Chg.refl _ _ | apply Chg.alloc)⟩
    rw [HT.out]
    exact ⟨[], (Own.lit w 52 4 #[] 0 (by decide) rfl).rd, rfl, by simp⟩
end Go.Proofs.Ytelmnmepdmfihaa
