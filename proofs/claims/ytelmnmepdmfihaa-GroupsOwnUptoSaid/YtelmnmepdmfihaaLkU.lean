/-
  Layer 13: the document's Walk.
-/
import Derived.Test.YtelmnmepdmfihaaLkQ
namespace Go.Proofs.Ytelmnmepdmfihaa
open Go.RowKit

theorem Own.litg (w : World) (e : TypeId) (sz : Nat) (cs : Array Value) (n g : Nat) (xs : List Value) (hg : g = w.heap.size) (hx : cs.toList = xs) (hm : n ≤ maxLen) (hs : cs.size = n * sz) : Own (w.alloc (.cells cs e)) e sz (some ⟨g, 0, none⟩) n n xs := by
  subst hg; subst hx; exact Own.lit w e sz cs n hm hs

set_option maxRecDepth 100000 in
set_option maxHeartbeats 12800000 in
theorem gwalk_any (A : Option Addr) (n c : Nat) (ls : List Lk) (node head : Int) (w : World) (hrd : Rd w 7 A n c (lvs ls)) (hn : n ≤ 1073741824) :
    Calls Try.prog 37 #[.slice A n c, .int .i64 node, .int .i64 head] w (WalkTo ls node head w) := by
  have hl : ls.length = n := by have := hrd.1; rw [lvs_length] at this; omega
  have HR := Lib.hid hrd
  have HL := Lib.hid hl
  clear hrd hl
  go_enter Try.func37, Try.ntmps37
  go_wp2
  go_loopw [8, 9] (fun v q wr => ∃ (N : Nat) (A' : Option Addr) (c' : Nat) (acc : List Int) (id : Int) (f : Nat), v = .slice A' N c' ∧ q = .int .i64 id ∧ N = acc.length ∧
    Own wr 3 1 A' N c' (iv acc) ∧ wk ls node f acc id = walk ls node head ∧ Good ls node acc id ∧ f + N = n + 1 ∧ Chg [] w wr ∧ (∀ k ∈ bo A', w.heap.size ≤ k)) (fun v _ _ => n + 1 - slLen v)
  case atStart => exact ⟨0, _, 0, [], head, n + 1, rfl, rfl, rfl, Own.lit _ 3 1 #[] 0 (by decide) rfl, by rw [walk, HL.out], Good.nil _ _ _, rfl, (Chg.refl _ _).alloc _, by simp⟩
  case round =>
    obtain ⟨N, A', c', acc, id, f, rfl, rfl, hN, hown, hwk, hgood, hf, hch, hnew⟩ := hrel
    have hNn : N ≤ n := by have := hgood.len; have := HL.out; omega
    obtain ⟨f, rfl⟩ : ∃ f', f = f' + 1 := ⟨f - 1, by omega⟩
    have HN := Lib.hid hN
    have HWK := Lib.hid hwk
    have HW := Lib.hid hnew
    have HOW := Lib.hid hown
    clear hN hwk hnew hown
    by_cases hid : id = -1
    · subst hid
      go_wp2
      go_ret2
      have hb := wk_end ls node f acc
      have hk := HWK.out
      rw [hb] at hk
      exact ⟨A', N, c', 0, rfl, by rw [← hk], by rw [← hk]; exact HOW.out, by rw [← hk]; exact HN.out, hch, HW.out⟩
    · have hid1 : (id != -1) = true := by simp [hid]
      have HNE := Lib.hid hid
      clear hid
      have hf0 := gtou_any A n c ls node id wr (HR.out.chg hch (by simp))
      by_cases ht : tch ls node id = 0
      · rw [ht] at hf0
        obtain ⟨h0, l, hl, hlive, htou⟩ := tch_some ht
        have HT := Lib.hid ht
        have HLV := Lib.hid hlive
        have HTO := Lib.hid htou
        have HLL := Lib.hid hl
        have H0 := Lib.hid h0
        obtain ⟨ad, rfl, hat⟩ := (HR.out.chg hch (by simp)).lk hl
        have qj : id.toNat < n := by
          have := (List.getElem?_eq_some_iff.1 hl).1
          have := HL.out
          omega
        obtain ⟨j, rfl⟩ := Int.eq_ofNat_of_zero_le h0
        simp only [Int.toNat_natCast] at hat qj
        have qj2 : (j : Int) < n := by omega
        clear ht hlive htou hl qj
        go_wp2_with fail
        refine hf0.mono ?_
        rintro e w2 ⟨rfl, rfl⟩
        obtain ⟨x0, x1, x2, x3, x4, x5, x6⟩ := hat
        go_wp2
        obtain ⟨id, hidj⟩ : ∃ id : Int, id = j := ⟨_, rfl⟩
        rw [← hidj]
        rw [← hidj] at hgood HT HNE HLL HWK H0
        have QJ := Lib.hid hidj
        clear hidj hid1 qj2 h0 x0 x1 x2 x3 x4 x5 x6
        have hcw1 := fun o1 o2 q1 => (((Chg.refl [] w2).alloc o1).drewN q1).alloc o2
        by_cases hsn : l.src = node
        · have HSN := Lib.hid hsn
          have HPV := Lib.hid (show l.pv node = l.sp by unfold Lk.pv; rw [if_pos hsn])
          have s1 : (l.src == node) = true := by simp [hsn]
          clear hsn
          by_cases hN0 : N = 0
          · have hla : (-1 : Int) = acc.getLast?.getD (-1) := by
              have : acc = [] := List.eq_nil_of_length_eq_zero (by rw [← HN.out]; exact hN0)
              rw [this]; rfl
            obtain ⟨la, hla0⟩ : ∃ la : Int, la = -1 := ⟨_, rfl⟩
            replace hla : la = acc.getLast?.getD (-1) := hla0.trans hla
            have HLA0 := Lib.hid hla0
            clear hla0
            subst hN0
            by_cases hp : l.sp = la
            · have hp1 : (l.sp != -1) = false := by rw [← HLA0.out]; simp [hp]
              have HP := Lib.hid (hp.trans hla)
              clear hp
              by_cases hd : l.dst = node
              · have e1 : (l.dst == node) = true := by simp [hd]
                have HSD := Lib.hid hd
                clear hd
                by_cases htp : l.tp = -1
                · have e2 : (l.tp != -1) = false := by simp [htp]
                  have HTP := Lib.hid htp
                  clear htp
                  by_cases htn : l.tn = -1
                  · have e3 : (l.tn != -1) = false := by simp [htn]
                    have HTN := Lib.hid htn
                    clear htn
                    have hst := Good.step hgood H0.out HLL.out HLV.out HTO.out (by rw [HPV.out, HP.out])
                    have hws := wk_step HNE.out HT.out HLL.out (f := f) (by rw [HPV.out, HP.out]) (by rw [HTP.out, HTN.out]; simp)
                    rw [show l.nx node = l.sn by unfold Lk.nx; rw [if_pos HSN.out]] at hst hws
                    have HST := Lib.hid hst
                    have HWS := Lib.hid hws
                    clear hst hws
                    go_quiet (fail)
                    go_wp2
                    go_quiet (fail)
                    go_wp2_with (at_builtin; (refine wpList_app rfl _ _ rfl etyInts rfl (HOW.out.chg (hcw1 _ _ _) (fun _ _ => List.not_mem_nil)) rfl (Own.litg _ 3 1 #[.int .i64 id] 1 _ _ (by simp) rfl (by decide) rfl).rd (one_int _ _) (by unfold maxLen; omega) (by omega) ?_); intro A2 c2 w4 hown4 hchg4 hnew4 _)
                    go_roundw
                    case rel =>
                      refine ⟨0 + 1, A2, c2, acc ++ [id], l.sn, f, rfl, rfl, by simp [HN.out], by simpa [iv] using hown4, HWS.out.symm.trans HWK.out, HST.out.2, by omega, Chg.trans (by repeat (first | exact hch | apply Chg.drewN | apply Chg.alloc)) hchg4 (fun y hy => .inr (HW.out y hy)), fun y hy => ?_⟩
                      rcases hnew4 y hy with h1 | h1
                      · exact HW.out y h1
                      · have h2 := hch.size; simp at h1; omega
                    case measure => simp [slLen] <;> omega
                  · have e3 : (l.tn != -1) = true := by simp [htn]
                    have HTN := Lib.hid htn
                    clear htn
                    go_quiet (fail)
                    go_wp2
                    go_quiet (fail)
                    go_wp2
                    go_ret2
                    have hb := wk_chain HNE.out HT.out HLL.out (f := f) (acc := acc) (by rw [HPV.out]; exact .inr ⟨HSN.out.trans HSD.out.symm, .inr HTN.out⟩)
                    have hk := HWK.out
                    rw [hb] at hk
                    refine ⟨_, 0, 0, 101, rfl, by rw [← hk], by rw [← hk]; exact Own.litg _ 3 1 #[] 0 _ _ (by simp) (by rfl) (by decide) (by rfl), by rw [← hk]; rfl, ?_, by simp; have := hch.size; omega⟩
                    repeat (first | exact hch | apply Chg.drewN | apply Chg.alloc)
                · have e2 : (l.tp != -1) = true := by simp [htp]
                  have HTP := Lib.hid htp
                  clear htp
                  go_quiet (fail)
                  go_wp2
                  go_quiet (fail)
                  go_wp2
                  go_ret2
                  have hb := wk_chain HNE.out HT.out HLL.out (f := f) (acc := acc) (by rw [HPV.out]; exact .inr ⟨HSN.out.trans HSD.out.symm, .inl HTP.out⟩)
                  have hk := HWK.out
                  rw [hb] at hk
                  refine ⟨_, 0, 0, 101, rfl, by rw [← hk], by rw [← hk]; exact Own.litg _ 3 1 #[] 0 _ _ (by simp) (by rfl) (by decide) (by rfl), by rw [← hk]; rfl, ?_, by simp; have := hch.size; omega⟩
                  repeat (first | exact hch | apply Chg.drewN | apply Chg.alloc)
              · have e1 : (l.dst == node) = false := by simp [hd]
                have HSD := Lib.hid hd
                clear hd
                have hst := Good.step hgood H0.out HLL.out HLV.out HTO.out (by rw [HPV.out, HP.out])
                have hws := wk_step HNE.out HT.out HLL.out (f := f) (by rw [HPV.out, HP.out]) (fun h => HSD.out (h.1.symm.trans HSN.out))
                rw [show l.nx node = l.sn by unfold Lk.nx; rw [if_pos HSN.out]] at hst hws
                have HST := Lib.hid hst
                have HWS := Lib.hid hws
                clear hst hws
                go_quiet (fail)
                go_wp2
                go_quiet (fail)
                go_wp2_with (at_builtin; (refine wpList_app rfl _ _ rfl etyInts rfl (HOW.out.chg (hcw1 _ _ _) (fun _ _ => List.not_mem_nil)) rfl (Own.litg _ 3 1 #[.int .i64 id] 1 _ _ (by simp) rfl (by decide) rfl).rd (one_int _ _) (by unfold maxLen; omega) (by omega) ?_); intro A2 c2 w4 hown4 hchg4 hnew4 _)
                go_roundw
                case rel =>
                  refine ⟨0 + 1, A2, c2, acc ++ [id], l.sn, f, rfl, rfl, by simp [HN.out], by simpa [iv] using hown4, HWS.out.symm.trans HWK.out, HST.out.2, by omega, Chg.trans (by repeat (first | exact hch | apply Chg.drewN | apply Chg.alloc)) hchg4 (fun y hy => .inr (HW.out y hy)), fun y hy => ?_⟩
                  rcases hnew4 y hy with h1 | h1
                  · exact HW.out y h1
                  · have h2 := hch.size; simp at h1; omega
                case measure => simp [slLen] <;> omega
            · have hp1 : (l.sp != -1) = true := by rw [← HLA0.out]; simp [hp]
              have HP := Lib.hid (show l.sp ≠ acc.getLast?.getD (-1) from fun e => hp (e.trans hla.symm))
              clear hp
              go_quiet (fail)
              go_wp2
              go_quiet (fail)
              go_wp2
              go_ret2
              have hb := wk_chain HNE.out HT.out HLL.out (f := f) (acc := acc) (by rw [HPV.out]; exact .inl HP.out)
              have hk := HWK.out
              rw [hb] at hk
              refine ⟨_, 0, 0, 101, rfl, by rw [← hk], by rw [← hk]; exact Own.litg _ 3 1 #[] 0 _ _ (by simp) (by rfl) (by decide) (by rfl), by rw [← hk]; rfl, ?_, by simp; have := hch.size; omega⟩
              repeat (first | exact hch | apply Chg.drewN | apply Chg.alloc)
          · obtain ⟨M, rfl⟩ : ∃ M, N = M + 1 := ⟨N - 1, by omega⟩
            obtain ⟨ad', la, rfl, hlaa, hlac⟩ := rd_int (HOW.out.rd) (show M < M + 1 by omega)
            have hla : la = acc.getLast?.getD (-1) := by
              rw [List.getLast?_eq_getElem?, ← HN.out, Nat.add_sub_cancel, hlaa]; rfl
            have HLA := Lib.hid hla
            clear hlaa
            have hlac2 := fun o => ((Chg.refl [] w2).alloc o).cell hlac (by simp)
            by_cases hp : l.sp = la
            · have hp1 : (l.sp != la) = false := by simp [hp]
              have HP := Lib.hid (hp.trans hla)
              clear hp
              by_cases hd : l.dst = node
              · have e1 : (l.dst == node) = true := by simp [hd]
                have HSD := Lib.hid hd
                clear hd
                by_cases htp : l.tp = -1
                · have e2 : (l.tp != -1) = false := by simp [htp]
                  have HTP := Lib.hid htp
                  clear htp
                  by_cases htn : l.tn = -1
                  · have e3 : (l.tn != -1) = false := by simp [htn]
                    have HTN := Lib.hid htn
                    clear htn
                    have hst := Good.step hgood H0.out HLL.out HLV.out HTO.out (by rw [HPV.out, HP.out])
                    have hws := wk_step HNE.out HT.out HLL.out (f := f) (by rw [HPV.out, HP.out]) (by rw [HTP.out, HTN.out]; simp)
                    rw [show l.nx node = l.sn by unfold Lk.nx; rw [if_pos HSN.out]] at hst hws
                    have HST := Lib.hid hst
                    have HWS := Lib.hid hws
                    clear hst hws
                    go_quiet (fail)
                    go_wp2
                    go_quiet (fail)
                    go_wp2_with (at_builtin; (refine wpList_app rfl _ _ rfl etyInts rfl (HOW.out.chg (hcw1 _ _ _) (fun _ _ => List.not_mem_nil)) rfl (Own.litg _ 3 1 #[.int .i64 id] 1 _ _ (by simp) rfl (by decide) rfl).rd (one_int _ _) (by unfold maxLen; omega) (by omega) ?_); intro A2 c2 w4 hown4 hchg4 hnew4 _)
                    go_roundw
                    case rel =>
                      refine ⟨M + 1 + 1, A2, c2, acc ++ [id], l.sn, f, rfl, rfl, by simp [HN.out], by simpa [iv] using hown4, HWS.out.symm.trans HWK.out, HST.out.2, by omega, Chg.trans (by repeat (first | exact hch | apply Chg.drewN | apply Chg.alloc)) hchg4 (fun y hy => .inr (HW.out y hy)), fun y hy => ?_⟩
                      rcases hnew4 y hy with h1 | h1
                      · exact HW.out y h1
                      · have h2 := hch.size; simp at h1; omega
                    case measure => simp [slLen] <;> omega
                  · have e3 : (l.tn != -1) = true := by simp [htn]
                    have HTN := Lib.hid htn
                    clear htn
                    go_quiet (fail)
                    go_wp2
                    go_quiet (fail)
                    go_wp2
                    go_ret2
                    have hb := wk_chain HNE.out HT.out HLL.out (f := f) (acc := acc) (by rw [HPV.out]; exact .inr ⟨HSN.out.trans HSD.out.symm, .inr HTN.out⟩)
                    have hk := HWK.out
                    rw [hb] at hk
                    refine ⟨_, 0, 0, 101, rfl, by rw [← hk], by rw [← hk]; exact Own.litg _ 3 1 #[] 0 _ _ (by simp) (by rfl) (by decide) (by rfl), by rw [← hk]; rfl, ?_, by simp; have := hch.size; omega⟩
                    repeat (first | exact hch | apply Chg.drewN | apply Chg.alloc)
                · have e2 : (l.tp != -1) = true := by simp [htp]
                  have HTP := Lib.hid htp
                  clear htp
                  go_quiet (fail)
                  go_wp2
                  go_quiet (fail)
                  go_wp2
                  go_ret2
                  have hb := wk_chain HNE.out HT.out HLL.out (f := f) (acc := acc) (by rw [HPV.out]; exact .inr ⟨HSN.out.trans HSD.out.symm, .inl HTP.out⟩)
                  have hk := HWK.out
                  rw [hb] at hk
                  refine ⟨_, 0, 0, 101, rfl, by rw [← hk], by rw [← hk]; exact Own.litg _ 3 1 #[] 0 _ _ (by simp) (by rfl) (by decide) (by rfl), by rw [← hk]; rfl, ?_, by simp; have := hch.size; omega⟩
                  repeat (first | exact hch | apply Chg.drewN | apply Chg.alloc)
              · have e1 : (l.dst == node) = false := by simp [hd]
                have HSD := Lib.hid hd
                clear hd
                have hst := Good.step hgood H0.out HLL.out HLV.out HTO.out (by rw [HPV.out, HP.out])
                have hws := wk_step HNE.out HT.out HLL.out (f := f) (by rw [HPV.out, HP.out]) (fun h => HSD.out (h.1.symm.trans HSN.out))
                rw [show l.nx node = l.sn by unfold Lk.nx; rw [if_pos HSN.out]] at hst hws
                have HST := Lib.hid hst
                have HWS := Lib.hid hws
                clear hst hws
                go_quiet (fail)
                go_wp2
                go_quiet (fail)
                go_wp2_with (at_builtin; (refine wpList_app rfl _ _ rfl etyInts rfl (HOW.out.chg (hcw1 _ _ _) (fun _ _ => List.not_mem_nil)) rfl (Own.litg _ 3 1 #[.int .i64 id] 1 _ _ (by simp) rfl (by decide) rfl).rd (one_int _ _) (by unfold maxLen; omega) (by omega) ?_); intro A2 c2 w4 hown4 hchg4 hnew4 _)
                go_roundw
                case rel =>
                  refine ⟨M + 1 + 1, A2, c2, acc ++ [id], l.sn, f, rfl, rfl, by simp [HN.out], by simpa [iv] using hown4, HWS.out.symm.trans HWK.out, HST.out.2, by omega, Chg.trans (by repeat (first | exact hch | apply Chg.drewN | apply Chg.alloc)) hchg4 (fun y hy => .inr (HW.out y hy)), fun y hy => ?_⟩
                  rcases hnew4 y hy with h1 | h1
                  · exact HW.out y h1
                  · have h2 := hch.size; simp at h1; omega
                case measure => simp [slLen] <;> omega
            · have hp1 : (l.sp != la) = true := by simp [hp]
              have HP := Lib.hid (show l.sp ≠ acc.getLast?.getD (-1) from fun e => hp (e.trans hla.symm))
              clear hp
              go_quiet (fail)
              go_wp2
              go_quiet (fail)
              go_wp2
              go_ret2
              have hb := wk_chain HNE.out HT.out HLL.out (f := f) (acc := acc) (by rw [HPV.out]; exact .inl HP.out)
              have hk := HWK.out
              rw [hb] at hk
              refine ⟨_, 0, 0, 101, rfl, by rw [← hk], by rw [← hk]; exact Own.litg _ 3 1 #[] 0 _ _ (by simp) (by rfl) (by decide) (by rfl), by rw [← hk]; rfl, ?_, by simp; have := hch.size; omega⟩
              repeat (first | exact hch | apply Chg.drewN | apply Chg.alloc)
        · have HSN := Lib.hid hsn
          have HPV := Lib.hid (show l.pv node = l.tp by unfold Lk.pv; rw [if_neg hsn])
          have s1 : (l.src == node) = false := by simp [hsn]
          clear hsn
          by_cases hN0 : N = 0
          · have hla : (-1 : Int) = acc.getLast?.getD (-1) := by
              have : acc = [] := List.eq_nil_of_length_eq_zero (by rw [← HN.out]; exact hN0)
              rw [this]; rfl
            obtain ⟨la, hla0⟩ : ∃ la : Int, la = -1 := ⟨_, rfl⟩
            replace hla : la = acc.getLast?.getD (-1) := hla0.trans hla
            have HLA0 := Lib.hid hla0
            clear hla0
            subst hN0
            by_cases hp : l.tp = la
            · have hp1 : (l.tp != -1) = false := by rw [← HLA0.out]; simp [hp]
              have HP := Lib.hid (hp.trans hla)
              clear hp
              have hnd : l.src ≠ l.dst := fun h6 => by
                have := HTO.out
                have h5 := HSN.out
                simp [Lk.touches, ← h6, h5] at this
              have HND := Lib.hid hnd
              clear hnd
              have hst := Good.step hgood H0.out HLL.out HLV.out HTO.out (by rw [HPV.out, HP.out])
              have hws := wk_step HNE.out HT.out HLL.out (f := f) (by rw [HPV.out, HP.out]) (fun h => HND.out h.1)
              rw [show l.nx node = l.tn by unfold Lk.nx; rw [if_neg HSN.out]] at hst hws
              have HST := Lib.hid hst
              have HWS := Lib.hid hws
              clear hst hws
              go_quiet (fail)
              go_wp2_with (at_builtin; (refine wpList_app rfl _ _ rfl etyInts rfl (HOW.out.chg (hcw1 _ _ _) (fun _ _ => List.not_mem_nil)) rfl (Own.litg _ 3 1 #[.int .i64 id] 1 _ _ (by simp) rfl (by decide) rfl).rd (one_int _ _) (by unfold maxLen; omega) (by omega) ?_); intro A2 c2 w4 hown4 hchg4 hnew4 _)
              go_roundw
              case rel =>
                refine ⟨0 + 1, A2, c2, acc ++ [id], l.tn, f, rfl, rfl, by simp [HN.out], by simpa [iv] using hown4, HWS.out.symm.trans HWK.out, HST.out.2, by omega, Chg.trans (by repeat (first | exact hch | apply Chg.drewN | apply Chg.alloc)) hchg4 (fun y hy => .inr (HW.out y hy)), fun y hy => ?_⟩
                rcases hnew4 y hy with h1 | h1
                · exact HW.out y h1
                · have h2 := hch.size; simp at h1; omega
              case measure => simp [slLen] <;> omega
            · have hp1 : (l.tp != -1) = true := by rw [← HLA0.out]; simp [hp]
              have HP := Lib.hid (show l.tp ≠ acc.getLast?.getD (-1) from fun e => hp (e.trans hla.symm))
              clear hp
              go_quiet (fail)
              go_wp2
              go_ret2
              have hb := wk_chain HNE.out HT.out HLL.out (f := f) (acc := acc) (by rw [HPV.out]; exact .inl HP.out)
              have hk := HWK.out
              rw [hb] at hk
              refine ⟨_, 0, 0, 101, rfl, by rw [← hk], by rw [← hk]; exact Own.litg _ 3 1 #[] 0 _ _ (by simp) (by rfl) (by decide) (by rfl), by rw [← hk]; rfl, ?_, by simp; have := hch.size; omega⟩
              repeat (first | exact hch | apply Chg.drewN | apply Chg.alloc)
          · obtain ⟨M, rfl⟩ : ∃ M, N = M + 1 := ⟨N - 1, by omega⟩
            obtain ⟨ad', la, rfl, hlaa, hlac⟩ := rd_int (HOW.out.rd) (show M < M + 1 by omega)
            have hla : la = acc.getLast?.getD (-1) := by
              rw [List.getLast?_eq_getElem?, ← HN.out, Nat.add_sub_cancel, hlaa]; rfl
            have HLA := Lib.hid hla
            clear hlaa
            have hlac2 := fun o => ((Chg.refl [] w2).alloc o).cell hlac (by simp)
            by_cases hp : l.tp = la
            · have hp1 : (l.tp != la) = false := by simp [hp]
              have HP := Lib.hid (hp.trans hla)
              clear hp
              have hnd : l.src ≠ l.dst := fun h6 => by
                have := HTO.out
                have h5 := HSN.out
                simp [Lk.touches, ← h6, h5] at this
              have HND := Lib.hid hnd
              clear hnd
              have hst := Good.step hgood H0.out HLL.out HLV.out HTO.out (by rw [HPV.out, HP.out])
              have hws := wk_step HNE.out HT.out HLL.out (f := f) (by rw [HPV.out, HP.out]) (fun h => HND.out h.1)
              rw [show l.nx node = l.tn by unfold Lk.nx; rw [if_neg HSN.out]] at hst hws
              have HST := Lib.hid hst
              have HWS := Lib.hid hws
              clear hst hws
              go_quiet (fail)
              go_wp2_with (at_builtin; (refine wpList_app rfl _ _ rfl etyInts rfl (HOW.out.chg (hcw1 _ _ _) (fun _ _ => List.not_mem_nil)) rfl (Own.litg _ 3 1 #[.int .i64 id] 1 _ _ (by simp) rfl (by decide) rfl).rd (one_int _ _) (by unfold maxLen; omega) (by omega) ?_); intro A2 c2 w4 hown4 hchg4 hnew4 _)
              go_roundw
              case rel =>
                refine ⟨M + 1 + 1, A2, c2, acc ++ [id], l.tn, f, rfl, rfl, by simp [HN.out], by simpa [iv] using hown4, HWS.out.symm.trans HWK.out, HST.out.2, by omega, Chg.trans (by repeat (first | exact hch | apply Chg.drewN | apply Chg.alloc)) hchg4 (fun y hy => .inr (HW.out y hy)), fun y hy => ?_⟩
                rcases hnew4 y hy with h1 | h1
                · exact HW.out y h1
                · have h2 := hch.size; simp at h1; omega
              case measure => simp [slLen] <;> omega
            · have hp1 : (l.tp != la) = true := by simp [hp]
              have HP := Lib.hid (show l.tp ≠ acc.getLast?.getD (-1) from fun e => hp (e.trans hla.symm))
              clear hp
              go_quiet (fail)
              go_wp2
              go_ret2
              have hb := wk_chain HNE.out HT.out HLL.out (f := f) (acc := acc) (by rw [HPV.out]; exact .inl HP.out)
              have hk := HWK.out
              rw [hb] at hk
              refine ⟨_, 0, 0, 101, rfl, by rw [← hk], by rw [← hk]; exact Own.litg _ 3 1 #[] 0 _ _ (by simp) (by rfl) (by decide) (by rfl), by rw [← hk]; rfl, ?_, by simp; have := hch.size; omega⟩
              repeat (first | exact hch | apply Chg.drewN | apply Chg.alloc)
      · obtain ⟨E, hE⟩ : ∃ E, tch ls node id = E := ⟨_, rfl⟩
        have hb := wk_bad (f := f) (acc := acc) HNE.out ht
        rw [hE] at hf0 ht hb
        have HB := Lib.hid hb
        clear hE hb
        go_wp2_with fail
        refine hf0.mono ?_
        rintro e w2 ⟨rfl, rfl⟩
        go_wp2
        go_ret2
        have hk := HWK.out
        rw [HB.out] at hk
        exact ⟨_, 0, 0, E, rfl, by rw [← hk], by rw [← hk]; exact Own.lit _ 3 1 #[] 0 (by decide) rfl, by rw [← hk]; rfl, hch.alloc _, by simp; have := hch.size; omega⟩
end Go.Proofs.Ytelmnmepdmfihaa
