/-
  Layer 13: Walk.
-/
import Derived.Test.YtelmnmepdmfihaaLkN
namespace Go.Proofs.Ytelmnmepdmfihaa
open Go.RowKit

def slLen : Value → Nat
  | .slice _ n _ => n
  | _ => 0

/-- a list of ids and an error's number are told -/
def WalkTo (ls : List Lk) (node head : Int) (w : World) (e : Ending) (w' : World) : Prop :=
  ∃ A N c E, e = .returned (.tuple #[.slice A N c, .int .i64 E]) ∧ E = (walk ls node head).2 ∧ Own w' 3 1 A N c (iv (walk ls node head).1) ∧ N = (walk ls node head).1.length ∧ Chg [] w w' ∧ ∀ k ∈ bo A, w.heap.size ≤ k

set_option maxHeartbeats 12800000 in
theorem walk_any (A : Option Addr) (n c : Nat) (ls : List Lk) (node head : Int) (w : World) (hrd : Rd w 7 A n c (lvs ls)) (hn : n ≤ 1073741824) :
    Calls Try.prog 45 #[.slice A n c, .int .i64 node, .int .i64 head] w (WalkTo ls node head w) := by
  have hl : ls.length = n := by have := hrd.1; rw [lvs_length] at this; omega
  have HR := Lib.hid hrd
  have HL := Lib.hid hl
  clear hrd hl
  go_enter Try.func45, Try.ntmps45
  go_wp2
  go_loopw [6, 8, 9] (fun v la q wr => ∃ (N : Nat) (A' : Option Addr) (c' : Nat) (acc : List Int) (id : Int) (f : Nat), v = .slice A' N c' ∧ la = .int .i64 (acc.getLast?.getD (-1)) ∧ q = .int .i64 id ∧ N = acc.length ∧
    Own wr 3 1 A' N c' (iv acc) ∧ wk ls node f acc id = walk ls node head ∧ Good ls node acc id ∧ f + N = n + 1 ∧ Chg [] w wr ∧ (∀ k ∈ bo A', w.heap.size ≤ k)) (fun v _ _ _ => n + 1 - slLen v)
  case atStart => exact ⟨0, none, 0, [], head, n + 1, rfl, rfl, rfl, rfl, Own.nil _ _ _, by rw [walk, HL.out], Good.nil _ _ _, rfl, Chg.refl _ _, by simp⟩
  case round =>
    obtain ⟨N, A', c', acc, id, f, rfl, rfl, rfl, hN, hown, hwk, hgood, hf, hch, hnew⟩ := hrel
    have hNn : N ≤ n := by have := hgood.len; have := HL.out; omega
    obtain ⟨f, rfl⟩ : ∃ f', f = f' + 1 := ⟨f - 1, by omega⟩
    have HN := Lib.hid hN
    have HWK := Lib.hid hwk
    have HW := Lib.hid hnew
    clear hN hwk hnew
    by_cases hid : id = -1
    · subst hid
      go_wp2
      go_ret2
      have hb := wk_end ls node f acc
      have hk := HWK.out
      rw [hb] at hk
      exact ⟨A', N, c', 0, rfl, by rw [← hk], by rw [← hk]; exact hown, by rw [← hk]; exact HN.out, hch, HW.out⟩
    · have hid1 : (id != -1) = true := by simp [hid]
      have HNE := Lib.hid hid
      clear hid
      have hf0 := find_any A n c ls node id wr (HR.out.chg hch (by simp))
      by_cases ht : tch ls node id = 0
      · rw [ht] at hf0
        obtain ⟨h0, l, hl, hlive, htou⟩ := tch_some ht
        have HT := Lib.hid ht
        have HLV := Lib.hid hlive
        have HTO := Lib.hid htou
        have HLL := Lib.hid hl
        have H0 := Lib.hid h0
        obtain ⟨ad, rfl, hat⟩ := (HR.out.chg hch (by simp)).lk hl
        have qj : id.toNat < n := by
          have := (List.getElem?_eq_some_iff.1 hl).1
          have := HL.out
          omega
        obtain ⟨j, rfl⟩ := Int.eq_ofNat_of_zero_le h0
        simp only [Int.toNat_natCast] at hat qj
        have qj2 : (j : Int) < n := by omega
        clear ht hlive htou hl qj
        go_wp2_with fail
        refine hf0.mono ?_
        rintro e w2 ⟨rfl, hc2⟩
        obtain ⟨x0, x1, x2, x3, x4, x5, x6⟩ := hat.chg hc2 (by simp)
        clear hat
        go_wp2_with fail
        have hb2 := Blk.new w2 55 #[.bool l.live, .int .i64 l.src, .int .i64 l.dst, .int .i64 l.sp, .int .i64 l.tp, .int .i64 l.sn, .int .i64 l.tn]
        have hsrc := hb2.cell 1
        refine (side_any ⟨w2.heap.size, 0, none⟩ l.src node _ hsrc).mono ?_
        rintro e w3 ⟨⟨q3, hq3⟩, d, hd, rfl⟩
        have hb3 := hb2.drewN q3
        rw [← hq3] at hb3
        have hch3 := ((hch.trans0 hc2).alloc (.cells #[.bool l.live, .int .i64 l.src, .int .i64 l.dst, .int .i64 l.sp, .int .i64 l.tp, .int .i64 l.sn, .int .i64 l.tn] 55)).drewN q3
        rw [← hq3] at hch3
        have hown3 := hown.chg (((hc2.alloc (.cells #[.bool l.live, .int .i64 l.src, .int .i64 l.dst, .int .i64 l.sp, .int .i64 l.tp, .int .i64 l.sn, .int .i64 l.tn] 55)).drewN q3)) (by simp)
        rw [← hq3] at hown3
        clear hq3 hsrc hb2
        have z1 := hb3.cell 1
        have z2 := hb3.cell 2
        have z3 := hb3.cell 3
        have z4 := hb3.cell 4
        have z6 := hb3.cell 6
        simp at z1 z2 z3 z4 z6
        have HGA := Lib.hid (show w2.heap.size ∉ bo A' from fun hh => hown3.blk_ne hb3 (by decide) _ hh rfl)
        clear x0 x1 x2 x3 x4 x5 x6
        obtain ⟨id, hidj⟩ : ∃ id : Int, id = j := ⟨_, rfl⟩
        rw [← hidj]
        rw [← hidj] at hgood HT HNE HLL HWK H0
        have QJ := Lib.hid hidj
        clear hidj hid1 qj2 h0
        rcases hd with ⟨hsn, rfl⟩ | ⟨hsn, rfl⟩
        · have HSN := Lib.hid hsn
          have HPV := Lib.hid (show l.pv node = l.sp by unfold Lk.pv; rw [if_pos hsn])
          clear hsn
          by_cases hp : l.sp = acc.getLast?.getD (-1)
          · have hp1 : (l.sp != acc.getLast?.getD (-1)) = false := by simp [hp]
            have HP := Lib.hid hp
            clear hp
            by_cases hsd : l.src = l.dst
            · have e1 : (l.src == l.dst) = true := by simp [hsd]
              have HSD := Lib.hid hsd
              clear hsd
              by_cases htp : l.tp = -1
              · have e2 : (l.tp != -1) = false := by simp [htp]
                have HTP := Lib.hid htp
                clear htp
                by_cases htn : l.tn = -1
                · have e3 : (l.tn != -1) = false := by simp [htn]
                  have HTN := Lib.hid htn
                  clear htn
                  have hst := Good.step hgood H0.out HLL.out HLV.out HTO.out (by rw [HPV.out, HP.out])
                  have hws := wk_step HNE.out HT.out HLL.out (f := f) (by rw [HPV.out, HP.out]) (by rw [HTP.out, HTN.out]; simp)
                  rw [show l.nx node = l.sn by unfold Lk.nx; rw [if_pos HSN.out]] at hst hws
                  have HST := Lib.hid hst
                  have HWS := Lib.hid hws
                  clear hst hws
                  go_wp2_with (at_builtin; refine wpList_app rfl _ _ rfl etyInts rfl (hown3.chg ((Chg.refl [] w3).alloc _) (by simp)) rfl (Own.lit w3 3 1 #[.int .i64 id] 1 (by decide) rfl).rd (one_int _ _) (by unfold maxLen; omega) (by omega) ?_; intro A2 c2 w4 hown4 hchg4 hnew4 _; have hb4 := (hb3.alloc _).chg hchg4 HGA.out; have z5 := hb4.cell 5; simp at z5)
                  go_quiet (fail)
                  go_wp2
                  go_roundw
                  case rel =>
                    refine ⟨N + 1, A2, c2, acc ++ [id], l.sn, f, rfl, by simp, rfl, by simp [HN.out], by simpa [iv] using hown4.chg ((Chg.refl [] _).drewN nq) (by simp), HWS.out.symm.trans HWK.out, HST.out.2, by omega, ((hch3.alloc _).trans hchg4 (fun y hy => .inr (HW.out y hy))).drewN _, fun y hy => ?_⟩
                    rcases hnew4 y hy with h1 | h1
                    · exact HW.out y h1
                    · have h2 := hch3.size; simp at h1; omega
                  case measure => simp [slLen]; omega
                · have e3 : (l.tn != -1) = true := by simp [htn]
                  have HTN := Lib.hid htn
                  clear htn
                  go_wp2
                  go_ret2
                  have hb := wk_chain HNE.out HT.out HLL.out (f := f) (acc := acc) (by rw [HPV.out]; exact .inr ⟨HSD.out, .inr HTN.out⟩)
                  have hk := HWK.out
                  rw [hb] at hk
                  exact ⟨none, 0, 0, 101, rfl, by rw [← hk], by rw [← hk]; exact Own.nil _ _ _, by rw [← hk]; rfl, hch3, by simp⟩
              · have e2 : (l.tp != -1) = true := by simp [htp]
                have HTP := Lib.hid htp
                clear htp
                go_wp2
                go_ret2
                have hb := wk_chain HNE.out HT.out HLL.out (f := f) (acc := acc) (by rw [HPV.out]; exact .inr ⟨HSD.out, .inl HTP.out⟩)
                have hk := HWK.out
                rw [hb] at hk
                exact ⟨none, 0, 0, 101, rfl, by rw [← hk], by rw [← hk]; exact Own.nil _ _ _, by rw [← hk]; rfl, hch3, by simp⟩
            · have e1 : (l.src == l.dst) = false := by simp [hsd]
              have HSD := Lib.hid hsd
              clear hsd
              have hst := Good.step hgood H0.out HLL.out HLV.out HTO.out (by rw [HPV.out, HP.out])
              have hws := wk_step HNE.out HT.out HLL.out (f := f) (by rw [HPV.out, HP.out]) (fun h => HSD.out h.1)
              rw [show l.nx node = l.sn by unfold Lk.nx; rw [if_pos HSN.out]] at hst hws
              have HST := Lib.hid hst
              have HWS := Lib.hid hws
              clear hst hws
              go_wp2_with (at_builtin; refine wpList_app rfl _ _ rfl etyInts rfl (hown3.chg ((Chg.refl [] w3).alloc _) (by simp)) rfl (Own.lit w3 3 1 #[.int .i64 id] 1 (by decide) rfl).rd (one_int _ _) (by unfold maxLen; omega) (by omega) ?_; intro A2 c2 w4 hown4 hchg4 hnew4 _; have hb4 := (hb3.alloc _).chg hchg4 HGA.out; have z5 := hb4.cell 5; simp at z5)
              go_quiet (fail)
              go_wp2
              go_roundw
              case rel =>
                refine ⟨N + 1, A2, c2, acc ++ [id], l.sn, f, rfl, by simp, rfl, by simp [HN.out], by simpa [iv] using hown4.chg ((Chg.refl [] _).drewN nq) (by simp), HWS.out.symm.trans HWK.out, HST.out.2, by omega, ((hch3.alloc _).trans hchg4 (fun y hy => .inr (HW.out y hy))).drewN _, fun y hy => ?_⟩
                rcases hnew4 y hy with h1 | h1
                · exact HW.out y h1
                · have h2 := hch3.size; simp at h1; omega
              case measure => simp [slLen]; omega
          · have hp1 : (l.sp != acc.getLast?.getD (-1)) = true := by simp [hp]
            have HP := Lib.hid hp
            clear hp
            go_wp2
            go_ret2
            have hb := wk_chain HNE.out HT.out HLL.out (f := f) (acc := acc) (by rw [HPV.out]; exact .inl HP.out)
            have hk := HWK.out
            rw [hb] at hk
            exact ⟨none, 0, 0, 101, rfl, by rw [← hk], by rw [← hk]; exact Own.nil _ _ _, by rw [← hk]; rfl, hch3, by simp⟩
        · have HSN := Lib.hid hsn
          have HPV := Lib.hid (show l.pv node = l.tp by unfold Lk.pv; rw [if_neg hsn])
          clear hsn
          by_cases hp : l.tp = acc.getLast?.getD (-1)
          · have hp1 : (l.tp != acc.getLast?.getD (-1)) = false := by simp [hp]
            have HP := Lib.hid hp
            clear hp
            by_cases hsd : l.src = l.dst
            · have e1 : (l.src == l.dst) = true := by simp [hsd]
              have HSD := Lib.hid hsd
              clear hsd
              have := HTO.out
              have h5 := HSN.out
              have h6 := HSD.out
              simp [Lk.touches, ← h6, h5] at this
            · have e1 : (l.src == l.dst) = false := by simp [hsd]
              have HSD := Lib.hid hsd
              clear hsd
              have hst := Good.step hgood H0.out HLL.out HLV.out HTO.out (by rw [HPV.out, HP.out])
              have hws := wk_step HNE.out HT.out HLL.out (f := f) (by rw [HPV.out, HP.out]) (fun h => HSD.out h.1)
              rw [show l.nx node = l.tn by unfold Lk.nx; rw [if_neg HSN.out]] at hst hws
              have HST := Lib.hid hst
              have HWS := Lib.hid hws
              clear hst hws
              go_wp2_with (at_builtin; refine wpList_app rfl _ _ rfl etyInts rfl (hown3.chg ((Chg.refl [] w3).alloc _) (by simp)) rfl (Own.lit w3 3 1 #[.int .i64 id] 1 (by decide) rfl).rd (one_int _ _) (by unfold maxLen; omega) (by omega) ?_; intro A2 c2 w4 hown4 hchg4 hnew4 _; have hb4 := (hb3.alloc _).chg hchg4 HGA.out; have z5 := hb4.cell 6; simp at z5)
              go_quiet (fail)
              go_wp2
              go_roundw
              case rel =>
                refine ⟨N + 1, A2, c2, acc ++ [id], l.tn, f, rfl, by simp, rfl, by simp [HN.out], by simpa [iv] using hown4.chg ((Chg.refl [] _).drewN nq) (by simp), HWS.out.symm.trans HWK.out, HST.out.2, by omega, ((hch3.alloc _).trans hchg4 (fun y hy => .inr (HW.out y hy))).drewN _, fun y hy => ?_⟩
                rcases hnew4 y hy with h1 | h1
                · exact HW.out y h1
                · have h2 := hch3.size; simp at h1; omega
              case measure => simp [slLen]; omega
          · have hp1 : (l.tp != acc.getLast?.getD (-1)) = true := by simp [hp]
            have HP := Lib.hid hp
            clear hp
            go_wp2
            go_ret2
            have hb := wk_chain HNE.out HT.out HLL.out (f := f) (acc := acc) (by rw [HPV.out]; exact .inl HP.out)
            have hk := HWK.out
            rw [hb] at hk
            exact ⟨none, 0, 0, 101, rfl, by rw [← hk], by rw [← hk]; exact Own.nil _ _ _, by rw [← hk]; rfl, hch3, by simp⟩
      · obtain ⟨E, hE⟩ : ∃ E, tch ls node id = E := ⟨_, rfl⟩
        have hb := wk_bad (f := f) (acc := acc) HNE.out ht
        rw [hE] at hf0 ht hb
        have HB := Lib.hid hb
        clear hE hb
        go_wp2_with fail
        refine hf0.mono ?_
        rintro e w2 ⟨rfl, hc2⟩
        go_wp2
        go_ret2
        have hk := HWK.out
        rw [HB.out] at hk
        exact ⟨none, 0, 0, E, rfl, by rw [← hk], by rw [← hk]; exact Own.nil _ _ _, by rw [← hk]; rfl, hch.trans0 hc2, by simp⟩
end Go.Proofs.Ytelmnmepdmfihaa
