/-
  Layer 13: side, the document's Touches, both Incidents.
-/
import Derived.Test.YtelmnmepdmfihaaLkM
namespace Go.Proofs.Ytelmnmepdmfihaa
open Go.RowKit

/-- the two links of the side a node is on -/
def SideTo (p : Addr) (src node : Int) (w : World) (e : Ending) (w' : World) : Prop :=
  (∃ k, w' = w.drewN k) ∧ ∃ d, (src = node ∧ d = 0 ∨ src ≠ node ∧ d = 1) ∧ e = .returned (.tuple #[.pointer (some ⟨p.block, p.off + (3 + d), none⟩), .pointer (some ⟨p.block, p.off + (5 + d), none⟩)])

set_option maxHeartbeats 800000 in
theorem side_any (p : Addr) (src node : Int) (w : World) (hc : w.cell? ⟨p.block, p.off + 1, none⟩ = some (.int .i64 src)) :
    Calls Try.prog 44 #[.pointer (some p), .int .i64 node] w (SideTo p src node w) := by
  by_cases h : src = node
  · have h1 : (src == node) = true := by simp [h]
    have H := Lib.hid h
    clear h
    go_enter Try.func44, Try.ntmps44
    go_wp2
    go_quiet (fail)
    go_wp2
    go_ret2
    exact ⟨⟨_, rfl⟩, 0, .inl ⟨H.out, rfl⟩, rfl⟩
  · have h1 : (src == node) = false := by simp [h]
    have H := Lib.hid h
    clear h
    go_enter Try.func44, Try.ntmps44
    go_wp2
    go_quiet (fail)
    go_wp2
    go_ret2
    exact ⟨⟨_, rfl⟩, 1, .inr ⟨H.out, rfl⟩, rfl⟩

set_option maxHeartbeats 1600000 in
theorem gtou_any (A : Option Addr) (n c : Nat) (ls : List Lk) (node id : Int) (w : World) (hrd : Rd w 7 A n c (lvs ls)) :
    Calls Try.prog 38 #[.slice A n c, .int .i64 node, .int .i64 id] w fun e w' => e = .returned (.int .i64 (tch ls node id)) ∧ w' = w := by
  have hl : ls.length = n := by have := hrd.1; rw [lvs_length] at this; omega
  by_cases h0 : id < 0
  · have HT : Hid (tch ls node id = 3) := Lib.hid (by simp [tch, h0])
    clear hl
    go_enter Try.func38, Try.ntmps38
    go_wp2
    go_ret
    exact ⟨by rw [HT.out]; rfl, rfl⟩
  · obtain ⟨j, rfl⟩ := Int.eq_ofNat_of_zero_le (show 0 ≤ id by omega)
    by_cases hjn : j < n
    · obtain ⟨l, hj⟩ : ∃ l, ls[j]? = some l := ⟨_, List.getElem?_eq_getElem (by omega)⟩
      obtain ⟨ad, rfl, hat⟩ := hrd.lk hj
      obtain ⟨c0, c1, c2, c3, c4, c5, c6⟩ := hat
      have q0 : (0 : Int) ≤ j := by omega
      have q1 : ¬ ((j : Int) < 0) := by omega
      have q2 : ¬ ((n : Int) ≤ j) := by omega
      cases hv : l.live with
      | false =>
        have HT : Hid (tch ls node j = 3) := Lib.hid (by simp [tch, q1, hj, hv])
        rw [hv] at c0
        clear hl h0 hj hv
        go_enter Try.func38, Try.ntmps38
        go_wp2
        go_ret
        exact ⟨by rw [HT.out]; rfl, rfl⟩
      | true =>
        have HT : Hid (tch ls node j = if l.src == node || l.dst == node then 0 else 65) := Lib.hid (by simp [tch, q1, hj, hv, Lk.touches])
        rw [hv] at c0
        clear hl h0 hj hv
        by_cases e1 : l.src = node
        · have h1 : (l.src == node) = true := by simp [e1]
          have h1' : (l.src != node) = false := by simp [e1]
          have HTT := HT.out
          rw [h1] at HTT
          have HT2 := Lib.hid HTT
          clear HTT e1
          go_enter Try.func38, Try.ntmps38
          go_wp2
          go_ret
          exact ⟨by rw [HT2.out]; rfl, rfl⟩
        · have h1 : (l.src == node) = false := by simp [e1]
          have h1' : (l.src != node) = true := by simp [e1]
          have HTT := HT.out
          rw [h1] at HTT
          by_cases e2 : l.dst = node
          · have h2 : (l.dst == node) = true := by simp [e2]
            have h2' : (l.dst != node) = false := by simp [e2]
            rw [h2] at HTT
            have HT2 := Lib.hid HTT
            clear HTT e1 e2
            go_enter Try.func38, Try.ntmps38
            go_wp2
            go_ret
            exact ⟨by rw [HT2.out]; rfl, rfl⟩
          · have h2 : (l.dst == node) = false := by simp [e2]
            have h2' : (l.dst != node) = true := by simp [e2]
            rw [h2] at HTT
            have HT2 := Lib.hid HTT
            clear HTT e1 e2
            go_enter Try.func38, Try.ntmps38
            go_wp2
            go_ret
            exact ⟨by rw [HT2.out]; rfl, rfl⟩
    · have HT : Hid (tch ls node j = 3) := Lib.hid (by
        simp only [tch]
        rw [if_neg (by omega), List.getElem?_eq_none (by simp; omega)])
      clear hl
      go_enter Try.func38, Try.ntmps38
      go_wp2
      go_ret
      exact ⟨by rw [HT.out]; rfl, rfl⟩

/-- the first i of them -/
def inc (ls : List Lk) (node : Int) (i : Nat) : List Int := ((List.range i).filter fun j => (ls[j]?.map fun l => l.live && l.touches node).getD false).map Int.ofNat
theorem inc_succ (ls : List Lk) (node : Int) (i : Nat) (l : Lk) (h : ls[i]? = some l) : inc ls node (i + 1) = inc ls node i ++ if l.live && l.touches node then [(i : Int)] else [] := by
  unfold inc
  rw [List.range_succ, List.filter_append, List.map_append]
  congr 1
  simp only [List.filter_cons, List.filter_nil, h, Option.map_some, Option.getD_some]
  split <;> simp
theorem inc_le (ls : List Lk) (node : Int) (i : Nat) : (inc ls node i).length ≤ i := by
  unfold inc
  rw [List.length_map]
  have := List.length_filter_le (fun j => (ls[j]?.map fun l => l.live && l.touches node).getD false) (List.range i)
  simpa using this
theorem inc_all (ls : List Lk) (node : Int) : inc ls node ls.length = incident ls node := rfl
theorem tch_zero (ls : List Lk) (node : Int) (i : Nat) (l : Lk) (h : ls[i]? = some l) : (tch ls node i == 0) = (l.live && l.touches node) := by
  unfold tch
  rw [if_neg (by omega)]
  simp only [Int.toNat_natCast, h]
  cases l.live <;> cases l.touches node <;> rfl

set_option maxHeartbeats 1600000 in
theorem incident_any (A : Option Addr) (n c : Nat) (ls : List Lk) (node : Int) (w : World) (hrd : Rd w 7 A n c (lvs ls)) (hn : n ≤ 1073741824) (N0 : Nat) (hN0 : (incident ls node).length = N0) :
    Calls Try.prog 24 #[.slice A n c, .int .i64 node] w (NewRow 3 1 w (iv (incident ls node)) N0) := by
  have hl : ls.length = n := by have := hrd.1; rw [lvs_length] at this; omega
  subst hN0
  have HR := Lib.hid hrd
  have HL := Lib.hid hl
  clear hrd hl
  go_enter Try.func24, Try.ntmps24
  go_wp2
  go_loopw [4, 9] (fun v q wr => ∃ (i N : Nat) (A' : Option Addr) (c' : Nat), i ≤ n ∧ q = .int .i64 i ∧ v = .slice A' N c' ∧ N = (inc ls node i).length ∧ Own wr 3 1 A' N c' (iv (inc ls node i)) ∧ Chg [] w wr ∧ (∀ k ∈ bo A', w.heap.size ≤ k)) (fun _ q _ => n - (intOf q).toNat)
  case atStart => exact ⟨0, 0, none, 0, Nat.zero_le _, rfl, rfl, rfl, Own.nil _ _ _, Chg.refl _ _, by simp⟩
  case round =>
    obtain ⟨i, N, A', c', hi, rfl, rfl, hN, hown, hch, hnew⟩ := hrel
    have HN := Lib.hid hN
    have HW := Lib.hid hnew
    have hNi := inc_le ls node i
    rw [← hN] at hNi
    clear hN hnew
    by_cases hlt : i < n
    · obtain ⟨l, hj⟩ : ∃ l, ls[i]? = some l := ⟨_, List.getElem?_eq_getElem (by have := HL.out; omega)⟩
      obtain ⟨ad, rfl, hat⟩ := (HR.out.chg hch (by simp)).lk hj
      obtain ⟨c0, c1, c2, c3, c4, c5, c6⟩ := hat
      have HS := Lib.hid (inc_succ ls node i l hj)
      clear hj
      cases hv : l.live with
      | false =>
        rw [hv] at c0
        have HV := Lib.hid hv
        clear hv
        go_wp2
        go_roundw
        case rel => exact ⟨i + 1, N, A', c', by omega, by go_num, rfl, by rw [HS.out, HV.out]; simpa using HN.out, by rw [HS.out, HV.out]; simpa using hown.chg ((Chg.refl [] wr).alloc _) (by simp), hch.alloc _, HW.out⟩
        case measure => simp [intOf]; omega
      | true =>
        rw [hv] at c0
        have HV := Lib.hid hv
        clear hv
        go_wp2_with fail
        have ht := touches_any l node (wr.alloc (.cells #[.bool true, .int .i64 l.src, .int .i64 l.dst, .int .i64 l.sp, .int .i64 l.tp, .int .i64 l.sn, .int .i64 l.tn] 55))
        rw [HV.out] at ht
        refine ht.mono ?_
        rintro e w1 ⟨rfl, hc1⟩
        have e1 : Chg [] wr w1 := ((Chg.refl [] wr).alloc _).trans0 hc1
        have ho1 := hown.chg e1 (by simp)
        cases htt : l.touches node with
        | true =>
          have HTT := Lib.hid htt
          clear ht htt
          go_wp2_with (at_builtin; refine wpList_app rfl _ _ rfl etyInts rfl (ho1.chg ((Chg.refl [] w1).alloc _) (by simp)) rfl (Own.lit w1 3 1 #[.int .i64 i] 1 (by decide) rfl).rd (one_int _ _) (by unfold maxLen; omega) (by omega) ?_; intro A2 c2 w2 hown2 hchg2 hnew2 _)
          go_roundw
          case rel =>
            refine ⟨i + 1, N + 1, A2, c2, by omega, by go_num, rfl, by rw [HS.out, HV.out, HTT.out]; simp [← HN.out], ?_, ((hch.trans0 e1).alloc _).trans hchg2 (fun y hy => .inr (HW.out y hy)), fun y hy => ?_⟩
            · rw [HS.out, HV.out, HTT.out]
              simpa using hown2
            · rcases hnew2 y hy with h1 | h1
              · exact HW.out y h1
              · have h2 := (hch.trans0 e1).size; simp at h1; omega
          case measure => simp [intOf]; omega
        | false =>
          have HTT := Lib.hid htt
          clear ht htt
          go_wp2
          go_roundw
          case rel => exact ⟨i + 1, N, A', c', by omega, by go_num, rfl, by rw [HS.out, HV.out, HTT.out]; simpa using HN.out, by rw [HS.out, HV.out, HTT.out]; simpa using ho1, hch.trans0 e1, HW.out⟩
          case measure => simp [intOf]; omega
    · go_wp2
      go_ret
      obtain rfl : i = ls.length := by have := HL.out; omega
      rw [← inc_all, ← HN.out]
      exact ⟨A', c', rfl, hown, hch, HW.out⟩

set_option maxHeartbeats 1600000 in
theorem gincident_any (A : Option Addr) (n c : Nat) (ls : List Lk) (node : Int) (w : World) (hrd : Rd w 7 A n c (lvs ls)) (hn : n ≤ 1073741824) (N0 : Nat) (hN0 : (incident ls node).length = N0) :
    Calls Try.prog 22 #[.slice A n c, .int .i64 node] w (NewRow 3 1 w (iv (incident ls node)) N0) := by
  have hl : ls.length = n := by have := hrd.1; rw [lvs_length] at this; omega
  subst hN0
  have HR := Lib.hid hrd
  have HL := Lib.hid hl
  clear hrd hl
  go_enter Try.func22, Try.ntmps22
  go_wp2
  go_loopw [5, 6] (fun v q wr => ∃ (i N : Nat) (A' : Option Addr) (c' : Nat), i ≤ n ∧ q = .int .i64 i ∧ v = .slice A' N c' ∧ N = (inc ls node i).length ∧ Own wr 3 1 A' N c' (iv (inc ls node i)) ∧ Chg [] w wr ∧ (∀ k ∈ bo A', w.heap.size ≤ k)) (fun _ q _ => n - (intOf q).toNat)
  case atStart => exact ⟨0, 0, _, 0, Nat.zero_le _, rfl, rfl, rfl, Own.lit w 3 1 #[] 0 (by decide) rfl, (Chg.refl _ _).alloc _, by simp⟩
  case round =>
    obtain ⟨i, N, A', c', hi, rfl, rfl, hN, hown, hch, hnew⟩ := hrel
    have HN := Lib.hid hN
    have HW := Lib.hid hnew
    have hNi := inc_le ls node i
    rw [← hN] at hNi
    clear hN hnew
    by_cases hlt : i < n
    · obtain ⟨l, hj⟩ : ∃ l, ls[i]? = some l := ⟨_, List.getElem?_eq_getElem (by have := HL.out; omega)⟩
      have HS := Lib.hid (inc_succ ls node i l hj)
      have hz := tch_zero ls node i l hj
      clear hj
      go_wp2_with fail
      refine (gtou_any A n c ls node i _ (HR.out.chg hch (by simp))).mono ?_
      rintro e w1 ⟨rfl, rfl⟩
      cases hb : (l.live && l.touches node) with
      | true =>
        rw [hb] at hz
        have HB := Lib.hid hb
        clear hb
        go_wp2_with (at_builtin; refine wpList_app rfl _ _ rfl etyInts rfl (hown.chg ((Chg.refl [] _).alloc _) (by simp)) rfl (Own.lit _ 3 1 #[.int .i64 i] 1 (by decide) rfl).rd (one_int _ _) (by unfold maxLen; omega) (by omega) ?_; intro A2 c2 w2 hown2 hchg2 hnew2 _)
        go_roundw
        case rel =>
          refine ⟨i + 1, N + 1, A2, c2, by omega, by go_num, rfl, by rw [HS.out, HB.out]; simp [← HN.out], ?_, (hch.alloc _).trans hchg2 (fun y hy => .inr (HW.out y hy)), fun y hy => ?_⟩
          · rw [HS.out, HB.out]
            simpa using hown2
          · rcases hnew2 y hy with h1 | h1
            · exact HW.out y h1
            · have h2 := hch.size; simp at h1; omega
        case measure => simp [intOf]; omega
      | false =>
        rw [hb] at hz
        have HB := Lib.hid hb
        clear hb
        go_wp2
        go_roundw
        case rel => exact ⟨i + 1, N, A', c', by omega, by go_num, rfl, by rw [HS.out, HB.out]; simpa using HN.out, by rw [HS.out, HB.out]; simpa using hown, hch, HW.out⟩
        case measure => simp [intOf]; omega
    · go_wp2
      go_ret
      obtain rfl : i = ls.length := by have := HL.out; omega
      rw [← inc_all, ← HN.out]
      exact ⟨A', c', rfl, hown, hch, HW.out⟩
end Go.Proofs.Ytelmnmepdmfihaa
