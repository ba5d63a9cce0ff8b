/-
  The walk of PumpBuckets over the virtual program; no condition but what each law names.
-/
import Derived.Test.YtcdhmnefmbcmaaaKVxJ
namespace Go.Proofs.Ytcdhmnefmbcmaaa.Vw
open Go Go.RowKit
/-- the rows that come in -/
def ChIn (w0 w : World) (O : Option Addr) (C : List (List Int)) : Prop :=
  ∀ (j : Nat) (p : List Int), C[j]? = some p → ∃ ad B c, O = some ad ∧ w.cell? (ad.add j) = some (.slice B p.length c) ∧ Rd w 1 B p.length c (bv p) ∧ (0 < p.length → ∀ k ∈ bo B, k < w0.heap.size) ∧ p.length ≤ 1073741824
theorem ChIn.chg {w0 w w' : World} {O : Option Addr} {C : List (List Int)} (h : ChIn w0 w O C) (hc : Chg [] w w') : ChIn w0 w' O C := fun j p hp => by
  obtain ⟨ad, B, c, h1, h2, h3, h4, h5⟩ := h j p hp
  exact ⟨ad, B, c, h1, hc.cell h2 (by simp), h3.chg hc (by simp), h4, h5⟩
theorem Rd.chgE {w w' : World} {sz n c : Nat} {A : Option Addr} {xs : List Value} {L : List Nat} (h : Rd w sz A n c xs) (hc : Chg L w w') (hn : 0 < n → ∀ k ∈ bo A, k ∉ L) : Rd w' sz A n c xs := by
  rcases Nat.eq_zero_or_pos n with h0 | h0
  · subst h0
    have hx : xs = [] := List.eq_nil_of_length_eq_zero (by simpa using h.1)
    subst hx
    exact ⟨h.1, h.2.1, h.2.2.1, h.2.2.2.1, fun ad e => ⟨fun hp => absurd hp (Nat.lt_irrefl 0), fun j u hu => by simp at hu⟩⟩
  · exact h.chg hc (hn h0)
set_option maxRecDepth 100000 in
set_option maxHeartbeats 6400000 in
theorem buckets_any {O : Option Addr} {n d : Nat} {C : List (List Int)} {room : Int} {w : World} (hC : ChIn w w O C) (hCl : C.length = n) (hn : n ≤ 1073741824) (hfl : C.flatten.length ≤ 1073741824) (hroom : room ≤ 9223372036854775807) :
    Calls Tryv.prog 4 #[.int .i64 room, .slice O n d] w fun e w' => e = .returned (.bool true) ∧ Chg [] w w' := by
  obtain ⟨R, hR, hR0, hR1⟩ : ∃ R, (if room > 0 then room else 0) = R ∧ 0 ≤ R ∧ R ≤ 9223372036854775807 := ⟨_, rfl, by split <;> omega, by split <;> omega⟩
  have HRR := Lib.hid hR
  have HC := Lib.hid hC
  have HCL := Lib.hid hCl
  have HFL : Hid (∀ k, (C.take k).flatten.length ≤ 1073741824) := Lib.hid (fun k => Nat.le_trans (flat_le C k) hfl)
  clear hC hR hCl hfl
  have k1 := Tryv.call11
  have k2 := Tryv.call13
  have k3 := Tryv.call8
  have k4 := Tryv.call15
  have k6 := Tryv.call14
  have k8 := Tryv.call16
  have k9 := Tryv.call17
  have k10 := Tryv.call10
  have k11 := Tryv.call18
  go_enter Tryv.func4, Try.ntmps4
  go_wp2_with (first
    | (go_at_call 11; refine speaks_any.mono ?_; rintro e w1 ⟨rfl, hc1⟩; have HC1 := Lib.hid hc1; clear hc1)
    | (go_at_call 13; first
        | (refine (newb_nn (n := 3) (by decide) _).mono ?_; rintro e w3 ⟨go, rfl, hbo⟩; have HBO := Lib.hid hbo; clear hbo)
        | (refine (newb_N room _).mono ?_; rw [HRR.out]; rintro e w2 ⟨gb, rfl, hbb⟩; have HBB := Lib.hid hbb; clear hbb))
    | (go_at_call 14; refine (rnewb_N _ _).mono ?_; rw [HRR.out]; rintro e w4 ⟨gm, rfl, hbm, hc4, hgm⟩; obtain ⟨L0, hbs0⟩ := BS.new HBB.out HBO.out hbm hc4 hgm; have HBS0 := Lib.hid hbs0; clear hbm hc4 hgm hbs0))
  go_loopw [9, 10, 11, 12, 13, 14, 30] (fun _ _ _ _ _ _ i wr => ∃ (k : Nat) (L : List Nat) (zs : List Int) (cnt : Int), k ≤ n ∧ i = .int .i64 k ∧ BS L w1 wr gb go gm R zs cnt k zs cnt ∧ zs.length ≤ (C.take k).flatten.length ∧ 0 ≤ cnt ∧ cnt ≤ k) (fun _ _ _ _ _ _ i _ => n - (intOf i).toNat)
  case atStart => exact ⟨0, L0, [], 0, Nat.zero_le _, rfl, HBS0.out, Nat.zero_le _, Int.le_refl _, Int.le_refl _⟩
  case round =>
    obtain ⟨k, L, zs, cnt, hk, rfl, hbs, hzl, hc0, hc1⟩ := hrel
    have HB := Lib.hid hbs
    have HZL := Lib.hid hzl
    clear hbs hzl
    by_cases hlt : k < n
    · obtain ⟨p, hp⟩ : ∃ p, C[k]? = some p := ⟨_, List.getElem?_eq_getElem (by rw [HCL.out]; exact hlt)⟩
      obtain ⟨ad, B, cB, rfl, hcell, hrB, hltB, hpl⟩ := (HC.out.chg (HC1.out.trans0 HB.out.ch)) k p hp
      have HRB := Lib.hid hrB
      have HLB : Hid (0 < p.length → ∀ j ∈ bo B, j < w1.heap.size) := Lib.hid (fun h0 j hj => Nat.lt_of_lt_of_le (hltB h0 j hj) HC1.out.size)
      obtain ⟨x, z', c', htk⟩ : ∃ x z' c', tk R zs cnt p = (x, z', c') := ⟨_, _, _, rfl⟩
      have htl := tk_len htk
      have HTK := Lib.hid htk
      have HTL := Lib.hid htl
      have hfs := flat_snoc C k p hp
      have hz1 : zs.length ≤ 1073741824 := Nat.le_trans HZL.out (HFL.out k)
      have hz2 : z'.length ≤ (C.take (k + 1)).flatten.length := by rw [hfs, List.length_append]; have := HZL.out; omega
      have HZ2 := Lib.hid hz2
      have hz3 : z'.length ≤ 1073741824 := Nat.le_trans hz2 (HFL.out (k + 1))
      have hxx : (x != x) = false := by simp
      clear hp hrB hltB htk htl hfs hz2
      go_wp2_with (first
        | (go_at_call 8; refine (copy_any B p.length cB p _ hpl HRB.out).mono ?_; rintro e w5 ⟨A5, c5, rfl, hown5, hc5, hn5⟩; have HO5 := Lib.hid hown5; have HB5 := Lib.hid (HB.out.chg0 hc5); have HC5 := Lib.hid hc5; have HN5 := Lib.hid hn5; clear hown5 hc5 hn5)
        | (go_at_call 15; refine (HB5.out.tkB HTK.out HO5.out.rd hR0 hR1 hz1 hpl hc0 (by omega)).mono ?_; rintro e w6 ⟨L6, rfl, hb6, hc6, hn6⟩; have HB6 := Lib.hid hb6; have HC6 := Lib.hid hc6; have HN6 := Lib.hid hn6; clear hb6 hc6 hn6)
        | (go_at_call 16; refine (HB6.out.tkM HTK.out ((HRB.out.chg HC5.out (by simp)).chgE HC6.out (fun h0 j hj hm => by have := HLB.out h0 j hj; have := HB5.out.ge j hm; omega)) (fun h0 j hj hm => by have := HLB.out h0 j hj; have := HB6.out.ge j hm; omega) hR0 hR1 hz1 hpl hc0 (by omega)).mono ?_; rintro e w7 ⟨L7, rfl, hb7, hc7, hn7⟩; have HB7 := Lib.hid hb7; have HC7 := Lib.hid hc7; have HN7 := Lib.hid hn7; have HO7 := Lib.hid ((HO5.out.chg HC6.out (fun j hj hm => by have h1 := HN5.out j hj; have h2 := HB.out.lt j hm; omega)).chg hc7 (fun j hj hm => by have h1 := HN5.out j hj; have h2 := HO5.out.lt j hj; rcases HN6.out j hm with h3 | h3; (have h4 := HB.out.lt j h3; omega); omega)); have HX7 : Hid (∀ j ∈ bo A5, j ∉ L7) := Lib.hid (fun j hj hm => by have h1 := HN5.out j hj; have h2 := HO5.out.lt j hj; have h0 := HC6.out.size; rcases hn7 j hm with h3 | h3; (rcases HN6.out j h3 with h5 | h5; (have h4 := HB.out.lt j h5; omega); omega); omega); have HR7 := Lib.hid (((HRB.out.chg HC5.out (by simp)).chgE HC6.out (fun h0 j hj hm => by have := HLB.out h0 j hj; have := HB5.out.ge j hm; omega)).chgE hc7 (fun h0 j hj hm => by have := HLB.out h0 j hj; have := HB6.out.ge j hm; omega)); clear hb7 hc7 hn7)
        | (go_at_call 10; refine (same_any (xs := p) (ys := p) HO7.out.rd HR7.out).mono ?_; rintro e w8 ⟨rfl, rfl⟩; rw [beq_self_eq_true]))
      have hq0 := HB7.out
      have HQ0 := Lib.hid hq0
      clear hq0
      go_loopw [12, 52] (fun _ i w9 => ∃ (q : Nat) (ys : List Value), q ≤ p.length ∧ i = .int .i64 q ∧ Own w9 5 1 A5 p.length c5 ys ∧ BS L7 w1 w9 gb go gm R z' c' k z' c') (fun _ i _ => p.length - (intOf i).toNat)
      case atStart => exact ⟨0, _, Nat.zero_le _, rfl, HO7.out, HQ0.out⟩
      case round =>
        obtain ⟨q, ys, hq, rfl, hoq, hbq⟩ := hrel
        have HBQ := Lib.hid hbq
        by_cases hqlt : q < p.length
        · obtain ⟨ad5, u, rfl, hx, hcx, hfz, hset⟩ := hoq.at1 hqlt
          have HS := Lib.hid hset
          clear hx hset hoq hbq
          go_wp2
          go_roundw
          case rel => exact ⟨q + 1, _, by omega, by go_num, HS.out _, HBQ.out.chg (M := [ad5.block]) ((Chg.refl _ _).setCell (by rw [add_block]; simp) _) (fun j hj hm => by simp at hm; subst hm; exact HX7.out ad5.block (by simp) hj) (fun j hm => by simp at hm; subst hm; have h1 := HN5.out ad5.block (by simp); have h2 := HB.out.ch.size; omega)⟩
          case measure => simp [intOf]; omega
        · clear hoq hbq
          go_wp2_with (first
            | (go_at_call 15; refine ((HBQ.out.chg0 ((Chg.refl [] _).alloc _)).takeO (Own.lit _ 5 1 #[.int .u8 9] 1 (by decide) rfl).rd).mono ?_; rintro e wy ⟨xo, L8, rfl, hb8, hc8, hn8⟩; have HB8 := Lib.hid hb8; clear hb8 hc8 hn8)
            | (go_at_call 17; refine (bytes_bktN HB8.out.bktB hz3).mono ?_; rintro e wx ⟨A9, c9, rfl, hown9, hc9, hn9⟩; have HOX := Lib.hid hown9; have HBX := Lib.hid (HB8.out.chg0 hc9); have HX9 : Hid (∀ j ∈ bo A9, j ∉ L8 ∧ w1.heap.size ≤ j) := Lib.hid (fun j hj => ⟨fun hm => by have h1 := hn9 j hj; have h2 := HB8.out.lt j hm; omega, by have h1 := hn9 j hj; have h2 := HB8.out.ch.size; omega⟩); obtain ⟨Am, tm, nm, cm, hbkm, hownm, hgm, rfl⟩ := HBX.out.bktM; have m1 := hbkm.cell 1; have m2 := hbkm.cell 2; simp at m1 m2; have HOM := Lib.hid hownm; clear hown9 hc9 hn9 hbkm hownm hgm))
          refine wp_region_held_drew (S := fun w' => Chg [] wx w') (by kernel_rfl) ((Chg.refl _ _).drew) (fun hHeld => ?_)
          refine wpAnyH_take (i := 0) (v := ?_) rfl (by kernel_rfl) (by kernel_rfl) (by kernel_rfl) (fun _ _ _ h => h) (Or.inl ⟨by rfl, ?_⟩) (by assumption) ?_
          rotate_left
          · (intro w' hSw; go_simp; try with_reducible rfl)
          try simp only [Act.put, List.getElem_toArray, List.getElem_cons_zero, List.setIfInBounds_toArray, List.set_cons_zero, List.set_cons_succ]
          refine wpAnyH_take (i := 1) (v := ?_) rfl (by kernel_rfl) (by kernel_rfl) (by kernel_rfl) (fun _ _ _ h => h) (Or.inl ⟨by rfl, ?_⟩) (by assumption) ?_
          rotate_left
          · (intro w' hSw; go_simp; try with_reducible rfl)
          try simp only [Act.put, List.getElem_toArray, List.getElem_cons_zero, List.getElem_cons_succ, List.setIfInBounds_toArray, List.set_cons_zero, List.set_cons_succ]
          refine wpAnyH_take (i := 2) (v := ?_) rfl (by kernel_rfl) (by kernel_rfl) (by kernel_rfl) (fun _ _ _ h => h) (Or.inl ⟨by rfl, ?_⟩) (by assumption) ?_
          rotate_left
          · (intro w' hSw; go_simp; try with_reducible rfl)
          try simp only [Act.put, List.getElem_toArray, List.getElem_cons_zero, List.getElem_cons_succ, List.setIfInBounds_toArray, List.set_cons_zero, List.set_cons_succ]
          refine wpAnyH_take (i := 3) (v := ?_) rfl (by kernel_rfl) (by kernel_rfl) (by kernel_rfl) (fun _ _ _ h => h) (Or.inl ⟨by rfl, ?_⟩) (by assumption) ?_
          rotate_left
          · (intro w' hSw; go_simp; try with_reducible rfl)
          try simp only [Act.put, List.getElem_toArray, List.getElem_cons_zero, List.getElem_cons_succ, List.setIfInBounds_toArray, List.set_cons_zero, List.set_cons_succ]
          refine wpAnyH_take (i := 4) (v := ?_) rfl (by kernel_rfl) (by kernel_rfl) (by kernel_rfl) (fun _ _ _ h => h) (Or.inl ⟨by rfl, ?_⟩) (by assumption) ?_
          rotate_left
          · (intro w' hSw; have q := hSw.cell m2 (fun h => List.not_mem_nil h); go_simp; try with_reducible rfl)
          try simp only [Act.put, List.getElem_toArray, List.getElem_cons_zero, List.getElem_cons_succ, List.setIfInBounds_toArray, List.set_cons_zero, List.set_cons_succ]
          refine wpAnyH_ready (rs := [5]) (by kernel_rfl) (by simp) ?_
          refine AllReadyH.cons rfl (fun K hK => ?_) (AllReadyH.nil)
          go_simp
          refine (same_any (xs := z') (ys := z') (HOX.out.rd.chg hHeld (by simp)) (HOM.out.rd.chg hHeld (by simp))).mono ?_
          rintro e w20 ⟨rfl, rfl⟩
          rw [beq_self_eq_true]
          refine hK.out _ _ (hHeld) (fun hHeld => ?_)
          try simp only [Act.put, List.getElem_toArray, List.getElem_cons_zero, List.getElem_cons_succ, List.setIfInBounds_toArray, List.set_cons_zero, List.set_cons_succ]
          clear hK K
          refine wpAnyH_take (i := 6) (v := ?_) rfl (by kernel_rfl) (by kernel_rfl) (by kernel_rfl) (fun _ _ _ h => h) (Or.inl ⟨by rfl, ?_⟩) (by assumption) ?_
          rotate_left
          · (intro w' hSw; go_simp; try with_reducible rfl)
          try simp only [Act.put, List.getElem_toArray, List.getElem_cons_zero, List.getElem_cons_succ, List.setIfInBounds_toArray, List.set_cons_zero, List.set_cons_succ]
          refine wpAnyH_take (i := 7) (v := ?_) rfl (by kernel_rfl) (by kernel_rfl) (by kernel_rfl) (fun _ _ _ h => h) (Or.inl ⟨by rfl, ?_⟩) (by assumption) ?_
          rotate_left
          · (intro w' hSw; go_simp; try with_reducible rfl)
          try simp only [Act.put, List.getElem_toArray, List.getElem_cons_zero, List.getElem_cons_succ, List.setIfInBounds_toArray, List.set_cons_zero, List.set_cons_succ]
          refine wpAnyH_take (i := 8) (v := ?_) rfl (by kernel_rfl) (by kernel_rfl) (by kernel_rfl) (fun _ _ _ h => h) (Or.inl ⟨by rfl, ?_⟩) (by assumption) ?_
          rotate_left
          · (intro w' hSw; go_simp; try with_reducible rfl)
          try simp only [Act.put, List.getElem_toArray, List.getElem_cons_zero, List.getElem_cons_succ, List.setIfInBounds_toArray, List.set_cons_zero, List.set_cons_succ]
          refine wpAnyH_take (i := 10) (v := ?_) rfl (by kernel_rfl) (by kernel_rfl) (by kernel_rfl) (fun _ _ _ h => h) (Or.inl ⟨by rfl, ?_⟩) (by assumption) ?_
          rotate_left
          · (intro w' hSw; go_simp; try with_reducible rfl)
          try simp only [Act.put, List.getElem_toArray, List.getElem_cons_zero, List.getElem_cons_succ, List.setIfInBounds_toArray, List.set_cons_zero, List.set_cons_succ]
          refine wpAnyH_take (i := 11) (v := ?_) rfl (by kernel_rfl) (by kernel_rfl) (by kernel_rfl) (fun _ _ _ h => h) (Or.inl ⟨by rfl, ?_⟩) (by assumption) ?_
          rotate_left
          · (intro w' hSw; go_simp; try with_reducible rfl)
          try simp only [Act.put, List.getElem_toArray, List.getElem_cons_zero, List.getElem_cons_succ, List.setIfInBounds_toArray, List.set_cons_zero, List.set_cons_succ]
          refine wpAnyH_take (i := 12) (v := ?_) rfl (by kernel_rfl) (by kernel_rfl) (by kernel_rfl) (fun _ _ _ h => h) (Or.inl ⟨by rfl, ?_⟩) (by assumption) ?_
          rotate_left
          · (intro w' hSw; go_simp; try with_reducible rfl)
          try simp only [Act.put, List.getElem_toArray, List.getElem_cons_zero, List.getElem_cons_succ, List.setIfInBounds_toArray, List.set_cons_zero, List.set_cons_succ]
          refine wpAnyH_take (i := 13) (v := ?_) rfl (by kernel_rfl) (by kernel_rfl) (by kernel_rfl) (fun _ _ _ h => h) (Or.inl ⟨by rfl, ?_⟩) (by assumption) ?_
          rotate_left
          · (intro w' hSw; have q := hSw.cell m1 (fun h => List.not_mem_nil h); go_simp; try with_reducible rfl)
          try simp only [Act.put, List.getElem_toArray, List.getElem_cons_zero, List.getElem_cons_succ, List.setIfInBounds_toArray, List.set_cons_zero, List.set_cons_succ]
          refine wpAnyH_ready (rs := [9]) (by kernel_rfl) (by simp) ?_
          refine AllReadyH.cons rfl (fun K hK => ?_) (AllReadyH.nil)
          go_simp
          refine (count_bktN (HBX.out.bktB.chg hHeld)).mono ?_
          rintro e w21 ⟨rfl, rfl⟩
          have H21 := Lib.hid hHeld
          refine hK.out _ _ (hHeld) (fun hHeld => ?_)
          try simp only [Act.put, List.getElem_toArray, List.getElem_cons_zero, List.getElem_cons_succ, List.setIfInBounds_toArray, List.set_cons_zero, List.set_cons_succ]
          clear hK K
          refine wpAnyH_take (i := 14) (v := ?_) rfl (by kernel_rfl) (by kernel_rfl) (by kernel_rfl) (fun _ _ _ h => h) (Or.inl ⟨by rfl, ?_⟩) (by assumption) ?_
          rotate_left
          · (intro w' hSw; go_simp; try with_reducible rfl)
          try simp only [Act.put, List.getElem_toArray, List.getElem_cons_zero, List.getElem_cons_succ, List.setIfInBounds_toArray, List.set_cons_zero, List.set_cons_succ]
          refine wpAnyH_take (i := 15) (v := ?_) rfl (by kernel_rfl) (by kernel_rfl) (by kernel_rfl) (fun _ _ _ h => h) (Or.inl ⟨by rfl, ?_⟩) (by assumption) ?_
          rotate_left
          · (intro w' hSw; go_simp; try with_reducible rfl)
          try simp only [Act.put, List.getElem_toArray, List.getElem_cons_zero, List.getElem_cons_succ, List.setIfInBounds_toArray, List.set_cons_zero, List.set_cons_succ]
          refine wpAnyH_done (by kernel_rfl) ?_ _
          try simp only [Act.put, List.getElem_toArray, List.getElem_cons_zero, List.getElem_cons_succ, List.setIfInBounds_toArray, List.set_cons_zero, List.set_cons_succ]
          have HBY := Lib.hid (HBX.out.chg0 H21.out)
          have HOY := Lib.hid (HOX.out.chg H21.out (by simp))
          clear m1 m2
          go_wp2_with fail
          go_loopw [14, 82] (fun _ i w9 => ∃ (q : Nat) (ys : List Value), q ≤ z'.length ∧ i = .int .i64 q ∧ Own w9 5 1 A9 z'.length c9 ys ∧ BS L8 w1 w9 gb go gm R z' c' (k + 1) z' c') (fun _ i _ => z'.length - (intOf i).toNat)
          case atStart => exact ⟨0, _, Nat.zero_le _, rfl, HOY.out, HBY.out⟩
          case round =>
            obtain ⟨q, ys, hq, rfl, hoq, hbq⟩ := hrel
            have HBQ := Lib.hid hbq
            by_cases hqlt : q < z'.length
            · obtain ⟨ad9, u, rfl, hx, hcx, hfz, hset⟩ := hoq.at1 hqlt
              have HS := Lib.hid hset
              clear hx hset hoq hbq
              go_wp2
              go_roundw
              case rel => exact ⟨q + 1, _, by omega, by go_num, HS.out _, HBQ.out.chg (M := [ad9.block]) ((Chg.refl _ _).setCell (by rw [add_block]; simp) _) (fun j hj hm => by simp at hm; subst hm; exact (HX9.out ad9.block (by simp)).1 hj) (fun j hm => by simp at hm; subst hm; exact (HX9.out ad9.block (by simp)).2)⟩
              case measure => simp [intOf]; omega
            · clear hoq hbq
              go_wp2_with fail
              go_roundw
              case rel => exact ⟨k + 1, L8, z', c', hlt, by go_num, HBQ.out, HZ2.out, by have := HTL.out; omega, by have := HTL.out; omega⟩
              case measure => simp [intOf]; omega
    · have hkn : k = n := by omega
      obtain ⟨mm, hmm⟩ : ∃ mm, min 3 k = mm := ⟨_, rfl⟩
      have hmi : (if (n : Int) < 3 then (n : Int) else 3) = (mm : Int) := by split <;> omega
      have hmm3 : mm ≤ 1073741824 := by omega
      have HBO2 : Hid (BktN w1 wr go 3 (List.replicate mm 9) (mm : Int)) := Lib.hid (by have := HB.out.bktO; rwa [hmm] at this)
      clear hmm
      have HZ : Hid (zs.length ≤ 1073741824) := Lib.hid (Nat.le_trans HZL.out (HFL.out k))
      obtain ⟨Am, tm, nm, cm, hbkm, hownm, hgm, rfl⟩ := HB.out.bktM
      have m2 := hbkm.cell 2
      simp at m2
      have HOM := Lib.hid hownm
      clear hbkm hownm hgm
      go_wp2_with fail
      refine wp_region_held_drew (S := fun w' => Chg [] wr w') (by kernel_rfl) ((Chg.refl _ _).drew) (fun hHeld => ?_)
      refine wpAnyH_take (i := 0) (v := ?_) rfl (by kernel_rfl) (by kernel_rfl) (by kernel_rfl) (fun _ _ _ h => h) (Or.inl ⟨by rfl, ?_⟩) (by assumption) ?_
      rotate_left
      · (intro w' hSw; go_simp; try with_reducible rfl)
      try simp only [Act.put, List.getElem_toArray, List.getElem_cons_zero, List.setIfInBounds_toArray, List.set_cons_zero, List.set_cons_succ]
      refine wpAnyH_take (i := 2) (v := ?_) rfl (by kernel_rfl) (by kernel_rfl) (by kernel_rfl) (fun _ _ _ h => h) (Or.inl ⟨by rfl, ?_⟩) (by assumption) ?_
      rotate_left
      · (intro w' hSw; go_simp; try with_reducible rfl)
      try simp only [Act.put, List.getElem_toArray, List.getElem_cons_zero, List.getElem_cons_succ, List.setIfInBounds_toArray, List.set_cons_zero, List.set_cons_succ]
      refine wpAnyH_take (i := 3) (v := ?_) rfl (by kernel_rfl) (by kernel_rfl) (by kernel_rfl) (fun _ _ _ h => h) (Or.inl ⟨by rfl, ?_⟩) (by assumption) ?_
      rotate_left
      · (intro w' hSw; go_simp; try with_reducible rfl)
      try simp only [Act.put, List.getElem_toArray, List.getElem_cons_zero, List.getElem_cons_succ, List.setIfInBounds_toArray, List.set_cons_zero, List.set_cons_succ]
      refine wpAnyH_take (i := 4) (v := ?_) rfl (by kernel_rfl) (by kernel_rfl) (by kernel_rfl) (fun _ _ _ h => h) (Or.inl ⟨by rfl, ?_⟩) (by assumption) ?_
      rotate_left
      · (intro w' hSw; go_simp; try with_reducible rfl)
      try simp only [Act.put, List.getElem_toArray, List.getElem_cons_zero, List.getElem_cons_succ, List.setIfInBounds_toArray, List.set_cons_zero, List.set_cons_succ]
      refine wpAnyH_take (i := 5) (v := ?_) rfl (by kernel_rfl) (by kernel_rfl) (by kernel_rfl) (fun _ _ _ h => h) (Or.inl ⟨by rfl, ?_⟩) (by assumption) ?_
      rotate_left
      · (intro w' hSw; have q := hSw.cell m2 (fun h => List.not_mem_nil h); go_simp; try with_reducible rfl)
      try simp only [Act.put, List.getElem_toArray, List.getElem_cons_zero, List.getElem_cons_succ, List.setIfInBounds_toArray, List.set_cons_zero, List.set_cons_succ]
      refine wpAnyH_ready (rs := [1]) (by kernel_rfl) (by simp) ?_
      refine AllReadyH.cons rfl (fun K hK => ?_) (AllReadyH.nil)
      go_simp
      refine (bytes_bktN (HB.out.bktB.chg hHeld) HZ.out).mono ?_
      rintro e w30 ⟨A30, c30, rfl, hown30, hchg30, hnew30⟩
      have HO30 := Lib.hid hown30
      have H30 := Lib.hid (hHeld.trans0 hchg30)
      clear hown30 hchg30 hnew30
      refine hK.out _ _ (H30.out) (fun hHeld => ?_)
      try simp only [Act.put, List.getElem_toArray, List.getElem_cons_zero, List.getElem_cons_succ, List.setIfInBounds_toArray, List.set_cons_zero, List.set_cons_succ]
      clear hK K
      refine wpAnyH_ready (rs := [6]) (by kernel_rfl) (by simp) ?_
      refine AllReadyH.cons rfl (fun K hK => ?_) (AllReadyH.nil)
      go_simp
      refine (same_any (xs := zs) (ys := zs) HO30.out.rd (HOM.out.rd.chg hHeld (by simp))).mono ?_
      rintro e w31 ⟨rfl, rfl⟩
      rw [beq_self_eq_true]
      refine hK.out _ _ (hHeld) (fun hHeld => ?_)
      try simp only [Act.put, List.getElem_toArray, List.getElem_cons_zero, List.getElem_cons_succ, List.setIfInBounds_toArray, List.set_cons_zero, List.set_cons_succ]
      clear hK K
      refine wpAnyH_take (i := 7) (v := ?_) rfl (by kernel_rfl) (by kernel_rfl) (by kernel_rfl) (fun _ _ _ h => h) (Or.inl ⟨by rfl, ?_⟩) (by assumption) ?_
      rotate_left
      · (intro w' hSw; go_simp; try with_reducible rfl)
      try simp only [Act.put, List.getElem_toArray, List.getElem_cons_zero, List.getElem_cons_succ, List.setIfInBounds_toArray, List.set_cons_zero, List.set_cons_succ]
      refine wpAnyH_take (i := 8) (v := ?_) rfl (by kernel_rfl) (by kernel_rfl) (by kernel_rfl) (fun _ _ _ h => h) (Or.inl ⟨by rfl, ?_⟩) (by assumption) ?_
      rotate_left
      · (intro w' hSw; go_simp; try with_reducible rfl)
      try simp only [Act.put, List.getElem_toArray, List.getElem_cons_zero, List.getElem_cons_succ, List.setIfInBounds_toArray, List.set_cons_zero, List.set_cons_succ]
      refine wpAnyH_take (i := 11) (v := ?_) rfl (by kernel_rfl) (by kernel_rfl) (by kernel_rfl) (fun _ _ _ h => h) (Or.inl ⟨by rfl, ?_⟩) (by assumption) ?_
      rotate_left
      · (intro w' hSw; go_simp; try with_reducible rfl)
      try simp only [Act.put, List.getElem_toArray, List.getElem_cons_zero, List.getElem_cons_succ, List.setIfInBounds_toArray, List.set_cons_zero, List.set_cons_succ]
      refine wpAnyH_take (i := 12) (v := ?_) rfl (by kernel_rfl) (by kernel_rfl) (by kernel_rfl) (fun _ _ _ h => h) (Or.inl ⟨by rfl, ?_⟩) (by assumption) ?_
      rotate_left
      · (intro w' hSw; go_simp; try with_reducible rfl)
      try simp only [Act.put, List.getElem_toArray, List.getElem_cons_zero, List.getElem_cons_succ, List.setIfInBounds_toArray, List.set_cons_zero, List.set_cons_succ]
      refine wpAnyH_ready (rs := [9, 13]) (by kernel_rfl) (by simp) ?_
      refine AllReadyH.cons rfl (fun K hK => ?_) (AllReadyH.cons rfl (fun K hK => ?_) (AllReadyH.nil))
      · go_simp
        refine (bytes_bktN (HBO2.out.chg hHeld) (by rw [List.length_replicate]; exact hmm3)).mono ?_
        rw [List.length_replicate]
        rintro e w32 ⟨A32, c32, rfl, hown32, hchg32, hnew32⟩
        have H32 := Lib.hid (hHeld.trans0 hchg32)
        clear hown32 hchg32 hnew32
        refine hK.out _ _ (H32.out) (fun hHeld => ?_)
        try simp only [Act.put, List.getElem_toArray, List.getElem_cons_zero, List.getElem_cons_succ, List.setIfInBounds_toArray, List.set_cons_zero, List.set_cons_succ]
        clear hK K
        refine wpAnyH_take (i := 10) (v := ?_) rfl (by kernel_rfl) (by kernel_rfl) (by kernel_rfl) (fun _ _ _ h => h) (Or.inl ⟨by rfl, ?_⟩) (by assumption) ?_
        rotate_left
        · (intro w' hSw; go_simp; try with_reducible rfl)
        try simp only [Act.put, List.getElem_toArray, List.getElem_cons_zero, List.getElem_cons_succ, List.setIfInBounds_toArray, List.set_cons_zero, List.set_cons_succ]
        refine wpAnyH_ready (rs := [13]) (by kernel_rfl) (by simp) ?_
        refine AllReadyH.cons rfl (fun K hK => ?_) (AllReadyH.nil)
        go_simp
        refine hK.out _ _ (hHeld) (fun hHeld => ?_)
        try simp only [Act.put, List.getElem_toArray, List.getElem_cons_zero, List.getElem_cons_succ, List.setIfInBounds_toArray, List.set_cons_zero, List.set_cons_succ]
        clear hK K
        refine wpAnyH_take (i := 14) (v := ?_) rfl (by kernel_rfl) (by kernel_rfl) (by kernel_rfl) (fun _ _ _ h => h) (Or.inl ⟨by rfl, ?_⟩) (by assumption) ?_
        rotate_left
        · (intro w' hSw; go_simp; try with_reducible rfl)
        try simp only [Act.put, List.getElem_toArray, List.getElem_cons_zero, List.getElem_cons_succ, List.setIfInBounds_toArray, List.set_cons_zero, List.set_cons_succ]
        refine wpAnyH_take (i := 15) (v := ?_) rfl (by kernel_rfl) (by kernel_rfl) (by kernel_rfl) (fun _ _ _ h => h) (Or.inl ⟨by rfl, ?_⟩) (by assumption) ?_
        rotate_left
        · (intro w' hSw; go_simp; try with_reducible rfl)
        try simp only [Act.put, List.getElem_toArray, List.getElem_cons_zero, List.getElem_cons_succ, List.setIfInBounds_toArray, List.set_cons_zero, List.set_cons_succ]
        refine wpAnyH_take (i := 16) (v := ?_) rfl (by kernel_rfl) (by kernel_rfl) (by kernel_rfl) (fun _ _ _ h => h) (Or.inl ⟨by rfl, ?_⟩) (by assumption) ?_
        rotate_left
        · (intro w' hSw; go_simp; try with_reducible rfl)
        try simp only [Act.put, List.getElem_toArray, List.getElem_cons_zero, List.getElem_cons_succ, List.setIfInBounds_toArray, List.set_cons_zero, List.set_cons_succ]
        refine wpAnyH_take (i := 17) (v := ?_) rfl (by kernel_rfl) (by kernel_rfl) (by kernel_rfl) (fun _ _ _ h => h) (Or.inl ⟨by rfl, ?_⟩) (by assumption) ?_
        rotate_left
        · (intro w' hSw; go_simp; try with_reducible rfl)
        try simp only [Act.put, List.getElem_toArray, List.getElem_cons_zero, List.getElem_cons_succ, List.setIfInBounds_toArray, List.set_cons_zero, List.set_cons_succ]
        refine wpAnyH_take (i := 19) (v := ?_) rfl (by kernel_rfl) (by kernel_rfl) (by kernel_rfl) (fun _ _ _ h => h) (Or.inl ⟨by rfl, ?_⟩) (by assumption) ?_
        rotate_left
        · (intro w' hSw; go_simp; try with_reducible rfl)
        try simp only [Act.put, List.getElem_toArray, List.getElem_cons_zero, List.getElem_cons_succ, List.setIfInBounds_toArray, List.set_cons_zero, List.set_cons_succ]
        refine wpAnyH_take (i := 20) (v := ?_) rfl (by kernel_rfl) (by kernel_rfl) (by kernel_rfl) (fun _ _ _ h => h) (Or.inl ⟨by rfl, ?_⟩) (by assumption) ?_
        rotate_left
        · (intro w' hSw; go_simp; try with_reducible rfl)
        try simp only [Act.put, List.getElem_toArray, List.getElem_cons_zero, List.getElem_cons_succ, List.setIfInBounds_toArray, List.set_cons_zero, List.set_cons_succ]
        refine wpAnyH_ready (rs := [18, 21]) (by kernel_rfl) (by simp) ?_
        refine AllReadyH.cons rfl (fun K hK => ?_) (AllReadyH.cons rfl (fun K hK => ?_) (AllReadyH.nil))
        · go_simp
          refine (count_bktN (HBO2.out.chg hHeld)).mono ?_
          rintro e w33 ⟨rfl, rfl⟩
          refine hK.out _ _ (hHeld) (fun hHeld => ?_)
          try simp only [Act.put, List.getElem_toArray, List.getElem_cons_zero, List.getElem_cons_succ, List.setIfInBounds_toArray, List.set_cons_zero, List.set_cons_succ]
          clear hK K
          refine wpAnyH_ready (rs := [21]) (by kernel_rfl) (by simp) ?_
          refine AllReadyH.cons rfl (fun K hK => ?_) (AllReadyH.nil)
          go_simp
          refine hK.out _ _ (hHeld) (fun hHeld => ?_)
          try simp only [Act.put, List.getElem_toArray, List.getElem_cons_zero, List.getElem_cons_succ, List.setIfInBounds_toArray, List.set_cons_zero, List.set_cons_succ]
          clear hK K
          refine wpAnyH_take (i := 22) (v := ?_) rfl (by kernel_rfl) (by kernel_rfl) (by kernel_rfl) (fun _ _ _ h => h) (Or.inl ⟨by rfl, ?_⟩) (by assumption) ?_
          rotate_left
          · (intro w' hSw; go_simp; try with_reducible rfl)
          try simp only [Act.put, List.getElem_toArray, List.getElem_cons_zero, List.getElem_cons_succ, List.setIfInBounds_toArray, List.set_cons_zero, List.set_cons_succ]
          refine wpAnyH_take (i := 23) (v := ?_) rfl (by kernel_rfl) (by kernel_rfl) (by kernel_rfl) (fun _ _ _ h => h) (Or.inl ⟨by rfl, ?_⟩) (by assumption) ?_
          rotate_left
          · (intro w' hSw; go_simp; try with_reducible rfl)
          try simp only [Act.put, List.getElem_toArray, List.getElem_cons_zero, List.getElem_cons_succ, List.setIfInBounds_toArray, List.set_cons_zero, List.set_cons_succ]
          refine wpAnyH_take (i := 24) (v := ?_) rfl (by kernel_rfl) (by kernel_rfl) (by kernel_rfl) (fun _ _ _ h => h) (Or.inl ⟨by rfl, ?_⟩) (by assumption) ?_
          rotate_left
          · (intro w' hSw; go_simp; try with_reducible rfl)
          try simp only [Act.put, List.getElem_toArray, List.getElem_cons_zero, List.getElem_cons_succ, List.setIfInBounds_toArray, List.set_cons_zero, List.set_cons_succ]
          refine wpAnyH_done (by kernel_rfl) ?_ _
          try simp only [Act.put, List.getElem_toArray, List.getElem_cons_zero, List.getElem_cons_succ, List.setIfInBounds_toArray, List.set_cons_zero, List.set_cons_succ]
          go_wp2
          go_ret
          exact ⟨rfl, HC1.out.trans0 (HB.out.ch.trans0 H32.out)⟩
        · go_simp
          refine hK.out _ _ (hHeld) (fun hHeld => ?_)
          try simp only [Act.put, List.getElem_toArray, List.getElem_cons_zero, List.getElem_cons_succ, List.setIfInBounds_toArray, List.set_cons_zero, List.set_cons_succ]
          clear hK K
          refine wpAnyH_ready (rs := [18]) (by kernel_rfl) (by simp) ?_
          refine AllReadyH.cons rfl (fun K hK => ?_) (AllReadyH.nil)
          go_simp
          refine (count_bktN (HBO2.out.chg hHeld)).mono ?_
          rintro e w33 ⟨rfl, rfl⟩
          refine hK.out _ _ (hHeld) (fun hHeld => ?_)
          try simp only [Act.put, List.getElem_toArray, List.getElem_cons_zero, List.getElem_cons_succ, List.setIfInBounds_toArray, List.set_cons_zero, List.set_cons_succ]
          clear hK K
          refine wpAnyH_take (i := 22) (v := ?_) rfl (by kernel_rfl) (by kernel_rfl) (by kernel_rfl) (fun _ _ _ h => h) (Or.inl ⟨by rfl, ?_⟩) (by assumption) ?_
          rotate_left
          · (intro w' hSw; go_simp; try with_reducible rfl)
          try simp only [Act.put, List.getElem_toArray, List.getElem_cons_zero, List.getElem_cons_succ, List.setIfInBounds_toArray, List.set_cons_zero, List.set_cons_succ]
          refine wpAnyH_take (i := 23) (v := ?_) rfl (by kernel_rfl) (by kernel_rfl) (by kernel_rfl) (fun _ _ _ h => h) (Or.inl ⟨by rfl, ?_⟩) (by assumption) ?_
          rotate_left
          · (intro w' hSw; go_simp; try with_reducible rfl)
          try simp only [Act.put, List.getElem_toArray, List.getElem_cons_zero, List.getElem_cons_succ, List.setIfInBounds_toArray, List.set_cons_zero, List.set_cons_succ]
          refine wpAnyH_take (i := 24) (v := ?_) rfl (by kernel_rfl) (by kernel_rfl) (by kernel_rfl) (fun _ _ _ h => h) (Or.inl ⟨by rfl, ?_⟩) (by assumption) ?_
          rotate_left
          · (intro w' hSw; go_simp; try with_reducible rfl)
          try simp only [Act.put, List.getElem_toArray, List.getElem_cons_zero, List.getElem_cons_succ, List.setIfInBounds_toArray, List.set_cons_zero, List.set_cons_succ]
          refine wpAnyH_done (by kernel_rfl) ?_ _
          try simp only [Act.put, List.getElem_toArray, List.getElem_cons_zero, List.getElem_cons_succ, List.setIfInBounds_toArray, List.set_cons_zero, List.set_cons_succ]
          go_wp2
          go_ret
          exact ⟨rfl, HC1.out.trans0 (HB.out.ch.trans0 H32.out)⟩
      · go_simp
        refine hK.out _ _ (hHeld) (fun hHeld => ?_)
        try simp only [Act.put, List.getElem_toArray, List.getElem_cons_zero, List.getElem_cons_succ, List.setIfInBounds_toArray, List.set_cons_zero, List.set_cons_succ]
        clear hK K
        refine wpAnyH_ready (rs := [9]) (by kernel_rfl) (by simp) ?_
        refine AllReadyH.cons rfl (fun K hK => ?_) (AllReadyH.nil)
        go_simp
        refine (bytes_bktN (HBO2.out.chg hHeld) (by rw [List.length_replicate]; exact hmm3)).mono ?_
        rw [List.length_replicate]
        rintro e w32 ⟨A32, c32, rfl, hown32, hchg32, hnew32⟩
        have H32 := Lib.hid (hHeld.trans0 hchg32)
        clear hown32 hchg32 hnew32
        refine hK.out _ _ (H32.out) (fun hHeld => ?_)
        try simp only [Act.put, List.getElem_toArray, List.getElem_cons_zero, List.getElem_cons_succ, List.setIfInBounds_toArray, List.set_cons_zero, List.set_cons_succ]
        clear hK K
        refine wpAnyH_take (i := 10) (v := ?_) rfl (by kernel_rfl) (by kernel_rfl) (by kernel_rfl) (fun _ _ _ h => h) (Or.inl ⟨by rfl, ?_⟩) (by assumption) ?_
        rotate_left
        · (intro w' hSw; go_simp; try with_reducible rfl)
        try simp only [Act.put, List.getElem_toArray, List.getElem_cons_zero, List.getElem_cons_succ, List.setIfInBounds_toArray, List.set_cons_zero, List.set_cons_succ]
        refine wpAnyH_take (i := 14) (v := ?_) rfl (by kernel_rfl) (by kernel_rfl) (by kernel_rfl) (fun _ _ _ h => h) (Or.inl ⟨by rfl, ?_⟩) (by assumption) ?_
        rotate_left
        · (intro w' hSw; go_simp; try with_reducible rfl)
        try simp only [Act.put, List.getElem_toArray, List.getElem_cons_zero, List.getElem_cons_succ, List.setIfInBounds_toArray, List.set_cons_zero, List.set_cons_succ]
        refine wpAnyH_take (i := 15) (v := ?_) rfl (by kernel_rfl) (by kernel_rfl) (by kernel_rfl) (fun _ _ _ h => h) (Or.inl ⟨by rfl, ?_⟩) (by assumption) ?_
        rotate_left
        · (intro w' hSw; go_simp; try with_reducible rfl)
        try simp only [Act.put, List.getElem_toArray, List.getElem_cons_zero, List.getElem_cons_succ, List.setIfInBounds_toArray, List.set_cons_zero, List.set_cons_succ]
        refine wpAnyH_take (i := 16) (v := ?_) rfl (by kernel_rfl) (by kernel_rfl) (by kernel_rfl) (fun _ _ _ h => h) (Or.inl ⟨by rfl, ?_⟩) (by assumption) ?_
        rotate_left
        · (intro w' hSw; go_simp; try with_reducible rfl)
        try simp only [Act.put, List.getElem_toArray, List.getElem_cons_zero, List.getElem_cons_succ, List.setIfInBounds_toArray, List.set_cons_zero, List.set_cons_succ]
        refine wpAnyH_take (i := 17) (v := ?_) rfl (by kernel_rfl) (by kernel_rfl) (by kernel_rfl) (fun _ _ _ h => h) (Or.inl ⟨by rfl, ?_⟩) (by assumption) ?_
        rotate_left
        · (intro w' hSw; go_simp; try with_reducible rfl)
        try simp only [Act.put, List.getElem_toArray, List.getElem_cons_zero, List.getElem_cons_succ, List.setIfInBounds_toArray, List.set_cons_zero, List.set_cons_succ]
        refine wpAnyH_take (i := 19) (v := ?_) rfl (by kernel_rfl) (by kernel_rfl) (by kernel_rfl) (fun _ _ _ h => h) (Or.inl ⟨by rfl, ?_⟩) (by assumption) ?_
        rotate_left
        · (intro w' hSw; go_simp; try with_reducible rfl)
        try simp only [Act.put, List.getElem_toArray, List.getElem_cons_zero, List.getElem_cons_succ, List.setIfInBounds_toArray, List.set_cons_zero, List.set_cons_succ]
        refine wpAnyH_take (i := 20) (v := ?_) rfl (by kernel_rfl) (by kernel_rfl) (by kernel_rfl) (fun _ _ _ h => h) (Or.inl ⟨by rfl, ?_⟩) (by assumption) ?_
        rotate_left
        · (intro w' hSw; go_simp; try with_reducible rfl)
        try simp only [Act.put, List.getElem_toArray, List.getElem_cons_zero, List.getElem_cons_succ, List.setIfInBounds_toArray, List.set_cons_zero, List.set_cons_succ]
        refine wpAnyH_ready (rs := [18, 21]) (by kernel_rfl) (by simp) ?_
        refine AllReadyH.cons rfl (fun K hK => ?_) (AllReadyH.cons rfl (fun K hK => ?_) (AllReadyH.nil))
        · go_simp
          refine (count_bktN (HBO2.out.chg hHeld)).mono ?_
          rintro e w33 ⟨rfl, rfl⟩
          refine hK.out _ _ (hHeld) (fun hHeld => ?_)
          try simp only [Act.put, List.getElem_toArray, List.getElem_cons_zero, List.getElem_cons_succ, List.setIfInBounds_toArray, List.set_cons_zero, List.set_cons_succ]
          clear hK K
          refine wpAnyH_ready (rs := [21]) (by kernel_rfl) (by simp) ?_
          refine AllReadyH.cons rfl (fun K hK => ?_) (AllReadyH.nil)
          go_simp
          refine hK.out _ _ (hHeld) (fun hHeld => ?_)
          try simp only [Act.put, List.getElem_toArray, List.getElem_cons_zero, List.getElem_cons_succ, List.setIfInBounds_toArray, List.set_cons_zero, List.set_cons_succ]
          clear hK K
          refine wpAnyH_take (i := 22) (v := ?_) rfl (by kernel_rfl) (by kernel_rfl) (by kernel_rfl) (fun _ _ _ h => h) (Or.inl ⟨by rfl, ?_⟩) (by assumption) ?_
          rotate_left
          · (intro w' hSw; go_simp; try with_reducible rfl)
          try simp only [Act.put, List.getElem_toArray, List.getElem_cons_zero, List.getElem_cons_succ, List.setIfInBounds_toArray, List.set_cons_zero, List.set_cons_succ]
          refine wpAnyH_take (i := 23) (v := ?_) rfl (by kernel_rfl) (by kernel_rfl) (by kernel_rfl) (fun _ _ _ h => h) (Or.inl ⟨by rfl, ?_⟩) (by assumption) ?_
          rotate_left
          · (intro w' hSw; go_simp; try with_reducible rfl)
          try simp only [Act.put, List.getElem_toArray, List.getElem_cons_zero, List.getElem_cons_succ, List.setIfInBounds_toArray, List.set_cons_zero, List.set_cons_succ]
          refine wpAnyH_take (i := 24) (v := ?_) rfl (by kernel_rfl) (by kernel_rfl) (by kernel_rfl) (fun _ _ _ h => h) (Or.inl ⟨by rfl, ?_⟩) (by assumption) ?_
          rotate_left
          · (intro w' hSw; go_simp; try with_reducible rfl)
          try simp only [Act.put, List.getElem_toArray, List.getElem_cons_zero, List.getElem_cons_succ, List.setIfInBounds_toArray, List.set_cons_zero, List.set_cons_succ]
          refine wpAnyH_done (by kernel_rfl) ?_ _
          try simp only [Act.put, List.getElem_toArray, List.getElem_cons_zero, List.getElem_cons_succ, List.setIfInBounds_toArray, List.set_cons_zero, List.set_cons_succ]
          go_wp2
          go_ret
          exact ⟨rfl, HC1.out.trans0 (HB.out.ch.trans0 H32.out)⟩
        · go_simp
          refine hK.out _ _ (hHeld) (fun hHeld => ?_)
          try simp only [Act.put, List.getElem_toArray, List.getElem_cons_zero, List.getElem_cons_succ, List.setIfInBounds_toArray, List.set_cons_zero, List.set_cons_succ]
          clear hK K
          refine wpAnyH_ready (rs := [18]) (by kernel_rfl) (by simp) ?_
          refine AllReadyH.cons rfl (fun K hK => ?_) (AllReadyH.nil)
          go_simp
          refine (count_bktN (HBO2.out.chg hHeld)).mono ?_
          rintro e w33 ⟨rfl, rfl⟩
          refine hK.out _ _ (hHeld) (fun hHeld => ?_)
          try simp only [Act.put, List.getElem_toArray, List.getElem_cons_zero, List.getElem_cons_succ, List.setIfInBounds_toArray, List.set_cons_zero, List.set_cons_succ]
          clear hK K
          refine wpAnyH_take (i := 22) (v := ?_) rfl (by kernel_rfl) (by kernel_rfl) (by kernel_rfl) (fun _ _ _ h => h) (Or.inl ⟨by rfl, ?_⟩) (by assumption) ?_
          rotate_left
          · (intro w' hSw; go_simp; try with_reducible rfl)
          try simp only [Act.put, List.getElem_toArray, List.getElem_cons_zero, List.getElem_cons_succ, List.setIfInBounds_toArray, List.set_cons_zero, List.set_cons_succ]
          refine wpAnyH_take (i := 23) (v := ?_) rfl (by kernel_rfl) (by kernel_rfl) (by kernel_rfl) (fun _ _ _ h => h) (Or.inl ⟨by rfl, ?_⟩) (by assumption) ?_
          rotate_left
          · (intro w' hSw; go_simp; try with_reducible rfl)
          try simp only [Act.put, List.getElem_toArray, List.getElem_cons_zero, List.getElem_cons_succ, List.setIfInBounds_toArray, List.set_cons_zero, List.set_cons_succ]
          refine wpAnyH_take (i := 24) (v := ?_) rfl (by kernel_rfl) (by kernel_rfl) (by kernel_rfl) (fun _ _ _ h => h) (Or.inl ⟨by rfl, ?_⟩) (by assumption) ?_
          rotate_left
          · (intro w' hSw; go_simp; try with_reducible rfl)
          try simp only [Act.put, List.getElem_toArray, List.getElem_cons_zero, List.getElem_cons_succ, List.setIfInBounds_toArray, List.set_cons_zero, List.set_cons_succ]
          refine wpAnyH_done (by kernel_rfl) ?_ _
          try simp only [Act.put, List.getElem_toArray, List.getElem_cons_zero, List.getElem_cons_succ, List.setIfInBounds_toArray, List.set_cons_zero, List.set_cons_succ]
          go_wp2
          go_ret
          exact ⟨rfl, HC1.out.trans0 (HB.out.ch.trans0 H32.out)⟩
end Go.Proofs.Ytcdhmnefmbcmaaa.Vw
