/-
  Layer 7: SpoolBytes' walk.
-/
import Derived.Test.YtiipgfhogkeeoaaLwC
namespace Go.Proofs.Ytiipgfhogkeeoaa
open Go.RowKit

def Within (out P : List Int) : Prop := ∀ (i : Nat) (x : Int), out[i]? = some x → x = 0 ∨ P[i]? = some x
theorem aft_within (ws : List (List Int)) : ∀ (out P : List Int) (ks : List Bool), out.length ≤ P.length → Within out P → Within (aft out P.length ws ks) (P ++ ws.flatten) := by
  induction ws with
  | nil => intro out P ks _ h; simpa [aft] using h
  | cons y r ih =>
    intro out P ks hl h
    simp only [aft, List.flatten_cons]
    rw [← List.append_assoc]
    have hP : P.length + y.length = (P ++ y).length := by simp
    rw [hP]
    refine ih _ _ _ ?_ ?_
    · split
      · simp; omega
      · simp; omega
    · split
      · intro i x hx
        by_cases h1 : i < out.length
        · rw [List.getElem?_append_left (by simp; omega), List.getElem?_append_left h1] at hx
          rcases h i x hx with h2 | h2
          · exact .inl h2
          · right; rw [List.getElem?_append_left (by omega)]; exact h2
        · by_cases h2 : i < P.length
          · rw [List.getElem?_append_left (by simp; omega), List.getElem?_append_right (by omega), List.getElem?_replicate] at hx
            split at hx
            · simp at hx; exact .inl hx.symm
            · cases hx
          · rw [List.getElem?_append_right (by simp; omega)] at hx
            right
            rw [List.getElem?_append_right (by omega)]
            rw [← hx]; congr 1; simp; omega
      · intro i x hx
        rcases h i x hx with h2 | h2
        · exact .inl h2
        · right; rw [List.getElem?_append_left (List.getElem?_eq_some_iff.1 h2).1]; exact h2
theorem aft_prefix (ws : List (List Int)) : ∀ (out : List Int) (start : Nat) (ks : List Bool), ∃ r, aft out start ws ks = out ++ r := by
  induction ws with
  | nil => intro out start ks; exact ⟨[], by simp [aft]⟩
  | cons y r ih =>
    intro out start ks
    simp only [aft]
    split
    · obtain ⟨q, hq⟩ := ih (out ++ List.replicate (start - out.length) 0 ++ y) (start + y.length) ks.tail
      exact ⟨List.replicate (start - out.length) 0 ++ y ++ q, by rw [hq]; simp [List.append_assoc]⟩
    · exact ih _ _ _

theorem st1_prefix (base : List Int) (s : List Int × List (List Int)) (o : OpD) (h : ∃ r, s.1 = base ++ r) : ∃ r, (st1 s o).1 = base ++ r := by
  obtain ⟨r, hr⟩ := h
  unfold st1
  split
  · split <;> exact ⟨r, hr⟩
  · split
    · exact ⟨r ++ s.2.flatten, by simp [hr]⟩
    · exact ⟨r, hr⟩
theorem st_prefix (base : List Int) (ops : List OpD) : ∃ r, (st base ops).1 = base ++ r := by
  suffices h : ∀ (ops : List OpD) (s : List Int × List (List Int)), (∃ r, s.1 = base ++ r) → ∃ r, (ops.foldl st1 s).1 = base ++ r from h ops _ ⟨[], by simp⟩
  intro ops
  induction ops with
  | nil => intro s h; exact h
  | cons o r ih => intro s h; exact ih _ (st1_prefix base s o h)

set_option maxHeartbeats 6400000 in
theorem lbytes_any (A : Option Addr) (n c : Nat) (base : List Int) (SA : Option Addr) (sn sc : Nat) (ops : List OpD) (K : Option Addr) (kn kc : Nat) (ks : List Bool) (w : World)
    (hrd : Rd w 1 A n c (bv base)) (hs : Scr w SA sn ops) (htot : tot base ops ≤ 1073741824) (hsn : sn ≤ 1073741824) (hkn : kn ≤ 1073741824) (hkd : Rd w 1 K kn kc (kv ks)) :
    Calls Try.prog 6 #[.slice A n c, .slice SA sn sc, .slice K kn kc] w fun e w' => e = .returned (.bool true) ∧ Chg [] w w' := by
  have hn : n ≤ 1073741824 := by have := hrd.1; simp [tot] at this htot; omega
  have hnl : n = base.length := by have := hrd.1; simp at this; omega
  have HR := Lib.hid hrd
  have HS := Lib.hid hs
  have HT := Lib.hid htot
  have HK := Lib.hid hkd
  clear hrd hs htot hkd
  have HNL := Lib.hid hnl
  clear hnl
  go_enter Try.func6, Try.ntmps6
  go_wp2_with fail
  refine (speaks_any _).mono ?_
  rintro e w1 ⟨rfl, hc1⟩
  go_wp2_with fail
  refine (run_any A n c base SA sn sc ops _ (HR.out.chg hc1 (by simp)) (HS.out.chg hc1) HT.out hsn).mono ?_
  rintro e w2 ⟨g, L, rfl, hs2, hc2, hn2⟩
  have C2 : Chg [] w w2 := hc1.trans0 hc2
  have hsl := st_le base ops
  have hSn := HS.out.1
  obtain ⟨pr, hpr⟩ := st_prefix base ops
  obtain ⟨b, ws, hst⟩ : ∃ b ws, st base ops = (b, ws) := ⟨_, _, rfl⟩
  rw [hst] at hs2 hsl hpr
  simp only at hs2 hsl hpr
  have HL1 : Hid (b.length + ws.flatten.length ≤ 1073741824) := Lib.hid (by have := HT.out; omega)
  have HL2 : Hid (ws.length ≤ 1073741824) := Lib.hid (by omega)
  have HS2 := Lib.hid hs2
  clear hs2 hn2 hsl hSn hst hc1 hc2
  obtain ⟨N, hN⟩ : ∃ N, (b ++ ws.flatten).length = N := ⟨_, rfl⟩
  have hNl : N ≤ 1073741824 := by rw [← hN, List.length_append]; exact HL1.out
  obtain ⟨M, hM⟩ : ∃ M, b.length = M := ⟨_, rfl⟩
  obtain ⟨Z, hZ⟩ : ∃ Z, (aft b b.length ws ks).length = Z := ⟨_, rfl⟩
  obtain ⟨ar, har⟩ := aft_prefix ws b b.length ks
  have hZN : Z ≤ N := by have := aft_le b b.length ws ks (Nat.le_refl _); rw [← hZ, ← hN, List.length_append]; omega
  have hMZ : M ≤ Z := by rw [← hZ, har, List.length_append]; omega
  have hnM : n ≤ M := by rw [HNL.out, ← hM, hpr, List.length_append]; omega
  have hwi := aft_within ws b b ks (Nat.le_refl _) (fun i x h => .inr h)
  have HX : Hid (Within (aft b b.length ws ks) (b ++ ws.flatten) ∧ aft b b.length ws ks = b ++ ar ∧ b = base ++ pr) := Lib.hid ⟨hwi, har, hpr⟩
  have HN := Lib.hid hN
  have HM := Lib.hid hM
  have HZ := Lib.hid hZ
  clear hN hM hZ har hwi hpr
  go_wp2_with fail
  refine (seen_any g L b ws _ HS2.out HL1.out N HN.out).mono ?_
  rintro e w3 ⟨A3, c3, rfl, ho3, hc3, hn3⟩
  go_wp2_with fail
  refine (safe_any g L b ws _ (HS2.out.chg hc3 (by simp)) HL1.out M HM.out).mono ?_
  rintro e w4 ⟨A4, c4, rfl, ho4, hc4, hn4⟩
  have d4 : Chg [] w2 w4 := hc3.trans0 hc4
  go_wp2_with (at_builtin; refine wpList_app rfl _ _ rfl etyBools rfl (Own.lit _ 4 1 #[] 0 (by decide) rfl) rfl (HK.out.chg ((C2.trans0 d4).alloc _) (by simp)) (kv_one ks) (by unfold maxLen; omega) (by omega) ?_; intro A5 c5 w5 ho5 hc5 hn5 _)
  have g5 : Chg [] w4 w5 := ((Chg.refl [] w4).alloc (.cells #[] 4)).trans hc5 (fun x hx => .inr (by simp at hx; omega))
  refine (after_any g L b ws A5 kn c5 ks _ (HS2.out.chg (d4.trans0 g5) (by simp)) HL1.out HL2.out hkn (by simpa using ho5.rd) Z HZ.out).mono ?_
  rintro e w6 ⟨A6, c6, rfl, ho6, hc6, hn6⟩
  have d6 : Chg [] w2 w6 := (d4.trans0 g5).trans0 hc6
  have r3 : Rd w6 1 A3 N c3 (bv (b ++ ws.flatten)) := (ho3.chg ((hc4.trans0 g5).trans0 hc6) (by simp)).rd
  have r4 : Rd w6 1 A4 M c4 (bv b) := (ho4.chg (g5.trans0 hc6) (by simp)).rd
  have r6 : Rd w6 1 A6 Z c6 (bv (aft b b.length ws ks)) := ho6.rd
  have rb : Rd w6 1 A n c (bv base) := HR.out.chg (C2.trans0 d6) (by simp)
  have rc : Rd w6 1 A3 n c3 (bv base) := by
    have := r3.take (k := n) (by omega)
    rw [Nat.mul_one, ← List.map_take] at this
    have e1 : (b ++ ws.flatten).take n = base := by rw [HX.out.2.2, HNL.out, List.append_assoc, List.take_left]
    rwa [e1] at this
  have hc3n := r3.2.1
  have R3 := Lib.hid r3
  have R4 := Lib.hid r4
  have R6 := Lib.hid r6
  have RB := Lib.hid rb
  have RC := Lib.hid rc
  have D6 := Lib.hid (C2.trans0 d6)
  clear r3 r4 r6 rb rc ho3 ho4 ho5 ho6 hn3 hn4 hn5 hn6 hc3 hc4 hc5 hc6 d4 g5 d6
  have t1 : ((Z : Int) < (M : Int)) = False := by simp; omega
  have t2 : ((N : Int) < (Z : Int)) = False := by simp; omega
  have t3 : ((M : Int) < (n : Int)) = False := by simp; omega
  go_wp2_with fail
  refine (same_true A3 n c3 base A n c _ hn RC.out RB.out).mono ?_
  rintro e w7 ⟨rfl, hc7⟩
  go_wp2_with fail
  go_loopw [58] (fun q wr => ∃ i : Nat, i ≤ Z ∧ q = .int .i64 i ∧ Chg [] w6 wr) (fun q _ => Z - (intOf q).toNat)
  case atStart => exact ⟨0, Nat.zero_le _, rfl, hc7⟩
  case round =>
    obtain ⟨i, hi, rfl, hch⟩ := hrel
    by_cases hlt : i < Z
    · obtain ⟨a6, x, rfl, hx, hcx⟩ := rd_byte (R6.out.chg hch (by simp)) hlt
      obtain ⟨a3, y, rfl, hy, hcy⟩ := rd_byte (R3.out.chg hch (by simp)) (show i < N by omega)
      have hxy : x = 0 ∨ y = x := by
        rcases HX.out.1 i x hx with h | h
        · exact .inl h
        · right; rw [hy] at h; simpa using h
      have i0 : (0 : Int) ≤ i := by omega
      have i1 : (i : Int) < Z := by omega
      have i2 : (i : Int) < N := by omega
      by_cases him : i < M
      · obtain ⟨a4, z, rfl, hz, hcz⟩ := rd_byte (R4.out.chg hch (by simp)) him
        have e1 : z = x := by
          have h1 := HX.out.2.1
          rw [h1, List.getElem?_append_left (by have := HM.out; omega), hz] at hx
          simpa using hx
        have e2 : y = x := by
          rw [List.getElem?_append_left (by have := HM.out; omega), hz] at hy
          simp at hy; omega
        subst e1; subst e2
        have i3 : (i : Int) < M := by omega
        have hd : decide ((i : Int) < M) = true := by simpa using i3
        have hne : (y != y) = false := by simp
        clear hx hy hz hxy him
        go_wp2_with fail
        go_quiet (fail)
        go_wp2
        go_roundw
        case rel => exact ⟨i + 1, by omega, by go_num, hch.drewN _⟩
        case measure => simp [intOf]; omega
      · have hd : decide ((i : Int) < M) = false := by simp; omega
        by_cases exy : y = x
        · subst exy
          have hne : (y != y) = false := by simp
          clear hx hy hxy
          go_wp2_with fail
          go_quiet (fail)
          go_wp2
          go_roundw
          case rel => exact ⟨i + 1, by omega, by go_num, hch.drewN _⟩
          case measure => simp [intOf]; omega
        · obtain rfl : x = 0 := by rcases hxy with h | h; exact h; exact absurd h exy
          have hne : ((0 : Int) != y) = true := by simp; omega
          clear hx hy hxy
          go_wp2_with fail
          go_quiet (fail)
          go_wp2
          go_roundw
          case rel => exact ⟨i + 1, by omega, by go_num, hch.drewN _⟩
          case measure => simp [intOf]; omega
    · go_wp2
      go_ret
      exact ⟨rfl, D6.out.trans0 hch⟩
end Go.Proofs.Ytiipgfhogkeeoaa
