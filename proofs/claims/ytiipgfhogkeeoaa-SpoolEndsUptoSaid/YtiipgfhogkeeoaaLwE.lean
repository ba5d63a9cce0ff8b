/-
  Layer 7: SpoolEnds' walk; SpoolOwn's walk.
-/
import Derived.Test.YtiipgfhogkeeoaaLwC
namespace Go.Proofs.Ytiipgfhogkeeoaa
open Go.RowKit

theorem aft_none (out : List Int) (start : Nat) (ws : List (List Int)) : aft out start ws [] = out := by
  induction ws generalizing out start with
  | nil => rfl
  | cons x r ih => simp [aft, ih]
theorem aft_all (out : List Int) (ws : List (List Int)) (n : Nat) (h : ws.length ≤ n) : aft out out.length ws (List.replicate n true) = out ++ ws.flatten := by
  induction ws generalizing out n with
  | nil => simp [aft]
  | cons x r ih =>
    cases n with
    | zero => simp at h
    | succ n =>
      simp only [aft, List.replicate_succ, List.headD_cons, if_true, List.tail_cons, Nat.sub_self, List.replicate_zero, List.append_nil]
      have := ih (out ++ x) n (by simpa using h)
      rw [List.length_append] at this
      rw [this]
      simp

set_option maxHeartbeats 6400000 in
theorem lends_any (A : Option Addr) (n c : Nat) (base : List Int) (SA : Option Addr) (sn sc : Nat) (ops : List OpD) (K : Option Addr) (kn kc : Nat) (ks : List Bool) (w : World)
    (hrd : Rd w 1 A n c (bv base)) (hs : Scr w SA sn ops) (htot : tot base ops ≤ 1073741824) (hsn : sn ≤ 1073741824) (hkn : kn ≤ 1073741824) (hkd : Rd w 1 K kn kc (kv ks)) :
    Calls Try.prog 5 #[.slice A n c, .slice SA sn sc, .slice K kn kc] w fun e w' => e = .returned (.bool true) ∧ Chg [] w w' := by
  have HR := Lib.hid hrd
  have HS := Lib.hid hs
  have HT := Lib.hid htot
  have HK := Lib.hid hkd
  clear hrd hs htot hkd
  go_enter Try.func5, Try.ntmps5
  go_wp2_with fail
  refine (speaks_any _).mono ?_
  rintro e w1 ⟨rfl, hc1⟩
  go_wp2_with fail
  refine (run_any A n c base SA sn sc ops _ (HR.out.chg hc1 (by simp)) (HS.out.chg hc1) HT.out hsn).mono ?_
  rintro e w2 ⟨g, L, rfl, hs2, hc2, hn2⟩
  have C2 : Chg [] w w2 := hc1.trans0 hc2
  have hsl := st_le base ops
  have hSn := HS.out.1
  obtain ⟨b, ws, hst⟩ : ∃ b ws, st base ops = (b, ws) := ⟨_, _, rfl⟩
  rw [hst] at hs2 hsl
  simp only at hs2 hsl
  have HL1 : Hid (b.length + ws.flatten.length ≤ 1073741824) := Lib.hid (by have := HT.out; omega)
  have hL2 : ws.length ≤ 1073741824 := by omega
  have hL3 : ws.length ≤ sn := by omega
  have HS2 := Lib.hid hs2
  have HN2 : Hid (∀ k ∈ L, w.heap.size ≤ k) := Lib.hid (fun k hk => Nat.le_trans hc1.size (hn2 k hk))
  clear hs2 hn2 hsl hSn hst hc1 hc2
  obtain ⟨m, hm⟩ : ∃ m, m = ws.length := ⟨_, rfl⟩
  rw [← hm] at hL2 hL3
  have HM := Lib.hid hm
  clear hm
  go_wp2_with fail
  go_loopw [8, 9] (fun v i wr => ∃ (k : Nat) (A' : Option Addr) (c' : Nat), k ≤ m ∧ i = .int .i64 k ∧ v = .slice A' k c' ∧ Own wr 4 1 A' k c' (kv (List.replicate k true)) ∧ Chg [] w2 wr ∧ (∀ k ∈ bo A', w2.heap.size ≤ k)) (fun _ i _ => m - (intOf i).toNat)
  case atStart => exact ⟨0, _, 0, Nat.zero_le _, rfl, rfl, Own.lit w2 4 1 #[] 0 (by decide) rfl, (Chg.refl _ _).alloc _, by simp⟩
  case round =>
    obtain ⟨k, A', c', hk, rfl, rfl, hown, hch, hnew⟩ := hrel
    have HW := Lib.hid hnew
    have HC := Lib.hid hch
    clear hnew
    obtain ⟨wo, hwo⟩ : ∃ wo : World, wo = wr := ⟨_, rfl⟩
    subst hwo
    by_cases hlt : k < m
    · go_wp2_with fail
      refine (pending_any g L b ws _ (HS2.out.chg HC.out (by simp)) m HM.out.symm).mono ?_
      rintro e w3 ⟨rfl, rfl⟩
      go_wp2_with (at_builtin; refine wpList_app rfl _ _ rfl etyBools rfl (hown.chg ((Chg.refl [] _).alloc _) (by simp)) rfl (Own.lit _ 4 1 #[.bool true] 1 (by decide) rfl).rd (by simp [Value.oneCell']) (by unfold maxLen; omega) (by omega) ?_; intro A2 c2 w4 hown2 hchg2 hnew2 _)
      go_roundw
      case rel =>
        refine ⟨k + 1, A2, c2, by omega, by go_num, rfl, ?_, (HC.out.alloc _).trans hchg2 (fun y hy => .inr (HW.out y hy)), fun y hy => ?_⟩
        · rw [List.replicate_succ']
          simpa using hown2
        · rcases hnew2 y hy with h1 | h1
          · exact HW.out y h1
          · have h2 := HC.out.size; simp at h1; omega
      case measure => simp [intOf]; omega
    · go_wp2_with fail
      refine (pending_any g L b ws _ (HS2.out.chg HC.out (by simp)) m HM.out.symm).mono ?_
      rintro e w3 ⟨rfl, rfl⟩
      obtain rfl : k = m := by omega
      obtain ⟨N, hN⟩ : ∃ N, (b ++ ws.flatten).length = N := ⟨_, rfl⟩
      have hNl : N ≤ 1073741824 := by rw [← hN, List.length_append]; exact HL1.out
      obtain ⟨N3, hN3⟩ : ∃ N3, (aft (b ++ ws.flatten) (b ++ ws.flatten).length [] ks).length = N3 := ⟨_, rfl⟩
      have HN := Lib.hid hN
      have HB1 : Hid (b.length ≤ 1073741824) := Lib.hid (by have := HL1.out; omega)
      have hbl := HB1.out
      clear hN hN3
      go_wp2_with fail
      refine (seen_any g L b ws _ (HS2.out.chg HC.out (by simp)) HL1.out N HN.out).mono ?_
      rintro e w4 ⟨A4, c4, rfl, ho4, hc4, hn4⟩
      go_wp2_with fail
      refine (after_any g L b ws none 0 0 [] _ (HS2.out.chg (HC.out.trans0 hc4) (by simp)) HL1.out (by rw [← HM.out]; exact hL2) (by omega) (Rd.nil _ _) b.length (by rw [aft_none])).mono ?_
      rintro e w5 ⟨A5, c5, rfl, ho5, hc5, hn5⟩
      rw [aft_none] at ho5
      go_wp2_with fail
      refine (safe_any g L b ws _ (HS2.out.chg ((HC.out.trans0 hc4).trans0 hc5) (by simp)) HL1.out b.length rfl).mono ?_
      rintro e w6 ⟨A6, c6, rfl, ho6, hc6, hn6⟩
      go_wp2_with fail
      refine (same_true A5 b.length c5 b A6 b.length c6 _ hbl (ho5.chg hc6 (by simp)).rd ho6.rd).mono ?_
      rintro e w7 ⟨rfl, hc7⟩
      have e7 : Chg [] w4 w7 := (hc5.trans0 hc6).trans0 hc7
      have f7 : Chg [] w2 w7 := (HC.out.trans0 hc4).trans0 e7
      go_wp2_with fail
      refine (after_any g L b ws A' k c' (List.replicate k true) _ (HS2.out.chg f7 (by simp)) HL1.out (by rw [← HM.out]; exact hL2) hL2 (hown.chg (hc4.trans0 e7) (by simp)).rd N (by rw [aft_all b ws k (by rw [HM.out]; exact Nat.le_refl _)]; exact HN.out)).mono ?_
      rintro e w8 ⟨A8, c8, rfl, ho8, hc8, hn8⟩
      rw [aft_all b ws k (by rw [HM.out]; exact Nat.le_refl _)] at ho8
      go_wp2_with fail
      refine (same_true A8 N c8 _ A4 N c4 _ hNl ho8.rd (ho4.chg (e7.trans0 hc8) (by simp)).rd).mono ?_
      rintro e w9 ⟨rfl, hc9⟩
      have f9 : Chg [] w2 w9 := (f7.trans0 hc8).trans0 hc9
      have d9 : Chg [] w4 w9 := (e7.trans0 hc8).trans0 hc9
      go_wp2_with fail
      refine (sync_any g L b ws _ (HS2.out.chg f9 (by simp)) HL1.out).mono ?_
      rintro e w10 ⟨L10, rfl, hs10, hc10, hn10⟩
      have HS10 := Lib.hid hs10
      have HN10 := Lib.hid hn10
      have f10 : Chg [] w w10 := (C2.trans0 f9).trans hc10 (fun x hx => .inr (HN2.out x hx))
      have d10 : Own w10 5 1 A4 N c4 (bv (b ++ ws.flatten)) := (ho4.chg d9 (by simp)).chg hc10 (fun j hj hm => by
        have h1 := hn4 j hj
        have h2 := HS2.out.lt j hm
        have h3 := HC.out.size
        omega)
      have HD10 := Lib.hid d10
      clear hs10 hn10 d10
      go_wp2_with (at_builtin; refine wpList_app rfl _ _ rfl etyBools rfl (Own.lit _ 4 1 #[] 0 (by decide) rfl) rfl (HK.out.chg (f10.alloc _) (by simp)) (kv_one ks) (by unfold maxLen; omega) (by omega) ?_; intro A11 c11 w11 ho11 hc11 hn11 _)
      have g11 : Chg [] w10 w11 := ((Chg.refl [] w10).alloc (.cells #[] 4)).trans hc11 (fun x hx => .inr (by simp at hx; omega))
      refine (after_any g L10 _ [] A11 kn c11 ks _ (HS10.out.chg g11 (by simp)) (by rw [HN.out]; simpa using hNl) (by simp) hkn (by simpa using ho11.rd) N (by show (b ++ ws.flatten).length = N; exact HN.out)).mono ?_
      rintro e w12 ⟨A12, c12, rfl, ho12, hc12, hn12⟩
      go_wp2_with fail
      refine (same_true A12 N c12 (b ++ ws.flatten) A4 N c4 _ hNl ho12.rd (HD10.out.chg (g11.trans0 hc12) (by simp)).rd).mono ?_
      rintro e w13 ⟨rfl, hc13⟩
      have g13 : Chg [] w10 w13 := (g11.trans0 hc12).trans0 hc13
      go_wp2_with fail
      refine (safe_any g L10 _ [] _ (HS10.out.chg g13 (by simp)) (by rw [HN.out]; simpa using hNl) N HN.out).mono ?_
      rintro e w14 ⟨A14, c14, rfl, ho14, hc14, hn14⟩
      go_wp2_with fail
      refine (same_true A14 N c14 (b ++ ws.flatten) A4 N c4 _ hNl ho14.rd (HD10.out.chg (g13.trans0 hc14) (by simp)).rd).mono ?_
      rintro e w15 ⟨rfl, hc15⟩
      have g15 : Chg [] w10 w15 := (g13.trans0 hc14).trans0 hc15
      go_wp2_with fail
      refine (pending_any g L10 _ [] _ (HS10.out.chg g15 (by simp)) 0 rfl).mono ?_
      rintro e w16 ⟨rfl, rfl⟩
      go_wp2
      go_ret
      exact ⟨rfl, f10.trans0 g15⟩

set_option maxHeartbeats 6400000 in
theorem lown_any (A : Option Addr) (n c : Nat) (base : List Int) (SA : Option Addr) (sn sc : Nat) (ops : List OpD) (K : Option Addr) (kn kc : Nat) (ks : List Bool) (w : World)
    (hrd : Rd w 1 A n c (bv base)) (hs : Scr w SA sn ops) (htot : tot base ops ≤ 1073741824) (hsn : sn ≤ 1073741824) (hkn : kn ≤ 1073741824) (hkd : Rd w 1 K kn kc (kv ks)) :
    Calls Try.prog 7 #[.slice A n c, .slice SA sn sc, .slice K kn kc] w fun e w' => e = .returned (.bool true) ∧ Chg [] w w' := by
  have HR := Lib.hid hrd
  have HS := Lib.hid hs
  have HT := Lib.hid htot
  have HK := Lib.hid hkd
  clear hrd hs htot hkd
  go_enter Try.func7, Try.ntmps7
  go_wp2_with fail
  refine (speaks_any _).mono ?_
  rintro e w1 ⟨rfl, hc1⟩
  go_wp2_with fail
  refine (run_any A n c base SA sn sc ops _ (HR.out.chg hc1 (by simp)) (HS.out.chg hc1) HT.out hsn).mono ?_
  rintro e w2 ⟨g, L, rfl, hs2, hc2, hn2⟩
  have C2 : Chg [] w w2 := hc1.trans0 hc2
  have hsl := st_le base ops
  have hSn := HS.out.1
  obtain ⟨b, ws, hst⟩ : ∃ b ws, st base ops = (b, ws) := ⟨_, _, rfl⟩
  rw [hst] at hs2 hsl
  simp only at hs2 hsl
  have HL1 : Hid (b.length + ws.flatten.length ≤ 1073741824) := Lib.hid (by have := HT.out; omega)
  have HL2 : Hid (ws.length ≤ 1073741824) := Lib.hid (by omega)
  have HS2 := Lib.hid hs2
  have hlt2 := hs2.lt
  clear hs2 hn2 hsl hSn hst hc1 hc2
  obtain ⟨N, hN⟩ : ∃ N, (b ++ ws.flatten).length = N := ⟨_, rfl⟩
  have hNl : N ≤ 1073741824 := by rw [← hN, List.length_append]; exact HL1.out
  obtain ⟨M, hM⟩ : ∃ M, b.length = M := ⟨_, rfl⟩
  have hMl : M ≤ 1073741824 := by have := HL1.out; omega
  obtain ⟨Z, hZ⟩ : ∃ Z, (aft b b.length ws ks).length = Z := ⟨_, rfl⟩
  have hZl : Z ≤ 1073741824 := by have := aft_le b b.length ws ks (Nat.le_refl _); have := HL1.out; omega
  have HN := Lib.hid hN
  have HM := Lib.hid hM
  have HZ := Lib.hid hZ
  have HLT := Lib.hid hlt2
  clear hN hM hZ hlt2
  go_wp2_with fail
  refine (seen_any g L b ws _ HS2.out HL1.out N HN.out).mono ?_
  rintro e w3 ⟨A3, c3, rfl, ho3, hc3, hn3⟩
  go_wp2_with fail
  refine (safe_any g L b ws _ (HS2.out.chg hc3 (by simp)) HL1.out M HM.out).mono ?_
  rintro e w4 ⟨A4, c4, rfl, ho4, hc4, hn4⟩
  have d4 : Chg [] w2 w4 := hc3.trans0 hc4
  go_wp2_with fail
  refine (after_any g L b ws K kn kc ks _ (HS2.out.chg d4 (by simp)) HL1.out HL2.out hkn (HK.out.chg (C2.trans0 d4) (by simp)) Z HZ.out).mono ?_
  rintro e w5 ⟨A5, c5, rfl, ho5, hc5, hn5⟩
  have d5 : Chg [] w2 w5 := d4.trans0 hc5
  go_wp2_with fail
  refine (copy_any A3 N c3 (b ++ ws.flatten) _ hNl (ho3.chg (hc4.trans0 hc5) (by simp)).rd).mono ?_
  rintro e w6 ⟨A6, c6, rfl, ho6, hc6, hn6⟩
  go_wp2_with fail
  refine (copy_any A4 M c4 b _ hMl (ho4.chg (hc5.trans0 hc6) (by simp)).rd).mono ?_
  rintro e w7 ⟨A7, c7, rfl, ho7, hc7, hn7⟩
  go_wp2_with fail
  refine (copy_any A5 Z c5 (aft b b.length ws ks) _ hZl (ho5.chg (hc6.trans0 hc7) (by simp)).rd).mono ?_
  rintro e w8 ⟨A8, c8, rfl, ho8, hc8, hn8⟩
  have d8 : Chg [] w2 w8 := ((d5.trans0 hc6).trans0 hc7).trans0 hc8
  go_wp2_with fail
  refine (seen_any g L b ws _ (HS2.out.chg d8 (by simp)) HL1.out N HN.out).mono ?_
  rintro e w9 ⟨A9, c9, rfl, ho9, hc9, hn9⟩
  go_wp2_with fail
  refine (safe_any g L b ws _ (HS2.out.chg (d8.trans0 hc9) (by simp)) HL1.out M HM.out).mono ?_
  rintro e w10 ⟨A10, c10, rfl, ho10, hc10, hn10⟩
  have d10 : Chg [] w2 w10 := (d8.trans0 hc9).trans0 hc10
  go_wp2_with fail
  refine (after_any g L b ws K kn kc ks _ (HS2.out.chg d10 (by simp)) HL1.out HL2.out hkn (HK.out.chg (C2.trans0 d10) (by simp)) Z HZ.out).mono ?_
  rintro e w11 ⟨A11, c11, rfl, ho11, hc11, hn11⟩
  have d11 : Chg [] w2 w11 := d10.trans0 hc11
  -- the three that are spoilt lie below w5's size, the others from there on
  have l3 : ∀ k ∈ bo A3, w2.heap.size ≤ k ∧ k < w5.heap.size := fun k hk => ⟨hn3 k hk, by have h1 := ho3.lt k hk; have h2 := (hc4.trans0 hc5).size; omega⟩
  have l4 : ∀ k ∈ bo A4, w2.heap.size ≤ k ∧ k < w5.heap.size := fun k hk => ⟨by have h1 := hn4 k hk; have h2 := hc3.size; omega, by have h1 := ho4.lt k hk; have h2 := hc5.size; omega⟩
  have l5 : ∀ k ∈ bo A5, w2.heap.size ≤ k ∧ k < w5.heap.size := fun k hk => ⟨by have h1 := hn5 k hk; have h2 := d4.size; omega, ho5.lt k hk⟩
  have l34 : ∀ k ∈ bo A3, k ∉ bo A4 := fun k hk hm => by have h1 := ho3.lt k hk; have h2 := hn4 k hm; omega
  have l35 : ∀ k ∈ bo A3, k ∉ bo A5 := fun k hk hm => by have h1 := ho3.lt k hk; have h2 := hn5 k hm; have h3 := hc4.size; omega
  have l45 : ∀ k ∈ bo A4, k ∉ bo A5 := fun k hk hm => by have h1 := ho4.lt k hk; have h2 := hn5 k hm; omega
  have z6 : ∀ k ∈ bo A6, w5.heap.size ≤ k := hn6
  have z7 : ∀ k ∈ bo A7, w5.heap.size ≤ k := fun k hk => Nat.le_trans hc6.size (hn7 k hk)
  have z8 : ∀ k ∈ bo A8, w5.heap.size ≤ k := fun k hk => Nat.le_trans (hc6.trans0 hc7).size (hn8 k hk)
  have y8 : Chg [] w5 w8 := (hc6.trans0 hc7).trans0 hc8
  have z9 : ∀ k ∈ bo A9, w5.heap.size ≤ k := fun k hk => Nat.le_trans y8.size (hn9 k hk)
  have z10 : ∀ k ∈ bo A10, w5.heap.size ≤ k := fun k hk => Nat.le_trans (y8.trans0 hc9).size (hn10 k hk)
  have z11 : ∀ k ∈ bo A11, w5.heap.size ≤ k := fun k hk => Nat.le_trans ((y8.trans0 hc9).trans0 hc10).size (hn11 k hk)
  have q3 : Own w11 5 1 A3 N c3 (bv (b ++ ws.flatten)) := ho3.chg ((((hc4.trans0 hc5).trans0 y8).trans0 hc9).trans0 (hc10.trans0 hc11)) (by simp)
  have q4 : Own w11 5 1 A4 M c4 (bv b) := ho4.chg (((hc5.trans0 y8).trans0 hc9).trans0 (hc10.trans0 hc11)) (by simp)
  have q5 : Own w11 5 1 A5 Z c5 (bv (aft b b.length ws ks)) := ho5.chg ((y8.trans0 hc9).trans0 (hc10.trans0 hc11)) (by simp)
  have q6 : Own w11 5 1 A6 N c6 (bv (b ++ ws.flatten)) := ho6.chg (((hc7.trans0 hc8).trans0 hc9).trans0 (hc10.trans0 hc11)) (by simp)
  have q7 : Own w11 5 1 A7 M c7 (bv b) := ho7.chg ((hc8.trans0 hc9).trans0 (hc10.trans0 hc11)) (by simp)
  have q8 : Own w11 5 1 A8 Z c8 (bv (aft b b.length ws ks)) := ho8.chg (hc9.trans0 (hc10.trans0 hc11)) (by simp)
  have q9 : Own w11 5 1 A9 N c9 (bv (b ++ ws.flatten)) := ho9.chg (hc10.trans0 hc11) (by simp)
  have q10 : Own w11 5 1 A10 M c10 (bv b) := ho10.chg hc11 (by simp)
  have S11 : Spo w11 g L b ws := HS2.out.chg d11 (by simp)
  have Q3 := Lib.hid (And.intro q3 (And.intro q4 q5))
  have Q6 := Lib.hid (And.intro q6 (And.intro q7 (And.intro q8 (And.intro q9 (And.intro q10 ho11)))))
  have QL := Lib.hid (And.intro l3 (And.intro l4 (And.intro l5 (And.intro l34 (And.intro l35 l45)))))
  have QZ := Lib.hid (And.intro z6 (And.intro z7 (And.intro z8 (And.intro z9 (And.intro z10 z11)))))
  have QS := Lib.hid S11
  have D11 := Lib.hid d11
  clear q3 q4 q5 q6 q7 q8 q9 q10 l3 l4 l5 l34 l35 l45 z6 z7 z8 z9 z10 z11 S11 hn3 hn4 hn5 hn6 hn7 hn8 hn9 hn10 hn11 ho3 ho4 ho5 ho6 ho7 ho8 ho9 ho10 ho11 y8 d4 d5 d8 d10 d11 hc3 hc4 hc5 hc6 hc7 hc8 hc9 hc10 hc11
  go_wp2_with fail
  refine (spoil_any A3 N c3 _ _ hNl Q3.out.1).mono ?_
  rintro e w12 ⟨rfl, hc12⟩
  go_wp2_with fail
  refine (spoil_any A4 M c4 _ _ hMl (Q3.out.2.1.chg hc12 (fun k hk hm => QL.out.2.2.2.1 k hm hk))).mono ?_
  rintro e w13 ⟨rfl, hc13⟩
  go_wp2_with fail
  refine (spoil_any A5 Z c5 _ _ hZl ((Q3.out.2.2.chg hc12 (fun k hk hm => QL.out.2.2.2.2.1 k hm hk)).chg hc13 (fun k hk hm => QL.out.2.2.2.2.2 k hm hk))).mono ?_
  rintro e w14 ⟨rfl, hc14⟩
  have e14 : Chg (bo A3 ++ (bo A4 ++ bo A5)) w11 w14 := ((hc12.mono (fun x hx => .inl (by simp [hx]))).trans hc13 (fun x hx => .inl (by simp [hx]))).trans hc14 (fun x hx => .inl (by simp [hx]))
  have out : ∀ k ∈ bo A3 ++ (bo A4 ++ bo A5), w2.heap.size ≤ k ∧ k < w5.heap.size := fun k hk => by
    obtain ⟨l3, l4, l5, _⟩ := QL.out
    simp only [List.mem_append] at hk
    rcases hk with hk | hk | hk
    · exact l3 k hk
    · exact l4 k hk
    · exact l5 k hk
  have far : ∀ (X : List Nat), (∀ k ∈ X, w5.heap.size ≤ k) → ∀ k ∈ X, k ∉ bo A3 ++ (bo A4 ++ bo A5) := fun X hX k hk hm => by have h1 := hX k hk; have h2 := out k hm; omega
  obtain ⟨z6, z7, z8, z9, z10, z11⟩ := QZ.out
  obtain ⟨q6, q7, q8, q9, q10, q11⟩ := Q6.out
  have r6 := q6.chg e14 (far _ z6)
  have r7 := q7.chg e14 (far _ z7)
  have r8 := q8.chg e14 (far _ z8)
  have r9 := q9.chg e14 (far _ z9)
  have r10 := q10.chg e14 (far _ z10)
  have r11 := q11.chg e14 (far _ z11)
  have rS : Spo w14 g L b ws := QS.out.chg e14 (fun k hk hm => by have h1 := HLT.out k hk; have h2 := out k hm; omega)
  have rC : Chg [] w w14 := (C2.trans0 D11.out).trans e14 (fun x hx => .inr (Nat.le_trans C2.size (out x hx).1))
  have R := Lib.hid (And.intro r6 (And.intro r7 (And.intro r8 (And.intro r9 (And.intro r10 r11)))))
  have RS := Lib.hid rS
  clear r6 r7 r8 r9 r10 r11 rS q6 q7 q8 q9 q10 q11 z6 z7 z8 z9 z10 z11 far out
  go_wp2_with fail
  refine (same_true A9 N c9 (b ++ ws.flatten) A6 N c6 _ hNl R.out.2.2.2.1.rd R.out.1.rd).mono ?_
  rintro e w15 ⟨rfl, hc15⟩
  go_wp2_with fail
  refine (same_true A10 M c10 b A7 M c7 _ hMl (R.out.2.2.2.2.1.chg hc15 (by simp)).rd (R.out.2.1.chg hc15 (by simp)).rd).mono ?_
  rintro e w16 ⟨rfl, hc16⟩
  have x16 : Chg [] w14 w16 := hc15.trans0 hc16
  go_wp2_with fail
  refine (same_true A11 Z c11 (aft b b.length ws ks) A8 Z c8 _ hZl (R.out.2.2.2.2.2.chg x16 (by simp)).rd (R.out.2.2.1.chg x16 (by simp)).rd).mono ?_
  rintro e w17 ⟨rfl, hc17⟩
  have x17 : Chg [] w14 w17 := x16.trans0 hc17
  go_wp2_with fail
  refine (seen_any g L b ws _ (RS.out.chg x17 (by simp)) HL1.out N HN.out).mono ?_
  rintro e w18 ⟨A18, c18, rfl, ho18, hc18, hn18⟩
  have x18 : Chg [] w14 w18 := x17.trans0 hc18
  go_wp2_with fail
  refine (same_true A18 N c18 (b ++ ws.flatten) A6 N c6 _ hNl ho18.rd (R.out.1.chg x18 (by simp)).rd).mono ?_
  rintro e w19 ⟨rfl, hc19⟩
  have x19 : Chg [] w14 w19 := x18.trans0 hc19
  go_wp2_with fail
  refine (safe_any g L b ws _ (RS.out.chg x19 (by simp)) HL1.out M HM.out).mono ?_
  rintro e w20 ⟨A20, c20, rfl, ho20, hc20, hn20⟩
  have x20 : Chg [] w14 w20 := x19.trans0 hc20
  go_wp2_with fail
  refine (same_true A20 M c20 b A7 M c7 _ hMl ho20.rd (R.out.2.1.chg x20 (by simp)).rd).mono ?_
  rintro e w21 ⟨rfl, hc21⟩
  have x21 : Chg [] w14 w21 := x20.trans0 hc21
  go_wp2_with fail
  refine (after_any g L b ws K kn kc ks _ (RS.out.chg x21 (by simp)) HL1.out HL2.out hkn (HK.out.chg (rC.trans0 x21) (by simp)) Z HZ.out).mono ?_
  rintro e w22 ⟨A22, c22, rfl, ho22, hc22, hn22⟩
  have x22 : Chg [] w14 w22 := x21.trans0 hc22
  go_wp2_with fail
  refine (same_true A22 Z c22 (aft b b.length ws ks) A8 Z c8 _ hZl ho22.rd (R.out.2.2.1.chg x22 (by simp)).rd).mono ?_
  rintro e w23 ⟨rfl, hc23⟩
  go_wp2
  go_ret
  exact ⟨rfl, rC.trans0 (x22.trans0 hc23)⟩
end Go.Proofs.Ytiipgfhogkeeoaa
