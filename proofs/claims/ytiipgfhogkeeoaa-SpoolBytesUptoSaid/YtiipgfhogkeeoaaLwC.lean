/-
  Layer 7: SpoolAfter's walk.
-/
import Derived.Test.YtiipgfhogkeeoaaLwB
namespace Go.Proofs.Ytiipgfhogkeeoaa
open Go.RowKit

theorem etyBools : Ety Try.prog 32 4 1 1 (.bool false) := .mk' Try.underlying32 (by kernel_rfl) rfl (by decide)
theorem kv_one (ks : List Bool) : ∀ u ∈ kv ks, u.oneCell' = true := by
  intro u hu
  obtain ⟨b, _, rfl⟩ := List.mem_map.1 hu
  rfl

set_option maxHeartbeats 6400000 in
theorem lafter_any (A : Option Addr) (n c : Nat) (base : List Int) (SA : Option Addr) (sn sc : Nat) (ops : List OpD) (K : Option Addr) (kn kc : Nat) (ks : List Bool) (w : World)
    (hrd : Rd w 1 A n c (bv base)) (hs : Scr w SA sn ops) (htot : tot base ops ≤ 1073741824) (hsn : sn ≤ 1073741824) (hkn : kn ≤ 1073741824) (hkd : Rd w 1 K kn kc (kv ks)) :
    Calls Try.prog 4 #[.slice A n c, .slice SA sn sc, .slice K kn kc] w fun e w' => e = .returned (.bool true) ∧ Chg [] w w' := by
  have hn : n ≤ 1073741824 := by have := hrd.1; simp [tot] at this htot; omega
  have HR := Lib.hid hrd
  have HS := Lib.hid hs
  have HT := Lib.hid htot
  have HK := Lib.hid hkd
  clear hrd hs htot hkd
  go_enter Try.func4, Try.ntmps4
  go_wp2_with fail
  refine (speaks_any _).mono ?_
  rintro e w1 ⟨rfl, hc1⟩
  go_wp2_with fail
  refine (run_any A n c base SA sn sc ops _ (HR.out.chg hc1 (by simp)) (HS.out.chg hc1) HT.out hsn).mono ?_
  rintro e w2 ⟨g, L, rfl, hs2, hc2, hn2⟩
  have C2 : Chg [] w w2 := hc1.trans0 hc2
  go_wp2_with fail
  refine (rnew_any A n c base _ hn (HR.out.chg C2 (by simp))).mono ?_
  rintro e w3 ⟨g', L0, rfl, hs3, hc3, hn3⟩
  have HS2 := Lib.hid hs2
  have HLL : Hid (∀ k ∈ L, k < w2.heap.size) := Lib.hid hs2.lt
  have HL : Hid (∀ k ∈ L, w.heap.size ≤ k) := Lib.hid (fun k hk => Nat.le_trans hc1.size (hn2 k hk))
  clear hs2 hn2
  go_wp2_with fail
  go_loopw [22] (fun q wr => ∃ (i : Nat) (M : List Nat), i ≤ sn ∧ q = .int .i64 i ∧ Rsp wr g' M (st base (ops.take i)).1 (st base (ops.take i)).2 ∧ Chg [] w2 wr ∧ ∀ k ∈ M, w2.heap.size ≤ k) (fun q _ => sn - (intOf q).toNat)
  case atStart => exact ⟨0, L0, Nat.zero_le _, rfl, hs3, hc3, hn3⟩
  case round =>
    obtain ⟨i, M, hi, rfl, hsp, hch, hM⟩ := hrel
    by_cases hlt : i < sn
    · obtain ⟨o, ho⟩ : ∃ o, ops[i]? = some o := ⟨_, List.getElem?_eq_getElem (by have := HS.out.1; omega)⟩
      obtain ⟨ad, D, dn, dc, K2, kn2, kc2, rfl, x0, x1, x2, hrD, hrK⟩ := (HS.out.chg (C2.trans0 hch)).2 i o ho
      have hdl : o.data.length = dn := by have := hrD.1; simp at this; omega
      have htk := tot_take base ops (i + 1)
      rw [take_snoc ops i o ho, tot_snoc] at htk
      have hsl := st_le base (ops.take i)
      rw [List.length_take] at hsl
      have d63 : dn ≤ 1073741824 := by have := HT.out; omega
      have hst : st base (ops.take (i + 1)) = st1 (st base (ops.take i)) o := by rw [take_snoc ops i o ho, st_snoc]
      obtain ⟨b2, b3⟩ : (st base (ops.take i)).2.length ≤ 1073741824 ∧ (st base (ops.take i)).1.length + (st base (ops.take i)).2.flatten.length ≤ 1073741824 := by have := HT.out; refine ⟨by omega, by omega⟩
      have HO := Lib.hid ho
      have HSP := Lib.hid hsp
      have HC := Lib.hid hch
      have HM := Lib.hid hM
      have HD := Lib.hid hrD
      have HB2 := Lib.hid b2
      have HB3 := Lib.hid b3
      have HST := Lib.hid hst
      have HDL := Lib.hid hdl
      have next : ∀ (w' : World) (M' : List Nat), Rsp w' g' M' (st1 (st base (ops.take i)) o).1 (st1 (st base (ops.take i)) o).2 → Chg M wr w' → (∀ k ∈ M', k ∈ M ∨ wr.heap.size ≤ k) →
          Rsp w' g' M' (st base (ops.take (i + 1))).1 (st base (ops.take (i + 1))).2 ∧ Chg [] w2 w' ∧ ∀ k ∈ M', w2.heap.size ≤ k := fun w' M' h1 h2 h3 =>
        ⟨by rw [HST.out]; exact h1, HC.out.trans h2 (fun x hx => .inr (HM.out x hx)), fun k hk => by
          rcases h3 k hk with h | h
          · exact HM.out k h
          · exact Nat.le_trans HC.out.size h⟩
      have HN := Lib.hid next
      have HA := Lib.hid (and3 o.kind)
      clear next ho hsp hch hM hrD hrK hs3 hn3 hst hsl htk b2 b3 hdl
      have h4 : o.kind % 4 = 0 ∨ o.kind % 4 = 1 ∨ o.kind % 4 = 2 ∨ o.kind % 4 = 3 := by omega
      have e3 : Chg [] wr (wr.alloc (.cells #[.int .i64 o.kind, .slice D dn dc, .slice K2 kn2 kc2] 34)) := (Chg.refl [] wr).alloc _
      have E3 := Lib.hid e3
      clear e3
      rcases h4 with h4 | h4 | h4 | h4
      all_goals
        have hA := HA.out
        rw [h4] at hA
        have H4 := Lib.hid h4
        clear h4
      iterate 2
        · by_cases hd0 : dn = 0
          · subst hd0
            have HE0 : Hid (o.data = []) := Lib.hid (List.eq_nil_of_length_eq_zero HDL.out)
            go_wp2_with fail
            refine (rappend_nil g' M _ _ D dc _ (HSP.out.chg E3.out (by simp))).mono ?_
            rintro e w4 ⟨L4, rfl, hs4, hc4, hl4⟩
            go_wp2
            go_roundw
            case rel =>
              obtain ⟨z1, z2, z3⟩ := HN.out w4 L4 (by rw [st1, if_pos (by rw [H4.out]; decide), if_pos HE0.out]; exact hs4) ((E3.out.nil M).trans hc4 (fun x hx => .inl hx)) (fun k hk => by rcases hl4 k hk with h | h; exact .inl h; right; exact Nat.le_trans E3.out.size h)
              exact ⟨i + 1, L4, by omega, by go_num, z1, z2, z3⟩
            case measure => simp [intOf]; omega
          · have HE0 : Hid (¬ o.data = []) := Lib.hid (fun e => hd0 (by have := HDL.out; rw [e] at this; simpa using this.symm))
            have hpos : 0 < dn := by omega
            go_wp2_with fail
            refine (rappend_some g' M _ _ D dn dc o.data _ (HSP.out.chg E3.out (by simp)) hpos d63 HB2.out (HD.out.chg E3.out (by simp))).mono ?_
            rintro e w4 ⟨L4, rfl, hs4, hc4, hl4⟩
            go_wp2
            go_roundw
            case rel =>
              obtain ⟨z1, z2, z3⟩ := HN.out w4 L4 (by rw [st1, if_pos (by rw [H4.out]; decide), if_neg HE0.out]; exact hs4) ((E3.out.nil M).trans hc4 (fun x hx => .inl hx)) (fun k hk => by rcases hl4 k hk with h | h; exact .inl h; right; exact Nat.le_trans E3.out.size h)
              exact ⟨i + 1, L4, by omega, by go_num, z1, z2, z3⟩
            case measure => simp [intOf]; omega
      · go_wp2_with fail
        refine (rsync_any g' M _ _ _ (HSP.out.chg E3.out (by simp)) HB3.out HB2.out).mono ?_
        rintro e w4 ⟨L4, rfl, hs4, hc4, hl4⟩
        go_wp2
        go_roundw
        case rel =>
          obtain ⟨z1, z2, z3⟩ := HN.out w4 L4 (by rw [st1, if_neg (by rw [H4.out]; decide), if_pos H4.out]; exact hs4) ((E3.out.nil M).trans hc4 (fun x hx => .inl hx)) (fun k hk => by rcases hl4 k hk with h | h; exact .inl h; right; exact Nat.le_trans E3.out.size h)
          exact ⟨i + 1, L4, by omega, by go_num, z1, z2, z3⟩
        case measure => simp [intOf]; omega
      · go_wp2
        go_roundw
        case rel =>
          obtain ⟨z1, z2, z3⟩ := HN.out (wr.alloc (.cells #[.int .i64 o.kind, .slice D dn dc, .slice K2 kn2 kc2] 34)) M (by rw [st1, if_neg (by rw [H4.out]; decide), if_neg (by rw [H4.out]; decide)]; exact HSP.out.chg E3.out (by simp)) (E3.out.nil M) (fun k hk => .inl hk)
          exact ⟨i + 1, M, by omega, by go_num, z1, z2, z3⟩
        case measure => simp [intOf]; omega
    · have him : ops.take i = ops := List.take_of_length_le (by have := HS.out.1; omega)
      rw [him] at hsp
      have hsl := st_le base ops
      have sl1 : (st base ops).1.length + (st base ops).2.flatten.length ≤ 1073741824 := by have := HT.out; omega
      have sl2 : (st base ops).2.length ≤ 1073741824 := by have := HS.out.1; omega
      have HSP := Lib.hid hsp
      have HC := Lib.hid hch
      have HS1 := Lib.hid sl1
      have HS2' := Lib.hid sl2
      clear hsp hM hsl sl1 sl2 hs3 hn3 him
      obtain ⟨N, hN⟩ : ∃ N, (aft (st base ops).1 (st base ops).1.length (st base ops).2 ks).length = N := ⟨_, rfl⟩
      have hNl : N ≤ 1073741824 := by
        have := aft_le (st base ops).1 (st base ops).1.length (st base ops).2 ks (Nat.le_refl _)
        have := HS1.out
        omega
      obtain ⟨N2, hN2⟩ : ∃ N2, ((st base ops).1 ++ (st base ops).2.flatten).length = N2 := ⟨_, rfl⟩
      have hNl2 : N2 ≤ 1073741824 := by rw [← hN2, List.length_append]; exact HS1.out
      have HN := Lib.hid hN
      have HN2 := Lib.hid hN2
      clear hN hN2
      have hKr := (HK.out.chg (C2.trans0 HC.out) (by simp))
      have HKR := Lib.hid hKr
      clear hKr
      obtain ⟨wo, hwo⟩ : ∃ wo : World, wo = wr := ⟨_, rfl⟩
      subst hwo
      go_wp2_with (at_builtin; refine wpList_app rfl _ _ rfl etyBools rfl (Own.lit wo 4 1 #[] 0 (by decide) rfl) rfl (HKR.out.chg ((Chg.refl [] wo).alloc _) (by simp)) (kv_one ks) (by unfold maxLen; omega) (by omega) ?_; intro A5 c5 w5 ho5 hc5 hn5 _)
      have e5 : Chg [] wo w5 := ((Chg.refl [] wo).alloc (.cells #[] 4)).trans hc5 (fun x hx => .inr (by simp at hx; omega))
      have s5 : Spo w5 g L (st base ops).1 (st base ops).2 := HS2.out.chg (HC.out.trans0 e5) (by simp)
      have r5 : Rsp w5 g' M (st base ops).1 (st base ops).2 := HSP.out.chg e5 (by simp)
      refine (after_any g L _ _ A5 kn c5 ks _ s5 HS1.out HS2'.out hkn (by simpa using ho5.rd) N HN.out).mono ?_
      rintro e w6 ⟨A6, c6, rfl, ho6, hc6, hn6⟩
      go_wp2_with fail
      refine (rafter_any g' M _ _ K kn kc ks _ (r5.chg hc6 (by simp)) HS1.out HS2'.out hkn (HKR.out.chg (e5.trans0 hc6) (by simp)) N HN.out).mono ?_
      rintro e w7 ⟨A7, c7, rfl, ho7, hc7, hn7⟩
      go_wp2_with fail
      refine (same_true A6 N c6 _ A7 N c7 _ hNl (ho6.chg hc7 (by simp)).rd ho7.rd).mono ?_
      rintro e w8 ⟨rfl, hc8⟩
      have e8 : Chg [] w5 w8 := (hc6.trans0 hc7).trans0 hc8
      go_wp2_with fail
      refine (seen_any g L _ _ _ (s5.chg e8 (by simp)) HS1.out N2 HN2.out).mono ?_
      rintro e w9 ⟨A9, c9, rfl, ho9, hc9, hn9⟩
      go_wp2_with fail
      refine (rseen_any g' M _ _ _ (r5.chg (e8.trans0 hc9) (by simp)) HS1.out HS2'.out N2 HN2.out).mono ?_
      rintro e w10 ⟨A10, c10, rfl, ho10, hc10, hn10⟩
      go_wp2_with fail
      refine (same_true A9 N2 c9 _ A10 N2 c10 _ hNl2 (ho9.chg hc10 (by simp)).rd ho10.rd).mono ?_
      rintro e w11 ⟨rfl, hc11⟩
      go_wp2
      go_ret
      exact ⟨rfl, C2.trans0 (HC.out.trans0 (e5.trans0 (((e8.trans0 hc9).trans0 hc10).trans0 hc11)))⟩
end Go.Proofs.Ytiipgfhogkeeoaa
