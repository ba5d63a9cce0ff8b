/-
  The program's Spool: After.
-/
import Derived.Test.YtgomofeidghmiaaSpD
import Derived.Test.YtgomofeidghmiaaMemZ
namespace Go.Proofs.Ytgomofeidghmiaa
open Go.RowKit

/-- what a loss of power leaves: 'out' so far, 'from' where the next write begins -/
def aft (out : List Int) (start : Nat) : List (List Int) → List Bool → List Int
  | [], _ => out
  | x :: r, ks => aft (if ks.headD false then out ++ List.replicate (start - out.length) 0 ++ x else out) (start + x.length) r ks.tail

theorem aft_snoc (out : List Int) (start : Nat) (ws : List (List Int)) (x : List Int) (ks : List Bool) :
    aft out start (ws ++ [x]) ks = if ks[ws.length]?.getD false then aft out start ws ks ++ List.replicate (start + ws.flatten.length - (aft out start ws ks).length) 0 ++ x else aft out start ws ks := by
  induction ws generalizing out start ks with
  | nil => cases ks <;> simp [aft]
  | cons y r ih =>
    simp only [List.cons_append, aft, ih]
    cases ks with
    | nil => simp
    | cons k ks => simp [Nat.add_assoc]
theorem aft_le (out : List Int) (start : Nat) (ws : List (List Int)) (ks : List Bool) (h : out.length ≤ start) : (aft out start ws ks).length ≤ start + ws.flatten.length := by
  induction ws generalizing out start ks with
  | nil => simpa [aft] using h
  | cons y r ih =>
    simp only [aft, List.flatten_cons, List.length_append]
    have : (if ks.headD false then out ++ List.replicate (start - out.length) 0 ++ y else out).length ≤ start + y.length := by
      split
      · simp; omega
      · omega
    have := ih _ _ ks.tail this
    omega

theorem seg_at (base : List Int) (ws : List (List Int)) (i : Nat) (x : List Int) (h : ws[i]? = some x) : ((base ++ ws.flatten).drop (base.length + (ws.take i).flatten.length)).take x.length = x := by
  have hi : i < ws.length := (List.getElem?_eq_some_iff.1 h).1
  have e : ws = ws.take i ++ x :: ws.drop (i + 1) := by
    conv => lhs; rw [← List.take_append_drop i ws, List.drop_eq_getElem_cons hi]
    rw [(List.getElem?_eq_some_iff.1 h).2]
  have e2 : base ++ ws.flatten = (base ++ (ws.take i).flatten) ++ (x ++ (ws.drop (i + 1)).flatten) := by
    conv => lhs; rw [e]
    simp
  rw [e2, List.drop_left' (by simp), List.take_left' rfl]

abbrev kv (ks : List Bool) : List Value := ks.map Value.bool
theorem rd_bool {w : World} {A : Option Addr} {n c : Nat} {ks : List Bool} (h : Rd w 1 A n c (kv ks)) {j : Nat} (hj : j < n) :
    ∃ ad x, A = some ad ∧ ks[j]? = some x ∧ w.cell? (ad.add j) = some (.bool x) := by
  obtain ⟨ad, u, h1, h2, h3⟩ := h.at1 hj
  rw [List.getElem?_map] at h2
  cases hz : ks[j]? with
  | none => rw [hz] at h2; cases h2
  | some x => rw [hz] at h2; simp at h2; subst h2; exact ⟨ad, x, h1, rfl, h3⟩

set_option maxRecDepth 100000 in
set_option maxHeartbeats 1600000 in
theorem after_any (g : Nat) (L : List Nat) (base : List Int) (ws : List (List Int)) (K : Option Addr) (kn kc : Nat) (ks : List Bool) (w : World) (h : Spo w g L base ws) (hlen : base.length + ws.flatten.length ≤ 1073741824)
    (hwl : ws.length ≤ 1073741824) (hkn : kn ≤ 1073741824) (hkd : Rd w 1 K kn kc (kv ks)) (N0 : Nat) (hN0 : (aft base base.length ws ks).length = N0) :
    Calls Try.prog 48 #[.pointer (some ⟨g, 0, none⟩), .slice K kn kc] w (NewRow 5 1 w (bv (aft base base.length ws ks)) N0) := by
  subst hN0
  have HS := Lib.hid h
  obtain ⟨A, n, c, M, m, dm, s, hb, h1, h2, rfl, hn, hm, hs⟩ := h
  have n63 : n ≤ 1073741824 := by omega
  have m63 : m ≤ 1073741824 := by omega
  have hkl : ks.length = kn := by have := hkd.1; simp at this; omega
  have HE := Lib.hid (show n = base.length + ws.flatten.length ∧ m = ws.length ∧ s = base.length ∧ ks.length = kn from ⟨hn, hm, hs, hkl⟩)
  have HO := Lib.hid h1
  have HM := Lib.hid h2
  have HB := Lib.hid hb
  have HK := Lib.hid hkd
  have HL := Lib.hid hlen
  clear h1 h2 hb hn hm hs hkd hkl hlen hwl
  go_enter Try.func48, Try.ntmps48
  go_wp2_with (go_at_call 71; refine (safe_any g _ base ws _ HS.out HL.out base.length rfl).mono ?_; rintro e w1 ⟨A1, c1, rfl, hown, hchg, hnew⟩; have hb1 := HB.out.chg hchg (by simp); have c0 := hb1.cell 0; have c1' := hb1.cell 1; have c2 := hb1.cell 2; simp at c0 c1' c2)
  obtain ⟨hn, hm, hs, hkl⟩ := HE.out
  have hown' : Own w1 5 1 A1 base.length c1 (bv base) := hown
  clear hown c0 c1' c2
  go_loopw [5, 6, 20] (fun o f q wr => ∃ (i F N' : Nat) (A' : Option Addr) (c' : Nat), i ≤ m ∧ o = .slice A' N' c' ∧ f = .int .i64 F ∧ q = .int .i64 i ∧ F = base.length + (ws.take i).flatten.length ∧ N' = (aft base base.length (ws.take i) ks).length ∧
    Own wr 5 1 A' N' c' (bv (aft base base.length (ws.take i) ks)) ∧ Chg [] w wr ∧ (∀ k ∈ bo A', w.heap.size ≤ k)) (fun _ _ q _ => m - (intOf q).toNat)
  case atStart => exact ⟨0, s, _, A1, c1, Nat.zero_le _, rfl, rfl, rfl, by simp [hs], by simp [aft], by simpa [aft] using hown', hchg, hnew⟩
  case round =>
    obtain ⟨i, F, N', A', c', hi, rfl, rfl, rfl, hF, hN, hown, hchg, hnew⟩ := hrel
    have HF := Lib.hid hF
    have HN := Lib.hid hN
    have HW := Lib.hid hnew
    have HG := Lib.hid hkl
    have HNM := Lib.hid (show n = base.length + ws.flatten.length ∧ m = ws.length ∧ s = base.length from ⟨hn, hm, hs⟩)
    have hb1 := HB.out.chg hchg (by simp)
    have c0 := hb1.cell 0
    simp at c0
    by_cases hlt : i < m
    · obtain ⟨x, hx⟩ : ∃ x, ws[i]? = some x := ⟨_, List.getElem?_eq_getElem (by omega)⟩
      have hend := ends_at base.length ws i x hx
      have hle := aft_le base base.length (ws.take i) ks (Nat.le_refl _)
      have hts := take_snoc ws i x hx
      have hfl : (ws.take (i + 1)).flatten.length = (ws.take i).flatten.length + x.length := by rw [hts, flat_snoc]
      have htot : (ws.take (i + 1)).flatten.length ≤ ws.flatten.length := by
        conv => rhs; rw [← List.take_append_drop (i + 1) ws, List.flatten_append, List.length_append]
        omega
      obtain ⟨E, hE⟩ : ∃ E, E = base.length + (ws.take i).flatten.length + x.length := ⟨_, rfl⟩
      rw [← hE] at hend
      obtain ⟨ad, u, rfl, hu, hcu⟩ := rd_byte ((HM.out.rd).chg hchg (by simp)) hlt
      rw [hend] at hu
      simp at hu
      subst hu
      have q1 : F ≤ E := by omega
      have q2 : E ≤ n := by have := HL.out; omega
      have q3 : N' ≤ F := by omega
      have q4 := HO.out.rd.2.1
      obtain ⟨S, hsl, hrs, hbs⟩ := run_slice2 etyBytes (HO.out.rd) (show F ≤ E by omega) q2
      have hrs' : Rd w 1 S (E - F) (c - F) (bv x) := by
        rw [Nat.mul_one, Nat.mul_one, show E - F = x.length by omega, hF, ← List.map_drop, ← List.map_take, seg_at base ws i x hx] at hrs
        rw [show E - F = x.length by omega, hF]
        exact hrs
      have hrs2 := hrs'.chg hchg (by simp)
      have hAlt := HO.out.lt
      have hdis : ∀ k ∈ bo S, k ∉ bo A' := fun k hk hk' => by have h1 := hAlt k (hbs k hk); have h2 := hnew k hk'; omega
      have hga : g ∉ bo A' := fun hh => by have h1 := HB.out.lt; have h2 := hnew g hh; omega
      have HRS := Lib.hid hrs2
      have HDIS := Lib.hid hdis
      have HGA := Lib.hid hga
      have HBS := Lib.hid hbs
      have HQ := Lib.hid (show F = base.length + (ws.take i).flatten.length ∧ E = F + x.length from ⟨hF, by omega⟩)
      have HX := Lib.hid hx
      clear hrs hrs' hrs2 hAlt hdis hga hbs hF hN hnew hkl hn hm hs hx hend hle hts hfl htot hE
      by_cases hki : i < kn
      · obtain ⟨kd, b, rfl, hkb, hck⟩ := rd_bool (HK.out.chg hchg (by simp)) hki
        have HKB := Lib.hid hkb
        clear hkb
        cases b with
        | true =>
          have q5 : F - N' ≤ 1073741824 := by omega
          go_wp2_with (first
            | (at_builtin; refine wpList_app_zeros rfl _ _ rfl etyBytes Try.underlying3 rfl rfl rfl hown (F - N') (by show Value.int .i64 _ = _; congr 1; omega) (by unfold maxLen; omega) (by omega) ?_; intro A2 c2 w2 hown2 hchg2 hnew2; have hb2 := hb1.chg hchg2 HGA.out; have d0 := hb2.cell 0; simp at d0; rw [show N' + (F - N') = F by omega] at hown2)
            | (at_builtin; go_must (refine wpList_app rfl _ _ rfl etyBytes rfl hown2 rfl (HRS.out.chg hchg2 HDIS.out) (bv_one x) (by unfold maxLen; omega) (by omega) ?_); intro A3 c3 w3 hown3 hchg3 hnew3 _))
          go_roundw
          case rel =>
            obtain ⟨hF, hE⟩ := HQ.out
            have haft : aft base base.length (ws.take (i + 1)) ks = aft base base.length (ws.take i) ks ++ List.replicate (F - N') 0 ++ x := by
              rw [take_snoc ws i x HX.out, aft_snoc, List.length_take, Nat.min_eq_left (Nat.le_of_lt (List.getElem?_eq_some_iff.1 HX.out).1), HKB.out, HN.out, hF]; rfl
            refine ⟨i + 1, E, E, A3, c3, by omega, by first | rfl | (congr 1; omega), rfl, by go_num, ?_, ?_, ?_, ?_, ?_⟩
            · rw [take_snoc ws i x HX.out, flat_snoc]; omega
            · rw [haft]; simp [← HN.out]; omega
            · rw [haft]
              rw [show F + (E - F) = E by omega] at hown3
              simpa [List.append_assoc] using hown3
            · exact (hchg.trans hchg2 (fun y hy => .inr (HW.out y hy))).trans hchg3 (fun y hy => by
                rcases hnew2 y hy with h1 | h1
                · exact .inr (HW.out y h1)
                · right; have := hchg.size; omega)
            · intro y hy
              have := hchg.size
              have h2 := hchg2.size
              rcases hnew3 y hy with h1 | h1
              · rcases hnew2 y h1 with h1 | h1
                · exact HW.out y h1
                · omega
              · omega
          case measure => simp [intOf]; omega
        | false =>
          go_wp2
          go_roundw
          case rel =>
            obtain ⟨hF, hE⟩ := HQ.out
            have haft : aft base base.length (ws.take (i + 1)) ks = aft base base.length (ws.take i) ks := by
              rw [take_snoc ws i x HX.out, aft_snoc, List.length_take, Nat.min_eq_left (Nat.le_of_lt (List.getElem?_eq_some_iff.1 HX.out).1), HKB.out]; rfl
            exact ⟨i + 1, E, N', A', c', by omega, rfl, rfl, by go_num, by rw [take_snoc ws i x HX.out, flat_snoc]; omega, by rw [haft]; exact HN.out, by rw [haft]; exact hown, hchg, HW.out⟩
          case measure => simp [intOf]; omega
      · have hkb : ks[i]? = none := List.getElem?_eq_none (by rw [HG.out]; omega)
        have HKB := Lib.hid hkb
        clear hkb
        go_wp2
        go_roundw
        case rel =>
          obtain ⟨hF, hE⟩ := HQ.out
          have haft : aft base base.length (ws.take (i + 1)) ks = aft base base.length (ws.take i) ks := by
            rw [take_snoc ws i x HX.out, aft_snoc, List.length_take, Nat.min_eq_left (Nat.le_of_lt (List.getElem?_eq_some_iff.1 HX.out).1), HKB.out]; rfl
          exact ⟨i + 1, E, N', A', c', by omega, rfl, rfl, by go_num, by rw [take_snoc ws i x HX.out, flat_snoc]; omega, by rw [haft]; exact HN.out, by rw [haft]; exact hown, hchg, HW.out⟩
        case measure => simp [intOf]; omega
    · go_wp2
      go_ret
      have him : ws.take i = ws := List.take_of_length_le (by omega)
      have hown5 := hown
      rw [him] at hown5
      have hN5 := HN.out
      rw [him] at hN5
      rw [← hN5]
      exact ⟨A', c', rfl, hown5, hchg, HW.out⟩
end Go.Proofs.Ytgomofeidghmiaa
