/-
  Layer 17: SameInts, SameLinks, SameGroups, Same, same, copied.
-/
import Derived.Test.YtelmnmepdmfihaaGrR
import Derived.Deep.QuietTactic
import Derived.BigQuiet
import Derived.WalkSpells
import Derived.Laws.StructEq
import Derived.Deep.RegionHeld3
import Derived.Test.YtelmnmepdmfihaaGrN
namespace Go.Proofs.Ytelmnmepdmfihaa
open Go.RowKit

theorem bne_int (x y : Int) : (x != y) = !(x == y) := rfl

set_option maxHeartbeats 800000 in
theorem sameInts_any (A : Option Addr) (n c : Nat) (xs : List Int) (B : Option Addr) (m d : Nat) (ys : List Int) (w : World) (hn : n ≤ 1073741824) (hm : m ≤ 1073741824)
    (ha : Rd w 1 A n c (iv xs)) (hb : Rd w 1 B m d (iv ys)) :
    Calls Try.prog 23 #[.slice A n c, .slice B m d] w fun e w' => e = .returned (.bool (decide (xs = ys))) ∧ Chg [] w w' := by
  have hlx : xs.length = n := by have := ha.1; simp at this; omega
  have hly : ys.length = m := by have := hb.1; simp at this; omega
  have HA := Lib.hid ha
  have HB := Lib.hid hb
  by_cases hnm : n = m
  · subst hnm
    have HX := Lib.hid hlx
    have HY := Lib.hid hly
    clear ha hb hlx hly
    go_enter Try.func23, Try.ntmps23
    go_wp2
    go_loopw [5] (fun i wr => ∃ k : Nat, k ≤ n ∧ i = .int .i64 k ∧ xs.take k = ys.take k ∧ Chg [] w wr) (fun i _ => n - (intOf i).toNat)
    case atStart => exact ⟨0, Nat.zero_le _, rfl, rfl, Chg.refl _ _⟩
    case round =>
      obtain ⟨k, hk, rfl, heq, hchg⟩ := hrel
      by_cases hlt : k < n
      · obtain ⟨ad, x, rfl, hx, hcx⟩ := rd_int (HA.out.chg hchg (by simp)) hlt
        obtain ⟨bd, y, rfl, hy, hcy⟩ := rd_int (HB.out.chg hchg (by simp)) hlt
        have HXk := Lib.hid hx
        have HYk := Lib.hid hy
        have HE := Lib.hid heq
        clear hx hy heq
        have h0 : (0 : Int) ≤ k := by omega
        have h1 : (k : Int) < n := by omega
        go_wp2
        by_cases hxy : x = y
        · have hxy' : (x == y) = true := by simp [hxy]
          have hxy2 : (x != y) = false := by simp [hxy]
          have HXY := Lib.hid hxy
          clear hxy
          go_quiet (fail)
          go_wp2
          go_roundw
          case rel => exact ⟨k + 1, by omega, by go_num, by rw [take_snoc _ _ _ HXk.out, take_snoc _ _ _ HYk.out, HE.out, HXY.out], hchg.drewN _⟩
          case measure => simp [intOf]; omega
        · have hxy' : (x == y) = false := by simp [hxy]
          have hxy2 : (x != y) = true := by simp [hxy]
          go_quiet (fail)
          go_wp2
          go_ret
          refine ⟨?_, hchg.drewN _⟩
          have hne : xs ≠ ys := by
            rintro rfl
            rw [HXk.out] at HYk
            have := HYk.out
            simp at this
            exact hxy this
          simp [hne]
      · go_wp2
        go_ret
        refine ⟨?_, hchg⟩
        have hkn : k = n := by omega
        subst hkn
        rw [List.take_of_length_le (by rw [HX.out]; exact Nat.le_refl _), List.take_of_length_le (by rw [HY.out]; exact Nat.le_refl _)] at heq
        simp [heq]
  · have hne : xs ≠ ys := by rintro rfl; omega
    have HE := Lib.hid hne
    have h1 : ((n : Int) == m) = false := by simp; omega
    have h2 : ((n : Int) != m) = true := by simp; omega
    clear ha hb hlx hly hne
    go_enter Try.func23, Try.ntmps23
    go_wp2
    go_ret
    refine ⟨?_, Chg.refl _ _⟩
    simp [HE.out]


set_option maxRecDepth 100000 in
theorem lk_neq (a b : Lk) (w : World) : (binOp .neq 55 (.agg #[.bool a.live, .int .i64 a.src, .int .i64 a.dst, .int .i64 a.sp, .int .i64 a.tp, .int .i64 a.sn, .int .i64 a.tn]) (.agg #[.bool b.live, .int .i64 b.src, .int .i64 b.dst, .int .i64 b.sp, .int .i64 b.tp, .int .i64 b.sn, .int .i64 b.tn])).run Try.prog w = .ok (.bool (a != b)) w := by
  rw [run_neq_struct, run_equalIn_agg w 9999 55 _ _ Try.underlying55 (by kernel_rfl)]
  simp only [Program.fieldsOf, Try.underlying55]
  have e1 : (a != b) = !(a.live == b.live && (a.src == b.src && (a.dst == b.dst && (a.sp == b.sp && (a.tp == b.tp && (a.sn == b.sn && a.tn == b.tn)))))) := by
    unfold bne
    congr 1
    rw [Bool.eq_iff_iff]
    cases a; cases b; simp [Lk.mk.injEq]
  rw [e1]
  cases h0 : (a.live == b.live)
  · go_simp
  cases h1 : (a.src == b.src)
  · go_simp
  cases h2 : (a.dst == b.dst)
  · go_simp
  cases h3 : (a.sp == b.sp)
  · go_simp
  cases h4 : (a.tp == b.tp)
  · go_simp
  cases h5 : (a.sn == b.sn)
  · go_simp
  cases h6 : (a.tn == b.tn)
  · go_simp
  go_simp

set_option maxHeartbeats 1600000 in
theorem sameLinks_any (A : Option Addr) (n c : Nat) (xs : List Lk) (B : Option Addr) (m d : Nat) (ys : List Lk) (w : World) (hn : n ≤ 1073741824) (hm : m ≤ 1073741824)
    (ha : Rd w 7 A n c (lvs xs)) (hb : Rd w 7 B m d (lvs ys)) :
    Calls Try.prog 18 #[.slice A n c, .slice B m d] w fun e w' => e = .returned (.bool (decide (xs = ys))) ∧ Chg [] w w' := by
  have hlx : xs.length = n := by have := ha.1; rw [lvs_length] at this; omega
  have hly : ys.length = m := by have := hb.1; rw [lvs_length] at this; omega
  have HA := Lib.hid ha
  have HB := Lib.hid hb
  by_cases hnm : n = m
  · subst hnm
    have HX := Lib.hid hlx
    have HY := Lib.hid hly
    clear ha hb hlx hly
    go_enter Try.func18, Try.ntmps18
    go_wp2
    go_loopw [5] (fun i wr => ∃ k : Nat, k ≤ n ∧ i = .int .i64 k ∧ xs.take k = ys.take k ∧ Chg [] w wr) (fun i _ => n - (intOf i).toNat)
    case atStart => exact ⟨0, Nat.zero_le _, rfl, rfl, Chg.refl _ _⟩
    case round =>
      obtain ⟨k, hk, rfl, heq, hchg⟩ := hrel
      by_cases hlt : k < n
      · obtain ⟨x, hx⟩ : ∃ l, xs[k]? = some l := ⟨_, List.getElem?_eq_getElem (by have := HX.out; omega)⟩
        obtain ⟨y, hy⟩ : ∃ l, ys[k]? = some l := ⟨_, List.getElem?_eq_getElem (by have := HY.out; omega)⟩
        obtain ⟨ad, rfl, c0, c1, c2, c3, c4, c5, c6⟩ := (HA.out.chg hchg (by simp)).lk hx
        obtain ⟨bd, rfl, d0, d1, d2, d3, d4, d5, d6⟩ := (HB.out.chg hchg (by simp)).lk hy
        have HXk := Lib.hid hx
        have HYk := Lib.hid hy
        have HE := Lib.hid heq
        clear hx hy heq
        have h0 : (0 : Int) ≤ k := by omega
        have h1 : (k : Int) < n := by omega
        have qN := fun w => lk_neq x y w
        go_wp2
        by_cases hxy : x = y
        · have hxy2 : (x != y) = false := by simp [hxy]
          have HXY := Lib.hid hxy
          clear hxy
          go_quiet (fail)
          go_wp2
          go_roundw
          case rel => exact ⟨k + 1, by omega, by go_num, by rw [take_snoc _ _ _ HXk.out, take_snoc _ _ _ HYk.out, HE.out, HXY.out], hchg.drewN _⟩
          case measure => simp [intOf]; omega
        · have hxy2 : (x != y) = true := by simp [hxy]
          go_quiet (fail)
          go_wp2
          go_ret
          refine ⟨?_, hchg.drewN _⟩
          have hne : xs ≠ ys := by
            rintro rfl
            rw [HXk.out] at HYk
            have := HYk.out
            simp at this
            exact hxy this
          simp [hne]
      · go_wp2
        go_ret
        refine ⟨?_, hchg⟩
        have hkn : k = n := by omega
        subst hkn
        rw [List.take_of_length_le (by rw [HX.out]; exact Nat.le_refl _), List.take_of_length_le (by rw [HY.out]; exact Nat.le_refl _)] at heq
        simp [heq]
  · have hne : xs ≠ ys := by rintro rfl; omega
    have HE := Lib.hid hne
    have h1 : ((n : Int) == m) = false := by simp; omega
    have h2 : ((n : Int) != m) = true := by simp; omega
    clear ha hb hlx hly hne
    go_enter Try.func18, Try.ntmps18
    go_wp2
    go_ret
    refine ⟨?_, Chg.refl _ _⟩
    simp [HE.out]


set_option maxRecDepth 100000 in
theorem gr_neq (a b : Lk) (w : World) : (binOp .neq 58 (.agg #[.bool a.live, .int .i64 a.src, .int .i64 a.dst, .int .i64 a.sp, .int .i64 a.tp, .int .i64 a.sn, .int .i64 a.tn]) (.agg #[.bool b.live, .int .i64 b.src, .int .i64 b.dst, .int .i64 b.sp, .int .i64 b.tp, .int .i64 b.sn, .int .i64 b.tn])).run Try.prog w = .ok (.bool (a != b)) w := by
  rw [run_neq_struct, run_equalIn_agg w 9999 58 _ _ Try.underlying58 (by kernel_rfl)]
  simp only [Program.fieldsOf, Try.underlying58]
  have e1 : (a != b) = !(a.live == b.live && (a.src == b.src && (a.dst == b.dst && (a.sp == b.sp && (a.tp == b.tp && (a.sn == b.sn && a.tn == b.tn)))))) := by
    unfold bne
    congr 1
    rw [Bool.eq_iff_iff]
    cases a; cases b; simp [Lk.mk.injEq]
  rw [e1]
  cases h0 : (a.live == b.live)
  · go_simp
  cases h1 : (a.src == b.src)
  · go_simp
  cases h2 : (a.dst == b.dst)
  · go_simp
  cases h3 : (a.sp == b.sp)
  · go_simp
  cases h4 : (a.tp == b.tp)
  · go_simp
  cases h5 : (a.sn == b.sn)
  · go_simp
  cases h6 : (a.tn == b.tn)
  · go_simp
  go_simp

set_option maxHeartbeats 1600000 in
theorem sameGroups_any (A : Option Addr) (n c : Nat) (xs : List Lk) (B : Option Addr) (m d : Nat) (ys : List Lk) (w : World) (hn : n ≤ 1073741824) (hm : m ≤ 1073741824)
    (ha : Rd w 7 A n c (lvs xs)) (hb : Rd w 7 B m d (lvs ys)) :
    Calls Try.prog 19 #[.slice A n c, .slice B m d] w fun e w' => e = .returned (.bool (decide (xs = ys))) ∧ Chg [] w w' := by
  have hlx : xs.length = n := by have := ha.1; rw [lvs_length] at this; omega
  have hly : ys.length = m := by have := hb.1; rw [lvs_length] at this; omega
  have HA := Lib.hid ha
  have HB := Lib.hid hb
  by_cases hnm : n = m
  · subst hnm
    have HX := Lib.hid hlx
    have HY := Lib.hid hly
    clear ha hb hlx hly
    go_enter Try.func19, Try.ntmps19
    go_wp2
    go_loopw [5] (fun i wr => ∃ k : Nat, k ≤ n ∧ i = .int .i64 k ∧ xs.take k = ys.take k ∧ Chg [] w wr) (fun i _ => n - (intOf i).toNat)
    case atStart => exact ⟨0, Nat.zero_le _, rfl, rfl, Chg.refl _ _⟩
    case round =>
      obtain ⟨k, hk, rfl, heq, hchg⟩ := hrel
      by_cases hlt : k < n
      · obtain ⟨x, hx⟩ : ∃ l, xs[k]? = some l := ⟨_, List.getElem?_eq_getElem (by have := HX.out; omega)⟩
        obtain ⟨y, hy⟩ : ∃ l, ys[k]? = some l := ⟨_, List.getElem?_eq_getElem (by have := HY.out; omega)⟩
        obtain ⟨ad, rfl, c0, c1, c2, c3, c4, c5, c6⟩ := (HA.out.chg hchg (by simp)).lk hx
        obtain ⟨bd, rfl, d0, d1, d2, d3, d4, d5, d6⟩ := (HB.out.chg hchg (by simp)).lk hy
        have HXk := Lib.hid hx
        have HYk := Lib.hid hy
        have HE := Lib.hid heq
        clear hx hy heq
        have h0 : (0 : Int) ≤ k := by omega
        have h1 : (k : Int) < n := by omega
        have qN := fun w => gr_neq x y w
        go_wp2
        by_cases hxy : x = y
        · have hxy2 : (x != y) = false := by simp [hxy]
          have HXY := Lib.hid hxy
          clear hxy
          go_quiet (fail)
          go_wp2
          go_roundw
          case rel => exact ⟨k + 1, by omega, by go_num, by rw [take_snoc _ _ _ HXk.out, take_snoc _ _ _ HYk.out, HE.out, HXY.out], hchg.drewN _⟩
          case measure => simp [intOf]; omega
        · have hxy2 : (x != y) = true := by simp [hxy]
          go_quiet (fail)
          go_wp2
          go_ret
          refine ⟨?_, hchg.drewN _⟩
          have hne : xs ≠ ys := by
            rintro rfl
            rw [HXk.out] at HYk
            have := HYk.out
            simp at this
            exact hxy this
          simp [hne]
      · go_wp2
        go_ret
        refine ⟨?_, hchg⟩
        have hkn : k = n := by omega
        subst hkn
        rw [List.take_of_length_le (by rw [HX.out]; exact Nat.le_refl _), List.take_of_length_le (by rw [HY.out]; exact Nat.le_refl _)] at heq
        simp [heq]
  · have hne : xs ≠ ys := by rintro rfl; omega
    have HE := Lib.hid hne
    have h1 : ((n : Int) == m) = false := by simp; omega
    have h2 : ((n : Int) != m) = true := by simp; omega
    clear ha hb hlx hly hne
    go_enter Try.func19, Try.ntmps19
    go_wp2
    go_ret
    refine ⟨?_, Chg.refl _ _⟩
    simp [HE.out]


set_option maxRecDepth 100000 in
set_option maxHeartbeats 1600000 in
/-- two lists of bunches that read the same are told to be one -/
theorem same_any (A : Option Addr) (n c : Nat) (B : Option Addr) (m d : Nat) (bs : List Bn) (w : World) (hn : n ≤ 1073741824) (hln : bs.length = n) (hlm : bs.length = m) (hfl : ∀ (i : Nat) (b : Bn), bs[i]? = some b → ∀ k, k < 3 → (b.f k).length ≤ 1073741824)
    (ha : BRd w A n c bs) (hb : BRd w B m d bs) : Calls Try.prog 12 #[.slice A n c, .slice B m d] w fun e w' => e = .returned (.bool true) ∧ Chg [] w w' := by
  obtain rfl : n = m := hln.symm.trans hlm
  clear hlm
  obtain ⟨ra, hra, hla, hpa⟩ := ha
  obtain ⟨rb, hrb, hlb, hpb⟩ := hb
  have HA := Lib.hid hra
  have HB := Lib.hid hrb
  have HLA := Lib.hid (hla.trans hln)
  have HLB := Lib.hid (hlb.trans hln)
  have HLN := Lib.hid hln
  have HPA := Lib.hid hpa
  have HPB := Lib.hid hpb
  have HFL := Lib.hid hfl
  clear hra hrb hla hlb hln hpa hpb hfl
  go_enter Try.func12, Try.ntmps12
  go_wp2
  go_loopw [5] (fun i wr => ∃ k : Nat, k ≤ n ∧ i = .int .i64 k ∧ Chg [] w wr) (fun i _ => n - (intOf i).toNat)
  case atStart => exact ⟨0, Nat.zero_le _, rfl, Chg.refl _ _⟩
  case round =>
    obtain ⟨k, hk, rfl, hch⟩ := hrel
    have HCH := Lib.hid hch
    clear hch
    by_cases hlt : k < n
    · obtain ⟨p, hp⟩ : ∃ p, ra[k]? = some p := ⟨_, List.getElem?_eq_getElem (by rw [HLA.out]; exact hlt)⟩
      obtain ⟨q, hq⟩ : ∃ q, rb[k]? = some q := ⟨_, List.getElem?_eq_getElem (by rw [HLB.out]; exact hlt)⟩
      obtain ⟨b, hb⟩ : ∃ b, bs[k]? = some b := ⟨_, List.getElem?_eq_getElem (by rw [HLN.out]; exact hlt)⟩
      obtain ⟨ad, rfl, c0, ck⟩ := (HA.out.chg HCH.out (fun _ _ => List.not_mem_nil)).bn hp
      obtain ⟨bd, rfl, d0, dk⟩ := (HB.out.chg HCH.out (fun _ _ => List.not_mem_nil)).bn hq
      obtain ⟨hp1, hp3⟩ := HPA.out k p b hp hb
      obtain ⟨hq1, hq3⟩ := HPB.out k q b hq hb
      have c1 := ck 0 (by decide)
      have c2 := ck 1 (by decide)
      have c3 := ck 2 (by decide)
      have d1 := dk 0 (by decide)
      have d2 := dk 1 (by decide)
      have d3 := dk 2 (by decide)
      obtain ⟨tp, sp⟩ := p
      obtain ⟨tq, sq⟩ := q
      simp only at hp1 hq1 hp3 hq3 c0 c1 c2 c3 d0 d1 d2 d3
      subst hp1
      rw [hq1] at d0
      have f0 := HFL.out k b hb 0 (by decide)
      have f1 := HFL.out k b hb 1 (by decide)
      have f2 := HFL.out k b hb 2 (by decide)
      have l0 := rd_len (hp3 0 (by decide))
      have l1 := rd_len (hp3 1 (by decide))
      have l2 := rd_len (hp3 2 (by decide))
      have m0 := rd_len (hq3 0 (by decide))
      have m1 := rd_len (hq3 1 (by decide))
      have m2 := rd_len (hq3 2 (by decide))
      rw [l0] at f0; rw [l1] at f1; rw [l2] at f2
      have HM0 := Lib.hid (m0.symm.trans l0)
      have HM1 := Lib.hid (m1.symm.trans l1)
      have HM2 := Lib.hid (m2.symm.trans l2)
      have HP3 : Hid (Rd3 wr sp b.f) := Lib.hid (hp3.chg HCH.out (fun _ _ _ _ => List.not_mem_nil))
      have HQ3 : Hid (Rd3 wr sq b.f) := Lib.hid (hq3.chg HCH.out (fun _ _ _ _ => List.not_mem_nil))
      clear hp hq hb hp3 hq3 ck dk hq1 l0 l1 l2 m0 m1 m2
      have h0 : (0 : Int) ≤ k := by omega
      have h1 : (k : Int) < n := by omega
      have hbb : (b.t != b.t) = false := by simp
      go_wp2_with fail
      refine wp_region_held_drew (S := fun w' => Chg [] wr w') (by kernel_rfl) ((Chg.refl _ _).drew) (fun hHeld => ?_)
      refine wpAnyH_take (i := 0) (v := ?_) rfl (by kernel_rfl) (by kernel_rfl) (by kernel_rfl) (fun _ _ _ h => h) (Or.inl ⟨by rfl, ?_⟩) (by assumption) ?_
      rotate_left
      · (intro w' hSw; go_simp; try with_reducible rfl)
      try simp only [Act.put, List.getElem_toArray, List.getElem_cons_zero, List.setIfInBounds_toArray, List.set_cons_zero, List.set_cons_succ]
      refine wpAnyH_take (i := 1) (v := ?_) rfl (by kernel_rfl) (by kernel_rfl) (by kernel_rfl) (fun _ _ _ h => h) (Or.inl ⟨by rfl, ?_⟩) (by assumption) ?_
      rotate_left
      · (intro w' hSw; go_simp; try with_reducible rfl)
      try simp only [Act.put, List.getElem_toArray, List.getElem_cons_zero, List.getElem_cons_succ, List.setIfInBounds_toArray, List.set_cons_zero, List.set_cons_succ]
      refine wpAnyH_take (i := 2) (v := ?_) rfl (by kernel_rfl) (by kernel_rfl) (by kernel_rfl) (fun _ _ _ h => h) (Or.inl ⟨by rfl, ?_⟩) (by assumption) ?_
      rotate_left
      · (intro w' hSw; go_simp; try with_reducible rfl)
      try simp only [Act.put, List.getElem_toArray, List.getElem_cons_zero, List.getElem_cons_succ, List.setIfInBounds_toArray, List.set_cons_zero, List.set_cons_succ]
      refine wpAnyH_take (i := 3) (v := ?_) rfl (by kernel_rfl) (by kernel_rfl) (by kernel_rfl) (fun _ _ _ h => h) (Or.inl ⟨by rfl, ?_⟩) (by assumption) ?_
      rotate_left
      · (intro w' hSw; go_simp; try with_reducible rfl)
      try simp only [Act.put, List.getElem_toArray, List.getElem_cons_zero, List.getElem_cons_succ, List.setIfInBounds_toArray, List.set_cons_zero, List.set_cons_succ]
      refine wpAnyH_take (i := 4) (v := ?_) rfl (by kernel_rfl) (by kernel_rfl) (by kernel_rfl) (fun _ _ _ h => h) (Or.inl ⟨by rfl, ?_⟩) (by assumption) ?_
      rotate_left
      · (intro w' hSw; have q := hSw.cell c0 (fun h => List.not_mem_nil h); go_simp; try with_reducible rfl)
      try simp only [Act.put, List.getElem_toArray, List.getElem_cons_zero, List.getElem_cons_succ, List.setIfInBounds_toArray, List.set_cons_zero, List.set_cons_succ]
      refine wpAnyH_take (i := 5) (v := ?_) rfl (by kernel_rfl) (by kernel_rfl) (by kernel_rfl) (fun _ _ _ h => h) (Or.inl ⟨by rfl, ?_⟩) (by assumption) ?_
      rotate_left
      · (intro w' hSw; go_simp; try with_reducible rfl)
      try simp only [Act.put, List.getElem_toArray, List.getElem_cons_zero, List.getElem_cons_succ, List.setIfInBounds_toArray, List.set_cons_zero, List.set_cons_succ]
      refine wpAnyH_take (i := 6) (v := ?_) rfl (by kernel_rfl) (by kernel_rfl) (by kernel_rfl) (fun _ _ _ h => h) (Or.inl ⟨by rfl, ?_⟩) (by assumption) ?_
      rotate_left
      · (intro w' hSw; go_simp; try with_reducible rfl)
      try simp only [Act.put, List.getElem_toArray, List.getElem_cons_zero, List.getElem_cons_succ, List.setIfInBounds_toArray, List.set_cons_zero, List.set_cons_succ]
      refine wpAnyH_take (i := 7) (v := ?_) rfl (by kernel_rfl) (by kernel_rfl) (by kernel_rfl) (fun _ _ _ h => h) (Or.inl ⟨by rfl, ?_⟩) (by assumption) ?_
      rotate_left
      · (intro w' hSw; go_simp; try with_reducible rfl)
      try simp only [Act.put, List.getElem_toArray, List.getElem_cons_zero, List.getElem_cons_succ, List.setIfInBounds_toArray, List.set_cons_zero, List.set_cons_succ]
      refine wpAnyH_take (i := 8) (v := ?_) rfl (by kernel_rfl) (by kernel_rfl) (by kernel_rfl) (fun _ _ _ h => h) (Or.inl ⟨by rfl, ?_⟩) (by assumption) ?_
      rotate_left
      · (intro w' hSw; go_simp; try with_reducible rfl)
      try simp only [Act.put, List.getElem_toArray, List.getElem_cons_zero, List.getElem_cons_succ, List.setIfInBounds_toArray, List.set_cons_zero, List.set_cons_succ]
      refine wpAnyH_take (i := 9) (v := ?_) rfl (by kernel_rfl) (by kernel_rfl) (by kernel_rfl) (fun _ _ _ h => h) (Or.inl ⟨by rfl, ?_⟩) (by assumption) ?_
      rotate_left
      · (intro w' hSw; have q := hSw.cell d0 (fun h => List.not_mem_nil h); go_simp; try with_reducible rfl)
      try simp only [Act.put, List.getElem_toArray, List.getElem_cons_zero, List.getElem_cons_succ, List.setIfInBounds_toArray, List.set_cons_zero, List.set_cons_succ]
      refine wpAnyH_take (i := 10) (v := ?_) rfl (by kernel_rfl) (by kernel_rfl) (by kernel_rfl) (fun _ _ _ h => h) (Or.inl ⟨by rfl, ?_⟩) (by assumption) ?_
      rotate_left
      · (intro w' hSw; go_simp; try with_reducible rfl)
      try simp only [Act.put, List.getElem_toArray, List.getElem_cons_zero, List.getElem_cons_succ, List.setIfInBounds_toArray, List.set_cons_zero, List.set_cons_succ]
      refine wpAnyH_take (i := 11) (v := ?_) rfl (by kernel_rfl) (by kernel_rfl) (by kernel_rfl) (fun _ _ _ h => h) (Or.inl ⟨by rfl, ?_⟩) (by assumption) ?_
      rotate_left
      · (intro w' hSw; go_simp; try with_reducible rfl)
      try simp only [Act.put, List.getElem_toArray, List.getElem_cons_zero, List.getElem_cons_succ, List.setIfInBounds_toArray, List.set_cons_zero, List.set_cons_succ]
      refine wpAnyH_take (i := 12) (v := ?_) rfl (by kernel_rfl) (by kernel_rfl) (by kernel_rfl) (fun _ _ _ h => h) (Or.inl ⟨by rfl, ?_⟩) (by assumption) ?_
      rotate_left
      · (intro w' hSw; go_simp; try with_reducible rfl)
      try simp only [Act.put, List.getElem_toArray, List.getElem_cons_zero, List.getElem_cons_succ, List.setIfInBounds_toArray, List.set_cons_zero, List.set_cons_succ]
      refine wpAnyH_take (i := 13) (v := ?_) rfl (by kernel_rfl) (by kernel_rfl) (by kernel_rfl) (fun _ _ _ h => h) (Or.inl ⟨by rfl, ?_⟩) (by assumption) ?_
      rotate_left
      · (intro w' hSw; go_simp; try with_reducible rfl)
      try simp only [Act.put, List.getElem_toArray, List.getElem_cons_zero, List.getElem_cons_succ, List.setIfInBounds_toArray, List.set_cons_zero, List.set_cons_succ]
      refine wpAnyH_take (i := 14) (v := ?_) rfl (by kernel_rfl) (by kernel_rfl) (by kernel_rfl) (fun _ _ _ h => h) (Or.inl ⟨by rfl, ?_⟩) (by assumption) ?_
      rotate_left
      · (intro w' hSw; go_simp; try with_reducible rfl)
      try simp only [Act.put, List.getElem_toArray, List.getElem_cons_zero, List.getElem_cons_succ, List.setIfInBounds_toArray, List.set_cons_zero, List.set_cons_succ]
      refine wpAnyH_take (i := 15) (v := ?_) rfl (by kernel_rfl) (by kernel_rfl) (by kernel_rfl) (fun _ _ _ h => h) (Or.inl ⟨by rfl, ?_⟩) (by assumption) ?_
      rotate_left
      · (intro w' hSw; go_simp; try with_reducible rfl)
      try simp only [Act.put, List.getElem_toArray, List.getElem_cons_zero, List.getElem_cons_succ, List.setIfInBounds_toArray, List.set_cons_zero, List.set_cons_succ]
      refine wpAnyH_take (i := 16) (v := ?_) rfl (by kernel_rfl) (by kernel_rfl) (by kernel_rfl) (fun _ _ _ h => h) (Or.inl ⟨by rfl, ?_⟩) (by assumption) ?_
      rotate_left
      · (intro w' hSw; have q := hSw.cell c1 (fun h => List.not_mem_nil h); go_simp; try with_reducible rfl)
      try simp only [Act.put, List.getElem_toArray, List.getElem_cons_zero, List.getElem_cons_succ, List.setIfInBounds_toArray, List.set_cons_zero, List.set_cons_succ]
      refine wpAnyH_take (i := 17) (v := ?_) rfl (by kernel_rfl) (by kernel_rfl) (by kernel_rfl) (fun _ _ _ h => h) (Or.inl ⟨by rfl, ?_⟩) (by assumption) ?_
      rotate_left
      · (intro w' hSw; go_simp; try with_reducible rfl)
      try simp only [Act.put, List.getElem_toArray, List.getElem_cons_zero, List.getElem_cons_succ, List.setIfInBounds_toArray, List.set_cons_zero, List.set_cons_succ]
      refine wpAnyH_take (i := 18) (v := ?_) rfl (by kernel_rfl) (by kernel_rfl) (by kernel_rfl) (fun _ _ _ h => h) (Or.inl ⟨by rfl, ?_⟩) (by assumption) ?_
      rotate_left
      · (intro w' hSw; go_simp; try with_reducible rfl)
      try simp only [Act.put, List.getElem_toArray, List.getElem_cons_zero, List.getElem_cons_succ, List.setIfInBounds_toArray, List.set_cons_zero, List.set_cons_succ]
      refine wpAnyH_take (i := 19) (v := ?_) rfl (by kernel_rfl) (by kernel_rfl) (by kernel_rfl) (fun _ _ _ h => h) (Or.inl ⟨by rfl, ?_⟩) (by assumption) ?_
      rotate_left
      · (intro w' hSw; go_simp; try with_reducible rfl)
      try simp only [Act.put, List.getElem_toArray, List.getElem_cons_zero, List.getElem_cons_succ, List.setIfInBounds_toArray, List.set_cons_zero, List.set_cons_succ]
      refine wpAnyH_take (i := 20) (v := ?_) rfl (by kernel_rfl) (by kernel_rfl) (by kernel_rfl) (fun _ _ _ h => h) (Or.inl ⟨by rfl, ?_⟩) (by assumption) ?_
      rotate_left
      · (intro w' hSw; go_simp; try with_reducible rfl)
      try simp only [Act.put, List.getElem_toArray, List.getElem_cons_zero, List.getElem_cons_succ, List.setIfInBounds_toArray, List.set_cons_zero, List.set_cons_succ]
      refine wpAnyH_take (i := 21) (v := ?_) rfl (by kernel_rfl) (by kernel_rfl) (by kernel_rfl) (fun _ _ _ h => h) (Or.inl ⟨by rfl, ?_⟩) (by assumption) ?_
      rotate_left
      · (intro w' hSw; have q := hSw.cell d1 (fun h => List.not_mem_nil h); go_simp; try with_reducible rfl)
      try simp only [Act.put, List.getElem_toArray, List.getElem_cons_zero, List.getElem_cons_succ, List.setIfInBounds_toArray, List.set_cons_zero, List.set_cons_succ]
      refine wpAnyH_ready (rs := [22]) (by kernel_rfl) (by simp) ?_
      refine AllReadyH.cons rfl (fun K hK => ?_) (AllReadyH.nil)
      go_simp
      refine (sameInts_any _ _ _ (b.f 0) _ _ _ (b.f 0) _ (by omega) (by have := HM0.out; omega) ((HP3.out 0 (by decide)).chg hHeld (fun _ _ => List.not_mem_nil)) ((HQ3.out 0 (by decide)).chg hHeld (fun _ _ => List.not_mem_nil))).mono ?_
      rintro e w1 ⟨rfl, hc1⟩
      rw [show decide (b.f 0 = b.f 0) = true from decide_eq_true rfl]
      have HC1 : Hid (Chg [] wr w1) := Lib.hid (hHeld.trans0 hc1)
      clear hc1
      refine hK.out _ _ (HC1.out) (fun hHeld => ?_)
      try simp only [Act.put, List.getElem_toArray, List.getElem_cons_zero, List.getElem_cons_succ, List.setIfInBounds_toArray, List.set_cons_zero, List.set_cons_succ]
      clear hK K
      refine wpAnyH_take (i := 23) (v := ?_) rfl (by kernel_rfl) (by kernel_rfl) (by kernel_rfl) (fun _ _ _ h => h) (Or.inl ⟨by rfl, ?_⟩) (by assumption) ?_
      rotate_left
      · (intro w' hSw; go_simp; try with_reducible rfl)
      try simp only [Act.put, List.getElem_toArray, List.getElem_cons_zero, List.getElem_cons_succ, List.setIfInBounds_toArray, List.set_cons_zero, List.set_cons_succ]
      refine wpAnyH_take (i := 24) (v := ?_) rfl (by kernel_rfl) (by kernel_rfl) (by kernel_rfl) (fun _ _ _ h => h) (Or.inl ⟨by rfl, ?_⟩) (by assumption) ?_
      rotate_left
      · (intro w' hSw; go_simp; try with_reducible rfl)
      try simp only [Act.put, List.getElem_toArray, List.getElem_cons_zero, List.getElem_cons_succ, List.setIfInBounds_toArray, List.set_cons_zero, List.set_cons_succ]
      refine wpAnyH_take (i := 25) (v := ?_) rfl (by kernel_rfl) (by kernel_rfl) (by kernel_rfl) (fun _ _ _ h => h) (Or.inl ⟨by rfl, ?_⟩) (by assumption) ?_
      rotate_left
      · (intro w' hSw; go_simp; try with_reducible rfl)
      try simp only [Act.put, List.getElem_toArray, List.getElem_cons_zero, List.getElem_cons_succ, List.setIfInBounds_toArray, List.set_cons_zero, List.set_cons_succ]
      refine wpAnyH_take (i := 26) (v := ?_) rfl (by kernel_rfl) (by kernel_rfl) (by kernel_rfl) (fun _ _ _ h => h) (Or.inl ⟨by rfl, ?_⟩) (by assumption) ?_
      rotate_left
      · (intro w' hSw; go_simp; try with_reducible rfl)
      try simp only [Act.put, List.getElem_toArray, List.getElem_cons_zero, List.getElem_cons_succ, List.setIfInBounds_toArray, List.set_cons_zero, List.set_cons_succ]
      refine wpAnyH_take (i := 27) (v := ?_) rfl (by kernel_rfl) (by kernel_rfl) (by kernel_rfl) (fun _ _ _ h => h) (Or.inl ⟨by rfl, ?_⟩) (by assumption) ?_
      rotate_left
      · (intro w' hSw; go_simp; try with_reducible rfl)
      try simp only [Act.put, List.getElem_toArray, List.getElem_cons_zero, List.getElem_cons_succ, List.setIfInBounds_toArray, List.set_cons_zero, List.set_cons_succ]
      refine wpAnyH_take (i := 28) (v := ?_) rfl (by kernel_rfl) (by kernel_rfl) (by kernel_rfl) (fun _ _ _ h => h) (Or.inl ⟨by rfl, ?_⟩) (by assumption) ?_
      rotate_left
      · (intro w' hSw; go_simp; try with_reducible rfl)
      try simp only [Act.put, List.getElem_toArray, List.getElem_cons_zero, List.getElem_cons_succ, List.setIfInBounds_toArray, List.set_cons_zero, List.set_cons_succ]
      refine wpAnyH_take (i := 29) (v := ?_) rfl (by kernel_rfl) (by kernel_rfl) (by kernel_rfl) (fun _ _ _ h => h) (Or.inl ⟨by rfl, ?_⟩) (by assumption) ?_
      rotate_left
      · (intro w' hSw; go_simp; try with_reducible rfl)
      try simp only [Act.put, List.getElem_toArray, List.getElem_cons_zero, List.getElem_cons_succ, List.setIfInBounds_toArray, List.set_cons_zero, List.set_cons_succ]
      refine wpAnyH_take (i := 30) (v := ?_) rfl (by kernel_rfl) (by kernel_rfl) (by kernel_rfl) (fun _ _ _ h => h) (Or.inl ⟨by rfl, ?_⟩) (by assumption) ?_
      rotate_left
      · (intro w' hSw; have q := hSw.cell c2 (fun h => List.not_mem_nil h); go_simp; try with_reducible rfl)
      try simp only [Act.put, List.getElem_toArray, List.getElem_cons_zero, List.getElem_cons_succ, List.setIfInBounds_toArray, List.set_cons_zero, List.set_cons_succ]
      refine wpAnyH_take (i := 31) (v := ?_) rfl (by kernel_rfl) (by kernel_rfl) (by kernel_rfl) (fun _ _ _ h => h) (Or.inl ⟨by rfl, ?_⟩) (by assumption) ?_
      rotate_left
      · (intro w' hSw; go_simp; try with_reducible rfl)
      try simp only [Act.put, List.getElem_toArray, List.getElem_cons_zero, List.getElem_cons_succ, List.setIfInBounds_toArray, List.set_cons_zero, List.set_cons_succ]
      refine wpAnyH_take (i := 32) (v := ?_) rfl (by kernel_rfl) (by kernel_rfl) (by kernel_rfl) (fun _ _ _ h => h) (Or.inl ⟨by rfl, ?_⟩) (by assumption) ?_
      rotate_left
      · (intro w' hSw; go_simp; try with_reducible rfl)
      try simp only [Act.put, List.getElem_toArray, List.getElem_cons_zero, List.getElem_cons_succ, List.setIfInBounds_toArray, List.set_cons_zero, List.set_cons_succ]
      refine wpAnyH_take (i := 33) (v := ?_) rfl (by kernel_rfl) (by kernel_rfl) (by kernel_rfl) (fun _ _ _ h => h) (Or.inl ⟨by rfl, ?_⟩) (by assumption) ?_
      rotate_left
      · (intro w' hSw; go_simp; try with_reducible rfl)
      try simp only [Act.put, List.getElem_toArray, List.getElem_cons_zero, List.getElem_cons_succ, List.setIfInBounds_toArray, List.set_cons_zero, List.set_cons_succ]
      refine wpAnyH_take (i := 34) (v := ?_) rfl (by kernel_rfl) (by kernel_rfl) (by kernel_rfl) (fun _ _ _ h => h) (Or.inl ⟨by rfl, ?_⟩) (by assumption) ?_
      rotate_left
      · (intro w' hSw; go_simp; try with_reducible rfl)
      try simp only [Act.put, List.getElem_toArray, List.getElem_cons_zero, List.getElem_cons_succ, List.setIfInBounds_toArray, List.set_cons_zero, List.set_cons_succ]
      refine wpAnyH_take (i := 35) (v := ?_) rfl (by kernel_rfl) (by kernel_rfl) (by kernel_rfl) (fun _ _ _ h => h) (Or.inl ⟨by rfl, ?_⟩) (by assumption) ?_
      rotate_left
      · (intro w' hSw; have q := hSw.cell d2 (fun h => List.not_mem_nil h); go_simp; try with_reducible rfl)
      try simp only [Act.put, List.getElem_toArray, List.getElem_cons_zero, List.getElem_cons_succ, List.setIfInBounds_toArray, List.set_cons_zero, List.set_cons_succ]
      refine wpAnyH_ready (rs := [36]) (by kernel_rfl) (by simp) ?_
      refine AllReadyH.cons rfl (fun K hK => ?_) (AllReadyH.nil)
      go_simp
      refine (sameInts_any _ _ _ (b.f 1) _ _ _ (b.f 1) _ (by omega) (by have := HM1.out; omega) ((HP3.out 1 (by decide)).chg hHeld (fun _ _ => List.not_mem_nil)) ((HQ3.out 1 (by decide)).chg hHeld (fun _ _ => List.not_mem_nil))).mono ?_
      rintro e w2 ⟨rfl, hc2⟩
      rw [show decide (b.f 1 = b.f 1) = true from decide_eq_true rfl]
      have HC2 : Hid (Chg [] wr w2) := Lib.hid (hHeld.trans0 hc2)
      clear hc2
      refine hK.out _ _ (HC2.out) (fun hHeld => ?_)
      try simp only [Act.put, List.getElem_toArray, List.getElem_cons_zero, List.getElem_cons_succ, List.setIfInBounds_toArray, List.set_cons_zero, List.set_cons_succ]
      clear hK K
      refine wpAnyH_take (i := 37) (v := ?_) rfl (by kernel_rfl) (by kernel_rfl) (by kernel_rfl) (fun _ _ _ h => h) (Or.inl ⟨by rfl, ?_⟩) (by assumption) ?_
      rotate_left
      · (intro w' hSw; go_simp; try with_reducible rfl)
      try simp only [Act.put, List.getElem_toArray, List.getElem_cons_zero, List.getElem_cons_succ, List.setIfInBounds_toArray, List.set_cons_zero, List.set_cons_succ]
      refine wpAnyH_take (i := 38) (v := ?_) rfl (by kernel_rfl) (by kernel_rfl) (by kernel_rfl) (fun _ _ _ h => h) (Or.inl ⟨by rfl, ?_⟩) (by assumption) ?_
      rotate_left
      · (intro w' hSw; go_simp; try with_reducible rfl)
      try simp only [Act.put, List.getElem_toArray, List.getElem_cons_zero, List.getElem_cons_succ, List.setIfInBounds_toArray, List.set_cons_zero, List.set_cons_succ]
      refine wpAnyH_take (i := 39) (v := ?_) rfl (by kernel_rfl) (by kernel_rfl) (by kernel_rfl) (fun _ _ _ h => h) (Or.inl ⟨by rfl, ?_⟩) (by assumption) ?_
      rotate_left
      · (intro w' hSw; go_simp; try with_reducible rfl)
      try simp only [Act.put, List.getElem_toArray, List.getElem_cons_zero, List.getElem_cons_succ, List.setIfInBounds_toArray, List.set_cons_zero, List.set_cons_succ]
      refine wpAnyH_take (i := 40) (v := ?_) rfl (by kernel_rfl) (by kernel_rfl) (by kernel_rfl) (fun _ _ _ h => h) (Or.inl ⟨by rfl, ?_⟩) (by assumption) ?_
      rotate_left
      · (intro w' hSw; go_simp; try with_reducible rfl)
      try simp only [Act.put, List.getElem_toArray, List.getElem_cons_zero, List.getElem_cons_succ, List.setIfInBounds_toArray, List.set_cons_zero, List.set_cons_succ]
      refine wpAnyH_take (i := 41) (v := ?_) rfl (by kernel_rfl) (by kernel_rfl) (by kernel_rfl) (fun _ _ _ h => h) (Or.inl ⟨by rfl, ?_⟩) (by assumption) ?_
      rotate_left
      · (intro w' hSw; go_simp; try with_reducible rfl)
      try simp only [Act.put, List.getElem_toArray, List.getElem_cons_zero, List.getElem_cons_succ, List.setIfInBounds_toArray, List.set_cons_zero, List.set_cons_succ]
      refine wpAnyH_take (i := 42) (v := ?_) rfl (by kernel_rfl) (by kernel_rfl) (by kernel_rfl) (fun _ _ _ h => h) (Or.inl ⟨by rfl, ?_⟩) (by assumption) ?_
      rotate_left
      · (intro w' hSw; go_simp; try with_reducible rfl)
      try simp only [Act.put, List.getElem_toArray, List.getElem_cons_zero, List.getElem_cons_succ, List.setIfInBounds_toArray, List.set_cons_zero, List.set_cons_succ]
      refine wpAnyH_take (i := 43) (v := ?_) rfl (by kernel_rfl) (by kernel_rfl) (by kernel_rfl) (fun _ _ _ h => h) (Or.inl ⟨by rfl, ?_⟩) (by assumption) ?_
      rotate_left
      · (intro w' hSw; go_simp; try with_reducible rfl)
      try simp only [Act.put, List.getElem_toArray, List.getElem_cons_zero, List.getElem_cons_succ, List.setIfInBounds_toArray, List.set_cons_zero, List.set_cons_succ]
      refine wpAnyH_take (i := 44) (v := ?_) rfl (by kernel_rfl) (by kernel_rfl) (by kernel_rfl) (fun _ _ _ h => h) (Or.inl ⟨by rfl, ?_⟩) (by assumption) ?_
      rotate_left
      · (intro w' hSw; have q := hSw.cell c3 (fun h => List.not_mem_nil h); go_simp; try with_reducible rfl)
      try simp only [Act.put, List.getElem_toArray, List.getElem_cons_zero, List.getElem_cons_succ, List.setIfInBounds_toArray, List.set_cons_zero, List.set_cons_succ]
      refine wpAnyH_take (i := 45) (v := ?_) rfl (by kernel_rfl) (by kernel_rfl) (by kernel_rfl) (fun _ _ _ h => h) (Or.inl ⟨by rfl, ?_⟩) (by assumption) ?_
      rotate_left
      · (intro w' hSw; go_simp; try with_reducible rfl)
      try simp only [Act.put, List.getElem_toArray, List.getElem_cons_zero, List.getElem_cons_succ, List.setIfInBounds_toArray, List.set_cons_zero, List.set_cons_succ]
      refine wpAnyH_take (i := 46) (v := ?_) rfl (by kernel_rfl) (by kernel_rfl) (by kernel_rfl) (fun _ _ _ h => h) (Or.inl ⟨by rfl, ?_⟩) (by assumption) ?_
      rotate_left
      · (intro w' hSw; go_simp; try with_reducible rfl)
      try simp only [Act.put, List.getElem_toArray, List.getElem_cons_zero, List.getElem_cons_succ, List.setIfInBounds_toArray, List.set_cons_zero, List.set_cons_succ]
      refine wpAnyH_take (i := 47) (v := ?_) rfl (by kernel_rfl) (by kernel_rfl) (by kernel_rfl) (fun _ _ _ h => h) (Or.inl ⟨by rfl, ?_⟩) (by assumption) ?_
      rotate_left
      · (intro w' hSw; go_simp; try with_reducible rfl)
      try simp only [Act.put, List.getElem_toArray, List.getElem_cons_zero, List.getElem_cons_succ, List.setIfInBounds_toArray, List.set_cons_zero, List.set_cons_succ]
      refine wpAnyH_take (i := 48) (v := ?_) rfl (by kernel_rfl) (by kernel_rfl) (by kernel_rfl) (fun _ _ _ h => h) (Or.inl ⟨by rfl, ?_⟩) (by assumption) ?_
      rotate_left
      · (intro w' hSw; go_simp; try with_reducible rfl)
      try simp only [Act.put, List.getElem_toArray, List.getElem_cons_zero, List.getElem_cons_succ, List.setIfInBounds_toArray, List.set_cons_zero, List.set_cons_succ]
      refine wpAnyH_take (i := 49) (v := ?_) rfl (by kernel_rfl) (by kernel_rfl) (by kernel_rfl) (fun _ _ _ h => h) (Or.inl ⟨by rfl, ?_⟩) (by assumption) ?_
      rotate_left
      · (intro w' hSw; have q := hSw.cell d3 (fun h => List.not_mem_nil h); go_simp; try with_reducible rfl)
      try simp only [Act.put, List.getElem_toArray, List.getElem_cons_zero, List.getElem_cons_succ, List.setIfInBounds_toArray, List.set_cons_zero, List.set_cons_succ]
      refine wpAnyH_ready (rs := [50]) (by kernel_rfl) (by simp) ?_
      refine AllReadyH.cons rfl (fun K hK => ?_) (AllReadyH.nil)
      go_simp
      refine (sameInts_any _ _ _ (b.f 2) _ _ _ (b.f 2) _ (by omega) (by have := HM2.out; omega) ((HP3.out 2 (by decide)).chg hHeld (fun _ _ => List.not_mem_nil)) ((HQ3.out 2 (by decide)).chg hHeld (fun _ _ => List.not_mem_nil))).mono ?_
      rintro e w3 ⟨rfl, hc3⟩
      rw [show decide (b.f 2 = b.f 2) = true from decide_eq_true rfl]
      have HC3 : Hid (Chg [] wr w3) := Lib.hid (hHeld.trans0 hc3)
      clear hc3
      refine hK.out _ _ (HC3.out) (fun hHeld => ?_)
      try simp only [Act.put, List.getElem_toArray, List.getElem_cons_zero, List.getElem_cons_succ, List.setIfInBounds_toArray, List.set_cons_zero, List.set_cons_succ]
      clear hK K
      refine wpAnyH_take (i := 51) (v := ?_) rfl (by kernel_rfl) (by kernel_rfl) (by kernel_rfl) (fun _ _ _ h => h) (Or.inl ⟨by rfl, ?_⟩) (by assumption) ?_
      rotate_left
      · (intro w' hSw; go_simp; try with_reducible rfl)
      try simp only [Act.put, List.getElem_toArray, List.getElem_cons_zero, List.getElem_cons_succ, List.setIfInBounds_toArray, List.set_cons_zero, List.set_cons_succ]
      refine wpAnyH_take (i := 52) (v := ?_) rfl (by kernel_rfl) (by kernel_rfl) (by kernel_rfl) (fun _ _ _ h => h) (Or.inl ⟨by rfl, ?_⟩) (by assumption) ?_
      rotate_left
      · (intro w' hSw; go_simp; try with_reducible rfl)
      try simp only [Act.put, List.getElem_toArray, List.getElem_cons_zero, List.getElem_cons_succ, List.setIfInBounds_toArray, List.set_cons_zero, List.set_cons_succ]
      refine wpAnyH_done (by kernel_rfl) ?_ _
      try simp only [Act.put, List.getElem_toArray, List.getElem_cons_zero, List.getElem_cons_succ, List.setIfInBounds_toArray, List.set_cons_zero, List.set_cons_succ]
      clear c0 c1 c2 c3 d0 d1 d2 d3
      go_wp2
      go_roundw
      case rel => exact ⟨k + 1, by omega, by go_num, HCH.out.trans0 HC3.out⟩
      case measure => simp [intOf]; omega
    · go_wp2
      go_ret
      exact ⟨rfl, HCH.out⟩
end Go.Proofs.Ytelmnmepdmfihaa
