/-
  Layer 17: a group read.
-/
import Derived.Test.YtelmnmepdmfihaaGrR
import Derived.Test.YtelmnmepdmfihaaGrD
import Derived.Test.YtelmnmepdmfihaaLkQ
import Derived.Laws.ResultCell
namespace Go.Proofs.Ytelmnmepdmfihaa
open Go.RowKit

/-- what one tells: the bins, the error's number -/
def OneTo (ls : List Lk) (ts : List Int) (g : Lk) (w : World) (e : Ending) (w' : World) : Prop :=
  ∃ (b : B3) (E : Int), e = .returned (.tuple #[b.arr, .int .i64 E]) ∧ E = oneE ls ts g ∧ (E = 0 → Own3 w' b (idsOf ls g) ∧ ∀ k, k < 3 → ∀ x ∈ bo (b.A k), w.heap.size ≤ x) ∧ Chg [] w w'

theorem heads_at (a b c : Int) (k : Nat) (hk : k < 3) (g : Lk) (ha : g.sp = a) (hb : g.tp = b) (hc : g.sn = c) (w : World) : (Instr.index 78 (.agg #[.int .i64 a, .int .i64 b, .int .i64 c]) (.int .i64 (k : Int))).run Try.prog w = .ok (.int .i64 (hd g k)) w := by
  have hs : (Go.sizeOf 3).run Try.prog w = .ok 1 w := by
    simp [go_sem]
  rcases (by omega : k = 0 ∨ k = 1 ∨ k = 2) with rfl | rfl | rfl
  · have hp : (part 3 #[.int .i64 a, .int .i64 b, .int .i64 c] 0).run Try.prog w = .ok (.int .i64 a) w := by go_simp
    unfold Instr.index
    simp only [asIntOf, Sem.run_bind, Sem.run_pure, Result.andThen_ok, run_underlying Try.underlying78]
    simp [hp, hs, hd, ha]
  · have hp : (part 3 #[.int .i64 a, .int .i64 b, .int .i64 c] 1).run Try.prog w = .ok (.int .i64 b) w := by go_simp
    unfold Instr.index
    simp only [asIntOf, Sem.run_bind, Sem.run_pure, Result.andThen_ok, run_underlying Try.underlying78]
    simp [hp, hs, hd, hb]
  · have hp : (part 3 #[.int .i64 a, .int .i64 b, .int .i64 c] 2).run Try.prog w = .ok (.int .i64 c) w := by go_simp
    unfold Instr.index
    simp only [asIntOf, Sem.run_bind, Sem.run_pure, Result.andThen_ok, run_underlying Try.underlying78]
    simp [hp, hs, hd, hc]

theorem oneJ_bad {ls : List Lk} {ts : List Int} {g : Lk} {j : Nat} {E : Int} (h : oneJ ls ts g j = E) (hE : E ≠ 0) : ∀ k, oneJ ls ts g (j + k) = E
  | 0 => h
  | k + 1 => by
    have := oneJ_bad h hE k
    rw [show j + (k + 1) = (j + k) + 1 from rfl, oneJ, if_pos (by rw [this]; exact hE), this]
theorem oneE_bad {ls : List Lk} {ts : List Int} {g : Lk} {j : Nat} {E : Int} (hj : j ≤ 3) (h : oneJ ls ts g j = E) (hE : E ≠ 0) : oneE ls ts g = E := by
  have h3 : oneJ ls ts g 3 = E := by have := oneJ_bad h hE (3 - j); rwa [show j + (3 - j) = 3 by omega] at this
  unfold oneE; rw [if_pos (by rw [h3]; exact hE), h3]
theorem idsE_bad {ls : List Lk} {ts : List Int} {node t : Int} {k : Nat} {ids : List Int} {id : Int} (h : id ∈ ids) (hb : ¬ (tyOf ts id = t ∧ wyOf ls node id = k)) : idsE ls ts node t k ids = 170 := by
  unfold idsE; rw [if_neg (fun hh => hb (hh id h))]

theorem one_ret {a : Act} {W : World} {Bb : Nat} {s0 s1 s2 : Value} {E : Int} {R : Ending → World → Prop} (hp : a.tmps.getD 6 undef = .pointer (some ⟨Bb, 0, none⟩)) (hE : a.tmps.getD 7 undef = .int .i64 E) (hd : a.defers = []) (hb : Blk W Bb 62 #[s0, s1, s2])
    (hR : R (.returned (.tuple #[.agg #[s0, s1, s2], .int .i64 E])) W) : bodyPost Try.prog Try.f35 R .ret a W := by
  refine bodyPost_ret (v := .tuple #[.agg #[s0, s1, s2], .int .i64 E]) ?_ hd hR
  rw [results_cell_tmp (p := 6) (u := 7) (ty := 62) rfl, hp, hE]
  simp [asAddr, run_loadVar_row W Bb 62 62 #[s0, s1, s2] (0, 0) _ hb Try.underlying62 rfl (by kernel_rfl)]
theorem ids_len {ls : List Lk} {g : Lk} {k : Nat} : (idsOf ls g k).length ≤ ls.length := by
  unfold idsOf
  by_cases h : (walk ls g.dst (hd g k)).2 = 0
  · exact ((walk_sound (ls := ls) (node := g.dst) (head := hd g k)).1 h).1.len
  · rw [(walk_sound (ls := ls) (node := g.dst) (head := hd g k)).2 h]; simp

set_option maxRecDepth 100000 in
set_option maxHeartbeats 6400000 in
theorem one_any (A : Option Addr) (n c : Nat) (ls : List Lk) (B : Option Addr) (m d : Nat) (ts : List Int) (g : Lk) (w : World) (hrd : Rd w 7 A n c (lvs ls)) (hn : n ≤ 1073741824) (hts : Rd w 1 B m d (iv ts)) (hmn : m = n) :
    Calls Try.prog 35 #[.slice A n c, .slice B m d, .agg #[.bool g.live, .int .i64 g.src, .int .i64 g.dst, .int .i64 g.sp, .int .i64 g.tp, .int .i64 g.sn, .int .i64 g.tn]] w (OneTo ls ts g w) := by
  have hl : ls.length = n := by have := hrd.1; rw [lvs_length] at this; omega
  have hol : ts.length = m := by have := hts.1; simp at this; omega
  have HR := Lib.hid hrd
  have HO := Lib.hid hts
  have HL := Lib.hid hl
  have HM := Lib.hid hol
  have HMN := Lib.hid hmn
  clear hrd hts hl hol hmn
  have bad : ∀ (E : Int), oneE ls ts g = E → E ≠ 0 → ∀ w', Chg [] w w' → OneTo ls ts g w (.returned (.tuple #[.agg #[.slice none 0 0, .slice none 0 0, .slice none 0 0], .int .i64 E])) w' := fun E hE h0 w' hc => ⟨B3.nil, E, rfl, hE.symm, fun h => absurd h h0, hc⟩
  have BAD := Lib.hid bad
  clear bad
  have hix : ∀ (k : Nat) (hk : k < 3) (w : World), (Instr.index 78 (.agg #[.int .i64 g.sp, .int .i64 g.tp, .int .i64 g.sn]) (.int .i64 (k : Int))).run Try.prog w = .ok (.int .i64 (hd g k)) w := fun k hk w => heads_at _ _ _ k hk g rfl rfl rfl w
  have HIX := Lib.hid hix
  clear hix
  go_enter Try.func35, Try.ntmps35
  go_wp2
  have hbg0 := (Blk.new w 58 #[.bool g.live, .int .i64 g.src, .int .i64 g.dst, .int .i64 g.sp, .int .i64 g.tp, .int .i64 g.sn, .int .i64 g.tn]).alloc (.cells #[.slice none 0 0, .slice none 0 0, .slice none 0 0] 62)
  have hbb0 := Blk.new (w.alloc (.cells #[.bool g.live, .int .i64 g.src, .int .i64 g.dst, .int .i64 g.sp, .int .i64 g.tp, .int .i64 g.sn, .int .i64 g.tn] 58)) 62 #[.slice none 0 0, .slice none 0 0, .slice none 0 0]
  rw [show (w.alloc (.cells #[.bool g.live, .int .i64 g.src, .int .i64 g.dst, .int .i64 g.sp, .int .i64 g.tp, .int .i64 g.sn, .int .i64 g.tn] 58)).heap.size = w.heap.size + 1 by simp] at hbb0
  have HBG0 := Lib.hid hbg0
  have HBB0 := Lib.hid hbb0
  clear hbg0 hbb0
  go_loopw [21] (fun q wr => ∃ (j : Nat) (b : B3), j ≤ 3 ∧ q = .int .i64 j ∧ oneJ ls ts g j = 0 ∧ Blk wr w.heap.size 58 #[.bool g.live, .int .i64 g.src, .int .i64 g.dst, .int .i64 g.sp, .int .i64 g.tp, .int .i64 g.sn, .int .i64 g.tn] ∧ Blk wr (w.heap.size + 1) 62 #[b.sl 0, b.sl 1, b.sl 2] ∧
    (∀ k, k < j → Own wr 3 1 (b.A k) (b.n k) (b.c k) (iv (idsOf ls g k)) ∧ ∀ x ∈ bo (b.A k), w.heap.size + 1 < x) ∧ Chg [] w wr) (fun q _ => 3 - (intOf q).toNat)
  case atStart => exact ⟨0, B3.nil, by omega, rfl, rfl, HBG0.out, HBB0.out, fun k hk => absurd hk (Nat.not_lt_zero _), ((Chg.refl _ _).alloc _).alloc _⟩
  case round =>
    obtain ⟨j, b, hj3, rfl, hone, hbg, hbb, hown, hch⟩ := hrel
    have HONE := Lib.hid hone
    have HBG := Lib.hid hbg
    have HBB := Lib.hid hbb
    have HOWN := Lib.hid hown
    have HCH := Lib.hid hch
    clear hone hbg hbb hown hch
    have gb2 := HBG.out.cell 2
    simp at gb2
    by_cases hj : j < 3
    · have hj' : (j : Int) < 3 := by omega
      have ix := fun w => HIX.out j hj w
      go_wp2_with fail
      refine (walk_any A n c ls g.dst (hd g j) _ (HR.out.chg HCH.out (fun _ _ => List.not_mem_nil)) hn).mono ?_
      rintro e w2 ⟨A2, N2, c2, E2, rfl, hE2, ho2, hN2, hc2, hn2⟩
      have HO2 := Lib.hid ho2
      have HC2 := Lib.hid hc2
      have HNW2 := Lib.hid hn2
      have HN2 := Lib.hid hN2
      have HE2 := Lib.hid hE2
      have HBB2 := Lib.hid (HBB.out.chg hc2 (fun h => List.not_mem_nil h))
      have HBG2 := Lib.hid (HBG.out.chg hc2 (fun h => List.not_mem_nil h))
      clear ho2 hc2 hn2 hN2 hE2 ix gb2
      by_cases hE : E2 = 0
      · subst hE
        have hsnd : (walk ls g.dst (hd g j)).2 = 0 := HE2.out.symm
        have HSND := Lib.hid hsnd
        clear hsnd
        have hgood := (walk_sound (ls := ls) (node := g.dst) (head := hd g j)).1 HSND.out |>.1
        have hN2n : N2 ≤ n := by rw [HN2.out, ← HL.out]; exact hgood.len
        have HGOOD := Lib.hid hgood
        clear hgood
        go_wp2
        obtain ⟨wo, hwo⟩ : ∃ wo : World, wo = w2 := ⟨_, rfl⟩
        subst hwo
        go_loopw [39] (fun q wr => ∃ (i : Nat), i ≤ N2 ∧ q = .int .i64 i ∧ (∀ id ∈ (idsOf ls g j).take i, tyOf ts id = g.src ∧ wyOf ls g.dst id = j) ∧ Chg [] wo wr) (fun q _ => N2 - (intOf q).toNat)
        case atStart => exact ⟨0, Nat.zero_le _, rfl, by simp, Chg.refl _ _⟩
        case round =>
          obtain ⟨i, hi, rfl, hall, hcq⟩ := hrel
          have HALL := Lib.hid hall
          have HCQ := Lib.hid hcq
          clear hall hcq
          by_cases hlt : i < N2
          · obtain ⟨ad, id, hA2, hid, hcell⟩ := rd_int (HO2.out.rd.chg HCQ.out (fun _ _ => List.not_mem_nil)) hlt
            obtain ⟨h0, l, hl1, hlv, htou, _⟩ := HGOOD.out.at_ i id hid
            obtain ⟨jj, rfl⟩ := Int.eq_ofNat_of_zero_le h0
            simp only [Int.toNat_natCast] at hl1
            have hjn : jj < n := by have := (List.getElem?_eq_some_iff.1 hl1).1; have := HL.out; omega
            have hcw : Chg [] w wr := (HCH.out.trans0 HC2.out).trans0 HCQ.out
            obtain ⟨al, rfl, hat⟩ := (HR.out.chg hcw (fun _ _ => List.not_mem_nil)).lk hl1
            obtain ⟨x20, x21, x22, x23, x24, x25, x26⟩ := hat
            obtain ⟨bt, t, rfl, ht, x1⟩ := rd_int (HO.out.chg hcw (fun _ _ => List.not_mem_nil)) (show jj < m by have := HMN.out; omega)
            have hjn' : (jj : Int) < n := by omega
            have hjm' : (jj : Int) < m := by have := HMN.out; omega
            have HTY : Hid (tyOf ts jj = t) := Lib.hid (by unfold tyOf; simp [ht])
            have HWY : Hid (wyOf ls g.dst jj = wayOf l g.dst) := Lib.hid (by unfold wyOf; simp [hl1])
            have HID : Hid ((idsOf ls g j)[i]? = some (jj : Int)) := Lib.hid hid
            have HMEM : Hid ((jj : Int) ∈ idsOf ls g j) := Lib.hid (List.mem_of_getElem? hid)
            have gb1 := (HBG2.out.chg HCQ.out (fun h => List.not_mem_nil h)).cell 1
            have gb2 := (HBG2.out.chg HCQ.out (fun h => List.not_mem_nil h)).cell 2
            simp at gb1 gb2
            have hbb := HBB2.out.chg HCQ.out (fun h => List.not_mem_nil h)
            have b0 := hbb.cell 0
            have b1 := hbb.cell 1
            have b2 := hbb.cell 2
            have e0 := hbb.frozen 0
            have e1 := hbb.frozen 1
            have e2 := hbb.frozen 2
            simp [B3.sl] at b0 b1 b2
            have HCW := Lib.hid hcw
            have HSTEP : Hid (idsE ls ts g.dst g.src j (idsOf ls g j) = 170 → oneE ls ts g = 170) := Lib.hid (fun h => oneE_bad (j := j + 1) (by omega) (by rw [oneJ, if_neg (by rw [HONE.out]; simp)]; unfold wayE; rw [if_neg (by rw [HSND.out]; simp)]; exact h) (by decide))
            subst hA2
            clear hid hl1 hlv htou ht hcw hbb h0
            by_cases htt : t = g.src
            · have g1 : (t != g.src) = false := by simp [htt]
              have HTT := Lib.hid htt
              clear htt
              obtain ⟨wy, hwy⟩ : ∃ wy, wayOf l g.dst = wy := ⟨_, rfl⟩
              have HWL := Lib.hid hwy
              clear hwy
              by_cases hwj : wy = j
              · have g2 : ((wy : Int) != (j : Int)) = false := by simp [hwj]
                have HWJ := Lib.hid hwj
                clear hwj
                go_wp2_with fail
                refine wp_region_held_drew (S := fun w' => Chg [] wr w') (by kernel_rfl) ((Chg.refl _ _).drew) (fun hHeld => ?_)
                refine wpAnyH_take (i := 0) (v := ?_) rfl (by kernel_rfl) (by kernel_rfl) (by kernel_rfl) (fun _ _ _ h => h) (Or.inl ⟨by rfl, ?_⟩) (by assumption) ?_
                rotate_left
                · (intro w' hSw; go_simp; try with_reducible rfl)
                try simp only [Act.put, List.getElem_toArray, List.getElem_cons_zero, List.setIfInBounds_toArray, List.set_cons_zero, List.set_cons_succ]
                refine wpAnyH_take (i := 1) (v := ?_) rfl (by kernel_rfl) (by kernel_rfl) (by kernel_rfl) (fun _ _ _ h => h) (Or.inl ⟨by rfl, ?_⟩) (by assumption) ?_
                rotate_left
                · (intro w' hSw; go_simp; try with_reducible rfl)
                try simp only [Act.put, List.getElem_toArray, List.getElem_cons_zero, List.getElem_cons_succ, List.setIfInBounds_toArray, List.set_cons_zero, List.set_cons_succ]
                refine wpAnyH_take (i := 2) (v := ?_) rfl (by kernel_rfl) (by kernel_rfl) (by kernel_rfl) (fun _ _ _ h => h) (Or.inl ⟨by rfl, ?_⟩) (by assumption) ?_
                rotate_left
                · (intro w' hSw; go_simp; try with_reducible rfl)
                try simp only [Act.put, List.getElem_toArray, List.getElem_cons_zero, List.getElem_cons_succ, List.setIfInBounds_toArray, List.set_cons_zero, List.set_cons_succ]
                refine wpAnyH_take (i := 3) (v := ?_) rfl (by kernel_rfl) (by kernel_rfl) (by kernel_rfl) (fun _ _ _ h => h) (Or.inl ⟨by rfl, ?_⟩) (by assumption) ?_
                rotate_left
                · (intro w' hSw; have q := hSw.cell x1 (fun h => List.not_mem_nil h); go_simp; try with_reducible rfl)
                try simp only [Act.put, List.getElem_toArray, List.getElem_cons_zero, List.getElem_cons_succ, List.setIfInBounds_toArray, List.set_cons_zero, List.set_cons_succ]
                refine wpAnyH_take (i := 4) (v := ?_) rfl (by kernel_rfl) (by kernel_rfl) (by kernel_rfl) (fun _ _ _ h => h) (Or.inl ⟨by rfl, ?_⟩) (by assumption) ?_
                rotate_left
                · (intro w' hSw; go_simp; try with_reducible rfl)
                try simp only [Act.put, List.getElem_toArray, List.getElem_cons_zero, List.getElem_cons_succ, List.setIfInBounds_toArray, List.set_cons_zero, List.set_cons_succ]
                refine wpAnyH_take (i := 5) (v := ?_) rfl (by kernel_rfl) (by kernel_rfl) (by kernel_rfl) (fun _ _ _ h => h) (Or.inl ⟨by rfl, ?_⟩) (by assumption) ?_
                rotate_left
                · (intro w' hSw; have q := hSw.cell gb1 (fun h => List.not_mem_nil h); go_simp; try with_reducible rfl)
                try simp only [Act.put, List.getElem_toArray, List.getElem_cons_zero, List.getElem_cons_succ, List.setIfInBounds_toArray, List.set_cons_zero, List.set_cons_succ]
                refine wpAnyH_take (i := 6) (v := ?_) rfl (by kernel_rfl) (by kernel_rfl) (by kernel_rfl) (fun _ _ _ h => h) (Or.inl ⟨by rfl, ?_⟩) (by assumption) ?_
                rotate_left
                · (intro w' hSw; go_simp; try with_reducible rfl)
                try simp only [Act.put, List.getElem_toArray, List.getElem_cons_zero, List.getElem_cons_succ, List.setIfInBounds_toArray, List.set_cons_zero, List.set_cons_succ]
                refine wpAnyH_take (i := 7) (v := ?_) rfl (by kernel_rfl) (by kernel_rfl) (by kernel_rfl) (fun _ _ _ h => h) (Or.inl ⟨by rfl, ?_⟩) (by assumption) ?_
                rotate_left
                · (intro w' hSw; go_simp; try with_reducible rfl)
                try simp only [Act.put, List.getElem_toArray, List.getElem_cons_zero, List.getElem_cons_succ, List.setIfInBounds_toArray, List.set_cons_zero, List.set_cons_succ]
                refine wpAnyH_take (i := 8) (v := ?_) rfl (by kernel_rfl) (by kernel_rfl) (by kernel_rfl) (fun _ _ _ h => h) (Or.inl ⟨by rfl, ?_⟩) (by assumption) ?_
                rotate_left
                · (intro w' hSw; go_simp; try with_reducible rfl)
                try simp only [Act.put, List.getElem_toArray, List.getElem_cons_zero, List.getElem_cons_succ, List.setIfInBounds_toArray, List.set_cons_zero, List.set_cons_succ]
                refine wpAnyH_take (i := 9) (v := ?_) rfl (by kernel_rfl) (by kernel_rfl) (by kernel_rfl) (fun _ _ _ h => h) (Or.inl ⟨by rfl, ?_⟩) (by assumption) ?_
                rotate_left
                · (intro w' hSw; go_simp; try with_reducible rfl)
                try simp only [Act.put, List.getElem_toArray, List.getElem_cons_zero, List.getElem_cons_succ, List.setIfInBounds_toArray, List.set_cons_zero, List.set_cons_succ]
                refine wpAnyH_take (i := 10) (v := ?_) rfl (by kernel_rfl) (by kernel_rfl) (by kernel_rfl) (fun _ _ _ h => h) (Or.inl ⟨by rfl, ?_⟩) (by assumption) ?_
                rotate_left
                · (intro w' hSw; go_simp; try with_reducible rfl)
                try simp only [Act.put, List.getElem_toArray, List.getElem_cons_zero, List.getElem_cons_succ, List.setIfInBounds_toArray, List.set_cons_zero, List.set_cons_succ]
                refine wpAnyH_take (i := 11) (v := ?_) rfl (by kernel_rfl) (by kernel_rfl) (by kernel_rfl) (fun _ _ _ h => h) (Or.inl ⟨by rfl, ?_⟩) (by assumption) ?_
                rotate_left
                · (intro w' hSw; have q0 := hSw.cell x20 (fun h => List.not_mem_nil h); have q1 := hSw.cell x21 (fun h => List.not_mem_nil h); have q2 := hSw.cell x22 (fun h => List.not_mem_nil h); have q3 := hSw.cell x23 (fun h => List.not_mem_nil h); have q4 := hSw.cell x24 (fun h => List.not_mem_nil h); have q5 := hSw.cell x25 (fun h => List.not_mem_nil h); have q6 := hSw.cell x26 (fun h => List.not_mem_nil h); go_simp; try with_reducible rfl)
                try simp only [Act.put, List.getElem_toArray, List.getElem_cons_zero, List.getElem_cons_succ, List.setIfInBounds_toArray, List.set_cons_zero, List.set_cons_succ]
                refine wpAnyH_take (i := 12) (v := ?_) rfl (by kernel_rfl) (by kernel_rfl) (by kernel_rfl) (fun _ _ _ h => h) (Or.inl ⟨by rfl, ?_⟩) (by assumption) ?_
                rotate_left
                · (intro w' hSw; go_simp; try with_reducible rfl)
                try simp only [Act.put, List.getElem_toArray, List.getElem_cons_zero, List.getElem_cons_succ, List.setIfInBounds_toArray, List.set_cons_zero, List.set_cons_succ]
                refine wpAnyH_take (i := 13) (v := ?_) rfl (by kernel_rfl) (by kernel_rfl) (by kernel_rfl) (fun _ _ _ h => h) (Or.inl ⟨by rfl, ?_⟩) (by assumption) ?_
                rotate_left
                · (intro w' hSw; have q := hSw.cell gb2 (fun h => List.not_mem_nil h); go_simp; try with_reducible rfl)
                try simp only [Act.put, List.getElem_toArray, List.getElem_cons_zero, List.getElem_cons_succ, List.setIfInBounds_toArray, List.set_cons_zero, List.set_cons_succ]
                refine wpAnyH_take (i := 15) (v := ?_) rfl (by kernel_rfl) (by kernel_rfl) (by kernel_rfl) (fun _ _ _ h => h) (Or.inl ⟨by rfl, ?_⟩) (by assumption) ?_
                rotate_left
                · (intro w' hSw; go_simp; try with_reducible rfl)
                try simp only [Act.put, List.getElem_toArray, List.getElem_cons_zero, List.getElem_cons_succ, List.setIfInBounds_toArray, List.set_cons_zero, List.set_cons_succ]
                refine wpAnyH_ready (rs := [14]) (by kernel_rfl) (by simp) ?_
                refine AllReadyH.cons rfl (fun K hK => ?_) (AllReadyH.nil)
                go_simp
                refine (way_any' l g.dst wy HWL.out _).mono ?_
                rintro e w3 ⟨rfl, hc3⟩
                have HC3 := Lib.hid (hHeld.trans0 hc3)
                clear hc3
                refine hK.out _ _ (HC3.out) (fun hHeld => ?_)
                try simp only [Act.put, List.getElem_toArray, List.getElem_cons_zero, List.getElem_cons_succ, List.setIfInBounds_toArray, List.set_cons_zero, List.set_cons_succ]
                clear hK K
                refine wpAnyH_take (i := 16) (v := ?_) rfl (by kernel_rfl) (by kernel_rfl) (by kernel_rfl) (fun _ _ _ h => h) (Or.inl ⟨by rfl, ?_⟩) (by assumption) ?_
                rotate_left
                · (intro w' hSw; go_simp; try with_reducible rfl)
                try simp only [Act.put, List.getElem_toArray, List.getElem_cons_zero, List.getElem_cons_succ, List.setIfInBounds_toArray, List.set_cons_zero, List.set_cons_succ]
                refine wpAnyH_take (i := 17) (v := ?_) rfl (by kernel_rfl) (by kernel_rfl) (by kernel_rfl) (fun _ _ _ h => h) (Or.inl ⟨by rfl, ?_⟩) (by assumption) ?_
                rotate_left
                · (intro w' hSw; go_simp; try with_reducible rfl)
                try simp only [Act.put, List.getElem_toArray, List.getElem_cons_zero, List.getElem_cons_succ, List.setIfInBounds_toArray, List.set_cons_zero, List.set_cons_succ]
                refine wpAnyH_done (by kernel_rfl) ?_ _
                try simp only [Act.put, List.getElem_toArray, List.getElem_cons_zero, List.getElem_cons_succ, List.setIfInBounds_toArray, List.set_cons_zero, List.set_cons_succ]
                clear b0 b1 b2 e0 e1 e2 gb1 gb2
                go_wp2
                go_roundw
                case rel =>
                  refine ⟨i + 1, by omega, by go_num, ?_, HCQ.out.trans0 HC3.out⟩
                  rw [take_snoc _ _ _ HID.out]
                  intro id hid
                  rcases List.mem_append.1 hid with h | h
                  · exact HALL.out id h
                  · simp at h; subst h; exact ⟨HTY.out.trans HTT.out, (HWY.out.trans HWL.out).trans HWJ.out⟩
                case measure => simp [intOf]; omega
              · have g2 : ((wy : Int) != (j : Int)) = true := by simp; omega
                have HE : Hid (oneE ls ts g = 170) := Lib.hid (HSTEP.out (idsE_bad HMEM.out (fun h => hwj ((HWL.out.symm.trans HWY.out.symm).trans h.2))))
                clear hwj
                go_wp2_with fail
                refine wp_region_held_drew (S := fun w' => Chg [] wr w') (by kernel_rfl) ((Chg.refl _ _).drew) (fun hHeld => ?_)
                refine wpAnyH_take (i := 0) (v := ?_) rfl (by kernel_rfl) (by kernel_rfl) (by kernel_rfl) (fun _ _ _ h => h) (Or.inl ⟨by rfl, ?_⟩) (by assumption) ?_
                rotate_left
                · (intro w' hSw; go_simp; try with_reducible rfl)
                try simp only [Act.put, List.getElem_toArray, List.getElem_cons_zero, List.setIfInBounds_toArray, List.set_cons_zero, List.set_cons_succ]
                refine wpAnyH_take (i := 1) (v := ?_) rfl (by kernel_rfl) (by kernel_rfl) (by kernel_rfl) (fun _ _ _ h => h) (Or.inl ⟨by rfl, ?_⟩) (by assumption) ?_
                rotate_left
                · (intro w' hSw; go_simp; try with_reducible rfl)
                try simp only [Act.put, List.getElem_toArray, List.getElem_cons_zero, List.getElem_cons_succ, List.setIfInBounds_toArray, List.set_cons_zero, List.set_cons_succ]
                refine wpAnyH_take (i := 2) (v := ?_) rfl (by kernel_rfl) (by kernel_rfl) (by kernel_rfl) (fun _ _ _ h => h) (Or.inl ⟨by rfl, ?_⟩) (by assumption) ?_
                rotate_left
                · (intro w' hSw; go_simp; try with_reducible rfl)
                try simp only [Act.put, List.getElem_toArray, List.getElem_cons_zero, List.getElem_cons_succ, List.setIfInBounds_toArray, List.set_cons_zero, List.set_cons_succ]
                refine wpAnyH_take (i := 3) (v := ?_) rfl (by kernel_rfl) (by kernel_rfl) (by kernel_rfl) (fun _ _ _ h => h) (Or.inl ⟨by rfl, ?_⟩) (by assumption) ?_
                rotate_left
                · (intro w' hSw; have q := hSw.cell x1 (fun h => List.not_mem_nil h); go_simp; try with_reducible rfl)
                try simp only [Act.put, List.getElem_toArray, List.getElem_cons_zero, List.getElem_cons_succ, List.setIfInBounds_toArray, List.set_cons_zero, List.set_cons_succ]
                refine wpAnyH_take (i := 4) (v := ?_) rfl (by kernel_rfl) (by kernel_rfl) (by kernel_rfl) (fun _ _ _ h => h) (Or.inl ⟨by rfl, ?_⟩) (by assumption) ?_
                rotate_left
                · (intro w' hSw; go_simp; try with_reducible rfl)
                try simp only [Act.put, List.getElem_toArray, List.getElem_cons_zero, List.getElem_cons_succ, List.setIfInBounds_toArray, List.set_cons_zero, List.set_cons_succ]
                refine wpAnyH_take (i := 5) (v := ?_) rfl (by kernel_rfl) (by kernel_rfl) (by kernel_rfl) (fun _ _ _ h => h) (Or.inl ⟨by rfl, ?_⟩) (by assumption) ?_
                rotate_left
                · (intro w' hSw; have q := hSw.cell gb1 (fun h => List.not_mem_nil h); go_simp; try with_reducible rfl)
                try simp only [Act.put, List.getElem_toArray, List.getElem_cons_zero, List.getElem_cons_succ, List.setIfInBounds_toArray, List.set_cons_zero, List.set_cons_succ]
                refine wpAnyH_take (i := 6) (v := ?_) rfl (by kernel_rfl) (by kernel_rfl) (by kernel_rfl) (fun _ _ _ h => h) (Or.inl ⟨by rfl, ?_⟩) (by assumption) ?_
                rotate_left
                · (intro w' hSw; go_simp; try with_reducible rfl)
                try simp only [Act.put, List.getElem_toArray, List.getElem_cons_zero, List.getElem_cons_succ, List.setIfInBounds_toArray, List.set_cons_zero, List.set_cons_succ]
                refine wpAnyH_take (i := 7) (v := ?_) rfl (by kernel_rfl) (by kernel_rfl) (by kernel_rfl) (fun _ _ _ h => h) (Or.inl ⟨by rfl, ?_⟩) (by assumption) ?_
                rotate_left
                · (intro w' hSw; go_simp; try with_reducible rfl)
                try simp only [Act.put, List.getElem_toArray, List.getElem_cons_zero, List.getElem_cons_succ, List.setIfInBounds_toArray, List.set_cons_zero, List.set_cons_succ]
                refine wpAnyH_take (i := 8) (v := ?_) rfl (by kernel_rfl) (by kernel_rfl) (by kernel_rfl) (fun _ _ _ h => h) (Or.inl ⟨by rfl, ?_⟩) (by assumption) ?_
                rotate_left
                · (intro w' hSw; go_simp; try with_reducible rfl)
                try simp only [Act.put, List.getElem_toArray, List.getElem_cons_zero, List.getElem_cons_succ, List.setIfInBounds_toArray, List.set_cons_zero, List.set_cons_succ]
                refine wpAnyH_take (i := 9) (v := ?_) rfl (by kernel_rfl) (by kernel_rfl) (by kernel_rfl) (fun _ _ _ h => h) (Or.inl ⟨by rfl, ?_⟩) (by assumption) ?_
                rotate_left
                · (intro w' hSw; go_simp; try with_reducible rfl)
                try simp only [Act.put, List.getElem_toArray, List.getElem_cons_zero, List.getElem_cons_succ, List.setIfInBounds_toArray, List.set_cons_zero, List.set_cons_succ]
                refine wpAnyH_take (i := 10) (v := ?_) rfl (by kernel_rfl) (by kernel_rfl) (by kernel_rfl) (fun _ _ _ h => h) (Or.inl ⟨by rfl, ?_⟩) (by assumption) ?_
                rotate_left
                · (intro w' hSw; go_simp; try with_reducible rfl)
                try simp only [Act.put, List.getElem_toArray, List.getElem_cons_zero, List.getElem_cons_succ, List.setIfInBounds_toArray, List.set_cons_zero, List.set_cons_succ]
                refine wpAnyH_take (i := 11) (v := ?_) rfl (by kernel_rfl) (by kernel_rfl) (by kernel_rfl) (fun _ _ _ h => h) (Or.inl ⟨by rfl, ?_⟩) (by assumption) ?_
                rotate_left
                · (intro w' hSw; have q0 := hSw.cell x20 (fun h => List.not_mem_nil h); have q1 := hSw.cell x21 (fun h => List.not_mem_nil h); have q2 := hSw.cell x22 (fun h => List.not_mem_nil h); have q3 := hSw.cell x23 (fun h => List.not_mem_nil h); have q4 := hSw.cell x24 (fun h => List.not_mem_nil h); have q5 := hSw.cell x25 (fun h => List.not_mem_nil h); have q6 := hSw.cell x26 (fun h => List.not_mem_nil h); go_simp; try with_reducible rfl)
                try simp only [Act.put, List.getElem_toArray, List.getElem_cons_zero, List.getElem_cons_succ, List.setIfInBounds_toArray, List.set_cons_zero, List.set_cons_succ]
                refine wpAnyH_take (i := 12) (v := ?_) rfl (by kernel_rfl) (by kernel_rfl) (by kernel_rfl) (fun _ _ _ h => h) (Or.inl ⟨by rfl, ?_⟩) (by assumption) ?_
                rotate_left
                · (intro w' hSw; go_simp; try with_reducible rfl)
                try simp only [Act.put, List.getElem_toArray, List.getElem_cons_zero, List.getElem_cons_succ, List.setIfInBounds_toArray, List.set_cons_zero, List.set_cons_succ]
                refine wpAnyH_take (i := 13) (v := ?_) rfl (by kernel_rfl) (by kernel_rfl) (by kernel_rfl) (fun _ _ _ h => h) (Or.inl ⟨by rfl, ?_⟩) (by assumption) ?_
                rotate_left
                · (intro w' hSw; have q := hSw.cell gb2 (fun h => List.not_mem_nil h); go_simp; try with_reducible rfl)
                try simp only [Act.put, List.getElem_toArray, List.getElem_cons_zero, List.getElem_cons_succ, List.setIfInBounds_toArray, List.set_cons_zero, List.set_cons_succ]
                refine wpAnyH_take (i := 15) (v := ?_) rfl (by kernel_rfl) (by kernel_rfl) (by kernel_rfl) (fun _ _ _ h => h) (Or.inl ⟨by rfl, ?_⟩) (by assumption) ?_
                rotate_left
                · (intro w' hSw; go_simp; try with_reducible rfl)
                try simp only [Act.put, List.getElem_toArray, List.getElem_cons_zero, List.getElem_cons_succ, List.setIfInBounds_toArray, List.set_cons_zero, List.set_cons_succ]
                refine wpAnyH_ready (rs := [14]) (by kernel_rfl) (by simp) ?_
                refine AllReadyH.cons rfl (fun K hK => ?_) (AllReadyH.nil)
                go_simp
                refine (way_any' l g.dst wy HWL.out _).mono ?_
                rintro e w3 ⟨rfl, hc3⟩
                have HC3 := Lib.hid (hHeld.trans0 hc3)
                clear hc3
                refine hK.out _ _ (HC3.out) (fun hHeld => ?_)
                try simp only [Act.put, List.getElem_toArray, List.getElem_cons_zero, List.getElem_cons_succ, List.setIfInBounds_toArray, List.set_cons_zero, List.set_cons_succ]
                clear hK K
                refine wpAnyH_take (i := 16) (v := ?_) rfl (by kernel_rfl) (by kernel_rfl) (by kernel_rfl) (fun _ _ _ h => h) (Or.inl ⟨by rfl, ?_⟩) (by assumption) ?_
                rotate_left
                · (intro w' hSw; go_simp; try with_reducible rfl)
                try simp only [Act.put, List.getElem_toArray, List.getElem_cons_zero, List.getElem_cons_succ, List.setIfInBounds_toArray, List.set_cons_zero, List.set_cons_succ]
                refine wpAnyH_take (i := 17) (v := ?_) rfl (by kernel_rfl) (by kernel_rfl) (by kernel_rfl) (fun _ _ _ h => h) (Or.inl ⟨by rfl, ?_⟩) (by assumption) ?_
                rotate_left
                · (intro w' hSw; go_simp; try with_reducible rfl)
                try simp only [Act.put, List.getElem_toArray, List.getElem_cons_zero, List.getElem_cons_succ, List.setIfInBounds_toArray, List.set_cons_zero, List.set_cons_succ]
                refine wpAnyH_done (by kernel_rfl) ?_ _
                try simp only [Act.put, List.getElem_toArray, List.getElem_cons_zero, List.getElem_cons_succ, List.setIfInBounds_toArray, List.set_cons_zero, List.set_cons_succ]
                have y0 := HC3.out.cell b0 (fun h => List.not_mem_nil h)
                have y1 := HC3.out.cell b1 (fun h => List.not_mem_nil h)
                have y2 := HC3.out.cell b2 (fun h => List.not_mem_nil h)
                have hb3 := (HBB2.out.chg HCQ.out (fun h => List.not_mem_nil h)).chg HC3.out (fun h => List.not_mem_nil h)
                have f0 := hb3.frozen 0
                have f1 := hb3.frozen 1
                have f2 := hb3.frozen 2
                have HB3 := Lib.hid hb3
                clear hb3
                go_wp2
                exact one_ret rfl rfl rfl (((HB3.out.set_ 0 _).set_ 1 _).set_ 2 _) (BAD.out 170 HE.out (by decide) _ ((((HCW.out.trans0 HC3.out).setCell (.inr (by simp)) _).setCell (.inr (by simp)) _).setCell (.inr (by simp)) _))
            · have g1 : (t != g.src) = true := by simp [htt]
              have HE : Hid (oneE ls ts g = 170) := Lib.hid (HSTEP.out (idsE_bad HMEM.out (fun h => htt (HTY.out.symm.trans h.1))))
              clear htt
              go_wp2_with fail
              refine wp_region_held_drew (S := fun w' => Chg [] wr w') (by kernel_rfl) ((Chg.refl _ _).drew) (fun hHeld => ?_)
              refine wpAnyH_take (i := 0) (v := ?_) rfl (by kernel_rfl) (by kernel_rfl) (by kernel_rfl) (fun _ _ _ h => h) (Or.inl ⟨by rfl, ?_⟩) (by assumption) ?_
              rotate_left
              · (intro w' hSw; go_simp; try with_reducible rfl)
              try simp only [Act.put, List.getElem_toArray, List.getElem_cons_zero, List.setIfInBounds_toArray, List.set_cons_zero, List.set_cons_succ]
              refine wpAnyH_take (i := 1) (v := ?_) rfl (by kernel_rfl) (by kernel_rfl) (by kernel_rfl) (fun _ _ _ h => h) (Or.inl ⟨by rfl, ?_⟩) (by assumption) ?_
              rotate_left
              · (intro w' hSw; go_simp; try with_reducible rfl)
              try simp only [Act.put, List.getElem_toArray, List.getElem_cons_zero, List.getElem_cons_succ, List.setIfInBounds_toArray, List.set_cons_zero, List.set_cons_succ]
              refine wpAnyH_take (i := 2) (v := ?_) rfl (by kernel_rfl) (by kernel_rfl) (by kernel_rfl) (fun _ _ _ h => h) (Or.inl ⟨by rfl, ?_⟩) (by assumption) ?_
              rotate_left
              · (intro w' hSw; go_simp; try with_reducible rfl)
              try simp only [Act.put, List.getElem_toArray, List.getElem_cons_zero, List.getElem_cons_succ, List.setIfInBounds_toArray, List.set_cons_zero, List.set_cons_succ]
              refine wpAnyH_take (i := 3) (v := ?_) rfl (by kernel_rfl) (by kernel_rfl) (by kernel_rfl) (fun _ _ _ h => h) (Or.inl ⟨by rfl, ?_⟩) (by assumption) ?_
              rotate_left
              · (intro w' hSw; have q := hSw.cell x1 (fun h => List.not_mem_nil h); go_simp; try with_reducible rfl)
              try simp only [Act.put, List.getElem_toArray, List.getElem_cons_zero, List.getElem_cons_succ, List.setIfInBounds_toArray, List.set_cons_zero, List.set_cons_succ]
              refine wpAnyH_take (i := 4) (v := ?_) rfl (by kernel_rfl) (by kernel_rfl) (by kernel_rfl) (fun _ _ _ h => h) (Or.inl ⟨by rfl, ?_⟩) (by assumption) ?_
              rotate_left
              · (intro w' hSw; go_simp; try with_reducible rfl)
              try simp only [Act.put, List.getElem_toArray, List.getElem_cons_zero, List.getElem_cons_succ, List.setIfInBounds_toArray, List.set_cons_zero, List.set_cons_succ]
              refine wpAnyH_take (i := 5) (v := ?_) rfl (by kernel_rfl) (by kernel_rfl) (by kernel_rfl) (fun _ _ _ h => h) (Or.inl ⟨by rfl, ?_⟩) (by assumption) ?_
              rotate_left
              · (intro w' hSw; have q := hSw.cell gb1 (fun h => List.not_mem_nil h); go_simp; try with_reducible rfl)
              try simp only [Act.put, List.getElem_toArray, List.getElem_cons_zero, List.getElem_cons_succ, List.setIfInBounds_toArray, List.set_cons_zero, List.set_cons_succ]
              refine wpAnyH_take (i := 6) (v := ?_) rfl (by kernel_rfl) (by kernel_rfl) (by kernel_rfl) (fun _ _ _ h => h) (Or.inl ⟨by rfl, ?_⟩) (by assumption) ?_
              rotate_left
              · (intro w' hSw; go_simp; try with_reducible rfl)
              try simp only [Act.put, List.getElem_toArray, List.getElem_cons_zero, List.getElem_cons_succ, List.setIfInBounds_toArray, List.set_cons_zero, List.set_cons_succ]
              refine wpAnyH_take (i := 7) (v := ?_) rfl (by kernel_rfl) (by kernel_rfl) (by kernel_rfl) (fun _ _ _ h => h) (Or.inl ⟨by rfl, ?_⟩) (by assumption) ?_
              rotate_left
              · (intro w' hSw; go_simp; try with_reducible rfl)
              try simp only [Act.put, List.getElem_toArray, List.getElem_cons_zero, List.getElem_cons_succ, List.setIfInBounds_toArray, List.set_cons_zero, List.set_cons_succ]
              refine wpAnyH_take (i := 8) (v := undef) rfl (by kernel_rfl) (by kernel_rfl) (by kernel_rfl) (fun _ _ _ h => h) (Or.inr ⟨by rfl, rfl⟩) (by assumption) ?_
              try simp only [Act.put, List.getElem_toArray, List.getElem_cons_zero, List.getElem_cons_succ, List.setIfInBounds_toArray, List.set_cons_zero, List.set_cons_succ]
              refine wpAnyH_take (i := 9) (v := undef) rfl (by kernel_rfl) (by kernel_rfl) (by kernel_rfl) (fun _ _ _ h => h) (Or.inr ⟨by rfl, rfl⟩) (by assumption) ?_
              try simp only [Act.put, List.getElem_toArray, List.getElem_cons_zero, List.getElem_cons_succ, List.setIfInBounds_toArray, List.set_cons_zero, List.set_cons_succ]
              refine wpAnyH_take (i := 10) (v := undef) rfl (by kernel_rfl) (by kernel_rfl) (by kernel_rfl) (fun _ _ _ h => h) (Or.inr ⟨by rfl, rfl⟩) (by assumption) ?_
              try simp only [Act.put, List.getElem_toArray, List.getElem_cons_zero, List.getElem_cons_succ, List.setIfInBounds_toArray, List.set_cons_zero, List.set_cons_succ]
              refine wpAnyH_take (i := 11) (v := undef) rfl (by kernel_rfl) (by kernel_rfl) (by kernel_rfl) (fun _ _ _ h => h) (Or.inr ⟨by rfl, rfl⟩) (by assumption) ?_
              try simp only [Act.put, List.getElem_toArray, List.getElem_cons_zero, List.getElem_cons_succ, List.setIfInBounds_toArray, List.set_cons_zero, List.set_cons_succ]
              refine wpAnyH_take (i := 12) (v := undef) rfl (by kernel_rfl) (by kernel_rfl) (by kernel_rfl) (fun _ _ _ h => h) (Or.inr ⟨by rfl, rfl⟩) (by assumption) ?_
              try simp only [Act.put, List.getElem_toArray, List.getElem_cons_zero, List.getElem_cons_succ, List.setIfInBounds_toArray, List.set_cons_zero, List.set_cons_succ]
              refine wpAnyH_take (i := 13) (v := undef) rfl (by kernel_rfl) (by kernel_rfl) (by kernel_rfl) (fun _ _ _ h => h) (Or.inr ⟨by rfl, rfl⟩) (by assumption) ?_
              try simp only [Act.put, List.getElem_toArray, List.getElem_cons_zero, List.getElem_cons_succ, List.setIfInBounds_toArray, List.set_cons_zero, List.set_cons_succ]
              refine wpAnyH_take (i := 14) (v := undef) rfl (by kernel_rfl) (by kernel_rfl) (by kernel_rfl) (fun _ _ _ h => h) (Or.inr ⟨by rfl, rfl⟩) (by assumption) ?_
              try simp only [Act.put, List.getElem_toArray, List.getElem_cons_zero, List.getElem_cons_succ, List.setIfInBounds_toArray, List.set_cons_zero, List.set_cons_succ]
              refine wpAnyH_take (i := 15) (v := undef) rfl (by kernel_rfl) (by kernel_rfl) (by kernel_rfl) (fun _ _ _ h => h) (Or.inr ⟨by rfl, rfl⟩) (by assumption) ?_
              try simp only [Act.put, List.getElem_toArray, List.getElem_cons_zero, List.getElem_cons_succ, List.setIfInBounds_toArray, List.set_cons_zero, List.set_cons_succ]
              refine wpAnyH_take (i := 16) (v := undef) rfl (by kernel_rfl) (by kernel_rfl) (by kernel_rfl) (fun _ _ _ h => h) (Or.inr ⟨by rfl, rfl⟩) (by assumption) ?_
              try simp only [Act.put, List.getElem_toArray, List.getElem_cons_zero, List.getElem_cons_succ, List.setIfInBounds_toArray, List.set_cons_zero, List.set_cons_succ]
              refine wpAnyH_take (i := 17) (v := ?_) rfl (by kernel_rfl) (by kernel_rfl) (by kernel_rfl) (fun _ _ _ h => h) (Or.inl ⟨by rfl, ?_⟩) (by assumption) ?_
              rotate_left
              · (intro w' hSw; go_simp; try with_reducible rfl)
              try simp only [Act.put, List.getElem_toArray, List.getElem_cons_zero, List.getElem_cons_succ, List.setIfInBounds_toArray, List.set_cons_zero, List.set_cons_succ]
              refine wpAnyH_done (by kernel_rfl) ?_ _
              try simp only [Act.put, List.getElem_toArray, List.getElem_cons_zero, List.getElem_cons_succ, List.setIfInBounds_toArray, List.set_cons_zero, List.set_cons_succ]
              have HB3 := Lib.hid (HBB2.out.chg HCQ.out (fun h => List.not_mem_nil h))
              go_wp2
              exact one_ret rfl rfl rfl (((HB3.out.set_ 0 _).set_ 1 _).set_ 2 _) (BAD.out 170 HE.out (by decide) _ (by first | exact (((HCW.out.setCell (.inr (by simp)) _).setCell (.inr (by simp)) _).setCell (.inr (by simp)) _).drew | exact ((HCW.out.drew.setCell (.inr (by simp)) _).setCell (.inr (by simp)) _).setCell (.inr (by simp)) _))
          · obtain rfl : i = N2 := by omega
            have hall : ∀ id ∈ idsOf ls g j, tyOf ts id = g.src ∧ wyOf ls g.dst id = j := by
              have := HALL.out
              rw [List.take_of_length_le (show (idsOf ls g j).length ≤ i by rw [HN2.out]; exact Nat.le_refl _)] at this
              exact this
            have HONE2 : Hid (oneJ ls ts g (j + 1) = 0) := Lib.hid (by rw [oneJ, if_neg (by rw [HONE.out]; simp)]; unfold wayE; rw [if_neg (by rw [HSND.out]; simp)]; unfold idsE; exact if_pos hall)
            have hbq := HBB2.out.chg HCQ.out (fun h => List.not_mem_nil h)
            have bj := hbq.cell j
            rw [b3_at b j hj] at bj
            have fj := hbq.frozen j
            have HBQ := Lib.hid hbq
            clear hbq hall
            go_wp2
            go_roundw
            case rel =>
              have hs : Chg [w.heap.size + 1] wr (wr.setCell ⟨w.heap.size + 1, j, none⟩ (.slice A2 i c2)) := (Chg.refl _ _).setCell (.inl (by simp)) _
              have hc02 : Chg [] wo wr := HCQ.out
              have hlt := HBB.out.lt
              refine ⟨j + 1, b.set j A2 i c2, by omega, by go_num, HONE2.out, (HBG2.out.chg HCQ.out (fun h => List.not_mem_nil h)).chg hs (by simp), ?_, fun k hk => ?_, ?_⟩
              · have q := HBQ.out.set_ j (.slice A2 i c2)
                rw [b3_set b j hj] at q
                exact q
              · by_cases hkj : k = j
                · subst hkj
                  simp only [B3.set, if_pos]
                  have hnw : ∀ x ∈ bo A2, w.heap.size + 1 < x := fun x hx => by have := HNW2.out x hx; omega
                  exact ⟨(HO2.out.chg hc02 (fun _ _ => List.not_mem_nil)).chg hs (fun x hx hm => Nat.ne_of_gt (hnw x hx) (by simpa using hm)), hnw⟩
                · simp only [B3.set, if_neg hkj]
                  obtain ⟨h1, h2⟩ := HOWN.out k (by omega)
                  exact ⟨((h1.chg HC2.out (fun _ _ => List.not_mem_nil)).chg hc02 (fun _ _ => List.not_mem_nil)).chg hs (fun x hx hm => Nat.ne_of_gt (h2 x hx) (by simpa using hm)), h2⟩
              · exact ((HCH.out.trans0 HC2.out).trans0 HCQ.out).setCell (.inr (by simp)) _
            case measure => simp [intOf]; omega
      · have hEb : (E2 != 0) = true := by simp [hE]
        have HE' : Hid (oneE ls ts g = E2) := Lib.hid (oneE_bad (j := j + 1) (by omega) (by rw [oneJ, if_neg (by rw [HONE.out]; simp)]; unfold wayE; rw [if_pos (by rw [← HE2.out]; exact hE)]; exact HE2.out.symm) hE)
        have HNE := Lib.hid hE
        clear hE
        have hb3 := HBB2.out
        have b0 := hb3.cell 0
        have b1 := hb3.cell 1
        have b2 := hb3.cell 2
        have e0 := hb3.frozen 0
        have e1 := hb3.frozen 1
        have e2 := hb3.frozen 2
        simp [B3.sl] at b0 b1 b2
        clear hb3
        go_wp2
        exact one_ret rfl rfl rfl (((HBB2.out.set_ 0 _).set_ 1 _).set_ 2 _) (BAD.out E2 HE'.out HNE.out _ ((((HCH.out.trans0 HC2.out).setCell (.inr (by simp)) _).setCell (.inr (by simp)) _).setCell (.inr (by simp)) _))
    · obtain rfl : j = 3 := by omega
      have hb3 := HBB.out
      have b0 := hb3.cell 0
      have b1 := hb3.cell 1
      have b2 := hb3.cell 2
      simp [B3.sl] at b0 b1 b2
      have h0 := own_len (HOWN.out 0 (by decide)).1
      have h1 := own_len (HOWN.out 1 (by decide)).1
      have h2 := own_len (HOWN.out 2 (by decide)).1
      have q0 := ids_len (ls := ls) (g := g) (k := 0)
      have q1 := ids_len (ls := ls) (g := g) (k := 1)
      have q2 := ids_len (ls := ls) (g := g) (k := 2)
      rw [HL.out, h0] at q0
      rw [HL.out, h1] at q1
      rw [HL.out, h2] at q2
      have H0 := Lib.hid h0
      have H1 := Lib.hid h1
      have H2 := Lib.hid h2
      clear hb3 h0 h1 h2 gb2
      go_wp2_with fail
      refine (size_any _ _ _ _ _ _ _ _ _ (by omega) (by omega) (by omega) _).mono ?_
      rintro e w5 ⟨rfl, hc5⟩
      have hb5 := HBB.out.chg hc5 (fun h => List.not_mem_nil h)
      have y0 := hb5.cell 0
      have y1 := hb5.cell 1
      have y2 := hb5.cell 2
      have e0 := hb5.frozen 0
      have e1 := hb5.frozen 1
      have e2 := hb5.frozen 2
      simp [B3.sl] at y0 y1 y2
      have HB5 := Lib.hid hb5
      have HC5 := Lib.hid hc5
      clear hb5 hc5 b0 b1 b2
      obtain ⟨tot, htot⟩ : ∃ tot, tot = b.n 0 + b.n 1 + b.n 2 := ⟨_, rfl⟩
      rw [← htot]
      by_cases hz : tot = 0
      · have hzb : ((tot : Int) == 0) = true := by simp [hz]
        have HE' : Hid (oneE ls ts g = 170) := Lib.hid (by unfold oneE; rw [if_neg (by rw [HONE.out]; simp), if_pos (by rw [H0.out, H1.out, H2.out, ← htot]; exact hz)])
        clear hz htot
        go_wp2
        exact one_ret rfl rfl rfl (((HB5.out.set_ 0 _).set_ 1 _).set_ 2 _) (BAD.out 170 HE'.out (by decide) _ ((((HCH.out.trans0 HC5.out).setCell (.inr (by simp)) _).setCell (.inr (by simp)) _).setCell (.inr (by simp)) _))
      · have hzb : ((tot : Int) == 0) = false := by simp; omega
        have HE' : Hid (oneE ls ts g = 0) := Lib.hid (by unfold oneE; rw [if_neg (by rw [HONE.out]; simp), if_neg (by rw [H0.out, H1.out, H2.out, ← htot]; exact hz)])
        clear hz htot
        go_wp2
        refine one_ret rfl rfl rfl (((HB5.out.set_ 0 _).set_ 1 _).set_ 2 _) ⟨b, 0, rfl, HE'.out.symm, fun _ => ⟨fun k hk => ?_, fun k hk x hx => by have := (HOWN.out k hk).2 x hx; omega⟩, (((HCH.out.trans0 HC5.out).setCell (.inr (by simp)) _).setCell (.inr (by simp)) _).setCell (.inr (by simp)) _⟩
        obtain ⟨h1, h2⟩ := HOWN.out k hk
        have far : ∀ x ∈ bo (b.A k), x ∉ [w.heap.size + 1] := fun x hx hm => Nat.ne_of_gt (h2 x hx) (by simpa using hm)
        refine (h1.chg HC5.out (fun _ _ => List.not_mem_nil)).chg (L := [w.heap.size + 1]) ?_ far
        exact (((Chg.refl _ _).setCell (.inl (by simp)) _).setCell (.inl (by simp)) _).setCell (.inl (by simp)) _
end Go.Proofs.Ytelmnmepdmfihaa
