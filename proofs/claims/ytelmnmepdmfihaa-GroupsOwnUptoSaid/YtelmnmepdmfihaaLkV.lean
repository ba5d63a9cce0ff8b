/-
  Layer 13: the document's Thread.
-/
import Derived.Test.YtelmnmepdmfihaaLkP
import Derived.StillTailTactics
namespace Go.Proofs.Ytelmnmepdmfihaa
open Go.RowKit

theorem etyBools : Ety Try.prog 50 4 1 1 (.bool false) := .mk' Try.underlying50 (by kernel_rfl) rfl (by decide)
theorem one_bool (b : Bool) : ∀ u ∈ (#[Value.bool b] : Array Value).toList, u.oneCell' = true := by simp [Value.oneCell']

/-- which ids have been met -/
def metb (n : Nat) (seen : List Int) : List Value := (List.range n).map fun i : Nat => Value.bool (decide ((i : Int) ∈ seen))
theorem metb_nil (n : Nat) : metb n [] = List.replicate n (.bool false) := by
  unfold metb
  induction n with
  | zero => rfl
  | succ n ih => rw [List.range_succ, List.map_append, ih, List.replicate_succ']; simp
theorem metb_at (n : Nat) (seen : List Int) (j : Nat) (hj : j < n) : (metb n seen)[j]? = some (.bool (decide ((j : Int) ∈ seen))) := by
  unfold metb
  rw [List.getElem?_map, List.getElem?_range hj]; rfl
theorem metb_set (n : Nat) (ord : List Int) (k j : Nat) (h : ord[k]? = some (j : Int)) : (metb n (ord.take k)).set j (.bool true) = metb n (ord.take (k + 1)) := by
  apply List.ext_getElem?
  intro i
  rw [List.getElem?_set]
  by_cases hi : i < n
  · rw [metb_at _ _ _ hi, metb_at _ _ _ hi, take_snoc ord k _ h]
    split
    · rename_i hji; subst hji
      simp [metb, hi]
    · rename_i hji
      have : ¬ (i : Int) = j := by omega
      simp [this]
  · have h1 : (metb n (ord.take k)).length = n := by simp [metb]
    have h2 : (metb n (ord.take (k + 1))).length = n := by simp [metb]
    rw [List.getElem?_eq_none (by omega : (metb n (ord.take k)).length ≤ i), List.getElem?_eq_none (by omega : (metb n (ord.take (k + 1))).length ≤ i)]
    split
    · rw [if_neg (by omega)]
    · rfl

theorem Own.set7 {w : World} {e : TypeId} {g n c : Nat} {ls : List Lk} (h : Own w e 7 (some ⟨g, 0, none⟩) n c (lvs ls)) {j : Nat} {l : Lk} (hj : ls[j]? = some l) (a : Bool) (b c0 d e0 f f1 : Int) :
    Own (((((((w.setCell ⟨g, j * 7, none⟩ (.bool a)).setCell ⟨g, j * 7 + 1, none⟩ (.int .i64 b)).setCell ⟨g, j * 7 + 2, none⟩ (.int .i64 c0)).setCell ⟨g, j * 7 + 3, none⟩ (.int .i64 d)).setCell ⟨g, j * 7 + 4, none⟩ (.int .i64 e0)).setCell ⟨g, j * 7 + 5, none⟩ (.int .i64 f)).setCell ⟨g, j * 7 + 6, none⟩ (.int .i64 f1)) e 7 (some ⟨g, 0, none⟩) n c (lvs (ls.set j ⟨a, b, c0, d, e0, f, f1⟩)) := by
  have hat : ∀ x y : Lk, (ls.set j x)[j]? = some x := fun x _ => by rw [List.getElem?_set, if_pos rfl, if_pos (List.getElem?_eq_some_iff.1 hj).1]
  have h1 := h.set1 hj (k := 0) (v := .bool a) (l' := { l with live := a }) (by decide) rfl
  have h2 := h1.set1 (hat _ l) (k := 1) (v := .int .i64 b) (l' := { l with live := a, src := b }) (by decide) rfl
  rw [List.set_set] at h2
  have h3 := h2.set1 (hat _ l) (k := 2) (v := .int .i64 c0) (l' := { l with live := a, src := b, dst := c0 }) (by decide) rfl
  rw [List.set_set] at h3
  have h4 := h3.set1 (hat _ l) (k := 3) (v := .int .i64 d) (l' := { l with live := a, src := b, dst := c0, sp := d }) (by decide) rfl
  rw [List.set_set] at h4
  have h5 := h4.set1 (hat _ l) (k := 4) (v := .int .i64 e0) (l' := { l with live := a, src := b, dst := c0, sp := d, tp := e0 }) (by decide) rfl
  rw [List.set_set] at h5
  have h6 := h5.set1 (hat _ l) (k := 5) (v := .int .i64 f) (l' := { l with live := a, src := b, dst := c0, sp := d, tp := e0, sn := f }) (by decide) rfl
  rw [List.set_set] at h6
  have h7 := h6.set1 (hat _ l) (k := 6) (v := .int .i64 f1) (l' := ⟨a, b, c0, d, e0, f, f1⟩) (by decide) rfl
  rw [List.set_set] at h7
  exact h7

set_option maxRecDepth 100000 in
set_option maxHeartbeats 12800000 in
theorem gthread_any (A : Option Addr) (n c : Nat) (ls : List Lk) (node : Int) (B : Option Addr) (m d : Nat) (ord : List Int) (w : World) (hrd : Rd w 7 A n c (lvs ls)) (hn : n ≤ 1073741824) (hor : Rd w 1 B m d (iv ord)) (hm : m ≤ 1073741824) :
    Calls Try.prog 33 #[.slice A n c, .int .i64 node, .slice B m d] w (ThrTo ls node ord w) := by
  have hl : ls.length = n := by have := hrd.1; rw [lvs_length] at this; omega
  have hol : ord.length = m := by have := hor.1; simp at this; omega
  have HR := Lib.hid hrd
  have HO := Lib.hid hor
  have HL := Lib.hid hl
  have HM := Lib.hid hol
  clear hrd hor hl hol
  go_enter Try.func33, Try.ntmps33
  go_wp2
  go_loopw [8, 9] (fun v q wr => ∃ (i : Nat) (A' : Option Addr) (c' : Nat), i ≤ n ∧ q = .int .i64 i ∧ v = .slice A' i c' ∧ Own wr 4 1 A' i c' (List.replicate i (.bool false)) ∧ Chg [] w wr ∧ (∀ k ∈ bo A', w.heap.size ≤ k)) (fun _ q _ => n - (intOf q).toNat)
  case atStart => exact ⟨0, _, 0, Nat.zero_le _, rfl, rfl, Own.lit _ 4 1 #[] 0 (by decide) rfl, (Chg.refl _ _).alloc _, by simp⟩
  case round =>
    obtain ⟨i, A', c', hi, rfl, rfl, hown, hch, hnew⟩ := hrel
    have HW := Lib.hid hnew
    clear hnew
    by_cases hlt : i < n
    · go_wp2_with (at_builtin; refine wpList_app rfl _ _ rfl etyBools rfl (hown.chg ((Chg.refl [] _).alloc _) (fun _ _ => List.not_mem_nil)) rfl (Own.lit _ 4 1 #[.bool false] 1 (by decide) rfl).rd (one_bool _) (by unfold maxLen; omega) (by omega) ?_; intro A2 c2 w2 hown2 hchg2 hnew2 _)
      go_roundw
      case rel =>
        refine ⟨i + 1, A2, c2, by omega, by go_num, rfl, by rw [List.replicate_succ']; simpa using hown2, (hch.alloc _).trans hchg2 (fun y hy => .inr (HW.out y hy)), fun y hy => ?_⟩
        rcases hnew2 y hy with h1 | h1
        · exact HW.out y h1
        · have h2 := hch.size; simp at h1; omega
      case measure => simp [intOf]; omega
    · obtain rfl : i = n := by omega
      clear hlt hi
      obtain ⟨w1, hw1⟩ : ∃ w1 : World, w1 = wr := ⟨_, rfl⟩
      subst hw1
      go_wp2
      go_loopw [10] (fun q wr => ∃ (k : Nat), k ≤ m ∧ q = .int .i64 k ∧ ThrOk ls node ord k ∧ Own wr 4 1 A' i c' (metb i (ord.take k)) ∧ Chg [] w wr) (fun q _ => m - (intOf q).toNat)
      case atStart => exact ⟨0, Nat.zero_le _, rfl, ThrOk.zero _ _ _, by simpa [metb_nil] using hown, hch⟩
      case round =>
        obtain ⟨k, hk, rfl, hok, hown, hch⟩ := hrel
        by_cases hlt : k < m
        · obtain ⟨bd, id, rfl, hid, hcell⟩ := rd_int (HO.out.chg hch (by simp)) hlt
          have HID := Lib.hid hid
          clear hid
          go_wp2_with fail
          have hf := gtou_any A i c ls node id wr (HR.out.chg hch (by simp))
          by_cases ht : tch ls node id = 0
          · rw [ht] at hf
            obtain ⟨h0, l, hl, hlive, htou⟩ := tch_some ht
            obtain ⟨j, rfl⟩ := Int.eq_ofNat_of_zero_le h0
            have qj : j < i := by
              have := (List.getElem?_eq_some_iff.1 hl).1
              have := HL.out
              simp at *
              omega
            have HT := Lib.hid ht
            obtain ⟨ad, u, rfl, hu, hcu, hfz, hset⟩ := hown.at1 qj
            rw [metb_at _ _ _ qj] at hu
            have qj2 : (j : Int) < i := by omega
            have HSET := Lib.hid hset
            refine hf.mono ?_
            rintro e w2 ⟨rfl, rfl⟩
            clear hlive htou ht hl hset
            by_cases hmem : (j : Int) ∈ ord.take k
            · have HME := Lib.hid hmem
              rw [show decide ((j : Int) ∈ ord.take k) = true by simp [hmem]] at hu
              injection hu with hu
              rw [← hu] at hcu
              clear hmem hu
              go_wp2
              go_ret2
              exact ⟨_, 0, 0, 7, rfl, (hok.twice HID.out HT.out HME.out).symm, by rw [thr, hok.twice HID.out HT.out HME.out]; exact Own.lit _ 55 7 #[] 0 (by decide) rfl, by rw [thr, hok.twice HID.out HT.out HME.out]; rfl, hch.alloc _, by simp; have := hch.size; omega⟩
            · have HME := Lib.hid hmem
              rw [show decide ((j : Int) ∈ ord.take k) = false by simp [hmem]] at hu
              injection hu with hu
              rw [← hu] at hcu
              clear hmem hu
              go_wp2
              go_roundw
              case rel => exact ⟨k + 1, by omega, by go_num, hok.step HID.out HT.out HME.out, by rw [← metb_set _ _ _ _ HID.out]; exact HSET.out _, hch.setCell (.inr (by rw [add_block]; exact HW.out _ (by simp))) _⟩
              case measure => simp [intOf]; omega
          · obtain ⟨E, hE⟩ : ∃ E, tch ls node id = E := ⟨_, rfl⟩
            rw [hE] at hf ht
            have HE := Lib.hid hE
            clear hE
            refine hf.mono ?_
            rintro e w2 ⟨rfl, rfl⟩
            go_wp2
            go_ret2
            have hbad := hok.bad HID.out (by rw [HE.out]; exact ht)
            rw [HE.out] at hbad
            exact ⟨_, 0, 0, E, rfl, hbad.symm, by rw [thr, hbad, if_neg ht]; exact Own.lit _ 55 7 #[] 0 (by decide) rfl, by rw [thr, hbad, if_neg ht]; rfl, hch.alloc _, by simp; have := hch.size; omega⟩
        · have hkm : k = m := by omega
          subst hkm
          have HZ := Lib.hid (hok.done (by rw [HM.out]; exact Nat.le_refl _))
          have HTA := Lib.hid (show ord.take k = ord from List.take_of_length_le (by rw [HM.out]; exact Nat.le_refl _))
          have HND := Lib.hid hok.nodup
          have HPO := Lib.hid hok.pos
          have HWW := Lib.hid hch
          clear hown hlt hk hok
          go_wp2_with (at_builtin; refine wpList_app rfl _ _ rfl etyLinks rfl (Own.lit _ 55 7 #[] 0 (by decide) rfl) rfl ((HR.out.chg HWW.out (by simp)).chg ((Chg.refl [] _).alloc _) (by simp)) (lvs_one ls) (by unfold maxLen; omega) (by omega) ?_; intro A2 c2 w3 hown3 hchg3 hnew3 _)
          have HN3 := Lib.hid (show ∀ y ∈ bo A2, w.heap.size ≤ y from fun y hy => by
            have h2 := HWW.out.size
            rcases hnew3 y hy with h1 | h1
            · simp at h1; omega
            · simp at h1; omega)
          have hch3 := (HWW.out.alloc _).trans hchg3 (by simp; have := HWW.out.size; omega)
          clear hnew3 hchg3 hch
          go_loopw [13] (fun q wr => ∃ (k' : Nat), k' ≤ k ∧ q = .int .i64 k' ∧ Own wr 55 7 A2 i c2 (lvs (layG ls node (ord.take k') ord)) ∧ Chg [] w wr) (fun q _ => k - (intOf q).toNat)
          case atStart => exact ⟨0, Nat.zero_le _, rfl, by simpa [layG_nil] using hown3, hch3⟩
          case round =>
            obtain ⟨t, ht, rfl, hown, hch⟩ := hrel
            by_cases hlt : t < k
            · obtain ⟨bd, id, rfl, hid, hcell⟩ := rd_int (HO.out.chg hch (by simp)) hlt
              have hmt : id ∈ ord.take t ∨ id ∉ ord.take t := Classical.em _
              have hidm : id ∈ ord := List.mem_of_getElem? hid
              obtain ⟨h0, hidl⟩ := HPO.out id (by rw [HTA.out]; exact hidm)
              have hnt : id ∉ ord.take t := by
                have hnd := HND.out
                rw [HTA.out] at hnd
                intro hh
                obtain ⟨s, hs⟩ := List.getElem?_of_mem hh
                have hs2 : s < (ord.take t).length := (List.getElem?_eq_some_iff.1 hs).1
                rw [List.length_take] at hs2
                rw [List.getElem?_take, if_pos (by omega)] at hs
                have := (List.getElem?_inj (i := s) (j := t) (by omega) hnd).1 (by rw [hs, hid])
                omega
              obtain ⟨l, hl⟩ : ∃ l, ls[id.toNat]? = some l := ⟨_, List.getElem?_eq_getElem hidl⟩
              obtain ⟨hlG, hstep⟩ := layG_take ls node ord t id l hid h0 hnt hl
              obtain ⟨j, rfl⟩ := Int.eq_ofNat_of_zero_le h0
              simp only [Int.toNat_natCast] at hlG hstep hl hidl
              obtain ⟨g, rfl, ⟨x0, x1, x2, x3, x4, x5, x6⟩, hfz, hset⟩ := hown.lk hlG
              have qj : (j : Int) < i := by have := HL.out; omega
              have HID := Lib.hid hid
              have HSTEP := Lib.hid hstep
              have HLG := Lib.hid hlG
              have HN := Lib.hid hset
              have HFZ := Lib.hid hfz
              clear hid hmt hidm hidl hnt hl hlG hstep hset hfz h0
              have HGW := Lib.hid (HN3.out g (by simp))
              by_cases htz : 0 < t
              · have hz : (0 : Int) < t := by omega
                obtain ⟨_, pv, hbd, hpv1, hpvc⟩ := rd_int (HO.out.chg hch (by simp)) (show t - 1 < k by omega)
                cases hbd
                have HPV := Lib.hid (show prevOf ord t = pv by unfold prevOf; rw [if_neg (by omega), hpv1]; rfl)
                clear hpv1
                by_cases hnx : t + 1 < k
                · obtain ⟨_, nx, hbd, hnx1, hnxc⟩ := rd_int (HO.out.chg hch (by simp)) hnx
                  cases hbd
                  have HNX := Lib.hid (show nextOf ord (t) = nx by unfold nextOf; rw [hnx1]; rfl)
                  clear hnx1
                  have hnxc2 : wr.cell? ⟨bd.block, bd.off + (t + 1), none⟩ = some (.int .i64 nx) := hnxc
                  by_cases hsn : l.src = node
                  · have s1 : (l.src == node) = true := by simp [hsn]
                    have HSN := Lib.hid hsn
                    by_cases hdn : l.dst = node
                    · have s2 : (l.dst == node) = true := by simp [hdn]
                      have HDN := Lib.hid hdn
                      clear hsn hdn
                      go_wp2
                      have hb := Blk.new wr 55 #[.bool l.live, .int .i64 l.src, .int .i64 l.dst, .int .i64 pv, .int .i64 (-1), .int .i64 nx, .int .i64 (-1)]
                      have hcA := (Chg.refl [] wr).alloc (.cells #[.bool l.live, .int .i64 l.src, .int .i64 l.dst, .int .i64 pv, .int .i64 (-1), .int .i64 nx, .int .i64 (-1)] 55)
                      have hoW := hown.chg hcA (by simp)
                      have hcW := hcA.cell hcell (by simp)
                      have hgb : g ≠ wr.heap.size := fun e => Nat.lt_irrefl _ (e ▸ hown.lt g (by simp))
                      obtain ⟨W, hW⟩ : ∃ W : World, W = wr.alloc (.cells #[.bool l.live, .int .i64 l.src, .int .i64 l.dst, .int .i64 pv, .int .i64 (-1), .int .i64 nx, .int .i64 (-1)] 55) := ⟨_, rfl⟩
                      rw [← hW] at hb hcA hoW hcW
                      rw [← hW]
                      clear hW x0 x1 x2 x3 x4 x5 x6
                      have b0 := hb.cell 0
                      have b1 := hb.cell 1
                      have b2 := hb.cell 2
                      have b3 := hb.cell 3
                      have b4 := hb.cell 4
                      have b5 := hb.cell 5
                      have b6 := hb.cell 6
                      simp at b0 b1 b2 b3 b4 b5 b6
                      have y0 := hoW.cl HLG.out (k := 0) (u := .bool l.live) (by decide) rfl
                      have y1 := hoW.cl HLG.out (k := 1) (u := .int .i64 l.src) (by decide) rfl
                      have y2 := hoW.cl HLG.out (k := 2) (u := .int .i64 l.dst) (by decide) rfl
                      have y3 := hoW.cl HLG.out (k := 3) (u := .int .i64 l.sp) (by decide) rfl
                      have y4 := hoW.cl HLG.out (k := 4) (u := .int .i64 l.tp) (by decide) rfl
                      have y5 := hoW.cl HLG.out (k := 5) (u := .int .i64 l.sn) (by decide) rfl
                      have y6 := hoW.cl HLG.out (k := 6) (u := .int .i64 l.tn) (by decide) rfl
                      simp only [Nat.add_zero] at y0
                      have f0 := hoW.fz (j * 7)
                      have f1 := hoW.fz (j * 7 + 1)
                      have f2 := hoW.fz (j * 7 + 2)
                      have f3 := hoW.fz (j * 7 + 3)
                      have f4 := hoW.fz (j * 7 + 4)
                      have f5 := hoW.fz (j * 7 + 5)
                      have f6 := hoW.fz (j * 7 + 6)
                      go_still_tail 7, (by kernel_rfl)
                      go_wp2
                      go_roundw
                      case rel =>
                        refine ⟨t + 1, by omega, by go_num, ?_, ?_⟩
                        · rw [HSTEP.out, HPV.out, HNX.out, show l.put node pv nx = ⟨l.live, l.src, l.dst, pv, (-1), nx, (-1)⟩ by unfold Lk.put; rw [if_pos HSN.out, if_pos HDN.out]]
                          exact (hoW.set7 HLG.out _ _ _ _ _ _ _).chg ((Chg.refl [] _).drew) (by simp)
                        · exact ((((((((hch.trans0 hcA).setCell (.inr HGW.out) _).setCell (.inr HGW.out) _).setCell (.inr HGW.out) _).setCell (.inr HGW.out) _).setCell (.inr HGW.out) _).setCell (.inr HGW.out) _).setCell (.inr HGW.out) _).drew
                      case measure => simp [intOf]; omega
                    · have s2 : (l.dst == node) = false := by simp [hdn]
                      have HDN := Lib.hid hdn
                      clear hsn hdn
                      go_wp2
                      have hb := Blk.new wr 55 #[.bool l.live, .int .i64 l.src, .int .i64 l.dst, .int .i64 pv, .int .i64 l.tp, .int .i64 nx, .int .i64 l.tn]
                      have hcA := (Chg.refl [] wr).alloc (.cells #[.bool l.live, .int .i64 l.src, .int .i64 l.dst, .int .i64 pv, .int .i64 l.tp, .int .i64 nx, .int .i64 l.tn] 55)
                      have hoW := hown.chg hcA (by simp)
                      have hcW := hcA.cell hcell (by simp)
                      have hgb : g ≠ wr.heap.size := fun e => Nat.lt_irrefl _ (e ▸ hown.lt g (by simp))
                      obtain ⟨W, hW⟩ : ∃ W : World, W = wr.alloc (.cells #[.bool l.live, .int .i64 l.src, .int .i64 l.dst, .int .i64 pv, .int .i64 l.tp, .int .i64 nx, .int .i64 l.tn] 55) := ⟨_, rfl⟩
                      rw [← hW] at hb hcA hoW hcW
                      rw [← hW]
                      clear hW x0 x1 x2 x3 x4 x5 x6
                      have b0 := hb.cell 0
                      have b1 := hb.cell 1
                      have b2 := hb.cell 2
                      have b3 := hb.cell 3
                      have b4 := hb.cell 4
                      have b5 := hb.cell 5
                      have b6 := hb.cell 6
                      simp at b0 b1 b2 b3 b4 b5 b6
                      have y0 := hoW.cl HLG.out (k := 0) (u := .bool l.live) (by decide) rfl
                      have y1 := hoW.cl HLG.out (k := 1) (u := .int .i64 l.src) (by decide) rfl
                      have y2 := hoW.cl HLG.out (k := 2) (u := .int .i64 l.dst) (by decide) rfl
                      have y3 := hoW.cl HLG.out (k := 3) (u := .int .i64 l.sp) (by decide) rfl
                      have y4 := hoW.cl HLG.out (k := 4) (u := .int .i64 l.tp) (by decide) rfl
                      have y5 := hoW.cl HLG.out (k := 5) (u := .int .i64 l.sn) (by decide) rfl
                      have y6 := hoW.cl HLG.out (k := 6) (u := .int .i64 l.tn) (by decide) rfl
                      simp only [Nat.add_zero] at y0
                      have f0 := hoW.fz (j * 7)
                      have f1 := hoW.fz (j * 7 + 1)
                      have f2 := hoW.fz (j * 7 + 2)
                      have f3 := hoW.fz (j * 7 + 3)
                      have f4 := hoW.fz (j * 7 + 4)
                      have f5 := hoW.fz (j * 7 + 5)
                      have f6 := hoW.fz (j * 7 + 6)
                      go_still_tail 7, (by kernel_rfl)
                      go_wp2
                      go_roundw
                      case rel =>
                        refine ⟨t + 1, by omega, by go_num, ?_, ?_⟩
                        · rw [HSTEP.out, HPV.out, HNX.out, show l.put node pv nx = ⟨l.live, l.src, l.dst, pv, l.tp, nx, l.tn⟩ by unfold Lk.put; rw [if_pos HSN.out, if_neg HDN.out]]
                          exact (hoW.set7 HLG.out _ _ _ _ _ _ _).chg ((Chg.refl [] _).drew) (by simp)
                        · exact ((((((((hch.trans0 hcA).setCell (.inr HGW.out) _).setCell (.inr HGW.out) _).setCell (.inr HGW.out) _).setCell (.inr HGW.out) _).setCell (.inr HGW.out) _).setCell (.inr HGW.out) _).setCell (.inr HGW.out) _).drew
                      case measure => simp [intOf]; omega
                  · have s1 : (l.src == node) = false := by simp [hsn]
                    have HSN := Lib.hid hsn
                    clear hsn
                    go_wp2
                    have hb := Blk.new wr 55 #[.bool l.live, .int .i64 l.src, .int .i64 l.dst, .int .i64 l.sp, .int .i64 pv, .int .i64 l.sn, .int .i64 nx]
                    have hcA := (Chg.refl [] wr).alloc (.cells #[.bool l.live, .int .i64 l.src, .int .i64 l.dst, .int .i64 l.sp, .int .i64 pv, .int .i64 l.sn, .int .i64 nx] 55)
                    have hoW := hown.chg hcA (by simp)
                    have hcW := hcA.cell hcell (by simp)
                    have hgb : g ≠ wr.heap.size := fun e => Nat.lt_irrefl _ (e ▸ hown.lt g (by simp))
                    obtain ⟨W, hW⟩ : ∃ W : World, W = wr.alloc (.cells #[.bool l.live, .int .i64 l.src, .int .i64 l.dst, .int .i64 l.sp, .int .i64 pv, .int .i64 l.sn, .int .i64 nx] 55) := ⟨_, rfl⟩
                    rw [← hW] at hb hcA hoW hcW
                    rw [← hW]
                    clear hW x0 x1 x2 x3 x4 x5 x6
                    have b0 := hb.cell 0
                    have b1 := hb.cell 1
                    have b2 := hb.cell 2
                    have b3 := hb.cell 3
                    have b4 := hb.cell 4
                    have b5 := hb.cell 5
                    have b6 := hb.cell 6
                    simp at b0 b1 b2 b3 b4 b5 b6
                    have y0 := hoW.cl HLG.out (k := 0) (u := .bool l.live) (by decide) rfl
                    have y1 := hoW.cl HLG.out (k := 1) (u := .int .i64 l.src) (by decide) rfl
                    have y2 := hoW.cl HLG.out (k := 2) (u := .int .i64 l.dst) (by decide) rfl
                    have y3 := hoW.cl HLG.out (k := 3) (u := .int .i64 l.sp) (by decide) rfl
                    have y4 := hoW.cl HLG.out (k := 4) (u := .int .i64 l.tp) (by decide) rfl
                    have y5 := hoW.cl HLG.out (k := 5) (u := .int .i64 l.sn) (by decide) rfl
                    have y6 := hoW.cl HLG.out (k := 6) (u := .int .i64 l.tn) (by decide) rfl
                    simp only [Nat.add_zero] at y0
                    have f0 := hoW.fz (j * 7)
                    have f1 := hoW.fz (j * 7 + 1)
                    have f2 := hoW.fz (j * 7 + 2)
                    have f3 := hoW.fz (j * 7 + 3)
                    have f4 := hoW.fz (j * 7 + 4)
                    have f5 := hoW.fz (j * 7 + 5)
                    have f6 := hoW.fz (j * 7 + 6)
                    go_still_tail 7, (by kernel_rfl)
                    go_wp2
                    go_roundw
                    case rel =>
                      refine ⟨t + 1, by omega, by go_num, ?_, ?_⟩
                      · rw [HSTEP.out, HPV.out, HNX.out, show l.put node pv nx = ⟨l.live, l.src, l.dst, l.sp, pv, l.sn, nx⟩ by unfold Lk.put; rw [if_neg HSN.out]]
                        exact (hoW.set7 HLG.out _ _ _ _ _ _ _).chg ((Chg.refl [] _).drew) (by simp)
                      · exact ((((((((hch.trans0 hcA).setCell (.inr HGW.out) _).setCell (.inr HGW.out) _).setCell (.inr HGW.out) _).setCell (.inr HGW.out) _).setCell (.inr HGW.out) _).setCell (.inr HGW.out) _).setCell (.inr HGW.out) _).drew
                    case measure => simp [intOf]; omega
                · have HNX := Lib.hid (show nextOf ord (t) = -1 by unfold nextOf; rw [List.getElem?_eq_none (by have := HM.out; omega)]; rfl)
                  by_cases hsn : l.src = node
                  · have s1 : (l.src == node) = true := by simp [hsn]
                    have HSN := Lib.hid hsn
                    by_cases hdn : l.dst = node
                    · have s2 : (l.dst == node) = true := by simp [hdn]
                      have HDN := Lib.hid hdn
                      clear hsn hdn
                      go_wp2
                      have hb := Blk.new wr 55 #[.bool l.live, .int .i64 l.src, .int .i64 l.dst, .int .i64 pv, .int .i64 (-1), .int .i64 (-1), .int .i64 (-1)]
                      have hcA := (Chg.refl [] wr).alloc (.cells #[.bool l.live, .int .i64 l.src, .int .i64 l.dst, .int .i64 pv, .int .i64 (-1), .int .i64 (-1), .int .i64 (-1)] 55)
                      have hoW := hown.chg hcA (by simp)
                      have hcW := hcA.cell hcell (by simp)
                      have hgb : g ≠ wr.heap.size := fun e => Nat.lt_irrefl _ (e ▸ hown.lt g (by simp))
                      obtain ⟨W, hW⟩ : ∃ W : World, W = wr.alloc (.cells #[.bool l.live, .int .i64 l.src, .int .i64 l.dst, .int .i64 pv, .int .i64 (-1), .int .i64 (-1), .int .i64 (-1)] 55) := ⟨_, rfl⟩
                      rw [← hW] at hb hcA hoW hcW
                      rw [← hW]
                      clear hW x0 x1 x2 x3 x4 x5 x6
                      have b0 := hb.cell 0
                      have b1 := hb.cell 1
                      have b2 := hb.cell 2
                      have b3 := hb.cell 3
                      have b4 := hb.cell 4
                      have b5 := hb.cell 5
                      have b6 := hb.cell 6
                      simp at b0 b1 b2 b3 b4 b5 b6
                      have y0 := hoW.cl HLG.out (k := 0) (u := .bool l.live) (by decide) rfl
                      have y1 := hoW.cl HLG.out (k := 1) (u := .int .i64 l.src) (by decide) rfl
                      have y2 := hoW.cl HLG.out (k := 2) (u := .int .i64 l.dst) (by decide) rfl
                      have y3 := hoW.cl HLG.out (k := 3) (u := .int .i64 l.sp) (by decide) rfl
                      have y4 := hoW.cl HLG.out (k := 4) (u := .int .i64 l.tp) (by decide) rfl
                      have y5 := hoW.cl HLG.out (k := 5) (u := .int .i64 l.sn) (by decide) rfl
                      have y6 := hoW.cl HLG.out (k := 6) (u := .int .i64 l.tn) (by decide) rfl
                      simp only [Nat.add_zero] at y0
                      have f0 := hoW.fz (j * 7)
                      have f1 := hoW.fz (j * 7 + 1)
                      have f2 := hoW.fz (j * 7 + 2)
                      have f3 := hoW.fz (j * 7 + 3)
                      have f4 := hoW.fz (j * 7 + 4)
                      have f5 := hoW.fz (j * 7 + 5)
                      have f6 := hoW.fz (j * 7 + 6)
                      go_still_tail 7, (by kernel_rfl)
                      go_wp2
                      go_roundw
                      case rel =>
                        refine ⟨t + 1, by omega, by go_num, ?_, ?_⟩
                        · rw [HSTEP.out, HPV.out, HNX.out, show l.put node pv (-1) = ⟨l.live, l.src, l.dst, pv, (-1), (-1), (-1)⟩ by unfold Lk.put; rw [if_pos HSN.out, if_pos HDN.out]]
                          exact (hoW.set7 HLG.out _ _ _ _ _ _ _).chg ((Chg.refl [] _).drew) (by simp)
                        · exact ((((((((hch.trans0 hcA).setCell (.inr HGW.out) _).setCell (.inr HGW.out) _).setCell (.inr HGW.out) _).setCell (.inr HGW.out) _).setCell (.inr HGW.out) _).setCell (.inr HGW.out) _).setCell (.inr HGW.out) _).drew
                      case measure => simp [intOf]; omega
                    · have s2 : (l.dst == node) = false := by simp [hdn]
                      have HDN := Lib.hid hdn
                      clear hsn hdn
                      go_wp2
                      have hb := Blk.new wr 55 #[.bool l.live, .int .i64 l.src, .int .i64 l.dst, .int .i64 pv, .int .i64 l.tp, .int .i64 (-1), .int .i64 l.tn]
                      have hcA := (Chg.refl [] wr).alloc (.cells #[.bool l.live, .int .i64 l.src, .int .i64 l.dst, .int .i64 pv, .int .i64 l.tp, .int .i64 (-1), .int .i64 l.tn] 55)
                      have hoW := hown.chg hcA (by simp)
                      have hcW := hcA.cell hcell (by simp)
                      have hgb : g ≠ wr.heap.size := fun e => Nat.lt_irrefl _ (e ▸ hown.lt g (by simp))
                      obtain ⟨W, hW⟩ : ∃ W : World, W = wr.alloc (.cells #[.bool l.live, .int .i64 l.src, .int .i64 l.dst, .int .i64 pv, .int .i64 l.tp, .int .i64 (-1), .int .i64 l.tn] 55) := ⟨_, rfl⟩
                      rw [← hW] at hb hcA hoW hcW
                      rw [← hW]
                      clear hW x0 x1 x2 x3 x4 x5 x6
                      have b0 := hb.cell 0
                      have b1 := hb.cell 1
                      have b2 := hb.cell 2
                      have b3 := hb.cell 3
                      have b4 := hb.cell 4
                      have b5 := hb.cell 5
                      have b6 := hb.cell 6
                      simp at b0 b1 b2 b3 b4 b5 b6
                      have y0 := hoW.cl HLG.out (k := 0) (u := .bool l.live) (by decide) rfl
                      have y1 := hoW.cl HLG.out (k := 1) (u := .int .i64 l.src) (by decide) rfl
                      have y2 := hoW.cl HLG.out (k := 2) (u := .int .i64 l.dst) (by decide) rfl
                      have y3 := hoW.cl HLG.out (k := 3) (u := .int .i64 l.sp) (by decide) rfl
                      have y4 := hoW.cl HLG.out (k := 4) (u := .int .i64 l.tp) (by decide) rfl
                      have y5 := hoW.cl HLG.out (k := 5) (u := .int .i64 l.sn) (by decide) rfl
                      have y6 := hoW.cl HLG.out (k := 6) (u := .int .i64 l.tn) (by decide) rfl
                      simp only [Nat.add_zero] at y0
                      have f0 := hoW.fz (j * 7)
                      have f1 := hoW.fz (j * 7 + 1)
                      have f2 := hoW.fz (j * 7 + 2)
                      have f3 := hoW.fz (j * 7 + 3)
                      have f4 := hoW.fz (j * 7 + 4)
                      have f5 := hoW.fz (j * 7 + 5)
                      have f6 := hoW.fz (j * 7 + 6)
                      go_still_tail 7, (by kernel_rfl)
                      go_wp2
                      go_roundw
                      case rel =>
                        refine ⟨t + 1, by omega, by go_num, ?_, ?_⟩
                        · rw [HSTEP.out, HPV.out, HNX.out, show l.put node pv (-1) = ⟨l.live, l.src, l.dst, pv, l.tp, (-1), l.tn⟩ by unfold Lk.put; rw [if_pos HSN.out, if_neg HDN.out]]
                          exact (hoW.set7 HLG.out _ _ _ _ _ _ _).chg ((Chg.refl [] _).drew) (by simp)
                        · exact ((((((((hch.trans0 hcA).setCell (.inr HGW.out) _).setCell (.inr HGW.out) _).setCell (.inr HGW.out) _).setCell (.inr HGW.out) _).setCell (.inr HGW.out) _).setCell (.inr HGW.out) _).setCell (.inr HGW.out) _).drew
                      case measure => simp [intOf]; omega
                  · have s1 : (l.src == node) = false := by simp [hsn]
                    have HSN := Lib.hid hsn
                    clear hsn
                    go_wp2
                    have hb := Blk.new wr 55 #[.bool l.live, .int .i64 l.src, .int .i64 l.dst, .int .i64 l.sp, .int .i64 pv, .int .i64 l.sn, .int .i64 (-1)]
                    have hcA := (Chg.refl [] wr).alloc (.cells #[.bool l.live, .int .i64 l.src, .int .i64 l.dst, .int .i64 l.sp, .int .i64 pv, .int .i64 l.sn, .int .i64 (-1)] 55)
                    have hoW := hown.chg hcA (by simp)
                    have hcW := hcA.cell hcell (by simp)
                    have hgb : g ≠ wr.heap.size := fun e => Nat.lt_irrefl _ (e ▸ hown.lt g (by simp))
                    obtain ⟨W, hW⟩ : ∃ W : World, W = wr.alloc (.cells #[.bool l.live, .int .i64 l.src, .int .i64 l.dst, .int .i64 l.sp, .int .i64 pv, .int .i64 l.sn, .int .i64 (-1)] 55) := ⟨_, rfl⟩
                    rw [← hW] at hb hcA hoW hcW
                    rw [← hW]
                    clear hW x0 x1 x2 x3 x4 x5 x6
                    have b0 := hb.cell 0
                    have b1 := hb.cell 1
                    have b2 := hb.cell 2
                    have b3 := hb.cell 3
                    have b4 := hb.cell 4
                    have b5 := hb.cell 5
                    have b6 := hb.cell 6
                    simp at b0 b1 b2 b3 b4 b5 b6
                    have y0 := hoW.cl HLG.out (k := 0) (u := .bool l.live) (by decide) rfl
                    have y1 := hoW.cl HLG.out (k := 1) (u := .int .i64 l.src) (by decide) rfl
                    have y2 := hoW.cl HLG.out (k := 2) (u := .int .i64 l.dst) (by decide) rfl
                    have y3 := hoW.cl HLG.out (k := 3) (u := .int .i64 l.sp) (by decide) rfl
                    have y4 := hoW.cl HLG.out (k := 4) (u := .int .i64 l.tp) (by decide) rfl
                    have y5 := hoW.cl HLG.out (k := 5) (u := .int .i64 l.sn) (by decide) rfl
                    have y6 := hoW.cl HLG.out (k := 6) (u := .int .i64 l.tn) (by decide) rfl
                    simp only [Nat.add_zero] at y0
                    have f0 := hoW.fz (j * 7)
                    have f1 := hoW.fz (j * 7 + 1)
                    have f2 := hoW.fz (j * 7 + 2)
                    have f3 := hoW.fz (j * 7 + 3)
                    have f4 := hoW.fz (j * 7 + 4)
                    have f5 := hoW.fz (j * 7 + 5)
                    have f6 := hoW.fz (j * 7 + 6)
                    go_still_tail 7, (by kernel_rfl)
                    go_wp2
                    go_roundw
                    case rel =>
                      refine ⟨t + 1, by omega, by go_num, ?_, ?_⟩
                      · rw [HSTEP.out, HPV.out, HNX.out, show l.put node pv (-1) = ⟨l.live, l.src, l.dst, l.sp, pv, l.sn, (-1)⟩ by unfold Lk.put; rw [if_neg HSN.out]]
                        exact (hoW.set7 HLG.out _ _ _ _ _ _ _).chg ((Chg.refl [] _).drew) (by simp)
                      · exact ((((((((hch.trans0 hcA).setCell (.inr HGW.out) _).setCell (.inr HGW.out) _).setCell (.inr HGW.out) _).setCell (.inr HGW.out) _).setCell (.inr HGW.out) _).setCell (.inr HGW.out) _).setCell (.inr HGW.out) _).drew
                    case measure => simp [intOf]; omega
              · have HPV := Lib.hid (show prevOf ord t = -1 by unfold prevOf; rw [if_pos (by omega)])
                have hz : ¬ ((0 : Int) < t) := by omega
                clear htz
                by_cases hnx : t + 1 < k
                · obtain ⟨_, nx, hbd, hnx1, hnxc⟩ := rd_int (HO.out.chg hch (by simp)) hnx
                  cases hbd
                  have HNX := Lib.hid (show nextOf ord (t) = nx by unfold nextOf; rw [hnx1]; rfl)
                  clear hnx1
                  have hnxc2 : wr.cell? ⟨bd.block, bd.off + (t + 1), none⟩ = some (.int .i64 nx) := hnxc
                  by_cases hsn : l.src = node
                  · have s1 : (l.src == node) = true := by simp [hsn]
                    have HSN := Lib.hid hsn
                    by_cases hdn : l.dst = node
                    · have s2 : (l.dst == node) = true := by simp [hdn]
                      have HDN := Lib.hid hdn
                      clear hsn hdn
                      go_wp2
                      have hb := Blk.new wr 55 #[.bool l.live, .int .i64 l.src, .int .i64 l.dst, .int .i64 (-1), .int .i64 (-1), .int .i64 nx, .int .i64 (-1)]
                      have hcA := (Chg.refl [] wr).alloc (.cells #[.bool l.live, .int .i64 l.src, .int .i64 l.dst, .int .i64 (-1), .int .i64 (-1), .int .i64 nx, .int .i64 (-1)] 55)
                      have hoW := hown.chg hcA (by simp)
                      have hcW := hcA.cell hcell (by simp)
                      have hgb : g ≠ wr.heap.size := fun e => Nat.lt_irrefl _ (e ▸ hown.lt g (by simp))
                      obtain ⟨W, hW⟩ : ∃ W : World, W = wr.alloc (.cells #[.bool l.live, .int .i64 l.src, .int .i64 l.dst, .int .i64 (-1), .int .i64 (-1), .int .i64 nx, .int .i64 (-1)] 55) := ⟨_, rfl⟩
                      rw [← hW] at hb hcA hoW hcW
                      rw [← hW]
                      clear hW x0 x1 x2 x3 x4 x5 x6
                      have b0 := hb.cell 0
                      have b1 := hb.cell 1
                      have b2 := hb.cell 2
                      have b3 := hb.cell 3
                      have b4 := hb.cell 4
                      have b5 := hb.cell 5
                      have b6 := hb.cell 6
                      simp at b0 b1 b2 b3 b4 b5 b6
                      have y0 := hoW.cl HLG.out (k := 0) (u := .bool l.live) (by decide) rfl
                      have y1 := hoW.cl HLG.out (k := 1) (u := .int .i64 l.src) (by decide) rfl
                      have y2 := hoW.cl HLG.out (k := 2) (u := .int .i64 l.dst) (by decide) rfl
                      have y3 := hoW.cl HLG.out (k := 3) (u := .int .i64 l.sp) (by decide) rfl
                      have y4 := hoW.cl HLG.out (k := 4) (u := .int .i64 l.tp) (by decide) rfl
                      have y5 := hoW.cl HLG.out (k := 5) (u := .int .i64 l.sn) (by decide) rfl
                      have y6 := hoW.cl HLG.out (k := 6) (u := .int .i64 l.tn) (by decide) rfl
                      simp only [Nat.add_zero] at y0
                      have f0 := hoW.fz (j * 7)
                      have f1 := hoW.fz (j * 7 + 1)
                      have f2 := hoW.fz (j * 7 + 2)
                      have f3 := hoW.fz (j * 7 + 3)
                      have f4 := hoW.fz (j * 7 + 4)
                      have f5 := hoW.fz (j * 7 + 5)
                      have f6 := hoW.fz (j * 7 + 6)
                      go_still_tail 7, (by kernel_rfl)
                      go_wp2
                      go_roundw
                      case rel =>
                        refine ⟨t + 1, by omega, by go_num, ?_, ?_⟩
                        · rw [HSTEP.out, HPV.out, HNX.out, show l.put node (-1) nx = ⟨l.live, l.src, l.dst, (-1), (-1), nx, (-1)⟩ by unfold Lk.put; rw [if_pos HSN.out, if_pos HDN.out]]
                          exact (hoW.set7 HLG.out _ _ _ _ _ _ _).chg ((Chg.refl [] _).drew) (by simp)
                        · exact ((((((((hch.trans0 hcA).setCell (.inr HGW.out) _).setCell (.inr HGW.out) _).setCell (.inr HGW.out) _).setCell (.inr HGW.out) _).setCell (.inr HGW.out) _).setCell (.inr HGW.out) _).setCell (.inr HGW.out) _).drew
                      case measure => simp [intOf]; omega
                    · have s2 : (l.dst == node) = false := by simp [hdn]
                      have HDN := Lib.hid hdn
                      clear hsn hdn
                      go_wp2
                      have hb := Blk.new wr 55 #[.bool l.live, .int .i64 l.src, .int .i64 l.dst, .int .i64 (-1), .int .i64 l.tp, .int .i64 nx, .int .i64 l.tn]
                      have hcA := (Chg.refl [] wr).alloc (.cells #[.bool l.live, .int .i64 l.src, .int .i64 l.dst, .int .i64 (-1), .int .i64 l.tp, .int .i64 nx, .int .i64 l.tn] 55)
                      have hoW := hown.chg hcA (by simp)
                      have hcW := hcA.cell hcell (by simp)
                      have hgb : g ≠ wr.heap.size := fun e => Nat.lt_irrefl _ (e ▸ hown.lt g (by simp))
                      obtain ⟨W, hW⟩ : ∃ W : World, W = wr.alloc (.cells #[.bool l.live, .int .i64 l.src, .int .i64 l.dst, .int .i64 (-1), .int .i64 l.tp, .int .i64 nx, .int .i64 l.tn] 55) := ⟨_, rfl⟩
                      rw [← hW] at hb hcA hoW hcW
                      rw [← hW]
                      clear hW x0 x1 x2 x3 x4 x5 x6
                      have b0 := hb.cell 0
                      have b1 := hb.cell 1
                      have b2 := hb.cell 2
                      have b3 := hb.cell 3
                      have b4 := hb.cell 4
                      have b5 := hb.cell 5
                      have b6 := hb.cell 6
                      simp at b0 b1 b2 b3 b4 b5 b6
                      have y0 := hoW.cl HLG.out (k := 0) (u := .bool l.live) (by decide) rfl
                      have y1 := hoW.cl HLG.out (k := 1) (u := .int .i64 l.src) (by decide) rfl
                      have y2 := hoW.cl HLG.out (k := 2) (u := .int .i64 l.dst) (by decide) rfl
                      have y3 := hoW.cl HLG.out (k := 3) (u := .int .i64 l.sp) (by decide) rfl
                      have y4 := hoW.cl HLG.out (k := 4) (u := .int .i64 l.tp) (by decide) rfl
                      have y5 := hoW.cl HLG.out (k := 5) (u := .int .i64 l.sn) (by decide) rfl
                      have y6 := hoW.cl HLG.out (k := 6) (u := .int .i64 l.tn) (by decide) rfl
                      simp only [Nat.add_zero] at y0
                      have f0 := hoW.fz (j * 7)
                      have f1 := hoW.fz (j * 7 + 1)
                      have f2 := hoW.fz (j * 7 + 2)
                      have f3 := hoW.fz (j * 7 + 3)
                      have f4 := hoW.fz (j * 7 + 4)
                      have f5 := hoW.fz (j * 7 + 5)
                      have f6 := hoW.fz (j * 7 + 6)
                      go_still_tail 7, (by kernel_rfl)
                      go_wp2
                      go_roundw
                      case rel =>
                        refine ⟨t + 1, by omega, by go_num, ?_, ?_⟩
                        · rw [HSTEP.out, HPV.out, HNX.out, show l.put node (-1) nx = ⟨l.live, l.src, l.dst, (-1), l.tp, nx, l.tn⟩ by unfold Lk.put; rw [if_pos HSN.out, if_neg HDN.out]]
                          exact (hoW.set7 HLG.out _ _ _ _ _ _ _).chg ((Chg.refl [] _).drew) (by simp)
                        · exact ((((((((hch.trans0 hcA).setCell (.inr HGW.out) _).setCell (.inr HGW.out) _).setCell (.inr HGW.out) _).setCell (.inr HGW.out) _).setCell (.inr HGW.out) _).setCell (.inr HGW.out) _).setCell (.inr HGW.out) _).drew
                      case measure => simp [intOf]; omega
                  · have s1 : (l.src == node) = false := by simp [hsn]
                    have HSN := Lib.hid hsn
                    clear hsn
                    go_wp2
                    have hb := Blk.new wr 55 #[.bool l.live, .int .i64 l.src, .int .i64 l.dst, .int .i64 l.sp, .int .i64 (-1), .int .i64 l.sn, .int .i64 nx]
                    have hcA := (Chg.refl [] wr).alloc (.cells #[.bool l.live, .int .i64 l.src, .int .i64 l.dst, .int .i64 l.sp, .int .i64 (-1), .int .i64 l.sn, .int .i64 nx] 55)
                    have hoW := hown.chg hcA (by simp)
                    have hcW := hcA.cell hcell (by simp)
                    have hgb : g ≠ wr.heap.size := fun e => Nat.lt_irrefl _ (e ▸ hown.lt g (by simp))
                    obtain ⟨W, hW⟩ : ∃ W : World, W = wr.alloc (.cells #[.bool l.live, .int .i64 l.src, .int .i64 l.dst, .int .i64 l.sp, .int .i64 (-1), .int .i64 l.sn, .int .i64 nx] 55) := ⟨_, rfl⟩
                    rw [← hW] at hb hcA hoW hcW
                    rw [← hW]
                    clear hW x0 x1 x2 x3 x4 x5 x6
                    have b0 := hb.cell 0
                    have b1 := hb.cell 1
                    have b2 := hb.cell 2
                    have b3 := hb.cell 3
                    have b4 := hb.cell 4
                    have b5 := hb.cell 5
                    have b6 := hb.cell 6
                    simp at b0 b1 b2 b3 b4 b5 b6
                    have y0 := hoW.cl HLG.out (k := 0) (u := .bool l.live) (by decide) rfl
                    have y1 := hoW.cl HLG.out (k := 1) (u := .int .i64 l.src) (by decide) rfl
                    have y2 := hoW.cl HLG.out (k := 2) (u := .int .i64 l.dst) (by decide) rfl
                    have y3 := hoW.cl HLG.out (k := 3) (u := .int .i64 l.sp) (by decide) rfl
                    have y4 := hoW.cl HLG.out (k := 4) (u := .int .i64 l.tp) (by decide) rfl
                    have y5 := hoW.cl HLG.out (k := 5) (u := .int .i64 l.sn) (by decide) rfl
                    have y6 := hoW.cl HLG.out (k := 6) (u := .int .i64 l.tn) (by decide) rfl
                    simp only [Nat.add_zero] at y0
                    have f0 := hoW.fz (j * 7)
                    have f1 := hoW.fz (j * 7 + 1)
                    have f2 := hoW.fz (j * 7 + 2)
                    have f3 := hoW.fz (j * 7 + 3)
                    have f4 := hoW.fz (j * 7 + 4)
                    have f5 := hoW.fz (j * 7 + 5)
                    have f6 := hoW.fz (j * 7 + 6)
                    go_still_tail 7, (by kernel_rfl)
                    go_wp2
                    go_roundw
                    case rel =>
                      refine ⟨t + 1, by omega, by go_num, ?_, ?_⟩
                      · rw [HSTEP.out, HPV.out, HNX.out, show l.put node (-1) nx = ⟨l.live, l.src, l.dst, l.sp, (-1), l.sn, nx⟩ by unfold Lk.put; rw [if_neg HSN.out]]
                        exact (hoW.set7 HLG.out _ _ _ _ _ _ _).chg ((Chg.refl [] _).drew) (by simp)
                      · exact ((((((((hch.trans0 hcA).setCell (.inr HGW.out) _).setCell (.inr HGW.out) _).setCell (.inr HGW.out) _).setCell (.inr HGW.out) _).setCell (.inr HGW.out) _).setCell (.inr HGW.out) _).setCell (.inr HGW.out) _).drew
                    case measure => simp [intOf]; omega
                · have HNX := Lib.hid (show nextOf ord (t) = -1 by unfold nextOf; rw [List.getElem?_eq_none (by have := HM.out; omega)]; rfl)
                  by_cases hsn : l.src = node
                  · have s1 : (l.src == node) = true := by simp [hsn]
                    have HSN := Lib.hid hsn
                    by_cases hdn : l.dst = node
                    · have s2 : (l.dst == node) = true := by simp [hdn]
                      have HDN := Lib.hid hdn
                      clear hsn hdn
                      go_wp2
                      have hb := Blk.new wr 55 #[.bool l.live, .int .i64 l.src, .int .i64 l.dst, .int .i64 (-1), .int .i64 (-1), .int .i64 (-1), .int .i64 (-1)]
                      have hcA := (Chg.refl [] wr).alloc (.cells #[.bool l.live, .int .i64 l.src, .int .i64 l.dst, .int .i64 (-1), .int .i64 (-1), .int .i64 (-1), .int .i64 (-1)] 55)
                      have hoW := hown.chg hcA (by simp)
                      have hcW := hcA.cell hcell (by simp)
                      have hgb : g ≠ wr.heap.size := fun e => Nat.lt_irrefl _ (e ▸ hown.lt g (by simp))
                      obtain ⟨W, hW⟩ : ∃ W : World, W = wr.alloc (.cells #[.bool l.live, .int .i64 l.src, .int .i64 l.dst, .int .i64 (-1), .int .i64 (-1), .int .i64 (-1), .int .i64 (-1)] 55) := ⟨_, rfl⟩
                      rw [← hW] at hb hcA hoW hcW
                      rw [← hW]
                      clear hW x0 x1 x2 x3 x4 x5 x6
                      have b0 := hb.cell 0
                      have b1 := hb.cell 1
                      have b2 := hb.cell 2
                      have b3 := hb.cell 3
                      have b4 := hb.cell 4
                      have b5 := hb.cell 5
                      have b6 := hb.cell 6
                      simp at b0 b1 b2 b3 b4 b5 b6
                      have y0 := hoW.cl HLG.out (k := 0) (u := .bool l.live) (by decide) rfl
                      have y1 := hoW.cl HLG.out (k := 1) (u := .int .i64 l.src) (by decide) rfl
                      have y2 := hoW.cl HLG.out (k := 2) (u := .int .i64 l.dst) (by decide) rfl
                      have y3 := hoW.cl HLG.out (k := 3) (u := .int .i64 l.sp) (by decide) rfl
                      have y4 := hoW.cl HLG.out (k := 4) (u := .int .i64 l.tp) (by decide) rfl
                      have y5 := hoW.cl HLG.out (k := 5) (u := .int .i64 l.sn) (by decide) rfl
                      have y6 := hoW.cl HLG.out (k := 6) (u := .int .i64 l.tn) (by decide) rfl
                      simp only [Nat.add_zero] at y0
                      have f0 := hoW.fz (j * 7)
                      have f1 := hoW.fz (j * 7 + 1)
                      have f2 := hoW.fz (j * 7 + 2)
                      have f3 := hoW.fz (j * 7 + 3)
                      have f4 := hoW.fz (j * 7 + 4)
                      have f5 := hoW.fz (j * 7 + 5)
                      have f6 := hoW.fz (j * 7 + 6)
                      go_still_tail 7, (by kernel_rfl)
                      go_wp2
                      go_roundw
                      case rel =>
                        refine ⟨t + 1, by omega, by go_num, ?_, ?_⟩
                        · rw [HSTEP.out, HPV.out, HNX.out, show l.put node (-1) (-1) = ⟨l.live, l.src, l.dst, (-1), (-1), (-1), (-1)⟩ by unfold Lk.put; rw [if_pos HSN.out, if_pos HDN.out]]
                          exact (hoW.set7 HLG.out _ _ _ _ _ _ _).chg ((Chg.refl [] _).drew) (by simp)
                        · exact ((((((((hch.trans0 hcA).setCell (.inr HGW.out) _).setCell (.inr HGW.out) _).setCell (.inr HGW.out) _).setCell (.inr HGW.out) _).setCell (.inr HGW.out) _).setCell (.inr HGW.out) _).setCell (.inr HGW.out) _).drew
                      case measure => simp [intOf]; omega
                    · have s2 : (l.dst == node) = false := by simp [hdn]
                      have HDN := Lib.hid hdn
                      clear hsn hdn
                      go_wp2
                      have hb := Blk.new wr 55 #[.bool l.live, .int .i64 l.src, .int .i64 l.dst, .int .i64 (-1), .int .i64 l.tp, .int .i64 (-1), .int .i64 l.tn]
                      have hcA := (Chg.refl [] wr).alloc (.cells #[.bool l.live, .int .i64 l.src, .int .i64 l.dst, .int .i64 (-1), .int .i64 l.tp, .int .i64 (-1), .int .i64 l.tn] 55)
                      have hoW := hown.chg hcA (by simp)
                      have hcW := hcA.cell hcell (by simp)
                      have hgb : g ≠ wr.heap.size := fun e => Nat.lt_irrefl _ (e ▸ hown.lt g (by simp))
                      obtain ⟨W, hW⟩ : ∃ W : World, W = wr.alloc (.cells #[.bool l.live, .int .i64 l.src, .int .i64 l.dst, .int .i64 (-1), .int .i64 l.tp, .int .i64 (-1), .int .i64 l.tn] 55) := ⟨_, rfl⟩
                      rw [← hW] at hb hcA hoW hcW
                      rw [← hW]
                      clear hW x0 x1 x2 x3 x4 x5 x6
                      have b0 := hb.cell 0
                      have b1 := hb.cell 1
                      have b2 := hb.cell 2
                      have b3 := hb.cell 3
                      have b4 := hb.cell 4
                      have b5 := hb.cell 5
                      have b6 := hb.cell 6
                      simp at b0 b1 b2 b3 b4 b5 b6
                      have y0 := hoW.cl HLG.out (k := 0) (u := .bool l.live) (by decide) rfl
                      have y1 := hoW.cl HLG.out (k := 1) (u := .int .i64 l.src) (by decide) rfl
                      have y2 := hoW.cl HLG.out (k := 2) (u := .int .i64 l.dst) (by decide) rfl
                      have y3 := hoW.cl HLG.out (k := 3) (u := .int .i64 l.sp) (by decide) rfl
                      have y4 := hoW.cl HLG.out (k := 4) (u := .int .i64 l.tp) (by decide) rfl
                      have y5 := hoW.cl HLG.out (k := 5) (u := .int .i64 l.sn) (by decide) rfl
                      have y6 := hoW.cl HLG.out (k := 6) (u := .int .i64 l.tn) (by decide) rfl
                      simp only [Nat.add_zero] at y0
                      have f0 := hoW.fz (j * 7)
                      have f1 := hoW.fz (j * 7 + 1)
                      have f2 := hoW.fz (j * 7 + 2)
                      have f3 := hoW.fz (j * 7 + 3)
                      have f4 := hoW.fz (j * 7 + 4)
                      have f5 := hoW.fz (j * 7 + 5)
                      have f6 := hoW.fz (j * 7 + 6)
                      go_still_tail 7, (by kernel_rfl)
                      go_wp2
                      go_roundw
                      case rel =>
                        refine ⟨t + 1, by omega, by go_num, ?_, ?_⟩
                        · rw [HSTEP.out, HPV.out, HNX.out, show l.put node (-1) (-1) = ⟨l.live, l.src, l.dst, (-1), l.tp, (-1), l.tn⟩ by unfold Lk.put; rw [if_pos HSN.out, if_neg HDN.out]]
                          exact (hoW.set7 HLG.out _ _ _ _ _ _ _).chg ((Chg.refl [] _).drew) (by simp)
                        · exact ((((((((hch.trans0 hcA).setCell (.inr HGW.out) _).setCell (.inr HGW.out) _).setCell (.inr HGW.out) _).setCell (.inr HGW.out) _).setCell (.inr HGW.out) _).setCell (.inr HGW.out) _).setCell (.inr HGW.out) _).drew
                      case measure => simp [intOf]; omega
                  · have s1 : (l.src == node) = false := by simp [hsn]
                    have HSN := Lib.hid hsn
                    clear hsn
                    go_wp2
                    have hb := Blk.new wr 55 #[.bool l.live, .int .i64 l.src, .int .i64 l.dst, .int .i64 l.sp, .int .i64 (-1), .int .i64 l.sn, .int .i64 (-1)]
                    have hcA := (Chg.refl [] wr).alloc (.cells #[.bool l.live, .int .i64 l.src, .int .i64 l.dst, .int .i64 l.sp, .int .i64 (-1), .int .i64 l.sn, .int .i64 (-1)] 55)
                    have hoW := hown.chg hcA (by simp)
                    have hcW := hcA.cell hcell (by simp)
                    have hgb : g ≠ wr.heap.size := fun e => Nat.lt_irrefl _ (e ▸ hown.lt g (by simp))
                    obtain ⟨W, hW⟩ : ∃ W : World, W = wr.alloc (.cells #[.bool l.live, .int .i64 l.src, .int .i64 l.dst, .int .i64 l.sp, .int .i64 (-1), .int .i64 l.sn, .int .i64 (-1)] 55) := ⟨_, rfl⟩
                    rw [← hW] at hb hcA hoW hcW
                    rw [← hW]
                    clear hW x0 x1 x2 x3 x4 x5 x6
                    have b0 := hb.cell 0
                    have b1 := hb.cell 1
                    have b2 := hb.cell 2
                    have b3 := hb.cell 3
                    have b4 := hb.cell 4
                    have b5 := hb.cell 5
                    have b6 := hb.cell 6
                    simp at b0 b1 b2 b3 b4 b5 b6
                    have y0 := hoW.cl HLG.out (k := 0) (u := .bool l.live) (by decide) rfl
                    have y1 := hoW.cl HLG.out (k := 1) (u := .int .i64 l.src) (by decide) rfl
                    have y2 := hoW.cl HLG.out (k := 2) (u := .int .i64 l.dst) (by decide) rfl
                    have y3 := hoW.cl HLG.out (k := 3) (u := .int .i64 l.sp) (by decide) rfl
                    have y4 := hoW.cl HLG.out (k := 4) (u := .int .i64 l.tp) (by decide) rfl
                    have y5 := hoW.cl HLG.out (k := 5) (u := .int .i64 l.sn) (by decide) rfl
                    have y6 := hoW.cl HLG.out (k := 6) (u := .int .i64 l.tn) (by decide) rfl
                    simp only [Nat.add_zero] at y0
                    have f0 := hoW.fz (j * 7)
                    have f1 := hoW.fz (j * 7 + 1)
                    have f2 := hoW.fz (j * 7 + 2)
                    have f3 := hoW.fz (j * 7 + 3)
                    have f4 := hoW.fz (j * 7 + 4)
                    have f5 := hoW.fz (j * 7 + 5)
                    have f6 := hoW.fz (j * 7 + 6)
                    go_still_tail 7, (by kernel_rfl)
                    go_wp2
                    go_roundw
                    case rel =>
                      refine ⟨t + 1, by omega, by go_num, ?_, ?_⟩
                      · rw [HSTEP.out, HPV.out, HNX.out, show l.put node (-1) (-1) = ⟨l.live, l.src, l.dst, l.sp, (-1), l.sn, (-1)⟩ by unfold Lk.put; rw [if_neg HSN.out]]
                        exact (hoW.set7 HLG.out _ _ _ _ _ _ _).chg ((Chg.refl [] _).drew) (by simp)
                      · exact ((((((((hch.trans0 hcA).setCell (.inr HGW.out) _).setCell (.inr HGW.out) _).setCell (.inr HGW.out) _).setCell (.inr HGW.out) _).setCell (.inr HGW.out) _).setCell (.inr HGW.out) _).setCell (.inr HGW.out) _).drew
                    case measure => simp [intOf]; omega
            · have htk : t = k := by omega
              subst htk
              go_wp2
              go_ret2
              rw [HTA.out] at hown
              exact ⟨A2, i, c2, 0, rfl, HZ.out.symm, by rw [thr, HZ.out, if_pos rfl]; exact hown, by rw [thr, HZ.out, if_pos rfl, layG_length]; exact HL.out.symm, hch, HN3.out⟩
end Go.Proofs.Ytelmnmepdmfihaa
