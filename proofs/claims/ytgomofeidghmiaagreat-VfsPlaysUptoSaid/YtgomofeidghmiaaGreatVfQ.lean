/-
  Layer 08: slices.DeleteFunc at Sync's closure: the writes of one file are struck.
-/
import Derived.Test.YtgomofeidghmiaaGreatVfO
import Derived.Lib.SliceRun
import Derived.LaidEqlPtr
namespace Go.Proofs.YtgomofeidghmiaaGreat
open Go.RowKit

def pv (x : Nat) : Value := .pointer (some ⟨x, 0, none⟩)

/-- a block of plain cells -/
def IsB (w : World) (x : Nat) : Prop := ∃ t cs, Blk w x t cs
theorem IsB.chg {w w' : World} {x : Nat} {L : List Nat} (h : IsB w x) (hc : Chg L w w') (hn : x ∉ L) : IsB w' x := by
  obtain ⟨t, cs, h⟩ := h; exact ⟨t, cs, h.chg hc hn⟩
theorem eql_inode {w : World} {x y : Nat} (hx : IsB w x) (hy : IsB w y) : (binOp .eql 95 (.pointer (some ⟨x, 0, none⟩)) (.pointer (some ⟨y, 0, none⟩))).run Tryz.prog w = .ok (.bool (decide (x = y))) w := by
  obtain ⟨i, hi, hsz⟩ : ∃ i, Tryz.prog.info? 98 = some i ∧ i.size ≠ 0 := by
    have h : (Tryz.prog.info? 98).map (·.size) = some 1 := by kernel_rfl
    cases hi : Tryz.prog.info? 98 with
    | none => rw [hi] at h; cases h
    | some i => rw [hi] at h; injection h with h; exact ⟨i, rfl, by have h' : i.size = 1 := h; omega⟩
  by_cases h : x = y
  · subst h
    rw [decide_eq_true rfl]
    exact run_eql_ptr_same w _ Tryz.underlying95 hi
  · rw [decide_eq_false h]
    obtain ⟨t, cs, hbx⟩ := hx
    obtain ⟨t', cs', hby⟩ := hy
    exact run_eql_ptr_other w Tryz.underlying95 hi hsz (fun e => h (by injection e)) hbx hby

set_option maxRecDepth 100000 in
set_option maxHeartbeats 3200000 in
theorem sync1_any (x y k : Nat) (w : World) (hk : w.cell? ⟨k, 0, none⟩ = some (pv x)) (hx : IsB w x) (hy : IsB w y) :
    Calls Tryz.prog 73 #[pv y, .pointer (some ⟨k, 0, none⟩)] w fun e w' => e = .returned (.bool (decide (x = y))) ∧ Chg [] w w' := by
  have hq := eql_inode hx hy
  unfold pv at hk ⊢
  clear hx hy
  obtain ⟨b, hb⟩ : ∃ b, decide (x = y) = b := ⟨_, rfl⟩
  rw [hb] at hq ⊢
  clear hb
  go_enter Tryz.func73, Tryz.ntmps73
  go_wp2
  go_ret
  exact ⟨rfl, Chg.refl _ _⟩

theorem rd_ptr {w : World} {A : Option Addr} {n c : Nat} {xs : List Nat} (h : Rd w 1 A n c (xs.map pv)) {j : Nat} (hj : j < n) :
    ∃ ad x, A = some ad ∧ xs[j]? = some x ∧ w.cell? (ad.add j) = some (.pointer (some ⟨x, 0, none⟩)) := by
  obtain ⟨ad, u, h1, h2, h3⟩ := h.at1 hj
  rw [List.getElem?_map] at h2
  cases hz : xs[j]? with
  | none => rw [hz] at h2; cases h2
  | some x => rw [hz] at h2; simp only [Option.map_some, Option.some.injEq] at h2; subst h2; exact ⟨ad, x, h1, rfl, h3⟩

set_option maxRecDepth 100000 in
set_option maxHeartbeats 3200000 in
theorem idxf_any (A : Option Addr) (n c : Nat) (xs : List Nat) (x k : Nat) (w : World) (hr : Rd w 1 A n c (xs.map pv)) (hk : w.cell? ⟨k, 0, none⟩ = some (pv x)) (hbx : IsB w x) (hbs : ∀ y ∈ xs, IsB w y) (hn : n ≤ 1073741824) :
    Calls Tryz.prog 96 #[.slice A n c, .func (.func 73) #[] #[.pointer (some ⟨k, 0, none⟩)]] w fun e w' => Chg [] w w' ∧
      ((e = .returned (.int .i64 (-1)) ∧ x ∉ xs) ∨ ∃ i : Nat, e = .returned (.int .i64 i) ∧ xs[i]? = some x ∧ x ∉ xs.take i) := by
  have hl : xs.length = n := by have := hr.1; simp at this; omega
  have HR := Lib.hid hr
  have HK := Lib.hid hk
  have HL := Lib.hid hl
  have HBX := Lib.hid hbx
  have HBS := Lib.hid hbs
  clear hr hk hl hbx hbs
  go_enter Tryz.func96, Tryz.ntmps96
  go_wp2
  go_loopw [8] (fun q wr => ∃ i : Nat, i ≤ n ∧ q = .int .i64 i ∧ x ∉ xs.take i ∧ Chg [] w wr) (fun q _ => n - (intOf q).toNat)
  case atStart => exact ⟨0, Nat.zero_le _, rfl, by simp, Chg.refl _ _⟩
  case round =>
    obtain ⟨i, hi, rfl, hall, hch⟩ := hrel
    have HALL := Lib.hid hall
    have HCH := Lib.hid hch
    clear hall hch
    by_cases hlt : i < n
    · have hlt' : (i : Int) < n := by omega
      obtain ⟨ad, y, rfl, hx, hcell⟩ := rd_ptr (HR.out.chg HCH.out (fun _ _ => List.not_mem_nil)) hlt
      have HX := Lib.hid hx
      clear hx
      go_wp2_with fail
      refine (sync1_any x y k wr (HCH.out.cell HK.out List.not_mem_nil) (HBX.out.chg HCH.out List.not_mem_nil) ((HBS.out y (List.mem_of_getElem? HX.out)).chg HCH.out List.not_mem_nil)).mono ?_
      rintro e w3 ⟨rfl, hc3⟩
      have HC3 := Lib.hid (HCH.out.trans0 hc3)
      clear hc3
      by_cases hxy : x = y
      · subst hxy
        simp only [decide_true]
        go_wp2
        go_ret
        exact ⟨HC3.out, .inr ⟨i, rfl, HX.out, HALL.out⟩⟩
      · simp only [hxy, decide_false]
        have HXY := Lib.hid hxy
        clear hxy
        go_wp2
        go_roundw
        case rel =>
          refine ⟨i + 1, by omega, by go_num, fun hy => ?_, HC3.out⟩
          rw [take_snoc _ _ _ HX.out] at hy
          rcases List.mem_append.1 hy with h | h
          · exact HALL.out h
          · simp at h; exact HXY.out h
        case measure => simp [intOf]; omega
    · obtain rfl : i = n := by omega
      go_wp2
      go_ret
      refine ⟨HCH.out, .inl ⟨rfl, fun hm => HALL.out ?_⟩⟩
      rw [List.take_of_length_le (by rw [HL.out]; exact Nat.le_refl _)]
      exact hm

theorem Own.after {w : World} {e : TypeId} {g n c : Nat} {xs : List Value} (h : Own w e 1 (some ⟨g, 0, none⟩) n c xs) {o : Nat} (ho : n ≤ o) (u : Value) : Own (w.setCell ⟨g, o, none⟩ u) e 1 (some ⟨g, 0, none⟩) n c xs := by
  rcases h.form with ⟨h1, _⟩ | ⟨g', cur, hA, hb, hn, hm, hs, ht⟩
  · cases h1
  · injection hA with hA
    injection hA with hA
    subst hA
    refine ⟨h.1, .inr ⟨g, c, _, rfl, Nat.zero_le _, hb.set_ o u, hn, hm, by rw [Array.size_setIfInBounds]; exact hs, ?_⟩⟩
    rw [← ht, Array.toList_setIfInBounds, List.take_set]
    rw [List.set_eq_of_length_le]
    rw [List.length_take]; omega
theorem Own.afterN {e : TypeId} {g n c : Nat} {xs : List Value} : ∀ (us : List Value) {w : World} (_ : Own w e 1 (some ⟨g, 0, none⟩) n c xs) {o : Nat} (_ : n ≤ o), Own (w.setCells g o us) e 1 (some ⟨g, 0, none⟩) n c xs ∧ Chg [g] w (w.setCells g o us)
  | [], w, h, o, ho => ⟨h, Chg.refl _ _⟩
  | u :: r, w, h, o, ho => by
    have h1 := Own.after h ho u
    have h2 := Own.afterN r h1 (o := o + 1) (by omega)
    exact ⟨h2.1, ((Chg.refl [g] w).setCell (by simp) u).trans h2.2 (fun x hx => .inl hx)⟩

/-- what is kept so far, what is still to be looked at -/
structure DelI (xs : List Nat) (x : Nat) (i j : Nat) (l : List Nat) : Prop where
  len : l.length = xs.length
  le : i < j
  jn : j ≤ xs.length
  head : l.take i = (xs.take j).filter (fun y => y != x)
  rest : l.drop j = xs.drop j
theorem DelI.at_ {xs l : List Nat} {x i j : Nat} (h : DelI xs x i j l) (hj : j < xs.length) : ∃ y, xs[j]? = some y ∧ l[j]? = some y := by
  refine ⟨xs[j], List.getElem?_eq_getElem hj, ?_⟩
  have := congrArg (fun l => l[0]?) h.rest
  simp only [List.getElem?_drop, Nat.add_zero] at this
  rw [this, List.getElem?_eq_getElem hj]
theorem DelI.skip {xs l : List Nat} {x i j : Nat} (h : DelI xs x i j l) (hj : xs[j]? = some x) : DelI xs x i (j + 1) l := by
  have hl := (List.getElem?_eq_some_iff.1 hj).1
  refine ⟨h.len, by have := h.le; omega, hl, ?_, ?_⟩
  · rw [h.head, take_snoc _ _ _ hj, List.filter_append]
    simp
  · have := congrArg (List.drop 1) h.rest
    rw [List.drop_drop, List.drop_drop] at this
    exact this
theorem DelI.keep {xs l : List Nat} {x y i j : Nat} (h : DelI xs x i j l) (hj : xs[j]? = some y) (hy : y ≠ x) : DelI xs x (i + 1) (j + 1) (l.set i y) := by
  have hl := (List.getElem?_eq_some_iff.1 hj).1
  have hle := h.le
  have hln := h.len
  refine ⟨by rw [List.length_set]; exact h.len, by omega, hl, ?_, ?_⟩
  · rw [take_snoc (l.set i y) i y (by rw [List.getElem?_set, if_pos rfl, if_pos (by omega)]), take_snoc _ _ _ hj, List.filter_append, ← h.head, List.take_set_of_le (Nat.le_refl _)]
    simp [hy]
  · have := congrArg (List.drop 1) h.rest
    rw [List.drop_drop, List.drop_drop] at this
    rw [List.drop_set_of_lt (by omega)]
    exact this
theorem DelI.done {xs l : List Nat} {x i : Nat} (h : DelI xs x i xs.length l) : l.take i = xs.filter (fun y => y != x) := by
  have := h.head
  rwa [List.take_length] at this

set_option maxRecDepth 100000 in
set_option maxHeartbeats 3200000 in
theorem delf_any (A : Option Addr) (n c : Nat) (xs : List Nat) (x k : Nat) (w : World) (ho : Own w 95 1 A n c (xs.map pv)) (hk : w.cell? ⟨k, 0, none⟩ = some (pv x)) (hkA : k ∉ bo A) (hbx : IsB w x) (hbs : ∀ y ∈ xs, IsB w y) (hxA : ∀ y ∈ x :: xs, y ∉ bo A) (hn : n ≤ 1073741824) :
    Calls Tryz.prog 72 #[.slice A n c, .func (.func 73) #[] #[.pointer (some ⟨k, 0, none⟩)]] w fun e w' => Chg (bo A) w w' ∧
      ∃ n', n' = (xs.filter (fun y => y != x)).length ∧ e = .returned (.slice A n' c) ∧ Own w' 95 1 A n' c ((xs.filter (fun y => y != x)).map pv) := by
  have hl : xs.length = n := by have := ho.1; simp at this; omega
  have HO := Lib.hid ho
  have HK := Lib.hid hk
  have HL := Lib.hid hl
  have HBX := Lib.hid hbx
  have HBS := Lib.hid hbs
  have HKA := Lib.hid hkA
  have HXA := Lib.hid hxA
  clear ho hk hl hbx hbs hkA hxA
  go_enter Tryz.func72, Tryz.ntmps72
  go_wp2_with fail
  refine (idxf_any A n c xs x k w HO.out.rd HK.out HBX.out HBS.out hn).mono ?_
  rintro e w1 ⟨hc1, hcase⟩
  have HC1 := Lib.hid hc1
  clear hc1
  rcases hcase with ⟨rfl, hno⟩ | ⟨i0, rfl, hi0, hpre⟩
  · have HN := Lib.hid hno
    clear hno
    go_wp2
    go_ret
    have hf : xs.filter (fun y => y != x) = xs := by
      rw [List.filter_eq_self]
      intro y hy
      simp only [bne_iff_ne, ne_eq]
      rintro rfl
      exact HN.out hy
    refine ⟨HC1.out.nil _, n, by rw [hf]; exact HL.out.symm, rfl, ?_⟩
    rw [hf]
    exact HO.out.chg HC1.out (fun _ _ => List.not_mem_nil)
  · have hil := (List.getElem?_eq_some_iff.1 hi0).1
    have hn0 : i0 < n := by have := HL.out; omega
    have hne : ((i0 : Int) == -1) = false := beq_eq_false_iff_ne.2 (by omega)
    have HI0 : Hid (DelI xs x i0 (i0 + 1) xs) := Lib.hid ⟨rfl, by omega, by omega, by
      rw [take_snoc _ _ _ hi0, List.filter_append]
      have : (xs.take i0).filter (fun y => y != x) = xs.take i0 := by
        rw [List.filter_eq_self]
        intro y hy
        simp only [bne_iff_ne, ne_eq]
        rintro rfl
        exact hpre hy
      rw [this]; simp, rfl⟩
    have HO1 := Lib.hid (HO.out.chg HC1.out (fun _ _ => List.not_mem_nil))
    clear hi0 hpre hil
    go_wp2
    go_loopw [5, 6, 7] (fun s5 s6 _ wr => ∃ (i j : Nat) (l : List Nat), s5 = .int .i64 i ∧ s6 = .int .i64 j ∧ DelI xs x i j l ∧ Own wr 95 1 A n c (l.map pv) ∧ Chg (bo A) w wr) (fun _ s6 _ _ => n - (intOf s6).toNat)
    case atStart => exact ⟨i0, i0 + 1, xs, rfl, by go_num, HI0.out, HO1.out, HC1.out.nil _⟩
    case round =>
      obtain ⟨i, j, l, rfl, rfl, hD, hown, hch⟩ := hrel
      have hjn : j ≤ n := by have := hD.jn; have := HL.out; omega
      have hij : i < j := hD.le
      have HD := Lib.hid hD
      have HW := Lib.hid hown
      have HCH := Lib.hid hch
      clear hD hown hch
      by_cases hlt : j < n
      · have hlt' : (j : Int) < n := by omega
        obtain ⟨y, hxy, hly⟩ := HD.out.at_ (by have := HL.out; omega)
        obtain ⟨ad, y', rfl, hy', hcell⟩ := rd_ptr HW.out.rd hlt
        have hyy : y' = y := by rw [hly] at hy'; exact (Option.some.inj hy').symm
        subst hyy
        have HY := Lib.hid hxy
        have hin : i < n := by omega
        obtain ⟨ad2, u2, hA2, hu2, hc2, hfz, hset⟩ := HW.out.at1 hin
        injection hA2 with hA2
        subst hA2
        have HSET := Lib.hid hset
        have hmem : y' ∈ xs := List.mem_of_getElem? hxy
        have HCALL : Hid (Calls Tryz.prog 73 #[pv y', .pointer (some ⟨k, 0, none⟩)] wr fun e w' => e = .returned (.bool (decide (x = y'))) ∧ Chg [] wr w') :=
          Lib.hid (sync1_any x y' k wr (HCH.out.cell HK.out HKA.out) (HBX.out.chg HCH.out (HXA.out x (by simp))) ((HBS.out y' hmem).chg HCH.out (HXA.out y' (by simp [hmem]))))
        clear hxy hly hy' hu2 hset hmem
        go_wp2_with fail
        refine HCALL.out.mono ?_
        rintro e w3 ⟨rfl, hc3⟩
        have HC3 := Lib.hid hc3
        have HW3 := Lib.hid (HW.out.chg hc3 (fun _ _ => List.not_mem_nil))
        have hc23 := hc3.cell hc2 List.not_mem_nil
        by_cases hxe : x = y'
        · subst hxe
          simp only [decide_true]
          clear hc3 hc2 hfz hc23
          go_wp2
          go_roundw
          case rel => exact ⟨i, j + 1, l, rfl, by go_num, HD.out.skip HY.out, HW3.out, HCH.out.trans0 HC3.out⟩
          case measure => simp [intOf]; omega
        · simp only [hxe, decide_false]
          have HXE := Lib.hid hxe
          obtain ⟨ad3, u3, hA3, hu3, hc33, hf3, hset3⟩ := HW3.out.at1 hin
          injection hA3 with hA3
          subst hA3
          have HS3 := Lib.hid hset3
          clear hxe hc3 hc2 hfz hc23 hu3 hset3
          go_wp2
          go_roundw
          case rel =>
            refine ⟨i + 1, j + 1, l.set i y', by go_num, by go_num, HD.out.keep HY.out (fun e => HXE.out e.symm), ?_, ?_⟩
            · have := HS3.out (pv y')
              rw [← List.map_set] at this
              exact this
            · exact (HCH.out.trans0 HC3.out).setCell (.inl (by simp [add_block])) _
          case measure => simp [intOf]; omega
      · obtain rfl : j = n := by omega
        rcases HW.out.form with ⟨_, h0, _⟩ | ⟨g, cur, rfl, hb, hnc, hcm, hcs, htk⟩
        · omega
        have hcl : ∀ ty, (Builtin.clear_ #[90] ty #[.slice (some ⟨g, i, none⟩) (j - i) (c - i)]).run Tryz.prog wr = .ok (.tuple #[]) (wr.setCells g i (List.replicate (j - i) (.pointer none))) :=
          fun ty => Lib.run_clear_slice wr _ _ ty _ Tryz.underlying90 (by intro w; kernel_rfl) rfl rfl g i _ _ (by omega) (fun t ht => by rw [hb.cell, Array.getElem?_eq_getElem (by omega)]; rfl) (fun t ht => hb.frozen _)
        have hic : i ≤ c := by omega
        have hij' : (i : Int) ≤ j := by omega
        have HQ := Lib.hid (show j ≤ c from hnc)
        clear hb hcs htk hcm
        go_wp2
        go_ret
        have hD := HD.out
        have e1 : j = xs.length := HL.out.symm
        rw [e1] at hD
        have hdone := hD.done
        have hlen : (xs.filter (fun y => y != x)).length = i := by rw [← hdone, List.length_take]; have := hD.len; omega
        have hcut := HW.out.cut (k := i) (by omega)
        rw [Nat.mul_one, ← List.map_take, hdone] at hcut
        have haf := Own.afterN (List.replicate (j - i) (Value.pointer none)) hcut (o := i) (Nat.le_refl _)
        refine ⟨HCH.out.trans haf.2 (fun x hx => .inl (by simpa using hx)), i, hlen.symm, rfl, haf.1⟩
end Go.Proofs.YtgomofeidghmiaaGreat
