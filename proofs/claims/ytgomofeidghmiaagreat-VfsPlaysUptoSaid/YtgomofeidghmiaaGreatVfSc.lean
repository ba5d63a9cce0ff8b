/-
  Layer 08: SameFiles, Same: equal disks are one; CopyFiles, Copy: a disk as new memory.
-/
import Derived.Test.YtgomofeidghmiaaGreatVfJb
import Derived.Deep.RegionHeld3
import Derived.Deep.RegionLaw
namespace Go.Proofs.YtgomofeidghmiaaGreat
open Go.RowKit

theorem fval8_snoc' (fs : List FM) (x : FM) : fval8 (fs ++ [x]) = fval8 fs ++ [(x.1.nm, x.2)] := by simp [fval8]
theorem dval8_snoc' (ds : List DM) (x : DM) : dval8 (ds ++ [x]) = dval8 ds ++ [(x.1.nm, fval8 x.2)] := by simp [dval8]


set_option maxRecDepth 100000 in
set_option maxHeartbeats 3200000 in
theorem samef_any (A : Option Addr) (n c : Nat) (xs : List FM) (B : Option Addr) (m d : Nat) (ys : List FM) (w : World) (ha : FilesR w A n c xs) (hb : FilesR w B m d ys) (hn : n ≤ 1073741824) :
    Calls Tryz.prog 52 #[.slice A n c, .slice B m d] w (SaysIf (fval8 xs = fval8 ys) w) := by
  have hlx : xs.length = n := by have := ha.row.nsl; simpa [fnsl] using this
  have hly : ys.length = m := by have := hb.row.nsl; simpa [fnsl] using this
  have HA := Lib.hid ha
  have HB := Lib.hid hb
  have HLX := Lib.hid hlx
  have HLY := Lib.hid hly
  clear ha hb hlx hly
  go_enter Tryz.func52, Tryz.ntmps52
  by_cases hnm : n = m
  · subst hnm
    go_wp2
    go_loopw [5] (fun q wr => ∃ i : Nat, i ≤ n ∧ q = .int .i64 i ∧ Chg [] w wr) (fun q _ => n - (intOf q).toNat)
    case atStart => exact ⟨0, Nat.zero_le _, rfl, Chg.refl _ _⟩
    case round =>
      obtain ⟨i, hi, rfl, hch⟩ := hrel
      have HCH := Lib.hid hch
      clear hch
      by_cases hlt : i < n
      · have hlt' : (i : Int) < n := by omega
        obtain ⟨x, hx⟩ : ∃ x, xs[i]? = some x := ⟨_, List.getElem?_eq_getElem (by have := HLX.out; omega)⟩
        obtain ⟨y, hy⟩ : ∃ y, ys[i]? = some y := ⟨_, List.getElem?_eq_getElem (by have := HLY.out; omega)⟩
        obtain ⟨ad, rfl, hat⟩ := (HA.out.chg0 HCH.out).row.ns (j := i) (x := x.1) (by unfold fnsl; rw [List.getElem?_map, hx]; rfl)
        obtain ⟨bd, rfl, hbt⟩ := (HB.out.chg0 HCH.out).row.ns (j := i) (x := y.1) (by unfold fnsl; rw [List.getElem?_map, hy]; rfl)
        have x0 := hat.c0
        have x1 := hat.c1
        have y0 := hbt.c0
        have y1 := hbt.c1
        have HX := Lib.hid hx
        have HY := Lib.hid hy
        obtain ⟨cb, hneq⟩ : ∃ cb, (x.1.nm.toList == y.1.nm.toList) = cb := ⟨_, rfl⟩
        have HCB : Hid (cb = false → x.1.nm ≠ y.1.nm) := Lib.hid (fun h e => by rw [e] at hneq; rw [h] at hneq; simp at hneq)
        have HCALL : Hid (∀ w', Chg [] wr w' → Calls Tryz.prog 29 #[.slice x.1.A x.1.n x.1.c, .slice y.1.A y.1.n y.1.c] w' (SaysIf (x.2 = y.2) w')) := Lib.hid (fun w' hc => sameb_any _ _ _ _ _ _ _ _ w' (((HA.out.chg0 HCH.out).dat x (List.mem_of_getElem? HX.out)).chg hc (fun _ _ => List.not_mem_nil)) (((HB.out.chg0 HCH.out).dat y (List.mem_of_getElem? HY.out)).chg hc (fun _ _ => List.not_mem_nil)))
        have HNE : Hid (cb = false → fval8 xs ≠ fval8 ys) := Lib.hid (fun h e => HCB.out h (by
          have := congrArg (fun l => l[i]?.map Prod.fst) e
          simp only [fval8, List.getElem?_map, HX.out, HY.out, Option.map_some, Option.some.injEq] at this
          exact this))
        have HEQ : Hid (fval8 xs = fval8 ys → x.2 = y.2) := Lib.hid (fun e => by
          have := congrArg (fun l => l[i]?.map Prod.snd) e
          simp only [fval8, List.getElem?_map, HX.out, HY.out, Option.map_some, Option.some.injEq] at this
          exact this)
        clear hx hy hat hbt
        cases cb with
        | false =>
          go_wp2
          refine wp_region_held_drew (S := fun w' => Chg [] wr w') (by kernel_rfl) ((Chg.refl _ _).drew) (fun hHeld => ?_)
          refine wpAnyH_take (i := 0) (v := ?_) rfl (by kernel_rfl) (by kernel_rfl) (by kernel_rfl) (fun _ _ _ h => h) (Or.inl ⟨by rfl, ?_⟩) (by assumption) ?_
          rotate_left
          · (intro w' hSw; go_simp; try with_reducible rfl)
          try simp only [Act.put, put8]
          refine wpAnyH_take (i := 1) (v := ?_) rfl (by kernel_rfl) (by kernel_rfl) (by kernel_rfl) (fun _ _ _ h => h) (Or.inl ⟨by rfl, ?_⟩) (by assumption) ?_
          rotate_left
          · (intro w' hSw; go_simp; try with_reducible rfl)
          try simp only [Act.put, put8]
          refine wpAnyH_take (i := 2) (v := ?_) rfl (by kernel_rfl) (by kernel_rfl) (by kernel_rfl) (fun _ _ _ h => h) (Or.inl ⟨by rfl, ?_⟩) (by assumption) ?_
          rotate_left
          · (intro w' hSw; go_simp; try with_reducible rfl)
          try simp only [Act.put, put8]
          refine wpAnyH_take (i := 3) (v := ?_) rfl (by kernel_rfl) (by kernel_rfl) (by kernel_rfl) (fun _ _ _ h => h) (Or.inl ⟨by rfl, ?_⟩) (by assumption) ?_
          rotate_left
          · (intro w' hSw; go_simp; try with_reducible rfl)
          try simp only [Act.put, put8]
          refine wpAnyH_take (i := 4) (v := ?_) rfl (by kernel_rfl) (by kernel_rfl) (by kernel_rfl) (fun _ _ _ h => h) (Or.inl ⟨by rfl, ?_⟩) (by assumption) ?_
          rotate_left
          · (intro w' hSw; have y := hSw.cell x0 List.not_mem_nil; go_simp; try with_reducible rfl)
          try simp only [Act.put, put8]
          refine wpAnyH_take (i := 5) (v := ?_) rfl (by kernel_rfl) (by kernel_rfl) (by kernel_rfl) (fun _ _ _ h => h) (Or.inl ⟨by rfl, ?_⟩) (by assumption) ?_
          rotate_left
          · (intro w' hSw; go_simp; try with_reducible rfl)
          try simp only [Act.put, put8]
          refine wpAnyH_take (i := 6) (v := ?_) rfl (by kernel_rfl) (by kernel_rfl) (by kernel_rfl) (fun _ _ _ h => h) (Or.inl ⟨by rfl, ?_⟩) (by assumption) ?_
          rotate_left
          · (intro w' hSw; go_simp; try with_reducible rfl)
          try simp only [Act.put, put8]
          refine wpAnyH_take (i := 7) (v := ?_) rfl (by kernel_rfl) (by kernel_rfl) (by kernel_rfl) (fun _ _ _ h => h) (Or.inl ⟨by rfl, ?_⟩) (by assumption) ?_
          rotate_left
          · (intro w' hSw; go_simp; try with_reducible rfl)
          try simp only [Act.put, put8]
          refine wpAnyH_take (i := 8) (v := ?_) rfl (by kernel_rfl) (by kernel_rfl) (by kernel_rfl) (fun _ _ _ h => h) (Or.inl ⟨by rfl, ?_⟩) (by assumption) ?_
          rotate_left
          · (intro w' hSw; go_simp; try with_reducible rfl)
          try simp only [Act.put, put8]
          refine wpAnyH_take (i := 9) (v := ?_) rfl (by kernel_rfl) (by kernel_rfl) (by kernel_rfl) (fun _ _ _ h => h) (Or.inl ⟨by rfl, ?_⟩) (by assumption) ?_
          rotate_left
          · (intro w' hSw; have y := hSw.cell y0 List.not_mem_nil; go_simp; try with_reducible rfl)
          try simp only [Act.put, put8]
          refine wpAnyH_take (i := 10) (v := ?_) rfl (by kernel_rfl) (by kernel_rfl) (by kernel_rfl) (fun _ _ _ h => h) (Or.inl ⟨by rfl, ?_⟩) (by assumption) ?_
          rotate_left
          · (intro w' hSw; go_simp; try with_reducible rfl)
          try simp only [Act.put, put8]
          refine wpAnyH_take (i := 11) (v := ?_) rfl (by kernel_rfl) (by kernel_rfl) (by kernel_rfl) (fun _ _ _ h => h) (Or.inl ⟨by rfl, ?_⟩) (by assumption) ?_
          rotate_left
          · (intro w' hSw; go_simp; try with_reducible rfl)
          try simp only [Act.put, put8]
          refine wpAnyH_take (i := 12) (v := undef) rfl (by kernel_rfl) (by kernel_rfl) (by kernel_rfl) (fun _ _ _ h => h) (Or.inr ⟨by rfl, rfl⟩) (by assumption) ?_
          try simp only [Act.put, put8]
          refine wpAnyH_take (i := 13) (v := undef) rfl (by kernel_rfl) (by kernel_rfl) (by kernel_rfl) (fun _ _ _ h => h) (Or.inr ⟨by rfl, rfl⟩) (by assumption) ?_
          try simp only [Act.put, put8]
          refine wpAnyH_take (i := 14) (v := undef) rfl (by kernel_rfl) (by kernel_rfl) (by kernel_rfl) (fun _ _ _ h => h) (Or.inr ⟨by rfl, rfl⟩) (by assumption) ?_
          try simp only [Act.put, put8]
          refine wpAnyH_take (i := 15) (v := undef) rfl (by kernel_rfl) (by kernel_rfl) (by kernel_rfl) (fun _ _ _ h => h) (Or.inr ⟨by rfl, rfl⟩) (by assumption) ?_
          try simp only [Act.put, put8]
          refine wpAnyH_take (i := 16) (v := undef) rfl (by kernel_rfl) (by kernel_rfl) (by kernel_rfl) (fun _ _ _ h => h) (Or.inr ⟨by rfl, rfl⟩) (by assumption) ?_
          try simp only [Act.put, put8]
          refine wpAnyH_take (i := 17) (v := undef) rfl (by kernel_rfl) (by kernel_rfl) (by kernel_rfl) (fun _ _ _ h => h) (Or.inr ⟨by rfl, rfl⟩) (by assumption) ?_
          try simp only [Act.put, put8]
          refine wpAnyH_take (i := 18) (v := undef) rfl (by kernel_rfl) (by kernel_rfl) (by kernel_rfl) (fun _ _ _ h => h) (Or.inr ⟨by rfl, rfl⟩) (by assumption) ?_
          try simp only [Act.put, put8]
          refine wpAnyH_take (i := 19) (v := undef) rfl (by kernel_rfl) (by kernel_rfl) (by kernel_rfl) (fun _ _ _ h => h) (Or.inr ⟨by rfl, rfl⟩) (by assumption) ?_
          try simp only [Act.put, put8]
          refine wpAnyH_take (i := 20) (v := undef) rfl (by kernel_rfl) (by kernel_rfl) (by kernel_rfl) (fun _ _ _ h => h) (Or.inr ⟨by rfl, rfl⟩) (by assumption) ?_
          try simp only [Act.put, put8]
          refine wpAnyH_take (i := 21) (v := undef) rfl (by kernel_rfl) (by kernel_rfl) (by kernel_rfl) (fun _ _ _ h => h) (Or.inr ⟨by rfl, rfl⟩) (by assumption) ?_
          try simp only [Act.put, put8]
          refine wpAnyH_ready (rs := [22]) (by kernel_rfl) (by simp) ?_
          refine AllReadyH.cons rfl (fun K hK => ?_) (AllReadyH.nil)
          go_simp
          refine hK.out _ _ (hHeld) (fun hHeld => ?_)
          try simp only [Act.put, put8]
          clear hK K
          refine wpAnyH_take (i := 23) (v := undef) rfl (by kernel_rfl) (by kernel_rfl) (by kernel_rfl) (fun _ _ _ h => h) (Or.inr ⟨by rfl, rfl⟩) (by assumption) ?_
          try simp only [Act.put, put8]
          refine wpAnyH_take (i := 24) (v := ?_) rfl (by kernel_rfl) (by kernel_rfl) (by kernel_rfl) (fun _ _ _ h => h) (Or.inl ⟨by rfl, ?_⟩) (by assumption) ?_
          rotate_left
          · (intro w' hSw; go_simp; try with_reducible rfl)
          try simp only [Act.put, put8]
          refine wpAnyH_done (by kernel_rfl) ?_ _
          try simp only [Act.put, put8]
          clear hHeld x0 x1 y0 y1 hneq
          go_wp2
          go_ret
          exact ⟨false, rfl, fun e => absurd e (HNE.out (by first | rfl | trivial)), HCH.out.drew⟩
        | true =>
          go_wp2
          refine wp_region_held_drew (S := fun w' => Chg [] wr w') (by kernel_rfl) ((Chg.refl _ _).drew) (fun hHeld => ?_)
          refine wpAnyH_take (i := 0) (v := ?_) rfl (by kernel_rfl) (by kernel_rfl) (by kernel_rfl) (fun _ _ _ h => h) (Or.inl ⟨by rfl, ?_⟩) (by assumption) ?_
          rotate_left
          · (intro w' hSw; go_simp; try with_reducible rfl)
          try simp only [Act.put, put8]
          refine wpAnyH_take (i := 1) (v := ?_) rfl (by kernel_rfl) (by kernel_rfl) (by kernel_rfl) (fun _ _ _ h => h) (Or.inl ⟨by rfl, ?_⟩) (by assumption) ?_
          rotate_left
          · (intro w' hSw; go_simp; try with_reducible rfl)
          try simp only [Act.put, put8]
          refine wpAnyH_take (i := 2) (v := ?_) rfl (by kernel_rfl) (by kernel_rfl) (by kernel_rfl) (fun _ _ _ h => h) (Or.inl ⟨by rfl, ?_⟩) (by assumption) ?_
          rotate_left
          · (intro w' hSw; go_simp; try with_reducible rfl)
          try simp only [Act.put, put8]
          refine wpAnyH_take (i := 3) (v := ?_) rfl (by kernel_rfl) (by kernel_rfl) (by kernel_rfl) (fun _ _ _ h => h) (Or.inl ⟨by rfl, ?_⟩) (by assumption) ?_
          rotate_left
          · (intro w' hSw; go_simp; try with_reducible rfl)
          try simp only [Act.put, put8]
          refine wpAnyH_take (i := 4) (v := ?_) rfl (by kernel_rfl) (by kernel_rfl) (by kernel_rfl) (fun _ _ _ h => h) (Or.inl ⟨by rfl, ?_⟩) (by assumption) ?_
          rotate_left
          · (intro w' hSw; have y := hSw.cell x0 List.not_mem_nil; go_simp; try with_reducible rfl)
          try simp only [Act.put, put8]
          refine wpAnyH_take (i := 5) (v := ?_) rfl (by kernel_rfl) (by kernel_rfl) (by kernel_rfl) (fun _ _ _ h => h) (Or.inl ⟨by rfl, ?_⟩) (by assumption) ?_
          rotate_left
          · (intro w' hSw; go_simp; try with_reducible rfl)
          try simp only [Act.put, put8]
          refine wpAnyH_take (i := 6) (v := ?_) rfl (by kernel_rfl) (by kernel_rfl) (by kernel_rfl) (fun _ _ _ h => h) (Or.inl ⟨by rfl, ?_⟩) (by assumption) ?_
          rotate_left
          · (intro w' hSw; go_simp; try with_reducible rfl)
          try simp only [Act.put, put8]
          refine wpAnyH_take (i := 7) (v := ?_) rfl (by kernel_rfl) (by kernel_rfl) (by kernel_rfl) (fun _ _ _ h => h) (Or.inl ⟨by rfl, ?_⟩) (by assumption) ?_
          rotate_left
          · (intro w' hSw; go_simp; try with_reducible rfl)
          try simp only [Act.put, put8]
          refine wpAnyH_take (i := 8) (v := ?_) rfl (by kernel_rfl) (by kernel_rfl) (by kernel_rfl) (fun _ _ _ h => h) (Or.inl ⟨by rfl, ?_⟩) (by assumption) ?_
          rotate_left
          · (intro w' hSw; go_simp; try with_reducible rfl)
          try simp only [Act.put, put8]
          refine wpAnyH_take (i := 9) (v := ?_) rfl (by kernel_rfl) (by kernel_rfl) (by kernel_rfl) (fun _ _ _ h => h) (Or.inl ⟨by rfl, ?_⟩) (by assumption) ?_
          rotate_left
          · (intro w' hSw; have y := hSw.cell y0 List.not_mem_nil; go_simp; try with_reducible rfl)
          try simp only [Act.put, put8]
          refine wpAnyH_take (i := 10) (v := ?_) rfl (by kernel_rfl) (by kernel_rfl) (by kernel_rfl) (fun _ _ _ h => h) (Or.inl ⟨by rfl, ?_⟩) (by assumption) ?_
          rotate_left
          · (intro w' hSw; go_simp; try with_reducible rfl)
          try simp only [Act.put, put8]
          refine wpAnyH_take (i := 11) (v := ?_) rfl (by kernel_rfl) (by kernel_rfl) (by kernel_rfl) (fun _ _ _ h => h) (Or.inl ⟨by rfl, ?_⟩) (by assumption) ?_
          rotate_left
          · (intro w' hSw; go_simp; try with_reducible rfl)
          try simp only [Act.put, put8]
          refine wpAnyH_take (i := 12) (v := ?_) rfl (by kernel_rfl) (by kernel_rfl) (by kernel_rfl) (fun _ _ _ h => h) (Or.inl ⟨by rfl, ?_⟩) (by assumption) ?_
          rotate_left
          · (intro w' hSw; go_simp; try with_reducible rfl)
          try simp only [Act.put, put8]
          refine wpAnyH_take (i := 13) (v := ?_) rfl (by kernel_rfl) (by kernel_rfl) (by kernel_rfl) (fun _ _ _ h => h) (Or.inl ⟨by rfl, ?_⟩) (by assumption) ?_
          rotate_left
          · (intro w' hSw; go_simp; try with_reducible rfl)
          try simp only [Act.put, put8]
          refine wpAnyH_take (i := 14) (v := ?_) rfl (by kernel_rfl) (by kernel_rfl) (by kernel_rfl) (fun _ _ _ h => h) (Or.inl ⟨by rfl, ?_⟩) (by assumption) ?_
          rotate_left
          · (intro w' hSw; go_simp; try with_reducible rfl)
          try simp only [Act.put, put8]
          refine wpAnyH_take (i := 15) (v := ?_) rfl (by kernel_rfl) (by kernel_rfl) (by kernel_rfl) (fun _ _ _ h => h) (Or.inl ⟨by rfl, ?_⟩) (by assumption) ?_
          rotate_left
          · (intro w' hSw; go_simp; try with_reducible rfl)
          try simp only [Act.put, put8]
          refine wpAnyH_take (i := 16) (v := ?_) rfl (by kernel_rfl) (by kernel_rfl) (by kernel_rfl) (fun _ _ _ h => h) (Or.inl ⟨by rfl, ?_⟩) (by assumption) ?_
          rotate_left
          · (intro w' hSw; have y := hSw.cell x1 List.not_mem_nil; go_simp; try with_reducible rfl)
          try simp only [Act.put, put8]
          refine wpAnyH_take (i := 17) (v := ?_) rfl (by kernel_rfl) (by kernel_rfl) (by kernel_rfl) (fun _ _ _ h => h) (Or.inl ⟨by rfl, ?_⟩) (by assumption) ?_
          rotate_left
          · (intro w' hSw; go_simp; try with_reducible rfl)
          try simp only [Act.put, put8]
          refine wpAnyH_take (i := 18) (v := ?_) rfl (by kernel_rfl) (by kernel_rfl) (by kernel_rfl) (fun _ _ _ h => h) (Or.inl ⟨by rfl, ?_⟩) (by assumption) ?_
          rotate_left
          · (intro w' hSw; go_simp; try with_reducible rfl)
          try simp only [Act.put, put8]
          refine wpAnyH_take (i := 19) (v := ?_) rfl (by kernel_rfl) (by kernel_rfl) (by kernel_rfl) (fun _ _ _ h => h) (Or.inl ⟨by rfl, ?_⟩) (by assumption) ?_
          rotate_left
          · (intro w' hSw; go_simp; try with_reducible rfl)
          try simp only [Act.put, put8]
          refine wpAnyH_take (i := 20) (v := ?_) rfl (by kernel_rfl) (by kernel_rfl) (by kernel_rfl) (fun _ _ _ h => h) (Or.inl ⟨by rfl, ?_⟩) (by assumption) ?_
          rotate_left
          · (intro w' hSw; go_simp; try with_reducible rfl)
          try simp only [Act.put, put8]
          refine wpAnyH_take (i := 21) (v := ?_) rfl (by kernel_rfl) (by kernel_rfl) (by kernel_rfl) (fun _ _ _ h => h) (Or.inl ⟨by rfl, ?_⟩) (by assumption) ?_
          rotate_left
          · (intro w' hSw; have y := hSw.cell y1 List.not_mem_nil; go_simp; try with_reducible rfl)
          try simp only [Act.put, put8]
          refine wpAnyH_ready (rs := [22]) (by kernel_rfl) (by simp) ?_
          refine AllReadyH.cons rfl (fun K hK => ?_) (AllReadyH.nil)
          go_simp
          refine (HCALL.out _ hHeld).mono ?_
          rintro e w3 ⟨bb, rfl, hbb, hc3⟩
          have hc3' := hHeld.trans0 hc3
          have HBB := Lib.hid hbb
          refine hK.out _ _ (hHeld.trans0 hc3) (fun hHeld => ?_)
          try simp only [Act.put, put8]
          clear hK K
          refine wpAnyH_take (i := 23) (v := ?_) rfl (by kernel_rfl) (by kernel_rfl) (by kernel_rfl) (fun _ _ _ h => h) (Or.inl ⟨by rfl, ?_⟩) (by assumption) ?_
          rotate_left
          · (intro w' hSw; go_simp; try with_reducible rfl)
          try simp only [Act.put, put8]
          refine wpAnyH_take (i := 24) (v := ?_) rfl (by kernel_rfl) (by kernel_rfl) (by kernel_rfl) (fun _ _ _ h => h) (Or.inl ⟨by rfl, ?_⟩) (by assumption) ?_
          rotate_left
          · (intro w' hSw; go_simp; try with_reducible rfl)
          try simp only [Act.put, put8]
          refine wpAnyH_done (by kernel_rfl) ?_ _
          try simp only [Act.put, put8]
          have HC3 := Lib.hid hHeld
          clear hHeld hc3' hbb hc3 x0 x1 y0 y1 hneq
          cases bb with
          | true =>
            go_wp2
            go_roundw
            case rel => exact ⟨i + 1, by omega, by go_num, HCH.out.trans0 HC3.out⟩
            case measure => simp [intOf]; omega
          | false =>
            go_wp2
            go_ret
            exact ⟨false, rfl, fun e => HBB.out (HEQ.out e), HCH.out.trans0 HC3.out⟩
      · go_wp2
        go_ret
        exact ⟨true, rfl, fun _ => rfl, HCH.out⟩
  · have h1 : ((n : Int) == m) = false := beq_eq_false_iff_ne.2 (by omega)
    have h2 : ((n : Int) != m) = true := by rw [bne, h1]; rfl
    have HN := Lib.hid hnm
    clear hnm
    go_wp2
    go_ret
    refine ⟨false, rfl, fun e => ?_, Chg.refl _ _⟩
    have := congrArg List.length e
    simp only [fval8, List.length_map] at this
    have h3 := HLX.out; have h4 := HLY.out
    exact absurd (by omega) HN.out

set_option maxRecDepth 100000 in
set_option maxHeartbeats 3200000 in
theorem same8_any (A : Option Addr) (n c : Nat) (xs : List DM) (B : Option Addr) (m d : Nat) (ys : List DM) (w : World) (ha : DirsR w A n c xs) (hb : DirsR w B m d ys) (hn : n ≤ 1073741824) (hfn : ∀ x ∈ xs, x.1.n ≤ 1073741824) :
    Calls Tryz.prog 16 #[.slice A n c, .slice B m d] w (SaysIf (dval8 xs = dval8 ys) w) := by
  have hlx : xs.length = n := by have := ha.row.nsl; simpa [dnsl] using this
  have hly : ys.length = m := by have := hb.row.nsl; simpa [dnsl] using this
  have HA := Lib.hid ha
  have HB := Lib.hid hb
  have HFN := Lib.hid hfn
  have HLX := Lib.hid hlx
  have HLY := Lib.hid hly
  clear ha hb hlx hly hfn
  go_enter Tryz.func16, Tryz.ntmps16
  by_cases hnm : n = m
  · subst hnm
    go_wp2
    go_loopw [5] (fun q wr => ∃ i : Nat, i ≤ n ∧ q = .int .i64 i ∧ Chg [] w wr) (fun q _ => n - (intOf q).toNat)
    case atStart => exact ⟨0, Nat.zero_le _, rfl, Chg.refl _ _⟩
    case round =>
      obtain ⟨i, hi, rfl, hch⟩ := hrel
      have HCH := Lib.hid hch
      clear hch
      by_cases hlt : i < n
      · have hlt' : (i : Int) < n := by omega
        obtain ⟨x, hx⟩ : ∃ x, xs[i]? = some x := ⟨_, List.getElem?_eq_getElem (by have := HLX.out; omega)⟩
        obtain ⟨y, hy⟩ : ∃ y, ys[i]? = some y := ⟨_, List.getElem?_eq_getElem (by have := HLY.out; omega)⟩
        obtain ⟨ad, rfl, hat⟩ := (HA.out.chg0 HCH.out).row.ns (j := i) (x := x.1) (by unfold dnsl; rw [List.getElem?_map, hx]; rfl)
        obtain ⟨bd, rfl, hbt⟩ := (HB.out.chg0 HCH.out).row.ns (j := i) (x := y.1) (by unfold dnsl; rw [List.getElem?_map, hy]; rfl)
        have x0 := hat.c0
        have x1 := hat.c1
        have y0 := hbt.c0
        have y1 := hbt.c1
        have HX := Lib.hid hx
        have HY := Lib.hid hy
        obtain ⟨cb, hneq⟩ : ∃ cb, (x.1.nm.toList == y.1.nm.toList) = cb := ⟨_, rfl⟩
        have HCB : Hid (cb = false → x.1.nm ≠ y.1.nm) := Lib.hid (fun h e => by rw [e] at hneq; rw [h] at hneq; simp at hneq)
        have HCALL : Hid (∀ w', Chg [] wr w' → Calls Tryz.prog 52 #[.slice x.1.A x.1.n x.1.c, .slice y.1.A y.1.n y.1.c] w' (SaysIf (fval8 x.2 = fval8 y.2) w')) := Lib.hid (fun w' hc => samef_any _ _ _ _ _ _ _ _ w' (((HA.out.chg0 HCH.out).fil x (List.mem_of_getElem? HX.out)).chg0 hc) (((HB.out.chg0 HCH.out).fil y (List.mem_of_getElem? HY.out)).chg0 hc) (HFN.out x (List.mem_of_getElem? HX.out)))
        have HNE : Hid (cb = false → dval8 xs ≠ dval8 ys) := Lib.hid (fun h e => HCB.out h (by
          have := congrArg (fun l => l[i]?.map Prod.fst) e
          simp only [dval8, List.getElem?_map, HX.out, HY.out, Option.map_some, Option.some.injEq] at this
          exact this))
        have HEQ : Hid (dval8 xs = dval8 ys → fval8 x.2 = fval8 y.2) := Lib.hid (fun e => by
          have := congrArg (fun l => l[i]?.map Prod.snd) e
          simp only [dval8, List.getElem?_map, HX.out, HY.out, Option.map_some, Option.some.injEq] at this
          exact this)
        clear hx hy hat hbt
        cases cb with
        | false =>
          go_wp2
          refine wp_region_held_drew (S := fun w' => Chg [] wr w') (by kernel_rfl) ((Chg.refl _ _).drew) (fun hHeld => ?_)
          refine wpAnyH_take (i := 0) (v := ?_) rfl (by kernel_rfl) (by kernel_rfl) (by kernel_rfl) (fun _ _ _ h => h) (Or.inl ⟨by rfl, ?_⟩) (by assumption) ?_
          rotate_left
          · (intro w' hSw; go_simp; try with_reducible rfl)
          try simp only [Act.put, put8]
          refine wpAnyH_take (i := 1) (v := ?_) rfl (by kernel_rfl) (by kernel_rfl) (by kernel_rfl) (fun _ _ _ h => h) (Or.inl ⟨by rfl, ?_⟩) (by assumption) ?_
          rotate_left
          · (intro w' hSw; go_simp; try with_reducible rfl)
          try simp only [Act.put, put8]
          refine wpAnyH_take (i := 2) (v := ?_) rfl (by kernel_rfl) (by kernel_rfl) (by kernel_rfl) (fun _ _ _ h => h) (Or.inl ⟨by rfl, ?_⟩) (by assumption) ?_
          rotate_left
          · (intro w' hSw; go_simp; try with_reducible rfl)
          try simp only [Act.put, put8]
          refine wpAnyH_take (i := 3) (v := ?_) rfl (by kernel_rfl) (by kernel_rfl) (by kernel_rfl) (fun _ _ _ h => h) (Or.inl ⟨by rfl, ?_⟩) (by assumption) ?_
          rotate_left
          · (intro w' hSw; go_simp; try with_reducible rfl)
          try simp only [Act.put, put8]
          refine wpAnyH_take (i := 4) (v := ?_) rfl (by kernel_rfl) (by kernel_rfl) (by kernel_rfl) (fun _ _ _ h => h) (Or.inl ⟨by rfl, ?_⟩) (by assumption) ?_
          rotate_left
          · (intro w' hSw; have y := hSw.cell x0 List.not_mem_nil; go_simp; try with_reducible rfl)
          try simp only [Act.put, put8]
          refine wpAnyH_take (i := 5) (v := ?_) rfl (by kernel_rfl) (by kernel_rfl) (by kernel_rfl) (fun _ _ _ h => h) (Or.inl ⟨by rfl, ?_⟩) (by assumption) ?_
          rotate_left
          · (intro w' hSw; go_simp; try with_reducible rfl)
          try simp only [Act.put, put8]
          refine wpAnyH_take (i := 6) (v := ?_) rfl (by kernel_rfl) (by kernel_rfl) (by kernel_rfl) (fun _ _ _ h => h) (Or.inl ⟨by rfl, ?_⟩) (by assumption) ?_
          rotate_left
          · (intro w' hSw; go_simp; try with_reducible rfl)
          try simp only [Act.put, put8]
          refine wpAnyH_take (i := 7) (v := ?_) rfl (by kernel_rfl) (by kernel_rfl) (by kernel_rfl) (fun _ _ _ h => h) (Or.inl ⟨by rfl, ?_⟩) (by assumption) ?_
          rotate_left
          · (intro w' hSw; go_simp; try with_reducible rfl)
          try simp only [Act.put, put8]
          refine wpAnyH_take (i := 8) (v := ?_) rfl (by kernel_rfl) (by kernel_rfl) (by kernel_rfl) (fun _ _ _ h => h) (Or.inl ⟨by rfl, ?_⟩) (by assumption) ?_
          rotate_left
          · (intro w' hSw; go_simp; try with_reducible rfl)
          try simp only [Act.put, put8]
          refine wpAnyH_take (i := 9) (v := ?_) rfl (by kernel_rfl) (by kernel_rfl) (by kernel_rfl) (fun _ _ _ h => h) (Or.inl ⟨by rfl, ?_⟩) (by assumption) ?_
          rotate_left
          · (intro w' hSw; have y := hSw.cell y0 List.not_mem_nil; go_simp; try with_reducible rfl)
          try simp only [Act.put, put8]
          refine wpAnyH_take (i := 10) (v := ?_) rfl (by kernel_rfl) (by kernel_rfl) (by kernel_rfl) (fun _ _ _ h => h) (Or.inl ⟨by rfl, ?_⟩) (by assumption) ?_
          rotate_left
          · (intro w' hSw; go_simp; try with_reducible rfl)
          try simp only [Act.put, put8]
          refine wpAnyH_take (i := 11) (v := ?_) rfl (by kernel_rfl) (by kernel_rfl) (by kernel_rfl) (fun _ _ _ h => h) (Or.inl ⟨by rfl, ?_⟩) (by assumption) ?_
          rotate_left
          · (intro w' hSw; go_simp; try with_reducible rfl)
          try simp only [Act.put, put8]
          refine wpAnyH_take (i := 12) (v := undef) rfl (by kernel_rfl) (by kernel_rfl) (by kernel_rfl) (fun _ _ _ h => h) (Or.inr ⟨by rfl, rfl⟩) (by assumption) ?_
          try simp only [Act.put, put8]
          refine wpAnyH_take (i := 13) (v := undef) rfl (by kernel_rfl) (by kernel_rfl) (by kernel_rfl) (fun _ _ _ h => h) (Or.inr ⟨by rfl, rfl⟩) (by assumption) ?_
          try simp only [Act.put, put8]
          refine wpAnyH_take (i := 14) (v := undef) rfl (by kernel_rfl) (by kernel_rfl) (by kernel_rfl) (fun _ _ _ h => h) (Or.inr ⟨by rfl, rfl⟩) (by assumption) ?_
          try simp only [Act.put, put8]
          refine wpAnyH_take (i := 15) (v := undef) rfl (by kernel_rfl) (by kernel_rfl) (by kernel_rfl) (fun _ _ _ h => h) (Or.inr ⟨by rfl, rfl⟩) (by assumption) ?_
          try simp only [Act.put, put8]
          refine wpAnyH_take (i := 16) (v := undef) rfl (by kernel_rfl) (by kernel_rfl) (by kernel_rfl) (fun _ _ _ h => h) (Or.inr ⟨by rfl, rfl⟩) (by assumption) ?_
          try simp only [Act.put, put8]
          refine wpAnyH_take (i := 17) (v := undef) rfl (by kernel_rfl) (by kernel_rfl) (by kernel_rfl) (fun _ _ _ h => h) (Or.inr ⟨by rfl, rfl⟩) (by assumption) ?_
          try simp only [Act.put, put8]
          refine wpAnyH_take (i := 18) (v := undef) rfl (by kernel_rfl) (by kernel_rfl) (by kernel_rfl) (fun _ _ _ h => h) (Or.inr ⟨by rfl, rfl⟩) (by assumption) ?_
          try simp only [Act.put, put8]
          refine wpAnyH_take (i := 19) (v := undef) rfl (by kernel_rfl) (by kernel_rfl) (by kernel_rfl) (fun _ _ _ h => h) (Or.inr ⟨by rfl, rfl⟩) (by assumption) ?_
          try simp only [Act.put, put8]
          refine wpAnyH_take (i := 20) (v := undef) rfl (by kernel_rfl) (by kernel_rfl) (by kernel_rfl) (fun _ _ _ h => h) (Or.inr ⟨by rfl, rfl⟩) (by assumption) ?_
          try simp only [Act.put, put8]
          refine wpAnyH_take (i := 21) (v := undef) rfl (by kernel_rfl) (by kernel_rfl) (by kernel_rfl) (fun _ _ _ h => h) (Or.inr ⟨by rfl, rfl⟩) (by assumption) ?_
          try simp only [Act.put, put8]
          refine wpAnyH_ready (rs := [22]) (by kernel_rfl) (by simp) ?_
          refine AllReadyH.cons rfl (fun K hK => ?_) (AllReadyH.nil)
          go_simp
          refine hK.out _ _ (hHeld) (fun hHeld => ?_)
          try simp only [Act.put, put8]
          clear hK K
          refine wpAnyH_take (i := 23) (v := undef) rfl (by kernel_rfl) (by kernel_rfl) (by kernel_rfl) (fun _ _ _ h => h) (Or.inr ⟨by rfl, rfl⟩) (by assumption) ?_
          try simp only [Act.put, put8]
          refine wpAnyH_take (i := 24) (v := ?_) rfl (by kernel_rfl) (by kernel_rfl) (by kernel_rfl) (fun _ _ _ h => h) (Or.inl ⟨by rfl, ?_⟩) (by assumption) ?_
          rotate_left
          · (intro w' hSw; go_simp; try with_reducible rfl)
          try simp only [Act.put, put8]
          refine wpAnyH_done (by kernel_rfl) ?_ _
          try simp only [Act.put, put8]
          clear hHeld x0 x1 y0 y1 hneq
          go_wp2
          go_ret
          exact ⟨false, rfl, fun e => absurd e (HNE.out (by first | rfl | trivial)), HCH.out.drew⟩
        | true =>
          go_wp2
          refine wp_region_held_drew (S := fun w' => Chg [] wr w') (by kernel_rfl) ((Chg.refl _ _).drew) (fun hHeld => ?_)
          refine wpAnyH_take (i := 0) (v := ?_) rfl (by kernel_rfl) (by kernel_rfl) (by kernel_rfl) (fun _ _ _ h => h) (Or.inl ⟨by rfl, ?_⟩) (by assumption) ?_
          rotate_left
          · (intro w' hSw; go_simp; try with_reducible rfl)
          try simp only [Act.put, put8]
          refine wpAnyH_take (i := 1) (v := ?_) rfl (by kernel_rfl) (by kernel_rfl) (by kernel_rfl) (fun _ _ _ h => h) (Or.inl ⟨by rfl, ?_⟩) (by assumption) ?_
          rotate_left
          · (intro w' hSw; go_simp; try with_reducible rfl)
          try simp only [Act.put, put8]
          refine wpAnyH_take (i := 2) (v := ?_) rfl (by kernel_rfl) (by kernel_rfl) (by kernel_rfl) (fun _ _ _ h => h) (Or.inl ⟨by rfl, ?_⟩) (by assumption) ?_
          rotate_left
          · (intro w' hSw; go_simp; try with_reducible rfl)
          try simp only [Act.put, put8]
          refine wpAnyH_take (i := 3) (v := ?_) rfl (by kernel_rfl) (by kernel_rfl) (by kernel_rfl) (fun _ _ _ h => h) (Or.inl ⟨by rfl, ?_⟩) (by assumption) ?_
          rotate_left
          · (intro w' hSw; go_simp; try with_reducible rfl)
          try simp only [Act.put, put8]
          refine wpAnyH_take (i := 4) (v := ?_) rfl (by kernel_rfl) (by kernel_rfl) (by kernel_rfl) (fun _ _ _ h => h) (Or.inl ⟨by rfl, ?_⟩) (by assumption) ?_
          rotate_left
          · (intro w' hSw; have y := hSw.cell x0 List.not_mem_nil; go_simp; try with_reducible rfl)
          try simp only [Act.put, put8]
          refine wpAnyH_take (i := 5) (v := ?_) rfl (by kernel_rfl) (by kernel_rfl) (by kernel_rfl) (fun _ _ _ h => h) (Or.inl ⟨by rfl, ?_⟩) (by assumption) ?_
          rotate_left
          · (intro w' hSw; go_simp; try with_reducible rfl)
          try simp only [Act.put, put8]
          refine wpAnyH_take (i := 6) (v := ?_) rfl (by kernel_rfl) (by kernel_rfl) (by kernel_rfl) (fun _ _ _ h => h) (Or.inl ⟨by rfl, ?_⟩) (by assumption) ?_
          rotate_left
          · (intro w' hSw; go_simp; try with_reducible rfl)
          try simp only [Act.put, put8]
          refine wpAnyH_take (i := 7) (v := ?_) rfl (by kernel_rfl) (by kernel_rfl) (by kernel_rfl) (fun _ _ _ h => h) (Or.inl ⟨by rfl, ?_⟩) (by assumption) ?_
          rotate_left
          · (intro w' hSw; go_simp; try with_reducible rfl)
          try simp only [Act.put, put8]
          refine wpAnyH_take (i := 8) (v := ?_) rfl (by kernel_rfl) (by kernel_rfl) (by kernel_rfl) (fun _ _ _ h => h) (Or.inl ⟨by rfl, ?_⟩) (by assumption) ?_
          rotate_left
          · (intro w' hSw; go_simp; try with_reducible rfl)
          try simp only [Act.put, put8]
          refine wpAnyH_take (i := 9) (v := ?_) rfl (by kernel_rfl) (by kernel_rfl) (by kernel_rfl) (fun _ _ _ h => h) (Or.inl ⟨by rfl, ?_⟩) (by assumption) ?_
          rotate_left
          · (intro w' hSw; have y := hSw.cell y0 List.not_mem_nil; go_simp; try with_reducible rfl)
          try simp only [Act.put, put8]
          refine wpAnyH_take (i := 10) (v := ?_) rfl (by kernel_rfl) (by kernel_rfl) (by kernel_rfl) (fun _ _ _ h => h) (Or.inl ⟨by rfl, ?_⟩) (by assumption) ?_
          rotate_left
          · (intro w' hSw; go_simp; try with_reducible rfl)
          try simp only [Act.put, put8]
          refine wpAnyH_take (i := 11) (v := ?_) rfl (by kernel_rfl) (by kernel_rfl) (by kernel_rfl) (fun _ _ _ h => h) (Or.inl ⟨by rfl, ?_⟩) (by assumption) ?_
          rotate_left
          · (intro w' hSw; go_simp; try with_reducible rfl)
          try simp only [Act.put, put8]
          refine wpAnyH_take (i := 12) (v := ?_) rfl (by kernel_rfl) (by kernel_rfl) (by kernel_rfl) (fun _ _ _ h => h) (Or.inl ⟨by rfl, ?_⟩) (by assumption) ?_
          rotate_left
          · (intro w' hSw; go_simp; try with_reducible rfl)
          try simp only [Act.put, put8]
          refine wpAnyH_take (i := 13) (v := ?_) rfl (by kernel_rfl) (by kernel_rfl) (by kernel_rfl) (fun _ _ _ h => h) (Or.inl ⟨by rfl, ?_⟩) (by assumption) ?_
          rotate_left
          · (intro w' hSw; go_simp; try with_reducible rfl)
          try simp only [Act.put, put8]
          refine wpAnyH_take (i := 14) (v := ?_) rfl (by kernel_rfl) (by kernel_rfl) (by kernel_rfl) (fun _ _ _ h => h) (Or.inl ⟨by rfl, ?_⟩) (by assumption) ?_
          rotate_left
          · (intro w' hSw; go_simp; try with_reducible rfl)
          try simp only [Act.put, put8]
          refine wpAnyH_take (i := 15) (v := ?_) rfl (by kernel_rfl) (by kernel_rfl) (by kernel_rfl) (fun _ _ _ h => h) (Or.inl ⟨by rfl, ?_⟩) (by assumption) ?_
          rotate_left
          · (intro w' hSw; go_simp; try with_reducible rfl)
          try simp only [Act.put, put8]
          refine wpAnyH_take (i := 16) (v := ?_) rfl (by kernel_rfl) (by kernel_rfl) (by kernel_rfl) (fun _ _ _ h => h) (Or.inl ⟨by rfl, ?_⟩) (by assumption) ?_
          rotate_left
          · (intro w' hSw; have y := hSw.cell x1 List.not_mem_nil; go_simp; try with_reducible rfl)
          try simp only [Act.put, put8]
          refine wpAnyH_take (i := 17) (v := ?_) rfl (by kernel_rfl) (by kernel_rfl) (by kernel_rfl) (fun _ _ _ h => h) (Or.inl ⟨by rfl, ?_⟩) (by assumption) ?_
          rotate_left
          · (intro w' hSw; go_simp; try with_reducible rfl)
          try simp only [Act.put, put8]
          refine wpAnyH_take (i := 18) (v := ?_) rfl (by kernel_rfl) (by kernel_rfl) (by kernel_rfl) (fun _ _ _ h => h) (Or.inl ⟨by rfl, ?_⟩) (by assumption) ?_
          rotate_left
          · (intro w' hSw; go_simp; try with_reducible rfl)
          try simp only [Act.put, put8]
          refine wpAnyH_take (i := 19) (v := ?_) rfl (by kernel_rfl) (by kernel_rfl) (by kernel_rfl) (fun _ _ _ h => h) (Or.inl ⟨by rfl, ?_⟩) (by assumption) ?_
          rotate_left
          · (intro w' hSw; go_simp; try with_reducible rfl)
          try simp only [Act.put, put8]
          refine wpAnyH_take (i := 20) (v := ?_) rfl (by kernel_rfl) (by kernel_rfl) (by kernel_rfl) (fun _ _ _ h => h) (Or.inl ⟨by rfl, ?_⟩) (by assumption) ?_
          rotate_left
          · (intro w' hSw; go_simp; try with_reducible rfl)
          try simp only [Act.put, put8]
          refine wpAnyH_take (i := 21) (v := ?_) rfl (by kernel_rfl) (by kernel_rfl) (by kernel_rfl) (fun _ _ _ h => h) (Or.inl ⟨by rfl, ?_⟩) (by assumption) ?_
          rotate_left
          · (intro w' hSw; have y := hSw.cell y1 List.not_mem_nil; go_simp; try with_reducible rfl)
          try simp only [Act.put, put8]
          refine wpAnyH_ready (rs := [22]) (by kernel_rfl) (by simp) ?_
          refine AllReadyH.cons rfl (fun K hK => ?_) (AllReadyH.nil)
          go_simp
          refine (HCALL.out _ hHeld).mono ?_
          rintro e w3 ⟨bb, rfl, hbb, hc3⟩
          have hc3' := hHeld.trans0 hc3
          have HBB := Lib.hid hbb
          refine hK.out _ _ (hHeld.trans0 hc3) (fun hHeld => ?_)
          try simp only [Act.put, put8]
          clear hK K
          refine wpAnyH_take (i := 23) (v := ?_) rfl (by kernel_rfl) (by kernel_rfl) (by kernel_rfl) (fun _ _ _ h => h) (Or.inl ⟨by rfl, ?_⟩) (by assumption) ?_
          rotate_left
          · (intro w' hSw; go_simp; try with_reducible rfl)
          try simp only [Act.put, put8]
          refine wpAnyH_take (i := 24) (v := ?_) rfl (by kernel_rfl) (by kernel_rfl) (by kernel_rfl) (fun _ _ _ h => h) (Or.inl ⟨by rfl, ?_⟩) (by assumption) ?_
          rotate_left
          · (intro w' hSw; go_simp; try with_reducible rfl)
          try simp only [Act.put, put8]
          refine wpAnyH_done (by kernel_rfl) ?_ _
          try simp only [Act.put, put8]
          have HC3 := Lib.hid hHeld
          clear hHeld hc3' hbb hc3 x0 x1 y0 y1 hneq
          cases bb with
          | true =>
            go_wp2
            go_roundw
            case rel => exact ⟨i + 1, by omega, by go_num, HCH.out.trans0 HC3.out⟩
            case measure => simp [intOf]; omega
          | false =>
            go_wp2
            go_ret
            exact ⟨false, rfl, fun e => HBB.out (HEQ.out e), HCH.out.trans0 HC3.out⟩
      · go_wp2
        go_ret
        exact ⟨true, rfl, fun _ => rfl, HCH.out⟩
  · have h1 : ((n : Int) == m) = false := beq_eq_false_iff_ne.2 (by omega)
    have h2 : ((n : Int) != m) = true := by rw [bne, h1]; rfl
    have HN := Lib.hid hnm
    clear hnm
    go_wp2
    go_ret
    refine ⟨false, rfl, fun e => ?_, Chg.refl _ _⟩
    have := congrArg List.length e
    simp only [dval8, List.length_map] at this
    have h3 := HLX.out; have h4 := HLY.out
    exact absurd (by omega) HN.out

/-- files are told, in new memory -/
def NewFiles (w : World) (fs : List (ByteArray × List Int)) (e : Ending) (w' : World) : Prop :=
  ∃ A c gs, e = .returned (.slice A fs.length c) ∧ FilesO w' A fs.length c gs ∧ fval8 gs = fs ∧ Chg [] w w' ∧ ∀ k ∈ bo A ++ fblk gs, w.heap.size ≤ k

set_option maxRecDepth 100000 in
set_option maxHeartbeats 3200000 in
theorem rcopyf_any (A : Option Addr) (n c : Nat) (xs : List FM) (w : World) (ha : FilesR w A n c xs) (hn : n ≤ 1073741824) (hfn : ∀ x ∈ xs, x.1.n ≤ 1073741824) :
    Calls Tryz.prog 74 #[.slice A n c] w (NewFiles w (fval8 xs)) := by
  have hlx : xs.length = n := by have := ha.row.nsl; simpa [fnsl] using this
  have HA := Lib.hid ha
  have HLX := Lib.hid hlx
  have HFN := Lib.hid hfn
  clear ha hlx hfn
  go_enter Tryz.func74, Tryz.ntmps74
  go_wp2
  go_loopw [3, 4] (fun o q wr => ∃ (i : Nat) (A' : Option Addr) (c' : Nat) (zs : List FM), i ≤ n ∧ q = .int .i64 i ∧ o = .slice A' i c' ∧ FilesO wr A' i c' zs ∧ fval8 zs = fval8 (xs.take i) ∧ Chg [] w wr ∧ ∀ k ∈ bo A' ++ fblk zs, w.heap.size ≤ k) (fun _ q _ => n - (intOf q).toNat)
  case atStart => exact ⟨0, _, 0, [], Nat.zero_le _, rfl, rfl, ⟨Own.lit w 70 2 #[] 0 (by decide) rfl, by simp, by simp [fblk]⟩, rfl, (Chg.refl _ _).alloc _, by simp [fblk]⟩
  case round =>
    obtain ⟨i, A', c', zs, hi, rfl, rfl, hz, hval, hch, hnw⟩ := hrel
    have HZ := Lib.hid hz
    have HVAL := Lib.hid hval
    have HCH := Lib.hid hch
    have HNW := Lib.hid hnw
    clear hz hval hch hnw
    by_cases hlt : i < n
    · have hlt' : (i : Int) < n := by omega
      obtain ⟨x, hx⟩ : ∃ x, xs[i]? = some x := ⟨_, List.getElem?_eq_getElem (by have := HLX.out; omega)⟩
      obtain ⟨ad, rfl, hat⟩ := HA.out.row.ns (j := i) (x := x.1) (by unfold fnsl; rw [List.getElem?_map, hx]; rfl)
      have HNB : Hid (ad.block ∉ bo A') := Lib.hid (fun hm => by
        have h1 := World.block_lt_of_cell? w _ hat.c0
        rw [add_block] at h1
        have h2 := HNW.out _ (List.mem_append_left _ hm)
        omega)
      have hat2 := hat.chg HCH.out List.not_mem_nil
      have x0 := hat2.c0
      have x1 := hat2.c1
      have HX := Lib.hid hx
      have HNN : Hid (∀ k ∈ bo A', w.heap.size ≤ k) := Lib.hid (fun k hk => HNW.out k (List.mem_append_left _ hk))
      clear hx hat hat2
      go_wp2
      refine wp_region_held_drew (S := fun w' => Chg (bo A') wr w') (by kernel_rfl) ((Chg.refl _ _).drew) (fun hHeld => ?_)
      refine wpAnyH_take (i := 0) (v := ?_) rfl (by kernel_rfl) (by kernel_rfl) (by kernel_rfl) (fun _ _ _ h => h) (Or.inl ⟨by rfl, ?_⟩) (by assumption) ?_
      rotate_left
      · (intro w' hSw; go_simp; try with_reducible rfl)
      try simp only [Act.put, put8]
      refine wpAnyH_take (i := 1) (v := ?_) rfl (by kernel_rfl) (by kernel_rfl) (by kernel_rfl) (fun _ _ _ h => h) (Or.inl ⟨by rfl, ?_⟩) (by assumption) ?_
      rotate_left
      · (intro w' hSw; go_simp; try with_reducible rfl)
      try simp only [Act.put, put8]
      refine wpAnyH_take (i := 2) (v := ?_) rfl (by kernel_rfl) (by kernel_rfl) (by kernel_rfl) (fun _ _ _ h => h) (Or.inl ⟨by rfl, ?_⟩) (by assumption) ?_
      rotate_left
      · (intro w' hSw; go_simp; try with_reducible rfl)
      try simp only [Act.put, put8]
      refine wpAnyH_take (i := 3) (v := ?_) rfl (by kernel_rfl) (by kernel_rfl) (by kernel_rfl) (fun _ _ _ h => h) (Or.inl ⟨by rfl, ?_⟩) (by assumption) ?_
      rotate_left
      · (intro w' hSw; go_simp; try with_reducible rfl)
      try simp only [Act.put, put8]
      refine wpAnyH_take (i := 4) (v := ?_) rfl (by kernel_rfl) (by kernel_rfl) (by kernel_rfl) (fun _ _ _ h => h) (Or.inl ⟨by rfl, ?_⟩) (by assumption) ?_
      rotate_left
      · (intro w' hSw; go_simp; try with_reducible rfl)
      try simp only [Act.put, put8]
      refine wpAnyH_take (i := 5) (v := ?_) rfl (by kernel_rfl) (by kernel_rfl) (by kernel_rfl) (fun _ _ _ h => h) (Or.inl ⟨by rfl, ?_⟩) (by assumption) ?_
      rotate_left
      · (intro w' hSw; have y := hSw.cell x0 (fun h => HNB.out (by simpa [add_block] using h)); go_simp; try with_reducible rfl)
      try simp only [Act.put, put8]
      refine wpAnyH_take (i := 6) (v := ?_) rfl (by kernel_rfl) (by kernel_rfl) (by kernel_rfl) (fun _ _ _ h => h) (Or.inl ⟨by rfl, ?_⟩) (by assumption) ?_
      rotate_left
      · (intro w' hSw; go_simp; try with_reducible rfl)
      try simp only [Act.put, put8]
      refine wpAnyH_take (i := 7) (v := ?_) rfl (by kernel_rfl) (by kernel_rfl) (by kernel_rfl) (fun _ _ _ h => h) (Or.inl ⟨by rfl, ?_⟩) (by assumption) ?_
      rotate_left
      · (intro w' hSw; go_simp; try with_reducible rfl)
      try simp only [Act.put, put8]
      refine wpAnyH_take (i := 8) (v := ?_) rfl (by kernel_rfl) (by kernel_rfl) (by kernel_rfl) (fun _ _ _ h => h) (Or.inl ⟨by rfl, ?_⟩) (by assumption) ?_
      rotate_left
      · (intro w' hSw; go_simp; try with_reducible rfl)
      try simp only [Act.put, put8]
      refine wpAnyH_take (i := 9) (v := ?_) rfl (by kernel_rfl) (by kernel_rfl) (by kernel_rfl) (fun _ _ _ h => h) (Or.inl ⟨by rfl, ?_⟩) (by assumption) ?_
      rotate_left
      · (intro w' hSw; go_simp; try with_reducible rfl)
      try simp only [Act.put, put8]
      refine wpAnyH_take (i := 10) (v := ?_) rfl (by kernel_rfl) (by kernel_rfl) (by kernel_rfl) (fun _ _ _ h => h) (Or.inl ⟨by rfl, ?_⟩) (by assumption) ?_
      rotate_left
      · (intro w' hSw; have y := hSw.cell x1 (fun h => HNB.out (by simpa [add_block] using h)); go_simp; try with_reducible rfl)
      try simp only [Act.put, put8]
      refine wpAnyH_ready (rs := [11]) (by kernel_rfl) (by simp) ?_
      refine AllReadyH.cons rfl (fun K hK => ?_) (AllReadyH.nil)
      go_simp
      refine (copy_any x.1.A x.1.n x.1.c x.2 _ (HFN.out x (List.mem_of_getElem? HX.out)) ((HA.out.dat x (List.mem_of_getElem? HX.out)).chg ((HCH.out.trans hHeld (fun x hx => .inr (HNN.out x hx)))) (fun _ _ => List.not_mem_nil))).mono ?_
      rintro e w4 ⟨BA, bc, rfl, hbo, hc4, hn4⟩
      have HBO := Lib.hid hbo
      have HC4 := Lib.hid hc4
      have HN4 := Lib.hid hn4
      have HCL : Hid (Chg [] wr (w4.alloc (.cells #[.string x.1.nm, .slice BA x.1.n bc] 70))) := Lib.hid ((((Chg.refl [] wr).drew).trans0 hc4).alloc _)
      have HOW : Hid (FilesO (w4.alloc (.cells #[.string x.1.nm, .slice BA x.1.n bc] 70)) A' i c' zs) := Lib.hid (HZ.out.chg HCL.out (fun _ _ => List.not_mem_nil))
      have hHc := hHeld.trans0 hc4
      clear hbo hn4
      refine hK.out _ _ (hHc) (fun hHeld => ?_)
      try simp only [Act.put, put8]
      clear hK K
      refine wpAnyH_take (i := 12) (v := ?_) rfl (by kernel_rfl) (by kernel_rfl) (by kernel_rfl) (fun _ _ _ h => h) (Or.inl ⟨by rfl, ?_⟩) (by assumption) ?_
      rotate_left
      · (intro w' hSw; go_simp; try with_reducible rfl)
      try simp only [Act.put, put8]
      refine wpAnyH_ready (rs := [13]) (by kernel_rfl) (by simp) ?_
      refine AllReadyH.cons rfl (fun K hK => ?_) (AllReadyH.nil)
      go_simp
      refine hK.out _ _ (hHeld.alloc _) (fun hHeld => ?_)
      try simp only [Act.put, put8]
      clear hK K
      refine wpAnyH_ready (rs := [14]) (by kernel_rfl) (by simp) ?_
      refine AllReadyH.cons rfl (fun K hK => ?_) (AllReadyH.nil)
      refine step_app rfl _ _ rfl etyFiles rfl HOW.out.row rfl (Own.lit w4 70 2 #[.string x.1.nm, .slice BA x.1.n bc] 1 (by decide) rfl).rd (nsv_one [⟨x.1.nm, BA, x.1.n, bc⟩]) (by unfold maxLen; omega) (by omega) ?_
      intro A2 c2 w6 hown6 hchg6 hnew6 _
      have HO6 := Lib.hid hown6
      have HC6 := Lib.hid hchg6
      have HN6 := Lib.hid hnew6
      have hH6 := hHeld.trans hchg6 (fun x hx => .inl hx)
      clear hown6 hchg6 hnew6
      refine hK.out _ _ (hH6) (fun hHeld => ?_)
      try simp only [Act.put, put8]
      clear hK K
      refine wpAnyH_take (i := 15) (v := ?_) rfl (by kernel_rfl) (by kernel_rfl) (by kernel_rfl) (fun _ _ _ h => h) (Or.inl ⟨by rfl, ?_⟩) (by assumption) ?_
      rotate_left
      · (intro w' hSw; go_simp; try with_reducible rfl)
      try simp only [Act.put, put8]
      refine wpAnyH_done (by kernel_rfl) ?_ _
      try simp only [Act.put, put8]
      clear hHeld hHc hH6 hc4 x0 x1
      go_wp2
      go_roundw
      case rel =>
        have hzl := HZ.out.lt
        have hwl : wr.heap.size ≤ w4.heap.size := HC4.out.size
        have hba : ∀ k ∈ bo BA, wr.heap.size ≤ k := fun k hk => HN4.out k hk
        have hO6 : Own w6 70 2 A2 (i + 1) c2 (nsv (fnsl (zs ++ [(⟨x.1.nm, BA, x.1.n, bc⟩, x.2)]))) := by
          have := HO6.out
          unfold fnsl at this ⊢
          rw [List.map_append, nsv_append]
          exact this
        have hz6 : FilesO w6 A2 (i + 1) c2 (zs ++ [(⟨x.1.nm, BA, x.1.n, bc⟩, x.2)]) := HOW.out.snoc HC6.out hO6 ((HBO.out.chg ((Chg.refl [] w4).alloc _) (fun _ _ => List.not_mem_nil)).chg HC6.out (fun k hk hm => by have h1 := hba k hk; have h2 := hzl k (List.mem_append_left _ hm); omega)) (fun k hk hm => by have h1 := hba k hk; have h2 := hzl k (List.mem_append_right _ hm); omega)
        refine ⟨i + 1, A2, c2, zs ++ [(⟨x.1.nm, BA, x.1.n, bc⟩, x.2)], by omega, by go_num, rfl, hz6, ?_, (HCH.out.trans0 HCL.out).trans HC6.out (fun x hx => .inr (HNW.out x (List.mem_append_left _ hx))), fun k hk => ?_⟩
        · rw [fval8_snoc', HVAL.out]
          unfold fval8
          rw [List.map_take, List.map_take, take_snoc _ i _ (show (xs.map _)[i]? = some _ by rw [List.getElem?_map, HX.out]; rfl)]
        · rw [fblk_snoc] at hk
          have h3 := HCH.out.size
          rcases List.mem_append.1 hk with hk | hk
          · rcases HN6.out k hk with h | h
            · exact HNW.out k (List.mem_append_left _ h)
            · simp at h; omega
          · rcases List.mem_append.1 hk with hk | hk
            · exact HNW.out k (List.mem_append_right _ hk)
            · have := hba k hk; omega
      case measure => simp [intOf]; omega
    · obtain rfl : i = n := by omega
      go_wp2
      go_ret
      refine ⟨A', c', zs, by rw [show (fval8 xs).length = i by rw [fval8, List.length_map]; exact HLX.out]; rfl, by rw [show (fval8 xs).length = i by rw [fval8, List.length_map]; exact HLX.out]; exact HZ.out, ?_, HCH.out, HNW.out⟩
      rw [HVAL.out, List.take_of_length_le (by rw [HLX.out]; exact Nat.le_refl _)]

set_option maxRecDepth 100000 in
set_option maxHeartbeats 3200000 in
theorem rcopy8_any (A : Option Addr) (n c : Nat) (xs : List DM) (w : World) (ha : DirsR w A n c xs) (hn : n ≤ 1073741824) (hfn : ∀ x ∈ xs, x.1.n ≤ 1073741824 ∧ ∀ f ∈ x.2, f.1.n ≤ 1073741824) :
    Calls Tryz.prog 30 #[.slice A n c] w (NewDsk w (dval8 xs)) := by
  have hlx : xs.length = n := by have := ha.row.nsl; simpa [dnsl] using this
  have HA := Lib.hid ha
  have HLX := Lib.hid hlx
  have HFN := Lib.hid hfn
  clear ha hlx hfn
  go_enter Tryz.func30, Tryz.ntmps30
  go_wp2
  go_loopw [3, 4] (fun o q wr => ∃ (i : Nat) (A' : Option Addr) (c' : Nat) (zs : List DM), i ≤ n ∧ q = .int .i64 i ∧ o = .slice A' i c' ∧ DirsO wr A' i c' zs ∧ dval8 zs = dval8 (xs.take i) ∧ Chg [] w wr ∧ ∀ k ∈ bo A' ++ dblk zs, w.heap.size ≤ k) (fun _ q _ => n - (intOf q).toNat)
  case atStart => exact ⟨0, _, 0, [], Nat.zero_le _, rfl, rfl, ⟨Own.lit w 67 2 #[] 0 (by decide) rfl, by simp, by simp [dblk]⟩, rfl, (Chg.refl _ _).alloc _, by simp [dblk]⟩
  case round =>
    obtain ⟨i, A', c', zs, hi, rfl, rfl, hz, hval, hch, hnw⟩ := hrel
    have HZ := Lib.hid hz
    have HVAL := Lib.hid hval
    have HCH := Lib.hid hch
    have HNW := Lib.hid hnw
    clear hz hval hch hnw
    by_cases hlt : i < n
    · have hlt' : (i : Int) < n := by omega
      obtain ⟨x, hx⟩ : ∃ x, xs[i]? = some x := ⟨_, List.getElem?_eq_getElem (by have := HLX.out; omega)⟩
      obtain ⟨ad, rfl, hat⟩ := HA.out.row.ns (j := i) (x := x.1) (by unfold dnsl; rw [List.getElem?_map, hx]; rfl)
      have HNB : Hid (ad.block ∉ bo A') := Lib.hid (fun hm => by
        have h1 := World.block_lt_of_cell? w _ hat.c0
        rw [add_block] at h1
        have h2 := HNW.out _ (List.mem_append_left _ hm)
        omega)
      have hat2 := hat.chg HCH.out List.not_mem_nil
      have x0 := hat2.c0
      have x1 := hat2.c1
      have HX := Lib.hid hx
      have HNN : Hid (∀ k ∈ bo A', w.heap.size ≤ k) := Lib.hid (fun k hk => HNW.out k (List.mem_append_left _ hk))
      clear hx hat hat2
      go_wp2
      refine wp_region_held_drew (S := fun w' => Chg (bo A') wr w') (by kernel_rfl) ((Chg.refl _ _).drew) (fun hHeld => ?_)
      refine wpAnyH_take (i := 0) (v := ?_) rfl (by kernel_rfl) (by kernel_rfl) (by kernel_rfl) (fun _ _ _ h => h) (Or.inl ⟨by rfl, ?_⟩) (by assumption) ?_
      rotate_left
      · (intro w' hSw; go_simp; try with_reducible rfl)
      try simp only [Act.put, put8]
      refine wpAnyH_take (i := 1) (v := ?_) rfl (by kernel_rfl) (by kernel_rfl) (by kernel_rfl) (fun _ _ _ h => h) (Or.inl ⟨by rfl, ?_⟩) (by assumption) ?_
      rotate_left
      · (intro w' hSw; go_simp; try with_reducible rfl)
      try simp only [Act.put, put8]
      refine wpAnyH_take (i := 2) (v := ?_) rfl (by kernel_rfl) (by kernel_rfl) (by kernel_rfl) (fun _ _ _ h => h) (Or.inl ⟨by rfl, ?_⟩) (by assumption) ?_
      rotate_left
      · (intro w' hSw; go_simp; try with_reducible rfl)
      try simp only [Act.put, put8]
      refine wpAnyH_take (i := 3) (v := ?_) rfl (by kernel_rfl) (by kernel_rfl) (by kernel_rfl) (fun _ _ _ h => h) (Or.inl ⟨by rfl, ?_⟩) (by assumption) ?_
      rotate_left
      · (intro w' hSw; go_simp; try with_reducible rfl)
      try simp only [Act.put, put8]
      refine wpAnyH_take (i := 4) (v := ?_) rfl (by kernel_rfl) (by kernel_rfl) (by kernel_rfl) (fun _ _ _ h => h) (Or.inl ⟨by rfl, ?_⟩) (by assumption) ?_
      rotate_left
      · (intro w' hSw; go_simp; try with_reducible rfl)
      try simp only [Act.put, put8]
      refine wpAnyH_take (i := 5) (v := ?_) rfl (by kernel_rfl) (by kernel_rfl) (by kernel_rfl) (fun _ _ _ h => h) (Or.inl ⟨by rfl, ?_⟩) (by assumption) ?_
      rotate_left
      · (intro w' hSw; have y := hSw.cell x0 (fun h => HNB.out (by simpa [add_block] using h)); go_simp; try with_reducible rfl)
      try simp only [Act.put, put8]
      refine wpAnyH_take (i := 6) (v := ?_) rfl (by kernel_rfl) (by kernel_rfl) (by kernel_rfl) (fun _ _ _ h => h) (Or.inl ⟨by rfl, ?_⟩) (by assumption) ?_
      rotate_left
      · (intro w' hSw; go_simp; try with_reducible rfl)
      try simp only [Act.put, put8]
      refine wpAnyH_take (i := 7) (v := ?_) rfl (by kernel_rfl) (by kernel_rfl) (by kernel_rfl) (fun _ _ _ h => h) (Or.inl ⟨by rfl, ?_⟩) (by assumption) ?_
      rotate_left
      · (intro w' hSw; go_simp; try with_reducible rfl)
      try simp only [Act.put, put8]
      refine wpAnyH_take (i := 8) (v := ?_) rfl (by kernel_rfl) (by kernel_rfl) (by kernel_rfl) (fun _ _ _ h => h) (Or.inl ⟨by rfl, ?_⟩) (by assumption) ?_
      rotate_left
      · (intro w' hSw; go_simp; try with_reducible rfl)
      try simp only [Act.put, put8]
      refine wpAnyH_take (i := 9) (v := ?_) rfl (by kernel_rfl) (by kernel_rfl) (by kernel_rfl) (fun _ _ _ h => h) (Or.inl ⟨by rfl, ?_⟩) (by assumption) ?_
      rotate_left
      · (intro w' hSw; go_simp; try with_reducible rfl)
      try simp only [Act.put, put8]
      refine wpAnyH_take (i := 10) (v := ?_) rfl (by kernel_rfl) (by kernel_rfl) (by kernel_rfl) (fun _ _ _ h => h) (Or.inl ⟨by rfl, ?_⟩) (by assumption) ?_
      rotate_left
      · (intro w' hSw; have y := hSw.cell x1 (fun h => HNB.out (by simpa [add_block] using h)); go_simp; try with_reducible rfl)
      try simp only [Act.put, put8]
      refine wpAnyH_ready (rs := [11]) (by kernel_rfl) (by simp) ?_
      refine AllReadyH.cons rfl (fun K hK => ?_) (AllReadyH.nil)
      go_simp
      refine (rcopyf_any x.1.A x.1.n x.1.c x.2 _ ((HA.out.fil x (List.mem_of_getElem? HX.out)).chg0 ((HCH.out.trans hHeld (fun x hx => .inr (HNN.out x hx))))) (HFN.out x (List.mem_of_getElem? HX.out)).1 (HFN.out x (List.mem_of_getElem? HX.out)).2).mono ?_
      rintro e w4 ⟨BA, bc, fs4, rfl, hbo, hv4, hc4, hn4⟩
      have HBO := Lib.hid hbo
      have HV4 := Lib.hid hv4
      have HC4 := Lib.hid hc4
      have HN4 := Lib.hid hn4
      have HCL : Hid (Chg [] wr (w4.alloc (.cells #[.string x.1.nm, .slice BA (fval8 x.2).length bc] 67))) := Lib.hid ((((Chg.refl [] wr).drew).trans0 hc4).alloc _)
      have HOW : Hid (DirsO (w4.alloc (.cells #[.string x.1.nm, .slice BA (fval8 x.2).length bc] 67)) A' i c' zs) := Lib.hid (HZ.out.chg HCL.out (fun _ _ => List.not_mem_nil))
      have hHc := hHeld.trans0 hc4
      clear hbo hn4 hv4
      refine hK.out _ _ (hHc) (fun hHeld => ?_)
      try simp only [Act.put, put8]
      clear hK K
      refine wpAnyH_take (i := 12) (v := ?_) rfl (by kernel_rfl) (by kernel_rfl) (by kernel_rfl) (fun _ _ _ h => h) (Or.inl ⟨by rfl, ?_⟩) (by assumption) ?_
      rotate_left
      · (intro w' hSw; go_simp; try with_reducible rfl)
      try simp only [Act.put, put8]
      refine wpAnyH_ready (rs := [13]) (by kernel_rfl) (by simp) ?_
      refine AllReadyH.cons rfl (fun K hK => ?_) (AllReadyH.nil)
      go_simp
      refine hK.out _ _ (hHeld.alloc _) (fun hHeld => ?_)
      try simp only [Act.put, put8]
      clear hK K
      refine wpAnyH_ready (rs := [14]) (by kernel_rfl) (by simp) ?_
      refine AllReadyH.cons rfl (fun K hK => ?_) (AllReadyH.nil)
      refine step_app rfl _ _ rfl etyDirs rfl HOW.out.row rfl (Own.lit w4 67 2 #[.string x.1.nm, .slice BA (fval8 x.2).length bc] 1 (by decide) rfl).rd (nsv_one [⟨x.1.nm, BA, (fval8 x.2).length, bc⟩]) (by unfold maxLen; omega) (by omega) ?_
      intro A2 c2 w6 hown6 hchg6 hnew6 _
      have HO6 := Lib.hid hown6
      have HC6 := Lib.hid hchg6
      have HN6 := Lib.hid hnew6
      have hH6 := hHeld.trans hchg6 (fun x hx => .inl hx)
      clear hown6 hchg6 hnew6
      refine hK.out _ _ (hH6) (fun hHeld => ?_)
      try simp only [Act.put, put8]
      clear hK K
      refine wpAnyH_take (i := 15) (v := ?_) rfl (by kernel_rfl) (by kernel_rfl) (by kernel_rfl) (fun _ _ _ h => h) (Or.inl ⟨by rfl, ?_⟩) (by assumption) ?_
      rotate_left
      · (intro w' hSw; go_simp; try with_reducible rfl)
      try simp only [Act.put, put8]
      refine wpAnyH_done (by kernel_rfl) ?_ _
      try simp only [Act.put, put8]
      clear hHeld hHc hH6 hc4 x0 x1
      go_wp2
      go_roundw
      case rel =>
        have hzl := HZ.out.lt
        have hwl : wr.heap.size ≤ w4.heap.size := HC4.out.size
        have hba : ∀ k ∈ bo BA ++ fblk fs4, wr.heap.size ≤ k := fun k hk => HN4.out k hk
        have hO6 : Own w6 67 2 A2 (i + 1) c2 (nsv (dnsl (zs ++ [(⟨x.1.nm, BA, (fval8 x.2).length, bc⟩, fs4)]))) := by
          have := HO6.out
          unfold dnsl at this ⊢
          rw [List.map_append, nsv_append]
          exact this
        have hz6 : DirsO w6 A2 (i + 1) c2 (zs ++ [(⟨x.1.nm, BA, (fval8 x.2).length, bc⟩, fs4)]) := HOW.out.snoc HC6.out hO6 ((HBO.out.chg ((Chg.refl [] w4).alloc _) (fun _ _ => List.not_mem_nil)).chg HC6.out (fun k hk hm => by have h1 := hba k hk; have h2 := hzl k (List.mem_append_left _ hm); omega)) (fun k hk hm => by have h1 := hba k hk; have h2 := hzl k (List.mem_append_right _ hm); omega)
        refine ⟨i + 1, A2, c2, zs ++ [(⟨x.1.nm, BA, (fval8 x.2).length, bc⟩, fs4)], by omega, by go_num, rfl, hz6, ?_, (HCH.out.trans0 HCL.out).trans HC6.out (fun x hx => .inr (HNW.out x (List.mem_append_left _ hx))), fun k hk => ?_⟩
        · rw [dval8_snoc', HVAL.out]
          unfold dval8
          rw [List.map_take, List.map_take, take_snoc _ i _ (show (xs.map _)[i]? = some _ by rw [List.getElem?_map, HX.out]; rfl)]
          simp only [HV4.out]
        · rw [dblk_snoc] at hk
          have h3 := HCH.out.size
          rcases List.mem_append.1 hk with hk | hk
          · rcases HN6.out k hk with h | h
            · exact HNW.out k (List.mem_append_left _ h)
            · simp at h; omega
          · rcases List.mem_append.1 hk with hk | hk
            · exact HNW.out k (List.mem_append_right _ hk)
            · have := hba k hk; omega
      case measure => simp [intOf]; omega
    · obtain rfl : i = n := by omega
      go_wp2
      go_ret
      refine ⟨A', i, c', zs, rfl, HZ.out, ?_, HCH.out, HNW.out⟩
      rw [HVAL.out, List.take_of_length_le (by rw [HLX.out]; exact Nat.le_refl _)]
end Go.Proofs.YtgomofeidghmiaaGreat
