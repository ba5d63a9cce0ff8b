/-
  Layer 08: the document's done: a row of directories with a change made.
-/
import Derived.Test.YtgomofeidghmiaaGreatVfZa
namespace Go.Proofs.YtgomofeidghmiaaGreat
open Go.RowKit

theorem TrIn.sub {Ks Ks2 : List Nat} {w w1 w2 : World} {T : Tr} {e : Ending} (h : TrIn Ks2 w1 T e w2) (hc : Chg [] w w1) (hs : ∀ k ∈ Ks2, k ∈ Ks ∨ (w.heap.size ≤ k ∧ k < w1.heap.size)) : TrIn Ks w T e w2 := by
  obtain ⟨A, c, rs, h1, h2, h3, h4, h5⟩ := h
  refine ⟨A, c, rs, h1, h2, h3, hc.trans0 h4, fun k hk => ?_⟩
  have z := hc.size
  have z4 := h4.size
  rcases h5 k hk with h | h
  · rcases hs k h with h | h
    · exact .inl h
    · exact .inr ⟨h.1, by omega⟩
  · exact .inr ⟨by omega, h.2⟩
theorem rs_at {rs : List RF} {i : Nat} {p : ByteArray × Fol} (h : (rval rs)[i]? = some p) : ∃ x, rs[i]? = some x ∧ x.1.nm = p.1 ∧ x.2 = p.2 := by
  unfold rval at h
  rw [List.getElem?_map] at h
  cases hr : rs[i]? with
  | none => rw [hr] at h; cases h
  | some x =>
    rw [hr] at h
    simp only [Option.map_some, Option.some.injEq] at h
    exact ⟨x, rfl, by rw [← h], by rw [← h]⟩
theorem len_without_le {α : Type} (t : List (ByteArray × α)) (k : ByteArray) : (without t k).length ≤ t.length := List.length_filter_le _ _

/-- a file more, in its place, half way -/
def FRel (n : ByteArray) (id : Nat) (F Z : Fol) (pb : Bool) (j : Nat) : Prop := Z ++ (if pb = true then F.drop j else withS n id (F.drop j)) = withS n id F
theorem withS_cons {α : Type} (k : ByteArray) (v : α) (p : ByteArray × α) (r : List (ByteArray × α)) : withS k v (p :: r) = if ltS k p.1 = true then (k, v) :: p :: r else p :: withS k v r := rfl
theorem FRel.next1 {n : ByteArray} {id : Nat} {x : ByteArray × Nat} {F Z : Fol} {j : Nat} (h : FRel n id F Z true j) (hx : F.drop j = x :: F.drop (j + 1)) : FRel n id F (Z ++ [x]) true (j + 1) := by
  unfold FRel at h ⊢
  rw [if_pos rfl] at h ⊢
  rw [← h, hx, List.append_assoc]
  rfl
theorem FRel.next2 {n : ByteArray} {id : Nat} {x : ByteArray × Nat} {F Z : Fol} {j : Nat} (h : FRel n id F Z false j) (hx : F.drop j = x :: F.drop (j + 1)) (hl : ltS n x.1 = false) : FRel n id F (Z ++ [x]) false (j + 1) := by
  unfold FRel at h ⊢
  rw [if_neg (by simp)] at h ⊢
  rw [← h, hx, withS_cons, hl, if_neg (by simp), List.append_assoc]
  rfl
theorem FRel.next3 {n : ByteArray} {id : Nat} {x : ByteArray × Nat} {F Z : Fol} {j : Nat} (h : FRel n id F Z false j) (hx : F.drop j = x :: F.drop (j + 1)) (hl : ltS n x.1 = true) : FRel n id F (Z ++ [(n, id)] ++ [x]) true (j + 1) := by
  unfold FRel at h ⊢
  rw [if_neg (by simp)] at h
  rw [if_pos rfl, ← h, hx, withS_cons, hl, if_pos rfl, List.append_assoc, List.append_assoc]
  rfl

set_option maxRecDepth 100000 in
set_option maxHeartbeats 6400000 in
theorem rdone_mkdir (A : Option Addr) (n c : Nat) (rs : List RF) (d : ByteArray) (w : World) (h : RTree w A n c rs) (hn : n ≤ 536870912) :
    Calls Tryz.prog 61 #[.slice A n c, .agg #[.int .i64 1, .string d, .string noS, .string noS, .int .i64 0]] w (TrIn (rblk rs) w (Chn.on (rval rs) (.mkdir d))) := by
  have HA0 := Lib.hid h
  have HLX : Hid (rs.length = n) := Lib.hid h.len
  clear h
  go_enter Tryz.func61, Tryz.ntmps61
  obtain ⟨sb, hsb⟩ : ∃ sb, w.heap.size = sb := ⟨_, rfl⟩
  obtain ⟨W, hW⟩ : ∃ W, w.alloc (.cells #[.int .i64 1, .string d, .string noS, .string noS, .int .i64 0] 118) = W := ⟨_, rfl⟩
  have hbk : Blk W sb 118 #[.int .i64 1, .string d, .string noS, .string noS, .int .i64 0] := by rw [← hW, ← hsb]; exact Blk.new w _ _
  have hcW : Chg [] w W := by rw [← hW]; exact (Chg.refl [] w).alloc _
  have HBK := Lib.hid hbk
  have HA := Lib.hid (HA0.out.chg0 hcW)
  have HCW := Lib.hid hcW
  have b0 := hbk.cell 0
  have b1 := hbk.cell 1
  have b2 := hbk.cell 2
  have b3 := hbk.cell 3
  have b4 := hbk.cell 4
  simp only [List.getElem?_toArray, List.getElem?_cons_succ, List.getElem?_cons_zero] at b0 b1 b2 b3 b4
  clear hbk hcW
  go_wp2_with fail
  refine (rat_any A n c rs d W HA.out (by omega)).mono ?_
  rintro e w1 ⟨rfl, rfl⟩
  obtain ⟨ai, hai⟩ : ∃ ai, atI d 0 (rval rs) = ai := ⟨_, rfl⟩
  rw [hai]
  clear hai
  go_wp2_with fail
  refine (rwith_any A n c rs d none 0 0 [] w1 HA.out (Rd.nil _ _) hn).mono ?_
  rintro e w2 ⟨A2, c2, rs2, rfl, h2, h3, h4, h5⟩
  have HR : Hid (TrIn (rblk rs) w (Chn.on (rval rs) (.mkdir d)) (.returned (.slice A2 (withS d [] (rval rs)).length c2)) w2) := Lib.hid (TrIn.sub (Ks2 := rblk rs ++ bo none) ⟨A2, c2, rs2, rfl, h2, h3, h4, h5⟩ HCW.out (fun k hk => .inl (by simpa using hk)))
  clear h2 h3 h4 h5
  obtain ⟨ln, hln⟩ : ∃ ln, (withS d [] (rval rs)).length = ln := ⟨_, rfl⟩
  rw [hln] at HR ⊢
  clear hln
  go_wp2
  go_ret
  exact HR.out

set_option maxRecDepth 100000 in
set_option maxHeartbeats 6400000 in
theorem rdone_rmdir (A : Option Addr) (n c : Nat) (rs : List RF) (d : ByteArray) (w : World) (h : RTree w A n c rs) (hn : n ≤ 536870912) :
    Calls Tryz.prog 61 #[.slice A n c, .agg #[.int .i64 5, .string d, .string noS, .string noS, .int .i64 0]] w (TrIn (rblk rs) w (Chn.on (rval rs) (.rmdir d))) := by
  have HA0 := Lib.hid h
  have HLX : Hid (rs.length = n) := Lib.hid h.len
  clear h
  go_enter Tryz.func61, Tryz.ntmps61
  obtain ⟨sb, hsb⟩ : ∃ sb, w.heap.size = sb := ⟨_, rfl⟩
  obtain ⟨W, hW⟩ : ∃ W, w.alloc (.cells #[.int .i64 5, .string d, .string noS, .string noS, .int .i64 0] 118) = W := ⟨_, rfl⟩
  have hbk : Blk W sb 118 #[.int .i64 5, .string d, .string noS, .string noS, .int .i64 0] := by rw [← hW, ← hsb]; exact Blk.new w _ _
  have hcW : Chg [] w W := by rw [← hW]; exact (Chg.refl [] w).alloc _
  have HBK := Lib.hid hbk
  have HA := Lib.hid (HA0.out.chg0 hcW)
  have HCW := Lib.hid hcW
  have b0 := hbk.cell 0
  have b1 := hbk.cell 1
  have b2 := hbk.cell 2
  have b3 := hbk.cell 3
  have b4 := hbk.cell 4
  simp only [List.getElem?_toArray, List.getElem?_cons_succ, List.getElem?_cons_zero] at b0 b1 b2 b3 b4
  clear hbk hcW
  go_wp2_with fail
  refine (rat_any A n c rs d W HA.out (by omega)).mono ?_
  rintro e w1 ⟨rfl, rfl⟩
  obtain ⟨ai, hai⟩ : ∃ ai, atI d 0 (rval rs) = ai := ⟨_, rfl⟩
  rw [hai]
  clear hai
  go_wp2_with fail
  refine (rwithout_any A n c rs d w1 HA.out (by omega)).mono ?_
  rintro e w2 ⟨A2, c2, rs2, rfl, h2, h3, h4, h5⟩
  have HR : Hid (TrIn (rblk rs) w (Chn.on (rval rs) (.rmdir d)) (.returned (.slice A2 (without (rval rs) d).length c2)) w2) := Lib.hid (TrIn.sub (Ks2 := rblk rs) ⟨A2, c2, rs2, rfl, h2, h3, h4, h5⟩ HCW.out (fun k hk => .inl hk))
  clear h2 h3 h4 h5
  obtain ⟨ln, hln⟩ : ∃ ln, (without (rval rs) d).length = ln := ⟨_, rfl⟩
  rw [hln] at HR ⊢
  clear hln
  go_wp2
  go_ret
  exact HR.out

set_option maxRecDepth 100000 in
set_option maxHeartbeats 6400000 in
theorem rdone_rename (A : Option Addr) (n c : Nat) (rs : List RF) (a b : ByteArray) (F : Fol) (w : World) (h : RTree w A n c rs) (hn : n ≤ 536870912) (hF : aget (rval rs) a = some F) :
    Calls Tryz.prog 61 #[.slice A n c, .agg #[.int .i64 3, .string a, .string noS, .string b, .int .i64 0]] w (TrIn (rblk rs) w (Chn.on (rval rs) (.rename a b))) := by
  have HON : Hid (Chn.on (rval rs) (.rename a b) = withS b F (without (without (rval rs) a) b)) := Lib.hid (by simp only [Chn.on, folOf, hF, Option.getD_some])
  have HA0 := Lib.hid h
  have HLX : Hid (rs.length = n) := Lib.hid h.len
  clear h
  go_enter Tryz.func61, Tryz.ntmps61
  obtain ⟨sb, hsb⟩ : ∃ sb, w.heap.size = sb := ⟨_, rfl⟩
  obtain ⟨W, hW⟩ : ∃ W, w.alloc (.cells #[.int .i64 3, .string a, .string noS, .string b, .int .i64 0] 118) = W := ⟨_, rfl⟩
  have hbk : Blk W sb 118 #[.int .i64 3, .string a, .string noS, .string b, .int .i64 0] := by rw [← hW, ← hsb]; exact Blk.new w _ _
  have hcW : Chg [] w W := by rw [← hW]; exact (Chg.refl [] w).alloc _
  have HBK := Lib.hid hbk
  have HA := Lib.hid (HA0.out.chg0 hcW)
  have HCW := Lib.hid hcW
  have b0 := hbk.cell 0
  have b1 := hbk.cell 1
  have b2 := hbk.cell 2
  have b3 := hbk.cell 3
  have b4 := hbk.cell 4
  simp only [List.getElem?_toArray, List.getElem?_cons_succ, List.getElem?_cons_zero] at b0 b1 b2 b3 b4
  clear hbk hcW
  go_wp2_with fail
  refine (rat_any A n c rs a W HA.out (by omega)).mono ?_
  rintro e w1 ⟨rfl, rfl⟩
  obtain ⟨i, hi1, hi2⟩ := atI_some hF 0
  rw [Nat.zero_add] at hi1
  rw [hi1]
  obtain ⟨x, hx, hxn, hxF⟩ := rs_at hi2
  obtain ⟨⟨xn, fA, fn, fc⟩, xF⟩ := x
  simp only at hxn hxF
  subst hxn
  subst hxF
  have hin : i < n := by have := (List.getElem?_eq_some_iff.1 hx).1; have := HLX.out; omega
  have hin' : (i : Int) < n := by omega
  have hi0 : (0 : Int) ≤ (i : Int) := by omega
  obtain ⟨ad, rfl, hat⟩ := HA.out.row.ns (rnsl_at hx)
  have x1 := hat.c1
  have HXM := Lib.hid (List.mem_of_getElem? hx)
  have HFR : Hid (Rd w1 2 fA fn fc (nmv xF)) := Lib.hid (HA.out.fil _ (List.mem_of_getElem? hx))
  have HAT := Lib.hid hat
  have HTL : Hid ((rval rs).length ≤ 536870912) := Lib.hid (by rw [rval_len]; have := HLX.out; omega)
  clear hi1 hi2 hx hat hF
  obtain ⟨db, hdb⟩ : ∃ db, w1.heap.size = db := ⟨_, rfl⟩
  obtain ⟨w2, hw2⟩ : ∃ w2, (w1.alloc (.cells #[.string b, .slice fA fn fc] 106)).drew = w2 := ⟨_, rfl⟩
  have hbd : Blk w2 db 106 #[.string b, .slice fA fn fc] := by rw [← hw2, ← hdb]; exact (Blk.new w1 _ _).drew
  have HC2 : Hid (Chg [] w1 w2) := Lib.hid (by rw [← hw2]; exact ((Chg.refl _ _).alloc _).drew)
  have d0 := hbd.cell 0
  have d1 := hbd.cell 1
  simp only [List.getElem?_toArray, List.getElem?_cons_succ, List.getElem?_cons_zero] at d0 d1
  have HA2 := Lib.hid (HA.out.chg0 HC2.out)
  have HFR2 := Lib.hid (HFR.out.chg HC2.out (fun _ _ => List.not_mem_nil))
  clear hbd
  go_wp2_with fail
  refine wp_region_held_drew (S := fun w' => Chg [] w1 w') (by kernel_rfl) ((Chg.refl _ _).drew) (fun hHeld => ?_)
  refine wpAnyH_take (i := 0) (v := ?_) rfl (by kernel_rfl) (by kernel_rfl) (by kernel_rfl) (fun _ _ _ h => h) (Or.inl ⟨by rfl, ?_⟩) (by assumption) ?_
  rotate_left
  · (intro w' hSw; go_simp; try with_reducible rfl)
  try simp only [Act.put, put8]
  refine wpAnyH_take (i := 1) (v := ?_) rfl (by kernel_rfl) (by kernel_rfl) (by kernel_rfl) (fun _ _ _ h => h) (Or.inl ⟨by rfl, ?_⟩) (by assumption) ?_
  rotate_left
  · (intro w' hSw; have y := hSw.cell b3 List.not_mem_nil; go_simp; try with_reducible rfl)
  try simp only [Act.put, put8]
  refine wpAnyH_take (i := 2) (v := ?_) rfl (by kernel_rfl) (by kernel_rfl) (by kernel_rfl) (fun _ _ _ h => h) (Or.inl ⟨by rfl, ?_⟩) (by assumption) ?_
  rotate_left
  · (intro w' hSw; go_simp; try with_reducible rfl)
  try simp only [Act.put, put8]
  refine wpAnyH_take (i := 3) (v := ?_) rfl (by kernel_rfl) (by kernel_rfl) (by kernel_rfl) (fun _ _ _ h => h) (Or.inl ⟨by rfl, ?_⟩) (by assumption) ?_
  rotate_left
  · (intro w' hSw; go_simp; try with_reducible rfl)
  try simp only [Act.put, put8]
  refine wpAnyH_take (i := 4) (v := ?_) rfl (by kernel_rfl) (by kernel_rfl) (by kernel_rfl) (fun _ _ _ h => h) (Or.inl ⟨by rfl, ?_⟩) (by assumption) ?_
  rotate_left
  · (intro w' hSw; go_simp; try with_reducible rfl)
  try simp only [Act.put, put8]
  refine wpAnyH_take (i := 5) (v := ?_) rfl (by kernel_rfl) (by kernel_rfl) (by kernel_rfl) (fun _ _ _ h => h) (Or.inl ⟨by rfl, ?_⟩) (by assumption) ?_
  rotate_left
  · (intro w' hSw; go_simp; try with_reducible rfl)
  try simp only [Act.put, put8]
  refine wpAnyH_take (i := 6) (v := ?_) rfl (by kernel_rfl) (by kernel_rfl) (by kernel_rfl) (fun _ _ _ h => h) (Or.inl ⟨by rfl, ?_⟩) (by assumption) ?_
  rotate_left
  · (intro w' hSw; have y := hSw.cell x1 List.not_mem_nil; go_simp; try with_reducible rfl)
  try simp only [Act.put, put8]
  refine wpAnyH_take (i := 7) (v := ?_) rfl (by kernel_rfl) (by kernel_rfl) (by kernel_rfl) (fun _ _ _ h => h) (Or.inl ⟨by rfl, ?_⟩) (by assumption) ?_
  rotate_left
  · (intro w' hSw; go_simp; try with_reducible rfl)
  try simp only [Act.put, put8]
  refine wpAnyH_ready (rs := [8]) (by kernel_rfl) (by simp) ?_
  refine AllReadyH.cons rfl (fun K hK => ?_) (AllReadyH.nil)
  go_simp
  have hHa := hHeld.alloc (.cells #[.string ByteArray.empty, .slice none 0 0] 106)
  refine hK.out _ _ (hHa) (fun hHeld => ?_)
  try simp only [Act.put, put8]
  clear hK K
  refine wpAnyH_ready (rs := [9]) (by kernel_rfl) (by simp) ?_
  refine AllReadyH.cons rfl (fun K hK => ?_) (AllReadyH.nil)
  go_simp
  refine hK.out _ _ (HC2.out) (fun hHeld => ?_)
  try simp only [Act.put, put8]
  clear hK K
  refine wpAnyH_done (by kernel_rfl) ?_ _
  try simp only [Act.put, put8]
  have b1' := HC2.out.cell b1 List.not_mem_nil
  have b3' := HC2.out.cell b3 List.not_mem_nil
  clear b0 b1 b2 b3 b4 x1 hHeld hHa hw2
  go_wp2_with fail
  refine wp_region_held_drew (S := fun w' => Chg [] w2 w') (by kernel_rfl) ((Chg.refl _ _).drew) (fun hHeld => ?_)
  refine wpAnyH_take (i := 0) (v := ?_) rfl (by kernel_rfl) (by kernel_rfl) (by kernel_rfl) (fun _ _ _ h => h) (Or.inl ⟨by rfl, ?_⟩) (by assumption) ?_
  rotate_left
  · (intro w' hSw; go_simp; try with_reducible rfl)
  try simp only [Act.put, put8]
  refine wpAnyH_take (i := 1) (v := ?_) rfl (by kernel_rfl) (by kernel_rfl) (by kernel_rfl) (fun _ _ _ h => h) (Or.inl ⟨by rfl, ?_⟩) (by assumption) ?_
  rotate_left
  · (intro w' hSw; go_simp; try with_reducible rfl)
  try simp only [Act.put, put8]
  refine wpAnyH_take (i := 2) (v := ?_) rfl (by kernel_rfl) (by kernel_rfl) (by kernel_rfl) (fun _ _ _ h => h) (Or.inl ⟨by rfl, ?_⟩) (by assumption) ?_
  rotate_left
  · (intro w' hSw; have y := hSw.cell b1' List.not_mem_nil; go_simp; try with_reducible rfl)
  try simp only [Act.put, put8]
  refine wpAnyH_take (i := 4) (v := ?_) rfl (by kernel_rfl) (by kernel_rfl) (by kernel_rfl) (fun _ _ _ h => h) (Or.inl ⟨by rfl, ?_⟩) (by assumption) ?_
  rotate_left
  · (intro w' hSw; go_simp; try with_reducible rfl)
  try simp only [Act.put, put8]
  refine wpAnyH_take (i := 5) (v := ?_) rfl (by kernel_rfl) (by kernel_rfl) (by kernel_rfl) (fun _ _ _ h => h) (Or.inl ⟨by rfl, ?_⟩) (by assumption) ?_
  rotate_left
  · (intro w' hSw; have y := hSw.cell b3' List.not_mem_nil; go_simp; try with_reducible rfl)
  try simp only [Act.put, put8]
  refine wpAnyH_take (i := 7) (v := ?_) rfl (by kernel_rfl) (by kernel_rfl) (by kernel_rfl) (fun _ _ _ h => h) (Or.inl ⟨by rfl, ?_⟩) (by assumption) ?_
  rotate_left
  · (intro w' hSw; have y := hSw.cell d0 List.not_mem_nil; have z := hSw.cell d1 List.not_mem_nil; go_simp; try with_reducible rfl)
  try simp only [Act.put, put8]
  refine wpAnyH_ready (rs := [3]) (by kernel_rfl) (by simp) ?_
  refine AllReadyH.cons rfl (fun K hK => ?_) (AllReadyH.nil)
  go_simp
  refine (rwithout_any _ n c rs xn _ (HA2.out.chg0 hHeld) (by omega)).mono ?_
  rintro ee w3 ⟨A3, c3, rs3, rfl, t1, t2, hc, t4⟩
  have HT3 := Lib.hid t1
  have HV3 := Lib.hid t2
  have HK3 := Lib.hid t4
  have hH3 := hHeld.trans0 hc
  have HQ3 : Hid (Chg [] w2 w3) := Lib.hid hH3
  have HZ3 : Hid (w2.heap.size ≤ w2.drew.heap.size) := Lib.hid (Nat.le_refl _)
  obtain ⟨l3, hl3⟩ : ∃ l3, (without (rval rs) xn).length = l3 := ⟨_, rfl⟩
  rw [hl3] at HT3 ⊢
  have hl3' : l3 ≤ 536870912 := by rw [← hl3]; exact Nat.le_trans (len_without_le _ _) HTL.out
  clear t1 t2 t4 hc hl3
  refine hK.out _ _ (hH3) (fun hHeld => ?_)
  try simp only [Act.put, put8]
  clear hK K
  refine wpAnyH_ready (rs := [6]) (by kernel_rfl) (by simp) ?_
  refine AllReadyH.cons rfl (fun K hK => ?_) (AllReadyH.nil)
  go_simp
  refine (rwithout_any _ l3 c3 rs3 b _ HT3.out (by omega)).mono ?_
  rintro ee w4 ⟨A4, c4, rs4, rfl, t1, t2, hc, t4⟩
  have HT4 := Lib.hid t1
  have HV4 := Lib.hid t2
  have HK4 := Lib.hid t4
  have hH4 := hH3.trans0 hc
  have HQ4 : Hid (Chg [] w3 w4) := Lib.hid hc
  obtain ⟨l4, hl4⟩ : ∃ l4, (without (rval rs3) b).length = l4 := ⟨_, rfl⟩
  rw [hl4] at HT4 ⊢
  have hl4' : l4 ≤ 536870912 := by rw [← hl4]; exact Nat.le_trans (len_without_le _ _) (by rw [HV3.out]; exact Nat.le_trans (len_without_le _ _) HTL.out)
  clear t1 t2 t4 hc hl4
  refine hK.out _ _ (hH4) (fun hHeld => ?_)
  try simp only [Act.put, put8]
  clear hK K
  refine wpAnyH_ready (rs := [8]) (by kernel_rfl) (by simp) ?_
  refine AllReadyH.cons rfl (fun K hK => ?_) (AllReadyH.nil)
  go_simp
  refine (rwith_any _ l4 c4 rs4 b fA fn fc xF _ HT4.out (HFR2.out.chg hH4 (fun _ _ => List.not_mem_nil)) hl4').mono ?_
  rintro ee w5 ⟨A5, c5, rs5, rfl, t1, t2, hc, t4⟩
  have HR : Hid (TrIn (rblk rs) w (Chn.on (rval rs) (.rename xn b)) (.returned (.slice A5 (withS b xF (rval rs4)).length c5)) w5) := Lib.hid (by
    have hv4 : rval rs4 = without (without (rval rs) xn) b := by rw [HV4.out, HV3.out]
    have h1 : TrIn (rblk rs4 ++ bo fA) w4 (withS b xF (rval rs4)) (.returned (.slice A5 (withS b xF (rval rs4)).length c5)) w5 := ⟨A5, c5, rs5, rfl, t1, t2, hc, t4⟩
    rw [hv4] at h1 ⊢
    rw [HON.out]
    have c12 := HCW.out.trans0 HC2.out
    have c13 := c12.trans0 HQ3.out
    refine h1.sub (Ks2 := rblk rs4 ++ bo fA) (c13.trans0 HQ4.out) (fun k hk => ?_)
    have z3 := HQ3.out.size
    have z4 := HQ4.out.size
    have z12 := c12.size
    have zz := HZ3.out
    rcases List.mem_append.1 hk with hk | hk
    · rcases HK4.out k (List.mem_append_right _ hk) with h | h
      · rcases HK3.out k (List.mem_append_right _ h) with h | h
        · exact .inl h
        · exact .inr ⟨by omega, by omega⟩
      · exact .inr ⟨by omega, h.2⟩
    · exact .inl (rblk_mem HXM.out k hk))
  have hH5 := hH4.trans0 hc
  obtain ⟨l5, hl5⟩ : ∃ l5, (withS b xF (rval rs4)).length = l5 := ⟨_, rfl⟩
  rw [hl5] at HR ⊢
  clear t1 t2 t4 hc hl5
  refine hK.out _ _ (hH5) (fun hHeld => ?_)
  try simp only [Act.put, put8]
  clear hK K
  refine wpAnyH_take (i := 9) (v := ?_) rfl (by kernel_rfl) (by kernel_rfl) (by kernel_rfl) (fun _ _ _ h => h) (Or.inl ⟨by rfl, ?_⟩) (by assumption) ?_
  rotate_left
  · (intro w' hSw; go_simp; try with_reducible rfl)
  try simp only [Act.put, put8]
  refine wpAnyH_done (by kernel_rfl) ?_ _
  try simp only [Act.put, put8]
  clear hHeld hH3 hH4 hH5 b1' b3' d0 d1
  go_wp2
  go_ret
  exact HR.out

set_option maxRecDepth 100000 in
set_option maxHeartbeats 6400000 in
theorem rdone_create (A : Option Addr) (n c : Nat) (rs : List RF) (d nn : ByteArray) (id : Nat) (F : Fol) (w : World) (h : RTree w A n c rs) (hn : n ≤ 536870912) (hF : aget (rval rs) d = some F) (hfl : F.length ≤ 536870912) :
    Calls Tryz.prog 61 #[.slice A n c, .agg #[.int .i64 2, .string d, .string nn, .string noS, .int .i64 (id : Nat)]] w (TrIn (rblk rs) w (Chn.on (rval rs) (.create d nn id))) := by
  have HON : Hid (Chn.on (rval rs) (.create d nn id) = withS d (withS nn id F) (without (rval rs) d)) := Lib.hid (by simp only [Chn.on, folOf, hF, Option.getD_some])
  have HA0 := Lib.hid h
  have HLX : Hid (rs.length = n) := Lib.hid h.len
  clear h
  go_enter Tryz.func61, Tryz.ntmps61
  obtain ⟨sb, hsb⟩ : ∃ sb, w.heap.size = sb := ⟨_, rfl⟩
  obtain ⟨W, hW⟩ : ∃ W, w.alloc (.cells #[.int .i64 2, .string d, .string nn, .string noS, .int .i64 (id : Nat)] 118) = W := ⟨_, rfl⟩
  have hbk : Blk W sb 118 #[.int .i64 2, .string d, .string nn, .string noS, .int .i64 (id : Nat)] := by rw [← hW, ← hsb]; exact Blk.new w _ _
  have hcW : Chg [] w W := by rw [← hW]; exact (Chg.refl [] w).alloc _
  have HBK := Lib.hid hbk
  have HA := Lib.hid (HA0.out.chg0 hcW)
  have HCW := Lib.hid hcW
  have b0 := hbk.cell 0
  have b1 := hbk.cell 1
  have b2 := hbk.cell 2
  have b3 := hbk.cell 3
  have b4 := hbk.cell 4
  simp only [List.getElem?_toArray, List.getElem?_cons_succ, List.getElem?_cons_zero] at b0 b1 b2 b3 b4
  clear hbk hcW
  go_wp2_with fail
  refine (rat_any A n c rs d W HA.out (by omega)).mono ?_
  rintro e w1 ⟨rfl, rfl⟩
  obtain ⟨i, hi1, hi2⟩ := atI_some hF 0
  rw [Nat.zero_add] at hi1
  rw [hi1]
  obtain ⟨x, hx, hxn, hxF⟩ := rs_at hi2
  obtain ⟨⟨xn, fA, fn, fc⟩, xF⟩ := x
  have hxn' : xn = d := hxn
  have hxF' : xF = F := hxF
  rw [hxn', hxF'] at hx
  clear hxn hxF hxn' hxF' xn xF
  have hin : i < n := by have := (List.getElem?_eq_some_iff.1 hx).1; have := HLX.out; omega
  have hin' : (i : Int) < n := by omega
  have hi0 : (0 : Int) ≤ (i : Int) := by omega
  obtain ⟨ad, rfl, hat⟩ := HA.out.row.ns (rnsl_at hx)
  have HXM := Lib.hid (List.mem_of_getElem? hx)
  have HFR : Hid (Rd w1 2 fA fn fc (nmv F)) := Lib.hid (HA.out.fil _ (List.mem_of_getElem? hx))
  have HAT := Lib.hid hat
  have HTL : Hid ((rval rs).length ≤ 536870912) := Lib.hid (by rw [rval_len]; have := HLX.out; omega)
  have HFN : Hid (F.length = fn) := Lib.hid (by have := HFR.out.nml; omega)
  have hfn : fn ≤ 536870912 := by have := HFN.out; omega
  clear hi1 hi2 hx hat hF
  clear b0 b1 b2 b3 b4
  have b0 := HBK.out.cell 0
  have b0a := (HBK.out.alloc (.cells #[] 108)).cell 0
  simp only [List.getElem?_toArray, List.getElem?_cons_zero] at b0 b0a
  go_wp2
  clear b0 b0a
  go_loopw [7, 8, 9] (fun o t q wr => ∃ (j m : Nat) (A' : Option Addr) (c' : Nat) (Z : Fol) (pb : Bool), j ≤ fn ∧ (m ≤ j + 1 ∧ (pb = false → m ≤ j)) ∧ q = .int .i64 j ∧ o = .slice A' m c' ∧ t = .bool pb ∧ Own wr 108 2 A' m c' (nmv Z) ∧ FRel nn id F Z pb j ∧ Chg [] w1 wr ∧ ∀ k ∈ bo A', w1.heap.size ≤ k) (fun _ _ q _ => fn - (intOf q).toNat)
  case atStart => exact ⟨0, 0, _, 0, [], false, Nat.zero_le _, ⟨by omega, fun _ => Nat.le_refl _⟩, rfl, rfl, rfl, Own.lit w1 108 2 #[] 0 (by decide) rfl, by unfold FRel; rfl, (Chg.refl _ _).alloc _, by simp⟩
  case round =>
    obtain ⟨j, m, A', c', Z, pb, hj, ⟨hmi, hmf⟩, rfl, rfl, rfl, hz, hval, hch, hnw⟩ := hrel
    have HMF := Lib.hid hmf
    clear hmf
    have HZ := Lib.hid hz
    have HVAL := Lib.hid hval
    have HCH := Lib.hid hch
    have HNW := Lib.hid hnw
    clear hz hval hch hnw
    have b0 := (HBK.out.chg HCH.out List.not_mem_nil).cell 0
    have b1 := (HBK.out.chg HCH.out List.not_mem_nil).cell 1
    have b2 := (HBK.out.chg HCH.out List.not_mem_nil).cell 2
    have b4 := (HBK.out.chg HCH.out List.not_mem_nil).cell 4
    simp only [List.getElem?_toArray, List.getElem?_cons_succ, List.getElem?_cons_zero] at b0 b1 b2 b4
    have hatr := HAT.out.chg HCH.out List.not_mem_nil
    have x1 := hatr.c1
    clear hatr
    by_cases hlt : j < fn
    · have hlt' : (j : Int) < fn := by omega
      obtain ⟨x, hx⟩ : ∃ x, F[j]? = some x := ⟨_, List.getElem?_eq_getElem (by have := HFN.out; omega)⟩
      obtain ⟨bd, hbd, hnm⟩ := (HFR.out.chg HCH.out (fun _ _ => List.not_mem_nil)).nm hx
      obtain ⟨qn, qi⟩ := x
      have HBD := Lib.hid hbd
      subst hbd
      have m0 := hnm.c0
      have m1 := hnm.c1
      have HDR : Hid (F.drop j = (qn, qi) :: F.drop (j + 1)) := Lib.hid (by rw [List.drop_eq_getElem_cons (List.getElem?_eq_some_iff.1 hx).1, (List.getElem?_eq_some_iff.1 hx).2])
      have HX := Lib.hid hx
      clear hx hnm
      obtain ⟨xb, hxb⟩ : ∃ xb, wr.heap.size = xb := ⟨_, rfl⟩
      obtain ⟨W6, hW6⟩ : ∃ W6, wr.alloc (.cells #[.string qn, .int .i64 (qi : Nat)] 108) = W6 := ⟨_, rfl⟩
      have hv6 : Blk W6 xb 108 #[.string qn, .int .i64 (qi : Nat)] := by rw [← hW6, ← hxb]; exact Blk.new wr _ _
      have hc6 : Chg [] wr W6 := by rw [← hW6]; exact (Chg.refl [] wr).alloc _
      have HV6 := Lib.hid hv6
      have n0 := hv6.cell 0
      have n1 := hv6.cell 1
      simp only [List.getElem?_toArray, List.getElem?_cons_succ, List.getElem?_cons_zero] at n0 n1
      have HZ6 := Lib.hid (HZ.out.chg hc6 (fun _ _ => List.not_mem_nil))
      have HC6 : Hid (Chg [] w1 W6) := Lib.hid (HCH.out.trans0 hc6)
      have HC6r := Lib.hid hc6
      have HB6 := Lib.hid (HBK.out.chg HC6.out List.not_mem_nil)
      have c0 := HB6.out.cell 0
      have c2 := HB6.out.cell 2
      have c4 := HB6.out.cell 4
      simp only [List.getElem?_toArray, List.getElem?_cons_succ, List.getElem?_cons_zero] at c0 c2 c4
      clear hv6 hc6
      obtain ⟨lt, hltv⟩ : ∃ lt, ltS nn qn = lt := ⟨_, rfl⟩
      have hbl : Op.bytesLess nn.toList qn.toList = lt := hltv
      have HLN := Lib.hid hltv
      clear hltv
      cases pb with
      | true =>
        go_wp2_with (at_builtin; refine wpList_app rfl _ _ rfl etyRNames rfl (HZ6.out.chg ((Chg.refl [] W6).alloc (.cells #[.string qn, .int .i64 (qi : Nat)] 108)) (fun _ _ => List.not_mem_nil)) rfl (Own.lit W6 108 2 #[.string qn, .int .i64 (qi : Nat)] 1 (by decide) rfl).rd (nmv_one [(qn, qi)]) (by unfold maxLen; omega) (by omega) ?_; intro A4 c4 w4 hown4 hchg4 hnew4 _; have HO4 := Lib.hid hown4; have HC4 := Lib.hid hchg4; have HN4 := Lib.hid hnew4; clear hown4 hchg4 hnew4)
        have hAl4 : Chg [] W6 (W6.alloc (.cells #[.string qn, .int .i64 (qi : Nat)] 108)) := (Chg.refl [] W6).alloc _
        have HZ4 : Hid (Own w4 108 2 A4 (m + 1) c4 (nmv (Z ++ [(qn, qi)]))) := Lib.hid (by
          have := HO4.out
          rw [nmv_append]
          exact this)
        have HD4 : Hid (Chg [] w1 w4) := Lib.hid (((HC6.out).trans0 hAl4).trans HC4.out (fun x hx => .inr (HNW.out x hx)))
        have HM4 : Hid (∀ k ∈ bo A4, w1.heap.size ≤ k) := Lib.hid (fun k hk => by
          rcases HN4.out k hk with h | h
          · exact HNW.out k h
          · have h1 := (HC6.out).size; have h2 := h.1; simp at h2; omega)
        clear hAl4
        go_roundw
        case rel => exact ⟨j + 1, m + 1, A4, c4, Z ++ [(qn, qi)], true, by omega, ⟨by omega, fun h => by cases h⟩, by go_num, rfl, rfl, HZ4.out, HVAL.out.next1 HDR.out, HD4.out, HM4.out⟩
        case measure => simp [intOf]; omega
      | false =>
        cases lt with
        | false =>
          go_wp2_with (at_builtin; refine wpList_app rfl _ _ rfl etyRNames rfl (HZ6.out.chg ((Chg.refl [] W6).alloc (.cells #[.string qn, .int .i64 (qi : Nat)] 108)) (fun _ _ => List.not_mem_nil)) rfl (Own.lit W6 108 2 #[.string qn, .int .i64 (qi : Nat)] 1 (by decide) rfl).rd (nmv_one [(qn, qi)]) (by unfold maxLen; omega) (by omega) ?_; intro A4 c4 w4 hown4 hchg4 hnew4 _; have HO4 := Lib.hid hown4; have HC4 := Lib.hid hchg4; have HN4 := Lib.hid hnew4; clear hown4 hchg4 hnew4)
          have hAl4 : Chg [] W6 (W6.alloc (.cells #[.string qn, .int .i64 (qi : Nat)] 108)) := (Chg.refl [] W6).alloc _
          have HZ4 : Hid (Own w4 108 2 A4 (m + 1) c4 (nmv (Z ++ [(qn, qi)]))) := Lib.hid (by
            have := HO4.out
            rw [nmv_append]
            exact this)
          have HD4 : Hid (Chg [] w1 w4) := Lib.hid (((HC6.out).trans0 hAl4).trans HC4.out (fun x hx => .inr (HNW.out x hx)))
          have HM4 : Hid (∀ k ∈ bo A4, w1.heap.size ≤ k) := Lib.hid (fun k hk => by
            rcases HN4.out k hk with h | h
            · exact HNW.out k h
            · have h1 := (HC6.out).size; have h2 := h.1; simp at h2; omega)
          clear hAl4
          go_roundw
          case rel => exact ⟨j + 1, m + 1, A4, c4, Z ++ [(qn, qi)], false, by omega, ⟨by omega, fun _ => by have := HMF.out (by simp); omega⟩, by go_num, rfl, rfl, HZ4.out, HVAL.out.next2 HDR.out HLN.out, HD4.out, HM4.out⟩
          case measure => simp [intOf]; omega
        | true =>
          go_upto_region 19 with (at_builtin; refine wpList_app rfl _ _ rfl etyRNames rfl (HZ6.out.chg ((Chg.refl [] W6).alloc (.cells #[.string nn, .int .i64 (id : Nat)] 108)) (fun _ _ => List.not_mem_nil)) rfl (Own.lit W6 108 2 #[.string nn, .int .i64 (id : Nat)] 1 (by decide) rfl).rd (nmv_one [(nn, id)]) (by unfold maxLen; omega) (by omega) ?_; intro A3 c3 w3 hown3 hchg3 hnew3 _; have HO3 := Lib.hid hown3; have HC3 := Lib.hid hchg3; have HN3 := Lib.hid hnew3; clear hown3 hchg3 hnew3)
          have hAl3 : Chg [] W6 (W6.alloc (.cells #[.string nn, .int .i64 (id : Nat)] 108)) := (Chg.refl [] W6).alloc _
          have HZ3 : Hid (Own w3 108 2 A3 (m + 1) c3 (nmv (Z ++ [(nn, id)]))) := Lib.hid (by
            have := HO3.out
            rw [nmv_append]
            exact this)
          have HD3 : Hid (Chg [] w1 w3) := Lib.hid (((HC6.out).trans0 hAl3).trans HC3.out (fun x hx => .inr (HNW.out x hx)))
          have HM3 : Hid (∀ k ∈ bo A3, w1.heap.size ≤ k) := Lib.hid (fun k hk => by
            rcases HN3.out k hk with h | h
            · exact HNW.out k h
            · have h1 := (HC6.out).size; have h2 := h.1; simp at h2; omega)
          clear hAl3
          have hv3 : Blk w3 xb 108 #[.string qn, .int .i64 (qi : Nat)] := (HV6.out.chg ((Chg.refl [] W6).alloc (.cells #[.string nn, .int .i64 (id : Nat)] 108)) List.not_mem_nil).chg HC3.out (fun hm => by have h1 := HZ.out.lt _ hm; omega)
          have k0 := hv3.cell 0
          have k1 := hv3.cell 1
          have z0 := (HBK.out.chg HD3.out List.not_mem_nil).cell 0
          have z2 := (HBK.out.chg HD3.out List.not_mem_nil).cell 2
          simp only [List.getElem?_toArray, List.getElem?_cons_succ, List.getElem?_cons_zero] at k0 k1 z0 z2
          clear hv3 n0 n1 c0 c2 c4 b0 b1 b2 b4 x1 m0 m1
          go_wp2_with (at_builtin; refine wpList_app rfl _ _ rfl etyRNames rfl (HZ3.out.chg ((Chg.refl [] w3).alloc (.cells #[.string qn, .int .i64 (qi : Nat)] 108)) (fun _ _ => List.not_mem_nil)) rfl (Own.lit w3 108 2 #[.string qn, .int .i64 (qi : Nat)] 1 (by decide) rfl).rd (nmv_one [(qn, qi)]) (by unfold maxLen; omega) (by omega) ?_; intro A4 c4 w4 hown4 hchg4 hnew4 _; have HO4 := Lib.hid hown4; have HC4 := Lib.hid hchg4; have HN4 := Lib.hid hnew4; clear hown4 hchg4 hnew4)
          have hAl4 : Chg [] w3 (w3.alloc (.cells #[.string qn, .int .i64 (qi : Nat)] 108)) := (Chg.refl [] w3).alloc _
          have HZ4 : Hid (Own w4 108 2 A4 (m + 1 + 1) c4 (nmv ((Z ++ [(nn, id)]) ++ [(qn, qi)]))) := Lib.hid (by
            have := HO4.out
            rw [nmv_append]
            exact this)
          have HD4 : Hid (Chg [] w1 w4) := Lib.hid (((HD3.out).trans0 hAl4).trans HC4.out (fun x hx => .inr (HM3.out x hx)))
          have HM4 : Hid (∀ k ∈ bo A4, w1.heap.size ≤ k) := Lib.hid (fun k hk => by
            rcases HN4.out k hk with h | h
            · exact HM3.out k h
            · have h1 := (HD3.out).size; have h2 := h.1; simp at h2; omega)
          clear hAl4
          go_roundw
          case rel => exact ⟨j + 1, m + 1 + 1, A4, c4, Z ++ [(nn, id)] ++ [(qn, qi)], true, by omega, ⟨by have := HMF.out (by simp); omega, fun h => by cases h⟩, by go_num, rfl, rfl, HZ4.out, HVAL.out.next3 HDR.out HLN.out, HD4.out, HM4.out⟩
          case measure => simp [intOf]; omega
    · obtain rfl : j = fn := by omega
      have hval := HVAL.out
      unfold FRel at hval
      rw [List.drop_of_length_le (by have := HFN.out; omega)] at hval
      cases pb with
      | true =>
        rw [if_pos rfl, List.append_nil] at hval
        have HV := Lib.hid hval
        have HZV : Hid (Own wr 108 2 A' m c' (nmv (withS nn id F))) := Lib.hid (by rw [← HV.out]; exact HZ.out)
        clear hval b0 b1 b2 b4
        have b1 := (HBK.out.chg (HCH.out) List.not_mem_nil).cell 1
        simp only [List.getElem?_toArray, List.getElem?_cons_succ, List.getElem?_cons_zero] at b1
        go_wp2_with fail
        refine wp_region_held_drew (S := fun w' => Chg [] wr w') (by kernel_rfl) ((Chg.refl _ _).drew) (fun hHeld => ?_)
        refine wpAnyH_take (i := 0) (v := ?_) rfl (by kernel_rfl) (by kernel_rfl) (by kernel_rfl) (fun _ _ _ h => h) (Or.inl ⟨by rfl, ?_⟩) (by assumption) ?_
        rotate_left
        · (intro w' hSw; go_simp; try with_reducible rfl)
        try simp only [Act.put, put8]
        refine wpAnyH_take (i := 1) (v := ?_) rfl (by kernel_rfl) (by kernel_rfl) (by kernel_rfl) (fun _ _ _ h => h) (Or.inl ⟨by rfl, ?_⟩) (by assumption) ?_
        rotate_left
        · (intro w' hSw; go_simp; try with_reducible rfl)
        try simp only [Act.put, put8]
        refine wpAnyH_take (i := 2) (v := ?_) rfl (by kernel_rfl) (by kernel_rfl) (by kernel_rfl) (fun _ _ _ h => h) (Or.inl ⟨by rfl, ?_⟩) (by assumption) ?_
        rotate_left
        · (intro w' hSw; have y := hSw.cell b1 List.not_mem_nil; go_simp; try with_reducible rfl)
        try simp only [Act.put, put8]
        refine wpAnyH_take (i := 4) (v := ?_) rfl (by kernel_rfl) (by kernel_rfl) (by kernel_rfl) (fun _ _ _ h => h) (Or.inl ⟨by rfl, ?_⟩) (by assumption) ?_
        rotate_left
        · (intro w' hSw; go_simp; try with_reducible rfl)
        try simp only [Act.put, put8]
        refine wpAnyH_take (i := 5) (v := ?_) rfl (by kernel_rfl) (by kernel_rfl) (by kernel_rfl) (fun _ _ _ h => h) (Or.inl ⟨by rfl, ?_⟩) (by assumption) ?_
        rotate_left
        · (intro w' hSw; have y := hSw.cell b1 List.not_mem_nil; go_simp; try with_reducible rfl)
        try simp only [Act.put, put8]
        refine wpAnyH_take (i := 6) (v := ?_) rfl (by kernel_rfl) (by kernel_rfl) (by kernel_rfl) (fun _ _ _ h => h) (Or.inl ⟨by rfl, ?_⟩) (by assumption) ?_
        rotate_left
        · (intro w' hSw; go_simp; try with_reducible rfl)
        try simp only [Act.put, put8]
        refine wpAnyH_take (i := 7) (v := ?_) rfl (by kernel_rfl) (by kernel_rfl) (by kernel_rfl) (fun _ _ _ h => h) (Or.inl ⟨by rfl, ?_⟩) (by assumption) ?_
        rotate_left
        · (intro w' hSw; go_simp; try with_reducible rfl)
        try simp only [Act.put, put8]
        refine wpAnyH_ready (rs := [3]) (by kernel_rfl) (by simp) ?_
        refine AllReadyH.cons rfl (fun K hK => ?_) (AllReadyH.nil)
        go_simp
        refine (rwithout_any _ n c rs d _ ((HA.out.chg0 HCH.out).chg0 hHeld) (by omega)).mono ?_
        rintro ee u3 ⟨B3, e3, rs3, rfl, t1, t2, hc, t4⟩
        have HT3 := Lib.hid t1
        have HV3 := Lib.hid t2
        have HK3 := Lib.hid t4
        have hH3 := hHeld.trans0 hc
        have HQ3 : Hid (Chg [] wr u3) := Lib.hid hH3
        have HZ3 : Hid (wr.heap.size ≤ wr.drew.heap.size) := Lib.hid (Nat.le_refl _)
        obtain ⟨l3, hl3⟩ : ∃ l3, (without (rval rs) d).length = l3 := ⟨_, rfl⟩
        rw [hl3] at HT3 ⊢
        have hl3' : l3 ≤ 536870912 := by rw [← hl3]; exact Nat.le_trans (len_without_le _ _) HTL.out
        clear t1 t2 t4 hc hl3
        refine hK.out _ _ (hH3) (fun hHeld => ?_)
        try simp only [Act.put, put8]
        clear hK K
        refine wpAnyH_ready (rs := [8]) (by kernel_rfl) (by simp) ?_
        refine AllReadyH.cons rfl (fun K hK => ?_) (AllReadyH.nil)
        go_simp
        refine (rwith_any _ l3 e3 rs3 d A' m c' (withS nn id F) _ HT3.out (HZV.out.rd.chg hH3 (fun _ _ => List.not_mem_nil)) hl3').mono ?_
        rintro ee u5 ⟨B5, e5, rs5, rfl, t1, t2, hc, t4⟩
        have HR : Hid (TrIn (rblk rs) w (Chn.on (rval rs) (.create d nn id)) (.returned (.slice B5 (withS d (withS nn id F) (rval rs3)).length e5)) u5) := Lib.hid (by
          have h1 : TrIn (rblk rs3 ++ bo A') u3 (withS d (withS nn id F) (rval rs3)) (.returned (.slice B5 (withS d (withS nn id F) (rval rs3)).length e5)) u5 := ⟨B5, e5, rs5, rfl, t1, t2, hc, t4⟩
          rw [HV3.out] at h1 ⊢
          rw [HON.out]
          have c12 := HCW.out.trans0 (HCH.out)
          refine h1.sub (c12.trans0 HQ3.out) (fun k hk => ?_)
          have z3 := HQ3.out.size
          have z12 := c12.size
          have zw := HCW.out.size
          have zz := HZ3.out
          rcases List.mem_append.1 hk with hk | hk
          · rcases HK3.out k (List.mem_append_right _ hk) with h | h
            · exact .inl h
            · exact .inr ⟨by omega, h.2⟩
          · have h1 := HNW.out k hk; have h2 := HZV.out.lt k hk; exact .inr ⟨by omega, by omega⟩)
        have hH5 := hH3.trans0 hc
        obtain ⟨l5, hl5⟩ : ∃ l5, (withS d (withS nn id F) (rval rs3)).length = l5 := ⟨_, rfl⟩
        rw [hl5] at HR ⊢
        clear t1 t2 t4 hc hl5
        refine hK.out _ _ (hH5) (fun hHeld => ?_)
        try simp only [Act.put, put8]
        clear hK K
        refine wpAnyH_take (i := 9) (v := ?_) rfl (by kernel_rfl) (by kernel_rfl) (by kernel_rfl) (fun _ _ _ h => h) (Or.inl ⟨by rfl, ?_⟩) (by assumption) ?_
        rotate_left
        · (intro w' hSw; go_simp; try with_reducible rfl)
        try simp only [Act.put, put8]
        refine wpAnyH_done (by kernel_rfl) ?_ _
        try simp only [Act.put, put8]
        clear hHeld hH3 hH5 b1
        go_wp2
        go_ret
        exact HR.out
      | false =>
        rw [if_neg (by simp)] at hval
        have HV : Hid (Z ++ [(nn, id)] = withS nn id F) := Lib.hid hval
        clear hval
        go_upto_region 23 with (at_builtin; refine wpList_app rfl _ _ rfl etyRNames rfl (HZ.out.chg ((Chg.refl [] wr).alloc (.cells #[.string nn, .int .i64 (id : Nat)] 108)) (fun _ _ => List.not_mem_nil)) rfl (Own.lit wr 108 2 #[.string nn, .int .i64 (id : Nat)] 1 (by decide) rfl).rd (nmv_one [(nn, id)]) (by unfold maxLen; omega) (by omega) ?_; intro A3 c3 w3 hown3 hchg3 hnew3 _; have HO3 := Lib.hid hown3; have HC3 := Lib.hid hchg3; have HN3 := Lib.hid hnew3; clear hown3 hchg3 hnew3)
        have hAl3 : Chg [] wr (wr.alloc (.cells #[.string nn, .int .i64 (id : Nat)] 108)) := (Chg.refl [] wr).alloc _
        have HZ3 : Hid (Own w3 108 2 A3 (m + 1) c3 (nmv (Z ++ [(nn, id)]))) := Lib.hid (by
          have := HO3.out
          rw [nmv_append]
          exact this)
        have HD3 : Hid (Chg [] w1 w3) := Lib.hid (((HCH.out).trans0 hAl3).trans HC3.out (fun x hx => .inr (HNW.out x hx)))
        have HM3 : Hid (∀ k ∈ bo A3, w1.heap.size ≤ k) := Lib.hid (fun k hk => by
          rcases HN3.out k hk with h | h
          · exact HNW.out k h
          · have h1 := (HCH.out).size; have h2 := h.1; simp at h2; omega)
        clear hAl3
        have HZV : Hid (Own w3 108 2 A3 (m + 1) c3 (nmv (withS nn id F))) := Lib.hid (by rw [← HV.out]; exact HZ3.out)
        clear b0 b1 b2 b4
        have b1 := (HBK.out.chg (HD3.out) List.not_mem_nil).cell 1
        simp only [List.getElem?_toArray, List.getElem?_cons_succ, List.getElem?_cons_zero] at b1
        go_wp2_with fail
        refine wp_region_held_drew (S := fun w' => Chg [] w3 w') (by kernel_rfl) ((Chg.refl _ _).drew) (fun hHeld => ?_)
        refine wpAnyH_take (i := 0) (v := ?_) rfl (by kernel_rfl) (by kernel_rfl) (by kernel_rfl) (fun _ _ _ h => h) (Or.inl ⟨by rfl, ?_⟩) (by assumption) ?_
        rotate_left
        · (intro w' hSw; go_simp; try with_reducible rfl)
        try simp only [Act.put, put8]
        refine wpAnyH_take (i := 1) (v := ?_) rfl (by kernel_rfl) (by kernel_rfl) (by kernel_rfl) (fun _ _ _ h => h) (Or.inl ⟨by rfl, ?_⟩) (by assumption) ?_
        rotate_left
        · (intro w' hSw; go_simp; try with_reducible rfl)
        try simp only [Act.put, put8]
        refine wpAnyH_take (i := 2) (v := ?_) rfl (by kernel_rfl) (by kernel_rfl) (by kernel_rfl) (fun _ _ _ h => h) (Or.inl ⟨by rfl, ?_⟩) (by assumption) ?_
        rotate_left
        · (intro w' hSw; have y := hSw.cell b1 List.not_mem_nil; go_simp; try with_reducible rfl)
        try simp only [Act.put, put8]
        refine wpAnyH_take (i := 4) (v := ?_) rfl (by kernel_rfl) (by kernel_rfl) (by kernel_rfl) (fun _ _ _ h => h) (Or.inl ⟨by rfl, ?_⟩) (by assumption) ?_
        rotate_left
        · (intro w' hSw; go_simp; try with_reducible rfl)
        try simp only [Act.put, put8]
        refine wpAnyH_take (i := 5) (v := ?_) rfl (by kernel_rfl) (by kernel_rfl) (by kernel_rfl) (fun _ _ _ h => h) (Or.inl ⟨by rfl, ?_⟩) (by assumption) ?_
        rotate_left
        · (intro w' hSw; have y := hSw.cell b1 List.not_mem_nil; go_simp; try with_reducible rfl)
        try simp only [Act.put, put8]
        refine wpAnyH_take (i := 6) (v := ?_) rfl (by kernel_rfl) (by kernel_rfl) (by kernel_rfl) (fun _ _ _ h => h) (Or.inl ⟨by rfl, ?_⟩) (by assumption) ?_
        rotate_left
        · (intro w' hSw; go_simp; try with_reducible rfl)
        try simp only [Act.put, put8]
        refine wpAnyH_take (i := 7) (v := ?_) rfl (by kernel_rfl) (by kernel_rfl) (by kernel_rfl) (fun _ _ _ h => h) (Or.inl ⟨by rfl, ?_⟩) (by assumption) ?_
        rotate_left
        · (intro w' hSw; go_simp; try with_reducible rfl)
        try simp only [Act.put, put8]
        refine wpAnyH_ready (rs := [3]) (by kernel_rfl) (by simp) ?_
        refine AllReadyH.cons rfl (fun K hK => ?_) (AllReadyH.nil)
        go_simp
        refine (rwithout_any _ n c rs d _ ((HA.out.chg0 HD3.out).chg0 hHeld) (by omega)).mono ?_
        rintro ee u3 ⟨B3, e3, rs3, rfl, t1, t2, hc, t4⟩
        have HT3 := Lib.hid t1
        have HV3 := Lib.hid t2
        have HK3 := Lib.hid t4
        have hH3 := hHeld.trans0 hc
        have HQ3 : Hid (Chg [] w3 u3) := Lib.hid hH3
        have HZ3 : Hid (w3.heap.size ≤ w3.drew.heap.size) := Lib.hid (Nat.le_refl _)
        obtain ⟨l3, hl3⟩ : ∃ l3, (without (rval rs) d).length = l3 := ⟨_, rfl⟩
        rw [hl3] at HT3 ⊢
        have hl3' : l3 ≤ 536870912 := by rw [← hl3]; exact Nat.le_trans (len_without_le _ _) HTL.out
        clear t1 t2 t4 hc hl3
        refine hK.out _ _ (hH3) (fun hHeld => ?_)
        try simp only [Act.put, put8]
        clear hK K
        refine wpAnyH_ready (rs := [8]) (by kernel_rfl) (by simp) ?_
        refine AllReadyH.cons rfl (fun K hK => ?_) (AllReadyH.nil)
        go_simp
        refine (rwith_any _ l3 e3 rs3 d A3 (m + 1) c3 (withS nn id F) _ HT3.out (HZV.out.rd.chg hH3 (fun _ _ => List.not_mem_nil)) hl3').mono ?_
        rintro ee u5 ⟨B5, e5, rs5, rfl, t1, t2, hc, t4⟩
        have HR : Hid (TrIn (rblk rs) w (Chn.on (rval rs) (.create d nn id)) (.returned (.slice B5 (withS d (withS nn id F) (rval rs3)).length e5)) u5) := Lib.hid (by
          have h1 : TrIn (rblk rs3 ++ bo A3) u3 (withS d (withS nn id F) (rval rs3)) (.returned (.slice B5 (withS d (withS nn id F) (rval rs3)).length e5)) u5 := ⟨B5, e5, rs5, rfl, t1, t2, hc, t4⟩
          rw [HV3.out] at h1 ⊢
          rw [HON.out]
          have c12 := HCW.out.trans0 (HD3.out)
          refine h1.sub (c12.trans0 HQ3.out) (fun k hk => ?_)
          have z3 := HQ3.out.size
          have z12 := c12.size
          have zw := HCW.out.size
          have zz := HZ3.out
          rcases List.mem_append.1 hk with hk | hk
          · rcases HK3.out k (List.mem_append_right _ hk) with h | h
            · exact .inl h
            · exact .inr ⟨by omega, h.2⟩
          · have h1 := HM3.out k hk; have h2 := HZV.out.lt k hk; exact .inr ⟨by omega, by omega⟩)
        have hH5 := hH3.trans0 hc
        obtain ⟨l5, hl5⟩ : ∃ l5, (withS d (withS nn id F) (rval rs3)).length = l5 := ⟨_, rfl⟩
        rw [hl5] at HR ⊢
        clear t1 t2 t4 hc hl5
        refine hK.out _ _ (hH5) (fun hHeld => ?_)
        try simp only [Act.put, put8]
        clear hK K
        refine wpAnyH_take (i := 9) (v := ?_) rfl (by kernel_rfl) (by kernel_rfl) (by kernel_rfl) (fun _ _ _ h => h) (Or.inl ⟨by rfl, ?_⟩) (by assumption) ?_
        rotate_left
        · (intro w' hSw; go_simp; try with_reducible rfl)
        try simp only [Act.put, put8]
        refine wpAnyH_done (by kernel_rfl) ?_ _
        try simp only [Act.put, put8]
        clear hHeld hH3 hH5 b1
        go_wp2
        go_ret
        exact HR.out

set_option maxRecDepth 100000 in
set_option maxHeartbeats 6400000 in
theorem rdone_remove (A : Option Addr) (n c : Nat) (rs : List RF) (d nn : ByteArray) (F : Fol) (w : World) (h : RTree w A n c rs) (hn : n ≤ 536870912) (hF : aget (rval rs) d = some F) (hfl : F.length ≤ 536870912) :
    Calls Tryz.prog 61 #[.slice A n c, .agg #[.int .i64 4, .string d, .string nn, .string noS, .int .i64 0]] w (TrIn (rblk rs) w (Chn.on (rval rs) (.remove d nn))) := by
  have HON : Hid (Chn.on (rval rs) (.remove d nn) = withS d (without F nn) (without (rval rs) d)) := Lib.hid (by simp only [Chn.on, folOf, hF, Option.getD_some])
  have HA0 := Lib.hid h
  have HLX : Hid (rs.length = n) := Lib.hid h.len
  clear h
  go_enter Tryz.func61, Tryz.ntmps61
  obtain ⟨sb, hsb⟩ : ∃ sb, w.heap.size = sb := ⟨_, rfl⟩
  obtain ⟨W, hW⟩ : ∃ W, w.alloc (.cells #[.int .i64 4, .string d, .string nn, .string noS, .int .i64 0] 118) = W := ⟨_, rfl⟩
  have hbk : Blk W sb 118 #[.int .i64 4, .string d, .string nn, .string noS, .int .i64 0] := by rw [← hW, ← hsb]; exact Blk.new w _ _
  have hcW : Chg [] w W := by rw [← hW]; exact (Chg.refl [] w).alloc _
  have HBK := Lib.hid hbk
  have HA := Lib.hid (HA0.out.chg0 hcW)
  have HCW := Lib.hid hcW
  have b0 := hbk.cell 0
  have b1 := hbk.cell 1
  have b2 := hbk.cell 2
  have b3 := hbk.cell 3
  have b4 := hbk.cell 4
  simp only [List.getElem?_toArray, List.getElem?_cons_succ, List.getElem?_cons_zero] at b0 b1 b2 b3 b4
  clear hbk hcW
  go_wp2_with fail
  refine (rat_any A n c rs d W HA.out (by omega)).mono ?_
  rintro e w1 ⟨rfl, rfl⟩
  obtain ⟨i, hi1, hi2⟩ := atI_some hF 0
  rw [Nat.zero_add] at hi1
  rw [hi1]
  obtain ⟨x, hx, hxn, hxF⟩ := rs_at hi2
  obtain ⟨⟨xn, fA, fn, fc⟩, xF⟩ := x
  have hxn' : xn = d := hxn
  have hxF' : xF = F := hxF
  rw [hxn', hxF'] at hx
  clear hxn hxF hxn' hxF' xn xF
  have hin : i < n := by have := (List.getElem?_eq_some_iff.1 hx).1; have := HLX.out; omega
  have hin' : (i : Int) < n := by omega
  have hi0 : (0 : Int) ≤ (i : Int) := by omega
  obtain ⟨ad, rfl, hat⟩ := HA.out.row.ns (rnsl_at hx)
  have HXM := Lib.hid (List.mem_of_getElem? hx)
  have HFR : Hid (Rd w1 2 fA fn fc (nmv F)) := Lib.hid (HA.out.fil _ (List.mem_of_getElem? hx))
  have HAT := Lib.hid hat
  have HTL : Hid ((rval rs).length ≤ 536870912) := Lib.hid (by rw [rval_len]; have := HLX.out; omega)
  have HFN : Hid (F.length = fn) := Lib.hid (by have := HFR.out.nml; omega)
  have hfn : fn ≤ 536870912 := by have := HFN.out; omega
  clear hi1 hi2 hx hat hF
  clear b0 b1 b2 b3 b4
  have b0 := HBK.out.cell 0
  have b0a := (HBK.out.alloc (.cells #[] 108)).cell 0
  simp only [List.getElem?_toArray, List.getElem?_cons_zero] at b0 b0a
  go_wp2
  clear b0 b0a
  go_loopw [7, 8, 9] (fun o t q wr => ∃ (j m : Nat) (A' : Option Addr) (c' : Nat) (Z : Fol), j ≤ fn ∧ m ≤ j ∧ q = .int .i64 j ∧ o = .slice A' m c' ∧ t = .bool true ∧ Own wr 108 2 A' m c' (nmv Z) ∧ Z = without (F.take j) nn ∧ Chg [] w1 wr ∧ ∀ k ∈ bo A', w1.heap.size ≤ k) (fun _ _ q _ => fn - (intOf q).toNat)
  case atStart => exact ⟨0, 0, _, 0, [], Nat.zero_le _, Nat.le_refl _, rfl, rfl, rfl, Own.lit w1 108 2 #[] 0 (by decide) rfl, rfl, (Chg.refl _ _).alloc _, by simp⟩
  case round =>
    obtain ⟨j, m, A', c', Z, hj, hmi, rfl, rfl, rfl, hz, hval, hch, hnw⟩ := hrel
    have HZ := Lib.hid hz
    have HVAL := Lib.hid hval
    have HCH := Lib.hid hch
    have HNW := Lib.hid hnw
    clear hz hval hch hnw
    have b0 := (HBK.out.chg HCH.out List.not_mem_nil).cell 0
    have b1 := (HBK.out.chg HCH.out List.not_mem_nil).cell 1
    have b2 := (HBK.out.chg HCH.out List.not_mem_nil).cell 2
    have b4 := (HBK.out.chg HCH.out List.not_mem_nil).cell 4
    simp only [List.getElem?_toArray, List.getElem?_cons_succ, List.getElem?_cons_zero] at b0 b1 b2 b4
    have hatr := HAT.out.chg HCH.out List.not_mem_nil
    have x1 := hatr.c1
    clear hatr
    by_cases hlt : j < fn
    · have hlt' : (j : Int) < fn := by omega
      obtain ⟨x, hx⟩ : ∃ x, F[j]? = some x := ⟨_, List.getElem?_eq_getElem (by have := HFN.out; omega)⟩
      obtain ⟨bd, hbd, hnm⟩ := (HFR.out.chg HCH.out (fun _ _ => List.not_mem_nil)).nm hx
      obtain ⟨qn, qi⟩ := x
      have HBD := Lib.hid hbd
      subst hbd
      have m0 := hnm.c0
      have m1 := hnm.c1
      have HDR : Hid (F.drop j = (qn, qi) :: F.drop (j + 1)) := Lib.hid (by rw [List.drop_eq_getElem_cons (List.getElem?_eq_some_iff.1 hx).1, (List.getElem?_eq_some_iff.1 hx).2])
      have HX := Lib.hid hx
      clear hx hnm
      obtain ⟨xb, hxb⟩ : ∃ xb, wr.heap.size = xb := ⟨_, rfl⟩
      obtain ⟨W6, hW6⟩ : ∃ W6, wr.alloc (.cells #[.string qn, .int .i64 (qi : Nat)] 108) = W6 := ⟨_, rfl⟩
      have hv6 : Blk W6 xb 108 #[.string qn, .int .i64 (qi : Nat)] := by rw [← hW6, ← hxb]; exact Blk.new wr _ _
      have hc6 : Chg [] wr W6 := by rw [← hW6]; exact (Chg.refl [] wr).alloc _
      have HV6 := Lib.hid hv6
      have n0 := hv6.cell 0
      have n1 := hv6.cell 1
      simp only [List.getElem?_toArray, List.getElem?_cons_succ, List.getElem?_cons_zero] at n0 n1
      have HZ6 := Lib.hid (HZ.out.chg hc6 (fun _ _ => List.not_mem_nil))
      have HC6 : Hid (Chg [] w1 W6) := Lib.hid (HCH.out.trans0 hc6)
      have HC6r := Lib.hid hc6
      have HB6 := Lib.hid (HBK.out.chg HC6.out List.not_mem_nil)
      have c0 := HB6.out.cell 0
      have c2 := HB6.out.cell 2
      have c4 := HB6.out.cell 4
      simp only [List.getElem?_toArray, List.getElem?_cons_succ, List.getElem?_cons_zero] at c0 c2 c4
      clear hv6 hc6
      obtain ⟨cb, hcb⟩ : ∃ cb, (qn.toList == nn.toList) = cb := ⟨_, rfl⟩
      have hnb : (qn.toList != nn.toList) = !cb := by rw [bne, hcb]
      have HCB : Hid (decide (qn = nn) = cb) := Lib.hid (by rw [str_beq8, hcb])
      have HTK : Hid (without (F.take (j + 1)) nn = if qn = nn then without (F.take j) nn else without (F.take j) nn ++ [(qn, qi)]) := Lib.hid (by
        rw [take_snoc _ _ _ HX.out]
        unfold without
        rw [List.filter_append, List.filter_cons]
        by_cases he : qn = nn
        · rw [if_pos he]; simp [he]
        · rw [if_neg he]; simp [he])
      cases cb with
      | true =>
        simp only [Bool.not_true] at hnb
        go_wp2
        go_roundw
        case rel => exact ⟨j + 1, m, A', c', Z, by omega, by omega, by go_num, rfl, rfl, HZ6.out, by rw [HVAL.out, HTK.out, if_pos (of_decide_eq_true HCB.out)], HC6.out, HNW.out⟩
        case measure => simp [intOf]; omega
      | false =>
        simp only [Bool.not_false] at hnb
        go_wp2_with (at_builtin; refine wpList_app rfl _ _ rfl etyRNames rfl (HZ6.out.chg ((Chg.refl [] W6).alloc (.cells #[.string qn, .int .i64 (qi : Nat)] 108)) (fun _ _ => List.not_mem_nil)) rfl (Own.lit W6 108 2 #[.string qn, .int .i64 (qi : Nat)] 1 (by decide) rfl).rd (nmv_one [(qn, qi)]) (by unfold maxLen; omega) (by omega) ?_; intro A4 c4 w4 hown4 hchg4 hnew4 _; have HO4 := Lib.hid hown4; have HC4 := Lib.hid hchg4; have HN4 := Lib.hid hnew4; clear hown4 hchg4 hnew4)
        have hAl4 : Chg [] W6 (W6.alloc (.cells #[.string qn, .int .i64 (qi : Nat)] 108)) := (Chg.refl [] W6).alloc _
        have HZ4 : Hid (Own w4 108 2 A4 (m + 1) c4 (nmv (Z ++ [(qn, qi)]))) := Lib.hid (by
          have := HO4.out
          rw [nmv_append]
          exact this)
        have HD4 : Hid (Chg [] w1 w4) := Lib.hid (((HC6.out).trans0 hAl4).trans HC4.out (fun x hx => .inr (HNW.out x hx)))
        have HM4 : Hid (∀ k ∈ bo A4, w1.heap.size ≤ k) := Lib.hid (fun k hk => by
          rcases HN4.out k hk with h | h
          · exact HNW.out k h
          · have h1 := (HC6.out).size; have h2 := h.1; simp at h2; omega)
        clear hAl4
        go_roundw
        case rel => exact ⟨j + 1, m + 1, A4, c4, Z ++ [(qn, qi)], by omega, by omega, by go_num, rfl, rfl, HZ4.out, by rw [HVAL.out, HTK.out, if_neg (of_decide_eq_false HCB.out)], HD4.out, HM4.out⟩
        case measure => simp [intOf]; omega
    · obtain rfl : j = fn := by omega
      have HV : Hid (Z = without F nn) := Lib.hid (by rw [HVAL.out, List.take_of_length_le (by have := HFN.out; omega)])
      have HZV : Hid (Own wr 108 2 A' m c' (nmv (without F nn))) := Lib.hid (by rw [← HV.out]; exact HZ.out)
      clear b0 b1 b2 b4
      have b1 := (HBK.out.chg (HCH.out) List.not_mem_nil).cell 1
      simp only [List.getElem?_toArray, List.getElem?_cons_succ, List.getElem?_cons_zero] at b1
      go_wp2_with fail
      refine wp_region_held_drew (S := fun w' => Chg [] wr w') (by kernel_rfl) ((Chg.refl _ _).drew) (fun hHeld => ?_)
      refine wpAnyH_take (i := 0) (v := ?_) rfl (by kernel_rfl) (by kernel_rfl) (by kernel_rfl) (fun _ _ _ h => h) (Or.inl ⟨by rfl, ?_⟩) (by assumption) ?_
      rotate_left
      · (intro w' hSw; go_simp; try with_reducible rfl)
      try simp only [Act.put, put8]
      refine wpAnyH_take (i := 1) (v := ?_) rfl (by kernel_rfl) (by kernel_rfl) (by kernel_rfl) (fun _ _ _ h => h) (Or.inl ⟨by rfl, ?_⟩) (by assumption) ?_
      rotate_left
      · (intro w' hSw; go_simp; try with_reducible rfl)
      try simp only [Act.put, put8]
      refine wpAnyH_take (i := 2) (v := ?_) rfl (by kernel_rfl) (by kernel_rfl) (by kernel_rfl) (fun _ _ _ h => h) (Or.inl ⟨by rfl, ?_⟩) (by assumption) ?_
      rotate_left
      · (intro w' hSw; have y := hSw.cell b1 List.not_mem_nil; go_simp; try with_reducible rfl)
      try simp only [Act.put, put8]
      refine wpAnyH_take (i := 4) (v := ?_) rfl (by kernel_rfl) (by kernel_rfl) (by kernel_rfl) (fun _ _ _ h => h) (Or.inl ⟨by rfl, ?_⟩) (by assumption) ?_
      rotate_left
      · (intro w' hSw; go_simp; try with_reducible rfl)
      try simp only [Act.put, put8]
      refine wpAnyH_take (i := 5) (v := ?_) rfl (by kernel_rfl) (by kernel_rfl) (by kernel_rfl) (fun _ _ _ h => h) (Or.inl ⟨by rfl, ?_⟩) (by assumption) ?_
      rotate_left
      · (intro w' hSw; have y := hSw.cell b1 List.not_mem_nil; go_simp; try with_reducible rfl)
      try simp only [Act.put, put8]
      refine wpAnyH_take (i := 6) (v := ?_) rfl (by kernel_rfl) (by kernel_rfl) (by kernel_rfl) (fun _ _ _ h => h) (Or.inl ⟨by rfl, ?_⟩) (by assumption) ?_
      rotate_left
      · (intro w' hSw; go_simp; try with_reducible rfl)
      try simp only [Act.put, put8]
      refine wpAnyH_take (i := 7) (v := ?_) rfl (by kernel_rfl) (by kernel_rfl) (by kernel_rfl) (fun _ _ _ h => h) (Or.inl ⟨by rfl, ?_⟩) (by assumption) ?_
      rotate_left
      · (intro w' hSw; go_simp; try with_reducible rfl)
      try simp only [Act.put, put8]
      refine wpAnyH_ready (rs := [3]) (by kernel_rfl) (by simp) ?_
      refine AllReadyH.cons rfl (fun K hK => ?_) (AllReadyH.nil)
      go_simp
      refine (rwithout_any _ n c rs d _ ((HA.out.chg0 HCH.out).chg0 hHeld) (by omega)).mono ?_
      rintro ee u3 ⟨B3, e3, rs3, rfl, t1, t2, hc, t4⟩
      have HT3 := Lib.hid t1
      have HV3 := Lib.hid t2
      have HK3 := Lib.hid t4
      have hH3 := hHeld.trans0 hc
      have HQ3 : Hid (Chg [] wr u3) := Lib.hid hH3
      have HZ3 : Hid (wr.heap.size ≤ wr.drew.heap.size) := Lib.hid (Nat.le_refl _)
      obtain ⟨l3, hl3⟩ : ∃ l3, (without (rval rs) d).length = l3 := ⟨_, rfl⟩
      rw [hl3] at HT3 ⊢
      have hl3' : l3 ≤ 536870912 := by rw [← hl3]; exact Nat.le_trans (len_without_le _ _) HTL.out
      clear t1 t2 t4 hc hl3
      refine hK.out _ _ (hH3) (fun hHeld => ?_)
      try simp only [Act.put, put8]
      clear hK K
      refine wpAnyH_ready (rs := [8]) (by kernel_rfl) (by simp) ?_
      refine AllReadyH.cons rfl (fun K hK => ?_) (AllReadyH.nil)
      go_simp
      refine (rwith_any _ l3 e3 rs3 d A' m c' (without F nn) _ HT3.out (HZV.out.rd.chg hH3 (fun _ _ => List.not_mem_nil)) hl3').mono ?_
      rintro ee u5 ⟨B5, e5, rs5, rfl, t1, t2, hc, t4⟩
      have HR : Hid (TrIn (rblk rs) w (Chn.on (rval rs) (.remove d nn)) (.returned (.slice B5 (withS d (without F nn) (rval rs3)).length e5)) u5) := Lib.hid (by
        have h1 : TrIn (rblk rs3 ++ bo A') u3 (withS d (without F nn) (rval rs3)) (.returned (.slice B5 (withS d (without F nn) (rval rs3)).length e5)) u5 := ⟨B5, e5, rs5, rfl, t1, t2, hc, t4⟩
        rw [HV3.out] at h1 ⊢
        rw [HON.out]
        have c12 := HCW.out.trans0 (HCH.out)
        refine h1.sub (c12.trans0 HQ3.out) (fun k hk => ?_)
        have z3 := HQ3.out.size
        have z12 := c12.size
        have zw := HCW.out.size
        have zz := HZ3.out
        rcases List.mem_append.1 hk with hk | hk
        · rcases HK3.out k (List.mem_append_right _ hk) with h | h
          · exact .inl h
          · exact .inr ⟨by omega, h.2⟩
        · have h1 := HNW.out k hk; have h2 := HZV.out.lt k hk; exact .inr ⟨by omega, by omega⟩)
      have hH5 := hH3.trans0 hc
      obtain ⟨l5, hl5⟩ : ∃ l5, (withS d (without F nn) (rval rs3)).length = l5 := ⟨_, rfl⟩
      rw [hl5] at HR ⊢
      clear t1 t2 t4 hc hl5
      refine hK.out _ _ (hH5) (fun hHeld => ?_)
      try simp only [Act.put, put8]
      clear hK K
      refine wpAnyH_take (i := 9) (v := ?_) rfl (by kernel_rfl) (by kernel_rfl) (by kernel_rfl) (fun _ _ _ h => h) (Or.inl ⟨by rfl, ?_⟩) (by assumption) ?_
      rotate_left
      · (intro w' hSw; go_simp; try with_reducible rfl)
      try simp only [Act.put, put8]
      refine wpAnyH_done (by kernel_rfl) ?_ _
      try simp only [Act.put, put8]
      clear hHeld hH3 hH5 b1
      go_wp2
      go_ret
      exact HR.out
end Go.Proofs.YtgomofeidghmiaaGreat
