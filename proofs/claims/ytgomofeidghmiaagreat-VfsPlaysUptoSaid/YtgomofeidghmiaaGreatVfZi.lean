/-
  Layer 08: the law's sameTexts, same, model.
-/
import Derived.Test.YtgomofeidghmiaaGreatVfZh
namespace Go.Proofs.YtgomofeidghmiaaGreat
open Go.RowKit

theorem rd_str8 {w : World} {A : Option Addr} {n c : Nat} {ns : List ByteArray} (h : Rd w 1 A n c (svs ns)) {j : Nat} {s : ByteArray} (hs : ns[j]? = some s) : ∃ ad, A = some ad ∧ w.cell? (ad.add j) = some (.string s) := by
  have hl : ns.length = n := by have := h.1; simpa [svs] using this
  have hj := (List.getElem?_eq_some_iff.1 hs).1
  obtain ⟨ad, u, hA, hu, hc⟩ := h.at1 (k := j) (by omega)
  unfold svs at hu
  rw [List.getElem?_map, hs] at hu
  simp only [Option.map_some, Option.some.injEq] at hu
  subst hu
  exact ⟨ad, hA, hc⟩

set_option maxRecDepth 100000 in
set_option maxHeartbeats 6400000 in
theorem ltexts_any (A : Option Addr) (n c : Nat) (B : Option Addr) (m d : Nat) (ns : List ByteArray) (w : World) (ha : Rd w 1 A n c (svs ns)) (hb : Rd w 1 B m d (svs ns)) (hn : n ≤ 1073741824) :
    Calls Tryz.prog 38 #[.slice A n c, .slice B m d] w fun e w' => e = .returned (.bool true) ∧ Chg [] w w' := by
  have hl : ns.length = n := by have := ha.1; simpa [svs] using this
  have hl2 : ns.length = m := by have := hb.1; simpa [svs] using this
  obtain rfl : m = n := by omega
  have HA := Lib.hid ha
  have HB := Lib.hid hb
  have HL := Lib.hid hl
  clear ha hb hl hl2
  go_enter Tryz.func38, Tryz.ntmps38
  go_wp2
  go_loopw [13] (fun q wr => ∃ i : Nat, i ≤ m ∧ q = .int .i64 i ∧ Chg [] w wr) (fun q _ => m - (intOf q).toNat)
  case atStart => exact ⟨0, Nat.zero_le _, rfl, Chg.refl _ _⟩
  case round =>
    obtain ⟨i, hi, rfl, hch⟩ := hrel
    have HCH := Lib.hid hch
    clear hch
    by_cases hlt : i < m
    · have hlt' : (i : Int) < m := by omega
      have hi0 : (0 : Int) ≤ (i : Int) := by omega
      obtain ⟨s, hs⟩ : ∃ s, ns[i]? = some s := ⟨_, List.getElem?_eq_getElem (by have := HL.out; omega)⟩
      obtain ⟨ad, rfl, x0⟩ := rd_str8 (HA.out.chg HCH.out (fun _ _ => List.not_mem_nil)) hs
      obtain ⟨bd, rfl, y0⟩ := rd_str8 (HB.out.chg HCH.out (fun _ _ => List.not_mem_nil)) hs
      clear hs
      go_wp2_with fail
      refine wp_region_held_drew (S := fun w' => Chg [] wr w') (by kernel_rfl) ((Chg.refl _ _).drew) (fun hHeld => ?_)
      refine wpAnyH_take (i := 0) (v := ?_) rfl (by kernel_rfl) (by kernel_rfl) (by kernel_rfl) (fun _ _ _ h => h) (Or.inl ⟨by rfl, ?_⟩) (by assumption) ?_
      rotate_left
      · (intro w' hSw; go_simp; try with_reducible rfl)
      try simp only [Act.put, put8]
      refine wpAnyH_take (i := 1) (v := ?_) rfl (by kernel_rfl) (by kernel_rfl) (by kernel_rfl) (fun _ _ _ h => h) (Or.inl ⟨by rfl, ?_⟩) (by assumption) ?_
      rotate_left
      · (intro w' hSw; go_simp; try with_reducible rfl)
      try simp only [Act.put, put8]
      refine wpAnyH_take (i := 2) (v := ?_) rfl (by kernel_rfl) (by kernel_rfl) (by kernel_rfl) (fun _ _ _ h => h) (Or.inl ⟨by rfl, ?_⟩) (by assumption) ?_
      rotate_left
      · (intro w' hSw; go_simp; try with_reducible rfl)
      try simp only [Act.put, put8]
      refine wpAnyH_take (i := 3) (v := ?_) rfl (by kernel_rfl) (by kernel_rfl) (by kernel_rfl) (fun _ _ _ h => h) (Or.inl ⟨by rfl, ?_⟩) (by assumption) ?_
      rotate_left
      · (intro w' hSw; have y := hSw.cell x0 List.not_mem_nil; go_simp; try with_reducible rfl)
      try simp only [Act.put, put8]
      refine wpAnyH_take (i := 4) (v := ?_) rfl (by kernel_rfl) (by kernel_rfl) (by kernel_rfl) (fun _ _ _ h => h) (Or.inl ⟨by rfl, ?_⟩) (by assumption) ?_
      rotate_left
      · (intro w' hSw; go_simp; try with_reducible rfl)
      try simp only [Act.put, put8]
      refine wpAnyH_take (i := 5) (v := ?_) rfl (by kernel_rfl) (by kernel_rfl) (by kernel_rfl) (fun _ _ _ h => h) (Or.inl ⟨by rfl, ?_⟩) (by assumption) ?_
      rotate_left
      · (intro w' hSw; go_simp; try with_reducible rfl)
      try simp only [Act.put, put8]
      refine wpAnyH_take (i := 6) (v := ?_) rfl (by kernel_rfl) (by kernel_rfl) (by kernel_rfl) (fun _ _ _ h => h) (Or.inl ⟨by rfl, ?_⟩) (by assumption) ?_
      rotate_left
      · (intro w' hSw; go_simp; try with_reducible rfl)
      try simp only [Act.put, put8]
      refine wpAnyH_take (i := 7) (v := ?_) rfl (by kernel_rfl) (by kernel_rfl) (by kernel_rfl) (fun _ _ _ h => h) (Or.inl ⟨by rfl, ?_⟩) (by assumption) ?_
      rotate_left
      · (intro w' hSw; have y := hSw.cell y0 List.not_mem_nil; go_simp; try with_reducible rfl)
      try simp only [Act.put, put8]
      refine wpAnyH_take (i := 8) (v := ?_) rfl (by kernel_rfl) (by kernel_rfl) (by kernel_rfl) (fun _ _ _ h => h) (Or.inl ⟨by rfl, ?_⟩) (by assumption) ?_
      rotate_left
      · (intro w' hSw; go_simp; try with_reducible rfl)
      try simp only [Act.put, put8]
      refine wpAnyH_done (by kernel_rfl) ?_ _
      try simp only [Act.put, put8]
      have HCD : Hid (Chg [] w wr.drew) := Lib.hid HCH.out.drew
      clear hHeld x0 y0
      generalize wr.drew = w1 at HCD ⊢
      go_wp2
      go_roundw
      case rel => exact ⟨i + 1, by omega, by go_num, HCD.out⟩
      case measure => simp [intOf]; omega
    · obtain rfl : i = m := by omega
      go_wp2
      go_ret
      exact ⟨rfl, HCH.out⟩

set_option maxRecDepth 100000 in
set_option maxHeartbeats 6400000 in
theorem lsame_any (cd : Int) (A : Option Addr) (n c : Nat) (A2 : Option Addr) (n2 c2 : Nat) (xs : List Int) (D : Option Addr) (m d : Nat) (D2 : Option Addr) (m2 d2 : Nat) (ns : List ByteArray) (w : World)
    (h1 : Rd w 1 A n c (bv xs)) (h2 : Rd w 1 A2 n2 c2 (bv xs)) (h3 : Rd w 1 D m d (svs ns)) (h4 : Rd w 1 D2 m2 d2 (svs ns)) (hm : m ≤ 1073741824) :
    Calls Tryz.prog 9 #[.agg #[.int .i64 cd, .slice A n c, .slice D m d], .agg #[.int .i64 cd, .slice A2 n2 c2, .slice D2 m2 d2]] w fun e w' => e = .returned (.bool true) ∧ Chg [] w w' := by
  have H1 := Lib.hid h1
  have H2 := Lib.hid h2
  have H3 := Lib.hid h3
  have H4 := Lib.hid h4
  clear h1 h2 h3 h4
  go_enter Tryz.func9, Tryz.ntmps9
  obtain ⟨sb, hsb⟩ : ∃ sb, w.heap.size = sb := ⟨_, rfl⟩
  obtain ⟨fb, hfb⟩ : ∃ fb, sb + 1 = fb := ⟨_, rfl⟩
  obtain ⟨W, hW⟩ : ∃ W, (w.alloc (.cells #[.int .i64 cd, .slice A n c, .slice D m d] 36)).alloc (.cells #[.int .i64 cd, .slice A2 n2 c2, .slice D2 m2 d2] 36) = W := ⟨_, rfl⟩
  have hb1 : Blk W sb 36 #[.int .i64 cd, .slice A n c, .slice D m d] := by rw [← hW, ← hsb]; exact (Blk.new w _ _).alloc _
  have hb2 : Blk W fb 36 #[.int .i64 cd, .slice A2 n2 c2, .slice D2 m2 d2] := by
    have := Blk.new (w.alloc (.cells #[.int .i64 cd, .slice A n c, .slice D m d] 36)) 36 #[.int .i64 cd, .slice A2 n2 c2, .slice D2 m2 d2]
    rw [← hW, ← hfb, ← hsb]
    simpa using this
  have hcW : Chg [] w W := by rw [← hW]; exact ((Chg.refl [] w).alloc _).alloc _
  have HB1 := Lib.hid hb1
  have HB2 := Lib.hid hb2
  have HCW := Lib.hid hcW
  have x0 := hb1.cell 0
  have x1 := hb1.cell 1
  have y0 := hb2.cell 0
  have y1 := hb2.cell 1
  simp only [List.getElem?_toArray, List.getElem?_cons_succ, List.getElem?_cons_zero] at x0 x1 y0 y1
  clear hb1 hb2 hcW
  go_wp2_with fail
  refine (sameb_any A n c xs A2 n2 c2 xs W (H1.out.chg HCW.out (fun _ _ => List.not_mem_nil)) (H2.out.chg HCW.out (fun _ _ => List.not_mem_nil))).mono ?_
  rintro e w1 ⟨bb, rfl, hbb, hc⟩
  rw [hbb rfl]
  have HC1 := Lib.hid hc
  have x2 := (HB1.out.chg hc List.not_mem_nil).cell 2
  have y2 := (HB2.out.chg hc List.not_mem_nil).cell 2
  simp only [List.getElem?_toArray, List.getElem?_cons_succ, List.getElem?_cons_zero] at x2 y2
  clear hbb hc x0 x1 y0 y1
  go_wp2_with fail
  refine (ltexts_any D m d D2 m2 d2 ns w1 (H3.out.chg (HCW.out.trans0 HC1.out) (fun _ _ => List.not_mem_nil)) (H4.out.chg (HCW.out.trans0 HC1.out) (fun _ _ => List.not_mem_nil)) hm).mono ?_
  rintro e w2 ⟨rfl, hc⟩
  have HC2 := Lib.hid hc
  clear hc x2 y2
  go_wp2
  go_ret
  exact ⟨rfl, (HCW.out.trans0 HC1.out).trans0 HC2.out⟩

/-- the document's answer -/
def RCallTo (w : World) (R : RfG) (r : St × Int × List Int × List ByteArray) (e : Ending) (w' : World) : Prop :=
  ∃ dA dn dc nA nn nc, e = .returned (.agg #[.int .i64 r.2.1, .slice dA dn dc, .slice nA nn nc]) ∧ Own w' 5 1 dA dn dc (bv r.2.2.1) ∧ Own w' 9 1 nA nn nc (svs r.2.2.2) ∧ RfTo w R r.1 w'
theorem rcallTo_code {w W1 w3 : World} {R : RfG} {S' : St} {rb : Nat} {cd : Int} {v1 v2 v3 : Value} (hW : Chg [] w W1) (hrb : rb ∉ R.all) (hrw : w.heap.size ≤ rb ∧ rb < W1.heap.size) (hf : RfTo W1 R S' w3) :
    RCallTo w R (S', cd, [], []) (.returned (.agg #[.int .i64 cd, .slice none 0 0, .slice none 0 0])) (((w3.setCell ⟨rb, 0, none⟩ v1).setCell ⟨rb, 1, none⟩ v2).setCell ⟨rb, 2, none⟩ v3) := by
  obtain ⟨R', h1, h2, h3, h4⟩ := hf
  have hcs : Chg [rb] w3 (((w3.setCell ⟨rb, 0, none⟩ v1).setCell ⟨rb, 1, none⟩ v2).setCell ⟨rb, 2, none⟩ v3) := (((Chg.refl _ _).setCell (.inl (by simp)) _).setCell (.inl (by simp)) _).setCell (.inl (by simp)) _
  refine ⟨none, 0, 0, none, 0, 0, rfl, Own.nil _ _ _, Own.nil _ _ _, R', h1.keep hcs (fun x hx hm => ?_), h2, fun x hx => (h3 x hx).imp id (fun h => Nat.le_trans hW.size h), ((hW.nil R.all).trans h4 (fun x hx => .inl hx)).trans hcs (fun x hx => .inr (by simp at hx; omega))⟩
  simp only [List.mem_singleton] at hm
  subst hm
  rcases h3 x hx with h | h
  · exact hrb h
  · omega
theorem rcallTo_row {w W1 w3 : World} {R : RfG} {S : St} {rb : Nat} {cd : Int} {v1 v2 v3 : Value} {dA nA : Option Addr} {dn dc nn nc : Nat} {xs : List Int} {ns : List ByteArray} (hW : Chg [] w W1) (hrb : rb ∉ R.all) (hrw : w.heap.size ≤ rb ∧ rb < W1.heap.size) (hf : RfM W1 R S) (hc : Chg [] W1 w3)
    (ho : Own w3 5 1 dA dn dc (bv xs)) (hs : Own w3 9 1 nA nn nc (svs ns)) (hd : ∀ k ∈ bo dA, W1.heap.size ≤ k) (hn : ∀ k ∈ bo nA, W1.heap.size ≤ k) :
    RCallTo w R (S, cd, xs, ns) (.returned (.agg #[.int .i64 cd, .slice dA dn dc, .slice nA nn nc])) (((w3.setCell ⟨rb, 0, none⟩ v1).setCell ⟨rb, 1, none⟩ v2).setCell ⟨rb, 2, none⟩ v3) := by
  have hcs : Chg [rb] w3 (((w3.setCell ⟨rb, 0, none⟩ v1).setCell ⟨rb, 1, none⟩ v2).setCell ⟨rb, 2, none⟩ v3) := (((Chg.refl _ _).setCell (.inl (by simp)) _).setCell (.inl (by simp)) _).setCell (.inl (by simp)) _
  refine ⟨dA, dn, dc, nA, nn, nc, rfl, ho.chg hcs (fun k hk hm => ?_), hs.chg hcs (fun k hk hm => ?_), R, (hf.keep0 hc).keep hcs (fun x hx hm => ?_), rfl, fun x hx => .inl hx, ((hW.trans0 hc).trans hcs (fun x hx => .inr (by simp at hx; omega))).nil _⟩
  · simp only [List.mem_singleton] at hm
    have := hd k hk; omega
  · simp only [List.mem_singleton] at hm
    have := hn k hk; omega
  · simp only [List.mem_singleton] at hm
    subst hm
    exact hrb hx

set_option maxRecDepth 100000 in
set_option maxHeartbeats 6400000 in
theorem lmodel_any {w : World} {R : RfG} {S : St} {B : Nat} (h : RfM w R S) (hi : Inv B S) (o : O8) (hd : Rd w 1 o.A o.n o.c (bv o.data)) (hB : B + o.n + 2 ≤ 536870912) :
    Calls Tryz.prog 10 #[.pointer (some ⟨R.b, 0, none⟩), .agg #[.int .i64 o.kind, .string o.dir, .string o.name, .string o.dest, .slice o.A o.n o.c]] w (RCallTo w R (callK S (kd o.kind) o.dir o.name o.dest o.data)) := by
  have HR := Lib.hid h
  have HI := Lib.hid hi
  have HD := Lib.hid hd
  have hm := (kd_eq o.kind).2
  have hk := (kd_eq o.kind).1
  generalize kd o.kind = m at hm hk ⊢
  have HK := Lib.hid hk
  obtain ⟨kind, dir, name, dest, A, n, c, data⟩ := o
  simp only at hB
  clear h hi hd hk
  go_enter Tryz.func10, Tryz.ntmps10
  obtain ⟨sb, hsb⟩ : ∃ sb, w.heap.size = sb := ⟨_, rfl⟩
  obtain ⟨rb, hrb⟩ : ∃ rb, sb + 1 = rb := ⟨_, rfl⟩
  obtain ⟨W1, hW1⟩ : ∃ W1, (w.alloc (.cells #[.int .i64 kind, .string dir, .string name, .string dest, .slice A n c] 33)).alloc (.cells #[.int .i64 0, .slice none 0 0, .slice none 0 0] 36) = W1 := ⟨_, rfl⟩
  have hb1 : Blk W1 sb 33 #[.int .i64 kind, .string dir, .string name, .string dest, .slice A n c] := by rw [← hW1, ← hsb]; exact (Blk.new w _ _).alloc _
  have hb2 : Blk W1 rb 36 #[.int .i64 0, .slice none 0 0, .slice none 0 0] := by
    have := Blk.new (w.alloc (.cells #[.int .i64 kind, .string dir, .string name, .string dest, .slice A n c] 33)) 36 #[.int .i64 0, .slice none 0 0, .slice none 0 0]
    rw [← hW1, ← hrb, ← hsb]
    simpa using this
  have hcW : Chg [] w W1 := by rw [← hW1]; exact ((Chg.refl [] w).alloc _).alloc _
  have HB2 := Lib.hid hb2
  have HCW := Lib.hid hcW
  have HRW := Lib.hid (HR.out.keep0 hcW)
  have HRBW : Hid (w.heap.size ≤ rb ∧ rb < W1.heap.size) := Lib.hid ⟨by omega, hb2.lt⟩
  have HRB : Hid (rb ∉ R.all) := Lib.hid (fun hh => by have := HR.out.lt rb hh; omega)
  have x0 := hb1.cell 0
  have q1 := hb1.cell 1
  have q2 := hb1.cell 2
  have q3 := hb1.cell 3
  have q4 := hb1.cell 4
  simp only [List.getElem?_toArray, List.getElem?_cons_succ, List.getElem?_cons_zero] at x0 q1 q2 q3 q4
  clear hb1 hb2 hcW
  go_upto_region 2 with fail
  rw [HK.out]
  clear x0
  have hcs : m = 0 ∨ m = 1 ∨ m = 2 ∨ m = 3 ∨ m = 4 ∨ m = 5 ∨ m = 6 ∨ m = 7 ∨ m = 8 ∨ m = 9 ∨ m = 10 ∨ m = 11 ∨ m = 12 ∨ m = 13 ∨ m = 14 ∨ m = 15 := by omega
  rcases hcs with rfl | rfl | rfl | rfl | rfl | rfl | rfl | rfl | rfl | rfl | rfl | rfl | rfl | rfl | rfl | rfl
  · go_wp2_with fail
    refine (rmkdir_any HRW.out HI.out (by omega) dir).mono ?_
    rintro e w3 ⟨rfl, hto⟩
    have HB3 := Lib.hid (HB2.out.chg hto.chg HRB.out)
    have y0 := HB3.out.cell 0
    have y1 := HB3.out.cell 1
    have y2 := HB3.out.cell 2
    have z0 := HB3.out.frozen 0
    have z1 := HB3.out.frozen 1
    have z2 := HB3.out.frozen 2
    simp only [List.getElem?_toArray, List.getElem?_cons_succ, List.getElem?_cons_zero] at y0 y1 y2
    have HTO := Lib.hid hto
    clear hto
    go_wp2
    refine bodyPost_ret (by simp [results, Tryz.results10, go_sem, y0, y1, y2]; try rfl) rfl ?_
    exact rcallTo_code HCW.out HRB.out HRBW.out HTO.out
  · go_wp2_with fail
    refine (rcreate_any HRW.out HI.out (by omega) dir name).mono ?_
    rintro e w3 ⟨rfl, hto⟩
    have HB3 := Lib.hid (HB2.out.chg hto.chg HRB.out)
    have y0 := HB3.out.cell 0
    have y1 := HB3.out.cell 1
    have y2 := HB3.out.cell 2
    have z0 := HB3.out.frozen 0
    have z1 := HB3.out.frozen 1
    have z2 := HB3.out.frozen 2
    simp only [List.getElem?_toArray, List.getElem?_cons_succ, List.getElem?_cons_zero] at y0 y1 y2
    have HTO := Lib.hid hto
    clear hto
    go_wp2
    refine bodyPost_ret (by simp [results, Tryz.results10, go_sem, y0, y1, y2]; try rfl) rfl ?_
    exact rcallTo_code HCW.out HRB.out HRBW.out HTO.out
  · go_wp2_with fail
    refine (rwrite_any HRW.out HI.out dir name A n c data (HD.out.chg HCW.out (fun _ _ => List.not_mem_nil)) (by omega)).mono ?_
    rintro e w3 ⟨rfl, hto⟩
    have HB3 := Lib.hid (HB2.out.chg hto.chg HRB.out)
    have y0 := HB3.out.cell 0
    have y1 := HB3.out.cell 1
    have y2 := HB3.out.cell 2
    have z0 := HB3.out.frozen 0
    have z1 := HB3.out.frozen 1
    have z2 := HB3.out.frozen 2
    simp only [List.getElem?_toArray, List.getElem?_cons_succ, List.getElem?_cons_zero] at y0 y1 y2
    have HTO := Lib.hid hto
    clear hto
    go_wp2
    refine bodyPost_ret (by simp [results, Tryz.results10, go_sem, y0, y1, y2]; try rfl) rfl ?_
    exact rcallTo_code HCW.out HRB.out HRBW.out HTO.out
  · go_wp2_with fail
    refine (rsync8_any HRW.out HI.out (by omega) dir name).mono ?_
    rintro e w3 ⟨rfl, hto⟩
    have HB3 := Lib.hid (HB2.out.chg hto.chg HRB.out)
    have y0 := HB3.out.cell 0
    have y1 := HB3.out.cell 1
    have y2 := HB3.out.cell 2
    have z0 := HB3.out.frozen 0
    have z1 := HB3.out.frozen 1
    have z2 := HB3.out.frozen 2
    simp only [List.getElem?_toArray, List.getElem?_cons_succ, List.getElem?_cons_zero] at y0 y1 y2
    have HTO := Lib.hid hto
    clear hto
    go_wp2
    refine bodyPost_ret (by simp [results, Tryz.results10, go_sem, y0, y1, y2]; try rfl) rfl ?_
    exact rcallTo_code HCW.out HRB.out HRBW.out HTO.out
  · go_wp2_with fail
    refine (rsnames_any HRW.out HI.out (by omega)).mono ?_
    rintro e w3 ⟨rfl, hto⟩
    have HB3 := Lib.hid (HB2.out.chg hto.chg HRB.out)
    have y0 := HB3.out.cell 0
    have y1 := HB3.out.cell 1
    have y2 := HB3.out.cell 2
    have z0 := HB3.out.frozen 0
    have z1 := HB3.out.frozen 1
    have z2 := HB3.out.frozen 2
    simp only [List.getElem?_toArray, List.getElem?_cons_succ, List.getElem?_cons_zero] at y0 y1 y2
    have HTO := Lib.hid hto
    clear hto
    go_wp2
    refine bodyPost_ret (by simp [results, Tryz.results10, go_sem, y0, y1, y2]; try rfl) rfl ?_
    exact rcallTo_code HCW.out HRB.out HRBW.out HTO.out
  · go_wp2_with fail
    refine (rrename_any HRW.out HI.out (by omega) dir dest).mono ?_
    rintro e w3 ⟨rfl, hto⟩
    have HB3 := Lib.hid (HB2.out.chg hto.chg HRB.out)
    have y0 := HB3.out.cell 0
    have y1 := HB3.out.cell 1
    have y2 := HB3.out.cell 2
    have z0 := HB3.out.frozen 0
    have z1 := HB3.out.frozen 1
    have z2 := HB3.out.frozen 2
    simp only [List.getElem?_toArray, List.getElem?_cons_succ, List.getElem?_cons_zero] at y0 y1 y2
    have HTO := Lib.hid hto
    clear hto
    go_wp2
    refine bodyPost_ret (by simp [results, Tryz.results10, go_sem, y0, y1, y2]; try rfl) rfl ?_
    exact rcallTo_code HCW.out HRB.out HRBW.out HTO.out
  · go_wp2_with fail
    refine (rremove_any HRW.out HI.out (by omega) dir name).mono ?_
    rintro e w3 ⟨rfl, hto⟩
    have HB3 := Lib.hid (HB2.out.chg hto.chg HRB.out)
    have y0 := HB3.out.cell 0
    have y1 := HB3.out.cell 1
    have y2 := HB3.out.cell 2
    have z0 := HB3.out.frozen 0
    have z1 := HB3.out.frozen 1
    have z2 := HB3.out.frozen 2
    simp only [List.getElem?_toArray, List.getElem?_cons_succ, List.getElem?_cons_zero] at y0 y1 y2
    have HTO := Lib.hid hto
    clear hto
    go_wp2
    refine bodyPost_ret (by simp [results, Tryz.results10, go_sem, y0, y1, y2]; try rfl) rfl ?_
    exact rcallTo_code HCW.out HRB.out HRBW.out HTO.out
  · go_wp2_with fail
    refine (rrmdir_any HRW.out HI.out (by omega) dir).mono ?_
    rintro e w3 ⟨rfl, hto⟩
    have HB3 := Lib.hid (HB2.out.chg hto.chg HRB.out)
    have y0 := HB3.out.cell 0
    have y1 := HB3.out.cell 1
    have y2 := HB3.out.cell 2
    have z0 := HB3.out.frozen 0
    have z1 := HB3.out.frozen 1
    have z2 := HB3.out.frozen 2
    simp only [List.getElem?_toArray, List.getElem?_cons_succ, List.getElem?_cons_zero] at y0 y1 y2
    have HTO := Lib.hid hto
    clear hto
    go_wp2
    refine bodyPost_ret (by simp [results, Tryz.results10, go_sem, y0, y1, y2]; try rfl) rfl ?_
    exact rcallTo_code HCW.out HRB.out HRBW.out HTO.out
  · go_wp2_with fail
    refine (rread_any HRW.out HI.out (by omega) dir name).mono ?_
    rintro e w3 ⟨A3, c3, rfl, how3, hchg', hnew3⟩
    have HB3 := Lib.hid (HB2.out.chg hchg' List.not_mem_nil)
    have y0 := HB3.out.cell 0
    have y1 := HB3.out.cell 1
    have y2 := HB3.out.cell 2
    have z0 := HB3.out.frozen 0
    have z1 := HB3.out.frozen 1
    have z2 := HB3.out.frozen 2
    simp only [List.getElem?_toArray, List.getElem?_cons_succ, List.getElem?_cons_zero] at y0 y1 y2
    have HO3 := Lib.hid how3
    have HC3 := Lib.hid hchg'
    have HN3 := Lib.hid hnew3
    clear how3 hchg' hnew3
    go_wp2
    refine bodyPost_ret (by simp [results, Tryz.results10, go_sem, y0, y1, y2]; try rfl) rfl ?_
    exact rcallTo_row HCW.out HRB.out HRBW.out HRW.out HC3.out HO3.out (Own.nil _ _ _) HN3.out (by simp)
  · go_wp2_with fail
    refine (rlist_any HRW.out HI.out (by omega) dir).mono ?_
    rintro e w3 ⟨A3, c3, rfl, how3, hchg', hnew3⟩
    have HB3 := Lib.hid (HB2.out.chg hchg' List.not_mem_nil)
    have y0 := HB3.out.cell 0
    have y1 := HB3.out.cell 1
    have y2 := HB3.out.cell 2
    have z0 := HB3.out.frozen 0
    have z1 := HB3.out.frozen 1
    have z2 := HB3.out.frozen 2
    simp only [List.getElem?_toArray, List.getElem?_cons_succ, List.getElem?_cons_zero] at y0 y1 y2
    have HO3 := Lib.hid how3
    have HC3 := Lib.hid hchg'
    have HN3 := Lib.hid hnew3
    clear how3 hchg' hnew3
    go_wp2
    refine bodyPost_ret (by simp [results, Tryz.results10, go_sem, y0, y1, y2]; try rfl) rfl ?_
    exact rcallTo_row HCW.out HRB.out HRBW.out HRW.out HC3.out (Own.nil _ _ _) HO3.out (by simp) HN3.out
  · go_wp2_with fail
    refine (rdirs_any HRW.out HI.out (by omega)).mono ?_
    rintro e w3 ⟨A3, c3, rfl, how3, hchg', hnew3⟩
    have HB3 := Lib.hid (HB2.out.chg hchg' List.not_mem_nil)
    have y0 := HB3.out.cell 0
    have y1 := HB3.out.cell 1
    have y2 := HB3.out.cell 2
    have z0 := HB3.out.frozen 0
    have z1 := HB3.out.frozen 1
    have z2 := HB3.out.frozen 2
    simp only [List.getElem?_toArray, List.getElem?_cons_succ, List.getElem?_cons_zero] at y0 y1 y2
    have HO3 := Lib.hid how3
    have HC3 := Lib.hid hchg'
    have HN3 := Lib.hid hnew3
    clear how3 hchg' hnew3
    go_wp2
    refine bodyPost_ret (by simp [results, Tryz.results10, go_sem, y0, y1, y2]; try rfl) rfl ?_
    exact rcallTo_row HCW.out HRB.out HRBW.out HRW.out HC3.out (Own.nil _ _ _) HO3.out (by simp) HN3.out
  · go_wp2_with fail
    refine (rwrite_any HRW.out HI.out dir name A n c data (HD.out.chg HCW.out (fun _ _ => List.not_mem_nil)) (by omega)).mono ?_
    rintro e w3 ⟨rfl, hto⟩
    have HB3 := Lib.hid (HB2.out.chg hto.chg HRB.out)
    have y0 := HB3.out.cell 0
    have y1 := HB3.out.cell 1
    have y2 := HB3.out.cell 2
    have z0 := HB3.out.frozen 0
    have z1 := HB3.out.frozen 1
    have z2 := HB3.out.frozen 2
    simp only [List.getElem?_toArray, List.getElem?_cons_succ, List.getElem?_cons_zero] at y0 y1 y2
    have HTO := Lib.hid hto
    clear hto
    go_wp2
    refine bodyPost_ret (by simp [results, Tryz.results10, go_sem, y0, y1, y2]; try rfl) rfl ?_
    exact rcallTo_code HCW.out HRB.out HRBW.out HTO.out
  · go_wp2_with fail
    refine (rwrite_any HRW.out HI.out dir name A n c data (HD.out.chg HCW.out (fun _ _ => List.not_mem_nil)) (by omega)).mono ?_
    rintro e w3 ⟨rfl, hto⟩
    have HB3 := Lib.hid (HB2.out.chg hto.chg HRB.out)
    have y0 := HB3.out.cell 0
    have y1 := HB3.out.cell 1
    have y2 := HB3.out.cell 2
    have z0 := HB3.out.frozen 0
    have z1 := HB3.out.frozen 1
    have z2 := HB3.out.frozen 2
    simp only [List.getElem?_toArray, List.getElem?_cons_succ, List.getElem?_cons_zero] at y0 y1 y2
    have HTO := Lib.hid hto
    clear hto
    go_wp2
    refine bodyPost_ret (by simp [results, Tryz.results10, go_sem, y0, y1, y2]; try rfl) rfl ?_
    exact rcallTo_code HCW.out HRB.out HRBW.out HTO.out
  · go_wp2_with fail
    refine (rsync8_any HRW.out HI.out (by omega) dir name).mono ?_
    rintro e w3 ⟨rfl, hto⟩
    have HB3 := Lib.hid (HB2.out.chg hto.chg HRB.out)
    have y0 := HB3.out.cell 0
    have y1 := HB3.out.cell 1
    have y2 := HB3.out.cell 2
    have z0 := HB3.out.frozen 0
    have z1 := HB3.out.frozen 1
    have z2 := HB3.out.frozen 2
    simp only [List.getElem?_toArray, List.getElem?_cons_succ, List.getElem?_cons_zero] at y0 y1 y2
    have HTO := Lib.hid hto
    clear hto
    go_wp2
    refine bodyPost_ret (by simp [results, Tryz.results10, go_sem, y0, y1, y2]; try rfl) rfl ?_
    exact rcallTo_code HCW.out HRB.out HRBW.out HTO.out
  · go_wp2_with fail
    refine (rsnames_any HRW.out HI.out (by omega)).mono ?_
    rintro e w3 ⟨rfl, hto⟩
    have HB3 := Lib.hid (HB2.out.chg hto.chg HRB.out)
    have y0 := HB3.out.cell 0
    have y1 := HB3.out.cell 1
    have y2 := HB3.out.cell 2
    have z0 := HB3.out.frozen 0
    have z1 := HB3.out.frozen 1
    have z2 := HB3.out.frozen 2
    simp only [List.getElem?_toArray, List.getElem?_cons_succ, List.getElem?_cons_zero] at y0 y1 y2
    have HTO := Lib.hid hto
    clear hto
    go_wp2
    refine bodyPost_ret (by simp [results, Tryz.results10, go_sem, y0, y1, y2]; try rfl) rfl ?_
    exact rcallTo_code HCW.out HRB.out HRBW.out HTO.out
  · go_wp2_with fail
    refine (rdirs_any HRW.out HI.out (by omega)).mono ?_
    rintro e w3 ⟨A3, c3, rfl, how3, hchg', hnew3⟩
    have HB3 := Lib.hid (HB2.out.chg hchg' List.not_mem_nil)
    have y0 := HB3.out.cell 0
    have y1 := HB3.out.cell 1
    have y2 := HB3.out.cell 2
    have z0 := HB3.out.frozen 0
    have z1 := HB3.out.frozen 1
    have z2 := HB3.out.frozen 2
    simp only [List.getElem?_toArray, List.getElem?_cons_succ, List.getElem?_cons_zero] at y0 y1 y2
    have HO3 := Lib.hid how3
    have HC3 := Lib.hid hchg'
    have HN3 := Lib.hid hnew3
    clear how3 hchg' hnew3
    go_wp2
    refine bodyPost_ret (by simp [results, Tryz.results10, go_sem, y0, y1, y2]; try rfl) rfl ?_
    exact rcallTo_row HCW.out HRB.out HRBW.out HRW.out HC3.out (Own.nil _ _ _) HO3.out (by simp) HN3.out
end Go.Proofs.YtgomofeidghmiaaGreat
