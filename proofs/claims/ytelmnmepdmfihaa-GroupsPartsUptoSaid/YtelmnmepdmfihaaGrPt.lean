/-
  Layer 17: the walk of GroupsParts (its innermost loop: GrPi).
-/
import Derived.Test.YtelmnmepdmfihaaGrPi
import Derived.Laws.OwnMore
import Derived.Deep.OwnRows
namespace Go.Proofs.Ytelmnmepdmfihaa
open Go.RowKit

set_option maxRecDepth 100000 in
set_option maxHeartbeats 6400000 in
theorem lgparts_any (A : Option Addr) (n c : Nat) (ls : List Lk) (B : Option Addr) (m d : Nat) (ts : List Int) (node : Int) (w : World) (hrd : Rd w 7 A n c (lvs ls)) (hn : n ≤ 1073741824) (hts : Rd w 1 B m d (iv ts)) (hm : m ≤ 1073741824) (hwf : ∀ z ∈ ts, (Lit.int .i64 z).wf = true) :
    Calls Try.prog 7 #[.agg #[.slice A n c, .slice B m d], .int .i64 node] w fun e w' => e = .returned (.bool true) ∧ Chg [] w w' := by
  have hl : ls.length = n := by have := hrd.1; rw [lvs_length] at this; omega
  have hol : ts.length = m := by have := hts.1; simp at this; omega
  have HR := Lib.hid hrd
  have HO := Lib.hid hts
  have HL := Lib.hid hl
  have HM := Lib.hid hol
  have HWF := Lib.hid hwf
  clear hrd hts hl hol hwf
  go_enter Try.func7, Try.ntmps7
  go_wp2_with fail
  refine (gspeaks_any _).mono ?_
  rintro e w1 ⟨rfl, hc1⟩
  have hb := (Blk.new w 25 #[.slice A n c, .slice B m d]).chg hc1 (fun h => List.not_mem_nil h)
  have C1 : Chg [] w w1 := ((Chg.refl [] w).alloc _).trans0 hc1
  have z0 := hb.cell 0
  have z1 := hb.cell 1
  simp at z0 z1
  have HB := Lib.hid hb
  have HC1 := Lib.hid C1
  clear hb C1 hc1
  by_cases hmn : n = m
  · have t0 : ((n : Int) != m) = false := by simp [hmn]
    have HMN := Lib.hid hmn
    have HGA : Hid (gather ls ts node = gath ls ts node) := Lib.hid (by unfold gather; rw [if_pos (by rw [HM.out, HL.out]; exact hmn.symm)])
    clear hmn
    go_wp2_with fail
    refine (copied_any A n c ls B m d ts _ (HR.out.chg HC1.out (fun _ _ => List.not_mem_nil)) hn (HO.out.chg HC1.out (fun _ _ => List.not_mem_nil)) hm).mono ?_
    rintro e w2 ⟨A2, c2, B2, d2, rfl, hoa, hob, hc2, hna, hnb⟩
    clear z0 z1
    go_wp2_with fail
    have hb2 := (HB.out.chg hc2 (fun h => List.not_mem_nil h)).alloc (.cells #[.slice A2 n c2, .slice B2 m d2] 25)
    have hb3 := Blk.new w2 25 #[.slice A2 n c2, .slice B2 m d2]
    have hcw := (Chg.refl [] w2).alloc (.cells #[.slice A2 n c2, .slice B2 m d2] 25)
    obtain ⟨W, hW⟩ : ∃ W, W = w2.alloc (.cells #[.slice A2 n c2, .slice B2 m d2] 25) := ⟨_, rfl⟩
    rw [← hW] at hb2 hb3 hcw ⊢
    clear hW
    obtain ⟨Bi, hBi⟩ : ∃ Bi, Bi = w2.heap.size := ⟨_, rfl⟩
    rw [← hBi] at hb3 ⊢
    have HC : Hid (Chg [] w W) := Lib.hid ((HC1.out.trans0 hc2).trans0 hcw)
    have HOA := Lib.hid (hoa.chg hcw (fun _ _ => List.not_mem_nil))
    have HOB := Lib.hid (hob.chg hcw (fun _ _ => List.not_mem_nil))
    have z0 := hb2.cell 0
    simp at z0
    have HB2 := Lib.hid hb2
    have HB3 := Lib.hid hb3
    clear hBi hb2 hb3 hcw hoa hob hna hnb hc2
    have hmkb := run_make_row' (P := Try.prog) 50 4 (.bool false) 1 Try.underlying50 (by kernel_rfl) rfl .i64 .i64 n (by omega) (by omega)
    refine wp_region_held_drew (S := fun w' => Chg [] W w') (by kernel_rfl) ((Chg.refl _ _).drew) (fun hHeld => ?_)
    refine wpAnyH_take (i := 0) (v := ?_) rfl (by kernel_rfl) (by kernel_rfl) (by kernel_rfl) (fun _ _ _ h => h) (Or.inl ⟨by rfl, ?_⟩) (by assumption) ?_
    rotate_left
    · (intro w' hSw; go_simp; try with_reducible rfl)
    try simp only [Act.put, List.getElem_toArray, List.getElem_cons_zero, List.setIfInBounds_toArray, List.set_cons_zero, List.set_cons_succ]
    refine wpAnyH_take (i := 1) (v := ?_) rfl (by kernel_rfl) (by kernel_rfl) (by kernel_rfl) (fun _ _ _ h => h) (Or.inl ⟨by rfl, ?_⟩) (by assumption) ?_
    rotate_left
    · (intro w' hSw; have q := hSw.cell z0 (fun h => List.not_mem_nil h); go_simp; try with_reducible rfl)
    try simp only [Act.put, List.getElem_toArray, List.getElem_cons_zero, List.getElem_cons_succ, List.setIfInBounds_toArray, List.set_cons_zero, List.set_cons_succ]
    refine wpAnyH_take (i := 2) (v := ?_) rfl (by kernel_rfl) (by kernel_rfl) (by kernel_rfl) (fun _ _ _ h => h) (Or.inl ⟨by rfl, ?_⟩) (by assumption) ?_
    rotate_left
    · (intro w' hSw; go_simp; try with_reducible rfl)
    try simp only [Act.put, List.getElem_toArray, List.getElem_cons_zero, List.getElem_cons_succ, List.setIfInBounds_toArray, List.set_cons_zero, List.set_cons_succ]
    refine wpAnyH_take (i := 4) (v := ?_) rfl (by kernel_rfl) (by kernel_rfl) (by kernel_rfl) (fun _ _ _ h => h) (Or.inl ⟨by rfl, ?_⟩) (by assumption) ?_
    rotate_left
    · (intro w' hSw; go_simp; try with_reducible rfl)
    try simp only [Act.put, List.getElem_toArray, List.getElem_cons_zero, List.getElem_cons_succ, List.setIfInBounds_toArray, List.set_cons_zero, List.set_cons_succ]
    refine wpAnyH_take (i := 5) (v := ?_) rfl (by kernel_rfl) (by kernel_rfl) (by kernel_rfl) (fun _ _ _ h => h) (Or.inl ⟨by rfl, ?_⟩) (by assumption) ?_
    rotate_left
    · (intro w' hSw; go_simp; try with_reducible rfl)
    try simp only [Act.put, List.getElem_toArray, List.getElem_cons_zero, List.getElem_cons_succ, List.setIfInBounds_toArray, List.set_cons_zero, List.set_cons_succ]
    refine wpAnyH_ready (rs := [3]) (by kernel_rfl) (by simp) ?_
    refine AllReadyH.cons rfl (fun K hK => ?_) (AllReadyH.nil)
    go_simp
    refine hK.out _ _ (hHeld.alloc _) (fun hHeld => ?_)
    try simp only [Act.put, List.getElem_toArray, List.getElem_cons_zero, List.getElem_cons_succ, List.setIfInBounds_toArray, List.set_cons_zero, List.set_cons_succ]
    clear hK K
    refine wpAnyH_take (i := 6) (v := ?_) rfl (by kernel_rfl) (by kernel_rfl) (by kernel_rfl) (fun _ _ _ h => h) (Or.inl ⟨by rfl, ?_⟩) (by assumption) ?_
    rotate_left
    · (intro w' hSw; go_simp; try with_reducible rfl)
    try simp only [Act.put, List.getElem_toArray, List.getElem_cons_zero, List.getElem_cons_succ, List.setIfInBounds_toArray, List.set_cons_zero, List.set_cons_succ]
    refine wpAnyH_done (by kernel_rfl) ?_ _
    try simp only [Act.put, List.getElem_toArray, List.getElem_cons_zero, List.getElem_cons_succ, List.setIfInBounds_toArray, List.set_cons_zero, List.set_cons_succ]
    have ho9 : Own (W.alloc (.cells (madeCells #[.bool false] n) 4)) 4 1 (some ⟨W.heap.size, 0, none⟩) n n (metb n []) := by
      rw [metb_nil, ← toList_madeCells_one]
      exact Own.lit W 4 1 (madeCells #[.bool false] n) n (by unfold maxLen; omega) (by rw [size_madeCells]; omega)
    obtain ⟨W3, hW3⟩ : ∃ W3, W3 = (W.alloc (.cells (madeCells #[.bool false] n) 4)).drew := ⟨_, rfl⟩
    have hc3 : Chg [] W W3 := by rw [hW3]; exact ((Chg.refl _ _).alloc _).drew
    have ho93 : Own W3 4 1 (some ⟨W.heap.size, 0, none⟩) n n (metb n []) := by rw [hW3]; exact ho9.chg ((Chg.refl [] _).drew) (fun _ _ => List.not_mem_nil)
    rw [← hW3]
    obtain ⟨gm, hgm⟩ : ∃ gm, gm = W.heap.size := ⟨_, rfl⟩
    rw [← hgm] at ho93 ⊢
    have HGM : Hid (w.heap.size ≤ gm) := Lib.hid (by rw [hgm]; exact HC.out.size)
    have HO9 := Lib.hid ho93
    have HC3 := Lib.hid hc3
    have y0 := (HB3.out.chg hc3 (fun h => List.not_mem_nil h)).cell 0
    have y1 := (HB3.out.chg hc3 (fun h => List.not_mem_nil h)).cell 1
    simp at y0 y1
    clear hW3 hgm ho9 ho93 hc3 z0 hmkb
    go_wp2_with fail
    refine (gather_any A2 n c2 ls B2 m d2 ts node _ (HOA.out.rd.chg HC3.out (fun _ _ => List.not_mem_nil)) hn (HOB.out.rd.chg HC3.out (fun _ _ => List.not_mem_nil)) hm HWF.out).mono ?_
    rintro e w4 ⟨Ag, cg, rs, rfl, hbo, hc4⟩
    rw [HGA.out] at hbo ⊢
    obtain ⟨bs, hbs⟩ : ∃ bs, bs = gath ls ts node := ⟨_, rfl⟩
    rw [← hbs] at hbo ⊢
    obtain ⟨Ln, hLn⟩ : ∃ Ln, bs.length = Ln := ⟨_, rfl⟩
    rw [hLn] at hbo ⊢
    have HLN := Lib.hid hLn
    have HND : Hid ((allIds bs).Nodup) := Lib.hid (by rw [hbs]; exact gath_nodup ls ts node)
    have HTOT : Hid (off bs Ln = (incident ls node).length) := Lib.hid (by rw [← hLn, off_all, hbs, sum_gath])
    have hin : (incident ls node).length ≤ n := by rw [← HL.out]; have q := inc_le ls node ls.length; rw [inc_all] at q; exact q
    have HFN : Hid ((allIds bs).length ≤ n) := Lib.hid (by have q := HTOT.out; unfold off at q; rw [← hLn, List.take_length] at q; omega)
    have HAT : Hid (∀ i b, bs[i]? = some b → ∃ t, (tys ts (incident ls node))[i]? = some t ∧ b = bnOf ls ts node (incident ls node) t) := Lib.hid (by
      intro i b hb
      rw [hbs] at hb
      unfold gath at hb
      rw [List.getElem?_map] at hb
      cases ht : (tys ts (incident ls node))[i]? with
      | none => rw [ht] at hb; cases hb
      | some t => rw [ht] at hb; simp at hb; exact ⟨t, ht, hb.symm⟩)
    have hLnn : Ln ≤ n := by have q := gather_len ls ts node; rw [HGA.out, ← hbs, hLn, HL.out] at q; exact q
    have HBO := Lib.hid hbo
    have HC4 : Hid (Chg [] w w4) := Lib.hid ((HC.out.trans0 HC3.out).trans0 hc4)
    have HO94 : Hid (Own w4 4 1 (some ⟨gm, 0, none⟩) n n (metb n [])) := Lib.hid (HO9.out.chg hc4 (fun _ _ => List.not_mem_nil))
    have HBX : Hid (Blk w4 w.heap.size 25 #[.slice A n c, .slice B m d]) := Lib.hid ((HB2.out.chg HC3.out (fun h => List.not_mem_nil h)).chg hc4 (fun h => List.not_mem_nil h))
    have HGB : Hid (w.heap.size ≠ gm) := Lib.hid (fun e => HO94.out.blk_ne HBX.out (by decide) gm (by simp) e.symm)
    clear hbs hLn hbo hc4 y0 y1
    go_wp2
    go_loopw [38, 6, 7] (fun q tot la wr => ∃ i : Nat, i ≤ Ln ∧ q = .int .i64 i ∧ tot = .int .i64 ((off bs i : Nat) : Int) ∧ la = .int .i64 (lastT (tys ts (incident ls node)) i) ∧ Own wr 4 1 (some ⟨gm, 0, none⟩) n n (metb n ((allIds bs).take (off bs i))) ∧ Chg [gm] w4 wr) (fun q _ _ _ => Ln - (intOf q).toNat)
    case atStart => exact ⟨0, Nat.zero_le _, rfl, by rw [off_zero]; rfl, rfl, by rw [off_zero]; exact HO94.out, Chg.refl _ _⟩
    case round =>
      obtain ⟨i, hi, rfl, rfl, rfl, hom, hch⟩ := hrel
      have HOM := Lib.hid hom
      have HCH := Lib.hid hch
      clear hom hch
      by_cases hlt : i < Ln
      · obtain ⟨p, hp⟩ : ∃ p, rs[i]? = some p := ⟨_, List.getElem?_eq_getElem (by rw [HBO.out.len, HLN.out]; exact hlt)⟩
        obtain ⟨b, hb⟩ : ∃ b, bs[i]? = some b := ⟨_, List.getElem?_eq_getElem (by rw [HLN.out]; exact hlt)⟩
        obtain ⟨t, ht, hbt⟩ := HAT.out i b hb
        obtain ⟨hpt, hp3⟩ := HBO.out.row i p b hp hb
        obtain ⟨ag, rfl, y0, yk⟩ := (HBO.out.own.rd.chg HCH.out (fun x hx hm => HBO.out.own.own_ne HO94.out (by decide) x hx (by simpa using hm))).bn hp
        have y1 := yk 0 (by decide)
        have y2 := yk 1 (by decide)
        have y3 := yk 2 (by decide)
        obtain ⟨tp, s3⟩ := p
        simp only at hpt y0 y1 y2 y3 hp3
        obtain rfl : tp = t := by rw [hpt, hbt]; rfl
        have HW3 : Hid (Own3 w4 s3 b.f) := Lib.hid hp3
        have HBI := Lib.hid hb
        have HT := Lib.hid ht
        have HBT : Hid (b = bnOf ls ts node (incident ls node) tp) := Lib.hid hbt
        have hsz := sz_pos (ls := ls) (node := node) (List.mem_of_getElem? ht)
        rw [← hbt] at hsz
        have hl0 := own_len (hp3 0 (by decide))
        have hl1 := own_len (hp3 1 (by decide))
        have hl2 := own_len (hp3 2 (by decide))
        have hfl : ∀ k, (b.f k).length ≤ n := fun k => by rw [hbt]; have q := pk_le ls ts node (incident ls node) tp k; simp only [bnOf]; omega
        have HFL := Lib.hid hfl
        have k0 := hfl 0
        have k1 := hfl 1
        have k2 := hfl 2
        unfold sz at hsz
        rw [hl0, hl1, hl2] at hsz
        rw [hl0] at k0; rw [hl1] at k1; rw [hl2] at k2
        have hw1 : IntKind.i64.wrap ((s3.n 0 : Int) + (s3.n 1 : Int)) = (s3.n 0 : Int) + (s3.n 1 : Int) := by rw [IntKind.wrap_i64]; omega
        have hw2 : IntKind.i64.wrap ((s3.n 0 : Int) + (s3.n 1 : Int) + (s3.n 2 : Int)) = (s3.n 0 : Int) + (s3.n 1 : Int) + (s3.n 2 : Int) := by rw [IntKind.wrap_i64]; omega
        have hz0 : ((s3.n 0 : Int) + (s3.n 1 : Int) + (s3.n 2 : Int) == 0) = false := by simp; omega
        have HGK : Hid (wr.heap.size ≠ gm) := Lib.hid (fun e => by have q := HOM.out.lt gm (by simp); omega)
        have HGK1 : Hid (wr.heap.size + 1 ≠ gm) := Lib.hid (fun e => by have q := HOM.out.lt gm (by simp); omega)
        have htlast : 0 < i → decide (tp ≤ lastT (tys ts (incident ls node)) i) = false := fun h => by
          unfold lastT
          rw [if_neg (by omega)]
          have h1 := (List.getElem?_eq_some_iff.1 ht).1
          obtain ⟨_, h2⟩ := List.getElem?_eq_some_iff.1 ht
          rw [List.getElem?_eq_getElem (show i - 1 < (tys ts (incident ls node)).length by omega)]
          have q := List.pairwise_iff_getElem.1 (tys_sorted ts (incident ls node)) (i - 1) i (by omega) h1 (by omega)
          simp; omega
        clear hb ht hbt hpt hp3 yk hsz hl0 hl1 hl2 hp
        obtain ⟨t, rfl⟩ : ∃ t, t = tp := ⟨_, rfl⟩
        by_cases hpi : 0 < i
        · have t4 := htlast hpi
          clear htlast
          go_wp2
          obtain ⟨wk, hwk⟩ : ∃ wk : World, wk = wr := ⟨_, rfl⟩
          subst hwk
          have HBK0 : Hid (Blk (wk.alloc (.cells #[.int .i64 t, .slice (s3.A 0) (s3.n 0) (s3.c 0), .slice (s3.A 1) (s3.n 1) (s3.c 1), .slice (s3.A 2) (s3.n 2) (s3.c 2)] 52)) wk.heap.size 52 #[.int .i64 t, s3.sl 0, s3.sl 1, s3.sl 2]) := Lib.hid (Blk.new _ _ _)
          have HBS0 : Hid (Blk ((wk.alloc (.cells #[.int .i64 t, .slice (s3.A 0) (s3.n 0) (s3.c 0), .slice (s3.A 1) (s3.n 1) (s3.c 1), .slice (s3.A 2) (s3.n 2) (s3.c 2)] 52)).alloc (.cells #[.slice (s3.A 0) (s3.n 0) (s3.c 0), .slice (s3.A 1) (s3.n 1) (s3.c 1), .slice (s3.A 2) (s3.n 2) (s3.c 2)] 23)) (wk.heap.size + 1) 23 #[s3.sl 0, s3.sl 1, s3.sl 2]) := Lib.hid (by
            have q := Blk.new (wk.alloc (.cells #[.int .i64 t, .slice (s3.A 0) (s3.n 0) (s3.c 0), .slice (s3.A 1) (s3.n 1) (s3.c 1), .slice (s3.A 2) (s3.n 2) (s3.c 2)] 52)) 23 #[s3.sl 0, s3.sl 1, s3.sl 2]
            rw [show (wk.alloc (.cells #[.int .i64 t, .slice (s3.A 0) (s3.n 0) (s3.c 0), .slice (s3.A 1) (s3.n 1) (s3.c 1), .slice (s3.A 2) (s3.n 2) (s3.c 2)] 52)).heap.size = wk.heap.size + 1 by simp] at q
            exact q)
          go_loopw [75, 6] (fun q tot wr => ∃ k : Nat, k ≤ 3 ∧ q = .int .i64 k ∧ tot = .int .i64 ((off bs i + offK b k : Nat) : Int) ∧ Own wr 4 1 (some ⟨gm, 0, none⟩) n n (metb n ((allIds bs).take (off bs i + offK b k))) ∧ Blk wr wk.heap.size 52 #[.int .i64 t, s3.sl 0, s3.sl 1, s3.sl 2] ∧ Blk wr (wk.heap.size + 1) 23 #[s3.sl 0, s3.sl 1, s3.sl 2] ∧ Chg [gm] wk wr) (fun q _ _ => 3 - (intOf q).toNat)
          case atStart => exact ⟨0, by omega, rfl, rfl, HOM.out.chg (((Chg.refl [] wk).alloc _).alloc _) (fun _ _ => List.not_mem_nil), HBK0.out.alloc _, HBS0.out, (((Chg.refl [gm] wk).alloc _).alloc _)⟩
          case round =>
            obtain ⟨k, hk, rfl, rfl, hom, hbk, hbs2, hck⟩ := hrel
            have HBKK := Lib.hid hbk
            have HBSS := Lib.hid hbs2
            have HCK := Lib.hid hck
            have HOMK := Lib.hid hom
            by_cases hk3 : k < 3
            · have hk3' : (k : Int) < 3 := by omega
              have zs := hbs2.cell k
              rw [b3_at s3 k hk3] at zs
              have hfl : s3.n k ≤ n := by have q1 := own_len (HW3.out k hk3); have q2 := HFL.out k; omega
              clear hom hbk hbs2 hck
              go_wp2
              obtain ⟨wj, hwj⟩ : ∃ wj : World, wj = wr := ⟨_, rfl⟩
              subst hwj
              have hRel : ∀ wr, Chg [gm] wj wr → Chg [gm] w4 wr := fun wr h => (HCH.out.trans HCK.out (fun _ h => .inl h)).trans h (fun _ h => .inl h)
              have hRel0 : ∀ wr, Chg [gm] wj wr → Chg [] w wr := fun wr h => HC4.out.trans (hRel wr h) (fun x hx => .inr (by simp at hx; subst hx; exact HGM.out))
              refine parts_lp (rb := w.heap.size) (bk := wk.heap.size) (ls := ls) (ts := ts) (A := A) (B := B) (bs := bs) (b := b) (t := t) (k := k) (i := i) (gm := gm) (m := m) (d := d) (c := c) wj _ (fun wr h => HR.out.chg (hRel0 wr h) (fun _ _ => List.not_mem_nil)) (fun wr h => HO.out.chg (hRel0 wr h) (fun _ _ => List.not_mem_nil)) (fun wr h => ((HW3.out k hk3).chg (hRel wr h) (fun x hx hm => (HW3.out k hk3).own_ne HO94.out (by decide) x hx (by simpa using hm))).rd) (fun wr h => HBX.out.chg (hRel wr h) (fun hm => HGB.out (by simpa using hm))) (fun wr h => HBKK.out.chg h (fun hm => HGK.out (by simpa using hm))) HOMK HBI HBT HND HFN HL HMN hk3 hn hfl _ _ _ _ _ _ _ _ _ _ _ _ _ _ _ _ _ _ _ _ _ _ _ _ _ _ _ _ _ _ _ _ _ _ _ _ _ _ _ _ _ _ _ _ _ _ _ _ _ _ _ _ _ _ _ _ _ _ _ _ _ _ _ _ _ _ _ _ _ _ _ _ _ _ _ _ _ _ _ _ _ _ _ _ _ _ _ _ _ _ _ _ _ _ _ _ _ _ _ _ _ _ _ _ _ _ _ _ _ _ _ _ _ _ _ _ _ _ _ _ _ _ _ _ _ _ _ _ _ _ _ _ _ _ _ _ _ _ _ _ _ _ _ _ _ _ _ _ _ _ _ _ _ _ _ ?_
              rintro v4 v13 v14 v15 v82 v83 v84 v85 v86 v87 v88 v89 v90 v91 v92 v93 v94 v95 v96 v97 v98 v99 v100 v101 v102 v103 v104 v105 v106 v107 v108 v109 v110 v111 v112 v113 v114 v115 v116 v117 v118 v119 v120 v121 v122 v123 v124 v125 v126 v127 v128 v129 v130 v131 v132 v133 v134 v135 v136 v137 v138 v139 v140 v141 v142 v143 v144 v145 v146 v147 v148 v149 v150 v151 v152 v153 v154 v155 wr ⟨hom, hcj⟩
              have HOMJ := Lib.hid hom
              have HCJ := Lib.hid hcj
              have hlen : (b.f k).length = s3.n k := own_len (HW3.out k hk3)
              clear hom hcj hRel hRel0
              go_wp2
              go_roundw
              case rel => exact ⟨k + 1, by omega, by go_num, by rw [offK, hlen], by rw [offK, hlen]; exact HOMJ.out, HBKK.out.chg HCJ.out (fun hm => HGK.out (by simpa using hm)), HBSS.out.chg HCJ.out (fun hm => HGK1.out (by simpa using hm)), HCK.out.trans HCJ.out (fun _ h => .inl h)⟩
              case measure => simp [intOf]; omega
            · obtain rfl : k = 3 := by omega
              clear hom hbk hbs2 hck
              go_wp2
              go_roundw
              case rel => exact ⟨i + 1, by omega, by go_num, by rw [off_succ HBI.out], by rw [lastT_succ HT.out], by rw [off_succ HBI.out]; exact HOMK.out, HCH.out.trans HCK.out (fun _ h => .inl h)⟩
              case measure => simp [intOf]; omega
        · clear htlast
          go_wp2
          obtain ⟨wk, hwk⟩ : ∃ wk : World, wk = wr := ⟨_, rfl⟩
          subst hwk
          have HBK0 : Hid (Blk (wk.alloc (.cells #[.int .i64 t, .slice (s3.A 0) (s3.n 0) (s3.c 0), .slice (s3.A 1) (s3.n 1) (s3.c 1), .slice (s3.A 2) (s3.n 2) (s3.c 2)] 52)) wk.heap.size 52 #[.int .i64 t, s3.sl 0, s3.sl 1, s3.sl 2]) := Lib.hid (Blk.new _ _ _)
          have HBS0 : Hid (Blk ((wk.alloc (.cells #[.int .i64 t, .slice (s3.A 0) (s3.n 0) (s3.c 0), .slice (s3.A 1) (s3.n 1) (s3.c 1), .slice (s3.A 2) (s3.n 2) (s3.c 2)] 52)).alloc (.cells #[.slice (s3.A 0) (s3.n 0) (s3.c 0), .slice (s3.A 1) (s3.n 1) (s3.c 1), .slice (s3.A 2) (s3.n 2) (s3.c 2)] 23)) (wk.heap.size + 1) 23 #[s3.sl 0, s3.sl 1, s3.sl 2]) := Lib.hid (by
            have q := Blk.new (wk.alloc (.cells #[.int .i64 t, .slice (s3.A 0) (s3.n 0) (s3.c 0), .slice (s3.A 1) (s3.n 1) (s3.c 1), .slice (s3.A 2) (s3.n 2) (s3.c 2)] 52)) 23 #[s3.sl 0, s3.sl 1, s3.sl 2]
            rw [show (wk.alloc (.cells #[.int .i64 t, .slice (s3.A 0) (s3.n 0) (s3.c 0), .slice (s3.A 1) (s3.n 1) (s3.c 1), .slice (s3.A 2) (s3.n 2) (s3.c 2)] 52)).heap.size = wk.heap.size + 1 by simp] at q
            exact q)
          go_loopw [75, 6] (fun q tot wr => ∃ k : Nat, k ≤ 3 ∧ q = .int .i64 k ∧ tot = .int .i64 ((off bs i + offK b k : Nat) : Int) ∧ Own wr 4 1 (some ⟨gm, 0, none⟩) n n (metb n ((allIds bs).take (off bs i + offK b k))) ∧ Blk wr wk.heap.size 52 #[.int .i64 t, s3.sl 0, s3.sl 1, s3.sl 2] ∧ Blk wr (wk.heap.size + 1) 23 #[s3.sl 0, s3.sl 1, s3.sl 2] ∧ Chg [gm] wk wr) (fun q _ _ => 3 - (intOf q).toNat)
          case atStart => exact ⟨0, by omega, rfl, rfl, HOM.out.chg (((Chg.refl [] wk).alloc _).alloc _) (fun _ _ => List.not_mem_nil), HBK0.out.alloc _, HBS0.out, (((Chg.refl [gm] wk).alloc _).alloc _)⟩
          case round =>
            obtain ⟨k, hk, rfl, rfl, hom, hbk, hbs2, hck⟩ := hrel
            have HBKK := Lib.hid hbk
            have HBSS := Lib.hid hbs2
            have HCK := Lib.hid hck
            have HOMK := Lib.hid hom
            by_cases hk3 : k < 3
            · have hk3' : (k : Int) < 3 := by omega
              have zs := hbs2.cell k
              rw [b3_at s3 k hk3] at zs
              have hfl : s3.n k ≤ n := by have q1 := own_len (HW3.out k hk3); have q2 := HFL.out k; omega
              clear hom hbk hbs2 hck
              go_wp2
              obtain ⟨wj, hwj⟩ : ∃ wj : World, wj = wr := ⟨_, rfl⟩
              subst hwj
              have hRel : ∀ wr, Chg [gm] wj wr → Chg [gm] w4 wr := fun wr h => (HCH.out.trans HCK.out (fun _ h => .inl h)).trans h (fun _ h => .inl h)
              have hRel0 : ∀ wr, Chg [gm] wj wr → Chg [] w wr := fun wr h => HC4.out.trans (hRel wr h) (fun x hx => .inr (by simp at hx; subst hx; exact HGM.out))
              refine parts_lp (rb := w.heap.size) (bk := wk.heap.size) (ls := ls) (ts := ts) (A := A) (B := B) (bs := bs) (b := b) (t := t) (k := k) (i := i) (gm := gm) (m := m) (d := d) (c := c) wj _ (fun wr h => HR.out.chg (hRel0 wr h) (fun _ _ => List.not_mem_nil)) (fun wr h => HO.out.chg (hRel0 wr h) (fun _ _ => List.not_mem_nil)) (fun wr h => ((HW3.out k hk3).chg (hRel wr h) (fun x hx hm => (HW3.out k hk3).own_ne HO94.out (by decide) x hx (by simpa using hm))).rd) (fun wr h => HBX.out.chg (hRel wr h) (fun hm => HGB.out (by simpa using hm))) (fun wr h => HBKK.out.chg h (fun hm => HGK.out (by simpa using hm))) HOMK HBI HBT HND HFN HL HMN hk3 hn hfl _ _ _ _ _ _ _ _ _ _ _ _ _ _ _ _ _ _ _ _ _ _ _ _ _ _ _ _ _ _ _ _ _ _ _ _ _ _ _ _ _ _ _ _ _ _ _ _ _ _ _ _ _ _ _ _ _ _ _ _ _ _ _ _ _ _ _ _ _ _ _ _ _ _ _ _ _ _ _ _ _ _ _ _ _ _ _ _ _ _ _ _ _ _ _ _ _ _ _ _ _ _ _ _ _ _ _ _ _ _ _ _ _ _ _ _ _ _ _ _ _ _ _ _ _ _ _ _ _ _ _ _ _ _ _ _ _ _ _ _ _ _ _ _ _ _ _ _ _ _ _ _ _ _ _ ?_
              rintro v4 v13 v14 v15 v82 v83 v84 v85 v86 v87 v88 v89 v90 v91 v92 v93 v94 v95 v96 v97 v98 v99 v100 v101 v102 v103 v104 v105 v106 v107 v108 v109 v110 v111 v112 v113 v114 v115 v116 v117 v118 v119 v120 v121 v122 v123 v124 v125 v126 v127 v128 v129 v130 v131 v132 v133 v134 v135 v136 v137 v138 v139 v140 v141 v142 v143 v144 v145 v146 v147 v148 v149 v150 v151 v152 v153 v154 v155 wr ⟨hom, hcj⟩
              have HOMJ := Lib.hid hom
              have HCJ := Lib.hid hcj
              have hlen : (b.f k).length = s3.n k := own_len (HW3.out k hk3)
              clear hom hcj hRel hRel0
              go_wp2
              go_roundw
              case rel => exact ⟨k + 1, by omega, by go_num, by rw [offK, hlen], by rw [offK, hlen]; exact HOMJ.out, HBKK.out.chg HCJ.out (fun hm => HGK.out (by simpa using hm)), HBSS.out.chg HCJ.out (fun hm => HGK1.out (by simpa using hm)), HCK.out.trans HCJ.out (fun _ h => .inl h)⟩
              case measure => simp [intOf]; omega
            · obtain rfl : k = 3 := by omega
              clear hom hbk hbs2 hck
              go_wp2
              go_roundw
              case rel => exact ⟨i + 1, by omega, by go_num, by rw [off_succ HBI.out], by rw [lastT_succ HT.out], by rw [off_succ HBI.out]; exact HOMK.out, HCH.out.trans HCK.out (fun _ h => .inl h)⟩
              case measure => simp [intOf]; omega
      · obtain rfl : i = Ln := by omega
        have HX : Hid (Chg [] w wr) := Lib.hid (HC4.out.trans HCH.out (fun x hx => .inr (by simp at hx; subst hx; exact HGM.out)))
        have v0 := (HBX.out.chg HCH.out (fun hm => HGB.out (by simpa using hm))).cell 0
        simp at v0
        rw [HTOT.out]
        go_wp2_with fail
        obtain ⟨N0, hN0⟩ : ∃ N0, (incident ls node).length = N0 := ⟨_, rfl⟩
        refine (gincident_any A n c ls node _ (HR.out.chg HX.out (fun _ _ => List.not_mem_nil)) hn N0 hN0).mono ?_
        rintro e w9 ⟨A9, c9, rfl, _, hc9, _⟩
        rw [hN0]
        have hnn : ((N0 : Int) == (N0 : Int)) = true := by simp
        go_wp2
        go_ret
        exact ⟨rfl, HX.out.trans0 hc9⟩
  · have t0 : ((n : Int) != m) = true := by simp; omega
    clear hmn
    go_wp2
    go_ret
    exact ⟨rfl, HC1.out⟩
end Go.Proofs.Ytelmnmepdmfihaa
