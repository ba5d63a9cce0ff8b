/-
  Layer 17: the document's Read.
-/
import Derived.Test.YtelmnmepdmfihaaGrRa
import Derived.Test.YtelmnmepdmfihaaGrQ
import Derived.Deep.QuietTactic
import Derived.BigQuiet
namespace Go.Proofs.Ytelmnmepdmfihaa
open Go.RowKit

theorem Chg.from_ {w w1 wr w2 : World} {bb : Nat} (h : Chg [] w1 wr) (h0 : Chg [] w w1) (k : Chg [bb] wr w2) (hb : w.heap.size ≤ bb) : Chg [] w w2 := (h0.trans0 h).trans k (fun x hx => .inr (by simp at hx; omega))
theorem Chg.from1 {w w1 wr w2 : World} {bb : Nat} (h : Chg [] w1 wr) (_ : Chg [] w w1) (k : Chg [bb] wr w2) (hb : w1.heap.size ≤ bb) : Chg [] w1 w2 := h.trans k (fun x hx => .inr (by simp at hx; omega))
theorem nm1 {x y : Nat} (h : x ≠ y) : x ∉ [y] := fun hm => h (List.mem_singleton.1 hm)
theorem RowsR.chgN {w w' : World} {rs : List (Int × B3)} {acc : List Bn} {L : List Nat} (h : RowsR w rs acc) (hn : ∀ p ∈ rs, ∀ k, k < 3 → ∀ x ∈ bo (p.2.A k), x ∉ L) (hc : Chg L w w') : RowsR w' rs acc :=
  ⟨h.1, fun i p b hp hb => ⟨(h.2 i p b hp hb).1, fun k hk => ((h.2 i p b hp hb).2 k hk).chg hc (hn p (List.mem_of_getElem? hp) k hk)⟩⟩
theorem RowsR.lt {w : World} {rs : List (Int × B3)} {acc : List Bn} (h : RowsR w rs acc) : ∀ p ∈ rs, ∀ k, k < 3 → ∀ x ∈ bo (p.2.A k), x < w.heap.size := fun p hp k hk x hx => by
  obtain ⟨i, hi⟩ := List.getElem?_of_mem hp
  obtain ⟨b, hb⟩ : ∃ b, acc[i]? = some b := ⟨_, List.getElem?_eq_getElem (by rw [← h.1]; exact (List.getElem?_eq_some_iff.1 hi).1)⟩
  exact ((h.2 i p b hi hb).2 k hk).lt x hx

set_option maxRecDepth 1000000 in
set_option maxHeartbeats 6400000 in
theorem rread_any (A : Option Addr) (n c : Nat) (ls : List Lk) (B : Option Addr) (m d : Nat) (ts : List Int) (G : Option Addr) (gn gc : Nat) (gs : List Lk) (node head : Int) (w : World) (hrd : Rd w 7 A n c (lvs ls)) (hn : n ≤ 1073741824) (hts : Rd w 1 B m d (iv ts)) (hm : m ≤ 1073741824) (hgr : Rd w 7 G gn gc (lvs gs)) (hgn : gn ≤ 1073741824) :
    Calls Try.prog 21 #[.slice A n c, .slice B m d, .slice G gn gc, .int .i64 node, .int .i64 head] w (ReadTo ls ts gs node head w) := by
  have hl : ls.length = n := by have := hrd.1; rw [lvs_length] at this; omega
  have hol : ts.length = m := by have := hts.1; simp at this; omega
  have hgl : gs.length = gn := by have := hgr.1; rw [lvs_length] at this; omega
  have HR := Lib.hid hrd
  have HO := Lib.hid hts
  have HGR := Lib.hid hgr
  have HL := Lib.hid hl
  have HM := Lib.hid hol
  have HGL := Lib.hid hgl
  clear hrd hts hl hol hgr hgl
  obtain ⟨w1, hw1⟩ : ∃ w1, w1 = w.alloc (.cells #[] 52) := ⟨_, rfl⟩
  have how1 : Own w1 52 4 (some ⟨w.heap.size, 0, none⟩) 0 0 [] := by rw [hw1]; exact Own.lit w 52 4 #[] 0 (by decide) rfl
  have hcw1 : Chg [] w w1 := by rw [hw1]; exact (Chg.refl _ _).alloc _
  have HW1 := Lib.hid hcw1
  have bad : ∀ (E : Int), reads ls ts gs node head = ([], E) → ∀ w', Chg [] w1 w' → ReadTo ls ts gs node head w (.returned (.tuple #[.slice (some ⟨w.heap.size, 0, none⟩) 0 0, .int .i64 E])) w' := fun E hE w' hc => ⟨some ⟨w.heap.size, 0, none⟩, 0, by rw [hE]; rfl, by rw [hE]; exact ⟨[], how1.chg hc (fun _ _ => List.not_mem_nil), rfl, by simp⟩, hcw1.trans0 hc⟩
  have BAD := Lib.hid bad
  have HS1 : Hid (w.heap.size ≤ w1.heap.size) := Lib.hid hcw1.size
  clear bad how1 hcw1
  by_cases hmn : m = n
  · have t0 : ((m : Int) != n) = false := by simp [hmn]
    have HMN := Lib.hid hmn
    have HRE : Hid (reads ls ts gs node head = rdg ls ts gs node (gn + 1) [] 0 head) := Lib.hid (by unfold reads; rw [if_neg (by rw [HM.out, HL.out]; simp [hmn]), HGL.out])
    clear hmn
    go_enter Try.func21, Try.ntmps21
    go_wp2
    rw [← hw1]
    have HSZ : Hid (w1.heap.size = w.heap.size + 1) := Lib.hid (by rw [hw1]; simp)
    clear hw1
    go_loopw [13, 14, 15] (fun v h q wr => ∃ (acc : List Bn) (V : List Nat) (rs : List (Int × B3)) (A' : Option Addr) (c' N held : Nat) (id : Int) (f : Nat), v = .slice A' N c' ∧ N = acc.length ∧ h = .int .i64 held ∧ q = .int .i64 id ∧
      rdg ls ts gs node f acc held id = reads ls ts gs node head ∧ RGood gs acc V ∧ f + N = gn + 1 ∧ held ≤ N * 3221225472 ∧ Own wr 52 4 A' N c' (rows rs) ∧ RowsR wr rs acc ∧ Chg [] w1 wr ∧ (∀ x ∈ bo A', w1.heap.size ≤ x)) (fun v _ _ _ => gn + 1 - slLen v)
    case atStart =>
      refine ⟨[], [], [], some ⟨w1.heap.size, 0, none⟩, 0, 0, 0, head, gn + 1, by rw [HSZ.out], rfl, rfl, rfl, HRE.out.symm, RGood.nil _, rfl, by omega, Own.lit w1 52 4 #[] 0 (by decide) rfl, RowsR.nil _, (Chg.refl _ _).alloc _, fun x hx => ?_⟩
      simp [bo] at hx; omega
    case round =>
      obtain ⟨acc, V, rs, A', c', N, held, id, f, rfl, hN, rfl, rfl, hrdg, hgood, hf, hheld, hown, hrows, hch, hnew⟩ := hrel
      have hNg : N ≤ gn := by have := hgood.bnd; rw [HGL.out] at this; omega
      obtain ⟨f, rfl⟩ : ∃ f', f = f' + 1 := ⟨f - 1, by omega⟩
      have HN := Lib.hid hN
      have HRD := Lib.hid hrdg
      have HGD := Lib.hid hgood
      have HF := Lib.hid hf
      have HHE := Lib.hid hheld
      have HHB : Hid (held ≤ 1073741824 * 3221225472) := Lib.hid (Nat.le_trans hheld (Nat.mul_le_mul_right _ (Nat.le_trans hNg hgn)))
      have HOWN := Lib.hid hown
      have HROWS := Lib.hid hrows
      have HRLT := Lib.hid hrows.lt
      have HCH := Lib.hid hch
      have HNW := Lib.hid hnew
      have HB0 : Hid (Chg [] w wr) := Lib.hid (HW1.out.trans0 hch)
      clear hN hrdg hgood hf hheld hown hrows hch hnew
      by_cases hid1 : id = -1
      · subst hid1
        have HEND : Hid (reads ls ts gs node head = if held = (incident ls node).length then (acc, 0) else ([], 101)) := Lib.hid (by rw [← HRD.out, rdg_end])
        go_wp2_with fail
        obtain ⟨N0, hN0⟩ : ∃ N0, (incident ls node).length = N0 := ⟨_, rfl⟩
        refine (gincident_any A n c ls node _ (HR.out.chg HB0.out (fun _ _ => List.not_mem_nil)) hn N0 hN0).mono ?_
        rintro e w2 ⟨A1, c1, rfl, _, hc1, _⟩
        have HC1 := Lib.hid hc1
        have HN0 := Lib.hid hN0
        clear hc1 hN0
        by_cases hh : held = N0
        · have t1 : ((held : Int) != (N0 : Int)) = false := by simp [hh]
          have HRR : Hid (reads ls ts gs node head = (acc, 0)) := Lib.hid (by rw [HEND.out, if_pos (by rw [HN0.out]; exact hh)])
          clear hh
          go_wp2
          go_ret2
          refine ⟨A', c', by rw [HRR.out, HN.out]; rfl, ?_, HB0.out.trans0 HC1.out⟩
          rw [HRR.out]
          have q := (HROWS.out.chg HC1.out).bro (HOWN.out.chg HC1.out (fun _ _ => List.not_mem_nil))
          rw [HN.out] at q
          exact q
        · have t1 : ((held : Int) != (N0 : Int)) = true := by simp; omega
          have HRR : Hid (reads ls ts gs node head = ([], 101)) := Lib.hid (by rw [HEND.out, if_neg (by rw [HN0.out]; exact hh)])
          clear hh
          go_wp2
          go_ret2
          exact BAD.out 101 HRR.out _ (HCH.out.trans0 HC1.out)
      · have t1 : (id != -1) = true := by simp [hid1]
        by_cases hneg : id < 0
        · have HRR : Hid (reads ls ts gs node head = ([], 3)) := Lib.hid (by rw [← HRD.out, rdg_neg hid1 hneg])
          clear hid1
          go_wp2
          go_ret2
          exact BAD.out 3 HRR.out _ HCH.out
        · obtain ⟨j, rfl⟩ := Int.eq_ofNat_of_zero_le (show 0 ≤ id by omega)
          by_cases hjg : j < gn
          · obtain ⟨g, hg⟩ : ∃ g, gs[j]? = some g := ⟨_, List.getElem?_eq_getElem (by have := HGL.out; omega)⟩
            obtain ⟨ag, rfl, x0, x1, x2, x3, x4, x5, x6⟩ := (HGR.out.chg HB0.out (fun _ _ => List.not_mem_nil)).lk hg
            have q0 : (0 : Int) ≤ j := by omega
            have q1 : ¬ ((j : Int) < 0) := by omega
            have q2 : ¬ ((gn : Int) ≤ j) := by omega
            have hjg' : (j : Int) < gn := by omega
            have HG := Lib.hid hg
            obtain ⟨wg, hwg⟩ : ∃ wg, wg = wr.alloc (.cells #[.bool g.live, .int .i64 g.src, .int .i64 g.dst, .int .i64 g.sp, .int .i64 g.tp, .int .i64 g.sn, .int .i64 g.tn] 58) := ⟨_, rfl⟩
            have hbg : Blk wg wr.heap.size 58 #[.bool g.live, .int .i64 g.src, .int .i64 g.dst, .int .i64 g.sp, .int .i64 g.tp, .int .i64 g.sn, .int .i64 g.tn] := by rw [hwg]; exact Blk.new _ _ _
            have HCG : Hid (Chg [] wr wg) := Lib.hid (by rw [hwg]; exact (Chg.refl _ _).alloc _)
            obtain ⟨gb, hgb⟩ : ∃ gb, gb = wr.heap.size := ⟨_, rfl⟩
            rw [← hgb] at hbg
            have HGS : Hid (wr.heap.size ≤ gb) := Lib.hid (by omega)
            have HBG := Lib.hid hbg
            have HB1 : Hid (∀ bb, gb ≤ bb → w1.heap.size ≤ bb) := Lib.hid (fun bb h => by have := HCH.out.size; have := HGS.out; omega)
            clear hid1 hneg hg
            cases hlv : g.live with
            | false =>
              rw [hlv] at x0 hwg
              have y0 := hbg.cell 0
              simp [hlv] at y0
              have HRR : Hid (reads ls ts gs node head = ([], 3)) := Lib.hid (by rw [← HRD.out, rdg_dead HG.out hlv])
              rw [hwg] at y0
              rw [hgb] at y0
              clear hlv hbg
              go_wp2
              go_ret2
              exact BAD.out 3 HRR.out _ (HCH.out.alloc _)
            | true =>
              have HLV := Lib.hid hlv
              rw [hlv] at x0 hwg
              have y0 := hbg.cell 0
              have y1 := hbg.cell 1
              have y2 := hbg.cell 2
              simp [hlv] at y0 y1 y2
              rw [hwg, hgb] at y0
              clear hlv hbg
              by_cases hdn : g.dst = node
              · have t2 : (g.dst != node) = false := by simp [hdn]
                have HDN := Lib.hid hdn
                clear hdn
                go_wp2_with fail
                rw [← hwg, ← hgb]
                clear x0 x1 x2 x3 x4 x5 x6 y0
                clear hwg hgb
                rcases hacc : acc.getLast? with _ | bl
                · have hN0 : N = 0 := by rw [List.getLast?_eq_none_iff] at hacc; rw [HN.out, hacc]; rfl
                  have HLT : Hid (¬ (∃ b, acc.getLast? = some b ∧ g.src ≤ b.t)) := Lib.hid (by rw [hacc]; simp)
                  subst hN0
                  clear hacc
                  go_quiet (fail)
                  obtain ⟨wv, hwv⟩ : ∃ wv, wv = wg.drewN nq := ⟨_, rfl⟩
                  have HCV : Hid (Chg [] wr wv) := Lib.hid (by rw [hwv]; exact (HCG.out.drewN _))
                  have hbg2 : Blk wv gb 58 #[.bool g.live, .int .i64 g.src, .int .i64 g.dst, .int .i64 g.sp, .int .i64 g.tp, .int .i64 g.sn, .int .i64 g.tn] := by rw [hwv]; exact HBG.out.chg ((Chg.refl [] _).drewN _) (fun h => List.not_mem_nil h)
                  rw [← hwv]
                  clear hwv y1 y2
                  have x1 := hbg2.cell 1
                  have hbgA := hbg2.alloc (.cells #[.int .i64 g.src, .slice none 0 0, .slice none 0 0, .slice none 0 0] 52)
                  have x3 : (wv.alloc (.cells #[.int .i64 g.src, .slice none 0 0, .slice none 0 0, .slice none 0 0] 52)).cell? ⟨gb, 3, none⟩ = some (.int .i64 g.sp) := hbgA.cell 3
                  have x4 : (wv.alloc (.cells #[.int .i64 g.src, .slice none 0 0, .slice none 0 0, .slice none 0 0] 52)).cell? ⟨gb, 4, none⟩ = some (.int .i64 g.tp) := hbgA.cell 4
                  have x5 : (wv.alloc (.cells #[.int .i64 g.src, .slice none 0 0, .slice none 0 0, .slice none 0 0] 52)).cell? ⟨gb, 5, none⟩ = some (.int .i64 g.sn) := hbgA.cell 5
                  have HBG2 := Lib.hid hbg2
                  clear hbgA
                  simp at x1
                  have HST : Hid (¬ (g.dst ≠ node ∨ (∃ b, acc.getLast? = some b ∧ g.src ≤ b.t))) := Lib.hid (by rintro (h | h); exact h HDN.out; exact HLT.out h)
                  clear hbg2
                  go_wp2
                  obtain ⟨w5, hw5⟩ : ∃ w5, w5 = wv.alloc (.cells #[.int .i64 g.src, .slice none 0 0, .slice none 0 0, .slice none 0 0] 52) := ⟨_, rfl⟩
                  have hb5 : Blk w5 wv.heap.size 52 #[.int .i64 g.src, .slice none 0 0, .slice none 0 0, .slice none 0 0] := by rw [hw5]; exact Blk.new _ _ _
                  have hc5 : Chg [] wv w5 := by rw [hw5]; exact (Chg.refl _ _).alloc _
                  have hs5 : w5.heap.size = wv.heap.size + 1 := by rw [hw5]; simp
                  rw [← hw5]
                  obtain ⟨w6, hw6⟩ : ∃ w6, w6 = w5.alloc (.cells #[.int .i64 g.sp, .int .i64 g.tp, .int .i64 g.sn] 78) := ⟨_, rfl⟩
                  have hb6 : Blk w6 w5.heap.size 78 #[.int .i64 g.sp, .int .i64 g.tp, .int .i64 g.sn] := by rw [hw6]; exact Blk.new _ _ _
                  have hc6 : Chg [] w5 w6 := by rw [hw6]; exact (Chg.refl _ _).alloc _
                  rw [← hw6]
                  rw [hs5] at hb6
                  have HB5 : Hid (Blk w6 wv.heap.size 52 #[.int .i64 g.src, .slice none 0 0, .slice none 0 0, .slice none 0 0]) := Lib.hid (hb5.chg hc6 (fun h => List.not_mem_nil h))
                  have HB6 := Lib.hid hb6
                  have HC6 : Hid (Chg [] wr w6) := Lib.hid ((HCV.out.trans0 hc5).trans0 hc6)
                  obtain ⟨bb, hbb⟩ : ∃ bb, bb = wv.heap.size := ⟨_, rfl⟩
                  rw [← hbb] at HB5 HB6 ⊢
                  have HBL : Hid (gb < bb) := Lib.hid (by have := HBG2.out.lt; omega)
                  have HGB : Hid (gb ≠ bb) := Lib.hid (by have := HBG2.out.lt; omega)
                  have HBW : Hid (w.heap.size ≤ bb) := Lib.hid (by have := HCH.out.size; have := HCV.out.size; have := HW1.out.size; omega)
                  have HG6 : Hid (Blk w6 gb 58 #[.bool g.live, .int .i64 g.src, .int .i64 g.dst, .int .i64 g.sp, .int .i64 g.tp, .int .i64 g.sn, .int .i64 g.tn]) := Lib.hid ((HBG2.out.chg hc5 (fun h => List.not_mem_nil h)).chg hc6 (fun h => List.not_mem_nil h))
                  have HBBR : Hid (wr.heap.size ≤ bb) := Lib.hid (by have := HCV.out.size; omega)
                  have HOW6 : Hid (Own w6 52 4 A' 0 c' (rows rs)) := Lib.hid (HOWN.out.chg HC6.out (fun _ _ => List.not_mem_nil))
                  have HBA : Hid (bb ∉ bo A') := Lib.hid (fun hm => by have := HOWN.out.lt bb hm; have := HBBR.out; omega)
                  clear hw5 hw6 hb5 hb6 hc5 hc6 hs5 hbb x1 x3 x4 x5
                  refine rd_lp2 (g := g) (ls := ls) (ts := ts) (node := node) (A := A) (n := n) (c := c) (B := B) (m := m) (d := d) (gb := gb) (bb := bb) (hb := bb + 1) (held := held) (TH := 78) w6 _ (Lib.hid (by intro c a d v w h; exact h)) (Lib.hid fun wr2 h => HR.out.chg ((HCH.out.trans0 HC6.out).from_ HW1.out h HBW.out) (fun _ _ => List.not_mem_nil)) (Lib.hid fun wr2 h => HO.out.chg ((HCH.out.trans0 HC6.out).from_ HW1.out h HBW.out) (fun _ _ => List.not_mem_nil)) (Lib.hid fun wr2 h => HG6.out.chg h (nm1 HGB.out)) (Lib.hid fun wr2 h => HB6.out.chg h (nm1 (Nat.succ_ne_self bb))) HB5 HDN HL HMN hn HHB.out _ _ _ _ _ _ _ _ _ _ _ _ _ _ _ _ _ _ _ _ _ _ _ _ _ _ _ _ _ _ _ _ _ _ _ _ _ _ _ _ _ _ _ _ _ _ _ _ _ _ _ _ _ _ _ _ _ _ _ _ _ _ _ _ _ _ _ _ _ _ _ _ _ _ _ _ _ _ _ _ _ _ _ _ _ _ _ _ _ _ _ _ _ _ _ _ _ _ _ _ _ _ _ _ _ _ _ _ _ _ _ _ _ _ _ _ _ _ _ _ _ _ _ _ _ _ _ _ _ _ _ _ _ _ _ _ _ _ _ _ _ _ _ _ _ _ _ _ _ _ _ _ _ _ _ _ _ _ _ _ _ _ ?_ ?_
                  · refine Lib.hid ?_
                    rintro b v10 v11 v19 v20 v21 v22 v83 v84 v85 v86 v87 v88 v89 v90 v91 v92 v93 v94 v95 v96 v97 v98 v99 v100 v101 v102 v103 v104 v105 v106 v107 v108 v109 v110 v111 v112 v113 v114 v115 v116 v117 v118 v119 v120 v121 v122 v123 v124 v125 v126 v127 v128 v129 v130 v131 v132 v133 v134 v135 v136 v137 v138 v139 v140 v141 v142 v143 wr2 ⟨hone, hbb2, hown2, hc2⟩
                    have HONE := Lib.hid hone
                    have HBB2 := Lib.hid hbb2
                    have HOWN2 := Lib.hid hown2
                    have HC2 := Lib.hid hc2
                    have z0 := hbb2.cell 0
                    have z1 := hbb2.cell 1
                    have z2 := hbb2.cell 2
                    have z3 := hbb2.cell 3
                    simp [B3.sl] at z0 z1 z2 z3
                    have hg6 := HG6.out.chg hc2 (nm1 HGB.out)
                    have y6 := hg6.cell 6
                    simp at y6
                    have hl0 := own_len (hown2 0 (by decide)).1
                    have hl1 := own_len (hown2 1 (by decide)).1
                    have hl2 := own_len (hown2 2 (by decide)).1
                    have k0 := ids_len (ls := ls) (g := g) (k := 0)
                    have k1 := ids_len (ls := ls) (g := g) (k := 1)
                    have k2 := ids_len (ls := ls) (g := g) (k := 2)
                    rw [HL.out, hl0] at k0
                    rw [HL.out, hl1] at k1
                    rw [HL.out, hl2] at k2
                    have HLE : Hid ((idsOf ls g 0).length = b.n 0 ∧ (idsOf ls g 1).length = b.n 1 ∧ (idsOf ls g 2).length = b.n 2) := Lib.hid ⟨hl0, hl1, hl2⟩
                    have hw1 : IntKind.i64.wrap ((b.n 0 : Int) + (b.n 1 : Int)) = (b.n 0 : Int) + (b.n 1 : Int) := by rw [IntKind.wrap_i64]; omega
                    have hw2 : IntKind.i64.wrap ((b.n 0 : Int) + (b.n 1 : Int) + (b.n 2 : Int)) = (b.n 0 : Int) + (b.n 1 : Int) + (b.n 2 : Int) := by rw [IntKind.wrap_i64]; omega
                    have HLJ : Hid (lenJ ls g 3 = b.n 0 + b.n 1 + b.n 2) := Lib.hid (by simp only [lenJ]; omega)
                    clear hone hbb2 hown2 hc2 hg6 hl0 hl1 hl2
                    by_cases hz : b.n 0 + b.n 1 + b.n 2 = 0
                    · have hz0 : ((b.n 0 : Int) + (b.n 1 : Int) + (b.n 2 : Int) == 0) = true := by simp; omega
                      have HRR : Hid (reads ls ts gs node head = ([], 170)) := Lib.hid (by
                        have q : oneE ls ts g = 170 := by unfold oneE; rw [if_neg (by rw [HONE.out]; simp), if_pos (by rw [HLE.out.1, HLE.out.2.1, HLE.out.2.2]; exact hz)]
                        rw [← HRD.out, rdg_one HG.out HLV.out HST.out (by rw [q]; decide), q])
                      clear hz
                      go_wp2
                      go_ret2
                      exact BAD.out 170 HRR.out _ ((HCH.out.trans0 HC6.out).from1 HW1.out HC2.out (HB1.out _ (Nat.le_of_lt HBL.out)))
                    · have hz0 : ((b.n 0 : Int) + (b.n 1 : Int) + (b.n 2 : Int) == 0) = false := by simp; omega
                      have HE0 : Hid (oneE ls ts g = 0) := Lib.hid (by unfold oneE; rw [if_neg (by rw [HONE.out]; simp), if_neg (by rw [HLE.out.1, HLE.out.2.1, HLE.out.2.2]; exact hz)])
                      clear hz
                      have ho7 := HOW6.out.chg HC2.out (fun x hx hm => HBA.out (by simp at hm; subst hm; exact hx))
                      have HO7 := Lib.hid ho7
                      have Y6 : Hid (Blk wr2 gb 58 #[.bool g.live, .int .i64 g.src, .int .i64 g.dst, .int .i64 g.sp, .int .i64 g.tp, .int .i64 g.sn, .int .i64 g.tn]) := Lib.hid (HG6.out.chg HC2.out (nm1 HGB.out))
                      have HGA : Hid (gb ∉ bo A') := Lib.hid (fun hm => by have := HOWN.out.lt gb hm; have := HGS.out; omega)
                      go_wp2_with (at_builtin; refine wpList_app rfl _ _ rfl etyBunches rfl (HO7.out.chg ((Chg.refl [] wr2).alloc _) (fun _ _ => List.not_mem_nil)) rfl (Own.lit wr2 52 4 #[.int .i64 g.src, .slice (b.A 0) (b.n 0) (b.c 0), .slice (b.A 1) (b.n 1) (b.c 1), .slice (b.A 2) (b.n 2) (b.c 2)] 1 (by decide) rfl).rd (by simp [Value.oneCell']) (by unfold maxLen; omega) (by omega) ?_; intro A7 c7 w7 hown7 hchg7 hnew7 _; have HCX : Hid (Chg (bo A') wr2 w7) := Lib.hid ((((Chg.refl [] wr2).alloc _).nil _).trans hchg7 (fun x hx => .inl hx)); have y6 := (Y6.out.chg HCX.out HGA.out).cell 6; simp at y6)
                      go_roundw
                      case rel =>
                        refine ⟨acc ++ [oneB ls g], V ++ [j], rs ++ [(g.src, b)], A7, c7, 0 + 1, held + lenJ ls g 3, g.tn, f, rfl, by simp [HN.out], by first | rfl | (congr 1), rfl, ?_, HGD.out.step HG.out rfl HLT.out, by have := HF.out; omega, by have := HHE.out; have := HLJ.out; omega, ?_, ?_, ?_, fun x hx => ?_⟩
                        · rw [← HRD.out, rdg_step HG.out HLV.out HST.out HE0.out, HLJ.out, HLE.out.1, HLE.out.2.1, HLE.out.2.2]
                        · rw [rows_append]
                          simpa [rows, B3.cs, B3.sl] using hown7
                        · have h0 := (HROWS.out.chg HC6.out).chgN (fun p hp k hk x hx hm => by
                            have q := HRLT.out p hp k hk x hx
                            have := HBBR.out
                            simp at hm; omega) HC2.out
                          have h1 := h0.chgA HO7.out (by decide) HCX.out
                          have h2 : Own3 w7 b (idsOf ls g) := fun k hk => ((HOWN2.out k hk).1).chg HCX.out (((HOWN2.out k hk).1).own_ne HO7.out (by decide))
                          exact h1.snoc (x := oneB ls g) rfl h2
                        · exact ((HCH.out.trans0 HC6.out).from1 HW1.out HC2.out (HB1.out _ (Nat.le_of_lt HBL.out))).trans HCX.out (fun x hx => .inr (HNW.out x hx))
                        · rcases hnew7 x hx with h | h
                          · exact HNW.out x h
                          · have q1 := HC2.out.size; have q2 := HC6.out.size; have q3 := HCH.out.size; simp at h; omega
                      case measure => (simp [slLen]) <;> omega
                  · refine Lib.hid ?_
                    rintro E v14 v19 v20 v21 v22 v83 v84 v85 v86 v87 v88 v89 v90 v91 v92 v93 v94 v95 v96 v97 v98 v99 v100 v101 v102 v103 v104 v105 v106 v107 v108 v109 v110 v111 v112 v113 v114 v115 v116 v117 v118 v119 v120 v121 v122 v123 v124 v125 v126 v127 v128 v129 v130 v131 v132 v133 v134 v135 v136 v137 v138 v139 v140 v141 v142 v143 wr2 ⟨he, hne, hc2⟩
                    have HRR : Hid (reads ls ts gs node head = ([], E)) := Lib.hid (by rw [← HRD.out, rdg_one HG.out HLV.out HST.out (by rw [he]; exact hne), he])
                    have HC2 := Lib.hid hc2
                    clear he hne hc2
                    go_wp2
                    go_ret2
                    exact BAD.out E HRR.out _ ((HCH.out.trans0 HC6.out).from1 HW1.out HC2.out (HB1.out _ (Nat.le_of_lt HBL.out)))
                · obtain ⟨p, hp, hpt⟩ := HROWS.out.last hacc
                  have hNp : 0 < N := by rw [HN.out]; exact List.length_pos_iff.2 (by rintro rfl; simp at hacc)
                  obtain ⟨ao, rfl, z0, _⟩ := (HOWN.out.chg HCG.out (fun _ _ => List.not_mem_nil)).rd.bn hp
                  rw [hpt, ← HN.out] at z0
                  have t3 : decide ((0 : Int) < (N : Int)) = true := by simp; omega
                  have t3' : decide (0 < N) = true := by simp; omega
                  have hNs : ((N - 1 : Nat) : Int) = (N : Int) - 1 := by omega
                  have hwn : IntKind.i64.wrap ((N : Int) - 1) = ((N - 1 : Nat) : Int) := by rw [IntKind.wrap_i64]; omega
                  have k1 : (0 : Int) ≤ ((N - 1 : Nat) : Int) := by omega
                  have k2 : ((N - 1 : Nat) : Int) < (N : Int) := by omega
                  have HACC := Lib.hid hacc
                  have HNS := Lib.hid hNs
                  clear hacc hp hpt hNs
                  generalize hM : N - 1 = M at *
                  have HMM := Lib.hid hM
                  clear hM
                  by_cases hle : g.src ≤ bl.t
                  · have t4 : decide (g.src ≤ bl.t) = true := by simp [hle]
                    have HRR : Hid (reads ls ts gs node head = ([], 170)) := Lib.hid (by rw [← HRD.out, rdg_group HG.out HLV.out (.inr ⟨bl, HACC.out, hle⟩)])
                    clear hle
                    go_quiet (fail)
                    go_wp2
                    go_ret2
                    exact BAD.out 170 HRR.out _ ((HCH.out.trans0 HCG.out).drewN _)
                  · have t4 : decide (g.src ≤ bl.t) = false := by simp; omega
                    have HLT : Hid (¬ (∃ b, acc.getLast? = some b ∧ g.src ≤ b.t)) := Lib.hid (by rw [HACC.out]; rintro ⟨b, hb, h⟩; injection hb with hb; subst hb; exact hle h)
                    clear hle
                    go_quiet (fail)
                    obtain ⟨wv, hwv⟩ : ∃ wv, wv = wg.drewN nq := ⟨_, rfl⟩
                    have HCV : Hid (Chg [] wr wv) := Lib.hid (by rw [hwv]; exact (HCG.out.drewN _))
                    have hbg2 : Blk wv gb 58 #[.bool g.live, .int .i64 g.src, .int .i64 g.dst, .int .i64 g.sp, .int .i64 g.tp, .int .i64 g.sn, .int .i64 g.tn] := by rw [hwv]; exact HBG.out.chg ((Chg.refl [] _).drewN _) (fun h => List.not_mem_nil h)
                    rw [← hwv]
                    clear hwv y1 y2
                    have x1 := hbg2.cell 1
                    have hbgA := hbg2.alloc (.cells #[.int .i64 g.src, .slice none 0 0, .slice none 0 0, .slice none 0 0] 52)
                    have x3 : (wv.alloc (.cells #[.int .i64 g.src, .slice none 0 0, .slice none 0 0, .slice none 0 0] 52)).cell? ⟨gb, 3, none⟩ = some (.int .i64 g.sp) := hbgA.cell 3
                    have x4 : (wv.alloc (.cells #[.int .i64 g.src, .slice none 0 0, .slice none 0 0, .slice none 0 0] 52)).cell? ⟨gb, 4, none⟩ = some (.int .i64 g.tp) := hbgA.cell 4
                    have x5 : (wv.alloc (.cells #[.int .i64 g.src, .slice none 0 0, .slice none 0 0, .slice none 0 0] 52)).cell? ⟨gb, 5, none⟩ = some (.int .i64 g.sn) := hbgA.cell 5
                    have HBG2 := Lib.hid hbg2
                    clear hbgA
                    simp at x1
                    have HST : Hid (¬ (g.dst ≠ node ∨ (∃ b, acc.getLast? = some b ∧ g.src ≤ b.t))) := Lib.hid (by rintro (h | h); exact h HDN.out; exact HLT.out h)
                    clear hbg2
                    go_wp2
                    obtain ⟨w5, hw5⟩ : ∃ w5, w5 = wv.alloc (.cells #[.int .i64 g.src, .slice none 0 0, .slice none 0 0, .slice none 0 0] 52) := ⟨_, rfl⟩
                    have hb5 : Blk w5 wv.heap.size 52 #[.int .i64 g.src, .slice none 0 0, .slice none 0 0, .slice none 0 0] := by rw [hw5]; exact Blk.new _ _ _
                    have hc5 : Chg [] wv w5 := by rw [hw5]; exact (Chg.refl _ _).alloc _
                    have hs5 : w5.heap.size = wv.heap.size + 1 := by rw [hw5]; simp
                    rw [← hw5]
                    obtain ⟨w6, hw6⟩ : ∃ w6, w6 = w5.alloc (.cells #[.int .i64 g.sp, .int .i64 g.tp, .int .i64 g.sn] 78) := ⟨_, rfl⟩
                    have hb6 : Blk w6 w5.heap.size 78 #[.int .i64 g.sp, .int .i64 g.tp, .int .i64 g.sn] := by rw [hw6]; exact Blk.new _ _ _
                    have hc6 : Chg [] w5 w6 := by rw [hw6]; exact (Chg.refl _ _).alloc _
                    rw [← hw6]
                    rw [hs5] at hb6
                    have HB5 : Hid (Blk w6 wv.heap.size 52 #[.int .i64 g.src, .slice none 0 0, .slice none 0 0, .slice none 0 0]) := Lib.hid (hb5.chg hc6 (fun h => List.not_mem_nil h))
                    have HB6 := Lib.hid hb6
                    have HC6 : Hid (Chg [] wr w6) := Lib.hid ((HCV.out.trans0 hc5).trans0 hc6)
                    obtain ⟨bb, hbb⟩ : ∃ bb, bb = wv.heap.size := ⟨_, rfl⟩
                    rw [← hbb] at HB5 HB6 ⊢
                    have HBL : Hid (gb < bb) := Lib.hid (by have := HBG2.out.lt; omega)
                    have HGB : Hid (gb ≠ bb) := Lib.hid (by have := HBG2.out.lt; omega)
                    have HBW : Hid (w.heap.size ≤ bb) := Lib.hid (by have := HCH.out.size; have := HCV.out.size; have := HW1.out.size; omega)
                    have HG6 : Hid (Blk w6 gb 58 #[.bool g.live, .int .i64 g.src, .int .i64 g.dst, .int .i64 g.sp, .int .i64 g.tp, .int .i64 g.sn, .int .i64 g.tn]) := Lib.hid ((HBG2.out.chg hc5 (fun h => List.not_mem_nil h)).chg hc6 (fun h => List.not_mem_nil h))
                    have HBBR : Hid (wr.heap.size ≤ bb) := Lib.hid (by have := HCV.out.size; omega)
                    have HOW6 : Hid (Own w6 52 4 (some ao) N c' (rows rs)) := Lib.hid (HOWN.out.chg HC6.out (fun _ _ => List.not_mem_nil))
                    have HBA : Hid (bb ∉ bo (some ao)) := Lib.hid (fun hm => by have := HOWN.out.lt bb hm; have := HBBR.out; omega)
                    clear hw5 hw6 hb5 hb6 hc5 hc6 hs5 hbb x1 x3 x4 x5
                    refine rd_lp2 (g := g) (ls := ls) (ts := ts) (node := node) (A := A) (n := n) (c := c) (B := B) (m := m) (d := d) (gb := gb) (bb := bb) (hb := bb + 1) (held := held) (TH := 78) w6 _ (Lib.hid (by intro c a d v w h; exact h)) (Lib.hid fun wr2 h => HR.out.chg ((HCH.out.trans0 HC6.out).from_ HW1.out h HBW.out) (fun _ _ => List.not_mem_nil)) (Lib.hid fun wr2 h => HO.out.chg ((HCH.out.trans0 HC6.out).from_ HW1.out h HBW.out) (fun _ _ => List.not_mem_nil)) (Lib.hid fun wr2 h => HG6.out.chg h (nm1 HGB.out)) (Lib.hid fun wr2 h => HB6.out.chg h (nm1 (Nat.succ_ne_self bb))) HB5 HDN HL HMN hn HHB.out _ _ _ _ _ _ _ _ _ _ _ _ _ _ _ _ _ _ _ _ _ _ _ _ _ _ _ _ _ _ _ _ _ _ _ _ _ _ _ _ _ _ _ _ _ _ _ _ _ _ _ _ _ _ _ _ _ _ _ _ _ _ _ _ _ _ _ _ _ _ _ _ _ _ _ _ _ _ _ _ _ _ _ _ _ _ _ _ _ _ _ _ _ _ _ _ _ _ _ _ _ _ _ _ _ _ _ _ _ _ _ _ _ _ _ _ _ _ _ _ _ _ _ _ _ _ _ _ _ _ _ _ _ _ _ _ _ _ _ _ _ _ _ _ _ _ _ _ _ _ _ _ _ _ _ _ _ _ _ _ _ _ ?_ ?_
                    · refine Lib.hid ?_
                      rintro b v10 v11 v19 v20 v21 v22 v83 v84 v85 v86 v87 v88 v89 v90 v91 v92 v93 v94 v95 v96 v97 v98 v99 v100 v101 v102 v103 v104 v105 v106 v107 v108 v109 v110 v111 v112 v113 v114 v115 v116 v117 v118 v119 v120 v121 v122 v123 v124 v125 v126 v127 v128 v129 v130 v131 v132 v133 v134 v135 v136 v137 v138 v139 v140 v141 v142 v143 wr2 ⟨hone, hbb2, hown2, hc2⟩
                      have HONE := Lib.hid hone
                      have HBB2 := Lib.hid hbb2
                      have HOWN2 := Lib.hid hown2
                      have HC2 := Lib.hid hc2
                      have z0 := hbb2.cell 0
                      have z1 := hbb2.cell 1
                      have z2 := hbb2.cell 2
                      have z3 := hbb2.cell 3
                      simp [B3.sl] at z0 z1 z2 z3
                      have hg6 := HG6.out.chg hc2 (nm1 HGB.out)
                      have y6 := hg6.cell 6
                      simp at y6
                      have hl0 := own_len (hown2 0 (by decide)).1
                      have hl1 := own_len (hown2 1 (by decide)).1
                      have hl2 := own_len (hown2 2 (by decide)).1
                      have k0 := ids_len (ls := ls) (g := g) (k := 0)
                      have k1 := ids_len (ls := ls) (g := g) (k := 1)
                      have k2 := ids_len (ls := ls) (g := g) (k := 2)
                      rw [HL.out, hl0] at k0
                      rw [HL.out, hl1] at k1
                      rw [HL.out, hl2] at k2
                      have HLE : Hid ((idsOf ls g 0).length = b.n 0 ∧ (idsOf ls g 1).length = b.n 1 ∧ (idsOf ls g 2).length = b.n 2) := Lib.hid ⟨hl0, hl1, hl2⟩
                      have hw1 : IntKind.i64.wrap ((b.n 0 : Int) + (b.n 1 : Int)) = (b.n 0 : Int) + (b.n 1 : Int) := by rw [IntKind.wrap_i64]; omega
                      have hw2 : IntKind.i64.wrap ((b.n 0 : Int) + (b.n 1 : Int) + (b.n 2 : Int)) = (b.n 0 : Int) + (b.n 1 : Int) + (b.n 2 : Int) := by rw [IntKind.wrap_i64]; omega
                      have HLJ : Hid (lenJ ls g 3 = b.n 0 + b.n 1 + b.n 2) := Lib.hid (by simp only [lenJ]; omega)
                      clear hone hbb2 hown2 hc2 hg6 hl0 hl1 hl2
                      by_cases hz : b.n 0 + b.n 1 + b.n 2 = 0
                      · have hz0 : ((b.n 0 : Int) + (b.n 1 : Int) + (b.n 2 : Int) == 0) = true := by simp; omega
                        have HRR : Hid (reads ls ts gs node head = ([], 170)) := Lib.hid (by
                          have q : oneE ls ts g = 170 := by unfold oneE; rw [if_neg (by rw [HONE.out]; simp), if_pos (by rw [HLE.out.1, HLE.out.2.1, HLE.out.2.2]; exact hz)]
                          rw [← HRD.out, rdg_one HG.out HLV.out HST.out (by rw [q]; decide), q])
                        clear hz
                        go_wp2
                        go_ret2
                        exact BAD.out 170 HRR.out _ ((HCH.out.trans0 HC6.out).from1 HW1.out HC2.out (HB1.out _ (Nat.le_of_lt HBL.out)))
                      · have hz0 : ((b.n 0 : Int) + (b.n 1 : Int) + (b.n 2 : Int) == 0) = false := by simp; omega
                        have HE0 : Hid (oneE ls ts g = 0) := Lib.hid (by unfold oneE; rw [if_neg (by rw [HONE.out]; simp), if_neg (by rw [HLE.out.1, HLE.out.2.1, HLE.out.2.2]; exact hz)])
                        clear hz
                        have ho7 := HOW6.out.chg HC2.out (fun x hx hm => HBA.out (by simp at hm; subst hm; exact hx))
                        have HO7 := Lib.hid ho7
                        have Y6 : Hid (Blk wr2 gb 58 #[.bool g.live, .int .i64 g.src, .int .i64 g.dst, .int .i64 g.sp, .int .i64 g.tp, .int .i64 g.sn, .int .i64 g.tn]) := Lib.hid (HG6.out.chg HC2.out (nm1 HGB.out))
                        have HGA : Hid (gb ∉ bo (some ao)) := Lib.hid (fun hm => by have := HOWN.out.lt gb hm; have := HGS.out; omega)
                        go_wp2_with (at_builtin; refine wpList_app rfl _ _ rfl etyBunches rfl (HO7.out.chg ((Chg.refl [] wr2).alloc _) (fun _ _ => List.not_mem_nil)) rfl (Own.lit wr2 52 4 #[.int .i64 g.src, .slice (b.A 0) (b.n 0) (b.c 0), .slice (b.A 1) (b.n 1) (b.c 1), .slice (b.A 2) (b.n 2) (b.c 2)] 1 (by decide) rfl).rd (by simp [Value.oneCell']) (by unfold maxLen; omega) (by omega) ?_; intro A7 c7 w7 hown7 hchg7 hnew7 _; have HCX : Hid (Chg (bo (some ao)) wr2 w7) := Lib.hid ((((Chg.refl [] wr2).alloc _).nil _).trans hchg7 (fun x hx => .inl hx)); have y6 := (Y6.out.chg HCX.out HGA.out).cell 6; simp at y6)
                        go_roundw
                        case rel =>
                          refine ⟨acc ++ [oneB ls g], V ++ [j], rs ++ [(g.src, b)], A7, c7, N + 1, held + lenJ ls g 3, g.tn, f, rfl, by simp [HN.out], by first | rfl | (congr 1), rfl, ?_, HGD.out.step HG.out rfl HLT.out, by have := HF.out; omega, by have := HHE.out; have := HLJ.out; omega, ?_, ?_, ?_, fun x hx => ?_⟩
                          · rw [← HRD.out, rdg_step HG.out HLV.out HST.out HE0.out, HLJ.out, HLE.out.1, HLE.out.2.1, HLE.out.2.2]
                          · rw [rows_append]
                            simpa [rows, B3.cs, B3.sl] using hown7
                          · have h0 := (HROWS.out.chg HC6.out).chgN (fun p hp k hk x hx hm => by
                              have q := HRLT.out p hp k hk x hx
                              have := HBBR.out
                              simp at hm; omega) HC2.out
                            have h1 := h0.chgA HO7.out (by decide) HCX.out
                            have h2 : Own3 w7 b (idsOf ls g) := fun k hk => ((HOWN2.out k hk).1).chg HCX.out (((HOWN2.out k hk).1).own_ne HO7.out (by decide))
                            exact h1.snoc (x := oneB ls g) rfl h2
                          · exact ((HCH.out.trans0 HC6.out).from1 HW1.out HC2.out (HB1.out _ (Nat.le_of_lt HBL.out))).trans HCX.out (fun x hx => .inr (HNW.out x hx))
                          · rcases hnew7 x hx with h | h
                            · exact HNW.out x h
                            · have q1 := HC2.out.size; have q2 := HC6.out.size; have q3 := HCH.out.size; simp at h; omega
                        case measure => (simp [slLen]) <;> omega
                    · refine Lib.hid ?_
                      rintro E v14 v19 v20 v21 v22 v83 v84 v85 v86 v87 v88 v89 v90 v91 v92 v93 v94 v95 v96 v97 v98 v99 v100 v101 v102 v103 v104 v105 v106 v107 v108 v109 v110 v111 v112 v113 v114 v115 v116 v117 v118 v119 v120 v121 v122 v123 v124 v125 v126 v127 v128 v129 v130 v131 v132 v133 v134 v135 v136 v137 v138 v139 v140 v141 v142 v143 wr2 ⟨he, hne, hc2⟩
                      have HRR : Hid (reads ls ts gs node head = ([], E)) := Lib.hid (by rw [← HRD.out, rdg_one HG.out HLV.out HST.out (by rw [he]; exact hne), he])
                      have HC2 := Lib.hid hc2
                      clear he hne hc2
                      go_wp2
                      go_ret2
                      exact BAD.out E HRR.out _ ((HCH.out.trans0 HC6.out).from1 HW1.out HC2.out (HB1.out _ (Nat.le_of_lt HBL.out)))
              · have t2 : (g.dst != node) = true := by simp [hdn]
                have HRR : Hid (reads ls ts gs node head = ([], 170)) := Lib.hid (by rw [← HRD.out, rdg_group HG.out HLV.out (.inl hdn)])
                clear hdn
                go_wp2_with fail
                rw [← hwg, ← hgb]
                clear x0 x1 x2 x3 x4 x5 x6 y0
                clear hwg hgb
                go_quiet (fail)
                go_wp2
                go_ret2
                exact BAD.out 170 HRR.out _ ((HCH.out.trans0 HCG.out).drewN _)
          · have q1 : ¬ ((j : Int) < 0) := by omega
            have q2 : (gn : Int) ≤ j := by omega
            have HRR : Hid (reads ls ts gs node head = ([], 3)) := Lib.hid (by rw [← HRD.out, rdg_none (List.getElem?_eq_none (by rw [HGL.out]; omega))])
            clear hid1 hneg
            go_wp2
            go_ret2
            exact BAD.out 3 HRR.out _ HCH.out
  · have t0 : ((m : Int) != n) = true := by simp; omega
    have HRR : Hid (reads ls ts gs node head = ([], 2)) := Lib.hid (by unfold reads; rw [if_pos (by rw [HM.out, HL.out]; exact hmn)])
    clear hmn
    go_enter Try.func21, Try.ntmps21
    go_wp2
    go_ret2
    rw [← hw1]
    exact BAD.out 2 HRR.out _ (Chg.refl _ _)
end Go.Proofs.Ytelmnmepdmfihaa
