/-
  Layer 17: the program's Read.
-/
import Derived.Test.YtelmnmepdmfihaaGrP
import Derived.Test.YtelmnmepdmfihaaGrN
import Derived.Deep.QuietTactic
import Derived.BigQuiet
namespace Go.Proofs.Ytelmnmepdmfihaa
open Go.RowKit

set_option maxRecDepth 100000 in
set_option maxHeartbeats 6400000 in
theorem read_any (A : Option Addr) (n c : Nat) (ls : List Lk) (B : Option Addr) (m d : Nat) (ts : List Int) (G : Option Addr) (gn gc : Nat) (gs : List Lk) (node head : Int) (w : World) (hrd : Rd w 7 A n c (lvs ls)) (hn : n ≤ 1073741824) (hts : Rd w 1 B m d (iv ts)) (_ : m ≤ 1073741824) (hgr : Rd w 7 G gn gc (lvs gs)) (hgn : gn ≤ 1073741824) :
    Calls Try.prog 20 #[.slice A n c, .slice B m d, .slice G gn gc, .int .i64 node, .int .i64 head] w (ReadTo ls ts gs node head w) := by
  have hl : ls.length = n := by have := hrd.1; rw [lvs_length] at this; omega
  have hol : ts.length = m := by have := hts.1; simp at this; omega
  have hgl : gs.length = gn := by have := hgr.1; rw [lvs_length] at this; omega
  have HR := Lib.hid hrd
  have HO := Lib.hid hts
  have HGR := Lib.hid hgr
  have HL := Lib.hid hl
  have HM := Lib.hid hol
  have HGL := Lib.hid hgl
  clear hrd hts hl hol hgr hgl
  have bad : ∀ (E : Int), reads ls ts gs node head = ([], E) → ∀ w', Chg [] w w' → ReadTo ls ts gs node head w (.returned (.tuple #[.slice none 0 0, .int .i64 E])) w' := fun E hE w' hc => ⟨none, 0, by rw [hE]; rfl, by rw [hE]; exact ⟨[], Own.nil _ _ _, rfl, by simp⟩, hc⟩
  have BAD := Lib.hid bad
  clear bad
  by_cases hmn : m = n
  · have t0 : ((m : Int) != n) = false := by simp [hmn]
    have HMN := Lib.hid hmn
    have HRE : Hid (reads ls ts gs node head = rdg ls ts gs node (gn + 1) [] 0 head) := Lib.hid (by unfold reads; rw [if_neg (by rw [HM.out, HL.out]; simp [hmn]), HGL.out])
    clear hmn
    go_enter Try.func20, Try.ntmps20
    go_wp2
    go_loopw [10, 12, 13] (fun v h q wr => ∃ (acc : List Bn) (V : List Nat) (rs : List (Int × B3)) (A' : Option Addr) (c' N held : Nat) (id : Int) (f : Nat), v = .slice A' N c' ∧ N = acc.length ∧ h = .int .i64 held ∧ q = .int .i64 id ∧
      rdg ls ts gs node f acc held id = reads ls ts gs node head ∧ RGood gs acc V ∧ f + N = gn + 1 ∧ held ≤ N * 3221225472 ∧ Own wr 52 4 A' N c' (rows rs) ∧ RowsR wr rs acc ∧ Chg [] w wr ∧ (∀ x ∈ bo A', w.heap.size ≤ x)) (fun v _ _ _ => gn + 1 - slLen v)
    case atStart => exact ⟨[], [], [], none, 0, 0, 0, head, gn + 1, rfl, rfl, rfl, rfl, HRE.out.symm, RGood.nil _, rfl, by omega, Own.nil _ _ _, RowsR.nil _, Chg.refl _ _, by simp⟩
    case round =>
      obtain ⟨acc, V, rs, A', c', N, held, id, f, rfl, hN, rfl, rfl, hrdg, hgood, hf, hheld, hown, hrows, hch, hnew⟩ := hrel
      have hNg : N ≤ gn := by have := hgood.bnd; rw [HGL.out] at this; omega
      obtain ⟨f, rfl⟩ : ∃ f', f = f' + 1 := ⟨f - 1, by omega⟩
      have HN := Lib.hid hN
      have HRD := Lib.hid hrdg
      have HGD := Lib.hid hgood
      have HF := Lib.hid hf
      have HHE := Lib.hid hheld
      have HOWN := Lib.hid hown
      have HROWS := Lib.hid hrows
      have HCH := Lib.hid hch
      have HNW := Lib.hid hnew
      clear hN hrdg hgood hf hheld hown hrows hch hnew
      by_cases hid1 : id = -1
      · subst hid1
        have HEND : Hid (reads ls ts gs node head = if held = (incident ls node).length then (acc, 0) else ([], 101)) := Lib.hid (by rw [← HRD.out, rdg_end])
        go_wp2_with fail
        obtain ⟨N0, hN0⟩ : ∃ N0, (incident ls node).length = N0 := ⟨_, rfl⟩
        refine (incident_any A n c ls node _ (HR.out.chg HCH.out (fun _ _ => List.not_mem_nil)) hn N0 hN0).mono ?_
        rintro e w1 ⟨A1, c1, rfl, _, hc1, _⟩
        have HC1 := Lib.hid hc1
        have HN0 := Lib.hid hN0
        clear hc1 hN0
        by_cases hh : held = N0
        · have t1 : ((held : Int) != (N0 : Int)) = false := by simp [hh]
          have HRR : Hid (reads ls ts gs node head = (acc, 0)) := Lib.hid (by rw [HEND.out, if_pos (by rw [HN0.out]; exact hh)])
          clear hh
          go_wp2
          go_ret2
          refine ⟨A', c', by rw [HRR.out, HN.out]; rfl, ?_, HCH.out.trans0 HC1.out⟩
          rw [HRR.out]
          have q := (HROWS.out.chg HC1.out).bro (HOWN.out.chg HC1.out (fun _ _ => List.not_mem_nil))
          rw [HN.out] at q
          exact q
        · have t1 : ((held : Int) != (N0 : Int)) = true := by simp; omega
          have HRR : Hid (reads ls ts gs node head = ([], 101)) := Lib.hid (by rw [HEND.out, if_neg (by rw [HN0.out]; exact hh)])
          clear hh
          go_wp2
          go_ret2
          exact BAD.out 101 HRR.out _ (HCH.out.trans0 HC1.out)
      · have t1 : (id != -1) = true := by simp [hid1]
        by_cases hneg : id < 0
        · have HRR : Hid (reads ls ts gs node head = ([], 3)) := Lib.hid (by rw [← HRD.out, rdg_neg hid1 hneg])
          clear hid1
          go_wp2
          go_ret2
          exact BAD.out 3 HRR.out _ HCH.out
        · obtain ⟨j, rfl⟩ := Int.eq_ofNat_of_zero_le (show 0 ≤ id by omega)
          by_cases hjg : j < gn
          · obtain ⟨g, hg⟩ : ∃ g, gs[j]? = some g := ⟨_, List.getElem?_eq_getElem (by have := HGL.out; omega)⟩
            obtain ⟨ag, rfl, x0, x1, x2, x3, x4, x5, x6⟩ := (HGR.out.chg HCH.out (fun _ _ => List.not_mem_nil)).lk hg
            have q0 : (0 : Int) ≤ j := by omega
            have q1 : ¬ ((j : Int) < 0) := by omega
            have q2 : ¬ ((gn : Int) ≤ j) := by omega
            have hjg' : (j : Int) < gn := by omega
            have HG := Lib.hid hg
            have X1 := Lib.hid x1
            have X6 := Lib.hid x6
            clear hid1 hneg hg
            cases hlv : g.live with
            | false =>
              rw [hlv] at x0
              have HRR : Hid (reads ls ts gs node head = ([], 3)) := Lib.hid (by rw [← HRD.out, rdg_dead HG.out hlv])
              clear hlv
              go_wp2
              go_ret2
              exact BAD.out 3 HRR.out _ HCH.out
            | true =>
              have HLV := Lib.hid hlv
              rw [hlv] at x0
              clear hlv
              by_cases hdn : g.dst = node
              · have t2 : (g.dst != node) = false := by simp [hdn]
                have HDN := Lib.hid hdn
                clear hdn
                have HXX0 : Hid (LkAt wr (ag.add (j * 7)) g) := Lib.hid ⟨by rw [HLV.out]; exact x0, x1, x2, x3, x4, x5, x6⟩
                clear X1 X6
                rcases hacc : acc.getLast? with _ | bl
                · have hN0 : N = 0 := by rw [List.getLast?_eq_none_iff] at hacc; rw [HN.out, hacc]; rfl
                  have HLT : Hid (¬ (∃ b, acc.getLast? = some b ∧ g.src ≤ b.t)) := Lib.hid (by rw [hacc]; simp)
                  subst hN0
                  clear hacc
                  go_wp2_with fail
                  go_quiet (fail)
                  obtain ⟨wv, hwv⟩ : ∃ wv, wv = wr.drewN nq := ⟨_, rfl⟩
                  have HCVR : Hid (Chg [] wr wv) := Lib.hid (by rw [hwv]; exact (Chg.refl _ _).drewN _)
                  have HXX : Hid (LkAt wv (ag.add (j * 7)) g) := Lib.hid (HXX0.out.chg HCVR.out (fun h => List.not_mem_nil h))
                  have HOV : Hid (Own wv 52 4 A' 0 c' (rows rs)) := Lib.hid (HOWN.out.chg HCVR.out (fun _ _ => List.not_mem_nil))
                  rw [← hwv]
                  clear hwv x0 x1 x2 x3 x4 x5 x6
                  have HST : Hid (¬ (g.dst ≠ node ∨ (∃ b, acc.getLast? = some b ∧ g.src ≤ b.t))) := Lib.hid (by rintro (h | h); exact h HDN.out; exact HLT.out h)
                  have hcv : Chg [] w wv := HCH.out.trans0 HCVR.out
                  have HCV := Lib.hid hcv
                  clear hcv
                  have x0 := HXX.out.c0
                  have x1 := HXX.out.c1
                  have x2 := HXX.out.c2
                  have x3 := HXX.out.c3
                  have x4 := HXX.out.c4
                  have x5 := HXX.out.c5
                  have x6 := HXX.out.c6
                  rw [HLV.out] at x0
                  go_wp2_with fail
                  have hon := one_any A n c ls B m d ts g wv (HR.out.chg HCV.out (fun _ _ => List.not_mem_nil)) hn (HO.out.chg HCV.out (fun _ _ => List.not_mem_nil)) HMN.out
                  rw [HLV.out] at hon
                  refine hon.mono ?_
                  rintro e w5 ⟨b, E, rfl, hE, hb, hc5⟩
                  have HB := Lib.hid hb
                  have HE := Lib.hid hE
                  have HC5 := Lib.hid hc5
                  have HX5 : Hid (LkAt w5 (ag.add (j * 7)) g) := Lib.hid (HXX.out.chg hc5 (fun h => List.not_mem_nil h))
                  clear hon hb hE hc5 x0 x1 x2 x3 x4 x5 x6
                  simp only [B3.arr, B3.sl]
                  by_cases hE0 : E = 0
                  · subst hE0
                    have hbo := (HB.out rfl).1
                    have HONE : Hid (oneE ls ts g = 0) := Lib.hid HE.out.symm
                    have hl0 := own_len (hbo 0 (by decide))
                    have hl1 := own_len (hbo 1 (by decide))
                    have hl2 := own_len (hbo 2 (by decide))
                    have k0 := ids_len (ls := ls) (g := g) (k := 0)
                    have k1 := ids_len (ls := ls) (g := g) (k := 1)
                    have k2 := ids_len (ls := ls) (g := g) (k := 2)
                    rw [HL.out, hl0] at k0
                    rw [HL.out, hl1] at k1
                    rw [HL.out, hl2] at k2
                    have L0 := Lib.hid hl0
                    have L1 := Lib.hid hl1
                    have L2 := Lib.hid hl2
                    have HBO := Lib.hid hbo
                    clear hbo hl0 hl1 hl2
                    go_wp2_with fail
                    obtain ⟨wz, hwz⟩ : ∃ wz, wz = w5.alloc (.cells #[.slice (b.A 0) (b.n 0) (b.c 0), .slice (b.A 1) (b.n 1) (b.c 1), .slice (b.A 2) (b.n 2) (b.c 2)] 62) := ⟨_, rfl⟩
                    have hbz : Blk wz w5.heap.size 62 #[.slice (b.A 0) (b.n 0) (b.c 0), .slice (b.A 1) (b.n 1) (b.c 1), .slice (b.A 2) (b.n 2) (b.c 2)] := by rw [hwz]; exact Blk.new _ _ _
                    have hcz : Chg [] w5 wz := by rw [hwz]; exact (Chg.refl _ _).alloc _
                    rw [← hwz]
                    clear hwz
                    have HBI : Hid (w.heap.size ≤ w5.heap.size) := Lib.hid (HCV.out.trans0 HC5.out).size
                    obtain ⟨Bi, hBi⟩ : ∃ Bi, Bi = w5.heap.size := ⟨_, rfl⟩
                    rw [← hBi] at hbz HBI ⊢
                    clear hBi
                    have b0 := hbz.cell 0
                    have b1 := hbz.cell 1
                    have b2 := hbz.cell 2
                    simp at b0 b1 b2
                    have HBZ := Lib.hid hbz
                    have HCZ := Lib.hid hcz
                    have HXZ : Hid (LkAt wz (ag.add (j * 7)) g) := Lib.hid (HX5.out.chg hcz (fun h => List.not_mem_nil h))
                    have v1 := HXZ.out.c1
                    have HOZ : Hid (Own wz 52 4 A' 0 c' (rows rs)) := Lib.hid (HOV.out.chg (HC5.out.trans0 hcz) (fun _ _ => List.not_mem_nil))
                    have HBX0 : Hid (Bi ∉ bo A') := Lib.hid (fun hm => HOZ.out.blk_ne hbz (by decide) Bi hm rfl)
                    have HBX : Hid (∀ o : Nat, (⟨Bi, o, none⟩ : Addr).block ∉ bo A') := Lib.hid (fun o => HBX0.out)
                    have HGX : Hid ((ag.add (j * 7)).block ∉ bo A') := Lib.hid (fun hm => by have q := HNW.out _ hm; rw [add_block] at q; have := (HGR.out.2.2.2.2 ag rfl).1 (by omega); omega)
                    clear hbz hcz
                    refine wp_region_held_drew (S := fun w' => Chg (bo A') wz w') (by kernel_rfl) ((Chg.refl _ _).drew) (fun hHeld => ?_)
                    refine wpAnyH_take (i := 0) (v := ?_) rfl (by kernel_rfl) (by kernel_rfl) (by kernel_rfl) (fun _ _ _ h => h) (Or.inl ⟨by rfl, ?_⟩) (by assumption) ?_
                    rotate_left
                    · (intro w' hSw; go_simp; try with_reducible rfl)
                    try simp only [Act.put, List.getElem_toArray, List.getElem_cons_zero, List.setIfInBounds_toArray, List.set_cons_zero, List.set_cons_succ]
                    refine wpAnyH_take (i := 1) (v := ?_) rfl (by kernel_rfl) (by kernel_rfl) (by kernel_rfl) (fun _ _ _ h => h) (Or.inl ⟨by rfl, ?_⟩) (by assumption) ?_
                    rotate_left
                    · (intro w' hSw; have q0 := hSw.cell b0 HBX0.out; have q1 := hSw.cell b1 HBX0.out; have q2 := hSw.cell b2 HBX0.out; go_simp; try with_reducible rfl)
                    try simp only [Act.put, List.getElem_toArray, List.getElem_cons_zero, List.getElem_cons_succ, List.setIfInBounds_toArray, List.set_cons_zero, List.set_cons_succ]
                    refine wpAnyH_take (i := 2) (v := ?_) rfl (by kernel_rfl) (by kernel_rfl) (by kernel_rfl) (fun _ _ _ h => h) (Or.inl ⟨by rfl, ?_⟩) (by assumption) ?_
                    rotate_left
                    · (intro w' hSw; go_simp; try with_reducible rfl)
                    try simp only [Act.put, List.getElem_toArray, List.getElem_cons_zero, List.getElem_cons_succ, List.setIfInBounds_toArray, List.set_cons_zero, List.set_cons_succ]
                    refine wpAnyH_take (i := 3) (v := ?_) rfl (by kernel_rfl) (by kernel_rfl) (by kernel_rfl) (fun _ _ _ h => h) (Or.inl ⟨by rfl, ?_⟩) (by assumption) ?_
                    rotate_left
                    · (intro w' hSw; go_simp; try with_reducible rfl)
                    try simp only [Act.put, List.getElem_toArray, List.getElem_cons_zero, List.getElem_cons_succ, List.setIfInBounds_toArray, List.set_cons_zero, List.set_cons_succ]
                    refine wpAnyH_take (i := 4) (v := ?_) rfl (by kernel_rfl) (by kernel_rfl) (by kernel_rfl) (fun _ _ _ h => h) (Or.inl ⟨by rfl, ?_⟩) (by assumption) ?_
                    rotate_left
                    · (intro w' hSw; go_simp; try with_reducible rfl)
                    try simp only [Act.put, List.getElem_toArray, List.getElem_cons_zero, List.getElem_cons_succ, List.setIfInBounds_toArray, List.set_cons_zero, List.set_cons_succ]
                    refine wpAnyH_take (i := 5) (v := ?_) rfl (by kernel_rfl) (by kernel_rfl) (by kernel_rfl) (fun _ _ _ h => h) (Or.inl ⟨by rfl, ?_⟩) (by assumption) ?_
                    rotate_left
                    · (intro w' hSw; go_simp; try with_reducible rfl)
                    try simp only [Act.put, List.getElem_toArray, List.getElem_cons_zero, List.getElem_cons_succ, List.setIfInBounds_toArray, List.set_cons_zero, List.set_cons_succ]
                    refine wpAnyH_take (i := 6) (v := ?_) rfl (by kernel_rfl) (by kernel_rfl) (by kernel_rfl) (fun _ _ _ h => h) (Or.inl ⟨by rfl, ?_⟩) (by assumption) ?_
                    rotate_left
                    · (intro w' hSw; have q := hSw.cell v1 HGX.out; go_simp; try with_reducible rfl)
                    try simp only [Act.put, List.getElem_toArray, List.getElem_cons_zero, List.getElem_cons_succ, List.setIfInBounds_toArray, List.set_cons_zero, List.set_cons_succ]
                    refine wpAnyH_ready (rs := [7]) (by kernel_rfl) (by simp) ?_
                    refine AllReadyH.cons rfl (fun K hK => ?_) (AllReadyH.nil)
                    go_simp
                    refine (bunch_any _ _ _ _ _ _ _ _ _ g.src _).mono ?_
                    rintro e w7 ⟨rfl, hc7⟩
                    have hz7 : Chg [] wz w7 := ((Chg.refl [] wz).drew).trans0 hc7
                    have HZ7 := Lib.hid hz7
                    have ho7 := HOZ.out.chg hz7 (fun _ _ => List.not_mem_nil)
                    clear hc7 hz7
                    refine hK.out _ _ (HZ7.out.nil _) (fun hHeld => ?_)
                    try simp only [Act.put, List.getElem_toArray, List.getElem_cons_zero, List.getElem_cons_succ, List.setIfInBounds_toArray, List.set_cons_zero, List.set_cons_succ]
                    clear hK K
                    refine wpAnyH_ready (rs := [8]) (by kernel_rfl) (by simp) ?_
                    refine AllReadyH.cons rfl (fun K hK => ?_) (AllReadyH.nil)
                    go_simp
                    refine hK.out _ _ (hHeld.alloc _) (fun hHeld => ?_)
                    try simp only [Act.put, List.getElem_toArray, List.getElem_cons_zero, List.getElem_cons_succ, List.setIfInBounds_toArray, List.set_cons_zero, List.set_cons_succ]
                    clear hK K
                    refine wpAnyH_ready (rs := [9]) (by kernel_rfl) (by simp) ?_
                    refine AllReadyH.cons rfl (fun K hK => ?_) (AllReadyH.nil)
                    refine step_app rfl _ _ rfl etyBunches rfl (ho7.chg ((Chg.refl [] w7).alloc (.cells #[.int .i64 g.src, .slice (b.A 0) (b.n 0) (b.c 0), .slice (b.A 1) (b.n 1) (b.c 1), .slice (b.A 2) (b.n 2) (b.c 2)] 52)) (fun _ _ => List.not_mem_nil)) rfl (Own.lit w7 52 4 #[.int .i64 g.src, .slice (b.A 0) (b.n 0) (b.c 0), .slice (b.A 1) (b.n 1) (b.c 1), .slice (b.A 2) (b.n 2) (b.c 2)] 1 (by decide) rfl).rd (by simp [Value.oneCell']) (by unfold maxLen; omega) (by omega) ?_
                    intro A8 c8 w8 hown8 hchg8 hnew8 _
                    have hz8 : Chg (bo A') wz w8 := ((HZ7.out.alloc _).nil _).trans hchg8 (fun x hx => .inl hx)
                    have HO8 := Lib.hid hown8
                    have HC8 := Lib.hid hchg8
                    have HN8 := Lib.hid hnew8
                    have HZ8 := Lib.hid hz8
                    clear hown8 hchg8 hnew8 hz8 ho7
                    refine hK.out _ _ (HZ8.out) (fun hHeld => ?_)
                    try simp only [Act.put, List.getElem_toArray, List.getElem_cons_zero, List.getElem_cons_succ, List.setIfInBounds_toArray, List.set_cons_zero, List.set_cons_succ]
                    clear hK K
                    refine wpAnyH_take (i := 10) (v := ?_) rfl (by kernel_rfl) (by kernel_rfl) (by kernel_rfl) (fun _ _ _ h => h) (Or.inl ⟨by rfl, ?_⟩) (by assumption) ?_
                    rotate_left
                    · (intro w' hSw; go_simp; try with_reducible rfl)
                    try simp only [Act.put, List.getElem_toArray, List.getElem_cons_zero, List.getElem_cons_succ, List.setIfInBounds_toArray, List.set_cons_zero, List.set_cons_succ]
                    refine wpAnyH_done (by kernel_rfl) ?_ _
                    try simp only [Act.put, List.getElem_toArray, List.getElem_cons_zero, List.getElem_cons_succ, List.setIfInBounds_toArray, List.set_cons_zero, List.set_cons_succ]
                    have HBZ8 : Hid (Blk w8 Bi 62 #[.slice (b.A 0) (b.n 0) (b.c 0), .slice (b.A 1) (b.n 1) (b.c 1), .slice (b.A 2) (b.n 2) (b.c 2)]) := Lib.hid (HBZ.out.chg HZ8.out HBX0.out)
                    clear b0 b1 b2 v1
                    have b0 := HBZ8.out.cell 0
                    have b1 := HBZ8.out.cell 1
                    have b2 := HBZ8.out.cell 2
                    simp at b0 b1 b2
                    go_wp2_with fail
                    refine (size_any _ _ _ _ _ _ _ _ _ (by omega) (by omega) (by omega) _).mono ?_
                    rintro e w9 ⟨rfl, hc9⟩
                    have HC9 := Lib.hid hc9
                    have x6 : w9.cell? ⟨(ag.add (j * 7)).block, (ag.add (j * 7)).off + 6, none⟩ = some (.int .i64 g.tn) := hc9.cell (HZ8.out.cell HXZ.out.c6 HGX.out) (fun h => List.not_mem_nil h)
                    obtain ⟨tot, htot⟩ : ∃ tot, tot = b.n 0 + b.n 1 + b.n 2 := ⟨_, rfl⟩
                    have htb : tot ≤ 3221225472 := by omega
                    have hwt : IntKind.i64.wrap ((held : Int) + (tot : Int)) = ((held + tot : Nat) : Int) := by rw [IntKind.wrap_i64]; have := HHE.out; omega
                    rw [← htot]
                    have HTOT := Lib.hid htot
                    clear hc9 htot b0 b1 b2
                    go_wp2
                    go_roundw
                    case rel =>
                      refine ⟨acc ++ [oneB ls g], V ++ [j], rs ++ [(g.src, b)], A8, c8, 0 + 1, held + tot, g.tn, f, rfl, by simp [HN.out], by first | rfl | (congr 1), rfl, ?_, HGD.out.step HG.out rfl HLT.out, by have := HF.out; omega, by have := HHE.out; omega, ?_, ?_, ?_, fun x hx => ?_⟩
                      · rw [← HRD.out, rdg_step HG.out HLV.out HST.out HONE.out, HTOT.out, L0.out, L1.out, L2.out]
                      · rw [rows_append]
                        have q := HO8.out.chg HC9.out (fun _ _ => List.not_mem_nil)
                        simpa [rows, B3.cs, B3.sl] using q
                      · have h1 := ((HROWS.out.chg HCVR.out).chg (HC5.out.trans0 HCZ.out)).chgA HOZ.out (by decide) HZ8.out
                        have h2 : Own3 w8 b (idsOf ls g) := fun k hk => ((HBO.out k hk).chg HCZ.out (fun _ _ => List.not_mem_nil)).chg HZ8.out (((HBO.out k hk).chg HCZ.out (fun _ _ => List.not_mem_nil)).own_ne HOZ.out (by decide))
                        exact (h1.snoc (x := oneB ls g) rfl h2).chg HC9.out
                      · exact (((HCV.out.trans0 HC5.out).trans0 HCZ.out).trans HZ8.out (fun x hx => .inr (HNW.out x hx))).trans0 HC9.out
                      · rcases HN8.out x hx with h | h
                        · exact HNW.out x h
                        · have q1 := (((HCV.out.trans0 HC5.out).trans0 HCZ.out).trans0 HZ7.out).size; simp at h; omega
                    case measure => (simp [slLen]) <;> omega
                  · have hEb : (E != 0) = true := by simp [hE0]
                    have HRR : Hid (reads ls ts gs node head = ([], E)) := Lib.hid (by rw [← HRD.out, rdg_one HG.out HLV.out HST.out (by rw [← HE.out]; exact hE0), HE.out])
                    clear hE0
                    go_wp2
                    go_ret2
                    exact BAD.out E HRR.out _ (by first | exact (HCV.out.trans0 HC5.out).alloc _ | exact HCV.out.trans0 HC5.out)
                · obtain ⟨p, hp, hpt⟩ := HROWS.out.last hacc
                  have hNp : 0 < N := by rw [HN.out]; exact List.length_pos_iff.2 (by rintro rfl; simp at hacc)
                  obtain ⟨ao, rfl, y0, _⟩ := HOWN.out.rd.bn hp
                  rw [hpt, ← HN.out] at y0
                  have t3 : decide ((0 : Int) < (N : Int)) = true := by simp; omega
                  have hNs : ((N - 1 : Nat) : Int) = (N : Int) - 1 := by omega
                  have hwn : IntKind.i64.wrap ((N : Int) - 1) = ((N - 1 : Nat) : Int) := by rw [IntKind.wrap_i64]; omega
                  have k1 : (0 : Int) ≤ ((N - 1 : Nat) : Int) := by omega
                  have k2 : ((N - 1 : Nat) : Int) < (N : Int) := by omega
                  have HACC := Lib.hid hacc
                  have HNS := Lib.hid hNs
                  clear hacc hp hpt hNs
                  generalize hM : N - 1 = M at *
                  have HMM := Lib.hid hM
                  clear hM
                  by_cases hle : g.src ≤ bl.t
                  · have t4 : decide (g.src ≤ bl.t) = true := by simp [hle]
                    have HRR : Hid (reads ls ts gs node head = ([], 170)) := Lib.hid (by rw [← HRD.out, rdg_group HG.out HLV.out (.inr ⟨bl, HACC.out, hle⟩)])
                    clear hle
                    go_wp2_with fail
                    go_quiet (fail)
                    go_wp2
                    go_ret2
                    exact BAD.out 170 HRR.out _ (by first | exact HCH.out | exact HCH.out.drewN _ | exact HCH.out.drew)
                  · have t4 : decide (g.src ≤ bl.t) = false := by simp; omega
                    have HLT : Hid (¬ (∃ b, acc.getLast? = some b ∧ g.src ≤ b.t)) := Lib.hid (by rw [HACC.out]; rintro ⟨b, hb, h⟩; injection hb with hb; subst hb; exact hle h)
                    clear hle
                    go_wp2_with fail
                    go_quiet (fail)
                    obtain ⟨wv, hwv⟩ : ∃ wv, wv = wr.drewN nq := ⟨_, rfl⟩
                    have HCVR : Hid (Chg [] wr wv) := Lib.hid (by rw [hwv]; exact (Chg.refl _ _).drewN _)
                    have HXX : Hid (LkAt wv (ag.add (j * 7)) g) := Lib.hid (HXX0.out.chg HCVR.out (fun h => List.not_mem_nil h))
                    have HOV : Hid (Own wv 52 4 (some ao) N c' (rows rs)) := Lib.hid (HOWN.out.chg HCVR.out (fun _ _ => List.not_mem_nil))
                    rw [← hwv]
                    clear hwv x0 x1 x2 x3 x4 x5 x6
                    have HST : Hid (¬ (g.dst ≠ node ∨ (∃ b, acc.getLast? = some b ∧ g.src ≤ b.t))) := Lib.hid (by rintro (h | h); exact h HDN.out; exact HLT.out h)
                    have hcv : Chg [] w wv := HCH.out.trans0 HCVR.out
                    have HCV := Lib.hid hcv
                    clear hcv
                    have x0 := HXX.out.c0
                    have x1 := HXX.out.c1
                    have x2 := HXX.out.c2
                    have x3 := HXX.out.c3
                    have x4 := HXX.out.c4
                    have x5 := HXX.out.c5
                    have x6 := HXX.out.c6
                    rw [HLV.out] at x0
                    go_wp2_with fail
                    have hon := one_any A n c ls B m d ts g wv (HR.out.chg HCV.out (fun _ _ => List.not_mem_nil)) hn (HO.out.chg HCV.out (fun _ _ => List.not_mem_nil)) HMN.out
                    rw [HLV.out] at hon
                    refine hon.mono ?_
                    rintro e w5 ⟨b, E, rfl, hE, hb, hc5⟩
                    have HB := Lib.hid hb
                    have HE := Lib.hid hE
                    have HC5 := Lib.hid hc5
                    have HX5 : Hid (LkAt w5 (ag.add (j * 7)) g) := Lib.hid (HXX.out.chg hc5 (fun h => List.not_mem_nil h))
                    clear hon hb hE hc5 x0 x1 x2 x3 x4 x5 x6
                    simp only [B3.arr, B3.sl]
                    by_cases hE0 : E = 0
                    · subst hE0
                      have hbo := (HB.out rfl).1
                      have HONE : Hid (oneE ls ts g = 0) := Lib.hid HE.out.symm
                      have hl0 := own_len (hbo 0 (by decide))
                      have hl1 := own_len (hbo 1 (by decide))
                      have hl2 := own_len (hbo 2 (by decide))
                      have k0 := ids_len (ls := ls) (g := g) (k := 0)
                      have k1 := ids_len (ls := ls) (g := g) (k := 1)
                      have k2 := ids_len (ls := ls) (g := g) (k := 2)
                      rw [HL.out, hl0] at k0
                      rw [HL.out, hl1] at k1
                      rw [HL.out, hl2] at k2
                      have L0 := Lib.hid hl0
                      have L1 := Lib.hid hl1
                      have L2 := Lib.hid hl2
                      have HBO := Lib.hid hbo
                      clear hbo hl0 hl1 hl2
                      go_wp2_with fail
                      obtain ⟨wz, hwz⟩ : ∃ wz, wz = w5.alloc (.cells #[.slice (b.A 0) (b.n 0) (b.c 0), .slice (b.A 1) (b.n 1) (b.c 1), .slice (b.A 2) (b.n 2) (b.c 2)] 62) := ⟨_, rfl⟩
                      have hbz : Blk wz w5.heap.size 62 #[.slice (b.A 0) (b.n 0) (b.c 0), .slice (b.A 1) (b.n 1) (b.c 1), .slice (b.A 2) (b.n 2) (b.c 2)] := by rw [hwz]; exact Blk.new _ _ _
                      have hcz : Chg [] w5 wz := by rw [hwz]; exact (Chg.refl _ _).alloc _
                      rw [← hwz]
                      clear hwz
                      have HBI : Hid (w.heap.size ≤ w5.heap.size) := Lib.hid (HCV.out.trans0 HC5.out).size
                      obtain ⟨Bi, hBi⟩ : ∃ Bi, Bi = w5.heap.size := ⟨_, rfl⟩
                      rw [← hBi] at hbz HBI ⊢
                      clear hBi
                      have b0 := hbz.cell 0
                      have b1 := hbz.cell 1
                      have b2 := hbz.cell 2
                      simp at b0 b1 b2
                      have HBZ := Lib.hid hbz
                      have HCZ := Lib.hid hcz
                      have HXZ : Hid (LkAt wz (ag.add (j * 7)) g) := Lib.hid (HX5.out.chg hcz (fun h => List.not_mem_nil h))
                      have v1 := HXZ.out.c1
                      have HOZ : Hid (Own wz 52 4 (some ao) N c' (rows rs)) := Lib.hid (HOV.out.chg (HC5.out.trans0 hcz) (fun _ _ => List.not_mem_nil))
                      have HBX0 : Hid (Bi ∉ bo (some ao)) := Lib.hid (fun hm => HOZ.out.blk_ne hbz (by decide) Bi hm rfl)
                      have HBX : Hid (∀ o : Nat, (⟨Bi, o, none⟩ : Addr).block ∉ bo (some ao)) := Lib.hid (fun o => HBX0.out)
                      have HGX : Hid ((ag.add (j * 7)).block ∉ bo (some ao)) := Lib.hid (fun hm => by have q := HNW.out _ hm; rw [add_block] at q; have := (HGR.out.2.2.2.2 ag rfl).1 (by omega); omega)
                      clear hbz hcz
                      refine wp_region_held_drew (S := fun w' => Chg (bo (some ao)) wz w') (by kernel_rfl) ((Chg.refl _ _).drew) (fun hHeld => ?_)
                      refine wpAnyH_take (i := 0) (v := ?_) rfl (by kernel_rfl) (by kernel_rfl) (by kernel_rfl) (fun _ _ _ h => h) (Or.inl ⟨by rfl, ?_⟩) (by assumption) ?_
                      rotate_left
                      · (intro w' hSw; go_simp; try with_reducible rfl)
                      try simp only [Act.put, List.getElem_toArray, List.getElem_cons_zero, List.setIfInBounds_toArray, List.set_cons_zero, List.set_cons_succ]
                      refine wpAnyH_take (i := 1) (v := ?_) rfl (by kernel_rfl) (by kernel_rfl) (by kernel_rfl) (fun _ _ _ h => h) (Or.inl ⟨by rfl, ?_⟩) (by assumption) ?_
                      rotate_left
                      · (intro w' hSw; have q0 := hSw.cell b0 HBX0.out; have q1 := hSw.cell b1 HBX0.out; have q2 := hSw.cell b2 HBX0.out; go_simp; try with_reducible rfl)
                      try simp only [Act.put, List.getElem_toArray, List.getElem_cons_zero, List.getElem_cons_succ, List.setIfInBounds_toArray, List.set_cons_zero, List.set_cons_succ]
                      refine wpAnyH_take (i := 2) (v := ?_) rfl (by kernel_rfl) (by kernel_rfl) (by kernel_rfl) (fun _ _ _ h => h) (Or.inl ⟨by rfl, ?_⟩) (by assumption) ?_
                      rotate_left
                      · (intro w' hSw; go_simp; try with_reducible rfl)
                      try simp only [Act.put, List.getElem_toArray, List.getElem_cons_zero, List.getElem_cons_succ, List.setIfInBounds_toArray, List.set_cons_zero, List.set_cons_succ]
                      refine wpAnyH_take (i := 3) (v := ?_) rfl (by kernel_rfl) (by kernel_rfl) (by kernel_rfl) (fun _ _ _ h => h) (Or.inl ⟨by rfl, ?_⟩) (by assumption) ?_
                      rotate_left
                      · (intro w' hSw; go_simp; try with_reducible rfl)
                      try simp only [Act.put, List.getElem_toArray, List.getElem_cons_zero, List.getElem_cons_succ, List.setIfInBounds_toArray, List.set_cons_zero, List.set_cons_succ]
                      refine wpAnyH_take (i := 4) (v := ?_) rfl (by kernel_rfl) (by kernel_rfl) (by kernel_rfl) (fun _ _ _ h => h) (Or.inl ⟨by rfl, ?_⟩) (by assumption) ?_
                      rotate_left
                      · (intro w' hSw; go_simp; try with_reducible rfl)
                      try simp only [Act.put, List.getElem_toArray, List.getElem_cons_zero, List.getElem_cons_succ, List.setIfInBounds_toArray, List.set_cons_zero, List.set_cons_succ]
                      refine wpAnyH_take (i := 5) (v := ?_) rfl (by kernel_rfl) (by kernel_rfl) (by kernel_rfl) (fun _ _ _ h => h) (Or.inl ⟨by rfl, ?_⟩) (by assumption) ?_
                      rotate_left
                      · (intro w' hSw; go_simp; try with_reducible rfl)
                      try simp only [Act.put, List.getElem_toArray, List.getElem_cons_zero, List.getElem_cons_succ, List.setIfInBounds_toArray, List.set_cons_zero, List.set_cons_succ]
                      refine wpAnyH_take (i := 6) (v := ?_) rfl (by kernel_rfl) (by kernel_rfl) (by kernel_rfl) (fun _ _ _ h => h) (Or.inl ⟨by rfl, ?_⟩) (by assumption) ?_
                      rotate_left
                      · (intro w' hSw; have q := hSw.cell v1 HGX.out; go_simp; try with_reducible rfl)
                      try simp only [Act.put, List.getElem_toArray, List.getElem_cons_zero, List.getElem_cons_succ, List.setIfInBounds_toArray, List.set_cons_zero, List.set_cons_succ]
                      refine wpAnyH_ready (rs := [7]) (by kernel_rfl) (by simp) ?_
                      refine AllReadyH.cons rfl (fun K hK => ?_) (AllReadyH.nil)
                      go_simp
                      refine (bunch_any _ _ _ _ _ _ _ _ _ g.src _).mono ?_
                      rintro e w7 ⟨rfl, hc7⟩
                      have hz7 : Chg [] wz w7 := ((Chg.refl [] wz).drew).trans0 hc7
                      have HZ7 := Lib.hid hz7
                      have ho7 := HOZ.out.chg hz7 (fun _ _ => List.not_mem_nil)
                      clear hc7 hz7
                      refine hK.out _ _ (HZ7.out.nil _) (fun hHeld => ?_)
                      try simp only [Act.put, List.getElem_toArray, List.getElem_cons_zero, List.getElem_cons_succ, List.setIfInBounds_toArray, List.set_cons_zero, List.set_cons_succ]
                      clear hK K
                      refine wpAnyH_ready (rs := [8]) (by kernel_rfl) (by simp) ?_
                      refine AllReadyH.cons rfl (fun K hK => ?_) (AllReadyH.nil)
                      go_simp
                      refine hK.out _ _ (hHeld.alloc _) (fun hHeld => ?_)
                      try simp only [Act.put, List.getElem_toArray, List.getElem_cons_zero, List.getElem_cons_succ, List.setIfInBounds_toArray, List.set_cons_zero, List.set_cons_succ]
                      clear hK K
                      refine wpAnyH_ready (rs := [9]) (by kernel_rfl) (by simp) ?_
                      refine AllReadyH.cons rfl (fun K hK => ?_) (AllReadyH.nil)
                      refine step_app rfl _ _ rfl etyBunches rfl (ho7.chg ((Chg.refl [] w7).alloc (.cells #[.int .i64 g.src, .slice (b.A 0) (b.n 0) (b.c 0), .slice (b.A 1) (b.n 1) (b.c 1), .slice (b.A 2) (b.n 2) (b.c 2)] 52)) (fun _ _ => List.not_mem_nil)) rfl (Own.lit w7 52 4 #[.int .i64 g.src, .slice (b.A 0) (b.n 0) (b.c 0), .slice (b.A 1) (b.n 1) (b.c 1), .slice (b.A 2) (b.n 2) (b.c 2)] 1 (by decide) rfl).rd (by simp [Value.oneCell']) (by unfold maxLen; omega) (by omega) ?_
                      intro A8 c8 w8 hown8 hchg8 hnew8 _
                      have hz8 : Chg (bo (some ao)) wz w8 := ((HZ7.out.alloc _).nil _).trans hchg8 (fun x hx => .inl hx)
                      have HO8 := Lib.hid hown8
                      have HC8 := Lib.hid hchg8
                      have HN8 := Lib.hid hnew8
                      have HZ8 := Lib.hid hz8
                      clear hown8 hchg8 hnew8 hz8 ho7
                      refine hK.out _ _ (HZ8.out) (fun hHeld => ?_)
                      try simp only [Act.put, List.getElem_toArray, List.getElem_cons_zero, List.getElem_cons_succ, List.setIfInBounds_toArray, List.set_cons_zero, List.set_cons_succ]
                      clear hK K
                      refine wpAnyH_take (i := 10) (v := ?_) rfl (by kernel_rfl) (by kernel_rfl) (by kernel_rfl) (fun _ _ _ h => h) (Or.inl ⟨by rfl, ?_⟩) (by assumption) ?_
                      rotate_left
                      · (intro w' hSw; go_simp; try with_reducible rfl)
                      try simp only [Act.put, List.getElem_toArray, List.getElem_cons_zero, List.getElem_cons_succ, List.setIfInBounds_toArray, List.set_cons_zero, List.set_cons_succ]
                      refine wpAnyH_done (by kernel_rfl) ?_ _
                      try simp only [Act.put, List.getElem_toArray, List.getElem_cons_zero, List.getElem_cons_succ, List.setIfInBounds_toArray, List.set_cons_zero, List.set_cons_succ]
                      have HBZ8 : Hid (Blk w8 Bi 62 #[.slice (b.A 0) (b.n 0) (b.c 0), .slice (b.A 1) (b.n 1) (b.c 1), .slice (b.A 2) (b.n 2) (b.c 2)]) := Lib.hid (HBZ.out.chg HZ8.out HBX0.out)
                      clear b0 b1 b2 v1
                      have b0 := HBZ8.out.cell 0
                      have b1 := HBZ8.out.cell 1
                      have b2 := HBZ8.out.cell 2
                      simp at b0 b1 b2
                      go_wp2_with fail
                      refine (size_any _ _ _ _ _ _ _ _ _ (by omega) (by omega) (by omega) _).mono ?_
                      rintro e w9 ⟨rfl, hc9⟩
                      have HC9 := Lib.hid hc9
                      have x6 : w9.cell? ⟨(ag.add (j * 7)).block, (ag.add (j * 7)).off + 6, none⟩ = some (.int .i64 g.tn) := hc9.cell (HZ8.out.cell HXZ.out.c6 HGX.out) (fun h => List.not_mem_nil h)
                      obtain ⟨tot, htot⟩ : ∃ tot, tot = b.n 0 + b.n 1 + b.n 2 := ⟨_, rfl⟩
                      have htb : tot ≤ 3221225472 := by omega
                      have hwt : IntKind.i64.wrap ((held : Int) + (tot : Int)) = ((held + tot : Nat) : Int) := by rw [IntKind.wrap_i64]; have := HHE.out; omega
                      rw [← htot]
                      have HTOT := Lib.hid htot
                      clear hc9 htot b0 b1 b2
                      go_wp2
                      go_roundw
                      case rel =>
                        refine ⟨acc ++ [oneB ls g], V ++ [j], rs ++ [(g.src, b)], A8, c8, N + 1, held + tot, g.tn, f, rfl, by simp [HN.out], by first | rfl | (congr 1), rfl, ?_, HGD.out.step HG.out rfl HLT.out, by have := HF.out; omega, by have := HHE.out; omega, ?_, ?_, ?_, fun x hx => ?_⟩
                        · rw [← HRD.out, rdg_step HG.out HLV.out HST.out HONE.out, HTOT.out, L0.out, L1.out, L2.out]
                        · rw [rows_append]
                          have q := HO8.out.chg HC9.out (fun _ _ => List.not_mem_nil)
                          simpa [rows, B3.cs, B3.sl] using q
                        · have h1 := ((HROWS.out.chg HCVR.out).chg (HC5.out.trans0 HCZ.out)).chgA HOZ.out (by decide) HZ8.out
                          have h2 : Own3 w8 b (idsOf ls g) := fun k hk => ((HBO.out k hk).chg HCZ.out (fun _ _ => List.not_mem_nil)).chg HZ8.out (((HBO.out k hk).chg HCZ.out (fun _ _ => List.not_mem_nil)).own_ne HOZ.out (by decide))
                          exact (h1.snoc (x := oneB ls g) rfl h2).chg HC9.out
                        · exact (((HCV.out.trans0 HC5.out).trans0 HCZ.out).trans HZ8.out (fun x hx => .inr (HNW.out x hx))).trans0 HC9.out
                        · rcases HN8.out x hx with h | h
                          · exact HNW.out x h
                          · have q1 := (((HCV.out.trans0 HC5.out).trans0 HCZ.out).trans0 HZ7.out).size; simp at h; omega
                      case measure => (simp [slLen]) <;> omega
                    · have hEb : (E != 0) = true := by simp [hE0]
                      have HRR : Hid (reads ls ts gs node head = ([], E)) := Lib.hid (by rw [← HRD.out, rdg_one HG.out HLV.out HST.out (by rw [← HE.out]; exact hE0), HE.out])
                      clear hE0
                      go_wp2
                      go_ret2
                      exact BAD.out E HRR.out _ (by first | exact (HCV.out.trans0 HC5.out).alloc _ | exact HCV.out.trans0 HC5.out)
              · have t2 : (g.dst != node) = true := by simp [hdn]
                have HRR : Hid (reads ls ts gs node head = ([], 170)) := Lib.hid (by rw [← HRD.out, rdg_group HG.out HLV.out (.inl hdn)])
                clear hdn
                go_wp2_with fail
                go_quiet (fail)
                go_wp2
                go_ret2
                exact BAD.out 170 HRR.out _ (by first | exact HCH.out | exact HCH.out.drewN _ | exact HCH.out.drew)
          · have q1 : ¬ ((j : Int) < 0) := by omega
            have q2 : (gn : Int) ≤ j := by omega
            have HRR : Hid (reads ls ts gs node head = ([], 3)) := Lib.hid (by rw [← HRD.out, rdg_none (List.getElem?_eq_none (by rw [HGL.out]; omega))])
            clear hid1 hneg
            go_wp2
            go_ret2
            exact BAD.out 3 HRR.out _ HCH.out
  · have t0 : ((m : Int) != n) = true := by simp; omega
    have HRR : Hid (reads ls ts gs node head = ([], 2)) := Lib.hid (by unfold reads; rw [if_pos (by rw [HM.out, HL.out]; exact hmn)])
    clear hmn
    go_enter Try.func20, Try.ntmps20
    go_wp2
    go_ret2
    exact BAD.out 2 HRR.out _ (Chg.refl _ _)
end Go.Proofs.Ytelmnmepdmfihaa
