/-
  Layer 08: the document's Open, walked.
-/
import Derived.Test.YtgomofeidghmiaaGreatVfRo
import Derived.Deep.Cut
import Derived.Deep.CutRange
import Derived.Deep.DeepCutAuto
namespace Go.Proofs.YtgomofeidghmiaaGreat
open Go.RowKit

theorem ordE_bad {f : Bool} {last name : ByteArray} (h : goodP name = false) : ordE f last name = 81 := by unfold ordE; rw [if_pos h]
theorem ordE_late {last name : ByteArray} (h : goodP name = true) (h2 : leS name last = true) : ordE false last name = 6 := by unfold ordE; rw [if_neg (by simp [h]), if_pos ⟨rfl, h2⟩]
theorem ordE_ok {f : Bool} {last name : ByteArray} (h : goodP name = true) (h2 : f = false → leS name last = false) : ordE f last name = 0 := by
  unfold ordE
  rw [if_neg (by simp [h]), if_neg]
  rintro ⟨h3, h4⟩
  rw [h2 h3] at h4; cases h4
theorem lastN_at {α : Type} {l : List (ByteArray × α)} {i : Nat} {x : ByteArray × α} (h : l[i]? = some x) : lastN noS (l.take (i + 1)) = x.1 := by rw [take_snoc _ _ _ h, lastN_snoc]
/-- all blocks of a half open one -/
def roAll (b : Nat) (sA : Option Addr) (rs : List RF) (fA : Option Addr) (Ls : List (List Nat)) : List Nat := b :: (bo sA ++ (bo fA ++ (rblk rs ++ Ls.flatten)))

theorem mem_roAll {x b : Nat} {sA fA : Option Addr} {rs : List RF} {Ls : List (List Nat)} : x ∈ roAll b sA rs fA Ls ↔ x = b ∨ x ∈ bo sA ∨ x ∈ bo fA ∨ x ∈ rblk rs ∨ ∃ P ∈ Ls, x ∈ P := by
  unfold roAll
  simp only [List.mem_cons, List.mem_append, List.mem_flatten]
theorem RoM.keep {w w' : World} {b : Nat} {sA : Option Addr} {sc : Nat} {rs : List RF} {fA : Option Addr} {fc : Nat} {sg : List Nat} {Ls : List (List Nat)} {fs : List Fil} {q a : Int} {M : List Nat} (h : RoM w b sA sc rs fA fc sg Ls fs q a) (hc : Chg M w w') (hn : ∀ x ∈ roAll b sA rs fA Ls, x ∉ M) : RoM w' b sA sc rs fA fc sg Ls fs q a :=
  ⟨h.blk.chg hc (hn b (mem_roAll.2 (.inl rfl))), h.row.chg hc (fun k hk => hn k (mem_roAll.2 (.inr (.inl hk)))), fun r hr => (h.fil r hr).chg hc (fun k hk => hn k (mem_roAll.2 (.inr (.inr (.inr (.inl (List.mem_flatMap.2 ⟨r, hr, hk⟩))))))),
    h.fls.chg hc (fun k hk => hn k (mem_roAll.2 (.inr (.inr (.inl hk))))), h.lsl, fun i g L f e1 e2 e3 => (h.spo i g L f e1 e2 e3).chg hc (fun k hk => hn k (mem_roAll.2 (.inr (.inr (.inr (.inr ⟨L, List.mem_of_getElem? e2, hk⟩)))))), h.lay.mono hc.size⟩
theorem cnt8_take (D : Dsk) (i : Nat) : cnt8 (D.take i) ≤ cnt8 D := by
  unfold cnt8
  conv => rhs; rw [← List.take_append_drop i D, List.map_append, List.sum_append]
  omega
theorem cnt8_at {D : Dsk} {i : Nat} {d : ByteArray × List (ByteArray × List Int)} (h : D[i]? = some d) : cnt8 (D.take i) + d.2.length ≤ cnt8 D := by
  have := cnt8_take D (i + 1)
  rw [take_snoc _ _ _ h, cnt8_snoc] at this
  exact this

set_option maxRecDepth 100000 in
set_option maxHeartbeats 6400000 in
theorem ropen_any (w : World) (A : Option Addr) (n c : Nat) (ds : List DM) (quota stop : Int) (h : DirsR w A n c ds) (hn : n ≤ 1073741824) (hb : bulk8 (dval8 ds) ≤ 1073741824) :
    Calls Tryz.prog 31 #[.slice A n c, .int .i64 quota, .int .i64 stop] w (NewRf w (dval8 ds) quota stop) := by
  have HD := Lib.hid h
  have HB := Lib.hid hb
  clear h hb
  go_enter Tryz.func31, Tryz.ntmps31
  by_cases hq : quota < 0
  · have HE : Hid (openE (dval8 ds) quota = 2) := Lib.hid (by unfold openE; rw [if_pos hq])
    go_wp2
    go_ret2
    exact .inl ⟨by rw [HE.out]; decide, by rw [HE.out]; rfl, Chg.refl _ _⟩
  · have HE : Hid (openE (dval8 ds) quota = dirsE true noS (dval8 ds)) := Lib.hid (by unfold openE; rw [if_neg hq])
    obtain ⟨b, hbn⟩ : ∃ b, w.heap.size = b := ⟨_, rfl⟩
    obtain ⟨W, hW⟩ : ∃ W, w.alloc (.cells #[.slice none 0 0, .slice none 0 0, .slice none 0 0, .slice none 0 0, .slice none 0 0, .int .i64 quota, .int .i64 stop, .int .i64 0] 46) = W := ⟨_, rfl⟩
    have hcW : Chg [] w W := by rw [← hW]; exact (Chg.refl [] w).alloc _
    have hRo : RoM W b none 0 [] none 0 [] [] [] quota stop := by
      have hbk : Blk W b 46 #[.slice none 0 0, .slice none 0 0, .slice none 0 0, .slice none 0 0, .slice none 0 0, .int .i64 quota, .int .i64 stop, .int .i64 0] := by rw [← hW, ← hbn]; exact Blk.new w _ _
      refine ⟨hbk, Own.nil _ _ _, by simp, Own.nil _ _ _, rfl, by simp, ⟨by simp [Sep, rblk], ?_⟩⟩
      intro P hP x hx
      have h1 := hbk.lt
      simp only [List.mem_cons, bo_none, rblk, List.flatMap_nil, List.mem_nil_iff, or_false] at hP
      rcases hP with rfl | rfl | rfl | rfl <;> simp at hx
      omega
    have HRO := Lib.hid hRo
    have HCW := Lib.hid hcW
    have HBN := Lib.hid hbn
    clear hRo hcW
    go_wp2
    go_loopw [9] (fun s9 wr => ∃ (i : Nat) (sA : Option Addr) (sc : Nat) (rs : List RF) (fA : Option Addr) (fc : Nat) (sg : List Nat) (Ls : List (List Nat)), i ≤ n ∧ s9 = .int .i64 i ∧ dirsE true noS ((dval8 ds).take i) = 0 ∧
      RoM wr b sA sc rs fA fc sg Ls (fls ((dval8 ds).take i)) quota stop ∧ rval rs = numT 0 ((dval8 ds).take i) ∧ (∀ x ∈ roAll b sA rs fA Ls, w.heap.size ≤ x) ∧ Chg [] w wr) (fun s9 _ => n - (intOf s9).toNat)
    case atStart => exact ⟨0, none, 0, [], none, 0, [], [], Nat.zero_le _, rfl, rfl, HRO.out, rfl, by have := HBN.out; simp [roAll, rblk]; omega, HCW.out⟩
    case round =>
      obtain ⟨i, sA, sc, rs, fA, fc, sg, Ls, hin, rfl, hpre, hro, hrv, hnew, hch⟩ := hrel
      have HPRE := Lib.hid hpre
      have HRO2 := Lib.hid hro
      have HRV := Lib.hid hrv
      have HNEW := Lib.hid hnew
      have HCH := Lib.hid hch
      have hrl : rs.length = i := by
        have h1 := congrArg List.length hrv
        have h2 := congrArg List.length (numT_fst 0 ((dval8 ds).take i))
        simp only [rval, List.length_map] at h1 h2
        have h3 := HD.out.row.nsl
        simp only [dnsl, List.length_map] at h3
        rw [h1, h2, List.length_take]
        simp only [dval8, List.length_map]
        omega
      have HRL := Lib.hid hrl
      clear hpre hro hrv hnew hch HRO HCW hrl
      by_cases hlt : i < n
      · have hlt' : (i : Int) < n := by omega
        obtain ⟨d, hd⟩ : ∃ d, ds[i]? = some d := ⟨_, List.getElem?_eq_getElem (by have := HD.out.row.nsl; simp [dnsl] at this; omega)⟩
        obtain ⟨⟨dnm, dA, dn, dc⟩, dfs⟩ := d
        have hdv : (dval8 ds)[i]? = some (dnm, fval8 dfs) := by unfold dval8; rw [List.getElem?_map, hd]; rfl
        obtain ⟨ad, rfl, hat⟩ := (HD.out.chg0 HCH.out).row.ns (j := i) (x := ⟨dnm, dA, dn, dc⟩) (by unfold dnsl; rw [List.getElem?_map, hd]; rfl)
        have x0 := hat.c0
        have x1 := hat.c1
        have HDV := Lib.hid hdv
        have HDM := Lib.hid (List.mem_of_getElem? hd)
        clear hd hdv hat
        obtain ⟨dv, hdvn⟩ : ∃ dv, wr.heap.size = dv := ⟨_, rfl⟩
        obtain ⟨W1, hW1⟩ : ∃ W1, wr.alloc (.cells #[.string dnm, .slice dA dn dc] 67) = W1 := ⟨_, rfl⟩
        have hv1 : Blk W1 dv 67 #[.string dnm, .slice dA dn dc] := by rw [← hW1, ← hdvn]; exact Blk.new wr _ _
        have hc1 : Chg [] wr W1 := by rw [← hW1]; exact (Chg.refl [] wr).alloc _
        have v0 := hv1.cell 0
        have v1 := hv1.cell 1
        simp only [List.getElem?_toArray, List.getElem?_cons_succ, List.getElem?_cons_zero] at v0 v1
        have HV1 := Lib.hid hv1
        have HC1 := Lib.hid hc1
        have HDVN := Lib.hid hdvn
        have HDE : Hid (∀ E, E ≠ 0 → ordE (i == 0) (lastN noS ((dval8 ds).take i)) dnm = E → openE (dval8 ds) quota = E) := Lib.hid (fun E h0 h => by
          rw [HE.out, dirsE_at HDV.out HPRE.out]
          unfold dirsE
          rw [h, if_pos h0])
        clear hv1 hc1
        go_wp2_with fail
        refine (rgood_any dnm W1).mono ?_
        rintro e w2 ⟨rfl, hcg⟩
        have HCG := Lib.hid hcg
        have HC2 : Hid (Chg [] wr w2) := Lib.hid (HC1.out.trans0 hcg)
        have HV2 := Lib.hid (HV1.out.chg hcg List.not_mem_nil)
        cases hg : goodP dnm with
        | false =>
          have HX := Lib.hid (HDE.out 81 (by decide) (ordE_bad hg))
          clear hcg hg v0 v1
          go_wp2
          go_ret2
          exact .inl ⟨by rw [HX.out]; decide, by rw [HX.out]; rfl, HCH.out.trans0 HC2.out⟩
        | true =>
          have v0' := HV2.out.cell 0
          simp only [List.getElem?_toArray, List.getElem?_cons_zero] at v0'
          have HG := Lib.hid hg
          clear hcg hg v0 v1 x0 x1
          obtain ⟨late, hlate⟩ : ∃ l : Bool, (i ≠ 0 ∧ leS dnm (lastN noS ((dval8 ds).take i)) = true) ↔ l = true := ⟨decide (i ≠ 0 ∧ leS dnm (lastN noS ((dval8 ds).take i)) = true), by simp⟩
          have HLATE := Lib.hid hlate
          have HEND : Hid (late = true → openE (dval8 ds) quota = 6) := Lib.hid (fun h => by
            obtain ⟨h1, h2⟩ := HLATE.out.2 h
            refine HDE.out 6 (by decide) ?_
            rw [show (i == 0) = false from beq_eq_false_iff_ne.2 h1]
            exact ordE_late HG.out h2)
          have HORD : Hid (late = false → ordE (i == 0) (lastN noS ((dval8 ds).take i)) dnm = 0) := Lib.hid (fun h => ordE_ok HG.out (fun hf => by
            cases hl : leS dnm (lastN noS ((dval8 ds).take i)) with
            | false => rfl
            | true =>
              have := HLATE.out.1 ⟨by simpa using hf, hl⟩
              rw [h] at this; cases this))
          clear hlate
          have HREST : Hid (∃ pv : Bool, late = pv) := Lib.hid ⟨_, rfl⟩
          clear HREST
          go_upto_region 10 with fail
          go_cut [46] (fun s46 wx => s46 = .bool late ∧ Chg [] w2 wx)
          case first =>
            rcases Nat.eq_zero_or_pos i with hi0 | hi0
            · subst hi0
              have hl0 : late = false := by
                cases hl : late with
                | false => rfl
                | true => exact absurd rfl (HLATE.out.2 hl).1
              subst hl0
              refine wp_region_held_drew (S := fun w' => Chg [] w2 w') (by kernel_rfl) ((Chg.refl _ _).drew) (fun hHeld => ?_)
              refine wpAnyH_take (i := 0) (v := ?_) rfl (by kernel_rfl) (by kernel_rfl) (by kernel_rfl) (fun _ _ _ h => h) (Or.inl ⟨by rfl, ?_⟩) (by assumption) ?_
              rotate_left
              · (intro w' hSw; go_simp; try with_reducible rfl)
              try simp only [Act.put, put8]
              refine wpAnyH_take (i := 1) (v := ?_) rfl (by kernel_rfl) (by kernel_rfl) (by kernel_rfl) (fun _ _ _ h => h) (Or.inl ⟨by rfl, ?_⟩) (by assumption) ?_
              rotate_left
              · (intro w' hSw; go_simp; try with_reducible rfl)
              try simp only [Act.put, put8]
              refine wpAnyH_take (i := 2) (v := ?_) rfl (by kernel_rfl) (by kernel_rfl) (by kernel_rfl) (fun _ _ _ h => h) (Or.inl ⟨by rfl, ?_⟩) (by assumption) ?_
              rotate_left
              · (intro w' hSw; go_simp; try with_reducible rfl)
              try simp only [Act.put, put8]
              refine wpAnyH_take (i := 3) (v := undef) rfl (by kernel_rfl) (by kernel_rfl) (by kernel_rfl) (fun _ _ _ h => h) (Or.inr ⟨by rfl, rfl⟩) (by assumption) ?_
              try simp only [Act.put, put8]
              refine wpAnyH_take (i := 4) (v := undef) rfl (by kernel_rfl) (by kernel_rfl) (by kernel_rfl) (fun _ _ _ h => h) (Or.inr ⟨by rfl, rfl⟩) (by assumption) ?_
              try simp only [Act.put, put8]
              refine wpAnyH_take (i := 5) (v := undef) rfl (by kernel_rfl) (by kernel_rfl) (by kernel_rfl) (fun _ _ _ h => h) (Or.inr ⟨by rfl, rfl⟩) (by assumption) ?_
              try simp only [Act.put, put8]
              refine wpAnyH_take (i := 6) (v := undef) rfl (by kernel_rfl) (by kernel_rfl) (by kernel_rfl) (fun _ _ _ h => h) (Or.inr ⟨by rfl, rfl⟩) (by assumption) ?_
              try simp only [Act.put, put8]
              refine wpAnyH_take (i := 7) (v := undef) rfl (by kernel_rfl) (by kernel_rfl) (by kernel_rfl) (fun _ _ _ h => h) (Or.inr ⟨by rfl, rfl⟩) (by assumption) ?_
              try simp only [Act.put, put8]
              refine wpAnyH_take (i := 8) (v := undef) rfl (by kernel_rfl) (by kernel_rfl) (by kernel_rfl) (fun _ _ _ h => h) (Or.inr ⟨by rfl, rfl⟩) (by assumption) ?_
              try simp only [Act.put, put8]
              refine wpAnyH_take (i := 9) (v := undef) rfl (by kernel_rfl) (by kernel_rfl) (by kernel_rfl) (fun _ _ _ h => h) (Or.inr ⟨by rfl, rfl⟩) (by assumption) ?_
              try simp only [Act.put, put8]
              refine wpAnyH_take (i := 10) (v := undef) rfl (by kernel_rfl) (by kernel_rfl) (by kernel_rfl) (fun _ _ _ h => h) (Or.inr ⟨by rfl, rfl⟩) (by assumption) ?_
              try simp only [Act.put, put8]
              refine wpAnyH_take (i := 11) (v := undef) rfl (by kernel_rfl) (by kernel_rfl) (by kernel_rfl) (fun _ _ _ h => h) (Or.inr ⟨by rfl, rfl⟩) (by assumption) ?_
              try simp only [Act.put, put8]
              refine wpAnyH_take (i := 12) (v := ?_) rfl (by kernel_rfl) (by kernel_rfl) (by kernel_rfl) (fun _ _ _ h => h) (Or.inl ⟨by rfl, ?_⟩) (by assumption) ?_
              rotate_left
              · (intro w' hSw; go_simp; try with_reducible rfl)
              try simp only [Act.put, put8]
              refine wpAnyH_done (by kernel_rfl) ?_ _
              try simp only [Act.put, put8]
              go_wp2_with fail
              go_meet
              exact ⟨rfl, hHeld⟩
            · obtain ⟨k, rfl⟩ : ∃ k, i = k + 1 := ⟨i - 1, by omega⟩
              obtain ⟨pd, hpd⟩ : ∃ pd, ds[k]? = some pd := ⟨_, List.getElem?_eq_getElem (by have := HD.out.row.nsl; simp [dnsl] at this; omega)⟩
              have hpv : (dval8 ds)[k]? = some (pd.1.nm, fval8 pd.2) := by unfold dval8; rw [List.getElem?_map, hpd]; rfl
              have hln : lastN noS ((dval8 ds).take (k + 1)) = pd.1.nm := lastN_at hpv
              obtain ⟨ad', had, hpt⟩ := (HD.out.chg0 (HCH.out.trans0 HC2.out)).row.ns (j := k) (x := pd.1) (by unfold dnsl; rw [List.getElem?_map, hpd]; rfl)
              injection had with had
              subst had
              have p0 := hpt.c0
              have hle0 : leS dnm pd.1.nm = late := by
                have h1 := HLATE.out
                rw [hln] at h1
                cases hl : leS dnm pd.1.nm with
                | false =>
                  cases hl2 : late with
                  | false => rfl
                  | true => have := (h1.2 hl2).2; rw [hl] at this; cases this
                | true => exact (h1.1 ⟨by omega, hl⟩).symm
              have hle : ∀ w', (binOp .leq 9 (.string dnm) (.string pd.1.nm)).run Tryz.prog w' = .ok (.bool late) w' := fun w' => by rw [run_leq_str, hle0]
              have hwk : IntKind.i64.wrap (k : Int) = (k : Int) := by rw [IntKind.wrap_i64]; omega
              have hkn : (k : Int) < n := by omega
              clear hpd hpv hln hpt hle0
              refine wp_region_held_drew (S := fun w' => Chg [] w2 w') (by kernel_rfl) ((Chg.refl _ _).drew) (fun hHeld => ?_)
              refine wpAnyH_take (i := 0) (v := ?_) rfl (by kernel_rfl) (by kernel_rfl) (by kernel_rfl) (fun _ _ _ h => h) (Or.inl ⟨by rfl, ?_⟩) (by assumption) ?_
              rotate_left
              · (intro w' hSw; go_simp; try with_reducible rfl)
              try simp only [Act.put, put8]
              refine wpAnyH_take (i := 1) (v := ?_) rfl (by kernel_rfl) (by kernel_rfl) (by kernel_rfl) (fun _ _ _ h => h) (Or.inl ⟨by rfl, ?_⟩) (by assumption) ?_
              rotate_left
              · (intro w' hSw; go_simp; try with_reducible rfl)
              try simp only [Act.put, put8]
              refine wpAnyH_take (i := 2) (v := ?_) rfl (by kernel_rfl) (by kernel_rfl) (by kernel_rfl) (fun _ _ _ h => h) (Or.inl ⟨by rfl, ?_⟩) (by assumption) ?_
              rotate_left
              · (intro w' hSw; go_simp; try with_reducible rfl)
              try simp only [Act.put, put8]
              refine wpAnyH_take (i := 3) (v := ?_) rfl (by kernel_rfl) (by kernel_rfl) (by kernel_rfl) (fun _ _ _ h => h) (Or.inl ⟨by rfl, ?_⟩) (by assumption) ?_
              rotate_left
              · (intro w' hSw; go_simp; try with_reducible rfl)
              try simp only [Act.put, put8]
              refine wpAnyH_take (i := 4) (v := ?_) rfl (by kernel_rfl) (by kernel_rfl) (by kernel_rfl) (fun _ _ _ h => h) (Or.inl ⟨by rfl, ?_⟩) (by assumption) ?_
              rotate_left
              · (intro w' hSw; have y := hSw.cell v0' List.not_mem_nil; go_simp; try with_reducible rfl)
              try simp only [Act.put, put8]
              refine wpAnyH_take (i := 5) (v := ?_) rfl (by kernel_rfl) (by kernel_rfl) (by kernel_rfl) (fun _ _ _ h => h) (Or.inl ⟨by rfl, ?_⟩) (by assumption) ?_
              rotate_left
              · (intro w' hSw; go_simp; try with_reducible rfl)
              try simp only [Act.put, put8]
              refine wpAnyH_take (i := 6) (v := ?_) rfl (by kernel_rfl) (by kernel_rfl) (by kernel_rfl) (fun _ _ _ h => h) (Or.inl ⟨by rfl, ?_⟩) (by assumption) ?_
              rotate_left
              · (intro w' hSw; go_simp; try with_reducible rfl)
              try simp only [Act.put, put8]
              refine wpAnyH_take (i := 7) (v := ?_) rfl (by kernel_rfl) (by kernel_rfl) (by kernel_rfl) (fun _ _ _ h => h) (Or.inl ⟨by rfl, ?_⟩) (by assumption) ?_
              rotate_left
              · (intro w' hSw; go_simp; try with_reducible rfl)
              try simp only [Act.put, put8]
              refine wpAnyH_take (i := 8) (v := ?_) rfl (by kernel_rfl) (by kernel_rfl) (by kernel_rfl) (fun _ _ _ h => h) (Or.inl ⟨by rfl, ?_⟩) (by assumption) ?_
              rotate_left
              · (intro w' hSw; go_simp; try with_reducible rfl)
              try simp only [Act.put, put8]
              refine wpAnyH_take (i := 9) (v := ?_) rfl (by kernel_rfl) (by kernel_rfl) (by kernel_rfl) (fun _ _ _ h => h) (Or.inl ⟨by rfl, ?_⟩) (by assumption) ?_
              rotate_left
              · (intro w' hSw; go_simp; try with_reducible rfl)
              try simp only [Act.put, put8]
              refine wpAnyH_take (i := 10) (v := ?_) rfl (by kernel_rfl) (by kernel_rfl) (by kernel_rfl) (fun _ _ _ h => h) (Or.inl ⟨by rfl, ?_⟩) (by assumption) ?_
              rotate_left
              · (intro w' hSw; have y := hSw.cell p0 List.not_mem_nil; go_simp; try with_reducible rfl)
              try simp only [Act.put, put8]
              refine wpAnyH_take (i := 11) (v := ?_) rfl (by kernel_rfl) (by kernel_rfl) (by kernel_rfl) (fun _ _ _ h => h) (Or.inl ⟨by rfl, ?_⟩) (by assumption) ?_
              rotate_left
              · (intro w' hSw; go_simp; try with_reducible rfl)
              try simp only [Act.put, put8]
              refine wpAnyH_take (i := 12) (v := ?_) rfl (by kernel_rfl) (by kernel_rfl) (by kernel_rfl) (fun _ _ _ h => h) (Or.inl ⟨by rfl, ?_⟩) (by assumption) ?_
              rotate_left
              · (intro w' hSw; go_simp; try with_reducible rfl)
              try simp only [Act.put, put8]
              refine wpAnyH_done (by kernel_rfl) ?_ _
              try simp only [Act.put, put8]
              go_wp2_with fail
              go_meet
              exact ⟨rfl, hHeld⟩
          case rest =>
            obtain ⟨rfl, hcc⟩ := hcut
            have HC2B := Lib.hid hcc
            clear hcc v0'
            cases late with
            | true =>
              have HX := Lib.hid (HEND.out rfl)
              go_wp2
              go_ret2
              exact .inl ⟨by rw [HX.out]; decide, by rw [HX.out]; rfl, (HCH.out.trans0 HC2.out).trans0 HC2B.out⟩
            | false =>
              have HORD0 := Lib.hid (HORD.out rfl)
              have HCW3 : Hid (Chg [] w wc) := Lib.hid ((HCH.out.trans0 HC2.out).trans0 HC2B.out)
              have HRO3 := Lib.hid (HRO2.out.keep0 (HC2.out.trans0 HC2B.out))
              have HV3 := Lib.hid (HV2.out.chg HC2B.out List.not_mem_nil)
              have v0'' := HV3.out.cell 0
              simp only [List.getElem?_toArray, List.getElem?_cons_zero] at v0''
              have HFR := Lib.hid (HD.out.fil _ HDM.out)
              have hml : dfs.length = dn := by have := HFR.out.row.nsl; simpa [fnsl] using this
              have hmb : dn ≤ 1073741824 := by
                have h1 := (bulk8_dir (List.mem_of_getElem? HDV.out)).1
                have h2 := HB.out
                simp only [fval8, List.length_map] at h1
                omega
              have HML := Lib.hid hml
              obtain ⟨ov, hov⟩ : ∃ ov, wc.heap.size = ov := ⟨_, rfl⟩
              obtain ⟨W4, hW4⟩ : ∃ W4, W4 = wc.alloc (.cells #[.string dnm, .slice none 0 0] 106) := ⟨_, rfl⟩
              have ho4 : Blk W4 ov 106 #[.string dnm, .slice none 0 0] := by rw [hW4, ← hov]; exact Blk.new wc _ _
              have hc4 : Chg [] wc W4 := by rw [hW4]; exact (Chg.refl [] wc).alloc _
              have HO4 := Lib.hid ho4
              have HC4 := Lib.hid hc4
              have HOV : Hid (wc.heap.size = ov ∧ ov < W4.heap.size) := Lib.hid ⟨hov, ho4.lt⟩
              clear ho4 hc4 hml
              have HW4 := Lib.hid hW4
              clear hW4
              go_wp2
              rw [← HW4.out]
              have HV4 := Lib.hid (HV3.out.chg HC4.out List.not_mem_nil)
              have HRO4 := Lib.hid (HRO3.out.keep0 HC4.out)
              have HCW4 : Hid (Chg [] w W4) := Lib.hid (HCW3.out.trans0 HC4.out)
              clear hov v0''
              have HOVN : Hid (∀ x ∈ roAll b sA rs fA Ls, x < ov) := Lib.hid (fun x hx => by
                have h1 := HOV.out.1
                simp only [roAll, List.mem_cons, List.mem_append] at hx
                have hl := HRO3.out.lay.lt
                have h2 : x < wc.heap.size := by
                  rcases hx with rfl | h | h | h | h
                  · exact hl [x] (by simp) x (by simp)
                  · exact hl (bo sA) (by simp) x h
                  · exact hl (bo fA) (by simp) x h
                  · exact hl (rblk rs) (by simp) x h
                  · obtain ⟨P, hP, hx⟩ := List.mem_flatten.1 h
                    exact hl P (by simp [hP]) x hx
                omega)
              go_loopw [12] (fun s12 wr => ∃ (j : Nat) (oA : Option Addr) (oc : Nat) (fA : Option Addr) (fc : Nat) (sg : List Nat) (Ls : List (List Nat)), j ≤ dn ∧ s12 = .int .i64 j ∧ filesE true noS ((fval8 dfs).take j) = 0 ∧
                Blk wr ov 106 #[.string dnm, .slice oA j oc] ∧ Own wr 108 2 oA j oc (nmv (numF (0 + cnt8 ((dval8 ds).take i)) ((fval8 dfs).take j))) ∧
                RoM wr b sA sc rs fA fc sg Ls (fls ((dval8 ds).take i) ++ ((fval8 dfs).take j).map fun x => (x.2, [])) quota stop ∧ Blk wr dv 67 #[.string dnm, .slice dA dn dc] ∧
                (∀ k ∈ bo oA, W4.heap.size ≤ k ∧ ∀ P ∈ Ls, k ∉ P) ∧ (∀ x ∈ roAll b sA rs fA Ls, w.heap.size ≤ x ∧ x ≠ ov) ∧ Chg [] w wr ∧ W4.heap.size ≤ wr.heap.size) (fun s12 _ => dn - (intOf s12).toNat)
              case atStart => exact ⟨0, none, 0, fA, fc, sg, Ls, Nat.zero_le _, rfl, rfl, HO4.out, Own.nil _ _ _, by simpa using HRO4.out, HV4.out, by simp, fun x hx => ⟨HNEW.out x hx, by have := HOVN.out x hx; omega⟩, HCW4.out, Nat.le_refl _⟩
              case round =>
                obtain ⟨j, oA, oc, fA, fc, sg, Ls, hjd, rfl, hpre2, hob, hoo, hro2, hvb, hdis, hnew2, hch2, hwr4⟩ := hrel
                have HPRE2 := Lib.hid hpre2
                have HOB := Lib.hid hob
                have HOO := Lib.hid hoo
                have HROK := Lib.hid hro2
                have HVB := Lib.hid hvb
                have HDIS := Lib.hid hdis
                have HNEW2 := Lib.hid hnew2
                have HCH2 := Lib.hid hch2
                have HWR4 := Lib.hid hwr4
                have dv1 := hvb.cell 1
                have dv0 := hvb.cell 0
                simp only [List.getElem?_toArray, List.getElem?_cons_succ, List.getElem?_cons_zero] at dv0 dv1
                clear hpre2 hob hoo hro2 hvb hdis hnew2 hch2 hwr4
                by_cases hjl : j < dn
                · have hjl' : (j : Int) < dn := by omega
                  obtain ⟨x, hx⟩ : ∃ x, dfs[j]? = some x := ⟨_, List.getElem?_eq_getElem (by have := HML.out; omega)⟩
                  obtain ⟨⟨fnm, fB, fn, fd⟩, bs⟩ := x
                  have hxv : (fval8 dfs)[j]? = some (fnm, bs) := by unfold fval8; rw [List.getElem?_map, hx]; rfl
                  obtain ⟨ad, rfl, hat⟩ := (HFR.out.chg0 HCH2.out).row.ns (j := j) (x := ⟨fnm, fB, fn, fd⟩) (by unfold fnsl; rw [List.getElem?_map, hx]; rfl)
                  have x0 := hat.c0
                  have x1 := hat.c1
                  have HXV := Lib.hid hxv
                  have HXM := Lib.hid (List.mem_of_getElem? hx)
                  clear hx hxv hat
                  obtain ⟨fv, hfvn⟩ : ∃ fv, wr.heap.size = fv := ⟨_, rfl⟩
                  obtain ⟨W5, hW5⟩ : ∃ W5, wr.alloc (.cells #[.string fnm, .slice fB fn fd] 70) = W5 := ⟨_, rfl⟩
                  have hv5 : Blk W5 fv 70 #[.string fnm, .slice fB fn fd] := by rw [← hW5, ← hfvn]; exact Blk.new wr _ _
                  have hc5 : Chg [] wr W5 := by rw [← hW5]; exact (Chg.refl [] wr).alloc _
                  have v50 := hv5.cell 0
                  simp only [List.getElem?_toArray, List.getElem?_cons_zero] at v50
                  have HV5 := Lib.hid hv5
                  have HC5 := Lib.hid hc5
                  have HFVN := Lib.hid hfvn
                  have HFE : Hid (∀ E, E ≠ 0 → ordE (j == 0) (lastN noS ((fval8 dfs).take j)) fnm = E → openE (dval8 ds) quota = E) := Lib.hid (fun E h0 h => by
                    have h1 : filesE true noS (fval8 dfs) = E := by
                      rw [filesE_at HXV.out HPRE2.out]
                      unfold filesE
                      rw [h, if_pos h0]
                    rw [HE.out, dirsE_at HDV.out HPRE.out]
                    unfold dirsE
                    rw [if_neg (by simp [HORD0.out]), h1, if_pos h0])
                  clear hv5 hc5
                  go_wp2_with fail
                  refine (rgood_any fnm W5).mono ?_
                  rintro e w6 ⟨rfl, hcg⟩
                  have HC6 : Hid (Chg [] wr w6) := Lib.hid (HC5.out.trans0 hcg)
                  have HV6 := Lib.hid (HV5.out.chg hcg List.not_mem_nil)
                  cases hg : goodP fnm with
                  | false =>
                    have HX := Lib.hid (HFE.out 81 (by decide) (ordE_bad hg))
                    clear hcg hg v50 x0 x1 dv0 dv1
                    go_wp2
                    go_ret2
                    exact .inl ⟨by rw [HX.out]; decide, by rw [HX.out]; rfl, HCH2.out.trans0 HC6.out⟩
                  | true =>
                    have f0 := HV6.out.cell 0
                    have f1 := HV6.out.cell 1
                    have d1 := (HVB.out.chg HC6.out List.not_mem_nil).cell 1
                    simp only [List.getElem?_toArray, List.getElem?_cons_succ, List.getElem?_cons_zero] at f0 f1 d1
                    have HG2 := Lib.hid hg
                    clear hcg hg v50 x0 x1 dv0 dv1
                    obtain ⟨late2, hlate⟩ : ∃ l : Bool, (j ≠ 0 ∧ leS fnm (lastN noS ((fval8 dfs).take j)) = true) ↔ l = true := ⟨decide (j ≠ 0 ∧ leS fnm (lastN noS ((fval8 dfs).take j)) = true), by simp⟩
                    have HLATE2 := Lib.hid hlate
                    have HEND2 : Hid (late2 = true → openE (dval8 ds) quota = 6) := Lib.hid (fun h => by
                      obtain ⟨h1, h2⟩ := HLATE2.out.2 h
                      refine HFE.out 6 (by decide) ?_
                      rw [show (j == 0) = false from beq_eq_false_iff_ne.2 h1]
                      exact ordE_late HG2.out h2)
                    have HORD2 : Hid (late2 = false → ordE (j == 0) (lastN noS ((fval8 dfs).take j)) fnm = 0) := Lib.hid (fun h => ordE_ok HG2.out (fun hf => by
                      cases hl : leS fnm (lastN noS ((fval8 dfs).take j)) with
                      | false => rfl
                      | true =>
                        have := HLATE2.out.1 ⟨by simpa using hf, hl⟩
                        rw [h] at this; cases this))
                    clear hlate
                    go_upto_region 19 with fail
                    go_cut [79] (fun s79 wx => s79 = .bool late2 ∧ Chg [] w6 wx)
                    case first =>
                      rcases Nat.eq_zero_or_pos j with hj0 | hj0
                      · subst hj0
                        have hl0 : late2 = false := by
                          cases hl : late2 with
                          | false => rfl
                          | true => exact absurd rfl (HLATE2.out.2 hl).1
                        subst hl0
                        refine wp_region_held_drew (S := fun w' => Chg [] w6 w') (by kernel_rfl) ((Chg.refl _ _).drew) (fun hHeld => ?_)
                        refine wpAnyH_take (i := 0) (v := ?_) rfl (by kernel_rfl) (by kernel_rfl) (by kernel_rfl) (fun _ _ _ h => h) (Or.inl ⟨by rfl, ?_⟩) (by assumption) ?_
                        rotate_left
                        · (intro w' hSw; go_simp; try with_reducible rfl)
                        try simp only [Act.put, put8]
                        refine wpAnyH_take (i := 1) (v := ?_) rfl (by kernel_rfl) (by kernel_rfl) (by kernel_rfl) (fun _ _ _ h => h) (Or.inl ⟨by rfl, ?_⟩) (by assumption) ?_
                        rotate_left
                        · (intro w' hSw; go_simp; try with_reducible rfl)
                        try simp only [Act.put, put8]
                        refine wpAnyH_take (i := 2) (v := ?_) rfl (by kernel_rfl) (by kernel_rfl) (by kernel_rfl) (fun _ _ _ h => h) (Or.inl ⟨by rfl, ?_⟩) (by assumption) ?_
                        rotate_left
                        · (intro w' hSw; go_simp; try with_reducible rfl)
                        try simp only [Act.put, put8]
                        refine wpAnyH_take (i := 3) (v := undef) rfl (by kernel_rfl) (by kernel_rfl) (by kernel_rfl) (fun _ _ _ h => h) (Or.inr ⟨by rfl, rfl⟩) (by assumption) ?_
                        try simp only [Act.put, put8]
                        refine wpAnyH_take (i := 4) (v := undef) rfl (by kernel_rfl) (by kernel_rfl) (by kernel_rfl) (fun _ _ _ h => h) (Or.inr ⟨by rfl, rfl⟩) (by assumption) ?_
                        try simp only [Act.put, put8]
                        refine wpAnyH_take (i := 5) (v := undef) rfl (by kernel_rfl) (by kernel_rfl) (by kernel_rfl) (fun _ _ _ h => h) (Or.inr ⟨by rfl, rfl⟩) (by assumption) ?_
                        try simp only [Act.put, put8]
                        refine wpAnyH_take (i := 6) (v := undef) rfl (by kernel_rfl) (by kernel_rfl) (by kernel_rfl) (fun _ _ _ h => h) (Or.inr ⟨by rfl, rfl⟩) (by assumption) ?_
                        try simp only [Act.put, put8]
                        refine wpAnyH_take (i := 7) (v := undef) rfl (by kernel_rfl) (by kernel_rfl) (by kernel_rfl) (fun _ _ _ h => h) (Or.inr ⟨by rfl, rfl⟩) (by assumption) ?_
                        try simp only [Act.put, put8]
                        refine wpAnyH_take (i := 8) (v := undef) rfl (by kernel_rfl) (by kernel_rfl) (by kernel_rfl) (fun _ _ _ h => h) (Or.inr ⟨by rfl, rfl⟩) (by assumption) ?_
                        try simp only [Act.put, put8]
                        refine wpAnyH_take (i := 9) (v := undef) rfl (by kernel_rfl) (by kernel_rfl) (by kernel_rfl) (fun _ _ _ h => h) (Or.inr ⟨by rfl, rfl⟩) (by assumption) ?_
                        try simp only [Act.put, put8]
                        refine wpAnyH_take (i := 10) (v := undef) rfl (by kernel_rfl) (by kernel_rfl) (by kernel_rfl) (fun _ _ _ h => h) (Or.inr ⟨by rfl, rfl⟩) (by assumption) ?_
                        try simp only [Act.put, put8]
                        refine wpAnyH_take (i := 11) (v := undef) rfl (by kernel_rfl) (by kernel_rfl) (by kernel_rfl) (fun _ _ _ h => h) (Or.inr ⟨by rfl, rfl⟩) (by assumption) ?_
                        try simp only [Act.put, put8]
                        refine wpAnyH_take (i := 12) (v := undef) rfl (by kernel_rfl) (by kernel_rfl) (by kernel_rfl) (fun _ _ _ h => h) (Or.inr ⟨by rfl, rfl⟩) (by assumption) ?_
                        try simp only [Act.put, put8]
                        refine wpAnyH_take (i := 13) (v := ?_) rfl (by kernel_rfl) (by kernel_rfl) (by kernel_rfl) (fun _ _ _ h => h) (Or.inl ⟨by rfl, ?_⟩) (by assumption) ?_
                        rotate_left
                        · (intro w' hSw; go_simp; try with_reducible rfl)
                        try simp only [Act.put, put8]
                        refine wpAnyH_done (by kernel_rfl) ?_ _
                        try simp only [Act.put, put8]
                        go_wp2_with fail
                        go_meet
                        exact ⟨rfl, hHeld⟩
                      · obtain ⟨k, rfl⟩ : ∃ k, j = k + 1 := ⟨j - 1, by omega⟩
                        obtain ⟨pd, hpd⟩ : ∃ pd, dfs[k]? = some pd := ⟨_, List.getElem?_eq_getElem (by have := HML.out; omega)⟩
                        have hpv : (fval8 dfs)[k]? = some (pd.1.nm, pd.2) := by unfold fval8; rw [List.getElem?_map, hpd]; rfl
                        have hln : lastN noS ((fval8 dfs).take (k + 1)) = pd.1.nm := lastN_at hpv
                        obtain ⟨ad', had, hpt⟩ := (HFR.out.chg0 (HCH2.out.trans0 HC6.out)).row.ns (j := k) (x := pd.1) (by unfold fnsl; rw [List.getElem?_map, hpd]; rfl)
                        injection had with had
                        subst had
                        have p0 := hpt.c0
                        have hle0 : leS fnm pd.1.nm = late2 := by
                          have h1 := HLATE2.out
                          rw [hln] at h1
                          cases hl : leS fnm pd.1.nm with
                          | false =>
                            cases hl2 : late2 with
                            | false => rfl
                            | true => have := (h1.2 hl2).2; rw [hl] at this; cases this
                          | true => exact (h1.1 ⟨by omega, hl⟩).symm
                        have hle : ∀ w', (binOp .leq 9 (.string fnm) (.string pd.1.nm)).run Tryz.prog w' = .ok (.bool late2) w' := fun w' => by rw [run_leq_str, hle0]
                        have hwk : IntKind.i64.wrap (k : Int) = (k : Int) := by rw [IntKind.wrap_i64]; omega
                        have hkn : (k : Int) < dn := by omega
                        clear hpd hpv hln hpt hle0
                        refine wp_region_held_drew (S := fun w' => Chg [] w6 w') (by kernel_rfl) ((Chg.refl _ _).drew) (fun hHeld => ?_)
                        refine wpAnyH_take (i := 0) (v := ?_) rfl (by kernel_rfl) (by kernel_rfl) (by kernel_rfl) (fun _ _ _ h => h) (Or.inl ⟨by rfl, ?_⟩) (by assumption) ?_
                        rotate_left
                        · (intro w' hSw; go_simp; try with_reducible rfl)
                        try simp only [Act.put, put8]
                        refine wpAnyH_take (i := 1) (v := ?_) rfl (by kernel_rfl) (by kernel_rfl) (by kernel_rfl) (fun _ _ _ h => h) (Or.inl ⟨by rfl, ?_⟩) (by assumption) ?_
                        rotate_left
                        · (intro w' hSw; go_simp; try with_reducible rfl)
                        try simp only [Act.put, put8]
                        refine wpAnyH_take (i := 2) (v := ?_) rfl (by kernel_rfl) (by kernel_rfl) (by kernel_rfl) (fun _ _ _ h => h) (Or.inl ⟨by rfl, ?_⟩) (by assumption) ?_
                        rotate_left
                        · (intro w' hSw; go_simp; try with_reducible rfl)
                        try simp only [Act.put, put8]
                        refine wpAnyH_take (i := 3) (v := ?_) rfl (by kernel_rfl) (by kernel_rfl) (by kernel_rfl) (fun _ _ _ h => h) (Or.inl ⟨by rfl, ?_⟩) (by assumption) ?_
                        rotate_left
                        · (intro w' hSw; go_simp; try with_reducible rfl)
                        try simp only [Act.put, put8]
                        refine wpAnyH_take (i := 4) (v := ?_) rfl (by kernel_rfl) (by kernel_rfl) (by kernel_rfl) (fun _ _ _ h => h) (Or.inl ⟨by rfl, ?_⟩) (by assumption) ?_
                        rotate_left
                        · (intro w' hSw; have y := hSw.cell f0 List.not_mem_nil; go_simp; try with_reducible rfl)
                        try simp only [Act.put, put8]
                        refine wpAnyH_take (i := 5) (v := ?_) rfl (by kernel_rfl) (by kernel_rfl) (by kernel_rfl) (fun _ _ _ h => h) (Or.inl ⟨by rfl, ?_⟩) (by assumption) ?_
                        rotate_left
                        · (intro w' hSw; go_simp; try with_reducible rfl)
                        try simp only [Act.put, put8]
                        refine wpAnyH_take (i := 6) (v := ?_) rfl (by kernel_rfl) (by kernel_rfl) (by kernel_rfl) (fun _ _ _ h => h) (Or.inl ⟨by rfl, ?_⟩) (by assumption) ?_
                        rotate_left
                        · (intro w' hSw; have y := hSw.cell d1 List.not_mem_nil; go_simp; try with_reducible rfl)
                        try simp only [Act.put, put8]
                        refine wpAnyH_take (i := 7) (v := ?_) rfl (by kernel_rfl) (by kernel_rfl) (by kernel_rfl) (fun _ _ _ h => h) (Or.inl ⟨by rfl, ?_⟩) (by assumption) ?_
                        rotate_left
                        · (intro w' hSw; go_simp; try with_reducible rfl)
                        try simp only [Act.put, put8]
                        refine wpAnyH_take (i := 8) (v := ?_) rfl (by kernel_rfl) (by kernel_rfl) (by kernel_rfl) (fun _ _ _ h => h) (Or.inl ⟨by rfl, ?_⟩) (by assumption) ?_
                        rotate_left
                        · (intro w' hSw; go_simp; try with_reducible rfl)
                        try simp only [Act.put, put8]
                        refine wpAnyH_take (i := 9) (v := ?_) rfl (by kernel_rfl) (by kernel_rfl) (by kernel_rfl) (fun _ _ _ h => h) (Or.inl ⟨by rfl, ?_⟩) (by assumption) ?_
                        rotate_left
                        · (intro w' hSw; go_simp; try with_reducible rfl)
                        try simp only [Act.put, put8]
                        refine wpAnyH_take (i := 10) (v := ?_) rfl (by kernel_rfl) (by kernel_rfl) (by kernel_rfl) (fun _ _ _ h => h) (Or.inl ⟨by rfl, ?_⟩) (by assumption) ?_
                        rotate_left
                        · (intro w' hSw; go_simp; try with_reducible rfl)
                        try simp only [Act.put, put8]
                        refine wpAnyH_take (i := 11) (v := ?_) rfl (by kernel_rfl) (by kernel_rfl) (by kernel_rfl) (fun _ _ _ h => h) (Or.inl ⟨by rfl, ?_⟩) (by assumption) ?_
                        rotate_left
                        · (intro w' hSw; have y := hSw.cell p0 List.not_mem_nil; go_simp; try with_reducible rfl)
                        try simp only [Act.put, put8]
                        refine wpAnyH_take (i := 12) (v := ?_) rfl (by kernel_rfl) (by kernel_rfl) (by kernel_rfl) (fun _ _ _ h => h) (Or.inl ⟨by rfl, ?_⟩) (by assumption) ?_
                        rotate_left
                        · (intro w' hSw; go_simp; try with_reducible rfl)
                        try simp only [Act.put, put8]
                        refine wpAnyH_take (i := 13) (v := ?_) rfl (by kernel_rfl) (by kernel_rfl) (by kernel_rfl) (fun _ _ _ h => h) (Or.inl ⟨by rfl, ?_⟩) (by assumption) ?_
                        rotate_left
                        · (intro w' hSw; go_simp; try with_reducible rfl)
                        try simp only [Act.put, put8]
                        refine wpAnyH_done (by kernel_rfl) ?_ _
                        try simp only [Act.put, put8]
                        go_wp2_with fail
                        go_meet
                        exact ⟨rfl, hHeld⟩
                    case rest =>
                      obtain ⟨rfl, hcc⟩ := hcut
                      have HC7 : Hid (Chg [] wr wc) := Lib.hid (HC6.out.trans0 hcc)
                      have HV7 := Lib.hid (HV6.out.chg hcc List.not_mem_nil)
                      clear hcc f0 f1 d1
                      cases late2 with
                      | true =>
                        have HX := Lib.hid (HEND2.out rfl)
                        go_wp2
                        go_ret2
                        exact .inl ⟨by rw [HX.out]; decide, by rw [HX.out]; rfl, HCH2.out.trans0 HC7.out⟩
                      | false =>
                        have HORDF := Lib.hid (HORD2.out rfl)
                        clear HEND2 HORD2 HLATE2 HFE
                        obtain ⟨fl, hfl⟩ : ∃ fl, (fls ((dval8 ds).take i) ++ ((fval8 dfs).take j).map fun x => (x.2, ([] : List (List Int)))).length = fl := ⟨_, rfl⟩
                        have hfl2 : fl = 0 + cnt8 ((dval8 ds).take i) + ((fval8 dfs).take j).length := by rw [← hfl, List.length_append, List.length_map, fls_len]; omega
                        have hflb : fl ≤ 1073741824 := by
                          have h1 := cnt8_at HDV.out
                          have h2 := fls_bulk (dval8 ds)
                          have h3 := HB.out
                          simp only [fval8, List.length_map] at h1
                          have h4 : ((fval8 dfs).take j).length ≤ dfs.length := by simp only [fval8, List.length_take, List.length_map]; omega
                          omega
                        have HFLE := Lib.hid hfl
                        have HFL2 := Lib.hid hfl2
                        have c3 := (HROK.out.blk.chg HC7.out List.not_mem_nil).cell 3
                        have hob7 := HOB.out.chg HC7.out List.not_mem_nil
                        have o1 := hob7.cell 1
                        have HOBA : Hid (Blk (wc.alloc (.cells #[.string fnm, .int .i64 fl] 108)) ov 106 #[.string dnm, .slice oA j oc]) := Lib.hid (hob7.alloc _)
                        have o1a := HOBA.out.cell 1
                        have f0 := HV7.out.cell 0
                        simp only [List.getElem?_toArray, List.getElem?_cons_succ, List.getElem?_cons_zero, hfl] at c3 o1 o1a f0
                        have HOW7 : Hid (Own (wc.alloc (.cells #[.string fnm, .int .i64 fl] 108)) 108 2 oA j oc (nmv (numF (0 + cnt8 ((dval8 ds).take i)) ((fval8 dfs).take j)))) := Lib.hid (HOO.out.chg (HC7.out.alloc _) (fun _ _ => List.not_mem_nil))
                        have HFO : Hid (fv ∉ ov :: bo oA) := Lib.hid (fun hm => by
                          have h1 := HFVN.out
                          rcases List.mem_cons.1 hm with h | h
                          · have := HOB.out.lt; omega
                          · have := HOO.out.lt fv h; omega)
                        have HBO : Hid (b ∉ ov :: bo oA) := Lib.hid (fun hm => by
                          rcases List.mem_cons.1 hm with h | h
                          · exact (HNEW2.out b (mem_roAll.2 (.inl rfl))).2 h
                          · exact HOO.out.blk_ne HROK.out.blk (by decide) b h rfl)
                        have HOO2 : Hid (ov ∉ bo oA) := Lib.hid (fun hm => HOO.out.blk_ne HOB.out (by decide) ov hm rfl)
                        clear hob7 hfl hfl2
                        go_upto_region 21 with fail
                        go_cut [] (fun wx => ∃ (A2 : Option Addr) (c2 : Nat), Blk wx ov 106 #[.string dnm, .slice A2 (j + 1) c2] ∧ Own wx 108 2 A2 (j + 1) c2 (nmv (numF (0 + cnt8 ((dval8 ds).take i)) ((fval8 dfs).take (j + 1)))) ∧ (∀ k ∈ bo A2, k ∈ bo oA ∨ wc.heap.size ≤ k) ∧ Chg (ov :: bo oA) wc wx)
                        case first =>
                          refine wp_region_held_drew (S := fun w' => Chg (ov :: bo oA) wc w') (by kernel_rfl) ((Chg.refl _ _).drew) (fun hHeld => ?_)
                          refine wpAnyH_take (i := 0) (v := ?_) rfl (by kernel_rfl) (by kernel_rfl) (by kernel_rfl) (fun _ _ _ h => h) (Or.inl ⟨by rfl, ?_⟩) (by assumption) ?_
                          rotate_left
                          · (intro w' hSw; go_simp; try with_reducible rfl)
                          try simp only [Act.put, put8]
                          refine wpAnyH_take (i := 2) (v := ?_) rfl (by kernel_rfl) (by kernel_rfl) (by kernel_rfl) (fun _ _ _ h => h) (Or.inl ⟨by rfl, ?_⟩) (by assumption) ?_
                          rotate_left
                          · (intro w' hSw; go_simp; try with_reducible rfl)
                          try simp only [Act.put, put8]
                          refine wpAnyH_take (i := 3) (v := ?_) rfl (by kernel_rfl) (by kernel_rfl) (by kernel_rfl) (fun _ _ _ h => h) (Or.inl ⟨by rfl, ?_⟩) (by assumption) ?_
                          rotate_left
                          · (intro w' hSw; have y := hSw.cell f0 HFO.out; go_simp; try with_reducible rfl)
                          try simp only [Act.put, put8]
                          refine wpAnyH_take (i := 4) (v := ?_) rfl (by kernel_rfl) (by kernel_rfl) (by kernel_rfl) (fun _ _ _ h => h) (Or.inl ⟨by rfl, ?_⟩) (by assumption) ?_
                          rotate_left
                          · (intro w' hSw; go_simp; try with_reducible rfl)
                          try simp only [Act.put, put8]
                          refine wpAnyH_take (i := 5) (v := ?_) rfl (by kernel_rfl) (by kernel_rfl) (by kernel_rfl) (fun _ _ _ h => h) (Or.inl ⟨by rfl, ?_⟩) (by assumption) ?_
                          rotate_left
                          · (intro w' hSw; go_simp; try with_reducible rfl)
                          try simp only [Act.put, put8]
                          refine wpAnyH_take (i := 6) (v := ?_) rfl (by kernel_rfl) (by kernel_rfl) (by kernel_rfl) (fun _ _ _ h => h) (Or.inl ⟨by rfl, ?_⟩) (by assumption) ?_
                          rotate_left
                          · (intro w' hSw; go_simp; try with_reducible rfl)
                          try simp only [Act.put, put8]
                          refine wpAnyH_take (i := 7) (v := ?_) rfl (by kernel_rfl) (by kernel_rfl) (by kernel_rfl) (fun _ _ _ h => h) (Or.inl ⟨by rfl, ?_⟩) (by assumption) ?_
                          rotate_left
                          · (intro w' hSw; have y := hSw.cell c3 HBO.out; go_simp; try with_reducible rfl)
                          try simp only [Act.put, put8]
                          refine wpAnyH_take (i := 8) (v := ?_) rfl (by kernel_rfl) (by kernel_rfl) (by kernel_rfl) (fun _ _ _ h => h) (Or.inl ⟨by rfl, ?_⟩) (by assumption) ?_
                          rotate_left
                          · (intro w' hSw; go_simp; try with_reducible rfl)
                          try simp only [Act.put, put8]
                          refine wpAnyH_take (i := 9) (v := ?_) rfl (by kernel_rfl) (by kernel_rfl) (by kernel_rfl) (fun _ _ _ h => h) (Or.inl ⟨by rfl, ?_⟩) (by assumption) ?_
                          rotate_left
                          · (intro w' hSw; go_simp; try with_reducible rfl)
                          try simp only [Act.put, put8]
                          refine wpAnyH_ready (rs := [1, 10]) (by kernel_rfl) (by simp) ?_
                          refine AllReadyH.cons rfl (fun K hK => ?_) (AllReadyH.cons rfl (fun K hK => ?_) (AllReadyH.nil))
                          · go_simp
                            refine hK.out _ _ (hHeld) (fun hHeld => ?_)
                            try simp only [Act.put, put8]
                            clear hK K
                            refine wpAnyH_ready (rs := [10]) (by kernel_rfl) (by simp) ?_
                            refine AllReadyH.cons rfl (fun K hK => ?_) (AllReadyH.nil)
                            go_simp
                            refine hK.out _ _ (hHeld.alloc _) (fun hHeld => ?_)
                            try simp only [Act.put, put8]
                            clear hK K
                            refine wpAnyH_ready (rs := [11]) (by kernel_rfl) (by simp) ?_
                            refine AllReadyH.cons rfl (fun K hK => ?_) (AllReadyH.nil)
                            refine step_app rfl _ _ rfl etyRNames rfl HOW7.out rfl (Own.lit wc 108 2 #[.string fnm, .int .i64 fl] 1 (by decide) rfl).rd (nmv_one [(fnm, fl)]) (by unfold maxLen; omega) (by omega) ?_
                            intro A2 c2 w8 hown8 hchg8 hnew8 _
                            have HB8 := Lib.hid (HOBA.out.drew.chg hchg8 HOO2.out)
                            have y8 := HB8.out.cell 1
                            have f8 := HB8.out.frozen 1
                            simp at y8
                            have HO8 := Lib.hid hown8
                            have HCG8 := Lib.hid hchg8
                            have HN8 := Lib.hid hnew8
                            have hH8 := hHeld.trans hchg8 (fun x hx => .inl (List.mem_cons_of_mem _ hx))
                            clear hown8 hchg8 hnew8
                            refine hK.out _ _ (hH8) (fun hHeld => ?_)
                            try simp only [Act.put, put8]
                            clear hK K
                            refine wpAnyH_take (i := 12) (v := ?_) rfl (by kernel_rfl) (by kernel_rfl) (by kernel_rfl) (fun _ _ _ h => h) (Or.inl ⟨by rfl, ?_⟩) (by assumption) ?_
                            rotate_left
                            · (intro w' hSw; go_simp; try with_reducible rfl)
                            try simp only [Act.put, put8]
                            refine wpAnyH_ready (rs := [13]) (by kernel_rfl) (by simp) ?_
                            refine AllReadyH.cons rfl (fun K hK => ?_) (AllReadyH.nil)
                            go_simp
                            refine hK.out _ _ (hHeld.setCell (.inl (by simp)) _) (fun hHeld => ?_)
                            try simp only [Act.put, put8]
                            clear hK K
                            refine wpAnyH_done (by kernel_rfl) ?_ _
                            try simp only [Act.put, put8]
                            have HCS : Hid (Chg [ov] w8 (w8.setCell ⟨ov, 1, none⟩ (.slice A2 (j + 1) c2))) := Lib.hid ((Chg.refl _ _).setCell (.inl (by simp)) _)
                            have HBS : Hid (Blk (w8.setCell ⟨ov, 1, none⟩ (.slice A2 (j + 1) c2)) ov 106 #[.string dnm, .slice A2 (j + 1) c2]) := Lib.hid (by simpa using HB8.out.set_ 1 (.slice A2 (j + 1) c2))
                            clear y8 f8 o1 o1a hHeld hH8 c3 f0
                            go_wp2_with fail
                            go_meet
                            have hcl : Chg [] wc (wc.alloc (.cells #[.string fnm, .int .i64 fl] 108)).drew := ((Chg.refl _ _).alloc _).drew
                            refine ⟨A2, c2, HBS.out, ?_, fun k hk => ?_, ((hcl.nil (ov :: bo oA)).trans HCG8.out (fun x hx => .inl (List.mem_cons_of_mem _ hx))).trans HCS.out (fun x hx => .inl (by simp at hx; simp [hx]))⟩
                            · refine Own.chg ?_ HCS.out (fun k hk hm => HO8.out.blk_ne HB8.out (by decide) k hk (by simpa using hm))
                              have := HO8.out
                              rw [take_snoc _ _ _ HXV.out, numF_snoc, nmv_append, ← HFL2.out]
                              exact this
                            · rcases HN8.out k hk with h | h
                              · exact .inl h
                              · have := hcl.size; exact .inr (by omega)
                          · go_simp
                            refine hK.out _ _ (hHeld.alloc _) (fun hHeld => ?_)
                            try simp only [Act.put, put8]
                            clear hK K
                            refine wpAnyH_ready (rs := [1]) (by kernel_rfl) (by simp) ?_
                            refine AllReadyH.cons rfl (fun K hK => ?_) (AllReadyH.nil)
                            go_simp
                            refine hK.out _ _ (hHeld) (fun hHeld => ?_)
                            try simp only [Act.put, put8]
                            clear hK K
                            refine wpAnyH_ready (rs := [11]) (by kernel_rfl) (by simp) ?_
                            refine AllReadyH.cons rfl (fun K hK => ?_) (AllReadyH.nil)
                            refine step_app rfl _ _ rfl etyRNames rfl HOW7.out rfl (Own.lit wc 108 2 #[.string fnm, .int .i64 fl] 1 (by decide) rfl).rd (nmv_one [(fnm, fl)]) (by unfold maxLen; omega) (by omega) ?_
                            intro A2 c2 w8 hown8 hchg8 hnew8 _
                            have HB8 := Lib.hid (HOBA.out.drew.chg hchg8 HOO2.out)
                            have y8 := HB8.out.cell 1
                            have f8 := HB8.out.frozen 1
                            simp at y8
                            have HO8 := Lib.hid hown8
                            have HCG8 := Lib.hid hchg8
                            have HN8 := Lib.hid hnew8
                            have hH8 := hHeld.trans hchg8 (fun x hx => .inl (List.mem_cons_of_mem _ hx))
                            clear hown8 hchg8 hnew8
                            refine hK.out _ _ (hH8) (fun hHeld => ?_)
                            try simp only [Act.put, put8]
                            clear hK K
                            refine wpAnyH_take (i := 12) (v := ?_) rfl (by kernel_rfl) (by kernel_rfl) (by kernel_rfl) (fun _ _ _ h => h) (Or.inl ⟨by rfl, ?_⟩) (by assumption) ?_
                            rotate_left
                            · (intro w' hSw; go_simp; try with_reducible rfl)
                            try simp only [Act.put, put8]
                            refine wpAnyH_ready (rs := [13]) (by kernel_rfl) (by simp) ?_
                            refine AllReadyH.cons rfl (fun K hK => ?_) (AllReadyH.nil)
                            go_simp
                            refine hK.out _ _ (hHeld.setCell (.inl (by simp)) _) (fun hHeld => ?_)
                            try simp only [Act.put, put8]
                            clear hK K
                            refine wpAnyH_done (by kernel_rfl) ?_ _
                            try simp only [Act.put, put8]
                            have HCS : Hid (Chg [ov] w8 (w8.setCell ⟨ov, 1, none⟩ (.slice A2 (j + 1) c2))) := Lib.hid ((Chg.refl _ _).setCell (.inl (by simp)) _)
                            have HBS : Hid (Blk (w8.setCell ⟨ov, 1, none⟩ (.slice A2 (j + 1) c2)) ov 106 #[.string dnm, .slice A2 (j + 1) c2]) := Lib.hid (by simpa using HB8.out.set_ 1 (.slice A2 (j + 1) c2))
                            clear y8 f8 o1 o1a hHeld hH8 c3 f0
                            go_wp2_with fail
                            go_meet
                            have hcl : Chg [] wc (wc.alloc (.cells #[.string fnm, .int .i64 fl] 108)).drew := ((Chg.refl _ _).alloc _).drew
                            refine ⟨A2, c2, HBS.out, ?_, fun k hk => ?_, ((hcl.nil (ov :: bo oA)).trans HCG8.out (fun x hx => .inl (List.mem_cons_of_mem _ hx))).trans HCS.out (fun x hx => .inl (by simp at hx; simp [hx]))⟩
                            · refine Own.chg ?_ HCS.out (fun k hk hm => HO8.out.blk_ne HB8.out (by decide) k hk (by simpa using hm))
                              have := HO8.out
                              rw [take_snoc _ _ _ HXV.out, numF_snoc, nmv_append, ← HFL2.out]
                              exact this
                            · rcases HN8.out k hk with h | h
                              · exact .inl h
                              · have := hcl.size; exact .inr (by omega)
                        case rest =>
                          obtain ⟨A2, c2, hb8, ho8, hn8, hc8⟩ := hcut
                          have HBL8 := Lib.hid hb8
                          have HOW8 := Lib.hid ho8
                          have HN8 := Lib.hid hn8
                          have HC8 := Lib.hid hc8
                          clear hb8 ho8 hn8 hc8 c3 o1 o1a f0 HOBA HOW7
                          have HCW8 : Hid (Chg [] w wc) := Lib.hid ((HCH2.out.trans0 HC7.out).trans HC8.out (fun x hx => .inr (by
                            rcases List.mem_cons.1 hx with rfl | hx
                            · have h1 := HOV.out.1; have h2 := HCW3.out.size; omega
                            · have h1 := (HDIS.out x hx).1; have h2 := HCW4.out.size; omega)))
                          have HOAS : Hid (∀ x ∈ roAll b sA rs fA Ls, x ∉ ov :: bo oA) := Lib.hid (fun x hx hm => by
                            rcases List.mem_cons.1 hm with rfl | hm
                            · exact (HNEW2.out x hx).2 rfl
                            · rcases mem_roAll.1 hx with rfl | h | h | h | ⟨P, hP, h⟩
                              · exact HBO.out (List.mem_cons_of_mem _ hm)
                              · exact HROK.out.row.own_ne HOO.out (by decide) x h hm
                              · exact HROK.out.fls.own_ne HOO.out (by decide) x h hm
                              · have h1 := HRO4.out.lay.lt (rblk rs) (by simp) x h
                                have h2 := (HDIS.out x hm).1; omega
                              · exact (HDIS.out x hm).2 P hP h)
                          have HRO8 := Lib.hid ((HROK.out.keep0 HC7.out).keep HC8.out HOAS.out)
                          have HV8 := Lib.hid (HV7.out.chg HC8.out HFO.out)
                          have HFN : Hid (fn ≤ 1073741824) := Lib.hid (by
                            have h1 : bs.length ≤ bulk8 (dval8 ds) := (bulk8_dir (List.mem_of_getElem? HDV.out)).2 _ (List.mem_of_getElem? HXV.out)
                            have h2 := (HFR.out.dat _ HXM.out).1
                            have h3 := HB.out
                            simp at h2
                            omega)
                          have HDAT : Hid (Rd wc 1 fB fn fd (bv bs)) := Lib.hid ((HFR.out.dat _ HXM.out).chg HCW8.out (fun _ _ => List.not_mem_nil))
                          have c3 := HRO8.out.blk.cell 3
                          have f1 := HV8.out.cell 1
                          simp only [List.getElem?_toArray, List.getElem?_cons_succ, List.getElem?_cons_zero, HFLE.out] at c3 f1
                          have HFB : Hid (fv ∉ b :: bo fA) := Lib.hid (fun hm => by
                            rcases List.mem_cons.1 hm with h | h
                            · have h1 := HROK.out.blk.lt; have h2 := HFVN.out; omega
                            · have h1 := HROK.out.fls.lt fv h; have h2 := HFVN.out; omega)
                          have HBF : Hid (b ∉ bo fA) := Lib.hid (fun hm => HROK.out.fls.blk_ne HROK.out.blk (by decide) b hm rfl)
                          go_wp2_with fail
                          refine wp_region_held_drew (S := fun w' => Chg (b :: bo fA) wc w') (by kernel_rfl) ((Chg.refl _ _).drew) (fun hHeld => ?_)
                          refine wpAnyH_take (i := 0) (v := ?_) rfl (by kernel_rfl) (by kernel_rfl) (by kernel_rfl) (fun _ _ _ h => h) (Or.inl ⟨by rfl, ?_⟩) (by assumption) ?_
                          rotate_left
                          · (intro w' hSw; go_simp; try with_reducible rfl)
                          try simp only [Act.put, put8]
                          refine wpAnyH_take (i := 1) (v := ?_) rfl (by kernel_rfl) (by kernel_rfl) (by kernel_rfl) (fun _ _ _ h => h) (Or.inl ⟨by rfl, ?_⟩) (by assumption) ?_
                          rotate_left
                          · (intro w' hSw; go_simp; try with_reducible rfl)
                          try simp only [Act.put, put8]
                          refine wpAnyH_take (i := 2) (v := ?_) rfl (by kernel_rfl) (by kernel_rfl) (by kernel_rfl) (fun _ _ _ h => h) (Or.inl ⟨by rfl, ?_⟩) (by assumption) ?_
                          rotate_left
                          · (intro w' hSw; go_simp; try with_reducible rfl)
                          try simp only [Act.put, put8]
                          refine wpAnyH_take (i := 3) (v := ?_) rfl (by kernel_rfl) (by kernel_rfl) (by kernel_rfl) (fun _ _ _ h => h) (Or.inl ⟨by rfl, ?_⟩) (by assumption) ?_
                          rotate_left
                          · (intro w' hSw; go_simp; try with_reducible rfl)
                          try simp only [Act.put, put8]
                          refine wpAnyH_take (i := 5) (v := ?_) rfl (by kernel_rfl) (by kernel_rfl) (by kernel_rfl) (fun _ _ _ h => h) (Or.inl ⟨by rfl, ?_⟩) (by assumption) ?_
                          rotate_left
                          · (intro w' hSw; go_simp; try with_reducible rfl)
                          try simp only [Act.put, put8]
                          refine wpAnyH_take (i := 6) (v := ?_) rfl (by kernel_rfl) (by kernel_rfl) (by kernel_rfl) (fun _ _ _ h => h) (Or.inl ⟨by rfl, ?_⟩) (by assumption) ?_
                          rotate_left
                          · (intro w' hSw; have y := hSw.cell f1 HFB.out; go_simp; try with_reducible rfl)
                          try simp only [Act.put, put8]
                          refine wpAnyH_ready (rs := [4, 7]) (by kernel_rfl) (by simp) ?_
                          refine AllReadyH.cons rfl (fun K hK => ?_) (AllReadyH.cons rfl (fun K hK => ?_) (AllReadyH.nil))
                          · go_simp
                            refine hK.out _ _ (hHeld) (fun hHeld => ?_)
                            try simp only [Act.put, put8]
                            clear hK K
                            refine wpAnyH_ready (rs := [7]) (by kernel_rfl) (by simp) ?_
                            refine AllReadyH.cons rfl (fun K hK => ?_) (AllReadyH.nil)
                            go_simp
                            refine (rnew_any fB fn fd bs _ HFN.out (HDAT.out.chg ((Chg.refl [] wc).drew) (fun _ _ => List.not_mem_nil))).mono ?_
                            rintro ee w9 ⟨g, L, rfl, hsp, hc9, hn9⟩
                            have HC9 : Hid (Chg [] wc w9) := Lib.hid (((Chg.refl [] wc).drew).trans0 hc9)
                            have HSP := Lib.hid hsp
                            have HN9 : Hid (∀ k ∈ L, wc.heap.size ≤ k) := Lib.hid hn9
                            have hHc := hHeld.trans0 hc9
                            have y9 : w9.cell? ⟨b, 3, none⟩ = some (.slice fA fl fc) := HC9.out.cell c3 List.not_mem_nil
                            have HBB9 : Hid (Blk (w9.alloc (.cells #[.pointer (some ⟨g, 0, none⟩)] 109)) b 46 #[.slice sA rs.length sc, .slice none 0 0, .slice none 0 0, .slice fA fl fc, .slice none 0 0, .int .i64 quota, .int .i64 stop, .int .i64 0]) := Lib.hid (by have := HRO8.out.blk.chg (HC9.out.alloc (.cells #[.pointer (some ⟨g, 0, none⟩)] 109)) List.not_mem_nil; rw [HFLE.out] at this; exact this)
                            have y9a := HBB9.out.cell 3
                            simp only [List.getElem?_toArray, List.getElem?_cons_succ, List.getElem?_cons_zero] at y9a
                            have HOW9 : Hid (Own (w9.alloc (.cells #[.pointer (some ⟨g, 0, none⟩)] 109)) 109 1 fA fl fc (sg.map pv8)) := Lib.hid (by have := HRO8.out.fls.chg (HC9.out.alloc (.cells #[.pointer (some ⟨g, 0, none⟩)] 109)) (fun _ _ => List.not_mem_nil); rw [HFLE.out] at this; exact this)
                            clear hsp hc9 hn9
                            refine hK.out _ _ (hHc) (fun hHeld => ?_)
                            try simp only [Act.put, put8]
                            clear hK K
                            refine wpAnyH_ready (rs := [8]) (by kernel_rfl) (by simp) ?_
                            refine AllReadyH.cons rfl (fun K hK => ?_) (AllReadyH.nil)
                            go_simp
                            refine hK.out _ _ (hHeld.alloc _) (fun hHeld => ?_)
                            try simp only [Act.put, put8]
                            clear hK K
                            refine wpAnyH_ready (rs := [9]) (by kernel_rfl) (by simp) ?_
                            refine AllReadyH.cons rfl (fun K hK => ?_) (AllReadyH.nil)
                            refine step_app rfl _ _ rfl etyRSpools rfl HOW9.out rfl (Own.lit w9 109 1 #[.pointer (some ⟨g, 0, none⟩)] 1 (by decide) rfl).rd (by intro u hu; simp at hu; subst hu; rfl) (by unfold maxLen; omega) (by omega) ?_
                            intro A3 c3' w10 hown10 hchg10 hnew10 _
                            have HB10 := Lib.hid (HBB9.out.chg hchg10 HBF.out)
                            have y10 := HB10.out.cell 3
                            have f10 := HB10.out.frozen 3
                            simp at y10
                            have HO10 := Lib.hid hown10
                            have HCG10 := Lib.hid hchg10
                            have HN10 := Lib.hid hnew10
                            have hH10 := hHeld.trans hchg10 (fun x hx => .inl (List.mem_cons_of_mem _ hx))
                            clear hown10 hchg10 hnew10
                            refine hK.out _ _ (hH10) (fun hHeld => ?_)
                            try simp only [Act.put, put8]
                            clear hK K
                            refine wpAnyH_take (i := 10) (v := ?_) rfl (by kernel_rfl) (by kernel_rfl) (by kernel_rfl) (fun _ _ _ h => h) (Or.inl ⟨by rfl, ?_⟩) (by assumption) ?_
                            rotate_left
                            · (intro w' hSw; go_simp; try with_reducible rfl)
                            try simp only [Act.put, put8]
                            refine wpAnyH_take (i := 11) (v := ?_) rfl (by kernel_rfl) (by kernel_rfl) (by kernel_rfl) (fun _ _ _ h => h) (Or.inl ⟨by rfl, ?_⟩) (by assumption) ?_
                            rotate_left
                            · (intro w' hSw; go_simp; try with_reducible rfl)
                            try simp only [Act.put, put8]
                            refine wpAnyH_ready (rs := [12]) (by kernel_rfl) (by simp) ?_
                            refine AllReadyH.cons rfl (fun K hK => ?_) (AllReadyH.nil)
                            go_simp
                            refine hK.out _ _ (hHeld.setCell (.inl (by simp)) _) (fun hHeld => ?_)
                            try simp only [Act.put, put8]
                            clear hK K
                            refine wpAnyH_done (by kernel_rfl) ?_ _
                            try simp only [Act.put, put8]
                            have HCS : Hid (Chg [b] w10 (w10.setCell ⟨b, 3, none⟩ (.slice A3 (fl + 1) c3'))) := Lib.hid ((Chg.refl _ _).setCell (.inl (by simp)) _)
                            have HBS := Lib.hid (HB10.out.set_ 3 (.slice A3 (fl + 1) c3'))
                            clear y10 f10 y9 y9a c3 f1 hHeld hHc hH10
                            have hcl : Chg [] wc (w9.alloc (.cells #[.pointer (some ⟨g, 0, none⟩)] 109)) := HC9.out.alloc _
                            have hro : RoM (w10.setCell ⟨b, 3, none⟩ (.slice A3 (fl + 1) c3')) b sA sc rs A3 c3' (sg ++ [g]) (Ls ++ [L]) ((fls ((dval8 ds).take i) ++ ((fval8 dfs).take j).map fun x => (x.2, [])) ++ [(bs, [])]) quota stop := by
                              refine HRO8.out.file (w1 := (w9.alloc (.cells #[.pointer (some ⟨g, 0, none⟩)] 109))) hcl HN9.out (HSP.out.chg ((Chg.refl [] w9).alloc _) (fun _ _ => List.not_mem_nil)) ((HCG10.out.mono (L := b :: bo fA) (fun x hx => .inl (List.mem_cons_of_mem _ hx))).trans HCS.out (fun x hx => .inl (by simp at hx; simp [hx]))) ?_ ?_ (fun x hx => by
                                rcases HN10.out x hx with h | h
                                · exact .inl h
                                · exact .inr h.1)
                              · have := HBS.out
                                rw [HFLE.out]
                                simpa using this
                              · have := HO10.out.chg HCS.out (fun k hk hm => HO10.out.blk_ne HB10.out (by decide) k hk (by simpa using hm))
                                rw [HFLE.out, List.map_append]
                                exact this
                            have hA3 : ∀ k ∈ bo A3, k ∈ bo fA ∨ wc.heap.size ≤ k := fun k hk => by
                              rcases HN10.out k hk with h | h
                              · exact .inl h
                              · have := hcl.size; exact .inr (Nat.le_trans this h.1)
                            have hc9 : Chg (b :: bo fA) wc (w10.setCell ⟨b, 3, none⟩ (.slice A3 (fl + 1) c3')) := ((hcl.nil (b :: bo fA)).trans HCG10.out (fun x hx => .inl (List.mem_cons_of_mem _ hx))).trans HCS.out (fun x hx => .inl (by simp at hx; simp [hx]))
                            have HROL := Lib.hid hro
                            have HA3 := Lib.hid hA3
                            have HC99 := Lib.hid hc9
                            clear hcl hro hA3 hc9 HFLE HFL2
                            go_wp2
                            go_roundw
                            case rel =>
                              have HDVB : Hid (Blk (w10.setCell ⟨b, 3, none⟩ (.slice A3 (fl + 1) c3')) dv 67 #[.string dnm, .slice (some ad) dn dc]) := Lib.hid (by
                                have h1 := (HVB.out.chg HC7.out List.not_mem_nil).chg HC8.out (fun hm => by
                                  rcases List.mem_cons.1 hm with h | h
                                  · exact HVB.out.ne_ HOB.out (by decide) h
                                  · exact HOO.out.blk_ne HVB.out (by decide) dv h rfl)
                                exact h1.chg HC99.out (fun hm => by
                                  rcases List.mem_cons.1 hm with h | h
                                  · exact HVB.out.ne_ HROK.out.blk (by decide) h
                                  · exact HROK.out.fls.blk_ne HVB.out (by decide) dv h rfl))
                              have HOVB : Hid (Blk (w10.setCell ⟨b, 3, none⟩ (.slice A3 (fl + 1) c3')) ov 106 #[.string dnm, .slice A2 (j + 1) c2]) := Lib.hid (HBL8.out.chg HC99.out (fun hm => by
                                rcases List.mem_cons.1 hm with h | h
                                · exact HBO.out (by simp [h])
                                · exact HROK.out.fls.blk_ne HOB.out (by decide) ov h rfl))
                              have HOWN : Hid (Own (w10.setCell ⟨b, 3, none⟩ (.slice A3 (fl + 1) c3')) 108 2 A2 (j + 1) c2 (nmv (numF (0 + cnt8 ((dval8 ds).take i)) ((fval8 dfs).take (j + 1))))) := Lib.hid (HOW8.out.chg HC99.out (fun k hk hm => by
                                rcases List.mem_cons.1 hm with h | h
                                · exact HOW8.out.blk_ne HRO8.out.blk (by decide) k hk h
                                · exact HOW8.out.own_ne HRO8.out.fls (by decide) k hk h))
                              refine ⟨j + 1, A2, c2, A3, c3', sg ++ [g], Ls ++ [L], by omega, by go_num, filesE_next HXV.out HPRE2.out HORDF.out, HOVB.out, HOWN.out, ?_, HDVB.out, fun k hk => ⟨?_, fun P hP hm => ?_⟩, fun x hx => ?_, ?_, ?_⟩
                              · have := HROL.out
                                rw [List.append_assoc] at this
                                rw [take_snoc _ _ _ HXV.out, List.map_append]
                                exact this
                              · rcases HN8.out k hk with h | h
                                · exact (HDIS.out k h).1
                                · have h1 := HCH2.out.size; have h2 := HC7.out.size; have h3 := HWR4.out; omega
                              · rcases List.mem_append.1 hP with hP | hP
                                · rcases HN8.out k hk with h | h
                                  · exact (HDIS.out k h).2 P hP hm
                                  · have h1 := HROK.out.lay.lt P (by simp [hP]) k hm; have h2 := HC7.out.size; omega
                                · simp only [List.mem_singleton] at hP
                                  subst hP
                                  have h1 := HN9.out k hm; have h2 := HOW8.out.lt k hk; omega
                              · have hbig : ∀ y, wc.heap.size ≤ y → w.heap.size ≤ y ∧ y ≠ ov := fun y hy => by
                                  have h1 := HCW8.out.size; have h2 := HBL8.out.lt; omega
                                rcases mem_roAll.1 hx with h | h | h | h | ⟨P, hP, h⟩
                                · exact HNEW2.out x (mem_roAll.2 (.inl h))
                                · exact HNEW2.out x (mem_roAll.2 (.inr (.inl h)))
                                · rcases HA3.out x h with h | h
                                  · exact HNEW2.out x (mem_roAll.2 (.inr (.inr (.inl h))))
                                  · exact hbig x h
                                · exact HNEW2.out x (mem_roAll.2 (.inr (.inr (.inr (.inl h)))))
                                · rcases List.mem_append.1 hP with hP | hP
                                  · exact HNEW2.out x (mem_roAll.2 (.inr (.inr (.inr (.inr ⟨P, hP, h⟩)))))
                                  · simp only [List.mem_singleton] at hP
                                    subst hP
                                    exact hbig x (HN9.out x h)
                              · exact HCW8.out.trans HC99.out (fun x hx => .inr (by
                                  rcases List.mem_cons.1 hx with rfl | hx
                                  · exact (HNEW2.out x (mem_roAll.2 (.inl rfl))).1
                                  · exact (HNEW2.out x (mem_roAll.2 (.inr (.inr (.inl hx))))).1))
                              · have h1 := HWR4.out; have h2 := HC7.out.size; have h3 := HC8.out.size; have h4 := HC99.out.size; omega
                            case measure => simp [intOf]; omega
                          · go_simp
                            refine (rnew_any fB fn fd bs _ HFN.out (HDAT.out.chg ((Chg.refl [] wc).drew) (fun _ _ => List.not_mem_nil))).mono ?_
                            rintro ee w9 ⟨g, L, rfl, hsp, hc9, hn9⟩
                            have HC9 : Hid (Chg [] wc w9) := Lib.hid (((Chg.refl [] wc).drew).trans0 hc9)
                            have HSP := Lib.hid hsp
                            have HN9 : Hid (∀ k ∈ L, wc.heap.size ≤ k) := Lib.hid hn9
                            have hHc := hHeld.trans0 hc9
                            have y9 : w9.cell? ⟨b, 3, none⟩ = some (.slice fA fl fc) := HC9.out.cell c3 List.not_mem_nil
                            have HBB9 : Hid (Blk (w9.alloc (.cells #[.pointer (some ⟨g, 0, none⟩)] 109)) b 46 #[.slice sA rs.length sc, .slice none 0 0, .slice none 0 0, .slice fA fl fc, .slice none 0 0, .int .i64 quota, .int .i64 stop, .int .i64 0]) := Lib.hid (by have := HRO8.out.blk.chg (HC9.out.alloc (.cells #[.pointer (some ⟨g, 0, none⟩)] 109)) List.not_mem_nil; rw [HFLE.out] at this; exact this)
                            have y9a := HBB9.out.cell 3
                            simp only [List.getElem?_toArray, List.getElem?_cons_succ, List.getElem?_cons_zero] at y9a
                            have HOW9 : Hid (Own (w9.alloc (.cells #[.pointer (some ⟨g, 0, none⟩)] 109)) 109 1 fA fl fc (sg.map pv8)) := Lib.hid (by have := HRO8.out.fls.chg (HC9.out.alloc (.cells #[.pointer (some ⟨g, 0, none⟩)] 109)) (fun _ _ => List.not_mem_nil); rw [HFLE.out] at this; exact this)
                            clear hsp hc9 hn9
                            refine hK.out _ _ (hHc) (fun hHeld => ?_)
                            try simp only [Act.put, put8]
                            clear hK K
                            refine wpAnyH_ready (rs := [4, 8]) (by kernel_rfl) (by simp) ?_
                            refine AllReadyH.cons rfl (fun K hK => ?_) (AllReadyH.cons rfl (fun K hK => ?_) (AllReadyH.nil))
                            · go_simp
                              refine hK.out _ _ (hHeld) (fun hHeld => ?_)
                              try simp only [Act.put, put8]
                              clear hK K
                              refine wpAnyH_ready (rs := [8]) (by kernel_rfl) (by simp) ?_
                              refine AllReadyH.cons rfl (fun K hK => ?_) (AllReadyH.nil)
                              go_simp
                              refine hK.out _ _ (hHeld.alloc _) (fun hHeld => ?_)
                              try simp only [Act.put, put8]
                              clear hK K
                              refine wpAnyH_ready (rs := [9]) (by kernel_rfl) (by simp) ?_
                              refine AllReadyH.cons rfl (fun K hK => ?_) (AllReadyH.nil)
                              refine step_app rfl _ _ rfl etyRSpools rfl HOW9.out rfl (Own.lit w9 109 1 #[.pointer (some ⟨g, 0, none⟩)] 1 (by decide) rfl).rd (by intro u hu; simp at hu; subst hu; rfl) (by unfold maxLen; omega) (by omega) ?_
                              intro A3 c3' w10 hown10 hchg10 hnew10 _
                              have HB10 := Lib.hid (HBB9.out.chg hchg10 HBF.out)
                              have y10 := HB10.out.cell 3
                              have f10 := HB10.out.frozen 3
                              simp at y10
                              have HO10 := Lib.hid hown10
                              have HCG10 := Lib.hid hchg10
                              have HN10 := Lib.hid hnew10
                              have hH10 := hHeld.trans hchg10 (fun x hx => .inl (List.mem_cons_of_mem _ hx))
                              clear hown10 hchg10 hnew10
                              refine hK.out _ _ (hH10) (fun hHeld => ?_)
                              try simp only [Act.put, put8]
                              clear hK K
                              refine wpAnyH_take (i := 10) (v := ?_) rfl (by kernel_rfl) (by kernel_rfl) (by kernel_rfl) (fun _ _ _ h => h) (Or.inl ⟨by rfl, ?_⟩) (by assumption) ?_
                              rotate_left
                              · (intro w' hSw; go_simp; try with_reducible rfl)
                              try simp only [Act.put, put8]
                              refine wpAnyH_take (i := 11) (v := ?_) rfl (by kernel_rfl) (by kernel_rfl) (by kernel_rfl) (fun _ _ _ h => h) (Or.inl ⟨by rfl, ?_⟩) (by assumption) ?_
                              rotate_left
                              · (intro w' hSw; go_simp; try with_reducible rfl)
                              try simp only [Act.put, put8]
                              refine wpAnyH_ready (rs := [12]) (by kernel_rfl) (by simp) ?_
                              refine AllReadyH.cons rfl (fun K hK => ?_) (AllReadyH.nil)
                              go_simp
                              refine hK.out _ _ (hHeld.setCell (.inl (by simp)) _) (fun hHeld => ?_)
                              try simp only [Act.put, put8]
                              clear hK K
                              refine wpAnyH_done (by kernel_rfl) ?_ _
                              try simp only [Act.put, put8]
                              have HCS : Hid (Chg [b] w10 (w10.setCell ⟨b, 3, none⟩ (.slice A3 (fl + 1) c3'))) := Lib.hid ((Chg.refl _ _).setCell (.inl (by simp)) _)
                              have HBS := Lib.hid (HB10.out.set_ 3 (.slice A3 (fl + 1) c3'))
                              clear y10 f10 y9 y9a c3 f1 hHeld hHc hH10
                              have hcl : Chg [] wc (w9.alloc (.cells #[.pointer (some ⟨g, 0, none⟩)] 109)) := HC9.out.alloc _
                              have hro : RoM (w10.setCell ⟨b, 3, none⟩ (.slice A3 (fl + 1) c3')) b sA sc rs A3 c3' (sg ++ [g]) (Ls ++ [L]) ((fls ((dval8 ds).take i) ++ ((fval8 dfs).take j).map fun x => (x.2, [])) ++ [(bs, [])]) quota stop := by
                                refine HRO8.out.file (w1 := (w9.alloc (.cells #[.pointer (some ⟨g, 0, none⟩)] 109))) hcl HN9.out (HSP.out.chg ((Chg.refl [] w9).alloc _) (fun _ _ => List.not_mem_nil)) ((HCG10.out.mono (L := b :: bo fA) (fun x hx => .inl (List.mem_cons_of_mem _ hx))).trans HCS.out (fun x hx => .inl (by simp at hx; simp [hx]))) ?_ ?_ (fun x hx => by
                                  rcases HN10.out x hx with h | h
                                  · exact .inl h
                                  · exact .inr h.1)
                                · have := HBS.out
                                  rw [HFLE.out]
                                  simpa using this
                                · have := HO10.out.chg HCS.out (fun k hk hm => HO10.out.blk_ne HB10.out (by decide) k hk (by simpa using hm))
                                  rw [HFLE.out, List.map_append]
                                  exact this
                              have hA3 : ∀ k ∈ bo A3, k ∈ bo fA ∨ wc.heap.size ≤ k := fun k hk => by
                                rcases HN10.out k hk with h | h
                                · exact .inl h
                                · have := hcl.size; exact .inr (Nat.le_trans this h.1)
                              have hc9 : Chg (b :: bo fA) wc (w10.setCell ⟨b, 3, none⟩ (.slice A3 (fl + 1) c3')) := ((hcl.nil (b :: bo fA)).trans HCG10.out (fun x hx => .inl (List.mem_cons_of_mem _ hx))).trans HCS.out (fun x hx => .inl (by simp at hx; simp [hx]))
                              have HROL := Lib.hid hro
                              have HA3 := Lib.hid hA3
                              have HC99 := Lib.hid hc9
                              clear hcl hro hA3 hc9 HFLE HFL2
                              go_wp2
                              go_roundw
                              case rel =>
                                have HDVB : Hid (Blk (w10.setCell ⟨b, 3, none⟩ (.slice A3 (fl + 1) c3')) dv 67 #[.string dnm, .slice (some ad) dn dc]) := Lib.hid (by
                                  have h1 := (HVB.out.chg HC7.out List.not_mem_nil).chg HC8.out (fun hm => by
                                    rcases List.mem_cons.1 hm with h | h
                                    · exact HVB.out.ne_ HOB.out (by decide) h
                                    · exact HOO.out.blk_ne HVB.out (by decide) dv h rfl)
                                  exact h1.chg HC99.out (fun hm => by
                                    rcases List.mem_cons.1 hm with h | h
                                    · exact HVB.out.ne_ HROK.out.blk (by decide) h
                                    · exact HROK.out.fls.blk_ne HVB.out (by decide) dv h rfl))
                                have HOVB : Hid (Blk (w10.setCell ⟨b, 3, none⟩ (.slice A3 (fl + 1) c3')) ov 106 #[.string dnm, .slice A2 (j + 1) c2]) := Lib.hid (HBL8.out.chg HC99.out (fun hm => by
                                  rcases List.mem_cons.1 hm with h | h
                                  · exact HBO.out (by simp [h])
                                  · exact HROK.out.fls.blk_ne HOB.out (by decide) ov h rfl))
                                have HOWN : Hid (Own (w10.setCell ⟨b, 3, none⟩ (.slice A3 (fl + 1) c3')) 108 2 A2 (j + 1) c2 (nmv (numF (0 + cnt8 ((dval8 ds).take i)) ((fval8 dfs).take (j + 1))))) := Lib.hid (HOW8.out.chg HC99.out (fun k hk hm => by
                                  rcases List.mem_cons.1 hm with h | h
                                  · exact HOW8.out.blk_ne HRO8.out.blk (by decide) k hk h
                                  · exact HOW8.out.own_ne HRO8.out.fls (by decide) k hk h))
                                refine ⟨j + 1, A2, c2, A3, c3', sg ++ [g], Ls ++ [L], by omega, by go_num, filesE_next HXV.out HPRE2.out HORDF.out, HOVB.out, HOWN.out, ?_, HDVB.out, fun k hk => ⟨?_, fun P hP hm => ?_⟩, fun x hx => ?_, ?_, ?_⟩
                                · have := HROL.out
                                  rw [List.append_assoc] at this
                                  rw [take_snoc _ _ _ HXV.out, List.map_append]
                                  exact this
                                · rcases HN8.out k hk with h | h
                                  · exact (HDIS.out k h).1
                                  · have h1 := HCH2.out.size; have h2 := HC7.out.size; have h3 := HWR4.out; omega
                                · rcases List.mem_append.1 hP with hP | hP
                                  · rcases HN8.out k hk with h | h
                                    · exact (HDIS.out k h).2 P hP hm
                                    · have h1 := HROK.out.lay.lt P (by simp [hP]) k hm; have h2 := HC7.out.size; omega
                                  · simp only [List.mem_singleton] at hP
                                    subst hP
                                    have h1 := HN9.out k hm; have h2 := HOW8.out.lt k hk; omega
                                · have hbig : ∀ y, wc.heap.size ≤ y → w.heap.size ≤ y ∧ y ≠ ov := fun y hy => by
                                    have h1 := HCW8.out.size; have h2 := HBL8.out.lt; omega
                                  rcases mem_roAll.1 hx with h | h | h | h | ⟨P, hP, h⟩
                                  · exact HNEW2.out x (mem_roAll.2 (.inl h))
                                  · exact HNEW2.out x (mem_roAll.2 (.inr (.inl h)))
                                  · rcases HA3.out x h with h | h
                                    · exact HNEW2.out x (mem_roAll.2 (.inr (.inr (.inl h))))
                                    · exact hbig x h
                                  · exact HNEW2.out x (mem_roAll.2 (.inr (.inr (.inr (.inl h)))))
                                  · rcases List.mem_append.1 hP with hP | hP
                                    · exact HNEW2.out x (mem_roAll.2 (.inr (.inr (.inr (.inr ⟨P, hP, h⟩)))))
                                    · simp only [List.mem_singleton] at hP
                                      subst hP
                                      exact hbig x (HN9.out x h)
                                · exact HCW8.out.trans HC99.out (fun x hx => .inr (by
                                    rcases List.mem_cons.1 hx with rfl | hx
                                    · exact (HNEW2.out x (mem_roAll.2 (.inl rfl))).1
                                    · exact (HNEW2.out x (mem_roAll.2 (.inr (.inr (.inl hx))))).1))
                                · have h1 := HWR4.out; have h2 := HC7.out.size; have h3 := HC8.out.size; have h4 := HC99.out.size; omega
                              case measure => simp [intOf]; omega
                            · go_simp
                              refine hK.out _ _ (hHeld.alloc _) (fun hHeld => ?_)
                              try simp only [Act.put, put8]
                              clear hK K
                              refine wpAnyH_ready (rs := [4]) (by kernel_rfl) (by simp) ?_
                              refine AllReadyH.cons rfl (fun K hK => ?_) (AllReadyH.nil)
                              go_simp
                              refine hK.out _ _ (hHeld) (fun hHeld => ?_)
                              try simp only [Act.put, put8]
                              clear hK K
                              refine wpAnyH_ready (rs := [9]) (by kernel_rfl) (by simp) ?_
                              refine AllReadyH.cons rfl (fun K hK => ?_) (AllReadyH.nil)
                              refine step_app rfl _ _ rfl etyRSpools rfl HOW9.out rfl (Own.lit w9 109 1 #[.pointer (some ⟨g, 0, none⟩)] 1 (by decide) rfl).rd (by intro u hu; simp at hu; subst hu; rfl) (by unfold maxLen; omega) (by omega) ?_
                              intro A3 c3' w10 hown10 hchg10 hnew10 _
                              have HB10 := Lib.hid (HBB9.out.chg hchg10 HBF.out)
                              have y10 := HB10.out.cell 3
                              have f10 := HB10.out.frozen 3
                              simp at y10
                              have HO10 := Lib.hid hown10
                              have HCG10 := Lib.hid hchg10
                              have HN10 := Lib.hid hnew10
                              have hH10 := hHeld.trans hchg10 (fun x hx => .inl (List.mem_cons_of_mem _ hx))
                              clear hown10 hchg10 hnew10
                              refine hK.out _ _ (hH10) (fun hHeld => ?_)
                              try simp only [Act.put, put8]
                              clear hK K
                              refine wpAnyH_take (i := 10) (v := ?_) rfl (by kernel_rfl) (by kernel_rfl) (by kernel_rfl) (fun _ _ _ h => h) (Or.inl ⟨by rfl, ?_⟩) (by assumption) ?_
                              rotate_left
                              · (intro w' hSw; go_simp; try with_reducible rfl)
                              try simp only [Act.put, put8]
                              refine wpAnyH_take (i := 11) (v := ?_) rfl (by kernel_rfl) (by kernel_rfl) (by kernel_rfl) (fun _ _ _ h => h) (Or.inl ⟨by rfl, ?_⟩) (by assumption) ?_
                              rotate_left
                              · (intro w' hSw; go_simp; try with_reducible rfl)
                              try simp only [Act.put, put8]
                              refine wpAnyH_ready (rs := [12]) (by kernel_rfl) (by simp) ?_
                              refine AllReadyH.cons rfl (fun K hK => ?_) (AllReadyH.nil)
                              go_simp
                              refine hK.out _ _ (hHeld.setCell (.inl (by simp)) _) (fun hHeld => ?_)
                              try simp only [Act.put, put8]
                              clear hK K
                              refine wpAnyH_done (by kernel_rfl) ?_ _
                              try simp only [Act.put, put8]
                              have HCS : Hid (Chg [b] w10 (w10.setCell ⟨b, 3, none⟩ (.slice A3 (fl + 1) c3'))) := Lib.hid ((Chg.refl _ _).setCell (.inl (by simp)) _)
                              have HBS := Lib.hid (HB10.out.set_ 3 (.slice A3 (fl + 1) c3'))
                              clear y10 f10 y9 y9a c3 f1 hHeld hHc hH10
                              have hcl : Chg [] wc (w9.alloc (.cells #[.pointer (some ⟨g, 0, none⟩)] 109)) := HC9.out.alloc _
                              have hro : RoM (w10.setCell ⟨b, 3, none⟩ (.slice A3 (fl + 1) c3')) b sA sc rs A3 c3' (sg ++ [g]) (Ls ++ [L]) ((fls ((dval8 ds).take i) ++ ((fval8 dfs).take j).map fun x => (x.2, [])) ++ [(bs, [])]) quota stop := by
                                refine HRO8.out.file (w1 := (w9.alloc (.cells #[.pointer (some ⟨g, 0, none⟩)] 109))) hcl HN9.out (HSP.out.chg ((Chg.refl [] w9).alloc _) (fun _ _ => List.not_mem_nil)) ((HCG10.out.mono (L := b :: bo fA) (fun x hx => .inl (List.mem_cons_of_mem _ hx))).trans HCS.out (fun x hx => .inl (by simp at hx; simp [hx]))) ?_ ?_ (fun x hx => by
                                  rcases HN10.out x hx with h | h
                                  · exact .inl h
                                  · exact .inr h.1)
                                · have := HBS.out
                                  rw [HFLE.out]
                                  simpa using this
                                · have := HO10.out.chg HCS.out (fun k hk hm => HO10.out.blk_ne HB10.out (by decide) k hk (by simpa using hm))
                                  rw [HFLE.out, List.map_append]
                                  exact this
                              have hA3 : ∀ k ∈ bo A3, k ∈ bo fA ∨ wc.heap.size ≤ k := fun k hk => by
                                rcases HN10.out k hk with h | h
                                · exact .inl h
                                · have := hcl.size; exact .inr (Nat.le_trans this h.1)
                              have hc9 : Chg (b :: bo fA) wc (w10.setCell ⟨b, 3, none⟩ (.slice A3 (fl + 1) c3')) := ((hcl.nil (b :: bo fA)).trans HCG10.out (fun x hx => .inl (List.mem_cons_of_mem _ hx))).trans HCS.out (fun x hx => .inl (by simp at hx; simp [hx]))
                              have HROL := Lib.hid hro
                              have HA3 := Lib.hid hA3
                              have HC99 := Lib.hid hc9
                              clear hcl hro hA3 hc9 HFLE HFL2
                              go_wp2
                              go_roundw
                              case rel =>
                                have HDVB : Hid (Blk (w10.setCell ⟨b, 3, none⟩ (.slice A3 (fl + 1) c3')) dv 67 #[.string dnm, .slice (some ad) dn dc]) := Lib.hid (by
                                  have h1 := (HVB.out.chg HC7.out List.not_mem_nil).chg HC8.out (fun hm => by
                                    rcases List.mem_cons.1 hm with h | h
                                    · exact HVB.out.ne_ HOB.out (by decide) h
                                    · exact HOO.out.blk_ne HVB.out (by decide) dv h rfl)
                                  exact h1.chg HC99.out (fun hm => by
                                    rcases List.mem_cons.1 hm with h | h
                                    · exact HVB.out.ne_ HROK.out.blk (by decide) h
                                    · exact HROK.out.fls.blk_ne HVB.out (by decide) dv h rfl))
                                have HOVB : Hid (Blk (w10.setCell ⟨b, 3, none⟩ (.slice A3 (fl + 1) c3')) ov 106 #[.string dnm, .slice A2 (j + 1) c2]) := Lib.hid (HBL8.out.chg HC99.out (fun hm => by
                                  rcases List.mem_cons.1 hm with h | h
                                  · exact HBO.out (by simp [h])
                                  · exact HROK.out.fls.blk_ne HOB.out (by decide) ov h rfl))
                                have HOWN : Hid (Own (w10.setCell ⟨b, 3, none⟩ (.slice A3 (fl + 1) c3')) 108 2 A2 (j + 1) c2 (nmv (numF (0 + cnt8 ((dval8 ds).take i)) ((fval8 dfs).take (j + 1))))) := Lib.hid (HOW8.out.chg HC99.out (fun k hk hm => by
                                  rcases List.mem_cons.1 hm with h | h
                                  · exact HOW8.out.blk_ne HRO8.out.blk (by decide) k hk h
                                  · exact HOW8.out.own_ne HRO8.out.fls (by decide) k hk h))
                                refine ⟨j + 1, A2, c2, A3, c3', sg ++ [g], Ls ++ [L], by omega, by go_num, filesE_next HXV.out HPRE2.out HORDF.out, HOVB.out, HOWN.out, ?_, HDVB.out, fun k hk => ⟨?_, fun P hP hm => ?_⟩, fun x hx => ?_, ?_, ?_⟩
                                · have := HROL.out
                                  rw [List.append_assoc] at this
                                  rw [take_snoc _ _ _ HXV.out, List.map_append]
                                  exact this
                                · rcases HN8.out k hk with h | h
                                  · exact (HDIS.out k h).1
                                  · have h1 := HCH2.out.size; have h2 := HC7.out.size; have h3 := HWR4.out; omega
                                · rcases List.mem_append.1 hP with hP | hP
                                  · rcases HN8.out k hk with h | h
                                    · exact (HDIS.out k h).2 P hP hm
                                    · have h1 := HROK.out.lay.lt P (by simp [hP]) k hm; have h2 := HC7.out.size; omega
                                  · simp only [List.mem_singleton] at hP
                                    subst hP
                                    have h1 := HN9.out k hm; have h2 := HOW8.out.lt k hk; omega
                                · have hbig : ∀ y, wc.heap.size ≤ y → w.heap.size ≤ y ∧ y ≠ ov := fun y hy => by
                                    have h1 := HCW8.out.size; have h2 := HBL8.out.lt; omega
                                  rcases mem_roAll.1 hx with h | h | h | h | ⟨P, hP, h⟩
                                  · exact HNEW2.out x (mem_roAll.2 (.inl h))
                                  · exact HNEW2.out x (mem_roAll.2 (.inr (.inl h)))
                                  · rcases HA3.out x h with h | h
                                    · exact HNEW2.out x (mem_roAll.2 (.inr (.inr (.inl h))))
                                    · exact hbig x h
                                  · exact HNEW2.out x (mem_roAll.2 (.inr (.inr (.inr (.inl h)))))
                                  · rcases List.mem_append.1 hP with hP | hP
                                    · exact HNEW2.out x (mem_roAll.2 (.inr (.inr (.inr (.inr ⟨P, hP, h⟩)))))
                                    · simp only [List.mem_singleton] at hP
                                      subst hP
                                      exact hbig x (HN9.out x h)
                                · exact HCW8.out.trans HC99.out (fun x hx => .inr (by
                                    rcases List.mem_cons.1 hx with rfl | hx
                                    · exact (HNEW2.out x (mem_roAll.2 (.inl rfl))).1
                                    · exact (HNEW2.out x (mem_roAll.2 (.inr (.inr (.inl hx))))).1))
                                · have h1 := HWR4.out; have h2 := HC7.out.size; have h3 := HC8.out.size; have h4 := HC99.out.size; omega
                              case measure => simp [intOf]; omega
                · obtain rfl : j = dn := by omega
                  have HPREF : Hid (filesE true noS (fval8 dfs) = 0) := Lib.hid (by have := HPRE2.out; rwa [List.take_of_length_le (by simp only [fval8, List.length_map, HML.out]; exact Nat.le_refl _)] at this)
                  have HALL : Hid ((fval8 dfs).take j = fval8 dfs) := Lib.hid (List.take_of_length_le (by simp only [fval8, List.length_map, HML.out]; exact Nat.le_refl _))
                  have c0 := HROK.out.blk.cell 0
                  have o0 := HOB.out.cell 0
                  have o1 := HOB.out.cell 1
                  simp only [List.getElem?_toArray, List.getElem?_cons_succ, List.getElem?_cons_zero, HRL.out] at c0 o0 o1
                  have HOBS : Hid (ov ∉ b :: bo sA) := Lib.hid (fun hm => by
                    rcases List.mem_cons.1 hm with h | h
                    · exact (HNEW2.out b (mem_roAll.2 (.inl rfl))).2 h.symm
                    · exact (HNEW2.out ov (mem_roAll.2 (.inr (.inl h)))).2 rfl)
                  have HBSA : Hid (b ∉ bo sA) := Lib.hid (fun hm => HROK.out.row.blk_ne HROK.out.blk (by decide) b hm rfl)
                  have HBBS : Hid (Blk (wr.alloc (.cells #[.string dnm, .slice oA j oc] 106)) b 46 #[.slice sA i sc, .slice none 0 0, .slice none 0 0, .slice fA (fls ((dval8 ds).take i) ++ ((fval8 dfs).take j).map fun x => (x.2, ([] : List (List Int)))).length fc, .slice none 0 0, .int .i64 quota, .int .i64 stop, .int .i64 0]) := Lib.hid (by
                    have := HROK.out.blk.alloc (.cells #[.string dnm, .slice oA j oc] 106)
                    rw [HRL.out] at this
                    exact this)
                  have c0a := HBBS.out.cell 0
                  simp only [List.getElem?_toArray, List.getElem?_cons_zero] at c0a
                  have HOWS : Hid (Own (wr.alloc (.cells #[.string dnm, .slice oA j oc] 106)) 106 2 sA i sc (nsv (rnsl rs))) := Lib.hid (by
                    have := HROK.out.row.chg ((Chg.refl [] wr).alloc (.cells #[.string dnm, .slice oA j oc] 106)) (fun _ _ => List.not_mem_nil)
                    rw [HRL.out] at this
                    exact this)
                  go_wp2_with fail
                  clear dv0 dv1
                  refine wp_region_held_drew (S := fun w' => Chg (b :: bo sA) wr w') (by kernel_rfl) ((Chg.refl _ _).drew) (fun hHeld => ?_)
                  refine wpAnyH_take (i := 0) (v := ?_) rfl (by kernel_rfl) (by kernel_rfl) (by kernel_rfl) (fun _ _ _ h => h) (Or.inl ⟨by rfl, ?_⟩) (by assumption) ?_
                  rotate_left
                  · (intro w' hSw; go_simp; try with_reducible rfl)
                  try simp only [Act.put, put8]
                  refine wpAnyH_take (i := 1) (v := ?_) rfl (by kernel_rfl) (by kernel_rfl) (by kernel_rfl) (fun _ _ _ h => h) (Or.inl ⟨by rfl, ?_⟩) (by assumption) ?_
                  rotate_left
                  · (intro w' hSw; go_simp; try with_reducible rfl)
                  try simp only [Act.put, put8]
                  refine wpAnyH_take (i := 2) (v := ?_) rfl (by kernel_rfl) (by kernel_rfl) (by kernel_rfl) (fun _ _ _ h => h) (Or.inl ⟨by rfl, ?_⟩) (by assumption) ?_
                  rotate_left
                  · (intro w' hSw; go_simp; try with_reducible rfl)
                  try simp only [Act.put, put8]
                  refine wpAnyH_take (i := 3) (v := ?_) rfl (by kernel_rfl) (by kernel_rfl) (by kernel_rfl) (fun _ _ _ h => h) (Or.inl ⟨by rfl, ?_⟩) (by assumption) ?_
                  rotate_left
                  · (intro w' hSw; go_simp; try with_reducible rfl)
                  try simp only [Act.put, put8]
                  refine wpAnyH_take (i := 5) (v := ?_) rfl (by kernel_rfl) (by kernel_rfl) (by kernel_rfl) (fun _ _ _ h => h) (Or.inl ⟨by rfl, ?_⟩) (by assumption) ?_
                  rotate_left
                  · (intro w' hSw; have y0 := hSw.cell o0 HOBS.out; have y1 := hSw.cell o1 HOBS.out; go_simp; try with_reducible rfl)
                  try simp only [Act.put, put8]
                  refine wpAnyH_ready (rs := [4, 6]) (by kernel_rfl) (by simp) ?_
                  refine AllReadyH.cons rfl (fun K hK => ?_) (AllReadyH.cons rfl (fun K hK => ?_) (AllReadyH.nil))
                  · go_simp
                    refine hK.out _ _ (hHeld) (fun hHeld => ?_)
                    try simp only [Act.put, put8]
                    clear hK K
                    refine wpAnyH_ready (rs := [6]) (by kernel_rfl) (by simp) ?_
                    refine AllReadyH.cons rfl (fun K hK => ?_) (AllReadyH.nil)
                    go_simp
                    refine hK.out _ _ (hHeld.alloc _) (fun hHeld => ?_)
                    try simp only [Act.put, put8]
                    clear hK K
                    refine wpAnyH_ready (rs := [7]) (by kernel_rfl) (by simp) ?_
                    refine AllReadyH.cons rfl (fun K hK => ?_) (AllReadyH.nil)
                    refine step_app rfl _ _ rfl etyFolds rfl HOWS.out rfl (Own.lit wr 106 2 #[.string dnm, .slice oA j oc] 1 (by decide) rfl).rd (nsv_one [⟨dnm, oA, j, oc⟩]) (by unfold maxLen; omega) (by omega) ?_
                    intro A2 c2 w8 hown8 hchg8 hnew8 _
                    have HB8 := Lib.hid (HBBS.out.drew.chg hchg8 HBSA.out)
                    have y8 := HB8.out.cell 0
                    have f8 := HB8.out.frozen 0
                    simp at y8
                    have HO8 := Lib.hid hown8
                    have HCG8 := Lib.hid hchg8
                    have HN8 := Lib.hid hnew8
                    have hH8 := hHeld.trans hchg8 (fun x hx => .inl (List.mem_cons_of_mem _ hx))
                    clear hown8 hchg8 hnew8
                    refine hK.out _ _ (hH8) (fun hHeld => ?_)
                    try simp only [Act.put, put8]
                    clear hK K
                    refine wpAnyH_take (i := 8) (v := ?_) rfl (by kernel_rfl) (by kernel_rfl) (by kernel_rfl) (fun _ _ _ h => h) (Or.inl ⟨by rfl, ?_⟩) (by assumption) ?_
                    rotate_left
                    · (intro w' hSw; go_simp; try with_reducible rfl)
                    try simp only [Act.put, put8]
                    refine wpAnyH_take (i := 9) (v := ?_) rfl (by kernel_rfl) (by kernel_rfl) (by kernel_rfl) (fun _ _ _ h => h) (Or.inl ⟨by rfl, ?_⟩) (by assumption) ?_
                    rotate_left
                    · (intro w' hSw; go_simp; try with_reducible rfl)
                    try simp only [Act.put, put8]
                    refine wpAnyH_ready (rs := [10]) (by kernel_rfl) (by simp) ?_
                    refine AllReadyH.cons rfl (fun K hK => ?_) (AllReadyH.nil)
                    go_simp
                    refine hK.out _ _ (hHeld.setCell (.inl (by simp)) _) (fun hHeld => ?_)
                    try simp only [Act.put, put8]
                    clear hK K
                    refine wpAnyH_done (by kernel_rfl) ?_ _
                    try simp only [Act.put, put8]
                    have HCS : Hid (Chg [b] w8 (w8.setCell ⟨b, 0, none⟩ (.slice A2 (i + 1) c2))) := Lib.hid ((Chg.refl _ _).setCell (.inl (by simp)) _)
                    have HBS := Lib.hid (HB8.out.set_ 0 (.slice A2 (i + 1) c2))
                    clear y8 f8 o0 o1 c0 c0a hHeld hH8
                    go_wp2
                    go_roundw
                    case rel =>
                      have hcl : Chg [] wr (wr.alloc (.cells #[.string dnm, .slice oA j oc] 106)).drew := ((Chg.refl _ _).alloc _).drew
                      have hlay0 : Lay W4 ([b] :: bo sA :: rblk rs :: []) := HRO4.out.lay.sub (List.Sublist.cons_cons _ (List.Sublist.cons_cons _ (List.Sublist.cons _ (List.Sublist.cons_cons _ (List.nil_sublist _)))))
                      have hsz : W4.heap.size ≤ wr.heap.size := HWR4.out
                      have hA2 : ∀ x ∈ bo A2, x ∈ bo sA ∨ wr.heap.size ≤ x := fun x hx => by
                        rcases HN8.out x hx with h | h
                        · exact .inl h
                        · exact .inr (Nat.le_trans hcl.size h.1)
                      have hro : RoM (w8.setCell ⟨b, 0, none⟩ (.slice A2 (i + 1) c2)) b A2 c2 (rs ++ [(⟨dnm, oA, j, oc⟩, numF (0 + cnt8 ((dval8 ds).take i)) ((fval8 dfs).take j))]) fA fc sg Ls (fls ((dval8 ds).take i) ++ ((fval8 dfs).take j).map fun x => (x.2, [])) quota stop := by
                        refine (HROK.out.keep0 hcl).dir (r := (⟨dnm, oA, j, oc⟩, numF (0 + cnt8 ((dval8 ds).take i)) ((fval8 dfs).take j))) (w0 := W4) hlay0 (fun k hk => (HDIS.out k hk).1) (HOO.out.chg hcl (fun _ _ => List.not_mem_nil)) (fun k hk P hP hm => ?_) ((HCG8.out.mono (L := b :: bo sA) (fun x hx => .inl (List.mem_cons_of_mem _ hx))).trans HCS.out (fun x hx => .inl (by simp at hx; simp [hx]))) ?_ ?_ (fun x hx => by
                          rcases HN8.out x hx with h | h
                          · exact .inl h
                          · exact .inr h.1)
                        · rcases List.mem_cons.1 hP with rfl | hP
                          · exact HOO.out.own_ne HROK.out.fls (by decide) k hk hm
                          · exact (HDIS.out k hk).2 P hP hm
                        · rw [HRL.out]
                          simpa using HBS.out
                        · have := HO8.out.chg HCS.out (fun k hk hm => HO8.out.blk_ne HB8.out (by decide) k hk (by simpa using hm))
                          rw [rnsl_snoc, nsv_append, HRL.out]
                          exact this
                      rw [HALL.out] at hro
                      obtain ⟨rs2, hrs2⟩ : ∃ x, x = rs ++ [((⟨dnm, oA, j, oc⟩ : Nsl), numF (0 + cnt8 ((dval8 ds).take i)) (fval8 dfs))] := ⟨_, rfl⟩
                      rw [← hrs2] at hro
                      refine ⟨i + 1, A2, c2, rs2, fA, fc, sg, Ls, by omega, by go_num, dirsE_next HDV.out HPRE.out HORD0.out HPREF.out, ?_, ?_, fun x hx => ?_, ?_⟩
                      · rw [take_snoc _ _ _ HDV.out, fls_snoc]
                        exact hro
                      · rw [hrs2, rval_snoc, HRV.out, take_snoc _ _ _ HDV.out, numT_snoc]
                      · rcases mem_roAll.1 hx with h | h | h | h | ⟨P, hP, h⟩
                        · exact (HNEW2.out x (mem_roAll.2 (.inl h))).1
                        · rcases hA2 x h with h | h
                          · exact (HNEW2.out x (mem_roAll.2 (.inr (.inl h)))).1
                          · have := HCH2.out.size; omega
                        · exact (HNEW2.out x (mem_roAll.2 (.inr (.inr (.inl h))))).1
                        · rw [hrs2, rblk_snoc] at h
                          rcases List.mem_append.1 h with h | h
                          · exact (HNEW2.out x (mem_roAll.2 (.inr (.inr (.inr (.inl h)))))).1
                          · have h1 := (HDIS.out x h).1; have h2 := HCW4.out.size; omega
                        · exact (HNEW2.out x (mem_roAll.2 (.inr (.inr (.inr (.inr ⟨P, hP, h⟩)))))).1
                      · exact ((HCH2.out.trans0 hcl).trans HCG8.out (fun x hx => .inr (HNEW2.out x (mem_roAll.2 (.inr (.inl hx)))).1)).trans HCS.out (fun x hx => .inr (by
                          simp only [List.mem_singleton] at hx
                          subst hx
                          exact (HNEW2.out x (mem_roAll.2 (.inl rfl))).1))
                    case measure => simp [intOf]; omega
                  · go_simp
                    refine hK.out _ _ (hHeld.alloc _) (fun hHeld => ?_)
                    try simp only [Act.put, put8]
                    clear hK K
                    refine wpAnyH_ready (rs := [4]) (by kernel_rfl) (by simp) ?_
                    refine AllReadyH.cons rfl (fun K hK => ?_) (AllReadyH.nil)
                    go_simp
                    refine hK.out _ _ (hHeld) (fun hHeld => ?_)
                    try simp only [Act.put, put8]
                    clear hK K
                    refine wpAnyH_ready (rs := [7]) (by kernel_rfl) (by simp) ?_
                    refine AllReadyH.cons rfl (fun K hK => ?_) (AllReadyH.nil)
                    refine step_app rfl _ _ rfl etyFolds rfl HOWS.out rfl (Own.lit wr 106 2 #[.string dnm, .slice oA j oc] 1 (by decide) rfl).rd (nsv_one [⟨dnm, oA, j, oc⟩]) (by unfold maxLen; omega) (by omega) ?_
                    intro A2 c2 w8 hown8 hchg8 hnew8 _
                    have HB8 := Lib.hid (HBBS.out.drew.chg hchg8 HBSA.out)
                    have y8 := HB8.out.cell 0
                    have f8 := HB8.out.frozen 0
                    simp at y8
                    have HO8 := Lib.hid hown8
                    have HCG8 := Lib.hid hchg8
                    have HN8 := Lib.hid hnew8
                    have hH8 := hHeld.trans hchg8 (fun x hx => .inl (List.mem_cons_of_mem _ hx))
                    clear hown8 hchg8 hnew8
                    refine hK.out _ _ (hH8) (fun hHeld => ?_)
                    try simp only [Act.put, put8]
                    clear hK K
                    refine wpAnyH_take (i := 8) (v := ?_) rfl (by kernel_rfl) (by kernel_rfl) (by kernel_rfl) (fun _ _ _ h => h) (Or.inl ⟨by rfl, ?_⟩) (by assumption) ?_
                    rotate_left
                    · (intro w' hSw; go_simp; try with_reducible rfl)
                    try simp only [Act.put, put8]
                    refine wpAnyH_take (i := 9) (v := ?_) rfl (by kernel_rfl) (by kernel_rfl) (by kernel_rfl) (fun _ _ _ h => h) (Or.inl ⟨by rfl, ?_⟩) (by assumption) ?_
                    rotate_left
                    · (intro w' hSw; go_simp; try with_reducible rfl)
                    try simp only [Act.put, put8]
                    refine wpAnyH_ready (rs := [10]) (by kernel_rfl) (by simp) ?_
                    refine AllReadyH.cons rfl (fun K hK => ?_) (AllReadyH.nil)
                    go_simp
                    refine hK.out _ _ (hHeld.setCell (.inl (by simp)) _) (fun hHeld => ?_)
                    try simp only [Act.put, put8]
                    clear hK K
                    refine wpAnyH_done (by kernel_rfl) ?_ _
                    try simp only [Act.put, put8]
                    have HCS : Hid (Chg [b] w8 (w8.setCell ⟨b, 0, none⟩ (.slice A2 (i + 1) c2))) := Lib.hid ((Chg.refl _ _).setCell (.inl (by simp)) _)
                    have HBS := Lib.hid (HB8.out.set_ 0 (.slice A2 (i + 1) c2))
                    clear y8 f8 o0 o1 c0 c0a hHeld hH8
                    go_wp2
                    go_roundw
                    case rel =>
                      have hcl : Chg [] wr (wr.alloc (.cells #[.string dnm, .slice oA j oc] 106)).drew := ((Chg.refl _ _).alloc _).drew
                      have hlay0 : Lay W4 ([b] :: bo sA :: rblk rs :: []) := HRO4.out.lay.sub (List.Sublist.cons_cons _ (List.Sublist.cons_cons _ (List.Sublist.cons _ (List.Sublist.cons_cons _ (List.nil_sublist _)))))
                      have hsz : W4.heap.size ≤ wr.heap.size := HWR4.out
                      have hA2 : ∀ x ∈ bo A2, x ∈ bo sA ∨ wr.heap.size ≤ x := fun x hx => by
                        rcases HN8.out x hx with h | h
                        · exact .inl h
                        · exact .inr (Nat.le_trans hcl.size h.1)
                      have hro : RoM (w8.setCell ⟨b, 0, none⟩ (.slice A2 (i + 1) c2)) b A2 c2 (rs ++ [(⟨dnm, oA, j, oc⟩, numF (0 + cnt8 ((dval8 ds).take i)) ((fval8 dfs).take j))]) fA fc sg Ls (fls ((dval8 ds).take i) ++ ((fval8 dfs).take j).map fun x => (x.2, [])) quota stop := by
                        refine (HROK.out.keep0 hcl).dir (r := (⟨dnm, oA, j, oc⟩, numF (0 + cnt8 ((dval8 ds).take i)) ((fval8 dfs).take j))) (w0 := W4) hlay0 (fun k hk => (HDIS.out k hk).1) (HOO.out.chg hcl (fun _ _ => List.not_mem_nil)) (fun k hk P hP hm => ?_) ((HCG8.out.mono (L := b :: bo sA) (fun x hx => .inl (List.mem_cons_of_mem _ hx))).trans HCS.out (fun x hx => .inl (by simp at hx; simp [hx]))) ?_ ?_ (fun x hx => by
                          rcases HN8.out x hx with h | h
                          · exact .inl h
                          · exact .inr h.1)
                        · rcases List.mem_cons.1 hP with rfl | hP
                          · exact HOO.out.own_ne HROK.out.fls (by decide) k hk hm
                          · exact (HDIS.out k hk).2 P hP hm
                        · rw [HRL.out]
                          simpa using HBS.out
                        · have := HO8.out.chg HCS.out (fun k hk hm => HO8.out.blk_ne HB8.out (by decide) k hk (by simpa using hm))
                          rw [rnsl_snoc, nsv_append, HRL.out]
                          exact this
                      rw [HALL.out] at hro
                      obtain ⟨rs2, hrs2⟩ : ∃ x, x = rs ++ [((⟨dnm, oA, j, oc⟩ : Nsl), numF (0 + cnt8 ((dval8 ds).take i)) (fval8 dfs))] := ⟨_, rfl⟩
                      rw [← hrs2] at hro
                      refine ⟨i + 1, A2, c2, rs2, fA, fc, sg, Ls, by omega, by go_num, dirsE_next HDV.out HPRE.out HORD0.out HPREF.out, ?_, ?_, fun x hx => ?_, ?_⟩
                      · rw [take_snoc _ _ _ HDV.out, fls_snoc]
                        exact hro
                      · rw [hrs2, rval_snoc, HRV.out, take_snoc _ _ _ HDV.out, numT_snoc]
                      · rcases mem_roAll.1 hx with h | h | h | h | ⟨P, hP, h⟩
                        · exact (HNEW2.out x (mem_roAll.2 (.inl h))).1
                        · rcases hA2 x h with h | h
                          · exact (HNEW2.out x (mem_roAll.2 (.inr (.inl h)))).1
                          · have := HCH2.out.size; omega
                        · exact (HNEW2.out x (mem_roAll.2 (.inr (.inr (.inl h))))).1
                        · rw [hrs2, rblk_snoc] at h
                          rcases List.mem_append.1 h with h | h
                          · exact (HNEW2.out x (mem_roAll.2 (.inr (.inr (.inr (.inl h)))))).1
                          · have h1 := (HDIS.out x h).1; have h2 := HCW4.out.size; omega
                        · exact (HNEW2.out x (mem_roAll.2 (.inr (.inr (.inr (.inr ⟨P, hP, h⟩)))))).1
                      · exact ((HCH2.out.trans0 hcl).trans HCG8.out (fun x hx => .inr (HNEW2.out x (mem_roAll.2 (.inr (.inl hx)))).1)).trans HCS.out (fun x hx => .inr (by
                          simp only [List.mem_singleton] at hx
                          subst hx
                          exact (HNEW2.out x (mem_roAll.2 (.inl rfl))).1))
                    case measure => simp [intOf]; omega
      · obtain rfl : i = n := by omega
        have hall : (dval8 ds).take i = dval8 ds := List.take_of_length_le (by have := HD.out.row.nsl; simp [dnsl] at this; simp [dval8]; omega)
        have HOK : Hid (openE (dval8 ds) quota = 0) := Lib.hid (by rw [HE.out, ← hall]; exact HPRE.out)
        have HRO5 : Hid (RoM wr b sA sc rs fA fc sg Ls (fls (dval8 ds)) quota stop) := Lib.hid (by have := HRO2.out; rwa [hall] at this)
        have HRV5 : Hid (rval rs = numT 0 (dval8 ds)) := Lib.hid (by have := HRV.out; rwa [hall] at this)
        have HRT : Hid (RTree wr sA i sc rs) := Lib.hid (by
          refine ⟨?_, fun r hr => (HRO5.out.fil r hr).rd⟩
          have := HRO5.out.row.rd
          rwa [HRL.out] at this)
        have HFB : Hid (∀ r ∈ rs, r.1.n ≤ 1073741824) := Lib.hid (fun r hr => by
          have h1 := (HRT.out.fil r hr).nml
          have h2 : (r.1.nm, r.2) ∈ numT 0 (dval8 ds) := by rw [← HRV5.out]; exact List.mem_map.2 ⟨r, hr, rfl⟩
          obtain ⟨m, d, hd, e⟩ := numT_mem h2
          have h3 := (bulk8_dir hd).1
          have h4 : r.2 = numF m d.2 := congrArg Prod.snd e
          rw [h4, numF_len] at h1
          have h5 := HB.out
          omega)
        have c0 := HRO5.out.blk.cell 0
        have c1 := HRO5.out.blk.cell 1
        have f1 := HRO5.out.blk.frozen 1
        simp only [List.getElem?_toArray, List.getElem?_cons_succ, List.getElem?_cons_zero, HRL.out] at c0 c1
        clear hall
        go_wp2_with fail
        refine (rcopied_any sA i sc rs wr HRT.out hn HFB.out).mono ?_
        rintro ee w3 ⟨A2, c2, ps, rfl, hrt, hpv, hc3, hn3⟩
        have HC3 : Hid (Chg [] wr w3) := Lib.hid hc3
        have HB3 := Lib.hid (HRO5.out.blk.chg HC3.out List.not_mem_nil)
        have HPT := Lib.hid hrt
        have HPV := Lib.hid hpv
        have HN3 : Hid (∀ k ∈ bo A2 ++ rblk ps, wr.heap.size ≤ k ∧ k < w3.heap.size) := Lib.hid hn3
        have y3 := HB3.out.cell 1
        have f3 := HB3.out.frozen 1
        simp only [List.getElem?_toArray, List.getElem?_cons_succ, List.getElem?_cons_zero] at y3
        clear hrt hpv hc3 hn3
        have HCS : Hid (Chg [b] w3 (w3.setCell ⟨b, 1, none⟩ (.slice A2 i c2))) := Lib.hid ((Chg.refl _ _).setCell (.inl (by simp)) _)
        have HBS := Lib.hid (HB3.out.set_ 1 (.slice A2 i c2))
        go_wp2
        go_ret2
        have hdone := HRO5.out.done HC3.out (n := i) HRL.out HPT.out HPV.out HN3.out HCS.out (by simpa [HRL.out] using HBS.out)
        rw [HRV5.out] at hdone
        refine .inr ⟨HOK.out, _, ?_, hdone, fun x hx => ?_, (HCH.out.trans0 HC3.out).trans HCS.out (fun x hx => .inr ?_)⟩
        · rfl
        · simp only [RfG.all, RfG.parts, List.flatten_cons, bo_none, List.nil_append, List.mem_append, List.mem_flatten, List.mem_singleton] at hx
          rcases hx with h | h | ((h | h) | h) | ⟨P, hP, h⟩
          · exact HNEW.out x (mem_roAll.2 (.inl h))
          · exact HNEW.out x (mem_roAll.2 (.inr (.inr (.inl h))))
          · exact HNEW.out x (mem_roAll.2 (.inr (.inl h)))
          · exact HNEW.out x (mem_roAll.2 (.inr (.inr (.inr (.inl h)))))
          · have h1 := (HN3.out x (List.mem_append.2 h)).1
            have := HCH.out.size; omega
          · exact HNEW.out x (mem_roAll.2 (.inr (.inr (.inr (.inr ⟨P, hP, h⟩)))))
        · simp only [List.mem_singleton] at hx
          subst hx
          exact HNEW.out x (mem_roAll.2 (.inl rfl))
end Go.Proofs.YtgomofeidghmiaaGreat
