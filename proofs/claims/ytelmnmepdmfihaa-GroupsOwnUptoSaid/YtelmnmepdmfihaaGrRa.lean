/-
  Layer 17: the two inner loops of the document's Read, as theorems of their own.
-/
import Derived.Test.YtelmnmepdmfihaaGrP
import Derived.Test.YtelmnmepdmfihaaGrF
import Derived.Test.YtelmnmepdmfihaaGrPi
namespace Go.Proofs.Ytelmnmepdmfihaa
open Go.RowKit

noncomputable def rdLoop1 : Code := (Try.f21.body.bind inLoop).getD .skip
noncomputable def rdLoop2 : Code := (inLoop rdLoop1).getD .skip
noncomputable def rdLoop3 : Code := (inLoop rdLoop2).getD .skip

set_option maxRecDepth 1000000 in
set_option maxHeartbeats 6400000 in
theorem rd_lp3 {A SA B : Option Addr} {n c m d SN SC gb k : Nat} {ls : List Lk} {ts ids : List Int} {node : Int} {g : Lk} {VN : Value} (wj : World) (Q0 : Exit → Act → World → Prop)
    (HPAN : Hid (∀ c a d v w, Q0 (.panic c) (Act.put a (some d) v) w → Q0 (.panic c) a w))
    (HR : Hid (∀ wr, Chg [] wj wr → Rd wr 7 A n c (lvs ls))) (HO : Hid (∀ wr, Chg [] wj wr → Rd wr 1 B m d (iv ts))) (HRI : Hid (∀ wr, Chg [] wj wr → Rd wr 1 SA SN SC (iv ids)))
    (HG : Hid (∀ wr, Chg [] wj wr → Blk wr gb 58 #[.bool g.live, .int .i64 g.src, .int .i64 g.dst, .int .i64 g.sp, .int .i64 g.tp, .int .i64 g.sn, .int .i64 g.tn]))
    (HGOOD : Hid (Good ls node ids (-1))) (HLEN : Hid (ids.length = SN)) (HL : Hid (ls.length = n)) (HMN : Hid (m = n)) (hn : n ≤ 1073741824) (hsn : SN ≤ n)
    (u2 u4 u5 u6 u7 u8 u9 u10 u11 u13 u14 u15 u17 u18 u21 u23 u24 u25 u26 u27 u28 u29 u30 u31 u32 u33 u34 u35 u36 u37 u38 u39 u40 u41 u42 u43 u44 u45 u46 u47 u48 u49 u50 u51 u52 u53 u54 u55 u56 u57 u58 u59 u60 u61 u62 u63 u64 u65 u66 u67 u68 u69 u70 u71 u72 u73 u74 u75 u76 u77 u78 u79 u80 u81 u82 u83 u84 u85 u86 u87 u88 u89 u90 u91 u92 u93 u94 u95 u96 u97 u98 u99 u100 u101 u102 u103 u104 u105 u106 u107 u108 u109 u110 u111 u112 u113 u114 u115 u116 u117 u118 u119 u120 u121 u122 u123 u124 u125 u126 u127 u128 u129 u130 u131 u132 u133 u134 u135 u136 u137 u138 u139 u140 u141 u142 u143 u144 u145 u146 u147 u148 u149 u150 u151 u152 u153 u154 u155 u156 u157 u158 u159 u160 u161 u162 u163 u164 u165 u166 u167 u168 u169 u170 : Value)
    (HEXIT : Hid (∀ (v10 v11 v22 v100 v101 v102 v103 v104 v105 v106 v107 v108 v109 v110 v111 v112 v113 v114 v115 v116 v117 v118 v119 v120 v121 v122 v123 v124 v125 v126 v127 v128 v129 : Value) (wr : World), (∀ id ∈ ids, tyOf ts id = g.src ∧ wyOf ls node id = k) ∧ Chg [] wj wr → Q0 (.exit 4) ⟨(List.toArray (.slice A n c :: .slice B m d :: u2 :: .int .i64 node :: u4 :: u5 :: u6 :: u7 :: u8 :: u9 :: v10 :: v11 :: VN :: u13 :: u14 :: u15 :: .pointer (some ⟨gb, 0, none⟩) :: u17 :: u18 :: .int .i64 (k : Int) :: .slice SA SN SC :: u21 :: v22 :: u23 :: u24 :: u25 :: u26 :: u27 :: u28 :: u29 :: u30 :: u31 :: u32 :: u33 :: u34 :: u35 :: u36 :: u37 :: u38 :: u39 :: u40 :: u41 :: u42 :: u43 :: u44 :: u45 :: u46 :: u47 :: u48 :: u49 :: u50 :: u51 :: u52 :: u53 :: u54 :: u55 :: u56 :: u57 :: u58 :: u59 :: u60 :: u61 :: u62 :: u63 :: u64 :: u65 :: u66 :: u67 :: u68 :: u69 :: u70 :: u71 :: u72 :: u73 :: u74 :: u75 :: u76 :: u77 :: u78 :: u79 :: u80 :: u81 :: u82 :: u83 :: u84 :: u85 :: u86 :: u87 :: u88 :: u89 :: u90 :: u91 :: u92 :: u93 :: u94 :: u95 :: u96 :: u97 :: u98 :: u99 :: v100 :: v101 :: v102 :: v103 :: v104 :: v105 :: v106 :: v107 :: v108 :: v109 :: v110 :: v111 :: v112 :: v113 :: v114 :: v115 :: v116 :: v117 :: v118 :: v119 :: v120 :: v121 :: v122 :: v123 :: v124 :: v125 :: v126 :: v127 :: v128 :: v129 :: u130 :: u131 :: u132 :: u133 :: u134 :: u135 :: u136 :: u137 :: u138 :: u139 :: u140 :: u141 :: u142 :: u143 :: u144 :: u145 :: u146 :: u147 :: u148 :: u149 :: u150 :: u151 :: u152 :: u153 :: u154 :: u155 :: u156 :: u157 :: u158 :: u159 :: u160 :: u161 :: u162 :: u163 :: u164 :: u165 :: u166 :: u167 :: u168 :: u169 :: u170 :: [])), []⟩ wr))
    (HRET : Hid (∀ (v22 v100 v101 v102 v103 v104 v105 v106 v107 v108 v109 v110 v111 v112 v113 v114 v115 v116 v117 v118 v119 v120 v121 v122 v123 v124 v125 v126 v127 v128 v129 : Value) (wr : World), idsE ls ts node g.src k ids = 170 ∧ Chg [] wj wr → Q0 .ret ⟨(List.toArray (.slice A n c :: .slice B m d :: u2 :: .int .i64 node :: u4 :: u5 :: u6 :: u7 :: u8 :: u9 :: VN :: .int .i64 170 :: VN :: u13 :: u14 :: u15 :: .pointer (some ⟨gb, 0, none⟩) :: u17 :: u18 :: .int .i64 (k : Int) :: .slice SA SN SC :: u21 :: v22 :: u23 :: u24 :: u25 :: u26 :: u27 :: u28 :: u29 :: u30 :: u31 :: u32 :: u33 :: u34 :: u35 :: u36 :: u37 :: u38 :: u39 :: u40 :: u41 :: u42 :: u43 :: u44 :: u45 :: u46 :: u47 :: u48 :: u49 :: u50 :: u51 :: u52 :: u53 :: u54 :: u55 :: u56 :: u57 :: u58 :: u59 :: u60 :: u61 :: u62 :: u63 :: u64 :: u65 :: u66 :: u67 :: u68 :: u69 :: u70 :: u71 :: u72 :: u73 :: u74 :: u75 :: u76 :: u77 :: u78 :: u79 :: u80 :: u81 :: u82 :: u83 :: u84 :: u85 :: u86 :: u87 :: u88 :: u89 :: u90 :: u91 :: u92 :: u93 :: u94 :: u95 :: u96 :: u97 :: u98 :: u99 :: v100 :: v101 :: v102 :: v103 :: v104 :: v105 :: v106 :: v107 :: v108 :: v109 :: v110 :: v111 :: v112 :: v113 :: v114 :: v115 :: v116 :: v117 :: v118 :: v119 :: v120 :: v121 :: v122 :: v123 :: v124 :: v125 :: v126 :: v127 :: v128 :: v129 :: u130 :: u131 :: u132 :: u133 :: u134 :: u135 :: u136 :: u137 :: u138 :: u139 :: u140 :: u141 :: u142 :: u143 :: u144 :: u145 :: u146 :: u147 :: u148 :: u149 :: u150 :: u151 :: u152 :: u153 :: u154 :: u155 :: u156 :: u157 :: u158 :: u159 :: u160 :: u161 :: u162 :: u163 :: u164 :: u165 :: u166 :: u167 :: u168 :: u169 :: u170 :: [])), []⟩ wr)) :
    Code.wp Try.prog (.loop rdLoop3) Q0 ⟨(List.toArray (.slice A n c :: .slice B m d :: u2 :: .int .i64 node :: u4 :: u5 :: u6 :: u7 :: u8 :: u9 :: u10 :: u11 :: VN :: u13 :: u14 :: u15 :: .pointer (some ⟨gb, 0, none⟩) :: u17 :: u18 :: .int .i64 (k : Int) :: .slice SA SN SC :: u21 :: .int .i64 0 :: u23 :: u24 :: u25 :: u26 :: u27 :: u28 :: u29 :: u30 :: u31 :: u32 :: u33 :: u34 :: u35 :: u36 :: u37 :: u38 :: u39 :: u40 :: u41 :: u42 :: u43 :: u44 :: u45 :: u46 :: u47 :: u48 :: u49 :: u50 :: u51 :: u52 :: u53 :: u54 :: u55 :: u56 :: u57 :: u58 :: u59 :: u60 :: u61 :: u62 :: u63 :: u64 :: u65 :: u66 :: u67 :: u68 :: u69 :: u70 :: u71 :: u72 :: u73 :: u74 :: u75 :: u76 :: u77 :: u78 :: u79 :: u80 :: u81 :: u82 :: u83 :: u84 :: u85 :: u86 :: u87 :: u88 :: u89 :: u90 :: u91 :: u92 :: u93 :: u94 :: u95 :: u96 :: u97 :: u98 :: u99 :: u100 :: u101 :: u102 :: u103 :: u104 :: u105 :: u106 :: u107 :: u108 :: u109 :: u110 :: u111 :: u112 :: u113 :: u114 :: u115 :: u116 :: u117 :: u118 :: u119 :: u120 :: u121 :: u122 :: u123 :: u124 :: u125 :: u126 :: u127 :: u128 :: u129 :: u130 :: u131 :: u132 :: u133 :: u134 :: u135 :: u136 :: u137 :: u138 :: u139 :: u140 :: u141 :: u142 :: u143 :: u144 :: u145 :: u146 :: u147 :: u148 :: u149 :: u150 :: u151 :: u152 :: u153 :: u154 :: u155 :: u156 :: u157 :: u158 :: u159 :: u160 :: u161 :: u162 :: u163 :: u164 :: u165 :: u166 :: u167 :: u168 :: u169 :: u170 :: [])), []⟩ wj := by
  conv => arg 2; arg 1; whnf
  go_loopw [22] (fun q wr => ∃ (i : Nat), i ≤ SN ∧ q = .int .i64 i ∧ (∀ id ∈ ids.take i, tyOf ts id = g.src ∧ wyOf ls node id = k) ∧ Chg [] wj wr) (fun q _ => SN - (intOf q).toNat)
  case atStart => exact ⟨0, Nat.zero_le _, rfl, by simp, Chg.refl _ _⟩
  case round =>
    obtain ⟨i, hi, rfl, hall, hcq⟩ := hrel
    have HALL := Lib.hid hall
    have HCQ := Lib.hid hcq
    clear hall hcq
    by_cases hlt : i < SN
    · obtain ⟨ad, id, hA2, hid, hcell⟩ := rd_int (HRI.out wr HCQ.out) hlt
      obtain ⟨h0, l, hl1, hlv, htou, _⟩ := HGOOD.out.at_ i id hid
      obtain ⟨jj, rfl⟩ := Int.eq_ofNat_of_zero_le h0
      simp only [Int.toNat_natCast] at hl1
      have hjn : jj < n := by have := (List.getElem?_eq_some_iff.1 hl1).1; have := HL.out; omega
      obtain ⟨al, rfl, hat⟩ := (HR.out wr HCQ.out).lk hl1
      obtain ⟨x20, x21, x22, x23, x24, x25, x26⟩ := hat
      obtain ⟨bt, t, rfl, ht, x1⟩ := rd_int (HO.out wr HCQ.out) (show jj < m by have := HMN.out; omega)
      have hjn' : (jj : Int) < n := by omega
      have hjm' : (jj : Int) < m := by have := HMN.out; omega
      have HTY : Hid (tyOf ts jj = t) := Lib.hid (by unfold tyOf; simp [ht])
      have HWY : Hid (wyOf ls node jj = wayOf l node) := Lib.hid (by unfold wyOf; simp [hl1])
      have HID : Hid (ids[i]? = some (jj : Int)) := Lib.hid hid
      have HMEM : Hid ((jj : Int) ∈ ids) := Lib.hid (List.mem_of_getElem? hid)
      have gb1 := (HG.out wr HCQ.out).cell 1
      simp at gb1
      subst hA2
      clear hid hl1 hlv htou ht h0
      by_cases htt : t = g.src
      · have g1 : (t != g.src) = false := by simp [htt]
        have HTT := Lib.hid htt
        clear htt
        obtain ⟨wy, hwy⟩ : ∃ wy, wayOf l node = wy := ⟨_, rfl⟩
        have HWL := Lib.hid hwy
        clear hwy
        by_cases hwj : wy = k
        · have g2 : ((wy : Int) != (k : Int)) = false := by simp [hwj]
          have HWJ := Lib.hid hwj
          clear hwj
          go_wp2_with fail
          refine wp_region_held_drew (S := fun w' => Chg [] wr w') (by kernel_rfl) ((Chg.refl _ _).drew) (fun hHeld => ?_)
          refine wpAnyH_take (i := 0) (v := ?_) rfl (by kernel_rfl) (by kernel_rfl) (by kernel_rfl) (fun _ _ _ h => HPAN.out _ _ _ _ _ h) (Or.inl ⟨by rfl, ?_⟩) (by assumption) ?_
          rotate_left
          · (intro w' hSw; go_simp; try with_reducible rfl)
          try simp only [Act.put, List.getElem_toArray, List.getElem_cons_zero, List.setIfInBounds_toArray, List.set_cons_zero, List.set_cons_succ]
          refine wpAnyH_take (i := 1) (v := ?_) rfl (by kernel_rfl) (by kernel_rfl) (by kernel_rfl) (fun _ _ _ h => HPAN.out _ _ _ _ _ h) (Or.inl ⟨by rfl, ?_⟩) (by assumption) ?_
          rotate_left
          · (intro w' hSw; go_simp; try with_reducible rfl)
          try simp only [Act.put, List.getElem_toArray, List.getElem_cons_zero, List.getElem_cons_succ, List.setIfInBounds_toArray, List.set_cons_zero, List.set_cons_succ]
          refine wpAnyH_take (i := 2) (v := ?_) rfl (by kernel_rfl) (by kernel_rfl) (by kernel_rfl) (fun _ _ _ h => HPAN.out _ _ _ _ _ h) (Or.inl ⟨by rfl, ?_⟩) (by assumption) ?_
          rotate_left
          · (intro w' hSw; go_simp; try with_reducible rfl)
          try simp only [Act.put, List.getElem_toArray, List.getElem_cons_zero, List.getElem_cons_succ, List.setIfInBounds_toArray, List.set_cons_zero, List.set_cons_succ]
          refine wpAnyH_take (i := 3) (v := ?_) rfl (by kernel_rfl) (by kernel_rfl) (by kernel_rfl) (fun _ _ _ h => HPAN.out _ _ _ _ _ h) (Or.inl ⟨by rfl, ?_⟩) (by assumption) ?_
          rotate_left
          · (intro w' hSw; go_simp; try with_reducible rfl)
          try simp only [Act.put, List.getElem_toArray, List.getElem_cons_zero, List.getElem_cons_succ, List.setIfInBounds_toArray, List.set_cons_zero, List.set_cons_succ]
          refine wpAnyH_take (i := 4) (v := ?_) rfl (by kernel_rfl) (by kernel_rfl) (by kernel_rfl) (fun _ _ _ h => HPAN.out _ _ _ _ _ h) (Or.inl ⟨by rfl, ?_⟩) (by assumption) ?_
          rotate_left
          · (intro w' hSw; have q := hSw.cell hcell (fun h => List.not_mem_nil h); go_simp; try with_reducible rfl)
          try simp only [Act.put, List.getElem_toArray, List.getElem_cons_zero, List.getElem_cons_succ, List.setIfInBounds_toArray, List.set_cons_zero, List.set_cons_succ]
          refine wpAnyH_take (i := 5) (v := ?_) rfl (by kernel_rfl) (by kernel_rfl) (by kernel_rfl) (fun _ _ _ h => HPAN.out _ _ _ _ _ h) (Or.inl ⟨by rfl, ?_⟩) (by assumption) ?_
          rotate_left
          · (intro w' hSw; go_simp; try with_reducible rfl)
          try simp only [Act.put, List.getElem_toArray, List.getElem_cons_zero, List.getElem_cons_succ, List.setIfInBounds_toArray, List.set_cons_zero, List.set_cons_succ]
          refine wpAnyH_take (i := 6) (v := ?_) rfl (by kernel_rfl) (by kernel_rfl) (by kernel_rfl) (fun _ _ _ h => HPAN.out _ _ _ _ _ h) (Or.inl ⟨by rfl, ?_⟩) (by assumption) ?_
          rotate_left
          · (intro w' hSw; have q := hSw.cell x1 (fun h => List.not_mem_nil h); go_simp; try with_reducible rfl)
          try simp only [Act.put, List.getElem_toArray, List.getElem_cons_zero, List.getElem_cons_succ, List.setIfInBounds_toArray, List.set_cons_zero, List.set_cons_succ]
          refine wpAnyH_take (i := 7) (v := ?_) rfl (by kernel_rfl) (by kernel_rfl) (by kernel_rfl) (fun _ _ _ h => HPAN.out _ _ _ _ _ h) (Or.inl ⟨by rfl, ?_⟩) (by assumption) ?_
          rotate_left
          · (intro w' hSw; go_simp; try with_reducible rfl)
          try simp only [Act.put, List.getElem_toArray, List.getElem_cons_zero, List.getElem_cons_succ, List.setIfInBounds_toArray, List.set_cons_zero, List.set_cons_succ]
          refine wpAnyH_take (i := 8) (v := ?_) rfl (by kernel_rfl) (by kernel_rfl) (by kernel_rfl) (fun _ _ _ h => HPAN.out _ _ _ _ _ h) (Or.inl ⟨by rfl, ?_⟩) (by assumption) ?_
          rotate_left
          · (intro w' hSw; have q := hSw.cell gb1 (fun h => List.not_mem_nil h); go_simp; try with_reducible rfl)
          try simp only [Act.put, List.getElem_toArray, List.getElem_cons_zero, List.getElem_cons_succ, List.setIfInBounds_toArray, List.set_cons_zero, List.set_cons_succ]
          refine wpAnyH_take (i := 9) (v := ?_) rfl (by kernel_rfl) (by kernel_rfl) (by kernel_rfl) (fun _ _ _ h => HPAN.out _ _ _ _ _ h) (Or.inl ⟨by rfl, ?_⟩) (by assumption) ?_
          rotate_left
          · (intro w' hSw; go_simp; try with_reducible rfl)
          try simp only [Act.put, List.getElem_toArray, List.getElem_cons_zero, List.getElem_cons_succ, List.setIfInBounds_toArray, List.set_cons_zero, List.set_cons_succ]
          refine wpAnyH_take (i := 10) (v := ?_) rfl (by kernel_rfl) (by kernel_rfl) (by kernel_rfl) (fun _ _ _ h => HPAN.out _ _ _ _ _ h) (Or.inl ⟨by rfl, ?_⟩) (by assumption) ?_
          rotate_left
          · (intro w' hSw; go_simp; try with_reducible rfl)
          try simp only [Act.put, List.getElem_toArray, List.getElem_cons_zero, List.getElem_cons_succ, List.setIfInBounds_toArray, List.set_cons_zero, List.set_cons_succ]
          refine wpAnyH_take (i := 11) (v := ?_) rfl (by kernel_rfl) (by kernel_rfl) (by kernel_rfl) (fun _ _ _ h => HPAN.out _ _ _ _ _ h) (Or.inl ⟨by rfl, ?_⟩) (by assumption) ?_
          rotate_left
          · (intro w' hSw; go_simp; try with_reducible rfl)
          try simp only [Act.put, List.getElem_toArray, List.getElem_cons_zero, List.getElem_cons_succ, List.setIfInBounds_toArray, List.set_cons_zero, List.set_cons_succ]
          refine wpAnyH_take (i := 12) (v := ?_) rfl (by kernel_rfl) (by kernel_rfl) (by kernel_rfl) (fun _ _ _ h => HPAN.out _ _ _ _ _ h) (Or.inl ⟨by rfl, ?_⟩) (by assumption) ?_
          rotate_left
          · (intro w' hSw; go_simp; try with_reducible rfl)
          try simp only [Act.put, List.getElem_toArray, List.getElem_cons_zero, List.getElem_cons_succ, List.setIfInBounds_toArray, List.set_cons_zero, List.set_cons_succ]
          refine wpAnyH_take (i := 13) (v := ?_) rfl (by kernel_rfl) (by kernel_rfl) (by kernel_rfl) (fun _ _ _ h => HPAN.out _ _ _ _ _ h) (Or.inl ⟨by rfl, ?_⟩) (by assumption) ?_
          rotate_left
          · (intro w' hSw; go_simp; try with_reducible rfl)
          try simp only [Act.put, List.getElem_toArray, List.getElem_cons_zero, List.getElem_cons_succ, List.setIfInBounds_toArray, List.set_cons_zero, List.set_cons_succ]
          refine wpAnyH_take (i := 14) (v := ?_) rfl (by kernel_rfl) (by kernel_rfl) (by kernel_rfl) (fun _ _ _ h => HPAN.out _ _ _ _ _ h) (Or.inl ⟨by rfl, ?_⟩) (by assumption) ?_
          rotate_left
          · (intro w' hSw; go_simp; try with_reducible rfl)
          try simp only [Act.put, List.getElem_toArray, List.getElem_cons_zero, List.getElem_cons_succ, List.setIfInBounds_toArray, List.set_cons_zero, List.set_cons_succ]
          refine wpAnyH_take (i := 15) (v := ?_) rfl (by kernel_rfl) (by kernel_rfl) (by kernel_rfl) (fun _ _ _ h => HPAN.out _ _ _ _ _ h) (Or.inl ⟨by rfl, ?_⟩) (by assumption) ?_
          rotate_left
          · (intro w' hSw; have q := hSw.cell hcell (fun h => List.not_mem_nil h); go_simp; try with_reducible rfl)
          try simp only [Act.put, List.getElem_toArray, List.getElem_cons_zero, List.getElem_cons_succ, List.setIfInBounds_toArray, List.set_cons_zero, List.set_cons_succ]
          refine wpAnyH_take (i := 16) (v := ?_) rfl (by kernel_rfl) (by kernel_rfl) (by kernel_rfl) (fun _ _ _ h => HPAN.out _ _ _ _ _ h) (Or.inl ⟨by rfl, ?_⟩) (by assumption) ?_
          rotate_left
          · (intro w' hSw; go_simp; try with_reducible rfl)
          try simp only [Act.put, List.getElem_toArray, List.getElem_cons_zero, List.getElem_cons_succ, List.setIfInBounds_toArray, List.set_cons_zero, List.set_cons_succ]
          refine wpAnyH_take (i := 17) (v := ?_) rfl (by kernel_rfl) (by kernel_rfl) (by kernel_rfl) (fun _ _ _ h => HPAN.out _ _ _ _ _ h) (Or.inl ⟨by rfl, ?_⟩) (by assumption) ?_
          rotate_left
          · (intro w' hSw; have q0 := hSw.cell x20 (fun h => List.not_mem_nil h); have q1 := hSw.cell x21 (fun h => List.not_mem_nil h); have q2 := hSw.cell x22 (fun h => List.not_mem_nil h); have q3 := hSw.cell x23 (fun h => List.not_mem_nil h); have q4 := hSw.cell x24 (fun h => List.not_mem_nil h); have q5 := hSw.cell x25 (fun h => List.not_mem_nil h); have q6 := hSw.cell x26 (fun h => List.not_mem_nil h); go_simp; try with_reducible rfl)
          try simp only [Act.put, List.getElem_toArray, List.getElem_cons_zero, List.getElem_cons_succ, List.setIfInBounds_toArray, List.set_cons_zero, List.set_cons_succ]
          refine wpAnyH_take (i := 18) (v := ?_) rfl (by kernel_rfl) (by kernel_rfl) (by kernel_rfl) (fun _ _ _ h => HPAN.out _ _ _ _ _ h) (Or.inl ⟨by rfl, ?_⟩) (by assumption) ?_
          rotate_left
          · (intro w' hSw; go_simp; try with_reducible rfl)
          try simp only [Act.put, List.getElem_toArray, List.getElem_cons_zero, List.getElem_cons_succ, List.setIfInBounds_toArray, List.set_cons_zero, List.set_cons_succ]
          refine wpAnyH_take (i := 20) (v := ?_) rfl (by kernel_rfl) (by kernel_rfl) (by kernel_rfl) (fun _ _ _ h => HPAN.out _ _ _ _ _ h) (Or.inl ⟨by rfl, ?_⟩) (by assumption) ?_
          rotate_left
          · (intro w' hSw; go_simp; try with_reducible rfl)
          try simp only [Act.put, List.getElem_toArray, List.getElem_cons_zero, List.getElem_cons_succ, List.setIfInBounds_toArray, List.set_cons_zero, List.set_cons_succ]
          refine wpAnyH_ready (rs := [19]) (by kernel_rfl) (by simp) ?_
          refine AllReadyH.cons rfl (fun K hK => ?_) (AllReadyH.nil)
          go_simp
          refine (rway_any' l node wy HWL.out _).mono ?_
          rintro e w3 ⟨rfl, hc3⟩
          have HC3 := Lib.hid (hHeld.trans0 hc3)
          clear hc3
          refine hK.out _ _ (HC3.out) (fun hHeld => ?_)
          try simp only [Act.put, List.getElem_toArray, List.getElem_cons_zero, List.getElem_cons_succ, List.setIfInBounds_toArray, List.set_cons_zero, List.set_cons_succ]
          clear hK K
          refine wpAnyH_take (i := 21) (v := ?_) rfl (by kernel_rfl) (by kernel_rfl) (by kernel_rfl) (fun _ _ _ h => HPAN.out _ _ _ _ _ h) (Or.inl ⟨by rfl, ?_⟩) (by assumption) ?_
          rotate_left
          · (intro w' hSw; go_simp; try with_reducible rfl)
          try simp only [Act.put, List.getElem_toArray, List.getElem_cons_zero, List.getElem_cons_succ, List.setIfInBounds_toArray, List.set_cons_zero, List.set_cons_succ]
          refine wpAnyH_take (i := 22) (v := ?_) rfl (by kernel_rfl) (by kernel_rfl) (by kernel_rfl) (fun _ _ _ h => HPAN.out _ _ _ _ _ h) (Or.inl ⟨by rfl, ?_⟩) (by assumption) ?_
          rotate_left
          · (intro w' hSw; go_simp; try with_reducible rfl)
          try simp only [Act.put, List.getElem_toArray, List.getElem_cons_zero, List.getElem_cons_succ, List.setIfInBounds_toArray, List.set_cons_zero, List.set_cons_succ]
          refine wpAnyH_done (by kernel_rfl) ?_ _
          try simp only [Act.put, List.getElem_toArray, List.getElem_cons_zero, List.getElem_cons_succ, List.setIfInBounds_toArray, List.set_cons_zero, List.set_cons_succ]
          clear gb1
          go_wp2
          go_roundw
          case rel =>
            refine ⟨i + 1, by omega, by go_num, ?_, HCQ.out.trans0 HC3.out⟩
            rw [take_snoc _ _ _ HID.out]
            intro id hid
            rcases List.mem_append.1 hid with h | h
            · exact HALL.out id h
            · simp at h; subst h; exact ⟨HTY.out.trans HTT.out, (HWY.out.trans HWL.out).trans HWJ.out⟩
          case measure => simp [intOf]; omega
        · have g2 : ((wy : Int) != (k : Int)) = true := by simp; omega
          have HE : Hid (idsE ls ts node g.src k ids = 170) := Lib.hid (idsE_bad HMEM.out (fun h => hwj ((HWL.out.symm.trans HWY.out.symm).trans h.2)))
          clear hwj
          go_wp2_with fail
          refine wp_region_held_drew (S := fun w' => Chg [] wr w') (by kernel_rfl) ((Chg.refl _ _).drew) (fun hHeld => ?_)
          refine wpAnyH_take (i := 0) (v := ?_) rfl (by kernel_rfl) (by kernel_rfl) (by kernel_rfl) (fun _ _ _ h => HPAN.out _ _ _ _ _ h) (Or.inl ⟨by rfl, ?_⟩) (by assumption) ?_
          rotate_left
          · (intro w' hSw; go_simp; try with_reducible rfl)
          try simp only [Act.put, List.getElem_toArray, List.getElem_cons_zero, List.setIfInBounds_toArray, List.set_cons_zero, List.set_cons_succ]
          refine wpAnyH_take (i := 1) (v := ?_) rfl (by kernel_rfl) (by kernel_rfl) (by kernel_rfl) (fun _ _ _ h => HPAN.out _ _ _ _ _ h) (Or.inl ⟨by rfl, ?_⟩) (by assumption) ?_
          rotate_left
          · (intro w' hSw; go_simp; try with_reducible rfl)
          try simp only [Act.put, List.getElem_toArray, List.getElem_cons_zero, List.getElem_cons_succ, List.setIfInBounds_toArray, List.set_cons_zero, List.set_cons_succ]
          refine wpAnyH_take (i := 2) (v := ?_) rfl (by kernel_rfl) (by kernel_rfl) (by kernel_rfl) (fun _ _ _ h => HPAN.out _ _ _ _ _ h) (Or.inl ⟨by rfl, ?_⟩) (by assumption) ?_
          rotate_left
          · (intro w' hSw; go_simp; try with_reducible rfl)
          try simp only [Act.put, List.getElem_toArray, List.getElem_cons_zero, List.getElem_cons_succ, List.setIfInBounds_toArray, List.set_cons_zero, List.set_cons_succ]
          refine wpAnyH_take (i := 3) (v := ?_) rfl (by kernel_rfl) (by kernel_rfl) (by kernel_rfl) (fun _ _ _ h => HPAN.out _ _ _ _ _ h) (Or.inl ⟨by rfl, ?_⟩) (by assumption) ?_
          rotate_left
          · (intro w' hSw; go_simp; try with_reducible rfl)
          try simp only [Act.put, List.getElem_toArray, List.getElem_cons_zero, List.getElem_cons_succ, List.setIfInBounds_toArray, List.set_cons_zero, List.set_cons_succ]
          refine wpAnyH_take (i := 4) (v := ?_) rfl (by kernel_rfl) (by kernel_rfl) (by kernel_rfl) (fun _ _ _ h => HPAN.out _ _ _ _ _ h) (Or.inl ⟨by rfl, ?_⟩) (by assumption) ?_
          rotate_left
          · (intro w' hSw; have q := hSw.cell hcell (fun h => List.not_mem_nil h); go_simp; try with_reducible rfl)
          try simp only [Act.put, List.getElem_toArray, List.getElem_cons_zero, List.getElem_cons_succ, List.setIfInBounds_toArray, List.set_cons_zero, List.set_cons_succ]
          refine wpAnyH_take (i := 5) (v := ?_) rfl (by kernel_rfl) (by kernel_rfl) (by kernel_rfl) (fun _ _ _ h => HPAN.out _ _ _ _ _ h) (Or.inl ⟨by rfl, ?_⟩) (by assumption) ?_
          rotate_left
          · (intro w' hSw; go_simp; try with_reducible rfl)
          try simp only [Act.put, List.getElem_toArray, List.getElem_cons_zero, List.getElem_cons_succ, List.setIfInBounds_toArray, List.set_cons_zero, List.set_cons_succ]
          refine wpAnyH_take (i := 6) (v := ?_) rfl (by kernel_rfl) (by kernel_rfl) (by kernel_rfl) (fun _ _ _ h => HPAN.out _ _ _ _ _ h) (Or.inl ⟨by rfl, ?_⟩) (by assumption) ?_
          rotate_left
          · (intro w' hSw; have q := hSw.cell x1 (fun h => List.not_mem_nil h); go_simp; try with_reducible rfl)
          try simp only [Act.put, List.getElem_toArray, List.getElem_cons_zero, List.getElem_cons_succ, List.setIfInBounds_toArray, List.set_cons_zero, List.set_cons_succ]
          refine wpAnyH_take (i := 7) (v := ?_) rfl (by kernel_rfl) (by kernel_rfl) (by kernel_rfl) (fun _ _ _ h => HPAN.out _ _ _ _ _ h) (Or.inl ⟨by rfl, ?_⟩) (by assumption) ?_
          rotate_left
          · (intro w' hSw; go_simp; try with_reducible rfl)
          try simp only [Act.put, List.getElem_toArray, List.getElem_cons_zero, List.getElem_cons_succ, List.setIfInBounds_toArray, List.set_cons_zero, List.set_cons_succ]
          refine wpAnyH_take (i := 8) (v := ?_) rfl (by kernel_rfl) (by kernel_rfl) (by kernel_rfl) (fun _ _ _ h => HPAN.out _ _ _ _ _ h) (Or.inl ⟨by rfl, ?_⟩) (by assumption) ?_
          rotate_left
          · (intro w' hSw; have q := hSw.cell gb1 (fun h => List.not_mem_nil h); go_simp; try with_reducible rfl)
          try simp only [Act.put, List.getElem_toArray, List.getElem_cons_zero, List.getElem_cons_succ, List.setIfInBounds_toArray, List.set_cons_zero, List.set_cons_succ]
          refine wpAnyH_take (i := 9) (v := ?_) rfl (by kernel_rfl) (by kernel_rfl) (by kernel_rfl) (fun _ _ _ h => HPAN.out _ _ _ _ _ h) (Or.inl ⟨by rfl, ?_⟩) (by assumption) ?_
          rotate_left
          · (intro w' hSw; go_simp; try with_reducible rfl)
          try simp only [Act.put, List.getElem_toArray, List.getElem_cons_zero, List.getElem_cons_succ, List.setIfInBounds_toArray, List.set_cons_zero, List.set_cons_succ]
          refine wpAnyH_take (i := 10) (v := ?_) rfl (by kernel_rfl) (by kernel_rfl) (by kernel_rfl) (fun _ _ _ h => HPAN.out _ _ _ _ _ h) (Or.inl ⟨by rfl, ?_⟩) (by assumption) ?_
          rotate_left
          · (intro w' hSw; go_simp; try with_reducible rfl)
          try simp only [Act.put, List.getElem_toArray, List.getElem_cons_zero, List.getElem_cons_succ, List.setIfInBounds_toArray, List.set_cons_zero, List.set_cons_succ]
          refine wpAnyH_take (i := 11) (v := ?_) rfl (by kernel_rfl) (by kernel_rfl) (by kernel_rfl) (fun _ _ _ h => HPAN.out _ _ _ _ _ h) (Or.inl ⟨by rfl, ?_⟩) (by assumption) ?_
          rotate_left
          · (intro w' hSw; go_simp; try with_reducible rfl)
          try simp only [Act.put, List.getElem_toArray, List.getElem_cons_zero, List.getElem_cons_succ, List.setIfInBounds_toArray, List.set_cons_zero, List.set_cons_succ]
          refine wpAnyH_take (i := 12) (v := ?_) rfl (by kernel_rfl) (by kernel_rfl) (by kernel_rfl) (fun _ _ _ h => HPAN.out _ _ _ _ _ h) (Or.inl ⟨by rfl, ?_⟩) (by assumption) ?_
          rotate_left
          · (intro w' hSw; go_simp; try with_reducible rfl)
          try simp only [Act.put, List.getElem_toArray, List.getElem_cons_zero, List.getElem_cons_succ, List.setIfInBounds_toArray, List.set_cons_zero, List.set_cons_succ]
          refine wpAnyH_take (i := 13) (v := ?_) rfl (by kernel_rfl) (by kernel_rfl) (by kernel_rfl) (fun _ _ _ h => HPAN.out _ _ _ _ _ h) (Or.inl ⟨by rfl, ?_⟩) (by assumption) ?_
          rotate_left
          · (intro w' hSw; go_simp; try with_reducible rfl)
          try simp only [Act.put, List.getElem_toArray, List.getElem_cons_zero, List.getElem_cons_succ, List.setIfInBounds_toArray, List.set_cons_zero, List.set_cons_succ]
          refine wpAnyH_take (i := 14) (v := ?_) rfl (by kernel_rfl) (by kernel_rfl) (by kernel_rfl) (fun _ _ _ h => HPAN.out _ _ _ _ _ h) (Or.inl ⟨by rfl, ?_⟩) (by assumption) ?_
          rotate_left
          · (intro w' hSw; go_simp; try with_reducible rfl)
          try simp only [Act.put, List.getElem_toArray, List.getElem_cons_zero, List.getElem_cons_succ, List.setIfInBounds_toArray, List.set_cons_zero, List.set_cons_succ]
          refine wpAnyH_take (i := 15) (v := ?_) rfl (by kernel_rfl) (by kernel_rfl) (by kernel_rfl) (fun _ _ _ h => HPAN.out _ _ _ _ _ h) (Or.inl ⟨by rfl, ?_⟩) (by assumption) ?_
          rotate_left
          · (intro w' hSw; have q := hSw.cell hcell (fun h => List.not_mem_nil h); go_simp; try with_reducible rfl)
          try simp only [Act.put, List.getElem_toArray, List.getElem_cons_zero, List.getElem_cons_succ, List.setIfInBounds_toArray, List.set_cons_zero, List.set_cons_succ]
          refine wpAnyH_take (i := 16) (v := ?_) rfl (by kernel_rfl) (by kernel_rfl) (by kernel_rfl) (fun _ _ _ h => HPAN.out _ _ _ _ _ h) (Or.inl ⟨by rfl, ?_⟩) (by assumption) ?_
          rotate_left
          · (intro w' hSw; go_simp; try with_reducible rfl)
          try simp only [Act.put, List.getElem_toArray, List.getElem_cons_zero, List.getElem_cons_succ, List.setIfInBounds_toArray, List.set_cons_zero, List.set_cons_succ]
          refine wpAnyH_take (i := 17) (v := ?_) rfl (by kernel_rfl) (by kernel_rfl) (by kernel_rfl) (fun _ _ _ h => HPAN.out _ _ _ _ _ h) (Or.inl ⟨by rfl, ?_⟩) (by assumption) ?_
          rotate_left
          · (intro w' hSw; have q0 := hSw.cell x20 (fun h => List.not_mem_nil h); have q1 := hSw.cell x21 (fun h => List.not_mem_nil h); have q2 := hSw.cell x22 (fun h => List.not_mem_nil h); have q3 := hSw.cell x23 (fun h => List.not_mem_nil h); have q4 := hSw.cell x24 (fun h => List.not_mem_nil h); have q5 := hSw.cell x25 (fun h => List.not_mem_nil h); have q6 := hSw.cell x26 (fun h => List.not_mem_nil h); go_simp; try with_reducible rfl)
          try simp only [Act.put, List.getElem_toArray, List.getElem_cons_zero, List.getElem_cons_succ, List.setIfInBounds_toArray, List.set_cons_zero, List.set_cons_succ]
          refine wpAnyH_take (i := 18) (v := ?_) rfl (by kernel_rfl) (by kernel_rfl) (by kernel_rfl) (fun _ _ _ h => HPAN.out _ _ _ _ _ h) (Or.inl ⟨by rfl, ?_⟩) (by assumption) ?_
          rotate_left
          · (intro w' hSw; go_simp; try with_reducible rfl)
          try simp only [Act.put, List.getElem_toArray, List.getElem_cons_zero, List.getElem_cons_succ, List.setIfInBounds_toArray, List.set_cons_zero, List.set_cons_succ]
          refine wpAnyH_take (i := 20) (v := ?_) rfl (by kernel_rfl) (by kernel_rfl) (by kernel_rfl) (fun _ _ _ h => HPAN.out _ _ _ _ _ h) (Or.inl ⟨by rfl, ?_⟩) (by assumption) ?_
          rotate_left
          · (intro w' hSw; go_simp; try with_reducible rfl)
          try simp only [Act.put, List.getElem_toArray, List.getElem_cons_zero, List.getElem_cons_succ, List.setIfInBounds_toArray, List.set_cons_zero, List.set_cons_succ]
          refine wpAnyH_ready (rs := [19]) (by kernel_rfl) (by simp) ?_
          refine AllReadyH.cons rfl (fun K hK => ?_) (AllReadyH.nil)
          go_simp
          refine (rway_any' l node wy HWL.out _).mono ?_
          rintro e w3 ⟨rfl, hc3⟩
          have HC3 := Lib.hid (hHeld.trans0 hc3)
          clear hc3
          refine hK.out _ _ (HC3.out) (fun hHeld => ?_)
          try simp only [Act.put, List.getElem_toArray, List.getElem_cons_zero, List.getElem_cons_succ, List.setIfInBounds_toArray, List.set_cons_zero, List.set_cons_succ]
          clear hK K
          refine wpAnyH_take (i := 21) (v := ?_) rfl (by kernel_rfl) (by kernel_rfl) (by kernel_rfl) (fun _ _ _ h => HPAN.out _ _ _ _ _ h) (Or.inl ⟨by rfl, ?_⟩) (by assumption) ?_
          rotate_left
          · (intro w' hSw; go_simp; try with_reducible rfl)
          try simp only [Act.put, List.getElem_toArray, List.getElem_cons_zero, List.getElem_cons_succ, List.setIfInBounds_toArray, List.set_cons_zero, List.set_cons_succ]
          refine wpAnyH_take (i := 22) (v := ?_) rfl (by kernel_rfl) (by kernel_rfl) (by kernel_rfl) (fun _ _ _ h => HPAN.out _ _ _ _ _ h) (Or.inl ⟨by rfl, ?_⟩) (by assumption) ?_
          rotate_left
          · (intro w' hSw; go_simp; try with_reducible rfl)
          try simp only [Act.put, List.getElem_toArray, List.getElem_cons_zero, List.getElem_cons_succ, List.setIfInBounds_toArray, List.set_cons_zero, List.set_cons_succ]
          refine wpAnyH_done (by kernel_rfl) ?_ _
          try simp only [Act.put, List.getElem_toArray, List.getElem_cons_zero, List.getElem_cons_succ, List.setIfInBounds_toArray, List.set_cons_zero, List.set_cons_succ]
          go_wp2
          exact HRET.out _ _ _ _ _ _ _ _ _ _ _ _ _ _ _ _ _ _ _ _ _ _ _ _ _ _ _ _ _ _ _ _ ⟨HE.out, HCQ.out.trans0 HC3.out⟩
      · have g1 : (t != g.src) = true := by simp [htt]
        have HE : Hid (idsE ls ts node g.src k ids = 170) := Lib.hid (idsE_bad HMEM.out (fun h => htt (HTY.out.symm.trans h.1)))
        clear htt
        go_wp2_with fail
        refine wp_region_held_drew (S := fun w' => Chg [] wr w') (by kernel_rfl) ((Chg.refl _ _).drew) (fun hHeld => ?_)
        refine wpAnyH_take (i := 0) (v := ?_) rfl (by kernel_rfl) (by kernel_rfl) (by kernel_rfl) (fun _ _ _ h => HPAN.out _ _ _ _ _ h) (Or.inl ⟨by rfl, ?_⟩) (by assumption) ?_
        rotate_left
        · (intro w' hSw; go_simp; try with_reducible rfl)
        try simp only [Act.put, List.getElem_toArray, List.getElem_cons_zero, List.setIfInBounds_toArray, List.set_cons_zero, List.set_cons_succ]
        refine wpAnyH_take (i := 1) (v := ?_) rfl (by kernel_rfl) (by kernel_rfl) (by kernel_rfl) (fun _ _ _ h => HPAN.out _ _ _ _ _ h) (Or.inl ⟨by rfl, ?_⟩) (by assumption) ?_
        rotate_left
        · (intro w' hSw; go_simp; try with_reducible rfl)
        try simp only [Act.put, List.getElem_toArray, List.getElem_cons_zero, List.getElem_cons_succ, List.setIfInBounds_toArray, List.set_cons_zero, List.set_cons_succ]
        refine wpAnyH_take (i := 2) (v := ?_) rfl (by kernel_rfl) (by kernel_rfl) (by kernel_rfl) (fun _ _ _ h => HPAN.out _ _ _ _ _ h) (Or.inl ⟨by rfl, ?_⟩) (by assumption) ?_
        rotate_left
        · (intro w' hSw; go_simp; try with_reducible rfl)
        try simp only [Act.put, List.getElem_toArray, List.getElem_cons_zero, List.getElem_cons_succ, List.setIfInBounds_toArray, List.set_cons_zero, List.set_cons_succ]
        refine wpAnyH_take (i := 3) (v := ?_) rfl (by kernel_rfl) (by kernel_rfl) (by kernel_rfl) (fun _ _ _ h => HPAN.out _ _ _ _ _ h) (Or.inl ⟨by rfl, ?_⟩) (by assumption) ?_
        rotate_left
        · (intro w' hSw; go_simp; try with_reducible rfl)
        try simp only [Act.put, List.getElem_toArray, List.getElem_cons_zero, List.getElem_cons_succ, List.setIfInBounds_toArray, List.set_cons_zero, List.set_cons_succ]
        refine wpAnyH_take (i := 4) (v := ?_) rfl (by kernel_rfl) (by kernel_rfl) (by kernel_rfl) (fun _ _ _ h => HPAN.out _ _ _ _ _ h) (Or.inl ⟨by rfl, ?_⟩) (by assumption) ?_
        rotate_left
        · (intro w' hSw; have q := hSw.cell hcell (fun h => List.not_mem_nil h); go_simp; try with_reducible rfl)
        try simp only [Act.put, List.getElem_toArray, List.getElem_cons_zero, List.getElem_cons_succ, List.setIfInBounds_toArray, List.set_cons_zero, List.set_cons_succ]
        refine wpAnyH_take (i := 5) (v := ?_) rfl (by kernel_rfl) (by kernel_rfl) (by kernel_rfl) (fun _ _ _ h => HPAN.out _ _ _ _ _ h) (Or.inl ⟨by rfl, ?_⟩) (by assumption) ?_
        rotate_left
        · (intro w' hSw; go_simp; try with_reducible rfl)
        try simp only [Act.put, List.getElem_toArray, List.getElem_cons_zero, List.getElem_cons_succ, List.setIfInBounds_toArray, List.set_cons_zero, List.set_cons_succ]
        refine wpAnyH_take (i := 6) (v := ?_) rfl (by kernel_rfl) (by kernel_rfl) (by kernel_rfl) (fun _ _ _ h => HPAN.out _ _ _ _ _ h) (Or.inl ⟨by rfl, ?_⟩) (by assumption) ?_
        rotate_left
        · (intro w' hSw; have q := hSw.cell x1 (fun h => List.not_mem_nil h); go_simp; try with_reducible rfl)
        try simp only [Act.put, List.getElem_toArray, List.getElem_cons_zero, List.getElem_cons_succ, List.setIfInBounds_toArray, List.set_cons_zero, List.set_cons_succ]
        refine wpAnyH_take (i := 7) (v := ?_) rfl (by kernel_rfl) (by kernel_rfl) (by kernel_rfl) (fun _ _ _ h => HPAN.out _ _ _ _ _ h) (Or.inl ⟨by rfl, ?_⟩) (by assumption) ?_
        rotate_left
        · (intro w' hSw; go_simp; try with_reducible rfl)
        try simp only [Act.put, List.getElem_toArray, List.getElem_cons_zero, List.getElem_cons_succ, List.setIfInBounds_toArray, List.set_cons_zero, List.set_cons_succ]
        refine wpAnyH_take (i := 8) (v := ?_) rfl (by kernel_rfl) (by kernel_rfl) (by kernel_rfl) (fun _ _ _ h => HPAN.out _ _ _ _ _ h) (Or.inl ⟨by rfl, ?_⟩) (by assumption) ?_
        rotate_left
        · (intro w' hSw; have q := hSw.cell gb1 (fun h => List.not_mem_nil h); go_simp; try with_reducible rfl)
        try simp only [Act.put, List.getElem_toArray, List.getElem_cons_zero, List.getElem_cons_succ, List.setIfInBounds_toArray, List.set_cons_zero, List.set_cons_succ]
        refine wpAnyH_take (i := 9) (v := ?_) rfl (by kernel_rfl) (by kernel_rfl) (by kernel_rfl) (fun _ _ _ h => HPAN.out _ _ _ _ _ h) (Or.inl ⟨by rfl, ?_⟩) (by assumption) ?_
        rotate_left
        · (intro w' hSw; go_simp; try with_reducible rfl)
        try simp only [Act.put, List.getElem_toArray, List.getElem_cons_zero, List.getElem_cons_succ, List.setIfInBounds_toArray, List.set_cons_zero, List.set_cons_succ]
        refine wpAnyH_take (i := 10) (v := ?_) rfl (by kernel_rfl) (by kernel_rfl) (by kernel_rfl) (fun _ _ _ h => HPAN.out _ _ _ _ _ h) (Or.inl ⟨by rfl, ?_⟩) (by assumption) ?_
        rotate_left
        · (intro w' hSw; go_simp; try with_reducible rfl)
        try simp only [Act.put, List.getElem_toArray, List.getElem_cons_zero, List.getElem_cons_succ, List.setIfInBounds_toArray, List.set_cons_zero, List.set_cons_succ]
        refine wpAnyH_take (i := 11) (v := undef) rfl (by kernel_rfl) (by kernel_rfl) (by kernel_rfl) (fun _ _ _ h => HPAN.out _ _ _ _ _ h) (Or.inr ⟨by rfl, rfl⟩) (by assumption) ?_
        try simp only [Act.put, List.getElem_toArray, List.getElem_cons_zero, List.getElem_cons_succ, List.setIfInBounds_toArray, List.set_cons_zero, List.set_cons_succ]
        refine wpAnyH_take (i := 12) (v := undef) rfl (by kernel_rfl) (by kernel_rfl) (by kernel_rfl) (fun _ _ _ h => HPAN.out _ _ _ _ _ h) (Or.inr ⟨by rfl, rfl⟩) (by assumption) ?_
        try simp only [Act.put, List.getElem_toArray, List.getElem_cons_zero, List.getElem_cons_succ, List.setIfInBounds_toArray, List.set_cons_zero, List.set_cons_succ]
        refine wpAnyH_take (i := 13) (v := undef) rfl (by kernel_rfl) (by kernel_rfl) (by kernel_rfl) (fun _ _ _ h => HPAN.out _ _ _ _ _ h) (Or.inr ⟨by rfl, rfl⟩) (by assumption) ?_
        try simp only [Act.put, List.getElem_toArray, List.getElem_cons_zero, List.getElem_cons_succ, List.setIfInBounds_toArray, List.set_cons_zero, List.set_cons_succ]
        refine wpAnyH_take (i := 14) (v := undef) rfl (by kernel_rfl) (by kernel_rfl) (by kernel_rfl) (fun _ _ _ h => HPAN.out _ _ _ _ _ h) (Or.inr ⟨by rfl, rfl⟩) (by assumption) ?_
        try simp only [Act.put, List.getElem_toArray, List.getElem_cons_zero, List.getElem_cons_succ, List.setIfInBounds_toArray, List.set_cons_zero, List.set_cons_succ]
        refine wpAnyH_take (i := 15) (v := undef) rfl (by kernel_rfl) (by kernel_rfl) (by kernel_rfl) (fun _ _ _ h => HPAN.out _ _ _ _ _ h) (Or.inr ⟨by rfl, rfl⟩) (by assumption) ?_
        try simp only [Act.put, List.getElem_toArray, List.getElem_cons_zero, List.getElem_cons_succ, List.setIfInBounds_toArray, List.set_cons_zero, List.set_cons_succ]
        refine wpAnyH_take (i := 16) (v := undef) rfl (by kernel_rfl) (by kernel_rfl) (by kernel_rfl) (fun _ _ _ h => HPAN.out _ _ _ _ _ h) (Or.inr ⟨by rfl, rfl⟩) (by assumption) ?_
        try simp only [Act.put, List.getElem_toArray, List.getElem_cons_zero, List.getElem_cons_succ, List.setIfInBounds_toArray, List.set_cons_zero, List.set_cons_succ]
        refine wpAnyH_take (i := 17) (v := undef) rfl (by kernel_rfl) (by kernel_rfl) (by kernel_rfl) (fun _ _ _ h => HPAN.out _ _ _ _ _ h) (Or.inr ⟨by rfl, rfl⟩) (by assumption) ?_
        try simp only [Act.put, List.getElem_toArray, List.getElem_cons_zero, List.getElem_cons_succ, List.setIfInBounds_toArray, List.set_cons_zero, List.set_cons_succ]
        refine wpAnyH_take (i := 18) (v := undef) rfl (by kernel_rfl) (by kernel_rfl) (by kernel_rfl) (fun _ _ _ h => HPAN.out _ _ _ _ _ h) (Or.inr ⟨by rfl, rfl⟩) (by assumption) ?_
        try simp only [Act.put, List.getElem_toArray, List.getElem_cons_zero, List.getElem_cons_succ, List.setIfInBounds_toArray, List.set_cons_zero, List.set_cons_succ]
        refine wpAnyH_take (i := 19) (v := undef) rfl (by kernel_rfl) (by kernel_rfl) (by kernel_rfl) (fun _ _ _ h => HPAN.out _ _ _ _ _ h) (Or.inr ⟨by rfl, rfl⟩) (by assumption) ?_
        try simp only [Act.put, List.getElem_toArray, List.getElem_cons_zero, List.getElem_cons_succ, List.setIfInBounds_toArray, List.set_cons_zero, List.set_cons_succ]
        refine wpAnyH_take (i := 20) (v := undef) rfl (by kernel_rfl) (by kernel_rfl) (by kernel_rfl) (fun _ _ _ h => HPAN.out _ _ _ _ _ h) (Or.inr ⟨by rfl, rfl⟩) (by assumption) ?_
        try simp only [Act.put, List.getElem_toArray, List.getElem_cons_zero, List.getElem_cons_succ, List.setIfInBounds_toArray, List.set_cons_zero, List.set_cons_succ]
        refine wpAnyH_take (i := 21) (v := undef) rfl (by kernel_rfl) (by kernel_rfl) (by kernel_rfl) (fun _ _ _ h => HPAN.out _ _ _ _ _ h) (Or.inr ⟨by rfl, rfl⟩) (by assumption) ?_
        try simp only [Act.put, List.getElem_toArray, List.getElem_cons_zero, List.getElem_cons_succ, List.setIfInBounds_toArray, List.set_cons_zero, List.set_cons_succ]
        refine wpAnyH_take (i := 22) (v := ?_) rfl (by kernel_rfl) (by kernel_rfl) (by kernel_rfl) (fun _ _ _ h => HPAN.out _ _ _ _ _ h) (Or.inl ⟨by rfl, ?_⟩) (by assumption) ?_
        rotate_left
        · (intro w' hSw; go_simp; try with_reducible rfl)
        try simp only [Act.put, List.getElem_toArray, List.getElem_cons_zero, List.getElem_cons_succ, List.setIfInBounds_toArray, List.set_cons_zero, List.set_cons_succ]
        refine wpAnyH_done (by kernel_rfl) ?_ _
        try simp only [Act.put, List.getElem_toArray, List.getElem_cons_zero, List.getElem_cons_succ, List.setIfInBounds_toArray, List.set_cons_zero, List.set_cons_succ]
        go_wp2
        exact HRET.out _ _ _ _ _ _ _ _ _ _ _ _ _ _ _ _ _ _ _ _ _ _ _ _ _ _ _ _ _ _ _ _ ⟨HE.out, by first | exact HCQ.out.drew | exact HCQ.out.drewN _ | exact HCQ.out⟩
    · obtain rfl : i = SN := by omega
      go_wp2
      exact HEXIT.out _ _ _ _ _ _ _ _ _ _ _ _ _ _ _ _ _ _ _ _ _ _ _ _ _ _ _ _ _ _ _ _ _ _ ⟨by have q := HALL.out; rw [List.take_of_length_le (show ids.length ≤ i by rw [HLEN.out]; exact Nat.le_refl _)] at q; exact q, HCQ.out⟩

def lenJ (ls : List Lk) (g : Lk) : Nat → Nat
  | 0 => 0
  | k + 1 => lenJ ls g k + (idsOf ls g k).length
theorem lenJ_le {ls : List Lk} {g : Lk} {n : Nat} (h : ls.length = n) : ∀ k, lenJ ls g k ≤ k * n
  | 0 => by simp [lenJ]
  | k + 1 => by
    have q := lenJ_le (g := g) h k
    have r := ids_len (ls := ls) (g := g) (k := k)
    rw [lenJ, Nat.succ_mul]; omega
theorem hds_at (g : Lk) (k : Nat) (h : k < 3) : (#[.int .i64 g.sp, .int .i64 g.tp, .int .i64 g.sn] : Array Value)[k]? = some (.int .i64 (hd g k)) := by
  rcases (by omega : k = 0 ∨ k = 1 ∨ k = 2) with rfl | rfl | rfl <;> rfl

set_option maxRecDepth 1000000 in
set_option maxHeartbeats 6400000 in
theorem rd_lp2 {A B : Option Addr} {n c m d gb bb hb held TH : Nat} {ls : List Lk} {ts : List Int} {node : Int} {g : Lk} {VN : Value} (wz : World) (Q0 : Exit → Act → World → Prop)
    (HPAN : Hid (∀ c a d v w, Q0 (.panic c) (Act.put a (some d) v) w → Q0 (.panic c) a w))
    (HR : Hid (∀ wr, Chg [bb] wz wr → Rd wr 7 A n c (lvs ls))) (HO : Hid (∀ wr, Chg [bb] wz wr → Rd wr 1 B m d (iv ts)))
    (HG : Hid (∀ wr, Chg [bb] wz wr → Blk wr gb 58 #[.bool g.live, .int .i64 g.src, .int .i64 g.dst, .int .i64 g.sp, .int .i64 g.tp, .int .i64 g.sn, .int .i64 g.tn]))
    (HH : Hid (∀ wr, Chg [bb] wz wr → Blk wr hb TH #[.int .i64 g.sp, .int .i64 g.tp, .int .i64 g.sn]))
    (HB0 : Hid (Blk wz bb 52 #[.int .i64 g.src, .slice none 0 0, .slice none 0 0, .slice none 0 0]))
    (HDN : Hid (g.dst = node)) (HL : Hid (ls.length = n)) (HMN : Hid (m = n)) (hn : n ≤ 1073741824) (hheld : held ≤ 1073741824 * 3221225472)
    (u2 u4 u5 u6 u7 u8 u9 u10 u11 u13 u15 u20 u21 u22 u23 u24 u25 u26 u27 u28 u29 u30 u31 u32 u33 u34 u35 u36 u37 u38 u39 u40 u41 u42 u43 u44 u45 u46 u47 u48 u49 u50 u51 u52 u53 u54 u55 u56 u57 u58 u59 u60 u61 u62 u63 u64 u65 u66 u67 u68 u69 u70 u71 u72 u73 u74 u75 u76 u77 u78 u79 u80 u81 u82 u83 u84 u85 u86 u87 u88 u89 u90 u91 u92 u93 u94 u95 u96 u97 u98 u99 u100 u101 u102 u103 u104 u105 u106 u107 u108 u109 u110 u111 u112 u113 u114 u115 u116 u117 u118 u119 u120 u121 u122 u123 u124 u125 u126 u127 u128 u129 u130 u131 u132 u133 u134 u135 u136 u137 u138 u139 u140 u141 u142 u143 u144 u145 u146 u147 u148 u149 u150 u151 u152 u153 u154 u155 u156 u157 u158 u159 u160 u161 u162 u163 u164 u165 u166 u167 u168 u169 u170 : Value)
    (HEXIT : Hid (∀ (b : B3) (v10 v11 v19 v20 v21 v22 v83 v84 v85 v86 v87 v88 v89 v90 v91 v92 v93 v94 v95 v96 v97 v98 v99 v100 v101 v102 v103 v104 v105 v106 v107 v108 v109 v110 v111 v112 v113 v114 v115 v116 v117 v118 v119 v120 v121 v122 v123 v124 v125 v126 v127 v128 v129 v130 v131 v132 v133 v134 v135 v136 v137 v138 v139 v140 v141 v142 v143 : Value) (wr : World), oneJ ls ts g 3 = 0 ∧ Blk wr bb 52 #[.int .i64 g.src, b.sl 0, b.sl 1, b.sl 2] ∧ (∀ k, k < 3 → Own wr 3 1 (b.A k) (b.n k) (b.c k) (iv (idsOf ls g k)) ∧ ∀ x ∈ bo (b.A k), bb < x) ∧ Chg [bb] wz wr → Q0 (.exit 2) ⟨(List.toArray (.slice A n c :: .slice B m d :: u2 :: .int .i64 node :: u4 :: u5 :: u6 :: u7 :: u8 :: u9 :: v10 :: v11 :: VN :: u13 :: .int .i64 ((held + lenJ ls g 3 : Nat) : Int) :: u15 :: .pointer (some ⟨gb, 0, none⟩) :: .pointer (some ⟨bb, 0, none⟩) :: .pointer (some ⟨hb, 0, none⟩) :: v19 :: v20 :: v21 :: v22 :: u23 :: u24 :: u25 :: u26 :: u27 :: u28 :: u29 :: u30 :: u31 :: u32 :: u33 :: u34 :: u35 :: u36 :: u37 :: u38 :: u39 :: u40 :: u41 :: u42 :: u43 :: u44 :: u45 :: u46 :: u47 :: u48 :: u49 :: u50 :: u51 :: u52 :: u53 :: u54 :: u55 :: u56 :: u57 :: u58 :: u59 :: u60 :: u61 :: u62 :: u63 :: u64 :: u65 :: u66 :: u67 :: u68 :: u69 :: u70 :: u71 :: u72 :: u73 :: u74 :: u75 :: u76 :: u77 :: u78 :: u79 :: u80 :: u81 :: u82 :: v83 :: v84 :: v85 :: v86 :: v87 :: v88 :: v89 :: v90 :: v91 :: v92 :: v93 :: v94 :: v95 :: v96 :: v97 :: v98 :: v99 :: v100 :: v101 :: v102 :: v103 :: v104 :: v105 :: v106 :: v107 :: v108 :: v109 :: v110 :: v111 :: v112 :: v113 :: v114 :: v115 :: v116 :: v117 :: v118 :: v119 :: v120 :: v121 :: v122 :: v123 :: v124 :: v125 :: v126 :: v127 :: v128 :: v129 :: v130 :: v131 :: v132 :: v133 :: v134 :: v135 :: v136 :: v137 :: v138 :: v139 :: v140 :: v141 :: v142 :: v143 :: u144 :: u145 :: u146 :: u147 :: u148 :: u149 :: u150 :: u151 :: u152 :: u153 :: u154 :: u155 :: u156 :: u157 :: u158 :: u159 :: u160 :: u161 :: u162 :: u163 :: u164 :: u165 :: u166 :: u167 :: u168 :: u169 :: u170 :: [])), []⟩ wr))
    (HRET : Hid (∀ (E : Int) (v14 v19 v20 v21 v22 v83 v84 v85 v86 v87 v88 v89 v90 v91 v92 v93 v94 v95 v96 v97 v98 v99 v100 v101 v102 v103 v104 v105 v106 v107 v108 v109 v110 v111 v112 v113 v114 v115 v116 v117 v118 v119 v120 v121 v122 v123 v124 v125 v126 v127 v128 v129 v130 v131 v132 v133 v134 v135 v136 v137 v138 v139 v140 v141 v142 v143 : Value) (wr : World), oneE ls ts g = E ∧ E ≠ 0 ∧ Chg [bb] wz wr → Q0 .ret ⟨(List.toArray (.slice A n c :: .slice B m d :: u2 :: .int .i64 node :: u4 :: u5 :: u6 :: u7 :: u8 :: u9 :: VN :: .int .i64 E :: VN :: u13 :: v14 :: u15 :: .pointer (some ⟨gb, 0, none⟩) :: .pointer (some ⟨bb, 0, none⟩) :: .pointer (some ⟨hb, 0, none⟩) :: v19 :: v20 :: v21 :: v22 :: u23 :: u24 :: u25 :: u26 :: u27 :: u28 :: u29 :: u30 :: u31 :: u32 :: u33 :: u34 :: u35 :: u36 :: u37 :: u38 :: u39 :: u40 :: u41 :: u42 :: u43 :: u44 :: u45 :: u46 :: u47 :: u48 :: u49 :: u50 :: u51 :: u52 :: u53 :: u54 :: u55 :: u56 :: u57 :: u58 :: u59 :: u60 :: u61 :: u62 :: u63 :: u64 :: u65 :: u66 :: u67 :: u68 :: u69 :: u70 :: u71 :: u72 :: u73 :: u74 :: u75 :: u76 :: u77 :: u78 :: u79 :: u80 :: u81 :: u82 :: v83 :: v84 :: v85 :: v86 :: v87 :: v88 :: v89 :: v90 :: v91 :: v92 :: v93 :: v94 :: v95 :: v96 :: v97 :: v98 :: v99 :: v100 :: v101 :: v102 :: v103 :: v104 :: v105 :: v106 :: v107 :: v108 :: v109 :: v110 :: v111 :: v112 :: v113 :: v114 :: v115 :: v116 :: v117 :: v118 :: v119 :: v120 :: v121 :: v122 :: v123 :: v124 :: v125 :: v126 :: v127 :: v128 :: v129 :: v130 :: v131 :: v132 :: v133 :: v134 :: v135 :: v136 :: v137 :: v138 :: v139 :: v140 :: v141 :: v142 :: v143 :: u144 :: u145 :: u146 :: u147 :: u148 :: u149 :: u150 :: u151 :: u152 :: u153 :: u154 :: u155 :: u156 :: u157 :: u158 :: u159 :: u160 :: u161 :: u162 :: u163 :: u164 :: u165 :: u166 :: u167 :: u168 :: u169 :: u170 :: [])), []⟩ wr)) :
    Code.wp Try.prog (.loop rdLoop2) Q0 ⟨(List.toArray (.slice A n c :: .slice B m d :: u2 :: .int .i64 node :: u4 :: u5 :: u6 :: u7 :: u8 :: u9 :: u10 :: u11 :: VN :: u13 :: .int .i64 (held : Int) :: u15 :: .pointer (some ⟨gb, 0, none⟩) :: .pointer (some ⟨bb, 0, none⟩) :: .pointer (some ⟨hb, 0, none⟩) :: .int .i64 0 :: u20 :: u21 :: u22 :: u23 :: u24 :: u25 :: u26 :: u27 :: u28 :: u29 :: u30 :: u31 :: u32 :: u33 :: u34 :: u35 :: u36 :: u37 :: u38 :: u39 :: u40 :: u41 :: u42 :: u43 :: u44 :: u45 :: u46 :: u47 :: u48 :: u49 :: u50 :: u51 :: u52 :: u53 :: u54 :: u55 :: u56 :: u57 :: u58 :: u59 :: u60 :: u61 :: u62 :: u63 :: u64 :: u65 :: u66 :: u67 :: u68 :: u69 :: u70 :: u71 :: u72 :: u73 :: u74 :: u75 :: u76 :: u77 :: u78 :: u79 :: u80 :: u81 :: u82 :: u83 :: u84 :: u85 :: u86 :: u87 :: u88 :: u89 :: u90 :: u91 :: u92 :: u93 :: u94 :: u95 :: u96 :: u97 :: u98 :: u99 :: u100 :: u101 :: u102 :: u103 :: u104 :: u105 :: u106 :: u107 :: u108 :: u109 :: u110 :: u111 :: u112 :: u113 :: u114 :: u115 :: u116 :: u117 :: u118 :: u119 :: u120 :: u121 :: u122 :: u123 :: u124 :: u125 :: u126 :: u127 :: u128 :: u129 :: u130 :: u131 :: u132 :: u133 :: u134 :: u135 :: u136 :: u137 :: u138 :: u139 :: u140 :: u141 :: u142 :: u143 :: u144 :: u145 :: u146 :: u147 :: u148 :: u149 :: u150 :: u151 :: u152 :: u153 :: u154 :: u155 :: u156 :: u157 :: u158 :: u159 :: u160 :: u161 :: u162 :: u163 :: u164 :: u165 :: u166 :: u167 :: u168 :: u169 :: u170 :: [])), []⟩ wz := by
  conv => arg 2; arg 1; whnf
  go_loopw [19, 14] (fun q h wr => ∃ (k : Nat) (b : B3), k ≤ 3 ∧ q = .int .i64 k ∧ h = .int .i64 ((held + lenJ ls g k : Nat) : Int) ∧ oneJ ls ts g k = 0 ∧ Blk wr bb 52 #[.int .i64 g.src, b.sl 0, b.sl 1, b.sl 2] ∧
    (∀ k', k' < k → Own wr 3 1 (b.A k') (b.n k') (b.c k') (iv (idsOf ls g k')) ∧ ∀ x ∈ bo (b.A k'), bb < x) ∧ Chg [bb] wz wr) (fun q _ _ => 3 - (intOf q).toNat)
  case atStart => exact ⟨0, B3.nil, by omega, rfl, rfl, rfl, HB0.out, fun k hk => absurd hk (Nat.not_lt_zero _), Chg.refl _ _⟩
  case round =>
    obtain ⟨k, b, hk3, rfl, rfl, hone, hbb, hown, hch⟩ := hrel
    have HONE := Lib.hid hone
    have HBB := Lib.hid hbb
    have HOWN := Lib.hid hown
    have HCH := Lib.hid hch
    clear hone hbb hown hch
    by_cases hk : k < 3
    · have hk' : (k : Int) < 3 := by omega
      have hh := (HH.out wr HCH.out).cell k
      rw [hds_at g k hk] at hh
      go_wp2_with fail
      refine (gwalk_any A n c ls node (hd g k) _ (HR.out wr HCH.out) hn).mono ?_
      rintro e w2 ⟨A2, N2, c2, E2, rfl, hE2, ho2, hN2, hc2, hn2⟩
      have hW : walk ls g.dst (hd g k) = walk ls node (hd g k) := by rw [HDN.out]
      have HO2 := Lib.hid ho2
      have HC2 := Lib.hid hc2
      have HNW2 := Lib.hid hn2
      have HN2 := Lib.hid hN2
      have HE2 := Lib.hid hE2
      have HW := Lib.hid hW
      clear ho2 hc2 hn2 hN2 hE2 hh hW
      by_cases hE : E2 = 0
      · subst hE
        have HSND : Hid ((walk ls node (hd g k)).2 = 0) := Lib.hid HE2.out.symm
        have hgood := (walk_sound (ls := ls) (node := node) (head := hd g k)).1 HSND.out |>.1
        have hN2n : N2 ≤ n := by rw [HN2.out, ← HL.out]; exact hgood.len
        have HGOOD := Lib.hid hgood
        have HIDS : Hid (idsOf ls g k = (walk ls node (hd g k)).1) := Lib.hid (by unfold idsOf; rw [HW.out])
        have HX2 : Hid (Chg [bb] wz w2) := Lib.hid (HCH.out.trans0 HC2.out)
        clear hgood
        go_wp2
        refine rd_lp3 (g := g) (ls := ls) (ts := ts) (ids := (walk ls node (hd g k)).1) (node := node) (k := k) (gb := gb) w2 _ (Lib.hid (by intro c a d v w h; exact HPAN.out c a d v w h)) (Lib.hid fun wr h => HR.out wr (HX2.out.trans0 h)) (Lib.hid fun wr h => HO.out wr (HX2.out.trans0 h)) (Lib.hid fun wr h => (HO2.out.chg h (fun _ _ => List.not_mem_nil)).rd) (Lib.hid fun wr h => HG.out wr (HX2.out.trans0 h)) HGOOD (Lib.hid HN2.out.symm) HL HMN hn hN2n _ _ _ _ _ _ _ _ _ _ _ _ _ _ _ _ _ _ _ _ _ _ _ _ _ _ _ _ _ _ _ _ _ _ _ _ _ _ _ _ _ _ _ _ _ _ _ _ _ _ _ _ _ _ _ _ _ _ _ _ _ _ _ _ _ _ _ _ _ _ _ _ _ _ _ _ _ _ _ _ _ _ _ _ _ _ _ _ _ _ _ _ _ _ _ _ _ _ _ _ _ _ _ _ _ _ _ _ _ _ _ _ _ _ _ _ _ _ _ _ _ _ _ _ _ _ _ _ _ _ _ _ _ _ _ _ _ _ _ _ _ _ _ _ _ _ _ _ _ _ _ _ _ _ _ _ _ _ _ _ _ _ _ ?_ ?_
        · refine Lib.hid ?_
          rintro v10 v11 v22 v100 v101 v102 v103 v104 v105 v106 v107 v108 v109 v110 v111 v112 v113 v114 v115 v116 v117 v118 v119 v120 v121 v122 v123 v124 v125 v126 v127 v128 v129 wr3 ⟨hall, hc3⟩
          have HC3 := Lib.hid hc3
          have HONE2 : Hid (oneJ ls ts g (k + 1) = 0) := Lib.hid (by rw [oneJ, if_neg (by rw [HONE.out]; simp)]; unfold wayE; rw [HW.out, if_neg (by rw [HSND.out]; simp)]; unfold idsE; rw [HDN.out]; exact if_pos hall)
          have HBB3 := Lib.hid ((HBB.out.chg HC2.out (fun h => List.not_mem_nil h)).chg hc3 (fun h => List.not_mem_nil h))
          have HFAR : Hid (∀ x ∈ bo A2, bb < x) := Lib.hid (fun x hx => Nat.lt_of_lt_of_le HBB.out.lt (HNW2.out x hx))
          have hwt : IntKind.i64.wrap (((held + lenJ ls g k : Nat) : Int) + (N2 : Int)) = ((held + lenJ ls g (k + 1) : Nat) : Int) := by
            rw [lenJ, HIDS.out, ← HN2.out, IntKind.wrap_i64]
            have := Nat.le_trans (lenJ_le (ls := ls) (g := g) (n := n) HL.out k) (Nat.mul_le_mul_right n hk3)
            omega
          have HOI : Hid (Own w2 3 1 A2 N2 c2 (iv (idsOf ls g k))) := Lib.hid (by rw [HIDS.out]; exact HO2.out)
          clear HO2
          have HO2 := HOI
          clear hall hc3
          rcases (by omega : k = 0 ∨ k = 1 ∨ k = 2) with rfl | rfl | rfl
          · have hbq := HBB3.out
            have bj := hbq.cell (0 + 1)
            have fj := hbq.frozen (0 + 1)
            simp at bj fj
            clear hbq
            go_wp2
            go_roundw
            case rel =>
              have hs : Chg [bb] wr3 (wr3.setCell ⟨bb, 1, none⟩ (.slice A2 N2 c2)) := (Chg.refl _ _).setCell (.inl (by simp)) _
              refine ⟨1, b.set 0 A2 N2 c2, by decide, by go_num, congrArg (Value.int .i64) (by have q := hwt; simp only [Int.natCast_add] at q ⊢; rw [IntKind.wrap_i64] at q; unfold wrap64; exact q), HONE2.out, ?_, fun k hk => ?_, ?_⟩
              · have q := HBB3.out.set_ 1 (.slice A2 N2 c2)
                exact q
              · by_cases hkj : k = 0
                · subst hkj
                  simp only [B3.set, if_pos]
                  exact ⟨(HO2.out.chg HC3.out (fun _ _ => List.not_mem_nil)).chg hs (fun x hx hm => Nat.ne_of_gt (HFAR.out x hx) (by simpa using hm)), HFAR.out⟩
                · simp only [B3.set, if_neg hkj]
                  obtain ⟨h1, h2⟩ := HOWN.out k (by omega)
                  exact ⟨((h1.chg HC2.out (fun _ _ => List.not_mem_nil)).chg HC3.out (fun _ _ => List.not_mem_nil)).chg hs (fun x hx hm => Nat.ne_of_gt (h2 x hx) (by simpa using hm)), h2⟩
              · exact ((HCH.out.trans0 HC2.out).trans0 HC3.out).setCell (.inl (by simp)) _
            case measure => simp [intOf]
          · have hbq := HBB3.out
            have bj := hbq.cell (1 + 1)
            have fj := hbq.frozen (1 + 1)
            simp at bj fj
            clear hbq
            go_wp2
            go_roundw
            case rel =>
              have hs : Chg [bb] wr3 (wr3.setCell ⟨bb, 2, none⟩ (.slice A2 N2 c2)) := (Chg.refl _ _).setCell (.inl (by simp)) _
              refine ⟨2, b.set 1 A2 N2 c2, by decide, by go_num, congrArg (Value.int .i64) (by have q := hwt; simp only [Int.natCast_add] at q ⊢; rw [IntKind.wrap_i64] at q; unfold wrap64; exact q), HONE2.out, ?_, fun k hk => ?_, ?_⟩
              · have q := HBB3.out.set_ 2 (.slice A2 N2 c2)
                exact q
              · by_cases hkj : k = 1
                · subst hkj
                  simp only [B3.set, if_pos]
                  exact ⟨(HO2.out.chg HC3.out (fun _ _ => List.not_mem_nil)).chg hs (fun x hx hm => Nat.ne_of_gt (HFAR.out x hx) (by simpa using hm)), HFAR.out⟩
                · simp only [B3.set, if_neg hkj]
                  obtain ⟨h1, h2⟩ := HOWN.out k (by omega)
                  exact ⟨((h1.chg HC2.out (fun _ _ => List.not_mem_nil)).chg HC3.out (fun _ _ => List.not_mem_nil)).chg hs (fun x hx hm => Nat.ne_of_gt (h2 x hx) (by simpa using hm)), h2⟩
              · exact ((HCH.out.trans0 HC2.out).trans0 HC3.out).setCell (.inl (by simp)) _
            case measure => simp [intOf]
          · have hbq := HBB3.out
            have bj := hbq.cell (2 + 1)
            have fj := hbq.frozen (2 + 1)
            simp at bj fj
            clear hbq
            go_wp2
            go_roundw
            case rel =>
              have hs : Chg [bb] wr3 (wr3.setCell ⟨bb, 3, none⟩ (.slice A2 N2 c2)) := (Chg.refl _ _).setCell (.inl (by simp)) _
              refine ⟨3, b.set 2 A2 N2 c2, by decide, by go_num, congrArg (Value.int .i64) (by have q := hwt; simp only [Int.natCast_add] at q ⊢; rw [IntKind.wrap_i64] at q; unfold wrap64; exact q), HONE2.out, ?_, fun k hk => ?_, ?_⟩
              · have q := HBB3.out.set_ 3 (.slice A2 N2 c2)
                exact q
              · by_cases hkj : k = 2
                · subst hkj
                  simp only [B3.set, if_pos]
                  exact ⟨(HO2.out.chg HC3.out (fun _ _ => List.not_mem_nil)).chg hs (fun x hx hm => Nat.ne_of_gt (HFAR.out x hx) (by simpa using hm)), HFAR.out⟩
                · simp only [B3.set, if_neg hkj]
                  obtain ⟨h1, h2⟩ := HOWN.out k (by omega)
                  exact ⟨((h1.chg HC2.out (fun _ _ => List.not_mem_nil)).chg HC3.out (fun _ _ => List.not_mem_nil)).chg hs (fun x hx hm => Nat.ne_of_gt (h2 x hx) (by simpa using hm)), h2⟩
              · exact ((HCH.out.trans0 HC2.out).trans0 HC3.out).setCell (.inl (by simp)) _
            case measure => simp [intOf]
        · refine Lib.hid ?_
          rintro v22 v100 v101 v102 v103 v104 v105 v106 v107 v108 v109 v110 v111 v112 v113 v114 v115 v116 v117 v118 v119 v120 v121 v122 v123 v124 v125 v126 v127 v128 v129 wr3 ⟨he, hc3⟩
          have HE : Hid (oneE ls ts g = 170) := Lib.hid (oneE_bad (j := k + 1) (by omega) (by rw [oneJ, if_neg (by rw [HONE.out]; simp)]; unfold wayE; rw [HW.out, if_neg (by rw [HSND.out]; simp)]; rw [HDN.out]; exact he) (by decide))
          have HC3 := Lib.hid hc3
          clear he hc3
          go_wp2
          exact HRET.out 170 _ _ _ _ _ _ _ _ _ _ _ _ _ _ _ _ _ _ _ _ _ _ _ _ _ _ _ _ _ _ _ _ _ _ _ _ _ _ _ _ _ _ _ _ _ _ _ _ _ _ _ _ _ _ _ _ _ _ _ _ _ _ _ _ _ _ _ ⟨HE.out, by decide, HX2.out.trans0 HC3.out⟩
      · have hEb : (E2 != 0) = true := by simp [hE]
        have HE : Hid (oneE ls ts g = E2) := Lib.hid (oneE_bad (j := k + 1) (by omega) (by rw [oneJ, if_neg (by rw [HONE.out]; simp)]; unfold wayE; rw [HW.out, if_pos (by rw [← HE2.out]; exact hE)]; exact HE2.out.symm) hE)
        have HNE := Lib.hid hE
        clear hE
        go_wp2
        exact HRET.out E2 _ _ _ _ _ _ _ _ _ _ _ _ _ _ _ _ _ _ _ _ _ _ _ _ _ _ _ _ _ _ _ _ _ _ _ _ _ _ _ _ _ _ _ _ _ _ _ _ _ _ _ _ _ _ _ _ _ _ _ _ _ _ _ _ _ _ _ ⟨HE.out, HNE.out, HCH.out.trans0 HC2.out⟩
    · obtain rfl : k = 3 := by omega
      go_wp2
      exact HEXIT.out b _ _ _ _ _ _ _ _ _ _ _ _ _ _ _ _ _ _ _ _ _ _ _ _ _ _ _ _ _ _ _ _ _ _ _ _ _ _ _ _ _ _ _ _ _ _ _ _ _ _ _ _ _ _ _ _ _ _ _ _ _ _ _ _ _ _ _ _ ⟨HONE.out, HBB.out, HOWN.out, HCH.out⟩
end Go.Proofs.Ytelmnmepdmfihaa
