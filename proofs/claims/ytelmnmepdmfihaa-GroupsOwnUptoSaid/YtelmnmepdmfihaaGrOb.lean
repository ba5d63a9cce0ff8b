/-
  Layer 17: GroupsOwn's loops over the gathered bunches, as theorems of their own.
-/
import Derived.Test.YtelmnmepdmfihaaGrOa
import Derived.Test.YtelmnmepdmfihaaGrRa
namespace Go.Proofs.Ytelmnmepdmfihaa
open Go.RowKit

def loopsOf : Code → List Code
  | .loop c => [c]
  | .seq a b => loopsOf a ++ loopsOf b
  | .block _ c => loopsOf c
  | .scope c => loopsOf c
  | .cond _ a b => loopsOf a ++ loopsOf b
  | _ => []
noncomputable def ownLoop (k : Nat) : Code := ((Try.f9.body.map loopsOf).getD [])[k]?.getD .skip

def M9 (vs : Nat → Nat → List Value) (j : Nat) : Prop := ∀ x ∈ vs j 0, x = .int .i64 (-9)

section
variable {La : List Nat} {w0 w : World} {A : Option Addr} {n c : Nat} {rs : List (Int × B3)} {vs : Nat → Nat → List Value}
theorem AO.form (h : AO La w0 w A n c rs vs) {i : Nat} (hi : i < n) : ∃ g, A = some ⟨g, 0, none⟩ := by
  rcases h.own.form with ⟨_, h0, _⟩ | ⟨g, cur, hA, _⟩
  · omega
  · exact ⟨g, hA⟩
theorem AO.cells {g : Nat} (h : AO La w0 w (some ⟨g, 0, none⟩) n c rs vs) {i : Nat} {p : Int × B3} (hp : rs[i]? = some p) : w.cell? ⟨g, i * 4 + 1, none⟩ = some (p.2.sl 0) ∧ w.cell? ⟨g, i * 4 + 2, none⟩ = some (p.2.sl 1) ∧ w.cell? ⟨g, i * 4 + 3, none⟩ = some (p.2.sl 2) := by
  obtain ⟨ad, ha, _, hk⟩ := h.own.rd.bn hp
  injection ha with ha
  subst ha
  have h0 := hk 0 (by decide)
  have h1 := hk 1 (by decide)
  have h2 := hk 2 (by decide)
  simp only [add_zero', Nat.zero_add] at h0 h1 h2
  exact ⟨h0, h1, h2⟩
theorem AO.cell_chg {g : Nat} (h : AO La w0 w (some ⟨g, 0, none⟩) n c rs vs) {i : Nat} {p : Int × B3} (hp : rs[i]? = some p) {k : Nat} (hk : k < 3) {w' : World} (hc : Chg (bo (p.2.A k)) w w') : w'.cell? ⟨g, i * 4 + (k + 1), none⟩ = some (p.2.sl k) := by
  obtain ⟨h0, h1, h2⟩ := h.cells hp
  have hn : g ∉ bo (p.2.A k) := h.own.own_ne (h.row i p hp k hk) (by decide) g (by simp [bo])
  rcases (by omega : k = 0 ∨ k = 1 ∨ k = 2) with rfl | rfl | rfl
  · exact hc.cell h0 hn
  · exact hc.cell h1 hn
  · exact hc.cell h2 hn
end
theorem Own.fz' {w w' : World} {e : TypeId} {sz g n c : Nat} {xs : List Value} {L : List Nat} (h : Own w e sz (some ⟨g, 0, none⟩) n c xs) (hc : Chg L w w') (hn : ∀ k ∈ bo (some (⟨g, 0, none⟩ : Addr)), k ∉ L) (q : Nat) : w'.frozen? ⟨g, q, none⟩ = false := (h.chg hc hn).fzq q
theorem set_at (rs : List (Int × B3)) {i : Nat} {p : Int × B3} (hp : rs[i]? = some p) (k : Nat) (A : Option Addr) (n c : Nat) : (rs.set i (p.1, p.2.set k A n c))[i]? = some (p.1, p.2.set k A n c) := List.getElem?_set_self (List.getElem?_eq_some_iff.1 hp).1

set_option maxRecDepth 1000000 in
set_option maxHeartbeats 6400000 in
theorem own_lp1 {La : List Nat} {w0 : World} {A : Option Addr} {Ln c : Nat} {rs : List (Int × B3)} {vs0 : Nat → Nat → List Value} (wz : World) (Q0 : Exit → Act → World → Prop)
    (HPAN : Hid (∀ c a d v w, Q0 (.panic c) (Act.put a (some d) v) w → Q0 (.panic c) a w))
    (HAZ : Hid (AO La w0 wz A Ln c rs vs0)) (HSM : Hid (∀ (i : Nat) (p : Int × B3), rs[i]? = some p → ∀ k, k < 3 → p.2.n k ≤ 1073741824)) (hLn : Ln ≤ 1073741824)
    (u0 u1 u2 u3 u4 u5 u7 u8 u9 u10 u11 u12 u13 u14 u15 u16 u17 u18 u19 u20 u21 u22 u23 u24 u25 u26 u27 u28 u29 u30 u31 u32 u33 u34 u35 u36 u37 u38 u39 u40 u41 u42 u45 u46 u47 u48 u49 u50 u51 u52 u53 u54 u55 u56 u57 u58 u59 u60 u61 u62 u63 u64 u65 u66 u67 u68 u69 u70 u71 u72 u73 u74 u75 u76 u77 u78 u79 u80 u81 u82 u83 u84 u85 u86 u87 u88 u89 u90 u91 u92 u93 u94 u95 u96 u97 u98 u99 u100 u101 u102 u103 u104 u105 u106 u107 u108 u109 u110 u111 u112 u113 u114 u115 u116 u117 u118 u119 u120 u121 u122 u123 u124 u125 u126 u127 u128 u129 u130 u131 u132 u133 u134 u135 u136 u137 u138 u139 u140 u141 u142 u143 u144 u145 u146 u147 u148 u149 u150 u151 u152 u153 u154 u155 u156 u157 u158 u159 u160 u161 u162 u163 u164 u165 u166 u167 u168 u169 u170 u171 u172 u173 u174 u175 u176 u177 u178 u179 u180 u181 u182 u183 u184 u185 u186 u187 u188 u189 u190 u191 u192 u193 u194 u195 u196 u197 u198 u199 u200 u201 u202 u203 u204 u205 u206 u207 u208 u209 u210 u211 u212 u213 u214 u215 : Value)
    (HEXIT : Hid (∀ (rs' : List (Int × B3)) (vs' : Nat → Nat → List Value) (v8 v10 v11 v44 v45 v46 v47 v48 v49 v50 v51 v52 v53 v54 v55 v56 v57 v58 v59 v60 v61 v62 v63 v64 v65 v66 v67 v68 v69 v70 v71 v72 v73 v74 v75 v76 v77 v78 v79 v80 v81 v82 v83 v84 v85 v86 v87 v88 v89 v90 v91 v92 v93 v94 v95 v96 v97 v98 v99 v100 v101 v102 v103 v104 v105 v106 v107 v108 v109 v110 v111 : Value) (wr : World), AO La w0 wr A Ln c rs' vs' ∧ (∀ j, j < Ln → M9 vs' j) → Q0 (.exit 0) ⟨(List.toArray (u0 :: u1 :: u2 :: u3 :: u4 :: u5 :: .slice A Ln c :: u7 :: v8 :: u9 :: v10 :: v11 :: u12 :: u13 :: u14 :: u15 :: u16 :: u17 :: u18 :: u19 :: u20 :: u21 :: u22 :: u23 :: u24 :: u25 :: u26 :: u27 :: u28 :: u29 :: u30 :: u31 :: u32 :: u33 :: u34 :: u35 :: u36 :: u37 :: u38 :: u39 :: u40 :: u41 :: u42 :: .int .i64 (Ln : Int) :: v44 :: v45 :: v46 :: v47 :: v48 :: v49 :: v50 :: v51 :: v52 :: v53 :: v54 :: v55 :: v56 :: v57 :: v58 :: v59 :: v60 :: v61 :: v62 :: v63 :: v64 :: v65 :: v66 :: v67 :: v68 :: v69 :: v70 :: v71 :: v72 :: v73 :: v74 :: v75 :: v76 :: v77 :: v78 :: v79 :: v80 :: v81 :: v82 :: v83 :: v84 :: v85 :: v86 :: v87 :: v88 :: v89 :: v90 :: v91 :: v92 :: v93 :: v94 :: v95 :: v96 :: v97 :: v98 :: v99 :: v100 :: v101 :: v102 :: v103 :: v104 :: v105 :: v106 :: v107 :: v108 :: v109 :: v110 :: v111 :: u112 :: u113 :: u114 :: u115 :: u116 :: u117 :: u118 :: u119 :: u120 :: u121 :: u122 :: u123 :: u124 :: u125 :: u126 :: u127 :: u128 :: u129 :: u130 :: u131 :: u132 :: u133 :: u134 :: u135 :: u136 :: u137 :: u138 :: u139 :: u140 :: u141 :: u142 :: u143 :: u144 :: u145 :: u146 :: u147 :: u148 :: u149 :: u150 :: u151 :: u152 :: u153 :: u154 :: u155 :: u156 :: u157 :: u158 :: u159 :: u160 :: u161 :: u162 :: u163 :: u164 :: u165 :: u166 :: u167 :: u168 :: u169 :: u170 :: u171 :: u172 :: u173 :: u174 :: u175 :: u176 :: u177 :: u178 :: u179 :: u180 :: u181 :: u182 :: u183 :: u184 :: u185 :: u186 :: u187 :: u188 :: u189 :: u190 :: u191 :: u192 :: u193 :: u194 :: u195 :: u196 :: u197 :: u198 :: u199 :: u200 :: u201 :: u202 :: u203 :: u204 :: u205 :: u206 :: u207 :: u208 :: u209 :: u210 :: u211 :: u212 :: u213 :: u214 :: u215 :: [])), []⟩ wr)) :
    Code.wp Try.prog (.loop (ownLoop 0)) Q0 ⟨(List.toArray (u0 :: u1 :: u2 :: u3 :: u4 :: u5 :: .slice A Ln c :: u7 :: u8 :: u9 :: u10 :: u11 :: u12 :: u13 :: u14 :: u15 :: u16 :: u17 :: u18 :: u19 :: u20 :: u21 :: u22 :: u23 :: u24 :: u25 :: u26 :: u27 :: u28 :: u29 :: u30 :: u31 :: u32 :: u33 :: u34 :: u35 :: u36 :: u37 :: u38 :: u39 :: u40 :: u41 :: u42 :: .int .i64 (Ln : Int) :: .int .i64 0 :: u45 :: u46 :: u47 :: u48 :: u49 :: u50 :: u51 :: u52 :: u53 :: u54 :: u55 :: u56 :: u57 :: u58 :: u59 :: u60 :: u61 :: u62 :: u63 :: u64 :: u65 :: u66 :: u67 :: u68 :: u69 :: u70 :: u71 :: u72 :: u73 :: u74 :: u75 :: u76 :: u77 :: u78 :: u79 :: u80 :: u81 :: u82 :: u83 :: u84 :: u85 :: u86 :: u87 :: u88 :: u89 :: u90 :: u91 :: u92 :: u93 :: u94 :: u95 :: u96 :: u97 :: u98 :: u99 :: u100 :: u101 :: u102 :: u103 :: u104 :: u105 :: u106 :: u107 :: u108 :: u109 :: u110 :: u111 :: u112 :: u113 :: u114 :: u115 :: u116 :: u117 :: u118 :: u119 :: u120 :: u121 :: u122 :: u123 :: u124 :: u125 :: u126 :: u127 :: u128 :: u129 :: u130 :: u131 :: u132 :: u133 :: u134 :: u135 :: u136 :: u137 :: u138 :: u139 :: u140 :: u141 :: u142 :: u143 :: u144 :: u145 :: u146 :: u147 :: u148 :: u149 :: u150 :: u151 :: u152 :: u153 :: u154 :: u155 :: u156 :: u157 :: u158 :: u159 :: u160 :: u161 :: u162 :: u163 :: u164 :: u165 :: u166 :: u167 :: u168 :: u169 :: u170 :: u171 :: u172 :: u173 :: u174 :: u175 :: u176 :: u177 :: u178 :: u179 :: u180 :: u181 :: u182 :: u183 :: u184 :: u185 :: u186 :: u187 :: u188 :: u189 :: u190 :: u191 :: u192 :: u193 :: u194 :: u195 :: u196 :: u197 :: u198 :: u199 :: u200 :: u201 :: u202 :: u203 :: u204 :: u205 :: u206 :: u207 :: u208 :: u209 :: u210 :: u211 :: u212 :: u213 :: u214 :: u215 :: [])), []⟩ wz := by
  conv => arg 2; arg 1; whnf
  go_loopw [44] (fun q wr => ∃ (i : Nat) (rs' : List (Int × B3)) (vs' : Nat → Nat → List Value), i ≤ Ln ∧ q = .int .i64 i ∧ AO La w0 wr A Ln c rs' vs' ∧ (∀ j, j < i → M9 vs' j) ∧ (∀ j, i ≤ j → rs'[j]? = rs[j]?)) (fun q _ => Ln - (intOf q).toNat)
  case atStart => exact ⟨0, rs, vs0, Nat.zero_le _, rfl, HAZ.out, fun j h => absurd h (Nat.not_lt_zero _), fun _ _ => rfl⟩
  case round =>
    obtain ⟨i, rs2, vs, hi, rfl, hao, h9, hrs⟩ := hrel
    have HAO := Lib.hid hao
    have H9 := Lib.hid h9
    have HRS := Lib.hid hrs
    clear hao h9 hrs
    by_cases hlt : i < Ln
    · have hlt' : (i : Int) < Ln := by omega
      obtain ⟨p, hp⟩ : ∃ p, rs2[i]? = some p := ⟨_, List.getElem?_eq_getElem (by rw [HAO.out.len]; exact hlt)⟩
      have HP := Lib.hid hp
      have hsm : ∀ k, k < 3 → p.2.n k ≤ 1073741824 := fun k hk => HSM.out i p (by rw [← HRS.out i (Nat.le_refl _)]; exact hp) k hk
      have s0 := hsm 0 (by decide)
      have s1 := hsm 1 (by decide)
      have s2 := hsm 2 (by decide)
      have HSP := Lib.hid hsm
      obtain ⟨g, rfl⟩ := HAO.out.form hlt
      obtain ⟨y1, y2, y3⟩ := HAO.out.cells hp
      simp only [B3.sl] at y1 y2 y3
      clear hp hsm
      go_wp2_with fail
      refine wp_region_held_drew (S := fun w' => Chg [] wr w') (by kernel_rfl) ((Chg.refl _ _).drew) (fun hHeld => ?_)
      refine wpAnyH_take (i := 0) (v := ?_) rfl (by kernel_rfl) (by kernel_rfl) (by kernel_rfl) (fun _ _ _ h => HPAN.out _ _ _ _ _ h) (Or.inl ⟨by rfl, ?_⟩) (by assumption) ?_
      rotate_left
      · (intro w' hSw; go_simp; try with_reducible rfl)
      try simp only [Act.put, List.getElem_toArray, List.getElem_cons_zero, List.setIfInBounds_toArray, List.set_cons_zero, List.set_cons_succ]
      refine wpAnyH_take (i := 1) (v := ?_) rfl (by kernel_rfl) (by kernel_rfl) (by kernel_rfl) (fun _ _ _ h => HPAN.out _ _ _ _ _ h) (Or.inl ⟨by rfl, ?_⟩) (by assumption) ?_
      rotate_left
      · (intro w' hSw; go_simp; try with_reducible rfl)
      try simp only [Act.put, List.getElem_toArray, List.getElem_cons_zero, List.getElem_cons_succ, List.setIfInBounds_toArray, List.set_cons_zero, List.set_cons_succ]
      refine wpAnyH_take (i := 2) (v := ?_) rfl (by kernel_rfl) (by kernel_rfl) (by kernel_rfl) (fun _ _ _ h => HPAN.out _ _ _ _ _ h) (Or.inl ⟨by rfl, ?_⟩) (by assumption) ?_
      rotate_left
      · (intro w' hSw; go_simp; try with_reducible rfl)
      try simp only [Act.put, List.getElem_toArray, List.getElem_cons_zero, List.getElem_cons_succ, List.setIfInBounds_toArray, List.set_cons_zero, List.set_cons_succ]
      refine wpAnyH_take (i := 3) (v := ?_) rfl (by kernel_rfl) (by kernel_rfl) (by kernel_rfl) (fun _ _ _ h => HPAN.out _ _ _ _ _ h) (Or.inl ⟨by rfl, ?_⟩) (by assumption) ?_
      rotate_left
      · (intro w' hSw; go_simp; try with_reducible rfl)
      try simp only [Act.put, List.getElem_toArray, List.getElem_cons_zero, List.getElem_cons_succ, List.setIfInBounds_toArray, List.set_cons_zero, List.set_cons_succ]
      refine wpAnyH_take (i := 4) (v := ?_) rfl (by kernel_rfl) (by kernel_rfl) (by kernel_rfl) (fun _ _ _ h => HPAN.out _ _ _ _ _ h) (Or.inl ⟨by rfl, ?_⟩) (by assumption) ?_
      rotate_left
      · (intro w' hSw; have q := hSw.cell y1 (fun h => List.not_mem_nil h); go_simp; try with_reducible rfl)
      try simp only [Act.put, List.getElem_toArray, List.getElem_cons_zero, List.getElem_cons_succ, List.setIfInBounds_toArray, List.set_cons_zero, List.set_cons_succ]
      refine wpAnyH_take (i := 5) (v := ?_) rfl (by kernel_rfl) (by kernel_rfl) (by kernel_rfl) (fun _ _ _ h => HPAN.out _ _ _ _ _ h) (Or.inl ⟨by rfl, ?_⟩) (by assumption) ?_
      rotate_left
      · (intro w' hSw; go_simp; try with_reducible rfl)
      try simp only [Act.put, List.getElem_toArray, List.getElem_cons_zero, List.getElem_cons_succ, List.setIfInBounds_toArray, List.set_cons_zero, List.set_cons_succ]
      refine wpAnyH_take (i := 6) (v := ?_) rfl (by kernel_rfl) (by kernel_rfl) (by kernel_rfl) (fun _ _ _ h => HPAN.out _ _ _ _ _ h) (Or.inl ⟨by rfl, ?_⟩) (by assumption) ?_
      rotate_left
      · (intro w' hSw; go_simp; try with_reducible rfl)
      try simp only [Act.put, List.getElem_toArray, List.getElem_cons_zero, List.getElem_cons_succ, List.setIfInBounds_toArray, List.set_cons_zero, List.set_cons_succ]
      refine wpAnyH_take (i := 7) (v := ?_) rfl (by kernel_rfl) (by kernel_rfl) (by kernel_rfl) (fun _ _ _ h => HPAN.out _ _ _ _ _ h) (Or.inl ⟨by rfl, ?_⟩) (by assumption) ?_
      rotate_left
      · (intro w' hSw; go_simp; try with_reducible rfl)
      try simp only [Act.put, List.getElem_toArray, List.getElem_cons_zero, List.getElem_cons_succ, List.setIfInBounds_toArray, List.set_cons_zero, List.set_cons_succ]
      refine wpAnyH_take (i := 8) (v := ?_) rfl (by kernel_rfl) (by kernel_rfl) (by kernel_rfl) (fun _ _ _ h => HPAN.out _ _ _ _ _ h) (Or.inl ⟨by rfl, ?_⟩) (by assumption) ?_
      rotate_left
      · (intro w' hSw; go_simp; try with_reducible rfl)
      try simp only [Act.put, List.getElem_toArray, List.getElem_cons_zero, List.getElem_cons_succ, List.setIfInBounds_toArray, List.set_cons_zero, List.set_cons_succ]
      refine wpAnyH_take (i := 9) (v := ?_) rfl (by kernel_rfl) (by kernel_rfl) (by kernel_rfl) (fun _ _ _ h => HPAN.out _ _ _ _ _ h) (Or.inl ⟨by rfl, ?_⟩) (by assumption) ?_
      rotate_left
      · (intro w' hSw; have q := hSw.cell y2 (fun h => List.not_mem_nil h); go_simp; try with_reducible rfl)
      try simp only [Act.put, List.getElem_toArray, List.getElem_cons_zero, List.getElem_cons_succ, List.setIfInBounds_toArray, List.set_cons_zero, List.set_cons_succ]
      refine wpAnyH_take (i := 10) (v := ?_) rfl (by kernel_rfl) (by kernel_rfl) (by kernel_rfl) (fun _ _ _ h => HPAN.out _ _ _ _ _ h) (Or.inl ⟨by rfl, ?_⟩) (by assumption) ?_
      rotate_left
      · (intro w' hSw; go_simp; try with_reducible rfl)
      try simp only [Act.put, List.getElem_toArray, List.getElem_cons_zero, List.getElem_cons_succ, List.setIfInBounds_toArray, List.set_cons_zero, List.set_cons_succ]
      refine wpAnyH_take (i := 11) (v := ?_) rfl (by kernel_rfl) (by kernel_rfl) (by kernel_rfl) (fun _ _ _ h => HPAN.out _ _ _ _ _ h) (Or.inl ⟨by rfl, ?_⟩) (by assumption) ?_
      rotate_left
      · (intro w' hSw; go_simp; try with_reducible rfl)
      try simp only [Act.put, List.getElem_toArray, List.getElem_cons_zero, List.getElem_cons_succ, List.setIfInBounds_toArray, List.set_cons_zero, List.set_cons_succ]
      refine wpAnyH_take (i := 12) (v := ?_) rfl (by kernel_rfl) (by kernel_rfl) (by kernel_rfl) (fun _ _ _ h => HPAN.out _ _ _ _ _ h) (Or.inl ⟨by rfl, ?_⟩) (by assumption) ?_
      rotate_left
      · (intro w' hSw; go_simp; try with_reducible rfl)
      try simp only [Act.put, List.getElem_toArray, List.getElem_cons_zero, List.getElem_cons_succ, List.setIfInBounds_toArray, List.set_cons_zero, List.set_cons_succ]
      refine wpAnyH_take (i := 13) (v := ?_) rfl (by kernel_rfl) (by kernel_rfl) (by kernel_rfl) (fun _ _ _ h => HPAN.out _ _ _ _ _ h) (Or.inl ⟨by rfl, ?_⟩) (by assumption) ?_
      rotate_left
      · (intro w' hSw; go_simp; try with_reducible rfl)
      try simp only [Act.put, List.getElem_toArray, List.getElem_cons_zero, List.getElem_cons_succ, List.setIfInBounds_toArray, List.set_cons_zero, List.set_cons_succ]
      refine wpAnyH_take (i := 14) (v := ?_) rfl (by kernel_rfl) (by kernel_rfl) (by kernel_rfl) (fun _ _ _ h => HPAN.out _ _ _ _ _ h) (Or.inl ⟨by rfl, ?_⟩) (by assumption) ?_
      rotate_left
      · (intro w' hSw; have q := hSw.cell y3 (fun h => List.not_mem_nil h); go_simp; try with_reducible rfl)
      try simp only [Act.put, List.getElem_toArray, List.getElem_cons_zero, List.getElem_cons_succ, List.setIfInBounds_toArray, List.set_cons_zero, List.set_cons_succ]
      refine wpAnyH_take (i := 17) (v := ?_) rfl (by kernel_rfl) (by kernel_rfl) (by kernel_rfl) (fun _ _ _ h => HPAN.out _ _ _ _ _ h) (Or.inl ⟨by rfl, ?_⟩) (by assumption) ?_
      rotate_left
      · (intro w' hSw; go_simp; try with_reducible rfl)
      try simp only [Act.put, List.getElem_toArray, List.getElem_cons_zero, List.getElem_cons_succ, List.setIfInBounds_toArray, List.set_cons_zero, List.set_cons_succ]
      refine wpAnyH_ready (rs := [15]) (by kernel_rfl) (by simp) ?_
      refine AllReadyH.cons rfl (fun K hK => ?_) (AllReadyH.nil)
      go_simp
      refine hK.out _ _ (hHeld.alloc _) (fun hHeld => ?_)
      try simp only [Act.put, List.getElem_toArray, List.getElem_cons_zero, List.getElem_cons_succ, List.setIfInBounds_toArray, List.set_cons_zero, List.set_cons_succ]
      clear hK K
      refine wpAnyH_take (i := 16) (v := ?_) rfl (by kernel_rfl) (by kernel_rfl) (by kernel_rfl) (fun _ _ _ h => HPAN.out _ _ _ _ _ h) (Or.inl ⟨by rfl, ?_⟩) (by assumption) ?_
      rotate_left
      · (intro w' hSw; go_simp; try with_reducible rfl)
      try simp only [Act.put, List.getElem_toArray, List.getElem_cons_zero, List.getElem_cons_succ, List.setIfInBounds_toArray, List.set_cons_zero, List.set_cons_succ]
      refine wpAnyH_done (by kernel_rfl) ?_ _
      try simp only [Act.put, List.getElem_toArray, List.getElem_cons_zero, List.getElem_cons_succ, List.setIfInBounds_toArray, List.set_cons_zero, List.set_cons_succ]
      obtain ⟨wi, hwi⟩ : ∃ wi, wi = (wr.alloc (.cells #[.slice (p.2.A 0) (p.2.n 0) (p.2.c 0), .slice (p.2.A 1) (p.2.n 1) (p.2.c 1), .slice (p.2.A 2) (p.2.n 2) (p.2.c 2)] 23)).drew := ⟨_, rfl⟩
      have hci : Chg [] wr wi := by rw [hwi]; exact ((Chg.refl _ _).alloc _).drew
      have hbi : Blk wi wr.heap.size 23 #[.slice (p.2.A 0) (p.2.n 0) (p.2.c 0), .slice (p.2.A 1) (p.2.n 1) (p.2.c 1), .slice (p.2.A 2) (p.2.n 2) (p.2.c 2)] := by rw [hwi]; exact Blk.new _ _ _
      first | rw [← hwi] | skip
      obtain ⟨ib, hib⟩ : ∃ ib, ib = wr.heap.size := ⟨_, rfl⟩
      rw [← hib] at hbi ⊢
      have HAI := Lib.hid (HAO.out.chg0 hci)
      have HBI := Lib.hid hbi
      clear hwi hci hbi hib y1 y2 y3
      go_wp2
      go_loopw [64] (fun q wr => ∃ (k : Nat) (vs' : Nat → Nat → List Value), k ≤ 3 ∧ q = .int .i64 k ∧ AO La w0 wr (some ⟨g, 0, none⟩) Ln c rs2 vs' ∧ (∀ j, j < i → M9 vs' j) ∧ (0 < k → M9 vs' i) ∧ Blk wr ib 23 #[p.2.sl 0, p.2.sl 1, p.2.sl 2]) (fun q _ => 3 - (intOf q).toNat)
      case atStart => exact ⟨0, vs, by omega, rfl, HAI.out, H9.out, fun h => absurd h (Nat.lt_irrefl 0), HBI.out⟩
      case round =>
        obtain ⟨k, vs1, hk3, rfl, hao1, h91, h9i, hb1⟩ := hrel
        by_cases hk : k < 3
        · have hk' : (k : Int) < 3 := by omega
          have zs := hb1.cell k
          rw [b3_at p.2 k hk] at zs
          have hro := hao1.row i p HP.out k hk
          have hsk := HSP.out k hk
          have HA1 := Lib.hid hao1
          have H91 := Lib.hid h91
          have H9I := Lib.hid h9i
          have HB1 := Lib.hid hb1
          obtain ⟨A3, e1⟩ : ∃ A3, p.2.A k = A3 := ⟨_, rfl⟩
          obtain ⟨N3, e2⟩ : ∃ N3, p.2.n k = N3 := ⟨_, rfl⟩
          obtain ⟨C3, e3⟩ : ∃ C3, p.2.c k = C3 := ⟨_, rfl⟩
          rw [e1, e2, e3] at zs
          rw [e2] at hsk
          have E1 := Lib.hid e1
          have E2 := Lib.hid e2
          have E3 := Lib.hid e3
          clear hao1 h91 h9i hb1 hro e1 e2 e3
          go_wp2
          go_loopw [70] (fun q wr => ∃ (r : Nat) (vs' : Nat → Nat → List Value), r ≤ N3 ∧ q = .int .i64 r ∧ AO La w0 wr (some ⟨g, 0, none⟩) Ln c rs2 vs' ∧ (∀ j, j < i → M9 vs' j) ∧ (0 < k → M9 vs' i) ∧ (k = 0 → ∀ j x, j < r → (vs' i 0)[j]? = some x → x = .int .i64 (-9)) ∧ Blk wr ib 23 #[p.2.sl 0, p.2.sl 1, p.2.sl 2]) (fun q _ => N3 - (intOf q).toNat)
          case atStart => exact ⟨0, vs1, Nat.zero_le _, rfl, HA1.out, H91.out, H9I.out, fun _ j x h => absurd h (Nat.not_lt_zero _), HB1.out⟩
          case round =>
            obtain ⟨r, vs2, hr, rfl, hao2, h92, h9i2, h0r, hb2⟩ := hrel
            have HA2 := Lib.hid hao2
            have H92 := Lib.hid h92
            have H9I2 := Lib.hid h9i2
            have H0R := Lib.hid h0r
            have HB2 := Lib.hid hb2
            clear h92 h9i2 h0r hb2
            by_cases hrn : r < N3
            · have hro := hao2.row i p HP.out k hk
              rw [E1.out, E2.out, E3.out] at hro
              obtain ⟨ad, u, e4, hu, hcl, hfz, hset⟩ := hro.at1 hrn
              have HE4 : Hid (p.2.A k = some ad) := Lib.hid (E1.out.trans e4)
              have HST : Hid (Own (wr.setCell (ad.add r) (.int .i64 (-9))) 3 1 (p.2.A k) (p.2.n k) (p.2.c k) ((vs2 i k).set r (.int .i64 (-9)))) := Lib.hid (by rw [E1.out, E2.out, E3.out]; exact hset _)
              have hne : ad.block ≠ ib := by
                have q := hro.blk_ne HB2.out (by decide) ad.block (by rw [e4]; simp [bo])
                exact q
              have HNE := Lib.hid hne
              clear hao2 hro hset hu hne
              subst e4
              go_wp2
              go_roundw
              case rel =>
                refine ⟨r + 1, _, by omega, by go_num, HA2.out.wr HP.out hk HE4.out HST.out, fun j hj => ?_, fun h0 => ?_, fun h0 j x hj hx => ?_, HB2.out.chg ((Chg.refl [ad.block] wr).setCell (.inl (by rw [add_block]; simp)) _) (fun hm => HNE.out (List.mem_singleton.1 hm).symm)⟩
                · intro x hx
                  simp only [if_neg (fun hh : j = i ∧ 0 = k => Nat.ne_of_lt hj hh.1)] at hx
                  exact H92.out j hj x hx
                · intro x hx
                  have hx2 : x ∈ (if i = i ∧ 0 = k then (vs2 i k).set r (.int .i64 (-9)) else vs2 i 0) := hx
                  rw [if_neg (fun hh => Nat.ne_of_lt h0 hh.2)] at hx2
                  exact H9I2.out h0 x hx2
                · subst h0
                  simp only [and_self, if_true] at hx
                  rw [List.getElem?_set] at hx
                  split at hx
                  · split at hx
                    · injection hx with hx; exact hx.symm
                    · cases hx
                  · exact H0R.out rfl j x (by omega) hx
              case measure => simp [intOf]; omega
            · obtain rfl : r = N3 := by omega
              have hro := hao2.row i p HP.out k hk
              rw [E1.out, E2.out, E3.out] at hro
              have HLV : Hid ((vs2 i k).length = r) := Lib.hid (by have := hro.rd.1; simpa using this)
              clear hao2 hro
              go_wp2
              go_roundw
              case rel =>
                refine ⟨k + 1, vs2, by omega, by go_num, HA2.out, H92.out, fun _ => ?_, HB2.out⟩
                rcases Nat.eq_zero_or_pos k with h0 | h0
                · subst h0
                  intro x hx
                  obtain ⟨j, hj, rfl⟩ := List.getElem_of_mem hx
                  exact H0R.out rfl j _ (by have := HLV.out; omega) (List.getElem?_eq_getElem hj)
                · exact H9I2.out h0
              case measure => simp [intOf]; omega
        · obtain rfl : k = 3 := by omega
          obtain ⟨wq, hwq⟩ : ∃ wq : World, wq = wr := ⟨_, rfl⟩
          subst hwq
          have HA0 := Lib.hid hao1
          have HP0 := HP
          have H91 := Lib.hid h91
          have H9I := Lib.hid (h9i (by decide))
          have HR0 := Lib.hid (hao1.row i p HP.out 0 (by decide))
          have HSET : Hid (∀ (x : Int × B3) (j : Nat), i + 1 ≤ j → (((rs2.set i x)[j]? = rs2[j]?))) := Lib.hid (fun x j hj => List.getElem?_set_ne (by omega))
          obtain ⟨y1, y2, y3⟩ := hao1.cells HP.out
          simp only [B3.sl] at y1
          clear y2 y3 hao1 h91 h9i hb1
          go_wp2_with (first
            | (at_builtin; refine wpList_app rfl _ _ rfl etyInts rfl (HR0.out.chg ((Chg.refl [] wq).alloc (.cells #[.int .i64 (-9), .int .i64 (-9), .int .i64 (-9)] 3)) (fun _ _ => List.not_mem_nil)) rfl (Own.litg wq 3 1 #[.int .i64 (-9), .int .i64 (-9), .int .i64 (-9)] 3 _ _ (by simp) rfl (by decide) rfl).rd (by simp [Value.oneCell']) (by unfold maxLen; omega) (by omega) ?_; intro A0 c0 wb0 hown0 hchg0 hnew0 _; have ha0 := (HA0.out.chg0 ((Chg.refl [] wq).alloc (.cells #[.int .i64 (-9), .int .i64 (-9), .int .i64 (-9)] 3))).app HP0.out (k := 0) (by decide) hown0 hchg0 hnew0; have HA1 := Lib.hid ha0; have HP1 := Lib.hid (set_at (rs2) HP0.out 0 A0 (p.2.n 0 + 3) c0); have fz0 : wb0.frozen? ⟨g, i * 4 + 1, none⟩ = false := (HA0.out.chg0 ((Chg.refl [] wq).alloc (.cells #[.int .i64 (-9), .int .i64 (-9), .int .i64 (-9)] 3))).own.fz' hchg0 ((HA0.out.chg0 ((Chg.refl [] wq).alloc (.cells #[.int .i64 (-9), .int .i64 (-9), .int .i64 (-9)] 3))).own.own_ne ((HA0.out.chg0 ((Chg.refl [] wq).alloc (.cells #[.int .i64 (-9), .int .i64 (-9), .int .i64 (-9)] 3))).row i _ HP0.out 0 (by decide)) (by decide)) _; have ce0 := (HA0.out.chg0 ((Chg.refl [] wq).alloc (.cells #[.int .i64 (-9), .int .i64 (-9), .int .i64 (-9)] 3))).cell_chg HP0.out (k := 0) (by decide) hchg0; have HR1 := Lib.hid (ha0.row i _ HP1.out 1 (by decide)); obtain ⟨t1, t2, t3⟩ := ha0.cells HP1.out; simp only [B3.set, B3.sl, if_true, if_false, show ¬ ((1 : Nat) = 0) by decide, show ¬ ((2 : Nat) = 0) by decide] at t2; clear t1 t3; clear hown0 hchg0 hnew0 ha0)
            | (at_builtin; refine wpList_app rfl _ _ rfl etyInts rfl (HR1.out.chg ((Chg.refl [] (wb0.setCell ⟨g, i * 4 + 1, none⟩ (.slice A0 (p.2.n 0 + 3) c0))).alloc (.cells #[.int .i64 (-8), .int .i64 (-8), .int .i64 (-8)] 3)) (fun _ _ => List.not_mem_nil)) rfl (Own.litg (wb0.setCell ⟨g, i * 4 + 1, none⟩ (.slice A0 (p.2.n 0 + 3) c0)) 3 1 #[.int .i64 (-8), .int .i64 (-8), .int .i64 (-8)] 3 _ _ (by simp) rfl (by decide) rfl).rd (by simp [Value.oneCell']) (by unfold maxLen; omega) (by omega) ?_; intro A1 c1 wb1 hown1 hchg1 hnew1 _; have ha1 := (HA1.out.chg0 ((Chg.refl [] (wb0.setCell ⟨g, i * 4 + 1, none⟩ (.slice A0 (p.2.n 0 + 3) c0))).alloc (.cells #[.int .i64 (-8), .int .i64 (-8), .int .i64 (-8)] 3))).app HP1.out (k := 1) (by decide) hown1 hchg1 hnew1; have HA2 := Lib.hid ha1; have HP2 := Lib.hid (set_at ((rs2.set i (p.1, p.2.set 0 A0 (p.2.n 0 + 3) c0))) HP1.out 1 A1 (p.2.n 1 + 3) c1); have fz1 : wb1.frozen? ⟨g, i * 4 + 2, none⟩ = false := (HA1.out.chg0 ((Chg.refl [] (wb0.setCell ⟨g, i * 4 + 1, none⟩ (.slice A0 (p.2.n 0 + 3) c0))).alloc (.cells #[.int .i64 (-8), .int .i64 (-8), .int .i64 (-8)] 3))).own.fz' hchg1 ((HA1.out.chg0 ((Chg.refl [] (wb0.setCell ⟨g, i * 4 + 1, none⟩ (.slice A0 (p.2.n 0 + 3) c0))).alloc (.cells #[.int .i64 (-8), .int .i64 (-8), .int .i64 (-8)] 3))).own.own_ne ((HA1.out.chg0 ((Chg.refl [] (wb0.setCell ⟨g, i * 4 + 1, none⟩ (.slice A0 (p.2.n 0 + 3) c0))).alloc (.cells #[.int .i64 (-8), .int .i64 (-8), .int .i64 (-8)] 3))).row i _ HP1.out 1 (by decide)) (by decide)) _; have ce1 := (HA1.out.chg0 ((Chg.refl [] (wb0.setCell ⟨g, i * 4 + 1, none⟩ (.slice A0 (p.2.n 0 + 3) c0))).alloc (.cells #[.int .i64 (-8), .int .i64 (-8), .int .i64 (-8)] 3))).cell_chg HP1.out (k := 1) (by decide) hchg1; have HR2 := Lib.hid (ha1.row i _ HP2.out 2 (by decide)); obtain ⟨r1, r2, r3⟩ := ha1.cells HP2.out; simp only [B3.set, B3.sl, if_true, if_false, show ¬ ((2 : Nat) = 0) by decide, show ¬ ((2 : Nat) = 1) by decide] at r3; clear r1 r2; clear hown1 hchg1 hnew1 ha1)
            | (at_builtin; refine wpList_app rfl _ _ rfl etyInts rfl (HR2.out.chg ((Chg.refl [] (wb1.setCell ⟨g, i * 4 + 2, none⟩ (.slice A1 (p.2.n 1 + 3) c1))).alloc (.cells #[.int .i64 (-7), .int .i64 (-7), .int .i64 (-7)] 3)) (fun _ _ => List.not_mem_nil)) rfl (Own.litg (wb1.setCell ⟨g, i * 4 + 2, none⟩ (.slice A1 (p.2.n 1 + 3) c1)) 3 1 #[.int .i64 (-7), .int .i64 (-7), .int .i64 (-7)] 3 _ _ (by simp) rfl (by decide) rfl).rd (by simp [Value.oneCell']) (by unfold maxLen; omega) (by omega) ?_; intro A2 c2 wb2 hown2 hchg2 hnew2 _; have ha2 := (HA2.out.chg0 ((Chg.refl [] (wb1.setCell ⟨g, i * 4 + 2, none⟩ (.slice A1 (p.2.n 1 + 3) c1))).alloc (.cells #[.int .i64 (-7), .int .i64 (-7), .int .i64 (-7)] 3))).app HP2.out (k := 2) (by decide) hown2 hchg2 hnew2; have HA3 := Lib.hid ha2; have HP3 := Lib.hid (set_at (((rs2.set i (p.1, p.2.set 0 A0 (p.2.n 0 + 3) c0)).set i (p.1, (p.2.set 0 A0 (p.2.n 0 + 3) c0).set 1 A1 (p.2.n 1 + 3) c1))) HP2.out 2 A2 (p.2.n 2 + 3) c2); have fz2 : wb2.frozen? ⟨g, i * 4 + 3, none⟩ = false := (HA2.out.chg0 ((Chg.refl [] (wb1.setCell ⟨g, i * 4 + 2, none⟩ (.slice A1 (p.2.n 1 + 3) c1))).alloc (.cells #[.int .i64 (-7), .int .i64 (-7), .int .i64 (-7)] 3))).own.fz' hchg2 ((HA2.out.chg0 ((Chg.refl [] (wb1.setCell ⟨g, i * 4 + 2, none⟩ (.slice A1 (p.2.n 1 + 3) c1))).alloc (.cells #[.int .i64 (-7), .int .i64 (-7), .int .i64 (-7)] 3))).own.own_ne ((HA2.out.chg0 ((Chg.refl [] (wb1.setCell ⟨g, i * 4 + 2, none⟩ (.slice A1 (p.2.n 1 + 3) c1))).alloc (.cells #[.int .i64 (-7), .int .i64 (-7), .int .i64 (-7)] 3))).row i _ HP2.out 2 (by decide)) (by decide)) _; have ce2 := (HA2.out.chg0 ((Chg.refl [] (wb1.setCell ⟨g, i * 4 + 2, none⟩ (.slice A1 (p.2.n 1 + 3) c1))).alloc (.cells #[.int .i64 (-7), .int .i64 (-7), .int .i64 (-7)] 3))).cell_chg HP2.out (k := 2) (by decide) hchg2; skip; clear hown2 hchg2 hnew2 ha2))
          go_roundw
          case rel =>
            refine ⟨i + 1, _, _, by omega, by go_num, HA3.out, fun j hj x hx => ?_, fun j hj => ?_⟩
            · by_cases e : j = i
              · subst e
                simp at hx
                rcases hx with hx | hx
                · exact H9I.out x hx
                · exact hx
              · simp [e] at hx
                exact H91.out j (by omega) x hx
            · rw [List.getElem?_set_ne (by omega), List.getElem?_set_ne (by omega), List.getElem?_set_ne (by omega)]
              exact HRS.out j (by omega)
          case measure => simp [intOf]; omega
    · obtain rfl : i = Ln := by omega
      go_wp2
      exact HEXIT.out rs2 vs _ _ _ _ _ _ _ _ _ _ _ _ _ _ _ _ _ _ _ _ _ _ _ _ _ _ _ _ _ _ _ _ _ _ _ _ _ _ _ _ _ _ _ _ _ _ _ _ _ _ _ _ _ _ _ _ _ _ _ _ _ _ _ _ _ _ _ _ _ _ _ _ ⟨HAO.out, H9.out⟩

set_option maxRecDepth 1000000 in
set_option maxHeartbeats 6400000 in
theorem own_lp4 {La : List Nat} {w0 : World} {A : Option Addr} {Ln c : Nat} {rs : List (Int × B3)} {vs : Nat → Nat → List Value} (wz : World) (Q0 : Exit → Act → World → Prop)
    (HAZ : Hid (AO La w0 wz A Ln c rs vs)) (H9 : Hid (∀ j, j < Ln → M9 vs j)) (hLn : Ln ≤ 1073741824)
    (u0 u1 u2 u3 u4 u5 u7 u8 u9 u10 u11 u12 u13 u14 u15 u16 u17 u18 u19 u20 u21 u22 u23 u24 u25 u26 u27 u28 u29 u30 u31 u32 u33 u34 u35 u36 u37 u38 u39 u40 u41 u42 u43 u44 u45 u46 u47 u48 u49 u50 u51 u52 u53 u54 u55 u56 u57 u58 u59 u60 u61 u62 u63 u64 u65 u66 u67 u68 u69 u70 u71 u72 u73 u74 u75 u76 u77 u78 u79 u80 u81 u82 u83 u84 u85 u86 u87 u88 u89 u90 u91 u92 u93 u94 u95 u96 u97 u98 u99 u100 u101 u102 u103 u104 u105 u106 u107 u108 u109 u110 u111 u112 u115 u116 u117 u118 u119 u120 u121 u122 u123 u124 u125 u126 u127 u128 u129 u130 u131 u132 u133 u134 u135 u136 u137 u138 u139 u140 u141 u142 u143 u144 u145 u146 u147 u148 u149 u150 u151 u152 u153 u154 u155 u156 u157 u158 u159 u160 u161 u162 u163 u164 u165 u166 u167 u168 u169 u170 u171 u172 u173 u174 u175 u176 u177 u178 u179 u180 u181 u182 u183 u184 u185 u186 u187 u188 u189 u190 u191 u192 u193 u194 u195 u196 u197 u198 u199 u200 u201 u202 u203 u204 u205 u206 u207 u208 u209 u210 u211 u212 u213 u214 u215 : Value)
    (HEXIT : Hid (∀ (v4 v12 v14 v114 v115 v116 v117 v118 v119 v120 v121 v122 v123 v124 v125 v126 v127 v128 v129 v130 : Value) (wr : World), Chg [] wz wr → Q0 (.exit 6) ⟨(List.toArray (u0 :: u1 :: u2 :: u3 :: v4 :: u5 :: .slice A Ln c :: u7 :: u8 :: u9 :: u10 :: u11 :: v12 :: u13 :: v14 :: u15 :: u16 :: u17 :: u18 :: u19 :: u20 :: u21 :: u22 :: u23 :: u24 :: u25 :: u26 :: u27 :: u28 :: u29 :: u30 :: u31 :: u32 :: u33 :: u34 :: u35 :: u36 :: u37 :: u38 :: u39 :: u40 :: u41 :: u42 :: u43 :: u44 :: u45 :: u46 :: u47 :: u48 :: u49 :: u50 :: u51 :: u52 :: u53 :: u54 :: u55 :: u56 :: u57 :: u58 :: u59 :: u60 :: u61 :: u62 :: u63 :: u64 :: u65 :: u66 :: u67 :: u68 :: u69 :: u70 :: u71 :: u72 :: u73 :: u74 :: u75 :: u76 :: u77 :: u78 :: u79 :: u80 :: u81 :: u82 :: u83 :: u84 :: u85 :: u86 :: u87 :: u88 :: u89 :: u90 :: u91 :: u92 :: u93 :: u94 :: u95 :: u96 :: u97 :: u98 :: u99 :: u100 :: u101 :: u102 :: u103 :: u104 :: u105 :: u106 :: u107 :: u108 :: u109 :: u110 :: u111 :: u112 :: .int .i64 (Ln : Int) :: v114 :: v115 :: v116 :: v117 :: v118 :: v119 :: v120 :: v121 :: v122 :: v123 :: v124 :: v125 :: v126 :: v127 :: v128 :: v129 :: v130 :: u131 :: u132 :: u133 :: u134 :: u135 :: u136 :: u137 :: u138 :: u139 :: u140 :: u141 :: u142 :: u143 :: u144 :: u145 :: u146 :: u147 :: u148 :: u149 :: u150 :: u151 :: u152 :: u153 :: u154 :: u155 :: u156 :: u157 :: u158 :: u159 :: u160 :: u161 :: u162 :: u163 :: u164 :: u165 :: u166 :: u167 :: u168 :: u169 :: u170 :: u171 :: u172 :: u173 :: u174 :: u175 :: u176 :: u177 :: u178 :: u179 :: u180 :: u181 :: u182 :: u183 :: u184 :: u185 :: u186 :: u187 :: u188 :: u189 :: u190 :: u191 :: u192 :: u193 :: u194 :: u195 :: u196 :: u197 :: u198 :: u199 :: u200 :: u201 :: u202 :: u203 :: u204 :: u205 :: u206 :: u207 :: u208 :: u209 :: u210 :: u211 :: u212 :: u213 :: u214 :: u215 :: [])), []⟩ wr)) :
    Code.wp Try.prog (.loop (ownLoop 1)) Q0 ⟨(List.toArray (u0 :: u1 :: u2 :: u3 :: u4 :: u5 :: .slice A Ln c :: u7 :: u8 :: u9 :: u10 :: u11 :: u12 :: u13 :: u14 :: u15 :: u16 :: u17 :: u18 :: u19 :: u20 :: u21 :: u22 :: u23 :: u24 :: u25 :: u26 :: u27 :: u28 :: u29 :: u30 :: u31 :: u32 :: u33 :: u34 :: u35 :: u36 :: u37 :: u38 :: u39 :: u40 :: u41 :: u42 :: u43 :: u44 :: u45 :: u46 :: u47 :: u48 :: u49 :: u50 :: u51 :: u52 :: u53 :: u54 :: u55 :: u56 :: u57 :: u58 :: u59 :: u60 :: u61 :: u62 :: u63 :: u64 :: u65 :: u66 :: u67 :: u68 :: u69 :: u70 :: u71 :: u72 :: u73 :: u74 :: u75 :: u76 :: u77 :: u78 :: u79 :: u80 :: u81 :: u82 :: u83 :: u84 :: u85 :: u86 :: u87 :: u88 :: u89 :: u90 :: u91 :: u92 :: u93 :: u94 :: u95 :: u96 :: u97 :: u98 :: u99 :: u100 :: u101 :: u102 :: u103 :: u104 :: u105 :: u106 :: u107 :: u108 :: u109 :: u110 :: u111 :: u112 :: .int .i64 (Ln : Int) :: .int .i64 0 :: u115 :: u116 :: u117 :: u118 :: u119 :: u120 :: u121 :: u122 :: u123 :: u124 :: u125 :: u126 :: u127 :: u128 :: u129 :: u130 :: u131 :: u132 :: u133 :: u134 :: u135 :: u136 :: u137 :: u138 :: u139 :: u140 :: u141 :: u142 :: u143 :: u144 :: u145 :: u146 :: u147 :: u148 :: u149 :: u150 :: u151 :: u152 :: u153 :: u154 :: u155 :: u156 :: u157 :: u158 :: u159 :: u160 :: u161 :: u162 :: u163 :: u164 :: u165 :: u166 :: u167 :: u168 :: u169 :: u170 :: u171 :: u172 :: u173 :: u174 :: u175 :: u176 :: u177 :: u178 :: u179 :: u180 :: u181 :: u182 :: u183 :: u184 :: u185 :: u186 :: u187 :: u188 :: u189 :: u190 :: u191 :: u192 :: u193 :: u194 :: u195 :: u196 :: u197 :: u198 :: u199 :: u200 :: u201 :: u202 :: u203 :: u204 :: u205 :: u206 :: u207 :: u208 :: u209 :: u210 :: u211 :: u212 :: u213 :: u214 :: u215 :: [])), []⟩ wz := by
  conv => arg 2; arg 1; whnf
  go_loopw [114] (fun q wr => ∃ i : Nat, i ≤ Ln ∧ q = .int .i64 i ∧ Chg [] wz wr) (fun q _ => Ln - (intOf q).toNat)
  case atStart => exact ⟨0, Nat.zero_le _, rfl, Chg.refl _ _⟩
  case round =>
    obtain ⟨i, hi, rfl, hch⟩ := hrel
    have HCH := Lib.hid hch
    have hao := HAZ.out.chg0 hch
    by_cases hlt : i < Ln
    · have hlt' : (i : Int) < Ln := by omega
      obtain ⟨p, hp⟩ : ∃ p, rs[i]? = some p := ⟨_, List.getElem?_eq_getElem (by rw [hao.len]; exact hlt)⟩
      obtain ⟨g, rfl⟩ := hao.form hlt
      obtain ⟨y1, y2, y3⟩ := hao.cells hp
      simp only [B3.sl] at y1
      have hro := hao.row i p hp 0 (by decide)
      have hbd : p.2.n 0 ≤ 9223372036854775807 := by have h1 := hro.rd.2.1; have h2 := hro.rd.2.2.1; unfold maxLen at h2; omega
      obtain ⟨A3, e1⟩ : ∃ A3, p.2.A 0 = A3 := ⟨_, rfl⟩
      obtain ⟨N3, e2⟩ : ∃ N3, p.2.n 0 = N3 := ⟨_, rfl⟩
      obtain ⟨C3, e3⟩ : ∃ C3, p.2.c 0 = C3 := ⟨_, rfl⟩
      rw [e1, e2, e3] at y1 hro
      rw [e2] at hbd
      have HRO := Lib.hid hro
      have HM9 := Lib.hid (H9.out i hlt)
      clear y2 y3 hao hro e1 e2 e3 hp hch
      go_wp2
      obtain ⟨wi, hwi⟩ : ∃ wi : World, wi = wr := ⟨_, rfl⟩
      subst hwi
      go_loopw [123] (fun q wr => ∃ r : Nat, r ≤ N3 ∧ q = .int .i64 r ∧ Chg [] wi wr) (fun q _ => N3 - (intOf q).toNat)
      case atStart => exact ⟨0, Nat.zero_le _, rfl, Chg.refl _ _⟩
      case round =>
        obtain ⟨r, hr, rfl, hcr⟩ := hrel
        have HCR := Lib.hid hcr
        by_cases hrn : r < N3
        · obtain ⟨ad, u, e4, hu, hcl, _⟩ := (HRO.out.chg hcr (fun _ _ => List.not_mem_nil)).at1 hrn
          have hu9 : u = .int .i64 (-9) := HM9.out u (List.mem_of_getElem? hu)
          subst hu9
          clear hu hcr
          subst e4
          go_wp2
          go_roundw
          case rel => exact ⟨r + 1, by omega, by go_num, HCR.out⟩
          case measure => simp [intOf]; omega
        · obtain rfl : r = N3 := by omega
          clear hcr
          go_wp2
          go_roundw
          case rel => exact ⟨i + 1, by omega, by go_num, HCH.out.trans0 HCR.out⟩
          case measure => simp [intOf]; omega
    · obtain rfl : i = Ln := by omega
      clear hao
      go_wp2
      exact HEXIT.out _ _ _ _ _ _ _ _ _ _ _ _ _ _ _ _ _ _ _ _ _ HCH.out
end Go.Proofs.Ytelmnmepdmfihaa
