/-
  Layer 17: GroupsOwn's loops over what Make told.
-/
import Derived.Test.YtelmnmepdmfihaaGrOb
import Derived.Test.YtelmnmepdmfihaaLkV
namespace Go.Proofs.Ytelmnmepdmfihaa
open Go.RowKit

set_option maxRecDepth 1000000 in
set_option maxHeartbeats 6400000 in
theorem own_lp6 {A : Option Addr} {Ln c : Nat} {L0 : List Lk} (wz : World) (Q0 : Exit → Act → World → Prop)
    (HO : Hid (Own wz 55 7 A Ln c (lvs L0))) (hLn : Ln ≤ 1073741824)
    (u0 u1 u2 u3 u4 u5 u6 u7 u8 u9 u10 u11 u12 u13 u14 u16 u17 u18 u19 u20 u21 u22 u23 u24 u25 u26 u27 u28 u29 u30 u31 u32 u33 u34 u35 u36 u37 u38 u39 u40 u41 u42 u43 u44 u45 u46 u47 u48 u49 u50 u51 u52 u53 u54 u55 u56 u57 u58 u59 u60 u61 u62 u63 u64 u65 u66 u67 u68 u69 u70 u71 u72 u73 u74 u75 u76 u77 u78 u79 u80 u81 u82 u83 u84 u85 u86 u87 u88 u89 u90 u91 u92 u93 u94 u95 u96 u97 u98 u99 u100 u101 u102 u103 u104 u105 u106 u107 u108 u109 u110 u111 u112 u113 u114 u115 u116 u117 u118 u119 u120 u121 u122 u123 u124 u125 u126 u127 u128 u129 u130 u131 u132 u133 u134 u135 u136 u137 u138 u139 u140 u141 u142 u143 u144 u145 u146 u147 u148 u149 u150 u151 u152 u153 u154 u155 u158 u159 u160 u161 u162 u163 u164 u165 u166 u167 u168 u169 u170 u171 u172 u173 u174 u175 u176 u177 u178 u179 u180 u181 u182 u183 u184 u185 u186 u187 u188 u189 u190 u191 u192 u193 u194 u195 u196 u197 u198 u199 u200 u201 u202 u203 u204 u205 u206 u207 u208 u209 u210 u211 u212 u213 u214 u215 : Value)
    (HEXIT : Hid (∀ (L : List Lk) (v21 v157 v158 v159 v160 v161 v162 v163 v164 : Value) (wr : World), Own wr 55 7 A Ln c (lvs L) ∧ Chg (bo A) wz wr → Q0 (.exit 10) ⟨(List.toArray (u0 :: u1 :: u2 :: u3 :: u4 :: u5 :: u6 :: u7 :: u8 :: u9 :: u10 :: u11 :: u12 :: u13 :: u14 :: .slice A Ln c :: u16 :: u17 :: u18 :: u19 :: u20 :: v21 :: u22 :: u23 :: u24 :: u25 :: u26 :: u27 :: u28 :: u29 :: u30 :: u31 :: u32 :: u33 :: u34 :: u35 :: u36 :: u37 :: u38 :: u39 :: u40 :: u41 :: u42 :: u43 :: u44 :: u45 :: u46 :: u47 :: u48 :: u49 :: u50 :: u51 :: u52 :: u53 :: u54 :: u55 :: u56 :: u57 :: u58 :: u59 :: u60 :: u61 :: u62 :: u63 :: u64 :: u65 :: u66 :: u67 :: u68 :: u69 :: u70 :: u71 :: u72 :: u73 :: u74 :: u75 :: u76 :: u77 :: u78 :: u79 :: u80 :: u81 :: u82 :: u83 :: u84 :: u85 :: u86 :: u87 :: u88 :: u89 :: u90 :: u91 :: u92 :: u93 :: u94 :: u95 :: u96 :: u97 :: u98 :: u99 :: u100 :: u101 :: u102 :: u103 :: u104 :: u105 :: u106 :: u107 :: u108 :: u109 :: u110 :: u111 :: u112 :: u113 :: u114 :: u115 :: u116 :: u117 :: u118 :: u119 :: u120 :: u121 :: u122 :: u123 :: u124 :: u125 :: u126 :: u127 :: u128 :: u129 :: u130 :: u131 :: u132 :: u133 :: u134 :: u135 :: u136 :: u137 :: u138 :: u139 :: u140 :: u141 :: u142 :: u143 :: u144 :: u145 :: u146 :: u147 :: u148 :: u149 :: u150 :: u151 :: u152 :: u153 :: u154 :: u155 :: .int .i64 (Ln : Int) :: v157 :: v158 :: v159 :: v160 :: v161 :: v162 :: v163 :: v164 :: u165 :: u166 :: u167 :: u168 :: u169 :: u170 :: u171 :: u172 :: u173 :: u174 :: u175 :: u176 :: u177 :: u178 :: u179 :: u180 :: u181 :: u182 :: u183 :: u184 :: u185 :: u186 :: u187 :: u188 :: u189 :: u190 :: u191 :: u192 :: u193 :: u194 :: u195 :: u196 :: u197 :: u198 :: u199 :: u200 :: u201 :: u202 :: u203 :: u204 :: u205 :: u206 :: u207 :: u208 :: u209 :: u210 :: u211 :: u212 :: u213 :: u214 :: u215 :: [])), []⟩ wr)) :
    Code.wp Try.prog (.loop (ownLoop 2)) Q0 ⟨(List.toArray (u0 :: u1 :: u2 :: u3 :: u4 :: u5 :: u6 :: u7 :: u8 :: u9 :: u10 :: u11 :: u12 :: u13 :: u14 :: .slice A Ln c :: u16 :: u17 :: u18 :: u19 :: u20 :: u21 :: u22 :: u23 :: u24 :: u25 :: u26 :: u27 :: u28 :: u29 :: u30 :: u31 :: u32 :: u33 :: u34 :: u35 :: u36 :: u37 :: u38 :: u39 :: u40 :: u41 :: u42 :: u43 :: u44 :: u45 :: u46 :: u47 :: u48 :: u49 :: u50 :: u51 :: u52 :: u53 :: u54 :: u55 :: u56 :: u57 :: u58 :: u59 :: u60 :: u61 :: u62 :: u63 :: u64 :: u65 :: u66 :: u67 :: u68 :: u69 :: u70 :: u71 :: u72 :: u73 :: u74 :: u75 :: u76 :: u77 :: u78 :: u79 :: u80 :: u81 :: u82 :: u83 :: u84 :: u85 :: u86 :: u87 :: u88 :: u89 :: u90 :: u91 :: u92 :: u93 :: u94 :: u95 :: u96 :: u97 :: u98 :: u99 :: u100 :: u101 :: u102 :: u103 :: u104 :: u105 :: u106 :: u107 :: u108 :: u109 :: u110 :: u111 :: u112 :: u113 :: u114 :: u115 :: u116 :: u117 :: u118 :: u119 :: u120 :: u121 :: u122 :: u123 :: u124 :: u125 :: u126 :: u127 :: u128 :: u129 :: u130 :: u131 :: u132 :: u133 :: u134 :: u135 :: u136 :: u137 :: u138 :: u139 :: u140 :: u141 :: u142 :: u143 :: u144 :: u145 :: u146 :: u147 :: u148 :: u149 :: u150 :: u151 :: u152 :: u153 :: u154 :: u155 :: .int .i64 (Ln : Int) :: .int .i64 0 :: u158 :: u159 :: u160 :: u161 :: u162 :: u163 :: u164 :: u165 :: u166 :: u167 :: u168 :: u169 :: u170 :: u171 :: u172 :: u173 :: u174 :: u175 :: u176 :: u177 :: u178 :: u179 :: u180 :: u181 :: u182 :: u183 :: u184 :: u185 :: u186 :: u187 :: u188 :: u189 :: u190 :: u191 :: u192 :: u193 :: u194 :: u195 :: u196 :: u197 :: u198 :: u199 :: u200 :: u201 :: u202 :: u203 :: u204 :: u205 :: u206 :: u207 :: u208 :: u209 :: u210 :: u211 :: u212 :: u213 :: u214 :: u215 :: [])), []⟩ wz := by
  conv => arg 2; arg 1; whnf
  go_loopw [157] (fun q wr => ∃ (i : Nat) (L : List Lk), i ≤ Ln ∧ q = .int .i64 i ∧ Own wr 55 7 A Ln c (lvs L) ∧ Chg (bo A) wz wr) (fun q _ => Ln - (intOf q).toNat)
  case atStart => exact ⟨0, L0, Nat.zero_le _, rfl, HO.out, Chg.refl _ _⟩
  case round =>
    obtain ⟨i, L, hi, rfl, hown, hch⟩ := hrel
    by_cases hlt : i < Ln
    · have hlt' : (i : Int) < Ln := by omega
      have hLl : L.length = Ln := by have := hown.rd.1; rw [lvs_length] at this; omega
      obtain ⟨l, hl⟩ : ∃ l, L[i]? = some l := ⟨_, List.getElem?_eq_getElem (by omega)⟩
      obtain ⟨g, rfl, _⟩ := hown.lk hl
      have y0 := hown.cl hl (k := 0) (u := .bool l.live) (by decide) rfl
      have y1 := hown.cl hl (k := 1) (u := .int .i64 l.src) (by decide) rfl
      have y2 := hown.cl hl (k := 2) (u := .int .i64 l.dst) (by decide) rfl
      have y3 := hown.cl hl (k := 3) (u := .int .i64 l.sp) (by decide) rfl
      have y4 := hown.cl hl (k := 4) (u := .int .i64 l.tp) (by decide) rfl
      have y5 := hown.cl hl (k := 5) (u := .int .i64 l.sn) (by decide) rfl
      have y6 := hown.cl hl (k := 6) (u := .int .i64 l.tn) (by decide) rfl
      simp only [Nat.add_zero] at y0
      have f0 := hown.fz (i * 7)
      have f1 := hown.fz (i * 7 + 1)
      have f2 := hown.fz (i * 7 + 2)
      have f3 := hown.fz (i * 7 + 3)
      have f4 := hown.fz (i * 7 + 4)
      have f5 := hown.fz (i * 7 + 5)
      have f6 := hown.fz (i * 7 + 6)
      have HLL := Lib.hid hl
      clear hl hLl
      go_wp2
      go_roundw
      case rel => exact ⟨i + 1, _, by omega, by go_num, hown.set7 HLL.out _ _ _ _ _ _ _, (((((((hch.setCell (.inl (by simp [bo])) _).setCell (.inl (by simp [bo])) _).setCell (.inl (by simp [bo])) _).setCell (.inl (by simp [bo])) _).setCell (.inl (by simp [bo])) _).setCell (.inl (by simp [bo])) _).setCell (.inl (by simp [bo])) _)⟩
      case measure => simp [intOf]; omega
    · obtain rfl : i = Ln := by omega
      go_wp2
      exact HEXIT.out L _ _ _ _ _ _ _ _ _ _ ⟨hown, hch⟩

set_option maxRecDepth 1000000 in
set_option maxHeartbeats 6400000 in
theorem own_lp7 {A : Option Addr} {Ln c : Nat} {L0 : List Lk} (wz : World) (Q0 : Exit → Act → World → Prop)
    (HO : Hid (Own wz 58 7 A Ln c (lvs L0))) (hLn : Ln ≤ 1073741824)
    (u0 u1 u2 u3 u4 u5 u6 u7 u8 u9 u10 u11 u12 u13 u14 u15 u17 u18 u19 u20 u21 u22 u23 u24 u25 u26 u27 u28 u29 u30 u31 u32 u33 u34 u35 u36 u37 u38 u39 u40 u41 u42 u43 u44 u45 u46 u47 u48 u49 u50 u51 u52 u53 u54 u55 u56 u57 u58 u59 u60 u61 u62 u63 u64 u65 u66 u67 u68 u69 u70 u71 u72 u73 u74 u75 u76 u77 u78 u79 u80 u81 u82 u83 u84 u85 u86 u87 u88 u89 u90 u91 u92 u93 u94 u95 u96 u97 u98 u99 u100 u101 u102 u103 u104 u105 u106 u107 u108 u109 u110 u111 u112 u113 u114 u115 u116 u117 u118 u119 u120 u121 u122 u123 u124 u125 u126 u127 u128 u129 u130 u131 u132 u133 u134 u135 u136 u137 u138 u139 u140 u141 u142 u143 u144 u145 u146 u147 u148 u149 u150 u151 u152 u153 u154 u155 u156 u157 u158 u159 u160 u161 u162 u163 u164 u165 u168 u169 u170 u171 u172 u173 u174 u175 u176 u177 u178 u179 u180 u181 u182 u183 u184 u185 u186 u187 u188 u189 u190 u191 u192 u193 u194 u195 u196 u197 u198 u199 u200 u201 u202 u203 u204 u205 u206 u207 u208 u209 u210 u211 u212 u213 u214 u215 : Value)
    (HEXIT : Hid (∀ (L : List Lk) (v22 v167 v168 v169 v170 v171 v172 v173 v174 : Value) (wr : World), Own wr 58 7 A Ln c (lvs L) ∧ Chg (bo A) wz wr → Q0 (.exit 12) ⟨(List.toArray (u0 :: u1 :: u2 :: u3 :: u4 :: u5 :: u6 :: u7 :: u8 :: u9 :: u10 :: u11 :: u12 :: u13 :: u14 :: u15 :: .slice A Ln c :: u17 :: u18 :: u19 :: u20 :: u21 :: v22 :: u23 :: u24 :: u25 :: u26 :: u27 :: u28 :: u29 :: u30 :: u31 :: u32 :: u33 :: u34 :: u35 :: u36 :: u37 :: u38 :: u39 :: u40 :: u41 :: u42 :: u43 :: u44 :: u45 :: u46 :: u47 :: u48 :: u49 :: u50 :: u51 :: u52 :: u53 :: u54 :: u55 :: u56 :: u57 :: u58 :: u59 :: u60 :: u61 :: u62 :: u63 :: u64 :: u65 :: u66 :: u67 :: u68 :: u69 :: u70 :: u71 :: u72 :: u73 :: u74 :: u75 :: u76 :: u77 :: u78 :: u79 :: u80 :: u81 :: u82 :: u83 :: u84 :: u85 :: u86 :: u87 :: u88 :: u89 :: u90 :: u91 :: u92 :: u93 :: u94 :: u95 :: u96 :: u97 :: u98 :: u99 :: u100 :: u101 :: u102 :: u103 :: u104 :: u105 :: u106 :: u107 :: u108 :: u109 :: u110 :: u111 :: u112 :: u113 :: u114 :: u115 :: u116 :: u117 :: u118 :: u119 :: u120 :: u121 :: u122 :: u123 :: u124 :: u125 :: u126 :: u127 :: u128 :: u129 :: u130 :: u131 :: u132 :: u133 :: u134 :: u135 :: u136 :: u137 :: u138 :: u139 :: u140 :: u141 :: u142 :: u143 :: u144 :: u145 :: u146 :: u147 :: u148 :: u149 :: u150 :: u151 :: u152 :: u153 :: u154 :: u155 :: u156 :: u157 :: u158 :: u159 :: u160 :: u161 :: u162 :: u163 :: u164 :: u165 :: .int .i64 (Ln : Int) :: v167 :: v168 :: v169 :: v170 :: v171 :: v172 :: v173 :: v174 :: u175 :: u176 :: u177 :: u178 :: u179 :: u180 :: u181 :: u182 :: u183 :: u184 :: u185 :: u186 :: u187 :: u188 :: u189 :: u190 :: u191 :: u192 :: u193 :: u194 :: u195 :: u196 :: u197 :: u198 :: u199 :: u200 :: u201 :: u202 :: u203 :: u204 :: u205 :: u206 :: u207 :: u208 :: u209 :: u210 :: u211 :: u212 :: u213 :: u214 :: u215 :: [])), []⟩ wr)) :
    Code.wp Try.prog (.loop (ownLoop 3)) Q0 ⟨(List.toArray (u0 :: u1 :: u2 :: u3 :: u4 :: u5 :: u6 :: u7 :: u8 :: u9 :: u10 :: u11 :: u12 :: u13 :: u14 :: u15 :: .slice A Ln c :: u17 :: u18 :: u19 :: u20 :: u21 :: u22 :: u23 :: u24 :: u25 :: u26 :: u27 :: u28 :: u29 :: u30 :: u31 :: u32 :: u33 :: u34 :: u35 :: u36 :: u37 :: u38 :: u39 :: u40 :: u41 :: u42 :: u43 :: u44 :: u45 :: u46 :: u47 :: u48 :: u49 :: u50 :: u51 :: u52 :: u53 :: u54 :: u55 :: u56 :: u57 :: u58 :: u59 :: u60 :: u61 :: u62 :: u63 :: u64 :: u65 :: u66 :: u67 :: u68 :: u69 :: u70 :: u71 :: u72 :: u73 :: u74 :: u75 :: u76 :: u77 :: u78 :: u79 :: u80 :: u81 :: u82 :: u83 :: u84 :: u85 :: u86 :: u87 :: u88 :: u89 :: u90 :: u91 :: u92 :: u93 :: u94 :: u95 :: u96 :: u97 :: u98 :: u99 :: u100 :: u101 :: u102 :: u103 :: u104 :: u105 :: u106 :: u107 :: u108 :: u109 :: u110 :: u111 :: u112 :: u113 :: u114 :: u115 :: u116 :: u117 :: u118 :: u119 :: u120 :: u121 :: u122 :: u123 :: u124 :: u125 :: u126 :: u127 :: u128 :: u129 :: u130 :: u131 :: u132 :: u133 :: u134 :: u135 :: u136 :: u137 :: u138 :: u139 :: u140 :: u141 :: u142 :: u143 :: u144 :: u145 :: u146 :: u147 :: u148 :: u149 :: u150 :: u151 :: u152 :: u153 :: u154 :: u155 :: u156 :: u157 :: u158 :: u159 :: u160 :: u161 :: u162 :: u163 :: u164 :: u165 :: .int .i64 (Ln : Int) :: .int .i64 0 :: u168 :: u169 :: u170 :: u171 :: u172 :: u173 :: u174 :: u175 :: u176 :: u177 :: u178 :: u179 :: u180 :: u181 :: u182 :: u183 :: u184 :: u185 :: u186 :: u187 :: u188 :: u189 :: u190 :: u191 :: u192 :: u193 :: u194 :: u195 :: u196 :: u197 :: u198 :: u199 :: u200 :: u201 :: u202 :: u203 :: u204 :: u205 :: u206 :: u207 :: u208 :: u209 :: u210 :: u211 :: u212 :: u213 :: u214 :: u215 :: [])), []⟩ wz := by
  conv => arg 2; arg 1; whnf
  go_loopw [167] (fun q wr => ∃ (i : Nat) (L : List Lk), i ≤ Ln ∧ q = .int .i64 i ∧ Own wr 58 7 A Ln c (lvs L) ∧ Chg (bo A) wz wr) (fun q _ => Ln - (intOf q).toNat)
  case atStart => exact ⟨0, L0, Nat.zero_le _, rfl, HO.out, Chg.refl _ _⟩
  case round =>
    obtain ⟨i, L, hi, rfl, hown, hch⟩ := hrel
    by_cases hlt : i < Ln
    · have hlt' : (i : Int) < Ln := by omega
      have hLl : L.length = Ln := by have := hown.rd.1; rw [lvs_length] at this; omega
      obtain ⟨l, hl⟩ : ∃ l, L[i]? = some l := ⟨_, List.getElem?_eq_getElem (by omega)⟩
      obtain ⟨g, rfl, _⟩ := hown.lk hl
      have y0 := hown.cl hl (k := 0) (u := .bool l.live) (by decide) rfl
      have y1 := hown.cl hl (k := 1) (u := .int .i64 l.src) (by decide) rfl
      have y2 := hown.cl hl (k := 2) (u := .int .i64 l.dst) (by decide) rfl
      have y3 := hown.cl hl (k := 3) (u := .int .i64 l.sp) (by decide) rfl
      have y4 := hown.cl hl (k := 4) (u := .int .i64 l.tp) (by decide) rfl
      have y5 := hown.cl hl (k := 5) (u := .int .i64 l.sn) (by decide) rfl
      have y6 := hown.cl hl (k := 6) (u := .int .i64 l.tn) (by decide) rfl
      simp only [Nat.add_zero] at y0
      have f0 := hown.fz (i * 7)
      have f1 := hown.fz (i * 7 + 1)
      have f2 := hown.fz (i * 7 + 2)
      have f3 := hown.fz (i * 7 + 3)
      have f4 := hown.fz (i * 7 + 4)
      have f5 := hown.fz (i * 7 + 5)
      have f6 := hown.fz (i * 7 + 6)
      have HLL := Lib.hid hl
      clear hl hLl
      go_wp2
      go_roundw
      case rel => exact ⟨i + 1, _, by omega, by go_num, hown.set7 HLL.out _ _ _ _ _ _ _, (((((((hch.setCell (.inl (by simp [bo])) _).setCell (.inl (by simp [bo])) _).setCell (.inl (by simp [bo])) _).setCell (.inl (by simp [bo])) _).setCell (.inl (by simp [bo])) _).setCell (.inl (by simp [bo])) _).setCell (.inl (by simp [bo])) _)⟩
      case measure => simp [intOf]; omega
    · obtain rfl : i = Ln := by omega
      go_wp2
      exact HEXIT.out L _ _ _ _ _ _ _ _ _ _ ⟨hown, hch⟩
end Go.Proofs.Ytelmnmepdmfihaa
