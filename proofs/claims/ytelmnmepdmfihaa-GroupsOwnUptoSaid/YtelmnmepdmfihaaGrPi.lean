/-
  Layer 17: the innermost loop of GroupsParts, as a theorem of its own.
-/
import Derived.Test.YtelmnmepdmfihaaGrX
import Derived.Test.YtelmnmepdmfihaaGrPq
import Derived.Test.YtelmnmepdmfihaaLkV
import Derived.Laws.OwnMore
import Derived.Deep.OwnRows
namespace Go.Proofs.Ytelmnmepdmfihaa
open Go.RowKit

theorem pk_prev {b : Bn} {ls : List Lk} {ts : List Int} {node t : Int} {k M p : Nat} {x y : Int} (hb : b = bnOf ls ts node (incident ls node) t) (h1 : (b.f k)[M]? = some x) (h2 : (b.f k)[p]? = some y) (h : M < p) : decide (y ≤ x) = false := by
  subst hb
  obtain ⟨a1, a2⟩ := List.getElem?_eq_some_iff.1 h1
  obtain ⟨a3, a4⟩ := List.getElem?_eq_some_iff.1 h2
  have q : (pk ls ts node (incident ls node) t k)[M] < (pk ls ts node (incident ls node) t k)[p] := List.pairwise_iff_getElem.1 (pk_sorted ls ts node t k) M p a1 a3 h
  have e2 : (pk ls ts node (incident ls node) t k)[M] = x := a2
  have e3 : (pk ls ts node (incident ls node) t k)[p] = y := a4
  rw [e2, e3] at q
  simp; omega
theorem wrap_pred {p : Nat} (h : 0 < p) (hp : p ≤ 1073741824) : IntKind.i64.wrap ((p : Int) - 1) = ((p - 1 : Nat) : Int) := by rw [IntKind.wrap_i64]; omega
theorem metb_set' (n : Nat) (l : List Int) (q j : Nat) (h : l[q]? = some (j : Int)) : (metb n (l.take q)).set j (.bool true) = metb n (l.take (q + 1)) := metb_set n l q j h

def inLoop : Code → Option Code
  | .loop c => some c
  | .seq a b => match inLoop a with
    | some c => some c
    | none => inLoop b
  | .block _ c => inLoop c
  | .scope c => inLoop c
  | .cond _ a b => match inLoop a with
    | some c => some c
    | none => inLoop b
  | _ => none
noncomputable def partsLoop : Code := ((((Try.f7.body.bind inLoop).bind inLoop).bind inLoop).map Code.loop).getD .skip

set_option maxRecDepth 1000000 in
set_option maxHeartbeats 6400000 in
theorem parts_lp {A SA B : Option Addr} {n c m d SN SC gm rb bk k i : Nat} {ls : List Lk} {ts : List Int} {node t : Int} {bs : List Bn} {b : Bn} {X1 X2 X3 : Value} (wj : World) (Q0 : Exit → Act → World → Prop)
    (HR : ∀ wr, Chg [gm] wj wr → Rd wr 7 A n c (lvs ls)) (HO : ∀ wr, Chg [gm] wj wr → Rd wr 1 B m d (iv ts)) (HRI : ∀ wr, Chg [gm] wj wr → Rd wr 1 SA SN SC (iv (b.f k)))
    (HBX : ∀ wr, Chg [gm] wj wr → Blk wr rb 25 #[.slice A n c, .slice B m d]) (HBK : ∀ wr, Chg [gm] wj wr → Blk wr bk 52 #[.int .i64 t, X1, X2, X3])
    (HOM : Hid (Own wj 4 1 (some ⟨gm, 0, none⟩) n n (metb n ((allIds bs).take (off bs i + offK b k)))))
    (HBI : Hid (bs[i]? = some b)) (HBT : Hid (b = bnOf ls ts node (incident ls node) t)) (HND : Hid ((allIds bs).Nodup)) (HFN : Hid ((allIds bs).length ≤ n)) (HL : Hid (ls.length = n)) (HMN : Hid (n = m)) (hk3 : k < 3) (hn : n ≤ 1073741824) (hfl : SN ≤ n)
    (u0 u3 u4 u5 u7 u9 u13 u14 u15 u16 u17 u18 u19 u20 u21 u22 u23 u24 u25 u26 u27 u28 u29 u30 u31 u32 u33 u34 u35 u36 u37 u38 u39 u40 u41 u42 u43 u44 u45 u46 u47 u48 u49 u50 u51 u52 u53 u54 u55 u56 u57 u58 u59 u60 u61 u62 u63 u64 u65 u66 u67 u68 u69 u70 u71 u72 u73 u74 u75 u76 u77 u78 u79 u83 u84 u85 u86 u87 u88 u89 u90 u91 u92 u93 u94 u95 u96 u97 u98 u99 u100 u101 u102 u103 u104 u105 u106 u107 u108 u109 u110 u111 u112 u113 u114 u115 u116 u117 u118 u119 u120 u121 u122 u123 u124 u125 u126 u127 u128 u129 u130 u131 u132 u133 u134 u135 u136 u137 u138 u139 u140 u141 u142 u143 u144 u145 u146 u147 u148 u149 u150 u151 u152 u153 u154 u155 u156 u157 u158 u159 u160 u161 u162 u163 u164 : Value)
    (hexit : ∀ (v4 v13 v14 v15 v82 v83 v84 v85 v86 v87 v88 v89 v90 v91 v92 v93 v94 v95 v96 v97 v98 v99 v100 v101 v102 v103 v104 v105 v106 v107 v108 v109 v110 v111 v112 v113 v114 v115 v116 v117 v118 v119 v120 v121 v122 v123 v124 v125 v126 v127 v128 v129 v130 v131 v132 v133 v134 v135 v136 v137 v138 v139 v140 v141 v142 v143 v144 v145 v146 v147 v148 v149 v150 v151 v152 v153 v154 v155 : Value) (wr : World), Own wr 4 1 (some ⟨gm, 0, none⟩) n n (metb n ((allIds bs).take (off bs i + (offK b k + SN)))) ∧ Chg [gm] wj wr → Q0 (.exit 4) ⟨(List.toArray (u0 :: .int .i64 node :: .pointer (some ⟨rb, 0, none⟩) :: u3 :: v4 :: u5 :: .int .i64 ((off bs i + (offK b k + SN) : Nat) : Int) :: u7 :: .slice (some ⟨gm, 0, none⟩) n n :: u9 :: .pointer (some ⟨bk, 0, none⟩) :: .int .i64 (k : Int) :: .slice SA SN SC :: v13 :: v14 :: v15 :: u16 :: u17 :: u18 :: u19 :: u20 :: u21 :: u22 :: u23 :: u24 :: u25 :: u26 :: u27 :: u28 :: u29 :: u30 :: u31 :: u32 :: u33 :: u34 :: u35 :: u36 :: u37 :: u38 :: u39 :: u40 :: u41 :: u42 :: u43 :: u44 :: u45 :: u46 :: u47 :: u48 :: u49 :: u50 :: u51 :: u52 :: u53 :: u54 :: u55 :: u56 :: u57 :: u58 :: u59 :: u60 :: u61 :: u62 :: u63 :: u64 :: u65 :: u66 :: u67 :: u68 :: u69 :: u70 :: u71 :: u72 :: u73 :: u74 :: u75 :: u76 :: u77 :: u78 :: u79 :: .slice SA SN SC :: .int .i64 (SN : Int) :: v82 :: v83 :: v84 :: v85 :: v86 :: v87 :: v88 :: v89 :: v90 :: v91 :: v92 :: v93 :: v94 :: v95 :: v96 :: v97 :: v98 :: v99 :: v100 :: v101 :: v102 :: v103 :: v104 :: v105 :: v106 :: v107 :: v108 :: v109 :: v110 :: v111 :: v112 :: v113 :: v114 :: v115 :: v116 :: v117 :: v118 :: v119 :: v120 :: v121 :: v122 :: v123 :: v124 :: v125 :: v126 :: v127 :: v128 :: v129 :: v130 :: v131 :: v132 :: v133 :: v134 :: v135 :: v136 :: v137 :: v138 :: v139 :: v140 :: v141 :: v142 :: v143 :: v144 :: v145 :: v146 :: v147 :: v148 :: v149 :: v150 :: v151 :: v152 :: v153 :: v154 :: v155 :: u156 :: u157 :: u158 :: u159 :: u160 :: u161 :: u162 :: u163 :: u164 :: [])), []⟩ wr) :
    Code.wp Try.prog partsLoop Q0 ⟨(List.toArray (u0 :: .int .i64 node :: .pointer (some ⟨rb, 0, none⟩) :: u3 :: u4 :: u5 :: .int .i64 ((off bs i + offK b k : Nat) : Int) :: u7 :: .slice (some ⟨gm, 0, none⟩) n n :: u9 :: .pointer (some ⟨bk, 0, none⟩) :: .int .i64 (k : Int) :: .slice SA SN SC :: u13 :: u14 :: u15 :: u16 :: u17 :: u18 :: u19 :: u20 :: u21 :: u22 :: u23 :: u24 :: u25 :: u26 :: u27 :: u28 :: u29 :: u30 :: u31 :: u32 :: u33 :: u34 :: u35 :: u36 :: u37 :: u38 :: u39 :: u40 :: u41 :: u42 :: u43 :: u44 :: u45 :: u46 :: u47 :: u48 :: u49 :: u50 :: u51 :: u52 :: u53 :: u54 :: u55 :: u56 :: u57 :: u58 :: u59 :: u60 :: u61 :: u62 :: u63 :: u64 :: u65 :: u66 :: u67 :: u68 :: u69 :: u70 :: u71 :: u72 :: u73 :: u74 :: u75 :: u76 :: u77 :: u78 :: u79 :: .slice SA SN SC :: .int .i64 (SN : Int) :: .int .i64 0 :: u83 :: u84 :: u85 :: u86 :: u87 :: u88 :: u89 :: u90 :: u91 :: u92 :: u93 :: u94 :: u95 :: u96 :: u97 :: u98 :: u99 :: u100 :: u101 :: u102 :: u103 :: u104 :: u105 :: u106 :: u107 :: u108 :: u109 :: u110 :: u111 :: u112 :: u113 :: u114 :: u115 :: u116 :: u117 :: u118 :: u119 :: u120 :: u121 :: u122 :: u123 :: u124 :: u125 :: u126 :: u127 :: u128 :: u129 :: u130 :: u131 :: u132 :: u133 :: u134 :: u135 :: u136 :: u137 :: u138 :: u139 :: u140 :: u141 :: u142 :: u143 :: u144 :: u145 :: u146 :: u147 :: u148 :: u149 :: u150 :: u151 :: u152 :: u153 :: u154 :: u155 :: u156 :: u157 :: u158 :: u159 :: u160 :: u161 :: u162 :: u163 :: u164 :: [])), []⟩ wj := by
  conv => arg 2; whnf
  go_loopw [82, 6] (fun q tot wr => ∃ p : Nat, p ≤ SN ∧ q = .int .i64 p ∧ tot = .int .i64 ((off bs i + (offK b k + p) : Nat) : Int) ∧ Own wr 4 1 (some ⟨gm, 0, none⟩) n n (metb n ((allIds bs).take (off bs i + (offK b k + p)))) ∧ Chg [gm] wj wr) (fun q _ _ => SN - (intOf q).toNat)
  case atStart => exact ⟨0, Nat.zero_le _, rfl, rfl, HOM.out, Chg.refl _ _⟩
  case round =>
    obtain ⟨p, hp, rfl, rfl, hom, hcj⟩ := hrel
    have HR0 := Lib.hid HR
    have HO0 := Lib.hid HO
    have HRI0 := Lib.hid HRI
    have HBX0 := Lib.hid HBX
    have HBK0 := Lib.hid HBK
    clear HR HO HRI HBX HBK
    have HOMJ := Lib.hid hom
    have HCJ := Lib.hid hcj
    clear hom hcj
    by_cases hlp : p < SN
    · obtain ⟨ad, id, hA, hid, hcell⟩ := rd_int (HRI0.out wr HCJ.out) hlp
      have hidm : id ∈ pk ls ts node (incident ls node) t k := by have q := List.mem_of_getElem? hid; rw [HBT.out] at q; exact q
      obtain ⟨h0, hty, l, hl1, hlv, _, hs1, hs2⟩ := pk_facts hidm
      obtain ⟨j, rfl⟩ := Int.eq_ofNat_of_zero_le h0
      simp only [Int.toNat_natCast] at hl1
      have hjn : j < n := by have := (List.getElem?_eq_some_iff.1 hl1).1; have := HL.out; omega
      have hjn' : (j : Int) < n := by omega
      obtain ⟨al, rfl, x20, x21, x22, x23, x24, x25, x26⟩ := (HR0.out wr HCJ.out).lk hl1
      obtain ⟨bt, t2, rfl, ht2, x1⟩ := rd_int (HO0.out wr HCJ.out) (show j < m by have := HMN.out; omega)
      have htt : t2 = t := by unfold tyOf at hty; simp [ht2] at hty; exact hty
      subst htt
      have hjm' : (j : Int) < m := by have := HMN.out; omega
      rw [hlv] at x20
      have HFQ : Hid ((allIds bs)[off bs i + (offK b k + p)]? = some (j : Int)) := Lib.hid (allIds_at HBI.out hk3 hid)
      have hmet := metb_at n ((allIds bs).take (off bs i + (offK b k + p))) j hjn
      rw [decide_eq_false (not_before HND.out HFQ.out)] at hmet
      obtain ⟨am, u, ham, hu, hmc, hmf, _⟩ := HOMJ.out.at1 hjn
      rw [hmet] at hu
      injection hu with hu
      subst hu
      injection ham with ham
      subst ham
      rw [add_zero', Nat.zero_add] at hmc hmf
      have hq : off bs i + (offK b k + p) < n := by have q := (List.getElem?_eq_some_iff.1 HFQ.out).1; have := HFN.out; omega
      have hwt : IntKind.i64.wrap (((off bs i + (offK b k + p) : Nat) : Int) + 1) = ((off bs i + (offK b k + (p + 1)) : Nat) : Int) := by rw [IntKind.wrap_i64]; omega
      have v0 := (HBX0.out wr HCJ.out).cell 0
      have v1 := (HBX0.out wr HCJ.out).cell 1
      have k0 := (HBK0.out wr HCJ.out).cell 0
      simp at v0 v1 k0
      have HID := Lib.hid hid
      have HL1 := Lib.hid hl1
      have HLV := Lib.hid hlv
      have hjneg : decide ((j : Int) < 0) = false := by simp
      have hjge : decide ((n : Int) ≤ (j : Int)) = false := by simp; omega
      have hjge2 : decide (n ≤ j) = false := by simp; omega
      have hjge3 : decide ((j : Int) < (n : Int)) = true := by simp; omega
      have htb : (t2 != t2) = false := by simp
      have HS1 := Lib.hid hs1
      have HS2 := Lib.hid hs2
      clear hs1 hs2 hid hl1 hlv ht2 h0 hty hmet
      by_cases hpp : 0 < p
      · obtain ⟨M, hM⟩ : ∃ M, M = p - 1 := ⟨_, rfl⟩
        obtain ⟨ad2, id2, hA2, hid2, hcell2⟩ := rd_int (HRI0.out wr HCJ.out) (show M < SN from hM ▸ Nat.lt_of_le_of_lt (Nat.sub_le p 1) hlp)
        rw [hA] at hA2
        injection hA2 with hA2
        subst hA2
        have hle : decide ((j : Int) ≤ id2) = false := pk_prev HBT.out hid2 HID.out (hM ▸ Nat.sub_lt hpp Nat.one_pos)
        have hwn : IntKind.i64.wrap ((p : Int) - 1) = (M : Int) := hM ▸ wrap_pred hpp (Nat.le_trans (Nat.le_of_lt hlp) (Nat.le_trans hfl hn))
        have kk1 : (0 : Int) ≤ (M : Int) := Int.natCast_nonneg M
        have kk2 : (M : Int) < (SN : Int) := Int.ofNat_lt.2 (hM ▸ Nat.lt_of_le_of_lt (Nat.sub_le p 1) hlp)
        clear hid2 hM
        subst hA
        go_wp2_with fail
        go_quiet (fail)
        have c1 : ((l.src == node) != ((k : Int) != 1)) = false := by
          have q := HS1.out
          rcases (by omega : k = 0 ∨ k = 1 ∨ k = 2) with rfl | rfl | rfl <;> simp at q <;> simp [q]
        have c2 : ((l.dst == node) != ((k : Int) != 0)) = false := by
          have q := HS2.out
          rcases (by omega : k = 0 ∨ k = 1 ∨ k = 2) with rfl | rfl | rfl <;> simp at q <;> simp [q]
        have D1 : Hid ((l.src == node) = ((k : Int) != 1)) := Lib.hid (by
          have q := HS1.out
          rcases (by omega : k = 0 ∨ k = 1 ∨ k = 2) with rfl | rfl | rfl <;> simp at q <;> simp [q])
        have D2 : Hid (¬ ((!(l.dst == node) == ((k : Int) != 0)) = true)) := Lib.hid (by
          have q := HS2.out
          rcases (by omega : k = 0 ∨ k = 1 ∨ k = 2) with rfl | rfl | rfl <;> simp at q <;> simp [q])
        clear v0 v1 x20 x21 x22 x23 x24 x25 x26 x1 k0
        have hW : Chg [gm] wj ((wr.drewN nq).setCell ⟨gm, j, none⟩ (.bool true)) := (HCJ.out.drewN nq).setCell (.inl (by simp)) _
        have hs : Own ((wr.drewN nq).setCell ⟨gm, j, none⟩ (.bool true)) 4 1 (some ⟨gm, 0, none⟩) n n (metb n ((allIds bs).take (off bs i + (offK b k + (p + 1))))) := by
          obtain ⟨am2, u2, ham2, hu2, _, _, q⟩ := (HOMJ.out.chg ((Chg.refl [] wr).drewN nq) (fun _ _ => List.not_mem_nil)).at1 hjn
          injection ham2 with ham2
          subst ham2
          rw [add_zero', Nat.zero_add] at q
          have q := q (.bool true)
          rw [metb_set' n (allIds bs) _ j HFQ.out] at q
          exact q
        have v0 := (HBX0.out _ hW).cell 0
        simp at v0
        obtain ⟨al2, e2, x20, x21, x22, x23, x24, x25, x26⟩ := (HR0.out _ hW).lk HL1.out
        injection e2 with e2
        subst e2
        rw [HLV.out] at x20
        have hbn := Blk.new ((wr.drewN nq).setCell ⟨gm, j, none⟩ (.bool true)) 55 #[.bool true, .int .i64 l.src, .int .i64 l.dst, .int .i64 l.sp, .int .i64 l.tp, .int .i64 l.sn, .int .i64 l.tn]
        have w0 := hbn.cell 0
        have w1 := hbn.cell 1
        have w2 := hbn.cell 2
        simp at w0 w1 w2
        have HBNN := Lib.hid hbn
        have HS := Lib.hid hs
        have HWW := Lib.hid hW
        clear hbn hs hW HR0 HBX0 HRI0 HO0 HBK0 hexit
        go_wp2
        all_goals first | (exfalso; exact D2.out (by assumption)) | (exfalso; exact absurd D1.out (by assumption)) | skip
        go_roundw
        case rel => exact ⟨p + 1, by omega, by go_num, rfl, HS.out.chg ((Chg.refl [] _).alloc _) (fun _ _ => List.not_mem_nil), HWW.out.alloc _⟩
        case measure => simp [intOf]; omega
      · subst hA
        go_wp2_with fail
        go_quiet (fail)
        have c1 : ((l.src == node) != ((k : Int) != 1)) = false := by
          have q := HS1.out
          rcases (by omega : k = 0 ∨ k = 1 ∨ k = 2) with rfl | rfl | rfl <;> simp at q <;> simp [q]
        have c2 : ((l.dst == node) != ((k : Int) != 0)) = false := by
          have q := HS2.out
          rcases (by omega : k = 0 ∨ k = 1 ∨ k = 2) with rfl | rfl | rfl <;> simp at q <;> simp [q]
        have D1 : Hid ((l.src == node) = ((k : Int) != 1)) := Lib.hid (by
          have q := HS1.out
          rcases (by omega : k = 0 ∨ k = 1 ∨ k = 2) with rfl | rfl | rfl <;> simp at q <;> simp [q])
        have D2 : Hid (¬ ((!(l.dst == node) == ((k : Int) != 0)) = true)) := Lib.hid (by
          have q := HS2.out
          rcases (by omega : k = 0 ∨ k = 1 ∨ k = 2) with rfl | rfl | rfl <;> simp at q <;> simp [q])
        clear v0 v1 x20 x21 x22 x23 x24 x25 x26 x1 k0
        have hW : Chg [gm] wj ((wr.drewN nq).setCell ⟨gm, j, none⟩ (.bool true)) := (HCJ.out.drewN nq).setCell (.inl (by simp)) _
        have hs : Own ((wr.drewN nq).setCell ⟨gm, j, none⟩ (.bool true)) 4 1 (some ⟨gm, 0, none⟩) n n (metb n ((allIds bs).take (off bs i + (offK b k + (p + 1))))) := by
          obtain ⟨am2, u2, ham2, hu2, _, _, q⟩ := (HOMJ.out.chg ((Chg.refl [] wr).drewN nq) (fun _ _ => List.not_mem_nil)).at1 hjn
          injection ham2 with ham2
          subst ham2
          rw [add_zero', Nat.zero_add] at q
          have q := q (.bool true)
          rw [metb_set' n (allIds bs) _ j HFQ.out] at q
          exact q
        have v0 := (HBX0.out _ hW).cell 0
        simp at v0
        obtain ⟨al2, e2, x20, x21, x22, x23, x24, x25, x26⟩ := (HR0.out _ hW).lk HL1.out
        injection e2 with e2
        subst e2
        rw [HLV.out] at x20
        have hbn := Blk.new ((wr.drewN nq).setCell ⟨gm, j, none⟩ (.bool true)) 55 #[.bool true, .int .i64 l.src, .int .i64 l.dst, .int .i64 l.sp, .int .i64 l.tp, .int .i64 l.sn, .int .i64 l.tn]
        have w0 := hbn.cell 0
        have w1 := hbn.cell 1
        have w2 := hbn.cell 2
        simp at w0 w1 w2
        have HBNN := Lib.hid hbn
        have HS := Lib.hid hs
        have HWW := Lib.hid hW
        clear hbn hs hW HR0 HBX0 HRI0 HO0 HBK0 hexit
        go_wp2
        all_goals first | (exfalso; exact D2.out (by assumption)) | (exfalso; exact absurd D1.out (by assumption)) | skip
        go_roundw
        case rel => exact ⟨p + 1, by omega, by go_num, rfl, HS.out.chg ((Chg.refl [] _).alloc _) (fun _ _ => List.not_mem_nil), HWW.out.alloc _⟩
        case measure => simp [intOf]; omega
    · obtain rfl : p = SN := by omega
      go_wp2
      exact ⟨HOMJ.out, HCJ.out⟩
end Go.Proofs.Ytelmnmepdmfihaa
