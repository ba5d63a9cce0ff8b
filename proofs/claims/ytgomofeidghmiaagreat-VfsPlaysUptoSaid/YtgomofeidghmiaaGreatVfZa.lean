/-
  Layer 08: the document's rows of directories: at, file, with, without.
-/
import Derived.Test.YtgomofeidghmiaaGreatVfJi
namespace Go.Proofs.YtgomofeidghmiaaGreat
open Go.RowKit

/-- the place of a directory, or -1 -/
def atI (d : ByteArray) : Nat → Tr → Int
  | _, [] => -1
  | k, p :: r => if p.1 = d then (k : Int) else atI d (k + 1) r
theorem atI_none {d : ByteArray} {T : Tr} (h : aget T d = none) : ∀ k, atI d k T = -1 := by
  induction T with
  | nil => intro k; rfl
  | cons p r ih =>
    intro k
    rw [aget_cons] at h
    by_cases he : p.1 = d
    · rw [if_pos he] at h; cases h
    · rw [if_neg he] at h
      unfold atI
      rw [if_neg he]
      exact ih h (k + 1)
theorem atI_some {d : ByteArray} {T : Tr} {F : Fol} (h : aget T d = some F) : ∀ k, ∃ i : Nat, atI d k T = ((k + i : Nat) : Int) ∧ T[i]? = some (d, F) := by
  induction T with
  | nil => cases h
  | cons p r ih =>
    intro k
    rw [aget_cons] at h
    by_cases he : p.1 = d
    · rw [if_pos he] at h
      injection h with h
      refine ⟨0, ?_, ?_⟩
      · unfold atI; rw [if_pos he]; rfl
      · rw [← he, ← h]; rfl
    · rw [if_neg he] at h
      obtain ⟨i, h1, h2⟩ := ih h (k + 1)
      refine ⟨i + 1, ?_, by simpa using h2⟩
      unfold atI
      rw [if_neg he, h1]
      congr 1
      omega
theorem atI_ge (d : ByteArray) (T : Tr) : ∀ k, -1 ≤ atI d k T ∧ atI d k T < ((k + T.length + 1 : Nat) : Int) := by
  induction T with
  | nil => intro k; simp only [atI, List.length_nil]; omega
  | cons p r ih =>
    intro k
    unfold atI
    have := ih (k + 1)
    simp only [List.length_cons]
    split <;> omega
/-- a file's number, or -1 -/
def fileI (F : Fol) (n : ByteArray) : Int := match aget F n with
  | some i => (i : Int)
  | none => -1
theorem fileI_cons (q : ByteArray × Nat) (r : Fol) (n : ByteArray) : fileI (q :: r) n = if q.1 = n then (q.2 : Int) else fileI r n := by
  unfold fileI
  rw [aget_cons]
  by_cases h : q.1 = n <;> simp [h]
theorem str_beq8 (a b : ByteArray) : decide (a = b) = (a.toList == b.toList) := by
  rw [Bool.eq_iff_iff, decide_eq_true_eq, beq_iff_eq]
  refine ⟨fun h => by rw [h], fun h => ?_⟩
  rw [ByteArray.toList_eq, ByteArray.toList_eq] at h
  exact data_inj h
theorem run_lss_str (a b : ByteArray) (w : World) : (binOp .lss 9 (.string a) (.string b)).run Tryz.prog w = .ok (.bool (ltS a b)) w := by
  simp [binOp, Op.stringOp, ltS]

set_option maxRecDepth 100000 in
set_option maxHeartbeats 3200000 in
theorem rat_any (A : Option Addr) (n c : Nat) (rs : List RF) (d : ByteArray) (w : World) (h : RTree w A n c rs) (hn : n ≤ 1073741824) :
    Calls Tryz.prog 85 #[.slice A n c, .string d] w fun e w' => e = .returned (.int .i64 (atI d 0 (rval rs))) ∧ w' = w := by
  have hlx := h.len
  have HA := Lib.hid h
  have HLX := Lib.hid hlx
  clear h hlx
  go_enter Tryz.func85, Tryz.ntmps85
  go_wp2
  go_loop [5] (fun q => ∃ i : Nat, i ≤ n ∧ q = .int .i64 i ∧ atI d i (rval (rs.drop i)) = atI d 0 (rval rs)) (fun q => n - (intOf q).toNat)
  case atStart => exact ⟨0, Nat.zero_le _, rfl, rfl⟩
  case round =>
    obtain ⟨i, hi, rfl, hat⟩ := hrel
    have HAT := Lib.hid hat
    clear hat
    by_cases hlt : i < n
    · have hlt' : (i : Int) < n := by omega
      obtain ⟨x, hx⟩ : ∃ x, rs[i]? = some x := ⟨_, List.getElem?_eq_getElem (by have := HLX.out; omega)⟩
      obtain ⟨ad, rfl, hatx⟩ := HA.out.row.ns (rnsl_at hx)
      have x0 := hatx.c0
      obtain ⟨cb, hcb⟩ : ∃ cb, (x.1.nm.toList == d.toList) = cb := ⟨_, rfl⟩
      have HDR : Hid (atI d i (rval (rs.drop i)) = if x.1.nm = d then (i : Int) else atI d (i + 1) (rval (rs.drop (i + 1)))) := Lib.hid (by
        rw [List.drop_eq_getElem_cons (List.getElem?_eq_some_iff.1 hx).1, (List.getElem?_eq_some_iff.1 hx).2]
        rfl)
      have HCB : Hid (decide (x.1.nm = d) = cb) := Lib.hid (by rw [str_beq8, hcb])
      clear hx hatx
      cases cb with
      | true =>
        have HR : Hid (atI d 0 (rval rs) = (i : Int)) := Lib.hid (by rw [← HAT.out, HDR.out, if_pos (of_decide_eq_true HCB.out)])
        go_wp2
        go_ret
        exact ⟨by rw [HR.out]; rfl, rfl⟩
      | false =>
        go_wp2
        go_round
        case rel => exact ⟨i + 1, by omega, by go_num, by rw [← HAT.out, HDR.out, if_neg (of_decide_eq_false HCB.out)]⟩
        case measure => simp [intOf]; omega
    · obtain rfl : i = n := by omega
      have HR : Hid (atI d 0 (rval rs) = -1) := Lib.hid (by rw [← HAT.out, List.drop_of_length_le (by have := HLX.out; omega)]; rfl)
      go_wp2
      go_ret
      exact ⟨by rw [HR.out]; rfl, rfl⟩

set_option maxRecDepth 100000 in
set_option maxHeartbeats 3200000 in
theorem rfile_any (nm : ByteArray) (A : Option Addr) (n c : Nat) (F : Fol) (d : ByteArray) (w : World) (h : Rd w 2 A n c (nmv F)) (hn : n ≤ 1073741824) :
    Calls Tryz.prog 86 #[.agg #[.string nm, .slice A n c], .string d] w fun e w' => e = .returned (.int .i64 (fileI F d)) ∧ Chg [] w w' := by
  have hlx := h.nml
  have HA := Lib.hid h
  have HLX := Lib.hid hlx
  clear h hlx
  go_enter Tryz.func86, Tryz.ntmps86
  obtain ⟨sb, hsb⟩ : ∃ sb, w.heap.size = sb := ⟨_, rfl⟩
  obtain ⟨W, hW⟩ : ∃ W, w.alloc (.cells #[.string nm, .slice A n c] 106) = W := ⟨_, rfl⟩
  have hbk : Blk W sb 106 #[.string nm, .slice A n c] := by rw [← hW, ← hsb]; exact Blk.new w _ _
  have hcW : Chg [] w W := by rw [← hW]; exact (Chg.refl [] w).alloc _
  have HAW := Lib.hid (HA.out.chg hcW (fun _ _ => List.not_mem_nil))
  have HCW := Lib.hid hcW
  have b1 := hbk.cell 1
  simp only [List.getElem?_toArray, List.getElem?_cons_succ, List.getElem?_cons_zero] at b1
  clear hbk hcW
  go_wp2
  go_loop [5] (fun q => ∃ i : Nat, i ≤ n ∧ q = .int .i64 i ∧ fileI (F.drop i) d = fileI F d) (fun q => n - (intOf q).toNat)
  case atStart => exact ⟨0, Nat.zero_le _, rfl, rfl⟩
  case round =>
    obtain ⟨i, hi, rfl, hat⟩ := hrel
    have HAT := Lib.hid hat
    clear hat
    by_cases hlt : i < n
    · have hlt' : (i : Int) < n := by omega
      obtain ⟨x, hx⟩ : ∃ x, F[i]? = some x := ⟨_, List.getElem?_eq_getElem (by have := HLX.out; omega)⟩
      obtain ⟨ad, hadA, hatx⟩ := HAW.out.nm hx
      have HADA := Lib.hid hadA
      subst hadA
      have x0 := hatx.c0
      have x1 := hatx.c1
      obtain ⟨cb, hcb⟩ : ∃ cb, (x.1.toList == d.toList) = cb := ⟨_, rfl⟩
      have HDR : Hid (fileI (F.drop i) d = if x.1 = d then (x.2 : Int) else fileI (F.drop (i + 1)) d) := Lib.hid (by
        rw [List.drop_eq_getElem_cons (List.getElem?_eq_some_iff.1 hx).1, (List.getElem?_eq_some_iff.1 hx).2, fileI_cons])
      have HCB : Hid (decide (x.1 = d) = cb) := Lib.hid (by rw [str_beq8, hcb])
      clear hx hatx
      cases cb with
      | true =>
        have HR : Hid (fileI F d = (x.2 : Int)) := Lib.hid (by rw [← HAT.out, HDR.out, if_pos (of_decide_eq_true HCB.out)])
        go_wp2
        go_ret
        exact ⟨by rw [HR.out]; rfl, HCW.out⟩
      | false =>
        go_wp2
        go_round
        case rel => exact ⟨i + 1, by omega, by go_num, by rw [← HAT.out, HDR.out, if_neg (of_decide_eq_false HCB.out)]⟩
        case measure => simp [intOf]; omega
    · obtain rfl : i = n := by omega
      have HR : Hid (fileI F d = -1) := Lib.hid (by rw [← HAT.out, List.drop_of_length_le (by have := HLX.out; omega)]; rfl)
      go_wp2
      go_ret
      exact ⟨by rw [HR.out]; rfl, HCW.out⟩

/-- a tree is told, its rows new or among Ks -/
def TrIn (Ks : List Nat) (w : World) (T : Tr) (e : Ending) (w' : World) : Prop :=
  ∃ A c rs, e = .returned (.slice A T.length c) ∧ RTree w' A T.length c rs ∧ rval rs = T ∧ Chg [] w w' ∧ ∀ k ∈ bo A ++ rblk rs, k ∈ Ks ∨ (w.heap.size ≤ k ∧ k < w'.heap.size)
theorem rblk_mem {rs : List RF} {z : RF} (h : z ∈ rs) : ∀ k ∈ bo z.1.A, k ∈ rblk rs := fun _ hk => List.mem_flatMap.2 ⟨z, h, hk⟩
theorem rval_len (rs : List RF) : (rval rs).length = rs.length := by simp [rval]

set_option maxRecDepth 100000 in
set_option maxHeartbeats 3200000 in
theorem rwithout_any (A : Option Addr) (n c : Nat) (rs : List RF) (d : ByteArray) (w : World) (h : RTree w A n c rs) (hn : n ≤ 1073741824) :
    Calls Tryz.prog 95 #[.slice A n c, .string d] w (TrIn (rblk rs) w (without (rval rs) d)) := by
  have hlx := h.len
  have HA := Lib.hid h
  have HLX := Lib.hid hlx
  clear h hlx
  go_enter Tryz.func95, Tryz.ntmps95
  go_wp2
  go_loopw [5, 6] (fun o q wr => ∃ (i m : Nat) (A' : Option Addr) (c' : Nat) (zs : List RF), i ≤ n ∧ m ≤ i ∧ q = .int .i64 i ∧ o = .slice A' m c' ∧ Own wr 106 2 A' m c' (nsv (rnsl zs)) ∧ (∀ z ∈ zs, z ∈ rs) ∧ rval zs = without (rval (rs.take i)) d ∧ Chg [] w wr ∧ ∀ k ∈ bo A', w.heap.size ≤ k) (fun _ q _ => n - (intOf q).toNat)
  case atStart => exact ⟨0, 0, _, 0, [], Nat.zero_le _, Nat.le_refl _, rfl, rfl, Own.lit w 106 2 #[] 0 (by decide) rfl, by simp, rfl, (Chg.refl _ _).alloc _, by simp⟩
  case round =>
    obtain ⟨i, m, A', c', zs, hi, hmi, rfl, rfl, hz, hzs, hval, hch, hnw⟩ := hrel
    have HZ := Lib.hid hz
    have HZS := Lib.hid hzs
    have HVAL := Lib.hid hval
    have HCH := Lib.hid hch
    have HNW := Lib.hid hnw
    clear hz hzs hval hch hnw
    by_cases hlt : i < n
    · have hlt' : (i : Int) < n := by omega
      obtain ⟨x, hx⟩ : ∃ x, rs[i]? = some x := ⟨_, List.getElem?_eq_getElem (by have := HLX.out; omega)⟩
      obtain ⟨ad, rfl, hat⟩ := HA.out.row.ns (rnsl_at hx)
      have hat2 := hat.chg HCH.out List.not_mem_nil
      have x0 := hat2.c0
      have x1 := hat2.c1
      obtain ⟨cb, hcb⟩ : ∃ cb, (x.1.nm.toList == d.toList) = cb := ⟨_, rfl⟩
      have hnb : (x.1.nm.toList != d.toList) = !cb := by rw [bne, hcb]
      have HDR : Hid (without (rval (rs.take (i + 1))) d = if x.1.nm = d then without (rval (rs.take i)) d else without (rval (rs.take i)) d ++ [(x.1.nm, x.2)]) := Lib.hid (by
        rw [take_snoc _ _ _ hx, rval_snoc]
        unfold without
        rw [List.filter_append, List.filter_cons]
        by_cases he : x.1.nm = d
        · rw [if_pos he]; simp [he]
        · rw [if_neg he]; simp [he])
      have HCB : Hid (decide (x.1.nm = d) = cb) := Lib.hid (by rw [str_beq8, hcb])
      have HXM := Lib.hid (List.mem_of_getElem? hx)
      clear hx hat hat2
      obtain ⟨⟨nm, fA, fn, fc⟩, F⟩ := x
      simp only at x0 x1 hcb hnb
      cases cb with
      | true =>
        simp only [Bool.not_true] at hnb
        go_wp2
        go_roundw
        case rel => exact ⟨i + 1, m, A', c', zs, by omega, by omega, by go_num, rfl, HZ.out, HZS.out, by rw [HVAL.out, HDR.out, if_pos (of_decide_eq_true HCB.out)], HCH.out, HNW.out⟩
        case measure => simp [intOf]; omega
      | false =>
        simp only [Bool.not_false] at hnb
        go_wp2_with (at_builtin; refine wpList_app rfl _ _ rfl etyFolds rfl (HZ.out.chg ((Chg.refl [] wr).alloc (.cells #[.string nm, .slice fA fn fc] 106)) (fun _ _ => List.not_mem_nil)) rfl (Own.lit wr 106 2 #[.string nm, .slice fA fn fc] 1 (by decide) rfl).rd (nsv_one [⟨nm, fA, fn, fc⟩]) (by unfold maxLen; omega) (by omega) ?_; intro A2 c2 w3 hown3 hchg3 hnew3 _; have HO3 := Lib.hid hown3; have HC3 := Lib.hid hchg3; have HN3 := Lib.hid hnew3; clear hown3 hchg3 hnew3)
        go_roundw
        case rel =>
          have hcAl : Chg [] wr (wr.alloc (.cells #[.string nm, .slice fA fn fc] 106)) := (Chg.refl [] wr).alloc _
          refine ⟨i + 1, m + 1, A2, c2, zs ++ [(⟨nm, fA, fn, fc⟩, F)], by omega, by omega, by go_num, rfl, ?_, fun z hz => ?_, ?_, ?_, fun k hk => ?_⟩
          · have := HO3.out
            rw [rnsl_snoc, nsv_append]
            exact this
          · rcases List.mem_append.1 hz with hz | hz
            · exact HZS.out z hz
            · simp only [List.mem_singleton] at hz; subst hz; exact HXM.out
          · rw [rval_snoc, HVAL.out, HDR.out, if_neg (of_decide_eq_false HCB.out)]
          · exact (HCH.out.trans0 hcAl).trans HC3.out (fun x hx => .inr (HNW.out x hx))
          · rcases HN3.out k hk with h | h
            · exact HNW.out k h
            · have h1 := HCH.out.size; have h2 := h.1; simp at h2; omega
        case measure => simp [intOf]; omega
    · obtain rfl : i = n := by omega
      have HR : Hid (rval zs = without (rval rs) d) := Lib.hid (by rw [HVAL.out, List.take_of_length_le (by have := HLX.out; omega)])
      have HM : Hid (m = (without (rval rs) d).length) := Lib.hid (by
        rw [← HR.out, rval_len]
        have := HZ.out.rd.nsl
        simpa [rnsl] using this.symm)
      go_wp2
      go_ret
      have hm := HM.out
      subst hm
      refine ⟨A', c', zs, rfl, ⟨HZ.out.rd, fun z hz => (HA.out.fil z (HZS.out z hz)).chg HCH.out (fun _ _ => List.not_mem_nil)⟩, HR.out, HCH.out, fun k hk => ?_⟩
      rcases List.mem_append.1 hk with hk | hk
      · exact .inr ⟨HNW.out k hk, HZ.out.lt k hk⟩
      · obtain ⟨z, hz, hk⟩ := List.mem_flatMap.1 hk
        exact .inl (rblk_mem (HZS.out z hz) k hk)

/-- one directory more, in its place -/
def withR (d : RF) : List RF → List RF
  | [] => [d]
  | x :: r => if ltS d.1.nm x.1.nm = true then d :: x :: r else x :: withR d r
theorem withR_cons (d x : RF) (r : List RF) : withR d (x :: r) = if ltS d.1.nm x.1.nm = true then d :: x :: r else x :: withR d r := rfl
def WRel (d : RF) (rs zs : List RF) (tb : Bool) (i : Nat) : Prop := zs ++ (if tb = true then rs.drop i else withR d (rs.drop i)) = withR d rs
theorem WRel.next1 {d x : RF} {rs zs : List RF} {i : Nat} (h : WRel d rs zs true i) (hx : rs.drop i = x :: rs.drop (i + 1)) : WRel d rs (zs ++ [x]) true (i + 1) := by
  unfold WRel at h ⊢
  rw [if_pos rfl] at h ⊢
  rw [← h, hx, List.append_assoc]
  rfl
theorem WRel.next2 {d x : RF} {rs zs : List RF} {i : Nat} (h : WRel d rs zs false i) (hx : rs.drop i = x :: rs.drop (i + 1)) (hl : ltS d.1.nm x.1.nm = false) : WRel d rs (zs ++ [x]) false (i + 1) := by
  unfold WRel at h ⊢
  rw [if_neg (by simp)] at h ⊢
  rw [← h, hx, withR_cons, hl, if_neg (by simp), List.append_assoc]
  rfl
theorem WRel.next3 {d x : RF} {rs zs : List RF} {i : Nat} (h : WRel d rs zs false i) (hx : rs.drop i = x :: rs.drop (i + 1)) (hl : ltS d.1.nm x.1.nm = true) : WRel d rs (zs ++ [d] ++ [x]) true (i + 1) := by
  unfold WRel at h ⊢
  rw [if_neg (by simp)] at h
  rw [if_pos rfl, ← h, hx, withR_cons, hl, if_pos rfl, List.append_assoc, List.append_assoc]
  rfl
theorem rval_withR (d : RF) (rs : List RF) : rval (withR d rs) = withS d.1.nm d.2 (rval rs) := by
  induction rs with
  | nil => rfl
  | cons x r ih =>
    have h : rval (x :: r) = (x.1.nm, x.2) :: rval r := rfl
    unfold withR
    rw [h, withS]
    simp only
    split
    · rfl
    · rw [← ih]; rfl
theorem withR_mem {d z : RF} {rs : List RF} (h : z ∈ withR d rs) : z = d ∨ z ∈ rs := by
  induction rs with
  | nil => simp [withR] at h; exact .inl h
  | cons x r ih =>
    unfold withR at h
    split at h
    · simpa using h
    · rcases List.mem_cons.1 h with rfl | h
      · exact .inr (by simp)
      · rcases ih h with h | h
        · exact .inl h
        · exact .inr (List.mem_cons_of_mem _ h)
theorem withR_len (d : RF) (rs : List RF) : (withR d rs).length = rs.length + 1 := by
  induction rs with
  | nil => rfl
  | cons x r ih =>
    unfold withR
    split
    · rfl
    · simp [ih]

set_option maxRecDepth 100000 in
set_option maxHeartbeats 6400000 in
theorem rwith_any (A : Option Addr) (n c : Nat) (rs : List RF) (dnm : ByteArray) (dA : Option Addr) (dn dc : Nat) (dF : Fol) (w : World) (h : RTree w A n c rs) (hd : Rd w 2 dA dn dc (nmv dF)) (hn : n ≤ 536870912) :
    Calls Tryz.prog 94 #[.slice A n c, .agg #[.string dnm, .slice dA dn dc]] w (TrIn (rblk rs ++ bo dA) w (withS dnm dF (rval rs))) := by
  have hlx := h.len
  have HA0 := Lib.hid h
  have HLX := Lib.hid hlx
  have HD0 := Lib.hid hd
  clear h hlx hd
  obtain ⟨d, hdd⟩ : ∃ d : RF, d = (⟨dnm, dA, dn, dc⟩, dF) := ⟨_, rfl⟩
  have HDD := Lib.hid hdd
  go_enter Tryz.func94, Tryz.ntmps94
  obtain ⟨sb, hsb⟩ : ∃ sb, w.heap.size = sb := ⟨_, rfl⟩
  obtain ⟨W, hW⟩ : ∃ W, w.alloc (.cells #[.string dnm, .slice dA dn dc] 106) = W := ⟨_, rfl⟩
  have hbk : Blk W sb 106 #[.string dnm, .slice dA dn dc] := by rw [← hW, ← hsb]; exact Blk.new w _ _
  have hcW : Chg [] w W := by rw [← hW]; exact (Chg.refl [] w).alloc _
  have HBK := Lib.hid hbk
  have HA := Lib.hid (HA0.out.chg0 hcW)
  have HCW := Lib.hid hcW
  clear hbk hcW hdd
  go_wp2
  go_loopw [5, 6, 7] (fun o t q wr => ∃ (i m : Nat) (A' : Option Addr) (c' : Nat) (zs : List RF) (tb : Bool), i ≤ n ∧ (m ≤ i + 1 ∧ (tb = false → m ≤ i)) ∧ q = .int .i64 i ∧ o = .slice A' m c' ∧ t = .bool tb ∧ Own wr 106 2 A' m c' (nsv (rnsl zs)) ∧ WRel d rs zs tb i ∧ Chg [] W wr ∧ ∀ k ∈ bo A', W.heap.size ≤ k) (fun _ _ q _ => n - (intOf q).toNat)
  case atStart => exact ⟨0, 0, _, 0, [], false, Nat.zero_le _, ⟨by omega, fun _ => Nat.le_refl _⟩, rfl, rfl, rfl, Own.lit W 106 2 #[] 0 (by decide) rfl, by unfold WRel; rfl, (Chg.refl _ _).alloc _, by simp⟩
  case round =>
    obtain ⟨i, m, A', c', zs, tb, hi, ⟨hmi, hmf⟩, rfl, rfl, rfl, hz, hval, hch, hnw⟩ := hrel
    have HMF := Lib.hid hmf
    clear hmf
    have HZ := Lib.hid hz
    have HVAL := Lib.hid hval
    have HCH := Lib.hid hch
    have HNW := Lib.hid hnw
    clear hz hval hch hnw
    have b0 := (HBK.out.chg HCH.out List.not_mem_nil).cell 0
    have b1 := (HBK.out.chg HCH.out List.not_mem_nil).cell 1
    simp only [List.getElem?_toArray, List.getElem?_cons_succ, List.getElem?_cons_zero] at b0 b1
    by_cases hlt : i < n
    · have hlt' : (i : Int) < n := by omega
      have hi0 : (0 : Int) ≤ (i : Int) := by omega
      obtain ⟨x, hx⟩ : ∃ x, rs[i]? = some x := ⟨_, List.getElem?_eq_getElem (by have := HLX.out; omega)⟩
      obtain ⟨ad, rfl, hat⟩ := HA.out.row.ns (rnsl_at hx)
      have hat2 := hat.chg HCH.out List.not_mem_nil
      have x0 := hat2.c0
      have x1 := hat2.c1
      have HDR : Hid (rs.drop i = x :: rs.drop (i + 1)) := Lib.hid (by rw [List.drop_eq_getElem_cons (List.getElem?_eq_some_iff.1 hx).1, (List.getElem?_eq_some_iff.1 hx).2])
      have HAT := Lib.hid hat
      clear hx hat hat2
      obtain ⟨⟨nm, fA, fn, fc⟩, F⟩ := x
      simp only at x0 x1 HAT
      obtain ⟨lt, hltv⟩ : ∃ lt, ltS dnm nm = lt := ⟨_, rfl⟩
      have hbl : Op.bytesLess dnm.toList nm.toList = lt := hltv
      have HLN : Hid (ltS d.1.nm nm = lt) := Lib.hid (by rw [HDD.out]; exact hltv)
      clear hltv
      cases tb with
      | true =>
        go_wp2
        refine wp_region_held_drew (S := fun w' => Chg [] wr w') (by kernel_rfl) ((Chg.refl _ _).drew) (fun hHeld => ?_)
        refine wpAnyH_take (i := 0) (v := ?_) rfl (by kernel_rfl) (by kernel_rfl) (by kernel_rfl) (fun _ _ _ h => h) (Or.inl ⟨by rfl, ?_⟩) (by assumption) ?_
        rotate_left
        · (intro w' hSw; go_simp; try with_reducible rfl)
        try simp only [Act.put, put8]
        refine wpAnyH_take (i := 1) (v := ?_) rfl (by kernel_rfl) (by kernel_rfl) (by kernel_rfl) (fun _ _ _ h => h) (Or.inl ⟨by rfl, ?_⟩) (by assumption) ?_
        rotate_left
        · (intro w' hSw; go_simp; try with_reducible rfl)
        try simp only [Act.put, put8]
        refine wpAnyH_take (i := 2) (v := ?_) rfl (by kernel_rfl) (by kernel_rfl) (by kernel_rfl) (fun _ _ _ h => h) (Or.inl ⟨by rfl, ?_⟩) (by assumption) ?_
        rotate_left
        · (intro w' hSw; go_simp; try with_reducible rfl)
        try simp only [Act.put, put8]
        refine wpAnyH_take (i := 3) (v := undef) rfl (by kernel_rfl) (by kernel_rfl) (by kernel_rfl) (fun _ _ _ h => h) (Or.inr ⟨by rfl, rfl⟩) (by assumption) ?_
        try simp only [Act.put, put8]
        refine wpAnyH_take (i := 4) (v := undef) rfl (by kernel_rfl) (by kernel_rfl) (by kernel_rfl) (fun _ _ _ h => h) (Or.inr ⟨by rfl, rfl⟩) (by assumption) ?_
        try simp only [Act.put, put8]
        refine wpAnyH_take (i := 5) (v := undef) rfl (by kernel_rfl) (by kernel_rfl) (by kernel_rfl) (fun _ _ _ h => h) (Or.inr ⟨by rfl, rfl⟩) (by assumption) ?_
        try simp only [Act.put, put8]
        refine wpAnyH_take (i := 6) (v := undef) rfl (by kernel_rfl) (by kernel_rfl) (by kernel_rfl) (fun _ _ _ h => h) (Or.inr ⟨by rfl, rfl⟩) (by assumption) ?_
        try simp only [Act.put, put8]
        refine wpAnyH_take (i := 7) (v := undef) rfl (by kernel_rfl) (by kernel_rfl) (by kernel_rfl) (fun _ _ _ h => h) (Or.inr ⟨by rfl, rfl⟩) (by assumption) ?_
        try simp only [Act.put, put8]
        refine wpAnyH_take (i := 8) (v := undef) rfl (by kernel_rfl) (by kernel_rfl) (by kernel_rfl) (fun _ _ _ h => h) (Or.inr ⟨by rfl, rfl⟩) (by assumption) ?_
        try simp only [Act.put, put8]
        refine wpAnyH_take (i := 9) (v := undef) rfl (by kernel_rfl) (by kernel_rfl) (by kernel_rfl) (fun _ _ _ h => h) (Or.inr ⟨by rfl, rfl⟩) (by assumption) ?_
        try simp only [Act.put, put8]
        refine wpAnyH_take (i := 10) (v := undef) rfl (by kernel_rfl) (by kernel_rfl) (by kernel_rfl) (fun _ _ _ h => h) (Or.inr ⟨by rfl, rfl⟩) (by assumption) ?_
        try simp only [Act.put, put8]
        refine wpAnyH_take (i := 11) (v := ?_) rfl (by kernel_rfl) (by kernel_rfl) (by kernel_rfl) (fun _ _ _ h => h) (Or.inl ⟨by rfl, ?_⟩) (by assumption) ?_
        rotate_left
        · (intro w' hSw; go_simp; try with_reducible rfl)
        try simp only [Act.put, put8]
        refine wpAnyH_done (by kernel_rfl) ?_ _
        try simp only [Act.put, put8]
        have HC1 : Hid (Chg [] W wr.drew) := Lib.hid HCH.out.drew
        have HZ1 : Hid (Own wr.drew 106 2 A' m c' (nsv (rnsl zs))) := Lib.hid (HZ.out.chg (Chg.refl [] wr).drew (fun _ _ => List.not_mem_nil))
        have x0' : wr.drew.cell? (ad.add (i * 2)) = some (.string nm) := x0
        have x1' : wr.drew.cell? ⟨(ad.add (i * 2)).block, (ad.add (i * 2)).off + 1, none⟩ = some (.slice fA fn fc) := x1
        have b0' : wr.drew.cell? ⟨sb, 0, none⟩ = some (.string dnm) := b0
        have b1' : wr.drew.cell? ⟨sb, 1, none⟩ = some (.slice dA dn dc) := b1
        clear x0 x1 b0 b1 hHeld
        generalize wr.drew = w1 at HC1 HZ1 x0' x1' b0' b1' ⊢
        go_wp2_with (at_builtin; refine wpList_app rfl _ _ rfl etyFolds rfl (HZ1.out.chg ((Chg.refl [] w1).alloc (.cells #[.string nm, .slice fA fn fc] 106)) (fun _ _ => List.not_mem_nil)) rfl (Own.lit w1 106 2 #[.string nm, .slice fA fn fc] 1 (by decide) rfl).rd (nsv_one [⟨nm, fA, fn, fc⟩]) (by unfold maxLen; omega) (by omega) ?_; intro A4 c4 w4 hown4 hchg4 hnew4 _; have HO4 := Lib.hid hown4; have HC4 := Lib.hid hchg4; have HN4 := Lib.hid hnew4; clear hown4 hchg4 hnew4)
        have hAl4 : Chg [] w1 (w1.alloc (.cells #[.string nm, .slice fA fn fc] 106)) := (Chg.refl [] w1).alloc _
        have HZ4 : Hid (Own w4 106 2 A4 (m + 1) c4 (nsv (rnsl (zs ++ [(⟨nm, fA, fn, fc⟩, F)])))) := Lib.hid (by
          have := HO4.out
          rw [rnsl_snoc, nsv_append]
          exact this)
        have HD4 : Hid (Chg [] W w4) := Lib.hid (((HC1.out).trans0 hAl4).trans HC4.out (fun x hx => .inr (HNW.out x hx)))
        have HM4 : Hid (∀ k ∈ bo A4, W.heap.size ≤ k) := Lib.hid (fun k hk => by
          rcases HN4.out k hk with h | h
          · exact HNW.out k h
          · have h1 := (HC1.out).size; have h2 := h.1; simp at h2; omega)
        clear hAl4
        go_roundw
        case rel => exact ⟨i + 1, m + 1, A4, c4, zs ++ [(⟨nm, fA, fn, fc⟩, F)], true, by omega, ⟨by omega, fun h => by cases h⟩, by go_num, rfl, rfl, HZ4.out, HVAL.out.next1 HDR.out, HD4.out, HM4.out⟩
        case measure => simp [intOf]; omega
      | false =>
        go_wp2
        refine wp_region_held_drew (S := fun w' => Chg [] wr w') (by kernel_rfl) ((Chg.refl _ _).drew) (fun hHeld => ?_)
        refine wpAnyH_take (i := 0) (v := ?_) rfl (by kernel_rfl) (by kernel_rfl) (by kernel_rfl) (fun _ _ _ h => h) (Or.inl ⟨by rfl, ?_⟩) (by assumption) ?_
        rotate_left
        · (intro w' hSw; go_simp; try with_reducible rfl)
        try simp only [Act.put, put8]
        refine wpAnyH_take (i := 1) (v := ?_) rfl (by kernel_rfl) (by kernel_rfl) (by kernel_rfl) (fun _ _ _ h => h) (Or.inl ⟨by rfl, ?_⟩) (by assumption) ?_
        rotate_left
        · (intro w' hSw; go_simp; try with_reducible rfl)
        try simp only [Act.put, put8]
        refine wpAnyH_take (i := 2) (v := ?_) rfl (by kernel_rfl) (by kernel_rfl) (by kernel_rfl) (fun _ _ _ h => h) (Or.inl ⟨by rfl, ?_⟩) (by assumption) ?_
        rotate_left
        · (intro w' hSw; go_simp; try with_reducible rfl)
        try simp only [Act.put, put8]
        refine wpAnyH_take (i := 3) (v := ?_) rfl (by kernel_rfl) (by kernel_rfl) (by kernel_rfl) (fun _ _ _ h => h) (Or.inl ⟨by rfl, ?_⟩) (by assumption) ?_
        rotate_left
        · (intro w' hSw; go_simp; try with_reducible rfl)
        try simp only [Act.put, put8]
        refine wpAnyH_take (i := 4) (v := ?_) rfl (by kernel_rfl) (by kernel_rfl) (by kernel_rfl) (fun _ _ _ h => h) (Or.inl ⟨by rfl, ?_⟩) (by assumption) ?_
        rotate_left
        · (intro w' hSw; have y := hSw.cell b0 List.not_mem_nil; go_simp; try with_reducible rfl)
        try simp only [Act.put, put8]
        refine wpAnyH_take (i := 5) (v := ?_) rfl (by kernel_rfl) (by kernel_rfl) (by kernel_rfl) (fun _ _ _ h => h) (Or.inl ⟨by rfl, ?_⟩) (by assumption) ?_
        rotate_left
        · (intro w' hSw; go_simp; try with_reducible rfl)
        try simp only [Act.put, put8]
        refine wpAnyH_take (i := 6) (v := ?_) rfl (by kernel_rfl) (by kernel_rfl) (by kernel_rfl) (fun _ _ _ h => h) (Or.inl ⟨by rfl, ?_⟩) (by assumption) ?_
        rotate_left
        · (intro w' hSw; go_simp; try with_reducible rfl)
        try simp only [Act.put, put8]
        refine wpAnyH_take (i := 7) (v := ?_) rfl (by kernel_rfl) (by kernel_rfl) (by kernel_rfl) (fun _ _ _ h => h) (Or.inl ⟨by rfl, ?_⟩) (by assumption) ?_
        rotate_left
        · (intro w' hSw; go_simp; try with_reducible rfl)
        try simp only [Act.put, put8]
        refine wpAnyH_take (i := 8) (v := ?_) rfl (by kernel_rfl) (by kernel_rfl) (by kernel_rfl) (fun _ _ _ h => h) (Or.inl ⟨by rfl, ?_⟩) (by assumption) ?_
        rotate_left
        · (intro w' hSw; go_simp; try with_reducible rfl)
        try simp only [Act.put, put8]
        refine wpAnyH_take (i := 9) (v := ?_) rfl (by kernel_rfl) (by kernel_rfl) (by kernel_rfl) (fun _ _ _ h => h) (Or.inl ⟨by rfl, ?_⟩) (by assumption) ?_
        rotate_left
        · (intro w' hSw; have y := hSw.cell x0 List.not_mem_nil; go_simp; try with_reducible rfl)
        try simp only [Act.put, put8]
        refine wpAnyH_take (i := 10) (v := ?_) rfl (by kernel_rfl) (by kernel_rfl) (by kernel_rfl) (fun _ _ _ h => h) (Or.inl ⟨by rfl, ?_⟩) (by assumption) ?_
        rotate_left
        · (intro w' hSw; go_simp; try with_reducible rfl)
        try simp only [Act.put, put8]
        refine wpAnyH_take (i := 11) (v := ?_) rfl (by kernel_rfl) (by kernel_rfl) (by kernel_rfl) (fun _ _ _ h => h) (Or.inl ⟨by rfl, ?_⟩) (by assumption) ?_
        rotate_left
        · (intro w' hSw; go_simp; try with_reducible rfl)
        try simp only [Act.put, put8]
        refine wpAnyH_done (by kernel_rfl) ?_ _
        try simp only [Act.put, put8]
        have HC1 : Hid (Chg [] W wr.drew) := Lib.hid HCH.out.drew
        have HZ1 : Hid (Own wr.drew 106 2 A' m c' (nsv (rnsl zs))) := Lib.hid (HZ.out.chg (Chg.refl [] wr).drew (fun _ _ => List.not_mem_nil))
        have x0' : wr.drew.cell? (ad.add (i * 2)) = some (.string nm) := x0
        have x1' : wr.drew.cell? ⟨(ad.add (i * 2)).block, (ad.add (i * 2)).off + 1, none⟩ = some (.slice fA fn fc) := x1
        have b0' : wr.drew.cell? ⟨sb, 0, none⟩ = some (.string dnm) := b0
        have b1' : wr.drew.cell? ⟨sb, 1, none⟩ = some (.slice dA dn dc) := b1
        clear x0 x1 b0 b1 hHeld
        generalize wr.drew = w1 at HC1 HZ1 x0' x1' b0' b1' ⊢
        cases lt with
        | false =>
          go_wp2_with (at_builtin; refine wpList_app rfl _ _ rfl etyFolds rfl (HZ1.out.chg ((Chg.refl [] w1).alloc (.cells #[.string nm, .slice fA fn fc] 106)) (fun _ _ => List.not_mem_nil)) rfl (Own.lit w1 106 2 #[.string nm, .slice fA fn fc] 1 (by decide) rfl).rd (nsv_one [⟨nm, fA, fn, fc⟩]) (by unfold maxLen; omega) (by omega) ?_; intro A4 c4 w4 hown4 hchg4 hnew4 _; have HO4 := Lib.hid hown4; have HC4 := Lib.hid hchg4; have HN4 := Lib.hid hnew4; clear hown4 hchg4 hnew4)
          have hAl4 : Chg [] w1 (w1.alloc (.cells #[.string nm, .slice fA fn fc] 106)) := (Chg.refl [] w1).alloc _
          have HZ4 : Hid (Own w4 106 2 A4 (m + 1) c4 (nsv (rnsl (zs ++ [(⟨nm, fA, fn, fc⟩, F)])))) := Lib.hid (by
            have := HO4.out
            rw [rnsl_snoc, nsv_append]
            exact this)
          have HD4 : Hid (Chg [] W w4) := Lib.hid (((HC1.out).trans0 hAl4).trans HC4.out (fun x hx => .inr (HNW.out x hx)))
          have HM4 : Hid (∀ k ∈ bo A4, W.heap.size ≤ k) := Lib.hid (fun k hk => by
            rcases HN4.out k hk with h | h
            · exact HNW.out k h
            · have h1 := (HC1.out).size; have h2 := h.1; simp at h2; omega)
          clear hAl4
          go_roundw
          case rel => exact ⟨i + 1, m + 1, A4, c4, zs ++ [(⟨nm, fA, fn, fc⟩, F)], false, by omega, ⟨by omega, fun _ => by have := HMF.out (by simp); omega⟩, by go_num, rfl, rfl, HZ4.out, HVAL.out.next2 (x := (⟨nm, fA, fn, fc⟩, F)) HDR.out HLN.out, HD4.out, HM4.out⟩
          case measure => simp [intOf]; omega
        | true =>
          go_upto_region 9 with (at_builtin; refine wpList_app rfl _ _ rfl etyFolds rfl (HZ1.out.chg ((Chg.refl [] w1).alloc (.cells #[.string dnm, .slice dA dn dc] 106)) (fun _ _ => List.not_mem_nil)) rfl (Own.lit w1 106 2 #[.string dnm, .slice dA dn dc] 1 (by decide) rfl).rd (nsv_one [⟨dnm, dA, dn, dc⟩]) (by unfold maxLen; omega) (by omega) ?_; intro A3 c3 w3 hown3 hchg3 hnew3 _; have HO3 := Lib.hid hown3; have HC3 := Lib.hid hchg3; have HN3 := Lib.hid hnew3; clear hown3 hchg3 hnew3)
          have hAl3 : Chg [] w1 (w1.alloc (.cells #[.string dnm, .slice dA dn dc] 106)) := (Chg.refl [] w1).alloc _
          have HZ3 : Hid (Own w3 106 2 A3 (m + 1) c3 (nsv (rnsl (zs ++ [d])))) := Lib.hid (by
            have := HO3.out
            rw [rnsl_snoc, nsv_append, HDD.out]
            exact this)
          have HD3 : Hid (Chg [] W w3) := Lib.hid (((HC1.out).trans0 hAl3).trans HC3.out (fun x hx => .inr (HNW.out x hx)))
          have HM3 : Hid (∀ k ∈ bo A3, W.heap.size ≤ k) := Lib.hid (fun k hk => by
            rcases HN3.out k hk with h | h
            · exact HNW.out k h
            · have h1 := (HC1.out).size; have h2 := h.1; simp at h2; omega)
          clear hAl3
          have hat3 : NsAt w3 (ad.add (i * 2)) ⟨nm, fA, fn, fc⟩ := by
            have h1 : NsAt w1 (ad.add (i * 2)) ⟨nm, fA, fn, fc⟩ := ⟨x0', x1'⟩
            refine (h1.chg ((Chg.refl [] w1).alloc (.cells #[.string dnm, .slice dA dn dc] 106)) List.not_mem_nil).chg HC3.out (fun hm => ?_)
            have h2 := HNW.out _ hm
            have h3 : NsAt W (ad.add (i * 2)) ⟨nm, fA, fn, fc⟩ := HAT.out
            have h4 := World.block_lt_of_cell? W _ h3.c0
            omega
          have y0 := hat3.c0
          have y1 := hat3.c1
          clear x0' x1' b0' b1' hat3
          go_wp2_with (at_builtin; refine wpList_app rfl _ _ rfl etyFolds rfl (HZ3.out.chg ((Chg.refl [] w3).alloc (.cells #[.string nm, .slice fA fn fc] 106)) (fun _ _ => List.not_mem_nil)) rfl (Own.lit w3 106 2 #[.string nm, .slice fA fn fc] 1 (by decide) rfl).rd (nsv_one [⟨nm, fA, fn, fc⟩]) (by unfold maxLen; omega) (by omega) ?_; intro A4 c4 w4 hown4 hchg4 hnew4 _; have HO4 := Lib.hid hown4; have HC4 := Lib.hid hchg4; have HN4 := Lib.hid hnew4; clear hown4 hchg4 hnew4)
          have hAl4 : Chg [] w3 (w3.alloc (.cells #[.string nm, .slice fA fn fc] 106)) := (Chg.refl [] w3).alloc _
          have HZ4 : Hid (Own w4 106 2 A4 (m + 1 + 1) c4 (nsv (rnsl ((zs ++ [d]) ++ [(⟨nm, fA, fn, fc⟩, F)])))) := Lib.hid (by
            have := HO4.out
            rw [rnsl_snoc, nsv_append]
            exact this)
          have HD4 : Hid (Chg [] W w4) := Lib.hid (((HD3.out).trans0 hAl4).trans HC4.out (fun x hx => .inr (HM3.out x hx)))
          have HM4 : Hid (∀ k ∈ bo A4, W.heap.size ≤ k) := Lib.hid (fun k hk => by
            rcases HN4.out k hk with h | h
            · exact HM3.out k h
            · have h1 := (HD3.out).size; have h2 := h.1; simp at h2; omega)
          clear hAl4
          go_roundw
          case rel => exact ⟨i + 1, m + 1 + 1, A4, c4, zs ++ [d] ++ [(⟨nm, fA, fn, fc⟩, F)], true, by omega, ⟨by have := HMF.out (by simp); omega, fun h => by cases h⟩, by go_num, rfl, rfl, HZ4.out, HVAL.out.next3 (x := (⟨nm, fA, fn, fc⟩, F)) HDR.out HLN.out, HD4.out, HM4.out⟩
          case measure => simp [intOf]; omega
    · obtain rfl : i = n := by omega
      have hdrop : rs.drop i = [] := List.drop_of_length_le (by have := HLX.out; omega)
      have hval := HVAL.out
      unfold WRel at hval
      rw [hdrop] at hval
      have HFIN : ∀ (A3 : Option Addr) (m3 c3 : Nat) (w3 : World), Own w3 106 2 A3 m3 c3 (nsv (rnsl (withR d rs))) → Chg [] W w3 → (∀ k ∈ bo A3, W.heap.size ≤ k) → TrIn (rblk rs ++ bo dA) w (withS dnm dF (rval rs)) (.returned (.slice A3 m3 c3)) w3 := fun A3 m3 c3 w3 ho hc hm => by
        have hv : rval (withR d rs) = withS dnm dF (rval rs) := by rw [rval_withR, HDD.out]
        have hml : m3 = (withS dnm dF (rval rs)).length := by
          rw [← hv, rval_len]
          have := ho.rd.nsl
          simpa [rnsl] using this.symm
        subst hml
        refine ⟨A3, c3, withR d rs, rfl, ⟨ho.rd, fun z hz => ?_⟩, hv, HCW.out.trans0 hc, fun k hk => ?_⟩
        · rcases withR_mem hz with rfl | hz
          · have := HD0.out.chg (HCW.out.trans0 hc) (fun _ _ => List.not_mem_nil)
            rw [HDD.out]; exact this
          · exact (HA0.out.fil z hz).chg (HCW.out.trans0 hc) (fun _ _ => List.not_mem_nil)
        · rcases List.mem_append.1 hk with hk | hk
          · exact .inr ⟨Nat.le_trans HCW.out.size (hm k hk), ho.lt k hk⟩
          · obtain ⟨z, hz, hk2⟩ := List.mem_flatMap.1 hk
            rcases withR_mem hz with he | hz
            · rw [he, HDD.out] at hk2
              exact .inl (List.mem_append_right _ hk2)
            · exact .inl (List.mem_append_left _ (rblk_mem hz k hk2))
      have HF := Lib.hid HFIN
      clear HFIN hdrop
      cases tb with
      | true =>
        rw [if_pos rfl, List.append_nil] at hval
        have HV := Lib.hid hval
        clear hval b0 b1
        go_wp2
        go_ret
        exact HF.out _ _ _ _ (by rw [← HV.out]; exact HZ.out) HCH.out HNW.out
      | false =>
        rw [if_neg (by simp)] at hval
        have HV : Hid (zs ++ [d] = withR d rs) := Lib.hid hval
        clear hval
        go_wp2_with (at_builtin; refine wpList_app rfl _ _ rfl etyFolds rfl (HZ.out.chg ((Chg.refl [] wr).alloc (.cells #[.string dnm, .slice dA dn dc] 106)) (fun _ _ => List.not_mem_nil)) rfl (Own.lit wr 106 2 #[.string dnm, .slice dA dn dc] 1 (by decide) rfl).rd (nsv_one [⟨dnm, dA, dn, dc⟩]) (by unfold maxLen; omega) (by omega) ?_; intro A3 c3 w3 hown3 hchg3 hnew3 _; have HO3 := Lib.hid hown3; have HC3 := Lib.hid hchg3; have HN3 := Lib.hid hnew3; clear hown3 hchg3 hnew3)
        have hAl3 : Chg [] wr (wr.alloc (.cells #[.string dnm, .slice dA dn dc] 106)) := (Chg.refl [] wr).alloc _
        have HZ3 : Hid (Own w3 106 2 A3 (m + 1) c3 (nsv (rnsl (zs ++ [d])))) := Lib.hid (by
          have := HO3.out
          rw [rnsl_snoc, nsv_append, HDD.out]
          exact this)
        have HD3 : Hid (Chg [] W w3) := Lib.hid (((HCH.out).trans0 hAl3).trans HC3.out (fun x hx => .inr (HNW.out x hx)))
        have HM3 : Hid (∀ k ∈ bo A3, W.heap.size ≤ k) := Lib.hid (fun k hk => by
          rcases HN3.out k hk with h | h
          · exact HNW.out k h
          · have h1 := (HCH.out).size; have h2 := h.1; simp at h2; omega)
        clear hAl3
        go_ret
        exact HF.out _ _ _ _ (by rw [← HV.out]; exact HZ3.out) HD3.out HM3.out
end Go.Proofs.YtgomofeidghmiaaGreat
