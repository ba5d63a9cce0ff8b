/-
  The walk of PumpCopies over the virtual program; no condition but what each law names.
-/
import Derived.Test.YtcdhmnefmbcmaaaKVxD
import Derived.Deep.RegionHeld3
namespace Go.Proofs.Ytcdhmnefmbcmaaa.Vw
open Go Go.RowKit
/-- a Bucket of the document behind the world w0 -/
theorem rnewb_N (n : Int) (w : World) : Calls Tryv.prog 14 #[.int .i64 n] w fun e w' => ∃ g, e = .returned (.pointer (some ⟨g, 0, none⟩)) ∧ RBkt w' g none (if n > 0 then n else 0) [] 0 ∧ Chg [] w w' ∧ w.heap.size ≤ g := by
  refine (rnewb_any n w).mono ?_
  rintro e w' ⟨t, rfl, rfl⟩
  refine ⟨_, rfl, ?_, (Chg.refl [] w).alloc _, Nat.le_refl _⟩
  have h : (if n < 0 then 0 else n) = (if n > 0 then n else 0) := by split <;> split <;> omega
  rw [h]
  exact RBkt.new w _ t
/-- one of the rows that are told -/
theorem Inn.row {w : World} {LL : List Nat} {vs : List Value} {C : List (List Int)} {O : Option Addr} {oc : Nat} (hI : Inn w LL vs C) (hO : Own w 22 1 O C.length oc vs) {k : Nat} (hk : k < C.length) :
    ∃ p ad A c, C[k]? = some p ∧ O = some ad ∧ w.cell? (ad.add k) = some (.slice A p.length c) ∧ Own w 5 1 A p.length c (bv p) ∧ ∀ j ∈ bo A, j ∈ LL := by
  obtain ⟨p, hp⟩ : ∃ p, C[k]? = some p := ⟨_, List.getElem?_eq_getElem hk⟩
  obtain ⟨A, c, h1, h2, h3⟩ := hI.2 k p hp
  obtain ⟨ad, u, hA, hx, hc⟩ := hO.rd.at1 hk
  rw [h1] at hx
  cases hx
  exact ⟨p, ad, A, c, hp, hA, hc, h2, h3⟩
/-- where the document's loop over the pieces stands -/
def RcS (w9 : World) (g : Nat) (room : Int) (C : List (List Int)) (k : Nat) (wr : World) : Prop :=
  ∃ A', RBkt wr g A' room (C.take k).flatten k ∧ Chg [g] w9 wr ∧ ∀ x ∈ bo A', w9.heap.size ≤ x
/-- one round of it -/
theorem rround {w9 wr : World} {g : Nat} {room : Int} {C : List (List Int)} {k : Nat} {p : List Int} {A : Option Addr} {c : Nat} (h : RcS w9 g room C k wr) (hp : C[k]? = some p) (ho : Own w9 5 1 A p.length c (bv p)) (hgA : g ∉ bo A)
    (hr0 : 0 ≤ room) (hr1 : room ≤ 9223372036854775807) (hfl : ∀ k, (C.take k).flatten.length ≤ 1073741824) (hcl : C.length ≤ 1073741824) :
    Calls Tryv.prog 16 #[.pointer (some ⟨g, 0, none⟩), .slice A p.length c] wr fun e w' => (room - (C.take k).flatten.length < p.length ∧ e = .returned (.int .i64 85) ∧ RcS w9 g room C k w') ∨
      (¬ room - (C.take k).flatten.length < p.length ∧ e = .returned (.int .i64 0) ∧ RcS w9 g room C (k + 1) w') := by
  obtain ⟨A', h1, h2, h3⟩ := h
  have hk : k < C.length := (List.getElem?_eq_some_iff.1 hp).1
  have hpl : p.length ≤ 1073741824 := by
    have h4 := hfl (k + 1)
    rw [flat_snoc C k p hp, List.length_append] at h4
    omega
  have ho2 : Own wr 5 1 A p.length c (bv p) := ho.chg h2 (fun j hj hm => hgA (by simp at hm; subst hm; exact hj))
  refine (rtake_any h1 ho2.rd (fun _ j hj hm => ?_) hr0 hr1 (hfl k) hpl (by omega) (by omega)).mono ?_
  · rcases List.mem_cons.1 hm with rfl | hm
    · exact hgA hj
    · have := h3 j hm; have := ho.lt j hj; omega
  · rintro e w' (⟨q, rfl, hc⟩ | ⟨q, rfl, A2, hb2, hc, hn⟩)
    · exact .inl ⟨q, rfl, A', h1.chg hc (by simp), h2.trans0 hc, h3⟩
    · refine .inr ⟨q, rfl, A2, ?_, h2.trans hc (fun x hx => ?_), fun x hx => ?_⟩
      · rw [flat_snoc C k p hp]; simpa using hb2
      · rcases List.mem_cons.1 hx with rfl | hx
        · exact .inl (by simp)
        · exact .inr (h3 x hx)
      · rcases hn x hx with h | h
        · exact h3 x h
        · have := h2.size; omega
theorem BktN.far {w0 w5 w9 wr : World} {gb g : Nat} {room : Int} {zs : List Int} {cnt : Int} (h : BktN w0 w5 gb room zs cnt) (h1 : Chg [] w5 w9) (h2 : Chg [g] w9 wr) (hg : w5.heap.size ≤ g) : BktN w0 wr gb room zs cnt := by
  obtain ⟨A, k1, k2, k3, k4⟩ := h
  have hlt := k1.lt
  have hs := k2.size
  exact ⟨A, (k1.chg h1 (by simp)).chg h2 (fun j hj hm => by simp at hm; have := hlt j hj; omega), (k2.trans0 h1).trans h2 (fun x hx => .inr (by simp at hx; omega)), k3, k4⟩
set_option maxRecDepth 100000 in
set_option maxHeartbeats 6400000 in
theorem copies_any {A : Option Addr} {n c : Nat} {zs : List Int} {size room : Int} {w : World} (hn : n ≤ 1073741824) (hrd : Rd w 1 A n c (bv zs)) (hb : ∀ x ∈ zs, 0 ≤ x ∧ x ≤ 255)
    (hs : size ≤ 9223372036854775807) (hroom : room ≤ 9223372036854775807) :
    Calls Tryv.prog 5 #[.slice A n c, .int .i64 size, .int .i64 room] w fun e w' => e = .returned (.bool true) ∧ Chg [] w w' := by
  have HR := Lib.hid hrd
  have HB0 := Lib.hid hb
  have hl : zs.length = n := by have := hrd.1; simp at this; omega
  have HL := Lib.hid hl
  obtain ⟨R, hR, hR0, hR1⟩ : ∃ R, (if room > 0 then room else 0) = R ∧ 0 ≤ R ∧ R ≤ 9223372036854775807 := ⟨_, rfl, by split <;> omega, by split <;> omega⟩
  have HRR := Lib.hid hR
  have hflat := cutr_flat (szOf size zs.length) _ zs rfl
  have hfl : ∀ k, ((cutr (szOf size zs.length) zs).take k).flatten.length ≤ 1073741824 := fun k => Nat.le_trans (flat_le _ k) (by rw [hflat, hl]; exact hn)
  have hcl : (cutr (szOf size zs.length) zs).length ≤ 1073741824 := by
    have := cutr_len (szOf size zs.length) zs
    omega
  have HFL := Lib.hid hfl
  clear hrd hb hl hR hflat hfl
  have k1 := Tryv.call11
  have k2 := Tryv.call13
  have k3 := Tryv.call8
  have k4 := Tryv.call9
  have k5 := Tryv.call19
  have k6 := Tryv.call14
  have k7 := Tryv.call12
  have k8 := Tryv.call16
  have k9 := Tryv.call17
  have k10 := Tryv.call10
  have k11 := Tryv.call18
  go_enter Tryv.func5, Try.ntmps5
  go_wp2_with (first
    | (go_at_call 11; refine speaks_any.mono ?_; rintro e w1 ⟨rfl, hc1⟩; have HC1 := Lib.hid hc1; clear hc1)
    | (go_at_call 13; refine (newb_N _ _).mono ?_; rw [HRR.out]; rintro e w2 ⟨gb, rfl, hbk2⟩; have HB2 := Lib.hid hbk2; have HR2 := Lib.hid ((HR.out.chg HC1.out (by simp)).chg hbk2.ch (by simp)); clear hbk2)
    | (go_at_call 8; refine (copy_any A n c zs _ hn HR2.out).mono ?_; rintro e w3 ⟨A3, c3, rfl, hown3, hchg3, hnew3⟩; have HO3 := Lib.hid hown3; have HB3 := Lib.hid (HB2.out.chg hchg3); clear hown3 hchg3 hnew3)
    | (go_at_call 9; refine (chunks_any hn HO3.out.rd HB0.out hs).mono ?_; rintro e w4 ⟨rfl, rfl⟩)
    | (go_at_call 19; refine (copyBucket (w0 := w1) HB0.out (by rw [HL.out]; exact hn) hs hR0 hR1 HB3.out).mono ?_; rintro e w5 ⟨kb, cb, htk, rfl, hbk5⟩; have HB5 := Lib.hid hbk5; have HTK := Lib.hid htk; clear hbk5 htk)
    | (go_at_call 14; refine (rnewb_N _ _).mono ?_; rw [HRR.out]; rintro e w6 ⟨g, rfl, hrb6, hc6, hg6⟩; have HRB6 := Lib.hid hrb6; have HC6 := Lib.hid hc6; have HG6 := Lib.hid hg6; have HR6 := Lib.hid (((HR.out.chg HC1.out (by simp)).chg HB5.out.ch (by simp)).chg hc6 (by simp)); clear hrb6 hc6 hg6)
    | (go_at_call 12; refine (rchunks_any hn HR6.out).mono ?_; rintro e w9 ⟨O, oc, vs, LL, rfl, hO, hI, hc9, hnO, hnL⟩; have HO9 := Lib.hid hO; have HI9 := Lib.hid hI; have HC9 := Lib.hid hc9; have HNO := Lib.hid hnO; have HNL := Lib.hid hnL; clear hO hI hc9 hnO hnL))
  generalize hC : cutr (szOf size zs.length) zs = C at *
  have HC9w : Hid (∀ x ∈ bo O, x ≠ g) := Lib.hid (fun x hx e => by have := HNO.out x hx; have := HRB6.out.lt g (by simp); omega)
  have HLg : Hid (∀ x ∈ LL, x ≠ g) := Lib.hid (fun x hx e => by have := HNL.out x hx; have := HRB6.out.lt g (by simp); omega)
  go_loopw [11, 13, 36] (fun want c i wr => ∃ k : Nat, k ≤ C.length ∧ want = .int .i64 0 ∧ i = .int .i64 k ∧ Upto R C k ∧ RcS w9 g R C k wr) (fun _ _ i _ => C.length - (intOf i).toNat)
  case atStart => exact ⟨0, Nat.zero_le _, rfl, rfl, Upto.zero _ _, none, by simpa using HRB6.out.chg HC9.out (by simp), Chg.refl _ _, by simp⟩
  case round =>
    obtain ⟨k, hk, rfl, rfl, hup, hrc⟩ := hrel
    have HUP := Lib.hid hup
    have HRC := Lib.hid hrc
    have hch : Chg [g] w9 wr := by obtain ⟨_, _, h, _⟩ := hrc; exact h
    have HCH := Lib.hid hch
    by_cases hlt : k < C.length
    · obtain ⟨p, ad, Ap, cp, hp, rfl, hcell, hop, hLp⟩ := HI9.out.row HO9.out hlt
      have hcell2 := hch.cell hcell (fun hm => HC9w.out (ad.add k).block (by rw [add_block]; simp) (by simpa using hm))
      have HP := Lib.hid hp
      have HOP := Lib.hid hop
      have HGP : Hid (g ∉ bo Ap) := Lib.hid (fun hm => HLg.out g (hLp g hm) rfl)
      clear hcell hp hop hLp hup hrc hch
      go_wp2_with (go_at_call 16; refine (rround HRC.out HP.out HOP.out HGP.out hR0 hR1 HFL.out hcl).mono ?_; rintro e w10 (⟨hq, rfl, hrc2⟩ | ⟨hq, rfl, hrc2⟩))
      · have h85 := HUP.out.full HP.out hq
        have hkl : k < C.length := hlt
        cases HTK.out.symm.trans h85
        clear hq
        have hzl := HFL.out kb
        obtain ⟨A', hrb, hch2, hn2⟩ := hrc2
        have hb5 := HB5.out
        generalize hZ : (C.take kb).flatten = Z at hzl hrb hb5
        have HZL := Lib.hid hzl
        clear hZ hzl
        obtain ⟨t', n', c', hblk, hown, hgA', rfl⟩ := hrb
        have z1 := hblk.cell 1
        have z2 := hblk.cell 2
        simp at z1 z2
        have HB := Lib.hid (hb5.far (HC6.out.trans0 HC9.out) hch2 HG6.out)
        have HOA := Lib.hid hown
        clear hblk hown hgA' hch2 hn2 hb5
        refine wp_region_held_drew (S := fun w' => Chg [] w10 w') (by kernel_rfl) ((Chg.refl _ _).drew) (fun hHeld => ?_)
        refine wpAnyH_take (i := 0) (v := ?_) rfl (by kernel_rfl) (by kernel_rfl) (by kernel_rfl) (fun _ _ _ h => h) (Or.inl ⟨by rfl, ?_⟩) (by assumption) ?_
        rotate_left
        · (intro w' hSw; go_simp; try with_reducible rfl)
        try simp only [Act.put, List.getElem_toArray, List.getElem_cons_zero, List.setIfInBounds_toArray, List.set_cons_zero, List.set_cons_succ]
        refine wpAnyH_take (i := 1) (v := ?_) rfl (by kernel_rfl) (by kernel_rfl) (by kernel_rfl) (fun _ _ _ h => h) (Or.inl ⟨by rfl, ?_⟩) (by assumption) ?_
        rotate_left
        · (intro w' hSw; go_simp; try with_reducible rfl)
        try simp only [Act.put, List.getElem_toArray, List.getElem_cons_zero, List.getElem_cons_succ, List.setIfInBounds_toArray, List.set_cons_zero, List.set_cons_succ]
        refine wpAnyH_take (i := 2) (v := ?_) rfl (by kernel_rfl) (by kernel_rfl) (by kernel_rfl) (fun _ _ _ h => h) (Or.inl ⟨by rfl, ?_⟩) (by assumption) ?_
        rotate_left
        · (intro w' hSw; go_simp; try with_reducible rfl)
        try simp only [Act.put, List.getElem_toArray, List.getElem_cons_zero, List.getElem_cons_succ, List.setIfInBounds_toArray, List.set_cons_zero, List.set_cons_succ]
        refine wpAnyH_take (i := 3) (v := ?_) rfl (by kernel_rfl) (by kernel_rfl) (by kernel_rfl) (fun _ _ _ h => h) (Or.inl ⟨by rfl, ?_⟩) (by assumption) ?_
        rotate_left
        · (intro w' hSw; go_simp; try with_reducible rfl)
        try simp only [Act.put, List.getElem_toArray, List.getElem_cons_zero, List.getElem_cons_succ, List.setIfInBounds_toArray, List.set_cons_zero, List.set_cons_succ]
        refine wpAnyH_take (i := 4) (v := ?_) rfl (by kernel_rfl) (by kernel_rfl) (by kernel_rfl) (fun _ _ _ h => h) (Or.inl ⟨by rfl, ?_⟩) (by assumption) ?_
        rotate_left
        · (intro w' hSw; go_simp; try with_reducible rfl)
        try simp only [Act.put, List.getElem_toArray, List.getElem_cons_zero, List.getElem_cons_succ, List.setIfInBounds_toArray, List.set_cons_zero, List.set_cons_succ]
        refine wpAnyH_take (i := 5) (v := ?_) rfl (by kernel_rfl) (by kernel_rfl) (by kernel_rfl) (fun _ _ _ h => h) (Or.inl ⟨by rfl, ?_⟩) (by assumption) ?_
        rotate_left
        · (intro w' hSw; go_simp; try with_reducible rfl)
        try simp only [Act.put, List.getElem_toArray, List.getElem_cons_zero, List.getElem_cons_succ, List.setIfInBounds_toArray, List.set_cons_zero, List.set_cons_succ]
        refine wpAnyH_take (i := 6) (v := ?_) rfl (by kernel_rfl) (by kernel_rfl) (by kernel_rfl) (fun _ _ _ h => h) (Or.inl ⟨by rfl, ?_⟩) (by assumption) ?_
        rotate_left
        · (intro w' hSw; go_simp; try with_reducible rfl)
        try simp only [Act.put, List.getElem_toArray, List.getElem_cons_zero, List.getElem_cons_succ, List.setIfInBounds_toArray, List.set_cons_zero, List.set_cons_succ]
        refine wpAnyH_take (i := 7) (v := ?_) rfl (by kernel_rfl) (by kernel_rfl) (by kernel_rfl) (fun _ _ _ h => h) (Or.inl ⟨by rfl, ?_⟩) (by assumption) ?_
        rotate_left
        · (intro w' hSw; go_simp; try with_reducible rfl)
        try simp only [Act.put, List.getElem_toArray, List.getElem_cons_zero, List.getElem_cons_succ, List.setIfInBounds_toArray, List.set_cons_zero, List.set_cons_succ]
        refine wpAnyH_take (i := 8) (v := ?_) rfl (by kernel_rfl) (by kernel_rfl) (by kernel_rfl) (fun _ _ _ h => h) (Or.inl ⟨by rfl, ?_⟩) (by assumption) ?_
        rotate_left
        · (intro w' hSw; have q := hSw.cell z1 (fun h => List.not_mem_nil h); go_simp; try with_reducible rfl)
        try simp only [Act.put, List.getElem_toArray, List.getElem_cons_zero, List.getElem_cons_succ, List.setIfInBounds_toArray, List.set_cons_zero, List.set_cons_succ]
        refine wpAnyH_take (i := 9) (v := ?_) rfl (by kernel_rfl) (by kernel_rfl) (by kernel_rfl) (fun _ _ _ h => h) (Or.inl ⟨by rfl, ?_⟩) (by assumption) ?_
        rotate_left
        · (intro w' hSw; go_simp; try with_reducible rfl)
        try simp only [Act.put, List.getElem_toArray, List.getElem_cons_zero, List.getElem_cons_succ, List.setIfInBounds_toArray, List.set_cons_zero, List.set_cons_succ]
        refine wpAnyH_take (i := 10) (v := ?_) rfl (by kernel_rfl) (by kernel_rfl) (by kernel_rfl) (fun _ _ _ h => h) (Or.inl ⟨by rfl, ?_⟩) (by assumption) ?_
        rotate_left
        · (intro w' hSw; go_simp; try with_reducible rfl)
        try simp only [Act.put, List.getElem_toArray, List.getElem_cons_zero, List.getElem_cons_succ, List.setIfInBounds_toArray, List.set_cons_zero, List.set_cons_succ]
        refine wpAnyH_take (i := 11) (v := ?_) rfl (by kernel_rfl) (by kernel_rfl) (by kernel_rfl) (fun _ _ _ h => h) (Or.inl ⟨by rfl, ?_⟩) (by assumption) ?_
        rotate_left
        · (intro w' hSw; go_simp; try with_reducible rfl)
        try simp only [Act.put, List.getElem_toArray, List.getElem_cons_zero, List.getElem_cons_succ, List.setIfInBounds_toArray, List.set_cons_zero, List.set_cons_succ]
        refine wpAnyH_take (i := 12) (v := ?_) rfl (by kernel_rfl) (by kernel_rfl) (by kernel_rfl) (fun _ _ _ h => h) (Or.inl ⟨by rfl, ?_⟩) (by assumption) ?_
        rotate_left
        · (intro w' hSw; go_simp; try with_reducible rfl)
        try simp only [Act.put, List.getElem_toArray, List.getElem_cons_zero, List.getElem_cons_succ, List.setIfInBounds_toArray, List.set_cons_zero, List.set_cons_succ]
        refine wpAnyH_take (i := 14) (v := ?_) rfl (by kernel_rfl) (by kernel_rfl) (by kernel_rfl) (fun _ _ _ h => h) (Or.inl ⟨by rfl, ?_⟩) (by assumption) ?_
        rotate_left
        · (intro w' hSw; go_simp; try with_reducible rfl)
        try simp only [Act.put, List.getElem_toArray, List.getElem_cons_zero, List.getElem_cons_succ, List.setIfInBounds_toArray, List.set_cons_zero, List.set_cons_succ]
        refine wpAnyH_take (i := 15) (v := ?_) rfl (by kernel_rfl) (by kernel_rfl) (by kernel_rfl) (fun _ _ _ h => h) (Or.inl ⟨by rfl, ?_⟩) (by assumption) ?_
        rotate_left
        · (intro w' hSw; go_simp; try with_reducible rfl)
        try simp only [Act.put, List.getElem_toArray, List.getElem_cons_zero, List.getElem_cons_succ, List.setIfInBounds_toArray, List.set_cons_zero, List.set_cons_succ]
        refine wpAnyH_take (i := 16) (v := ?_) rfl (by kernel_rfl) (by kernel_rfl) (by kernel_rfl) (fun _ _ _ h => h) (Or.inl ⟨by rfl, ?_⟩) (by assumption) ?_
        rotate_left
        · (intro w' hSw; go_simp; try with_reducible rfl)
        try simp only [Act.put, List.getElem_toArray, List.getElem_cons_zero, List.getElem_cons_succ, List.setIfInBounds_toArray, List.set_cons_zero, List.set_cons_succ]
        refine wpAnyH_take (i := 17) (v := ?_) rfl (by kernel_rfl) (by kernel_rfl) (by kernel_rfl) (fun _ _ _ h => h) (Or.inl ⟨by rfl, ?_⟩) (by assumption) ?_
        rotate_left
        · (intro w' hSw; have q := hSw.cell z2 (fun h => List.not_mem_nil h); go_simp; try with_reducible rfl)
        try simp only [Act.put, List.getElem_toArray, List.getElem_cons_zero, List.getElem_cons_succ, List.setIfInBounds_toArray, List.set_cons_zero, List.set_cons_succ]
        refine wpAnyH_ready (rs := [13]) (by kernel_rfl) (by simp) ?_
        refine AllReadyH.cons rfl (fun K hK => ?_) (AllReadyH.nil)
        go_simp
        refine (bytes_bktN (HB.out.chg hHeld) HZL.out).mono ?_
        rintro e w6 ⟨A6, c6, rfl, hown6, hchg6, hnew6⟩
        have HO6 := Lib.hid hown6
        have H6 := Lib.hid (hHeld.trans0 hchg6)
        clear hown6 hchg6 hnew6
        refine hK.out _ _ (H6.out) (fun hHeld => ?_)
        try simp only [Act.put, List.getElem_toArray, List.getElem_cons_zero, List.getElem_cons_succ, List.setIfInBounds_toArray, List.set_cons_zero, List.set_cons_succ]
        clear hK K
        refine wpAnyH_ready (rs := [18]) (by kernel_rfl) (by simp) ?_
        refine AllReadyH.cons rfl (fun K hK => ?_) (AllReadyH.nil)
        go_simp
        refine (same_any (xs := Z) (ys := Z) HO6.out.rd (HOA.out.rd.chg hHeld (by simp))).mono ?_
        rintro e w7 ⟨rfl, rfl⟩
        rw [beq_self_eq_true]
        refine hK.out _ _ (hHeld) (fun hHeld => ?_)
        try simp only [Act.put, List.getElem_toArray, List.getElem_cons_zero, List.getElem_cons_succ, List.setIfInBounds_toArray, List.set_cons_zero, List.set_cons_succ]
        clear hK K
        refine wpAnyH_take (i := 19) (v := ?_) rfl (by kernel_rfl) (by kernel_rfl) (by kernel_rfl) (fun _ _ _ h => h) (Or.inl ⟨by rfl, ?_⟩) (by assumption) ?_
        rotate_left
        · (intro w' hSw; go_simp; try with_reducible rfl)
        try simp only [Act.put, List.getElem_toArray, List.getElem_cons_zero, List.getElem_cons_succ, List.setIfInBounds_toArray, List.set_cons_zero, List.set_cons_succ]
        refine wpAnyH_take (i := 20) (v := ?_) rfl (by kernel_rfl) (by kernel_rfl) (by kernel_rfl) (fun _ _ _ h => h) (Or.inl ⟨by rfl, ?_⟩) (by assumption) ?_
        rotate_left
        · (intro w' hSw; go_simp; try with_reducible rfl)
        try simp only [Act.put, List.getElem_toArray, List.getElem_cons_zero, List.getElem_cons_succ, List.setIfInBounds_toArray, List.set_cons_zero, List.set_cons_succ]
        refine wpAnyH_take (i := 21) (v := ?_) rfl (by kernel_rfl) (by kernel_rfl) (by kernel_rfl) (fun _ _ _ h => h) (Or.inl ⟨by rfl, ?_⟩) (by assumption) ?_
        rotate_left
        · (intro w' hSw; go_simp; try with_reducible rfl)
        try simp only [Act.put, List.getElem_toArray, List.getElem_cons_zero, List.getElem_cons_succ, List.setIfInBounds_toArray, List.set_cons_zero, List.set_cons_succ]
        refine wpAnyH_take (i := 23) (v := ?_) rfl (by kernel_rfl) (by kernel_rfl) (by kernel_rfl) (fun _ _ _ h => h) (Or.inl ⟨by rfl, ?_⟩) (by assumption) ?_
        rotate_left
        · (intro w' hSw; go_simp; try with_reducible rfl)
        try simp only [Act.put, List.getElem_toArray, List.getElem_cons_zero, List.getElem_cons_succ, List.setIfInBounds_toArray, List.set_cons_zero, List.set_cons_succ]
        refine wpAnyH_take (i := 24) (v := ?_) rfl (by kernel_rfl) (by kernel_rfl) (by kernel_rfl) (fun _ _ _ h => h) (Or.inl ⟨by rfl, ?_⟩) (by assumption) ?_
        rotate_left
        · (intro w' hSw; go_simp; try with_reducible rfl)
        try simp only [Act.put, List.getElem_toArray, List.getElem_cons_zero, List.getElem_cons_succ, List.setIfInBounds_toArray, List.set_cons_zero, List.set_cons_succ]
        refine wpAnyH_take (i := 25) (v := ?_) rfl (by kernel_rfl) (by kernel_rfl) (by kernel_rfl) (fun _ _ _ h => h) (Or.inl ⟨by rfl, ?_⟩) (by assumption) ?_
        rotate_left
        · (intro w' hSw; go_simp; try with_reducible rfl)
        try simp only [Act.put, List.getElem_toArray, List.getElem_cons_zero, List.getElem_cons_succ, List.setIfInBounds_toArray, List.set_cons_zero, List.set_cons_succ]
        refine wpAnyH_take (i := 26) (v := ?_) rfl (by kernel_rfl) (by kernel_rfl) (by kernel_rfl) (fun _ _ _ h => h) (Or.inl ⟨by rfl, ?_⟩) (by assumption) ?_
        rotate_left
        · (intro w' hSw; have q := hSw.cell z1 (fun h => List.not_mem_nil h); go_simp; try with_reducible rfl)
        try simp only [Act.put, List.getElem_toArray, List.getElem_cons_zero, List.getElem_cons_succ, List.setIfInBounds_toArray, List.set_cons_zero, List.set_cons_succ]
        refine wpAnyH_ready (rs := [22]) (by kernel_rfl) (by simp) ?_
        refine AllReadyH.cons rfl (fun K hK => ?_) (AllReadyH.nil)
        go_simp
        refine (count_bktN (HB.out.chg hHeld)).mono ?_
        rintro e w8 ⟨rfl, rfl⟩
        refine hK.out _ _ (hHeld) (fun hHeld => ?_)
        try simp only [Act.put, List.getElem_toArray, List.getElem_cons_zero, List.getElem_cons_succ, List.setIfInBounds_toArray, List.set_cons_zero, List.set_cons_succ]
        clear hK K
        refine wpAnyH_take (i := 27) (v := ?_) rfl (by kernel_rfl) (by kernel_rfl) (by kernel_rfl) (fun _ _ _ h => h) (Or.inl ⟨by rfl, ?_⟩) (by assumption) ?_
        rotate_left
        · (intro w' hSw; go_simp; try with_reducible rfl)
        try simp only [Act.put, List.getElem_toArray, List.getElem_cons_zero, List.getElem_cons_succ, List.setIfInBounds_toArray, List.set_cons_zero, List.set_cons_succ]
        refine wpAnyH_take (i := 28) (v := ?_) rfl (by kernel_rfl) (by kernel_rfl) (by kernel_rfl) (fun _ _ _ h => h) (Or.inl ⟨by rfl, ?_⟩) (by assumption) ?_
        rotate_left
        · (intro w' hSw; go_simp; try with_reducible rfl)
        try simp only [Act.put, List.getElem_toArray, List.getElem_cons_zero, List.getElem_cons_succ, List.setIfInBounds_toArray, List.set_cons_zero, List.set_cons_succ]
        refine wpAnyH_take (i := 29) (v := ?_) rfl (by kernel_rfl) (by kernel_rfl) (by kernel_rfl) (fun _ _ _ h => h) (Or.inl ⟨by rfl, ?_⟩) (by assumption) ?_
        rotate_left
        · (intro w' hSw; go_simp; try with_reducible rfl)
        try simp only [Act.put, List.getElem_toArray, List.getElem_cons_zero, List.getElem_cons_succ, List.setIfInBounds_toArray, List.set_cons_zero, List.set_cons_succ]
        refine wpAnyH_done (by kernel_rfl) ?_ _
        try simp only [Act.put, List.getElem_toArray, List.getElem_cons_zero, List.getElem_cons_succ, List.setIfInBounds_toArray, List.set_cons_zero, List.set_cons_succ]
        go_wp2
        go_ret
        exact ⟨rfl, HC1.out.trans0 (HB.out.chg H6.out).ch⟩
      · have hup2 := HUP.out.step HP.out (by omega)
        go_roundw
        case rel => exact ⟨k + 1, hlt, rfl, by go_num, hup2, hrc2⟩
        case measure => simp [intOf]; omega
    · have hke : k = C.length := by omega
      have h0 := (show Upto R C C.length by rw [← hke]; exact HUP.out).done
      rw [← hke] at h0
      cases HTK.out.symm.trans h0
      clear hup
      go_wp2_with fail
      have hzl := HFL.out kb
      obtain ⟨A', hrb, hch2, hn2⟩ := hrc
      have hb5 := HB5.out
      generalize hZ : (C.take kb).flatten = Z at hzl hrb hb5
      have HZL := Lib.hid hzl
      clear hZ hzl
      obtain ⟨t', n', c', hblk, hown, hgA', rfl⟩ := hrb
      have z1 := hblk.cell 1
      have z2 := hblk.cell 2
      simp at z1 z2
      have HB := Lib.hid (hb5.far (HC6.out.trans0 HC9.out) hch2 HG6.out)
      have HOA := Lib.hid hown
      clear hblk hown hgA' hch2 hn2 hb5
      refine wp_region_held_drew (S := fun w' => Chg [] wr w') (by kernel_rfl) ((Chg.refl _ _).drew) (fun hHeld => ?_)
      refine wpAnyH_take (i := 0) (v := ?_) rfl (by kernel_rfl) (by kernel_rfl) (by kernel_rfl) (fun _ _ _ h => h) (Or.inl ⟨by rfl, ?_⟩) (by assumption) ?_
      rotate_left
      · (intro w' hSw; go_simp; try with_reducible rfl)
      try simp only [Act.put, List.getElem_toArray, List.getElem_cons_zero, List.setIfInBounds_toArray, List.set_cons_zero, List.set_cons_succ]
      refine wpAnyH_take (i := 1) (v := ?_) rfl (by kernel_rfl) (by kernel_rfl) (by kernel_rfl) (fun _ _ _ h => h) (Or.inl ⟨by rfl, ?_⟩) (by assumption) ?_
      rotate_left
      · (intro w' hSw; go_simp; try with_reducible rfl)
      try simp only [Act.put, List.getElem_toArray, List.getElem_cons_zero, List.getElem_cons_succ, List.setIfInBounds_toArray, List.set_cons_zero, List.set_cons_succ]
      refine wpAnyH_take (i := 2) (v := ?_) rfl (by kernel_rfl) (by kernel_rfl) (by kernel_rfl) (fun _ _ _ h => h) (Or.inl ⟨by rfl, ?_⟩) (by assumption) ?_
      rotate_left
      · (intro w' hSw; go_simp; try with_reducible rfl)
      try simp only [Act.put, List.getElem_toArray, List.getElem_cons_zero, List.getElem_cons_succ, List.setIfInBounds_toArray, List.set_cons_zero, List.set_cons_succ]
      refine wpAnyH_take (i := 3) (v := ?_) rfl (by kernel_rfl) (by kernel_rfl) (by kernel_rfl) (fun _ _ _ h => h) (Or.inl ⟨by rfl, ?_⟩) (by assumption) ?_
      rotate_left
      · (intro w' hSw; go_simp; try with_reducible rfl)
      try simp only [Act.put, List.getElem_toArray, List.getElem_cons_zero, List.getElem_cons_succ, List.setIfInBounds_toArray, List.set_cons_zero, List.set_cons_succ]
      refine wpAnyH_take (i := 4) (v := ?_) rfl (by kernel_rfl) (by kernel_rfl) (by kernel_rfl) (fun _ _ _ h => h) (Or.inl ⟨by rfl, ?_⟩) (by assumption) ?_
      rotate_left
      · (intro w' hSw; go_simp; try with_reducible rfl)
      try simp only [Act.put, List.getElem_toArray, List.getElem_cons_zero, List.getElem_cons_succ, List.setIfInBounds_toArray, List.set_cons_zero, List.set_cons_succ]
      refine wpAnyH_take (i := 5) (v := ?_) rfl (by kernel_rfl) (by kernel_rfl) (by kernel_rfl) (fun _ _ _ h => h) (Or.inl ⟨by rfl, ?_⟩) (by assumption) ?_
      rotate_left
      · (intro w' hSw; go_simp; try with_reducible rfl)
      try simp only [Act.put, List.getElem_toArray, List.getElem_cons_zero, List.getElem_cons_succ, List.setIfInBounds_toArray, List.set_cons_zero, List.set_cons_succ]
      refine wpAnyH_take (i := 6) (v := ?_) rfl (by kernel_rfl) (by kernel_rfl) (by kernel_rfl) (fun _ _ _ h => h) (Or.inl ⟨by rfl, ?_⟩) (by assumption) ?_
      rotate_left
      · (intro w' hSw; go_simp; try with_reducible rfl)
      try simp only [Act.put, List.getElem_toArray, List.getElem_cons_zero, List.getElem_cons_succ, List.setIfInBounds_toArray, List.set_cons_zero, List.set_cons_succ]
      refine wpAnyH_take (i := 7) (v := ?_) rfl (by kernel_rfl) (by kernel_rfl) (by kernel_rfl) (fun _ _ _ h => h) (Or.inl ⟨by rfl, ?_⟩) (by assumption) ?_
      rotate_left
      · (intro w' hSw; go_simp; try with_reducible rfl)
      try simp only [Act.put, List.getElem_toArray, List.getElem_cons_zero, List.getElem_cons_succ, List.setIfInBounds_toArray, List.set_cons_zero, List.set_cons_succ]
      refine wpAnyH_take (i := 8) (v := ?_) rfl (by kernel_rfl) (by kernel_rfl) (by kernel_rfl) (fun _ _ _ h => h) (Or.inl ⟨by rfl, ?_⟩) (by assumption) ?_
      rotate_left
      · (intro w' hSw; have q := hSw.cell z1 (fun h => List.not_mem_nil h); go_simp; try with_reducible rfl)
      try simp only [Act.put, List.getElem_toArray, List.getElem_cons_zero, List.getElem_cons_succ, List.setIfInBounds_toArray, List.set_cons_zero, List.set_cons_succ]
      refine wpAnyH_take (i := 9) (v := ?_) rfl (by kernel_rfl) (by kernel_rfl) (by kernel_rfl) (fun _ _ _ h => h) (Or.inl ⟨by rfl, ?_⟩) (by assumption) ?_
      rotate_left
      · (intro w' hSw; go_simp; try with_reducible rfl)
      try simp only [Act.put, List.getElem_toArray, List.getElem_cons_zero, List.getElem_cons_succ, List.setIfInBounds_toArray, List.set_cons_zero, List.set_cons_succ]
      refine wpAnyH_take (i := 10) (v := ?_) rfl (by kernel_rfl) (by kernel_rfl) (by kernel_rfl) (fun _ _ _ h => h) (Or.inl ⟨by rfl, ?_⟩) (by assumption) ?_
      rotate_left
      · (intro w' hSw; go_simp; try with_reducible rfl)
      try simp only [Act.put, List.getElem_toArray, List.getElem_cons_zero, List.getElem_cons_succ, List.setIfInBounds_toArray, List.set_cons_zero, List.set_cons_succ]
      refine wpAnyH_take (i := 11) (v := ?_) rfl (by kernel_rfl) (by kernel_rfl) (by kernel_rfl) (fun _ _ _ h => h) (Or.inl ⟨by rfl, ?_⟩) (by assumption) ?_
      rotate_left
      · (intro w' hSw; go_simp; try with_reducible rfl)
      try simp only [Act.put, List.getElem_toArray, List.getElem_cons_zero, List.getElem_cons_succ, List.setIfInBounds_toArray, List.set_cons_zero, List.set_cons_succ]
      refine wpAnyH_take (i := 12) (v := ?_) rfl (by kernel_rfl) (by kernel_rfl) (by kernel_rfl) (fun _ _ _ h => h) (Or.inl ⟨by rfl, ?_⟩) (by assumption) ?_
      rotate_left
      · (intro w' hSw; go_simp; try with_reducible rfl)
      try simp only [Act.put, List.getElem_toArray, List.getElem_cons_zero, List.getElem_cons_succ, List.setIfInBounds_toArray, List.set_cons_zero, List.set_cons_succ]
      refine wpAnyH_take (i := 14) (v := ?_) rfl (by kernel_rfl) (by kernel_rfl) (by kernel_rfl) (fun _ _ _ h => h) (Or.inl ⟨by rfl, ?_⟩) (by assumption) ?_
      rotate_left
      · (intro w' hSw; go_simp; try with_reducible rfl)
      try simp only [Act.put, List.getElem_toArray, List.getElem_cons_zero, List.getElem_cons_succ, List.setIfInBounds_toArray, List.set_cons_zero, List.set_cons_succ]
      refine wpAnyH_take (i := 15) (v := ?_) rfl (by kernel_rfl) (by kernel_rfl) (by kernel_rfl) (fun _ _ _ h => h) (Or.inl ⟨by rfl, ?_⟩) (by assumption) ?_
      rotate_left
      · (intro w' hSw; go_simp; try with_reducible rfl)
      try simp only [Act.put, List.getElem_toArray, List.getElem_cons_zero, List.getElem_cons_succ, List.setIfInBounds_toArray, List.set_cons_zero, List.set_cons_succ]
      refine wpAnyH_take (i := 16) (v := ?_) rfl (by kernel_rfl) (by kernel_rfl) (by kernel_rfl) (fun _ _ _ h => h) (Or.inl ⟨by rfl, ?_⟩) (by assumption) ?_
      rotate_left
      · (intro w' hSw; go_simp; try with_reducible rfl)
      try simp only [Act.put, List.getElem_toArray, List.getElem_cons_zero, List.getElem_cons_succ, List.setIfInBounds_toArray, List.set_cons_zero, List.set_cons_succ]
      refine wpAnyH_take (i := 17) (v := ?_) rfl (by kernel_rfl) (by kernel_rfl) (by kernel_rfl) (fun _ _ _ h => h) (Or.inl ⟨by rfl, ?_⟩) (by assumption) ?_
      rotate_left
      · (intro w' hSw; have q := hSw.cell z2 (fun h => List.not_mem_nil h); go_simp; try with_reducible rfl)
      try simp only [Act.put, List.getElem_toArray, List.getElem_cons_zero, List.getElem_cons_succ, List.setIfInBounds_toArray, List.set_cons_zero, List.set_cons_succ]
      refine wpAnyH_ready (rs := [13]) (by kernel_rfl) (by simp) ?_
      refine AllReadyH.cons rfl (fun K hK => ?_) (AllReadyH.nil)
      go_simp
      refine (bytes_bktN (HB.out.chg hHeld) HZL.out).mono ?_
      rintro e w6 ⟨A6, c6, rfl, hown6, hchg6, hnew6⟩
      have HO6 := Lib.hid hown6
      have H6 := Lib.hid (hHeld.trans0 hchg6)
      clear hown6 hchg6 hnew6
      refine hK.out _ _ (H6.out) (fun hHeld => ?_)
      try simp only [Act.put, List.getElem_toArray, List.getElem_cons_zero, List.getElem_cons_succ, List.setIfInBounds_toArray, List.set_cons_zero, List.set_cons_succ]
      clear hK K
      refine wpAnyH_ready (rs := [18]) (by kernel_rfl) (by simp) ?_
      refine AllReadyH.cons rfl (fun K hK => ?_) (AllReadyH.nil)
      go_simp
      refine (same_any (xs := Z) (ys := Z) HO6.out.rd (HOA.out.rd.chg hHeld (by simp))).mono ?_
      rintro e w7 ⟨rfl, rfl⟩
      rw [beq_self_eq_true]
      refine hK.out _ _ (hHeld) (fun hHeld => ?_)
      try simp only [Act.put, List.getElem_toArray, List.getElem_cons_zero, List.getElem_cons_succ, List.setIfInBounds_toArray, List.set_cons_zero, List.set_cons_succ]
      clear hK K
      refine wpAnyH_take (i := 19) (v := ?_) rfl (by kernel_rfl) (by kernel_rfl) (by kernel_rfl) (fun _ _ _ h => h) (Or.inl ⟨by rfl, ?_⟩) (by assumption) ?_
      rotate_left
      · (intro w' hSw; go_simp; try with_reducible rfl)
      try simp only [Act.put, List.getElem_toArray, List.getElem_cons_zero, List.getElem_cons_succ, List.setIfInBounds_toArray, List.set_cons_zero, List.set_cons_succ]
      refine wpAnyH_take (i := 20) (v := ?_) rfl (by kernel_rfl) (by kernel_rfl) (by kernel_rfl) (fun _ _ _ h => h) (Or.inl ⟨by rfl, ?_⟩) (by assumption) ?_
      rotate_left
      · (intro w' hSw; go_simp; try with_reducible rfl)
      try simp only [Act.put, List.getElem_toArray, List.getElem_cons_zero, List.getElem_cons_succ, List.setIfInBounds_toArray, List.set_cons_zero, List.set_cons_succ]
      refine wpAnyH_take (i := 21) (v := ?_) rfl (by kernel_rfl) (by kernel_rfl) (by kernel_rfl) (fun _ _ _ h => h) (Or.inl ⟨by rfl, ?_⟩) (by assumption) ?_
      rotate_left
      · (intro w' hSw; go_simp; try with_reducible rfl)
      try simp only [Act.put, List.getElem_toArray, List.getElem_cons_zero, List.getElem_cons_succ, List.setIfInBounds_toArray, List.set_cons_zero, List.set_cons_succ]
      refine wpAnyH_take (i := 23) (v := ?_) rfl (by kernel_rfl) (by kernel_rfl) (by kernel_rfl) (fun _ _ _ h => h) (Or.inl ⟨by rfl, ?_⟩) (by assumption) ?_
      rotate_left
      · (intro w' hSw; go_simp; try with_reducible rfl)
      try simp only [Act.put, List.getElem_toArray, List.getElem_cons_zero, List.getElem_cons_succ, List.setIfInBounds_toArray, List.set_cons_zero, List.set_cons_succ]
      refine wpAnyH_take (i := 24) (v := ?_) rfl (by kernel_rfl) (by kernel_rfl) (by kernel_rfl) (fun _ _ _ h => h) (Or.inl ⟨by rfl, ?_⟩) (by assumption) ?_
      rotate_left
      · (intro w' hSw; go_simp; try with_reducible rfl)
      try simp only [Act.put, List.getElem_toArray, List.getElem_cons_zero, List.getElem_cons_succ, List.setIfInBounds_toArray, List.set_cons_zero, List.set_cons_succ]
      refine wpAnyH_take (i := 25) (v := ?_) rfl (by kernel_rfl) (by kernel_rfl) (by kernel_rfl) (fun _ _ _ h => h) (Or.inl ⟨by rfl, ?_⟩) (by assumption) ?_
      rotate_left
      · (intro w' hSw; go_simp; try with_reducible rfl)
      try simp only [Act.put, List.getElem_toArray, List.getElem_cons_zero, List.getElem_cons_succ, List.setIfInBounds_toArray, List.set_cons_zero, List.set_cons_succ]
      refine wpAnyH_take (i := 26) (v := ?_) rfl (by kernel_rfl) (by kernel_rfl) (by kernel_rfl) (fun _ _ _ h => h) (Or.inl ⟨by rfl, ?_⟩) (by assumption) ?_
      rotate_left
      · (intro w' hSw; have q := hSw.cell z1 (fun h => List.not_mem_nil h); go_simp; try with_reducible rfl)
      try simp only [Act.put, List.getElem_toArray, List.getElem_cons_zero, List.getElem_cons_succ, List.setIfInBounds_toArray, List.set_cons_zero, List.set_cons_succ]
      refine wpAnyH_ready (rs := [22]) (by kernel_rfl) (by simp) ?_
      refine AllReadyH.cons rfl (fun K hK => ?_) (AllReadyH.nil)
      go_simp
      refine (count_bktN (HB.out.chg hHeld)).mono ?_
      rintro e w8 ⟨rfl, rfl⟩
      refine hK.out _ _ (hHeld) (fun hHeld => ?_)
      try simp only [Act.put, List.getElem_toArray, List.getElem_cons_zero, List.getElem_cons_succ, List.setIfInBounds_toArray, List.set_cons_zero, List.set_cons_succ]
      clear hK K
      refine wpAnyH_take (i := 27) (v := ?_) rfl (by kernel_rfl) (by kernel_rfl) (by kernel_rfl) (fun _ _ _ h => h) (Or.inl ⟨by rfl, ?_⟩) (by assumption) ?_
      rotate_left
      · (intro w' hSw; go_simp; try with_reducible rfl)
      try simp only [Act.put, List.getElem_toArray, List.getElem_cons_zero, List.getElem_cons_succ, List.setIfInBounds_toArray, List.set_cons_zero, List.set_cons_succ]
      refine wpAnyH_take (i := 28) (v := ?_) rfl (by kernel_rfl) (by kernel_rfl) (by kernel_rfl) (fun _ _ _ h => h) (Or.inl ⟨by rfl, ?_⟩) (by assumption) ?_
      rotate_left
      · (intro w' hSw; go_simp; try with_reducible rfl)
      try simp only [Act.put, List.getElem_toArray, List.getElem_cons_zero, List.getElem_cons_succ, List.setIfInBounds_toArray, List.set_cons_zero, List.set_cons_succ]
      refine wpAnyH_take (i := 29) (v := ?_) rfl (by kernel_rfl) (by kernel_rfl) (by kernel_rfl) (fun _ _ _ h => h) (Or.inl ⟨by rfl, ?_⟩) (by assumption) ?_
      rotate_left
      · (intro w' hSw; go_simp; try with_reducible rfl)
      try simp only [Act.put, List.getElem_toArray, List.getElem_cons_zero, List.getElem_cons_succ, List.setIfInBounds_toArray, List.set_cons_zero, List.set_cons_succ]
      refine wpAnyH_done (by kernel_rfl) ?_ _
      try simp only [Act.put, List.getElem_toArray, List.getElem_cons_zero, List.getElem_cons_succ, List.setIfInBounds_toArray, List.set_cons_zero, List.set_cons_succ]
      go_wp2
      go_ret
      exact ⟨rfl, HC1.out.trans0 (HB.out.chg H6.out).ch⟩
end Go.Proofs.Ytcdhmnefmbcmaaa.Vw
