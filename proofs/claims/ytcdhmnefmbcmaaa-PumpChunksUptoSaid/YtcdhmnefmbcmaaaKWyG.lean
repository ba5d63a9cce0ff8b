/-
  The law of Chunks over the second virtual program: it answers true; no condition but what each law names.
-/
import Derived.Test.YtcdhmnefmbcmaaaKWyF
namespace Go.Proofs.Ytcdhmnefmbcmaaa.Ww
open Go Go.RowKit
theorem res_bool {T : Array Value} {a : Addr} {w : World} {b : Bool} (hT : T.getD 4 undef = .pointer (some a)) (hc : w.cell? a = some (.bool b)) : (results Try.f3 T).run Tryw.prog w = .ok (.bool b) w := by
  have e : (isAgg 4).run Tryw.prog w = .ok false w := by
    unfold isAgg
    simp only [Sem.run_bind, run_underlying (show Tryw.prog.underlying 4 = some .bool from Try.underlying4)]
    rfl
  rw [results_run (p := 4) (t := 4) rfl, hT]
  simp only [asAddr, Sem.run_pure, Result.andThen]
  unfold loadVar
  simp only [Sem.run_bind, e, Result.andThen, Bool.false_eq_true, if_false]
  unfold load
  simp only [Sem.run, hc]
set_option maxRecDepth 100000 in
set_option maxHeartbeats 3200000 in
theorem lawchunks_any {A : Option Addr} {n c : Nat} {zs : List Int} {size : Int} {w : World} (hn : n ≤ 1048576) (hs : size ≤ 9223372036854775807) (hrd : Rd w 1 A n c (bv zs)) (hz : ∀ z ∈ zs, 0 ≤ z ∧ z ≤ 255) :
    Calls Tryw.prog 3 #[.slice A n c, .int .i64 size] w fun e w' => e = .returned (.bool true) ∧ Chg [] w w' := by
  refine (callsIn_wide (n := 0)).1 ?_
  refine callsIn_of_wp_marks Tryw.func3 rfl trivial ?_ rfl
  simp only [Try.ntmps3, List.size_toArray, List.length_cons, List.length_nil, Nat.reduceAdd, Nat.reduceSub, Array.replicate_succ, Array.replicate_zero, List.push_toArray, List.append_toArray, List.nil_append, List.cons_append]
  have hl : zs.length = n := by have := hrd.1; simp at this; omega
  have HR := Lib.hid hrd
  have HL := Lib.hid hl
  have HN := Lib.hid hn
  have HS := Lib.hid hs
  have HZ := Lib.hid hz
  clear hrd hl hn hs hz
  have hF : ∀ f, Fence.wide.fn f := fun _ => trivial
  have k1 := Tryw.call8
  have k2 := Tryw.call9
  have k3 := Tryw.call10
  have k4 := Tryw.call11
  have k5 := Tryw.call12
  have q1 := @eql_funcnil
  have hc1 : Chg [] w (w.alloc (.cells #[.bool false] 4)) := (Chg.refl [] w).alloc _
  have hr0 : Blk (w.alloc (.cells #[.bool false] 4)) w.heap.size 4 #[.bool false] := Blk.new w _ _
  have hz1 : (w.alloc (.cells #[.bool false] 4)).heap.size = w.heap.size + 1 := by simp
  have HC1 := Lib.hid hc1
  have HR0 := Lib.hid hr0
  have HZ1 := Lib.hid hz1
  clear hc1 hr0 hz1
  gi_wp2_with (first
    | (refine ⟨rfl, ?_⟩; gi_at_call 8; refine (callsIn_wide.2 (copy_any A n c zs _ (by have := HN.out; omega) (HR.out.chg HC1.out (by simp)))).mono ?_; rintro e w2 ⟨I, ic, rfl, hoI, hcI, hnI⟩)
    | (refine ⟨rfl, ?_⟩; gi_at_call 9; refine (callsIn_wide.2 (chunksw_any (size := size) (by have := HN.out; omega) HS.out hoI.rd)).mono ?_; rintro e w3 ⟨p1, p2, B, c2, rfl, hsq, hc3, hp1, hp2, hB⟩)
    | (refine ⟨rfl, ?_⟩; gi_at_call 10; refine (callsIn_wide.2 (same_any ((hoI.chg hc3 (by simp)).rd) (((HR.out.chg HC1.out (by simp)).chg hcI (by simp)).chg hc3 (by simp)))).mono ?_; rintro e w4 ⟨rfl, hw4⟩; rw [hw4]; clear hw4)
    | (refine ⟨rfl, ?_⟩; gi_at_call 11; refine (callsIn_wide.2 (speaksw_any)).mono ?_; rintro e w4 ⟨rfl, hw4⟩; rw [hw4]; clear hw4))
  have HOI := Lib.hid (hoI.chg hc3 (by simp))
  have hc13 : Chg [] w w3 := (HC1.out.trans hcI (by simp)).trans hc3 (by simp)
  have HC13 := Lib.hid hc13
  have HSQ := Lib.hid hsq
  have HNI := Lib.hid hnI
  have HB := Lib.hid hB
  have HP1 := Lib.hid hp1
  have HP2 := Lib.hid hp2
  have HCI := Lib.hid hcI
  have HC3 := Lib.hid hc3
  have HR03 := Lib.hid ((HR0.out.chg hcI (by simp)).chg hc3 (by simp))
  have HOI2 := Lib.hid hoI
  clear hoI hc13 hsq hnI hB hp1 hp2 hcI hc3 k1 k2 k3 k4 q1
  gi_loopw [7, 32] (fun _ i w9 => ∃ (q : Nat) (ys : List Value), q ≤ n ∧ i = .int .i64 q ∧ Own w9 5 1 I n ic ys ∧ Chg (bo I) w3 w9) (fun _ i _ => n - (intOf i).toNat)
  case atStart => exact ⟨0, _, Nat.zero_le _, rfl, HOI.out, Chg.refl _ _⟩
  case round =>
    obtain ⟨q, ys, hq, rfl, hoq, hcq⟩ := hrel
    have HCQ := Lib.hid hcq
    have HOQ := Lib.hid hoq
    clear hcq
    by_cases hqlt : q < n
    · obtain ⟨ad9, u, rfl, hx, hcx, hfz, hset⟩ := hoq.at1 hqlt
      have HSET := Lib.hid hset
      clear hx hset hoq
      have hn2 := HN.out
      gi_wp2
      go_roundw
      case rel => exact ⟨q + 1, _, by omega, by go_num, HSET.out _, HCQ.out.setCell (.inl (by rw [add_block]; simp)) _⟩
      case measure => simp [intOf]; omega
    · clear hoq
      have hbI : ∀ k ∈ bo I, w.heap.size ≤ k := fun k hk => by have h1 := HNI.out k hk; have h2 := HZ1.out; omega
      have HCW := Lib.hid (HC13.out.trans HCQ.out (fun b hb => .inr (hbI b hb)))
      have HRA := Lib.hid (HR.out.chg HCW.out (by simp))
      have HSQ9 : Hid (SeqOf zs (szOf size n) wr p1 p2 B c2) := Lib.hid (by
        obtain ⟨s1, s2, s3, s4⟩ := HSQ.out
        have hI2 : ∀ b ∈ bo I, b < w2.heap.size := HOI2.out.lt
        exact ⟨s1, s2.chg HCQ.out (fun h => by have h1 := hI2 _ h; have h2 := HP1.out; omega), s3.chg HCQ.out (fun h => by have h1 := hI2 _ h; have h2 := HP2.out; omega), s4.chg HCQ.out (fun k hk h => by have h1 := hI2 _ h; have h2 := HB.out k hk; omega)⟩)
      gi_wp2_with (refine ⟨rfl, ?_⟩; gi_at_call 12; refine (callsIn_wide.2 (rchunks_any (size := size) (by have := HN.out; omega) HRA.out)).mono ?_; rintro e w10 ⟨WA, wc, vs, LL, rfl, hoW, hin, hcW, hbW, hbL⟩)
      -- LOOP
      have hb8w : w10.heap.size < (w10.alloc (.cells #[.slice WA (cutr (szOf size zs.length) zs).length wc] 29)).heap.size := by simp
      obtain ⟨d, hd⟩ : ∃ d, d = szOf size zs.length := ⟨_, rfl⟩
      have hd1 : d + 1 ≤ 9223372036854775807 := by rw [hd]; unfold szOf; have := HS.out; have := HL.out; have := HN.out; split <;> omega
      have HSQ10 := HSQ9.out
      rw [← HL.out] at HSQ10
      rw [← hd] at hoW hin HSQ10 ⊢
      obtain ⟨N, hNe⟩ : ∃ N, N = (cutr d zs).length := ⟨_, rfl⟩
      have hlW : (cutr d zs).length = N := hNe.symm
      rw [hlW] at hoW ⊢
      obtain ⟨b8, hb8⟩ : ∃ b8, b8 = w10.heap.size := ⟨_, rfl⟩
      obtain ⟨V, hV⟩ : ∃ V, w10.alloc (.cells #[.slice WA N wc] 29) = V := ⟨_, rfl⟩
      have hcV1 : Chg [] w10 V := by rw [← hV]; exact (Chg.refl [] w10).alloc _
      have hV3 : Blk V b8 29 #[.slice WA N wc] := by rw [← hV, hb8]; exact Blk.new w10 _ _
      have hVz : V.heap.size = w10.heap.size + 1 := by rw [← hV]; simp
      have hcwV : Chg [] w V := (HCW.out.trans hcW (by simp)).trans hcV1 (by simp)
      have hV2 : Blk V w.heap.size 4 #[.bool false] := ((HR03.out.chg HCQ.out (fun h => by have h1 := HNI.out _ h; have h2 := HZ1.out; omega)).chg hcW (by simp)).chg hcV1 (by simp)
      have hV4 := hoW.chg hcV1 (by simp)
      have hV5 := hin.chg hcV1 (by simp)
      have hV6 : SeqOf zs d V p1 p2 B c2 := by
        obtain ⟨s1, s2, s3, s4⟩ := HSQ10
        exact ⟨s1, (s2.chg hcW (by simp)).chg hcV1 (by simp), (s3.chg hcW (by simp)).chg hcV1 (by simp), (s4.chg hcW (by simp)).chg hcV1 (by simp)⟩
      rw [← hb8, hV]
      rw [show b8 + 1 = V.heap.size by rw [hVz, hb8]]
      have hb8V : b8 < V.heap.size := by rw [hVz, hb8]; omega
      clear hV hb8 hcV1 hVz hcW hoW hin HSQ10 hb8w hlW hd hbW hbL
      have HCV := Lib.hid hcwV
      have HV2 := Lib.hid hV2
      have HV3 := Lib.hid hV3
      have HV4 := Lib.hid hV4
      have HV5 := Lib.hid hV5
      have HV6 := Lib.hid hV6
      have HNE := Lib.hid hNe
      have HD1 := Lib.hid hd1
      have HB8 := Lib.hid hb8V
      clear hcwV hV2 hV3 hV4 hV5 hV6 hNe hd1 hb8V hq hqlt
      have HVV : LcV V zs d N w.heap.size b8 p1 p2 c2 wc B WA vs LL := ⟨HV2.out, HV3.out, HV4.out, HV5.out, HV6.out, HNE.out, HD1.out, by rw [HL.out]; exact HN.out, HZ.out⟩
      have hI0 : LcI V 0 V.heap.size [] (V.alloc (.cells #[.int .i64 (0 : Int)] 3)) := ⟨Blk.new V _ _, (Chg.refl [] V).alloc _, Nat.le_refl _, List.nodup_nil, fun D hD => (by cases hD)⟩
      change (Code.loop lcC).wpIn _ _ _ _ _ _
      refine loop_times 3 ?_
      refine lc_iter HVV (rd := 0) (by decide) hI0 (Ds := []) (fun b9a Da x10 x42 x43 x44 x45 x46 x80 x81 x82 x83 x84 x85 x86 x87 x88 x89 x90 x91 x92 x93 x94 x95 x96 x97 x98 x99 wa hIa => ?_)
      refine lc_iter HVV (rd := 1) (by decide) hIa (fun b9b Db y10 y42 y43 y44 y45 y46 y80 y81 y82 y83 y84 y85 y86 y87 y88 y89 y90 y91 y92 y93 y94 y95 y96 y97 y98 y99 wb hIb => ?_)
      refine lc_iter HVV (rd := 2) (by decide) hIb (fun b9c Dc z10 z42 z43 z44 z45 z46 z80 z81 z82 z83 z84 z85 z86 z87 z88 z89 z90 z91 z92 z93 z94 z95 z96 z97 z98 z99 wx hIc => ?_)
      refine lc_last hIc.bl (fun x42 x43 => ?_)
      have hr0x : Blk wx w.heap.size 4 #[.bool false] := HV2.out.chg hIc.chg (by simp)
      have er := hr0x.cell 0
      have fr := hr0x.frozen 0
      have hzx : w.heap.size < wx.heap.size := hr0x.lt
      have HIC := Lib.hid hIc
      have HR0X := Lib.hid hr0x
      have HWX := Lib.hid (HCV.out.trans hIc.chg (by simp))
      have hVw : w.heap.size < V.heap.size := HV2.out.lt
      clear hr0x hIc hIb hIa hI0 HVV
      gi_wp2
      refine leaves_marks [Dc, Db, Da] _ HIC.out.nd (fun D hD => ?_) (fun w' hc => ?_)
      · obtain ⟨h1, h2⟩ := HIC.out.ds D hD
        exact (Below.heap_setCell wx _ _ D (by simp; omega)).trans h2
      · have hn : w.heap.size ∉ [Dc, Db, Da] := fun h => by have h1 := (HIC.out.ds _ h).1; omega
        have hb := (HR0X.out.set_ 0 (.bool true)).chg hc hn
        refine ⟨.bool true, res_bool rfl (hb.cell 0), rfl, ?_⟩
        exact (HWX.out.setCell (p := ⟨w.heap.size, 0, none⟩) (.inr (Nat.le_refl _)) _).trans hc (fun D hD => .inr (by have h1 := (HIC.out.ds D hD).1; omega))
end Go.Proofs.Ytcdhmnefmbcmaaa.Ww
