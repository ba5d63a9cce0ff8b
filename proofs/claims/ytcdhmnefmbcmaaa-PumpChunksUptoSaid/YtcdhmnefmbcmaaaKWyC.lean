/-
  Chunks' function over the second virtual program: it calls what it is given with copies of the pieces; no condition but what each law names.
-/
import Derived.Test.YtcdhmnefmbcmaaaKWyB
namespace Go.Proofs.Ytcdhmnefmbcmaaa.Ww
open Go Go.RowKit
set_option maxRecDepth 100000 in
theorem Tryw.call23 (p : Array Value) (w : World) : (callFunc 23 p).run Tryw.prog w = .ok (.enter 23 p) w := enters_of Tryw.func23 (by kernel_rfl) rfl p w
theorem Tryw.call21 (p : Array Value) (w : World) : (callFunc 21 p).run Tryw.prog w = .ok (.enter 21 p) w := enters_of Tryw.func21 (by kernel_rfl) rfl p w
theorem Tryw.call22 (p : Array Value) (w : World) : (callFunc 22 p).run Tryw.prog w = .ok (.enter 22 p) w := enters_of Tryw.func22 (by kernel_rfl) rfl p w
theorem Tryw.call29 (p : Array Value) (w : World) : (callFunc 29 p).run Tryw.prog w = .ok (.enter 29 p) w := enters_of Tryw.func29 (by kernel_rfl) rfl p w
theorem Tryw.call11 (p : Array Value) (w : World) : (callFunc 11 p).run Tryw.prog w = .ok (.enter 11 p) w := enters_of Tryw.func11 (by kernel_rfl) rfl p w
theorem Tryw.call10 (p : Array Value) (w : World) : (callFunc 10 p).run Tryw.prog w = .ok (.enter 10 p) w := enters_of Tryw.func10 (by kernel_rfl) rfl p w
theorem Tryw.call8 (p : Array Value) (w : World) : (callFunc 8 p).run Tryw.prog w = .ok (.enter 8 p) w := enters_of Tryw.func8 (by kernel_rfl) rfl p w
theorem Tryw.call12 (p : Array Value) (w : World) : (callFunc 12 p).run Tryw.prog w = .ok (.enter 12 p) w := enters_of Tryw.func12 (by kernel_rfl) rfl p w
theorem Tryw.call9 (p : Array Value) (w : World) : (callFunc 9 p).run Tryw.prog w = .ok (.enter 9 p) w := enters_of Tryw.func9 (by kernel_rfl) rfl p w
/-- slices.Chunk: its two boxes, and the function that goes over the pieces -/
theorem chunk_any {A : Option Addr} {n c d : Nat} {w : World} : Calls Tryw.prog 23 #[.slice A n c, .int .i64 ((d + 1 : Nat) : Int)] w fun e w' =>
    e = .returned (.func (.func 29) #[] #[.pointer (some ⟨w.heap.size, 0, none⟩), .pointer (some ⟨w.heap.size + 1, 0, none⟩)]) ∧ w' = (w.alloc (.cells #[.slice A n c] 22)).alloc (.cells #[.int .i64 ((d + 1 : Nat) : Int)] 3) := by
  have h1 : decide (((d + 1 : Nat) : Int) < 1) = false := by simp; omega
  go_enter Tryw.func23, Try.ntmps23
  go_wp2
  go_ret
  exact ⟨rfl, rfl⟩
/-- the k-th piece, copied into new memory -/
def PcNew (zs : List Int) (d : Nat) (k : Nat) (x : Value) (w : World) : Prop :=
  ∃ q B c, (cutr d zs)[k]? = some q ∧ x = .slice B q.length c ∧ Own w 5 1 B q.length c (bv q)
/-- the blocks of a slice -/
def sb : Value → List Nat
  | .slice B _ _ => bo B
  | _ => []
set_option maxRecDepth 100000 in
set_option maxHeartbeats 1600000 in
theorem chunks1_iter {b1 b2 : Nat} {A : Option Addr} {n c d : Nat} {zs : List Int} {W : World} (hb1 : Blk W b1 22 #[.slice A n c]) (hb2 : Blk W b2 3 #[.int .i64 ((d + 1 : Nat) : Int)]) (hrd : Rd W 1 A n c (bv zs)) (hA : ∀ b ∈ bo A, b < W.heap.size) (hd : d + 1 ≤ 9223372036854775807) (hn : n ≤ 1073741824) :
    Iter Tryw.prog 22 #[.pointer (some ⟨b1, 0, none⟩), .pointer (some ⟨b2, 0, none⟩)] (b1 :: b2 :: bo A) sb (cutr d zs).length (PcNew zs d) W := by
  intro l L J Jx hL hJ hJx hY h0
  have c1 := (hb1.alloc (.cells #[.func (.yield l) #[] #[]] 53)).cell 0
  have c2 := (hb2.alloc (.cells #[.func (.yield l) #[] #[]] 53)).cell 0
  refine callsIn_of_wp_marks Tryw.func22 rfl trivial ?_ rfl
  simp only [Try.ntmps22, List.size_toArray, List.length_cons, List.length_nil, Nat.reduceAdd, Nat.reduceSub, Array.replicate_succ, Array.replicate_zero, List.push_toArray, List.append_toArray, List.nil_append, List.cons_append]
  have HY := Lib.hid hY
  clear hY
  have hF : ∀ f, Fence.wide.fn f := fun _ => trivial
  have k1 := Tryw.call23
  gi_wp2_with (refine ⟨rfl, ?_⟩; gi_at_call 23; refine (callsIn_wide.2 (chunk_any (A := A) (n := n) (c := c) (d := d))).mono ?_; rintro e w' ⟨rfl, rfl⟩)
  have hb1w := ((hb1.alloc (.cells #[.func (.yield l) #[] #[]] 53)).alloc (.cells #[.slice A n c] 22)).alloc (.cells #[.int .i64 ((d : Int) + 1)] 3)
  have hw3 : Chg [] W (((W.alloc (.cells #[.func (.yield l) #[] #[]] 53)).alloc (.cells #[.slice A n c] 22)).alloc (.cells #[.int .i64 ((d : Int) + 1)] 3)) := (((Chg.refl [] W).alloc _).alloc _).alloc _
  have hz3 : (((W.alloc (.cells #[.func (.yield l) #[] #[]] 53)).alloc (.cells #[.slice A n c] 22)).alloc (.cells #[.int .i64 ((d : Int) + 1)] 3)).heap.size = W.heap.size + 3 := by simp
  have hyb : Blk (((W.alloc (.cells #[.func (.yield l) #[] #[]] 53)).alloc (.cells #[.slice A n c] 22)).alloc (.cells #[.int .i64 ((d : Int) + 1)] 3)) W.heap.size 53 #[.func (.yield l) #[] #[]] := ((Blk.new W _ _).alloc _).alloc _
  have hq1 : Blk (((W.alloc (.cells #[.func (.yield l) #[] #[]] 53)).alloc (.cells #[.slice A n c] 22)).alloc (.cells #[.int .i64 ((d : Int) + 1)] 3)) (W.heap.size + 1) 22 #[.slice A n c] := by
    have h := (Blk.new (W.alloc (.cells #[.func (.yield l) #[] #[]] 53)) 22 #[.slice A n c]).alloc (.cells #[.int .i64 ((d : Int) + 1)] 3)
    rwa [World.size_alloc] at h
  have hq2 : Blk (((W.alloc (.cells #[.func (.yield l) #[] #[]] 53)).alloc (.cells #[.slice A n c] 22)).alloc (.cells #[.int .i64 ((d : Int) + 1)] 3)) (W.heap.size + 2) 3 #[.int .i64 ((d + 1 : Nat) : Int)] := by
    have h := Blk.new ((W.alloc (.cells #[.func (.yield l) #[] #[]] 53)).alloc (.cells #[.slice A n c] 22)) 3 #[.int .i64 ((d : Int) + 1)]
    rw [World.size_alloc, World.size_alloc] at h
    exact h
  obtain ⟨w3, hw3e⟩ : ∃ w3, ((W.alloc (.cells #[.func (.yield l) #[] #[]] 53)).alloc (.cells #[.slice A n c] 22)).alloc (.cells #[.int .i64 ((d : Int) + 1)] 3) = w3 := ⟨_, rfl⟩
  rw [hw3e] at hb1w hw3 hz3 hyb hq1 hq2 ⊢
  clear hw3e c1 c2
  have hL3 : ∀ b ∈ L, b < W.heap.size := fun b hb => (hL b hb).1
  refine range_any (gf := 29) (lb := #[.pointer (some ⟨W.heap.size + 1, 0, none⟩), .pointer (some ⟨W.heap.size + 1 + 1, 0, none⟩)]) rfl Tryw.call29 (Ob := (W.heap.size + 1) :: (W.heap.size + 2) :: bo A) (X := fun _ => []) (N := (cutr d zs).length) (Pc := PcIn A zs d)
    (fun W1 hb1 hz1 => chunk1_iter (d := d) ((hb1.block _ (by omega)).trans hq1) ((hb1.block _ (by omega)).trans hq2) ((hrd.chg hw3 (fun _ _ h => (by cases h))).chg (Chg.of_below hb1 []) (fun _ _ h => (by cases h))) hd hn) ?hOb ?hPc L ?hL (fun k A' => J k A' ∧ Chg L W A') (fun c k A' => c = .ret ∧ Jx k A' ∧ Chg L W A') ?hI ?hIx ?h0
    (fun x => { tmps := #[.func (.yield l) #[] #[], .pointer (some ⟨b1, 0, none⟩), .pointer (some ⟨b2, 0, none⟩), .pointer (some ⟨W.heap.size, 0, none⟩), x, .slice A n c, .int .i64 ((d : Int) + 1), .func (.func 29) #[] #[.pointer (some ⟨W.heap.size + 1, 0, none⟩), .pointer (some ⟨W.heap.size + 1 + 1, 0, none⟩)], x, undef, undef, undef, undef, undef], defers := [] }) ?assign ?body ?done ?stop
  case hOb =>
    intro b hb
    simp only [List.mem_cons] at hb
    rcases hb with rfl | rfl | hb
    · omega
    · omega
    · have := hA b hb; omega
  case hPc =>
    rintro k x A1 A2 l2 ⟨q, ad, h1, h2, h3, h4⟩ hn1 _ hc
    refine ⟨q, ad, h1, h2, h3.chg hc (fun b hb h => ?_), h4⟩
    simp at hb h
    exact hn1 (by rw [← h, hb]; simp [h4])
  case hL =>
    intro b hb
    refine ⟨by have := hL3 b hb; omega, fun h => ?_⟩
    simp only [List.mem_cons] at h
    rcases h with rfl | rfl | h
    · have := hL3 _ hb; omega
    · have := hL3 _ hb; omega
    · exact (hL b hb).2 (by simp [h])
  case hI =>
    rintro k A1 A2 ⟨h1, h2⟩ hb
    exact ⟨hJ _ _ _ h1 (hb.mono (by omega)), h2.os ▸ hb.os, h2.tape ▸ hb.tape, h2.output ▸ hb.output, Nat.le_trans h2.size hb.size, fun b h3 h4 => (hb.block b (by omega)).trans (h2.block b h3 h4)⟩
  case hIx =>
    rintro c2 k A1 A2 ⟨h0, h1, h2⟩ hb
    exact ⟨h0, hJx _ _ _ h1 (hb.mono (by omega)), h2.os ▸ hb.os, h2.tape ▸ hb.tape, h2.output ▸ hb.output, Nat.le_trans h2.size hb.size, fun b h3 h4 => (hb.block b (by omega)).trans (h2.block b h3 h4)⟩
  case h0 => exact ⟨hJ _ _ _ h0 (hw3.below (Nat.le_refl _) (by simp)), hw3.nil L⟩
  case assign =>
    intro l2 x A1 K hK
    have hsm := Oper.semAt_some
    gi_wp2
    exact hK
  case done =>
    rintro D A1 hD hc1 ⟨hJ1, hcW⟩ hdd
    gi_wp2
    refine ⟨by simp, .inl ⟨_, _, rfl, run_takeDeferred hdd, ?_⟩⟩
    have hlt := (Array.getElem?_eq_some_iff.1 hdd).1
    have hcD : Chg [D] A1 (A1.putObj D (.deferred none)) := Chg.putObj _ _
    exact ⟨_, results_none rfl _ _ _, ⟨_, rfl⟩, hcW.trans hcD (fun b hb => .inr (by simp at hb; omega)), .inl (hJ _ _ _ hJ1 (hcD.below (by omega) (by simp; omega)))⟩
  case stop =>
    rintro D c2 k A1 hD hc1 ⟨rfl, hJ1, hcW⟩ hdd
    gi_wp2
    refine ⟨by simp, .inl ⟨_, _, rfl, run_takeDeferred hdd, ?_⟩⟩
    have hlt := (Array.getElem?_eq_some_iff.1 hdd).1
    have hcD : Chg [D] A1 (A1.putObj D (.deferred none)) := Chg.putObj _ _
    exact ⟨_, results_none rfl _ _ _, ⟨_, rfl⟩, hcW.trans hcD (fun b hb => .inr (by simp at hb; omega)), .inr ⟨_, hJx _ _ _ hJ1 (hcD.below (by omega) (by simp; omega))⟩⟩
  case body =>
    rintro l2 k x A1 hk ⟨hJ1, hcW⟩ ⟨q, ad, hq, rfl, hqr, hqb⟩ _ hc1
    have hyb1 := hyb.chg hc1 (fun h => by have := hL3 _ h; omega)
    have e0 := hyb1.cell 0
    have k2 := Tryw.call21
    have hzl : zs.length = n := by have := hrd.1; simp at this; omega
    have hqn : q.length ≤ 1073741824 := by have := (cutr_pos d _ zs rfl q (List.mem_of_getElem? hq)).2; omega
    have hF2 : ∀ f, (Fence.wide.inRound l2).fn f := fun _ => trivial
    have hsm := Oper.semAt_some
    have hmx : Tryw.prog.follows .mixedOrders = true := by kernel_rfl
    have e1 : A1.drew.cell? ⟨W.heap.size, 0, none⟩ = some (.func (.yield l) #[] #[]) := e0
    have hqr1 : Rd A1.drew 1 (some ad) q.length q.length (bv q) := hqr.chg (Chg.refl [] A1).drew (fun _ _ h => (by cases h))
    have CL := clone_any (some ad) q.length q.length q A1.drew hqn hqr1
    have AFT : ∀ B c' w', Own w' 5 1 B q.length c' (bv q) → Chg [] A1.drew w' → (∀ b ∈ bo B, A1.drew.heap.size ≤ b) → w'.cell? ⟨W.heap.size, 0, none⟩ = some (.func (.yield l) #[] #[]) ∧ ∃ fn tmps assign body, (Instr.yield l #[.slice B q.length c']).run Tryw.prog w' = .ok (.round l fn tmps assign body) w' ∧ RoundIn Fence.wide 0 Tryw.prog l fn tmps assign body w' fun e A' => Chg L A1 A' ∧ Chg L W A' ∧ ((e = .returned (.bool true) ∧ J (k + 1) A') ∨ (e = .returned (.bool false) ∧ Jx (k + 1) A')) := fun B c' w' ho hc hn2 => by
      have hcA : Chg [] A1 w' := (Chg.refl [] A1).drew.trans hc (by simp)
      have hcw : Chg L W w' := hcW.trans0 hcA
      obtain ⟨fn, tmps, assign, body, hy, hR⟩ := HY.out k (.slice B q.length c') w' hk (hJ _ _ _ hJ1 (hcA.below (by have := hcW.size; omega) (by simp))) hcw ⟨q, B, c', hq, rfl, ho⟩ (fun b hb => ⟨by have h1 := hn2 b hb; have h2 := hcW.size; have h3 : A1.drew.heap.size = A1.heap.size := rfl; omega, ho.lt b hb⟩)
      refine ⟨hc.cell e1 (by simp), fn, tmps, assign, body, hy, hR.mono ?_⟩
      rintro e A' ⟨h1, h2⟩
      have hA' : Chg L A1 A' := (hcA.nil L).trans h1 (fun b hb => (List.mem_append.1 hb).elim .inl fun hb => .inr (by have h1 := hn2 b hb; have h3 : A1.drew.heap.size = A1.heap.size := rfl; omega))
      exact ⟨hA', hcW.trans hA' (fun b hb => .inl hb), h2⟩
    have HCL := Lib.hid CL
    have HAFT := Lib.hid AFT
    have HQR := Lib.hid hqr
    clear CL AFT hqr hqr1 HY hyb1 hq1 hq2 hyb hb1w
    gi_wp2
    refine wpIn_region_any hmx ?_
    change wpAnyIn _ _ _ _ _ _ _ _ _ (World.drew _)
    refine wpAnyIn_ready (rs := [0, 1]) (by kernel_rfl) (by simp) ?_
    refine AllReadyIn.cons rfl (fun K hK => ?_) (AllReadyIn.cons rfl (fun K hK => ?_) AllReadyIn.nil)
    · go_simp
      refine hK _ _ ?_
      clear hK K
      refine wpAnyIn_ready (rs := [1]) (by kernel_rfl) (by simp) ?_
      refine AllReadyIn.cons rfl (fun K hK => ?_) AllReadyIn.nil
      go_simp
      refine hK _ _ ?_
      clear hK K
      refine wpAnyIn_ready (rs := [2]) (by kernel_rfl) (by simp) ?_
      refine AllReadyIn.cons rfl (fun K hK => ?_) AllReadyIn.nil
      go_simp
      refine ⟨rfl, (CallsIn.inRound l2 (callsIn_wide.2 HCL.out)).mono ?_⟩
      rintro e w' ⟨B, c', rfl, ho, hch, hnew⟩
      obtain ⟨e2, fn, tmps, assign, body, hy, hR⟩ := HAFT.out B c' w' ho hch hnew
      refine hK _ _ ?_
      clear hK K
      refine wpAnyIn_ready (rs := [3]) (by kernel_rfl) (by simp) ?_
      refine AllReadyIn.cons rfl (fun K hK => ?_) AllReadyIn.nil
      go_simp
      refine ⟨rfl, RoundIn.mono (F := Fence.wide.inRound l2) hR ?_⟩
      rintro e A' ⟨hA', hWA, ⟨rfl, hJ2⟩ | ⟨rfl, hJ2⟩⟩
      · refine hK _ _ ?_
        clear hK K
        refine wpAnyIn_ready (rs := [4]) (by kernel_rfl) (by simp) ?_
        refine AllReadyIn.cons rfl (fun K hK => ?_) AllReadyIn.nil
        go_simp
        refine hK _ _ ?_
        clear hK K
        refine wpAnyIn_done (by kernel_rfl) ?_ _
        gi_wp2
        exact ⟨by rw [List.append_nil]; exact hA', hJ2, hWA⟩
      · refine hK _ _ ?_
        clear hK K
        refine wpAnyIn_ready (rs := [4]) (by kernel_rfl) (by simp) ?_
        refine AllReadyIn.cons rfl (fun K hK => ?_) AllReadyIn.nil
        go_simp
        refine hK _ _ ?_
        clear hK K
        refine wpAnyIn_done (by kernel_rfl) ?_ _
        gi_wp2
        exact ⟨by rw [List.append_nil]; exact hA', rfl, hJ2, hWA⟩
    · go_simp
      refine hK _ _ ?_
      clear hK K
      refine wpAnyIn_ready (rs := [0, 2]) (by kernel_rfl) (by simp) ?_
      refine AllReadyIn.cons rfl (fun K hK => ?_) (AllReadyIn.cons rfl (fun K hK => ?_) AllReadyIn.nil)
      · go_simp
        refine hK _ _ ?_
        clear hK K
        refine wpAnyIn_ready (rs := [2]) (by kernel_rfl) (by simp) ?_
        refine AllReadyIn.cons rfl (fun K hK => ?_) AllReadyIn.nil
        go_simp
        refine ⟨rfl, (CallsIn.inRound l2 (callsIn_wide.2 HCL.out)).mono ?_⟩
        rintro e w' ⟨B, c', rfl, ho, hch, hnew⟩
        obtain ⟨e2, fn, tmps, assign, body, hy, hR⟩ := HAFT.out B c' w' ho hch hnew
        refine hK _ _ ?_
        clear hK K
        refine wpAnyIn_ready (rs := [3]) (by kernel_rfl) (by simp) ?_
        refine AllReadyIn.cons rfl (fun K hK => ?_) AllReadyIn.nil
        go_simp
        refine ⟨rfl, RoundIn.mono (F := Fence.wide.inRound l2) hR ?_⟩
        rintro e A' ⟨hA', hWA, ⟨rfl, hJ2⟩ | ⟨rfl, hJ2⟩⟩
        · refine hK _ _ ?_
          clear hK K
          refine wpAnyIn_ready (rs := [4]) (by kernel_rfl) (by simp) ?_
          refine AllReadyIn.cons rfl (fun K hK => ?_) AllReadyIn.nil
          go_simp
          refine hK _ _ ?_
          clear hK K
          refine wpAnyIn_done (by kernel_rfl) ?_ _
          gi_wp2
          exact ⟨by rw [List.append_nil]; exact hA', hJ2, hWA⟩
        · refine hK _ _ ?_
          clear hK K
          refine wpAnyIn_ready (rs := [4]) (by kernel_rfl) (by simp) ?_
          refine AllReadyIn.cons rfl (fun K hK => ?_) AllReadyIn.nil
          go_simp
          refine hK _ _ ?_
          clear hK K
          refine wpAnyIn_done (by kernel_rfl) ?_ _
          gi_wp2
          exact ⟨by rw [List.append_nil]; exact hA', rfl, hJ2, hWA⟩
      · go_simp
        refine ⟨rfl, (CallsIn.inRound l2 (callsIn_wide.2 HCL.out)).mono ?_⟩
        rintro e w' ⟨B, c', rfl, ho, hch, hnew⟩
        obtain ⟨e2, fn, tmps, assign, body, hy, hR⟩ := HAFT.out B c' w' ho hch hnew
        refine hK _ _ ?_
        clear hK K
        refine wpAnyIn_ready (rs := [0]) (by kernel_rfl) (by simp) ?_
        refine AllReadyIn.cons rfl (fun K hK => ?_) AllReadyIn.nil
        go_simp
        refine hK _ _ ?_
        clear hK K
        refine wpAnyIn_ready (rs := [3]) (by kernel_rfl) (by simp) ?_
        refine AllReadyIn.cons rfl (fun K hK => ?_) AllReadyIn.nil
        go_simp
        refine ⟨rfl, RoundIn.mono (F := Fence.wide.inRound l2) hR ?_⟩
        rintro e A' ⟨hA', hWA, ⟨rfl, hJ2⟩ | ⟨rfl, hJ2⟩⟩
        · refine hK _ _ ?_
          clear hK K
          refine wpAnyIn_ready (rs := [4]) (by kernel_rfl) (by simp) ?_
          refine AllReadyIn.cons rfl (fun K hK => ?_) AllReadyIn.nil
          go_simp
          refine hK _ _ ?_
          clear hK K
          refine wpAnyIn_done (by kernel_rfl) ?_ _
          gi_wp2
          exact ⟨by rw [List.append_nil]; exact hA', hJ2, hWA⟩
        · refine hK _ _ ?_
          clear hK K
          refine wpAnyIn_ready (rs := [4]) (by kernel_rfl) (by simp) ?_
          refine AllReadyIn.cons rfl (fun K hK => ?_) AllReadyIn.nil
          go_simp
          refine hK _ _ ?_
          clear hK K
          refine wpAnyIn_done (by kernel_rfl) ?_ _
          gi_wp2
          exact ⟨by rw [List.append_nil]; exact hA', rfl, hJ2, hWA⟩
end Go.Proofs.Ytcdhmnefmbcmaaa.Ww
