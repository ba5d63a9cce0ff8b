/-
  Layer 7: SpoolPlays' walk.
-/
import Derived.Test.YtiipgfhogkeeoaaLwC
namespace Go.Proofs.Ytiipgfhogkeeoaa
open Go.RowKit

/-- what the law's round keeps: the Spool, the other one, the document's one, in memory of their own -/
def Inv3 (W w : World) (g q g' : Nat) (L M N : List Nat) (s t : List Int × List (List Int)) (base : List Int) (os : List (List Int)) : Prop :=
  Chg [] W w ∧ Spo w g L s.1 s.2 ∧ Spo w q M base os ∧ Rsp w g' N t.1 t.2 ∧
    (∀ k ∈ L, W.heap.size ≤ k) ∧ (∀ k ∈ M, W.heap.size ≤ k) ∧ (∀ k ∈ N, W.heap.size ≤ k) ∧ (∀ k ∈ L, k ∉ M) ∧ (∀ k ∈ L, k ∉ N) ∧ (∀ k ∈ M, k ∉ N)

section inv
variable {W w w' : World} {g q g' : Nat} {L M N L' Q : List Nat} {s t s' : List Int × List (List Int)} {base : List Int} {os os' : List (List Int)}
theorem Inv3.away (h : Inv3 W w g q g' L M N s t base os) (hc : Chg Q w w') (hQ : ∀ k ∈ Q, W.heap.size ≤ k) (hL : ∀ k ∈ L, k ∉ Q) (hM : ∀ k ∈ M, k ∉ Q) (hN : ∀ k ∈ N, k ∉ Q) : Inv3 W w' g q g' L M N s t base os := by
  obtain ⟨h1, h2, h3, h4, h5⟩ := h
  exact ⟨h1.trans hc (fun x hx => .inr (hQ x hx)), h2.chg hc hL, h3.chg hc hM, h4.chg hc hN, h5⟩
theorem Inv3.same (h : Inv3 W w g q g' L M N s t base os) (hc : Chg [] w w') : Inv3 W w' g q g' L M N s t base os := h.away hc (by simp) (by simp) (by simp) (by simp)
theorem Inv3.spo (h : Inv3 W w g q g' L M N s t base os) (hs : Spo w' g L' s'.1 s'.2) (hc : Chg L w w') (hn : ∀ k ∈ L', k ∈ L ∨ w.heap.size ≤ k) : Inv3 W w' g q g' L' M N s' t base os := by
  obtain ⟨h1, h2, h3, h4, b1, b2, b3, d1, d2, d3⟩ := h
  have z := h1.size
  refine ⟨h1.trans hc (fun x hx => .inr (b1 x hx)), hs, h3.chg hc (fun k hk hm => d1 k hm hk), h4.chg hc (fun k hk hm => d2 k hm hk), fun k hk => ?_, b2, b3, fun k hk hm => ?_, fun k hk hm => ?_, d3⟩
  · rcases hn k hk with h | h
    · exact b1 k h
    · omega
  · rcases hn k hk with h | h
    · exact d1 k h hm
    · have := h3.lt k hm; omega
  · rcases hn k hk with h | h
    · exact d2 k h hm
    · have := h4.lt k hm; omega
theorem Inv3.oth (h : Inv3 W w g q g' L M N s t base os) (hs : Spo w' q L' base os') (hc : Chg M w w') (hn : ∀ k ∈ L', k ∈ M ∨ w.heap.size ≤ k) : Inv3 W w' g q g' L L' N s t base os' := by
  obtain ⟨h1, h2, h3, h4, b1, b2, b3, d1, d2, d3⟩ := h
  have z := h1.size
  refine ⟨h1.trans hc (fun x hx => .inr (b2 x hx)), h2.chg hc (fun k hk hm => d1 k hk hm), hs, h4.chg hc (fun k hk hm => d3 k hm hk), b1, fun k hk => ?_, b3, fun k hk hm => ?_, d2, fun k hk hm => ?_⟩
  · rcases hn k hk with h | h
    · exact b2 k h
    · omega
  · rcases hn k hm with h | h
    · exact d1 k hk h
    · have := h2.lt k hk; omega
  · rcases hn k hk with h | h
    · exact d3 k h hm
    · have := h4.lt k hm; omega
theorem Inv3.rsp (h : Inv3 W w g q g' L M N s t base os) (hs : Rsp w' g' L' s'.1 s'.2) (hc : Chg N w w') (hn : ∀ k ∈ L', k ∈ N ∨ w.heap.size ≤ k) : Inv3 W w' g q g' L M L' s s' base os := by
  obtain ⟨h1, h2, h3, h4, b1, b2, b3, d1, d2, d3⟩ := h
  have z := h1.size
  refine ⟨h1.trans hc (fun x hx => .inr (b3 x hx)), h2.chg hc (fun k hk hm => d2 k hk hm), h3.chg hc (fun k hk hm => d3 k hk hm), hs, b1, b2, fun k hk => ?_, d1, fun k hk hm => ?_, fun k hk hm => ?_⟩
  · rcases hn k hk with h | h
    · exact b3 k h
    · omega
  · rcases hn k hm with h | h
    · exact d2 k hk h
    · have := h2.lt k hk; omega
  · rcases hn k hm with h | h
    · exact d3 k hk h
    · have := h3.lt k hk; omega
end inv

set_option maxHeartbeats 6400000 in
set_option maxRecDepth 100000 in
theorem lplays_any (A : Option Addr) (n c : Nat) (base : List Int) (SA : Option Addr) (sn sc : Nat) (ops : List OpD) (w : World)
    (hrd : Rd w 1 A n c (bv base)) (hs : Scr w SA sn ops) (htot : tot base ops ≤ 536870912) (hsn : sn ≤ 536870912) (hkl : ∀ o ∈ ops, o.keep.length ≤ 1073741824) :
    Calls Try.prog 3 #[.slice A n c, .slice SA sn sc] w fun e w' => e = .returned (.bool true) ∧ Chg [] w w' := by
  have hn : n ≤ 1073741824 := by have := hrd.1; simp [tot] at this htot; omega
  have HR := Lib.hid hrd
  have HS := Lib.hid hs
  have HT := Lib.hid htot
  have HKL := Lib.hid hkl
  clear hrd hs htot hkl
  go_enter Try.func3, Try.ntmps3
  go_wp2_with fail
  refine (speaks_any _).mono ?_
  rintro e w1 ⟨rfl, hc1⟩
  go_wp2_with fail
  refine (copy_any A n c base _ hn (HR.out.chg hc1 (by simp))).mono ?_
  rintro e w2 ⟨A2, c2, rfl, ho2, hc2, hn2⟩
  have d2 : Chg [] w w2 := hc1.trans0 hc2
  go_wp2_with fail
  refine (new_any A2 n c2 base _ hn ho2.rd).mono ?_
  rintro e w3 ⟨g, L3, rfl, hs3, hc3, hn3⟩
  go_wp2_with fail
  refine (new_any A2 n c2 base _ hn (ho2.chg hc3 (by simp)).rd).mono ?_
  rintro e w4 ⟨q, M4, rfl, hs4, hc4, hn4⟩
  have d4 : Chg [] w w4 := (d2.trans0 hc3).trans0 hc4
  go_wp2_with fail
  refine (same_true A2 n c2 base A n c _ hn (ho2.chg (hc3.trans0 hc4) (by simp)).rd (HR.out.chg d4 (by simp))).mono ?_
  rintro e w5 ⟨rfl, hc5⟩
  go_wp2_with fail
  refine (spoil_any A2 n c2 _ _ hn (ho2.chg ((hc3.trans0 hc4).trans0 hc5) (by simp))).mono ?_
  rintro e w6 ⟨rfl, hc6⟩
  have l2 := ho2.lt
  have d6 : Chg [] w w6 := (d4.trans0 hc5).trans hc6 (fun x hx => .inr (Nat.le_trans hc1.size (hn2 x hx)))
  have s6 : Spo w6 g L3 base [] := (hs3.chg (hc4.trans0 hc5) (by simp)).chg hc6 (fun k hk hm => by have h1 := hn3 k hk; have h2 := l2 k hm; omega)
  have t6 : Spo w6 q M4 base [] := (hs4.chg hc5 (by simp)).chg hc6 (fun k hk hm => by have h1 := hn4 k hk; have h2 := l2 k hm; have h3 := hc3.size; omega)
  have B6 : ∀ k ∈ L3, w.heap.size ≤ k ∧ k < w3.heap.size := fun k hk => ⟨Nat.le_trans d2.size (hn3 k hk), hs3.lt k hk⟩
  have E6 : ∀ k ∈ M4, w3.heap.size ≤ k := hn4
  go_wp2_with fail
  refine (rnew_any A n c base _ hn (HR.out.chg d6 (by simp))).mono ?_
  rintro e w7 ⟨g', N7, rfl, hs7, hc7, hn7⟩
  have d7 : Chg [] w w7 := d6.trans0 hc7
  have s7 : Spo w7 g L3 base [] := s6.chg hc7 (by simp)
  have t7 : Spo w7 q M4 base [] := t6.chg hc7 (by simp)
  have dj1 : ∀ k ∈ L3, k ∉ M4 := fun k hk hm => by have h1 := (B6 k hk).2; have h2 := E6 k hm; omega
  have dj2 : ∀ k ∈ L3, k ∉ N7 := fun k hk hm => by have h1 := s6.lt k hk; have h2 := hn7 k hm; omega
  have dj3 : ∀ k ∈ M4, k ∉ N7 := fun k hk hm => by have h1 := t6.lt k hk; have h2 := hn7 k hm; omega
  have bM : ∀ k ∈ M4, w.heap.size ≤ k := fun k hk => by have h1 := E6 k hk; have h2 := (d2.trans0 hc3).size; omega
  have bN : ∀ k ∈ N7, w.heap.size ≤ k := fun k hk => Nat.le_trans d6.size (hn7 k hk)
  have INV : Hid (Inv3 w w7 g q g' L3 M4 N7 (base, []) (base, []) base []) :=
    Lib.hid ⟨d7, s7, t7, hs7, fun k hk => (B6 k hk).1, bM, bN, dj1, dj2, dj3⟩
  clear hs3 hs4 hs7 s6 t6 s7 t7 B6 E6 hn2 hn3 hn4 hn7 dj1 dj2 dj3 bM bN l2 ho2 d2 d4 d6 d7 hc1 hc2 hc3 hc4 hc5 hc6 hc7
  go_wp2_with fail
  go_loopw [38] (fun z wr => ∃ (i : Nat) (L M N : List Nat) (os : List (List Int)), i ≤ sn ∧ z = .int .i64 i ∧ os.length ≤ i ∧ os.flatten.length ≤ i ∧ Inv3 w wr g q g' L M N (st base (ops.take i)) (st base (ops.take i)) base os) (fun z _ => sn - (intOf z).toNat)
  case atStart =>
    exact ⟨0, L3, M4, N7, [], Nat.zero_le _, rfl, by simp, by simp, INV.out⟩
  case round =>
    obtain ⟨i, L, M, N, os, hi, rfl, hol, hof, hinv⟩ := hrel
    have hch := hinv.1
    by_cases hlt : i < sn
    · obtain ⟨o, ho⟩ : ∃ o, ops[i]? = some o := ⟨_, List.getElem?_eq_getElem (by have := HS.out.1; omega)⟩
      obtain ⟨ad, D, dn, dc, K, kn, kc, rfl, z0, z1, z2, hrD, hrK⟩ := HS.out.2 i o ho
      have x0 := hch.cell z0 (by simp)
      have x1 := hch.cell z1 (by simp)
      have x2 := hch.cell z2 (by simp)
      clear z0 z1 z2
      have hkn : kn ≤ 1073741824 := by have h1 := HKL.out o (List.mem_of_getElem? ho); have h2 := hrK.1; simp at h2; omega
      have hdl : o.data.length = dn := by have := hrD.1; simp at this; omega
      have htk := tot_take base ops (i + 1)
      rw [take_snoc ops i o ho, tot_snoc] at htk
      have hsl := st_le base (ops.take i)
      rw [List.length_take] at hsl
      have hst : st base (ops.take (i + 1)) = st1 (st base (ops.take i)) o := by rw [take_snoc ops i o ho, st_snoc]
      have hsl2 := st_le base (ops.take (i + 1))
      have htk2 := tot_take base ops (i + 1)
      rw [List.length_take] at hsl2
      have d63 : dn ≤ 536870912 := by have := HT.out; omega
      have hbl : base.length ≤ tot base ops := by unfold tot; omega
      have hB : (st base (ops.take i)).1.length + (st base (ops.take i)).2.flatten.length + dn ≤ 1073741824 ∧ (st base (ops.take i)).2.length ≤ 1073741824 ∧ (st base (ops.take i)).1.length + (st base (ops.take i)).2.flatten.length ≤ 1073741824 ∧
          (st base (ops.take (i + 1))).1.length + (st base (ops.take (i + 1))).2.flatten.length ≤ 1073741824 ∧ (st base (ops.take (i + 1))).2.length ≤ 1073741824 ∧ base.length ≤ 536870912 := by
        have := HT.out
        refine ⟨by omega, by omega, by omega, by omega, by omega, by omega⟩
      have HB := Lib.hid hB
      clear hB hbl
      have HST := Lib.hid hst
      have HDL := Lib.hid hdl
      have HD := Lib.hid hrD
      have HKR := Lib.hid hrK
      have HI := Lib.hid hinv
      have HA := Lib.hid (and3 o.kind)
      have h4 : o.kind % 4 = 0 ∨ o.kind % 4 = 1 ∨ o.kind % 4 = 2 ∨ o.kind % 4 = 3 := by omega
      clear ho hch hinv hrD hrK hst hsl hsl2 htk htk2 hdl INV
      rcases h4 with h4 | h4 | h4 | h4
      all_goals
        have hA := HA.out
        rw [h4] at hA
        have H4 := Lib.hid h4
        clear h4
      · have d63' : dn ≤ 1073741824 := by omega
        by_cases hd0 : dn = 0
        · subst hd0
          have HE0 : Hid (o.data = []) := Lib.hid (List.eq_nil_of_length_eq_zero HDL.out)
          have st3 : st1 (st base (ops.take i)) o = st base (ops.take i) := by rw [st1, if_pos (by rw [H4.out]; decide), if_pos HE0.out]
          have ST3 := Lib.hid st3
          clear st3
          go_wp2_with fail
          have e0 : Chg [] wr (wr.alloc (.cells #[.int .i64 o.kind, .slice D 0 dc, .slice K kn kc] 34)) := (Chg.refl [] wr).alloc _
          have I0 := Lib.hid (HI.out.same e0)
          have bk : Blk (wr.alloc (.cells #[.int .i64 o.kind, .slice D 0 dc, .slice K kn kc] 34)) wr.heap.size 34 #[.int .i64 o.kind, .slice D 0 dc, .slice K kn kc] := Blk.new wr _ _
          have hob : wr.heap.size ∉ L := fun hh => by have := HI.out.2.1.lt _ hh; omega
          generalize wr.alloc (.cells #[.int .i64 o.kind, .slice D 0 dc, .slice K kn kc] 34) = w0 at *
          have BK := Lib.hid bk
          have HOB := Lib.hid hob
          clear e0 bk hob
          refine (copy_any D 0 dc o.data _ d63' (HD.out.chg I0.out.1 (by simp))).mono ?_
          rintro e w1 ⟨X, xc, rfl, ho1, hc1, hn1⟩
          have I1 := Lib.hid (I0.out.same hc1)
          have LX : Hid (∀ k ∈ bo X, w0.heap.size ≤ k ∧ k < w1.heap.size) := Lib.hid (fun k hk => ⟨hn1 k hk, ho1.lt k hk⟩)
          have B1 := Lib.hid (BK.out.chg hc1 (by simp))
          go_wp2_with fail
          refine (append_nil g L _ _ X xc _ I1.out.2.1).mono ?_
          rintro e w2 ⟨L4, rfl, hs2, hc2, hn2⟩
          have I2 := Lib.hid (I1.out.spo (s' := st base (ops.take i)) hs2 hc2 hn2)
          have B2 := Lib.hid (B1.out.chg hc2 HOB.out)
          have OX : Hid (Own w2 5 1 X 0 xc (bv o.data)) := Lib.hid (ho1.chg hc2 (fun k hk hm => by have h1 := (LX.out k hk).1; have h2 := I0.out.2.1.lt k hm; omega))
          have DX : Hid (∀ k ∈ L4, k ∉ bo X) := Lib.hid (fun k hk hm => by
            rcases hn2 k hk with h | h
            · have h1 := (LX.out k hm).1; have h2 := I0.out.2.1.lt k h; omega
            · have h1 := (LX.out k hm).2; omega)
          clear hs2 hn2 ho1 hn1
          have y2 := B2.out.cell 1
          simp at y2
          go_wp2_with fail
          refine (same_true X 0 xc o.data D 0 dc _ d63' OX.out.rd (HD.out.chg I2.out.1 (by simp))).mono ?_
          rintro e w3 ⟨rfl, hc3⟩
          have I3 := Lib.hid (I2.out.same hc3)
          have B3 := Lib.hid (B2.out.chg hc3 (by simp))
          clear y2
          go_wp2_with fail
          refine (spoil_any X 0 xc _ _ d63' (OX.out.chg hc3 (by simp))).mono ?_
          rintro e w4 ⟨rfl, hc4⟩
          have B4 := Lib.hid (B3.out.chg hc4 (fun hh => by have h1 := BK.out.lt; have h2 := (LX.out _ hh).1; omega))
          have I4 := Lib.hid (I3.out.away hc4 (fun k hk => by have h1 := (LX.out k hk).1; have h2 := I0.out.1.size; omega) DX.out (fun k hk hm => by have h1 := (LX.out k hm).1; have h2 := I0.out.2.2.1.lt k hk; omega) (fun k hk hm => by have h1 := (LX.out k hm).1; have h2 := I0.out.2.2.2.1.lt k hk; omega))
          have y4 := B4.out.cell 1
          simp at y4
          go_wp2_with fail
          refine (rappend_nil g' N _ _ D dc _ I4.out.2.2.2.1).mono ?_
          rintro e w5 ⟨N4, rfl, hs5, hc5, hn5⟩
          have I5 := Lib.hid (I4.out.rsp (s' := st base (ops.take i)) hs5 hc5 hn5)
          clear hs5 hn5 y4
          go_wp2_with fail
          refine (append_some q M base os _ 1 1 [9] _ (I5.out.2.2.1.chg ((Chg.refl [] w5).alloc _) (by simp)) (by omega) (by have := HB.out; omega) (by omega) (lit_rd w5 5 .u8 [9] 1 rfl (by decide))).mono ?_
          rintro e wz ⟨M4, rfl, hs6, hc6, hn6⟩
          have I6 := Lib.hid ((I5.out.same ((Chg.refl [] w5).alloc (.cells #[.int .u8 9] 5))).oth hs6 hc6 hn6)
          have FIN : Hid (∃ (L M N : List Nat) (os : List (List Int)), os.length ≤ i + 1 ∧ os.flatten.length ≤ i + 1 ∧ Inv3 w wz g q g' L M N (st base (ops.take (i + 1))) (st base (ops.take (i + 1))) base os) :=
            Lib.hid ⟨L4, M4, N4, os ++ [[9]], by simp; omega, by rw [flat_snoc]; simp only [List.length_cons, List.length_nil]; omega, by rw [HST.out, ST3.out]; exact I6.out⟩
          clear hs6 hc6 hn6 hc1 hc2 hc3 hc4 hc5
          obtain ⟨L', M', N', os', f1, f2, f3⟩ := FIN.out
          have f6 := f3.2.2.2.1
          have HSz := Lib.hid f3.2.1
          have HRz := Lib.hid f6
          have HFz := Lib.hid (And.intro f1 (And.intro f2 f3))
          obtain ⟨Az, nz, cz, Wz, mz, dz, vz, kbz, koz, kz1, kz2, kz3, kz4, kz5, kz6, kz7, kz8⟩ := f6
          have yz := kbz.cell 1
          simp at yz
          have HMZ := Lib.hid kz8
          obtain ⟨Sz, hSz⟩ : ∃ Sz, (st base (ops.take (i + 1))).1.length + (st base (ops.take (i + 1))).2.flatten.length = Sz := ⟨_, rfl⟩
          have HSS2 := Lib.hid hSz
          clear hSz f1 f2 f3 kbz koz kz1 kz2 kz3 kz4 kz5 kz6 kz7 kz8
          go_wp2_with fail
          go_region_held3 (fun w' => w'.cell? ⟨g', 1, none⟩ = some (.slice Wz mz dz)) (first | assumption | go_keep)
            (first
            | (go_at_call 24; (with_reducible refine (pending_any g L' _ _ _ (HSz.out.chg Z2 (by simp)) mz HMZ.out.symm).mono ?_); rintro e wz3 ⟨rfl, rfl⟩)
            | (go_at_call 21; (with_reducible refine (rseen_any g' N' _ _ _ (HRz.out.chg ((Chg.refl [] wz).drew) (by simp)) HB.out.2.2.2.1 HB.out.2.2.2.2.1 Sz (by rw [List.length_append]; exact HSS2.out)).mono ?_); rintro e wz2 ⟨Az2, cz2, rfl, hoz2, hcz2, hnz2⟩; have Z2 := ((Chg.refl [] wz).drew).trans0 hcz2; have vz2 := Z2.cell yz (by simp))
            | (go_at_call 23; (with_reducible refine (size_any g L' _ _ _ (HSz.out.chg ((Chg.refl [] wz).drew) (by simp)) Sz HSS2.out).mono ?_); rintro e wz1 ⟨rfl, rfl⟩))
          go_wp2
          go_roundw
          case rel =>
            obtain ⟨f1, f2, f3⟩ := HFz.out
            exact ⟨i + 1, L', M', N', os', by omega, by go_num, f1, f2, f3.same Z2⟩
          case measure => simp [intOf]; omega
        · have HE0 : Hid (¬ o.data = []) := Lib.hid (fun e => hd0 (by have := HDL.out; rw [e] at this; simpa using this.symm))
          have hpos : 0 < dn := by omega
          have st3 : st1 (st base (ops.take i)) o = ((st base (ops.take i)).1, (st base (ops.take i)).2 ++ [o.data]) := by rw [st1, if_pos (by rw [H4.out]; decide), if_neg HE0.out]
          have ST3 := Lib.hid st3
          clear st3
          go_wp2_with fail
          have e0 : Chg [] wr (wr.alloc (.cells #[.int .i64 o.kind, .slice D dn dc, .slice K kn kc] 34)) := (Chg.refl [] wr).alloc _
          have I0 := Lib.hid (HI.out.same e0)
          have bk : Blk (wr.alloc (.cells #[.int .i64 o.kind, .slice D dn dc, .slice K kn kc] 34)) wr.heap.size 34 #[.int .i64 o.kind, .slice D dn dc, .slice K kn kc] := Blk.new wr _ _
          have hob : wr.heap.size ∉ L := fun hh => by have := HI.out.2.1.lt _ hh; omega
          generalize wr.alloc (.cells #[.int .i64 o.kind, .slice D dn dc, .slice K kn kc] 34) = w0 at *
          have BK := Lib.hid bk
          have HOB := Lib.hid hob
          clear e0 bk hob
          refine (copy_any D dn dc o.data _ d63' (HD.out.chg I0.out.1 (by simp))).mono ?_
          rintro e w1 ⟨X, xc, rfl, ho1, hc1, hn1⟩
          have I1 := Lib.hid (I0.out.same hc1)
          have LX : Hid (∀ k ∈ bo X, w0.heap.size ≤ k ∧ k < w1.heap.size) := Lib.hid (fun k hk => ⟨hn1 k hk, ho1.lt k hk⟩)
          have B1 := Lib.hid (BK.out.chg hc1 (by simp))
          go_wp2_with fail
          refine (append_some g L _ _ X dn xc o.data _ I1.out.2.1 hpos HB.out.1 HB.out.2.1 ho1.rd).mono ?_
          rintro e w2 ⟨L4, rfl, hs2, hc2, hn2⟩
          have I2 := Lib.hid (I1.out.spo (s' := ((st base (ops.take i)).1, (st base (ops.take i)).2 ++ [o.data])) hs2 hc2 hn2)
          have B2 := Lib.hid (B1.out.chg hc2 HOB.out)
          have OX : Hid (Own w2 5 1 X dn xc (bv o.data)) := Lib.hid (ho1.chg hc2 (fun k hk hm => by have h1 := (LX.out k hk).1; have h2 := I0.out.2.1.lt k hm; omega))
          have DX : Hid (∀ k ∈ L4, k ∉ bo X) := Lib.hid (fun k hk hm => by
            rcases hn2 k hk with h | h
            · have h1 := (LX.out k hm).1; have h2 := I0.out.2.1.lt k h; omega
            · have h1 := (LX.out k hm).2; omega)
          clear hs2 hn2 ho1 hn1
          have y2 := B2.out.cell 1
          simp at y2
          go_wp2_with fail
          refine (same_true X dn xc o.data D dn dc _ d63' OX.out.rd (HD.out.chg I2.out.1 (by simp))).mono ?_
          rintro e w3 ⟨rfl, hc3⟩
          have I3 := Lib.hid (I2.out.same hc3)
          have B3 := Lib.hid (B2.out.chg hc3 (by simp))
          clear y2
          go_wp2_with fail
          refine (spoil_any X dn xc _ _ d63' (OX.out.chg hc3 (by simp))).mono ?_
          rintro e w4 ⟨rfl, hc4⟩
          have B4 := Lib.hid (B3.out.chg hc4 (fun hh => by have h1 := BK.out.lt; have h2 := (LX.out _ hh).1; omega))
          have I4 := Lib.hid (I3.out.away hc4 (fun k hk => by have h1 := (LX.out k hk).1; have h2 := I0.out.1.size; omega) DX.out (fun k hk hm => by have h1 := (LX.out k hm).1; have h2 := I0.out.2.2.1.lt k hk; omega) (fun k hk hm => by have h1 := (LX.out k hm).1; have h2 := I0.out.2.2.2.1.lt k hk; omega))
          have y4 := B4.out.cell 1
          simp at y4
          go_wp2_with fail
          refine (rappend_some g' N _ _ D dn dc o.data _ I4.out.2.2.2.1 hpos d63' HB.out.2.1 (HD.out.chg I4.out.1 (by simp))).mono ?_
          rintro e w5 ⟨N4, rfl, hs5, hc5, hn5⟩
          have I5 := Lib.hid (I4.out.rsp (s' := ((st base (ops.take i)).1, (st base (ops.take i)).2 ++ [o.data])) hs5 hc5 hn5)
          clear hs5 hn5 y4
          go_wp2_with fail
          refine (append_some q M base os _ 1 1 [9] _ (I5.out.2.2.1.chg ((Chg.refl [] w5).alloc _) (by simp)) (by omega) (by have := HB.out; omega) (by omega) (lit_rd w5 5 .u8 [9] 1 rfl (by decide))).mono ?_
          rintro e wz ⟨M4, rfl, hs6, hc6, hn6⟩
          have I6 := Lib.hid ((I5.out.same ((Chg.refl [] w5).alloc (.cells #[.int .u8 9] 5))).oth hs6 hc6 hn6)
          have FIN : Hid (∃ (L M N : List Nat) (os : List (List Int)), os.length ≤ i + 1 ∧ os.flatten.length ≤ i + 1 ∧ Inv3 w wz g q g' L M N (st base (ops.take (i + 1))) (st base (ops.take (i + 1))) base os) :=
            Lib.hid ⟨L4, M4, N4, os ++ [[9]], by simp; omega, by rw [flat_snoc]; simp only [List.length_cons, List.length_nil]; omega, by rw [HST.out, ST3.out]; exact I6.out⟩
          clear hs6 hc6 hn6 hc1 hc2 hc3 hc4 hc5
          obtain ⟨L', M', N', os', f1, f2, f3⟩ := FIN.out
          have f6 := f3.2.2.2.1
          have HSz := Lib.hid f3.2.1
          have HRz := Lib.hid f6
          have HFz := Lib.hid (And.intro f1 (And.intro f2 f3))
          obtain ⟨Az, nz, cz, Wz, mz, dz, vz, kbz, koz, kz1, kz2, kz3, kz4, kz5, kz6, kz7, kz8⟩ := f6
          have yz := kbz.cell 1
          simp at yz
          have HMZ := Lib.hid kz8
          obtain ⟨Sz, hSz⟩ : ∃ Sz, (st base (ops.take (i + 1))).1.length + (st base (ops.take (i + 1))).2.flatten.length = Sz := ⟨_, rfl⟩
          have HSS2 := Lib.hid hSz
          clear hSz f1 f2 f3 kbz koz kz1 kz2 kz3 kz4 kz5 kz6 kz7 kz8
          go_wp2_with fail
          go_region_held3 (fun w' => w'.cell? ⟨g', 1, none⟩ = some (.slice Wz mz dz)) (first | assumption | go_keep)
            (first
            | (go_at_call 24; (with_reducible refine (pending_any g L' _ _ _ (HSz.out.chg Z2 (by simp)) mz HMZ.out.symm).mono ?_); rintro e wz3 ⟨rfl, rfl⟩)
            | (go_at_call 21; (with_reducible refine (rseen_any g' N' _ _ _ (HRz.out.chg ((Chg.refl [] wz).drew) (by simp)) HB.out.2.2.2.1 HB.out.2.2.2.2.1 Sz (by rw [List.length_append]; exact HSS2.out)).mono ?_); rintro e wz2 ⟨Az2, cz2, rfl, hoz2, hcz2, hnz2⟩; have Z2 := ((Chg.refl [] wz).drew).trans0 hcz2; have vz2 := Z2.cell yz (by simp))
            | (go_at_call 23; (with_reducible refine (size_any g L' _ _ _ (HSz.out.chg ((Chg.refl [] wz).drew) (by simp)) Sz HSS2.out).mono ?_); rintro e wz1 ⟨rfl, rfl⟩))
          go_wp2
          go_roundw
          case rel =>
            obtain ⟨f1, f2, f3⟩ := HFz.out
            exact ⟨i + 1, L', M', N', os', by omega, by go_num, f1, f2, f3.same Z2⟩
          case measure => simp [intOf]; omega
      · have d63' : dn ≤ 1073741824 := by omega
        by_cases hd0 : dn = 0
        · subst hd0
          have HE0 : Hid (o.data = []) := Lib.hid (List.eq_nil_of_length_eq_zero HDL.out)
          have st3 : st1 (st base (ops.take i)) o = st base (ops.take i) := by rw [st1, if_pos (by rw [H4.out]; decide), if_pos HE0.out]
          have ST3 := Lib.hid st3
          clear st3
          go_wp2_with fail
          have e0 : Chg [] wr (wr.alloc (.cells #[.int .i64 o.kind, .slice D 0 dc, .slice K kn kc] 34)) := (Chg.refl [] wr).alloc _
          have I0 := Lib.hid (HI.out.same e0)
          have bk : Blk (wr.alloc (.cells #[.int .i64 o.kind, .slice D 0 dc, .slice K kn kc] 34)) wr.heap.size 34 #[.int .i64 o.kind, .slice D 0 dc, .slice K kn kc] := Blk.new wr _ _
          have hob : wr.heap.size ∉ L := fun hh => by have := HI.out.2.1.lt _ hh; omega
          generalize wr.alloc (.cells #[.int .i64 o.kind, .slice D 0 dc, .slice K kn kc] 34) = w0 at *
          have BK := Lib.hid bk
          have HOB := Lib.hid hob
          clear e0 bk hob
          refine (copy_any D 0 dc o.data _ d63' (HD.out.chg I0.out.1 (by simp))).mono ?_
          rintro e w1 ⟨X, xc, rfl, ho1, hc1, hn1⟩
          have I1 := Lib.hid (I0.out.same hc1)
          have LX : Hid (∀ k ∈ bo X, w0.heap.size ≤ k ∧ k < w1.heap.size) := Lib.hid (fun k hk => ⟨hn1 k hk, ho1.lt k hk⟩)
          have B1 := Lib.hid (BK.out.chg hc1 (by simp))
          go_wp2_with fail
          refine (append_nil g L _ _ X xc _ I1.out.2.1).mono ?_
          rintro e w2 ⟨L4, rfl, hs2, hc2, hn2⟩
          have I2 := Lib.hid (I1.out.spo (s' := st base (ops.take i)) hs2 hc2 hn2)
          have B2 := Lib.hid (B1.out.chg hc2 HOB.out)
          have OX : Hid (Own w2 5 1 X 0 xc (bv o.data)) := Lib.hid (ho1.chg hc2 (fun k hk hm => by have h1 := (LX.out k hk).1; have h2 := I0.out.2.1.lt k hm; omega))
          have DX : Hid (∀ k ∈ L4, k ∉ bo X) := Lib.hid (fun k hk hm => by
            rcases hn2 k hk with h | h
            · have h1 := (LX.out k hm).1; have h2 := I0.out.2.1.lt k h; omega
            · have h1 := (LX.out k hm).2; omega)
          clear hs2 hn2 ho1 hn1
          have y2 := B2.out.cell 1
          simp at y2
          go_wp2_with fail
          refine (same_true X 0 xc o.data D 0 dc _ d63' OX.out.rd (HD.out.chg I2.out.1 (by simp))).mono ?_
          rintro e w3 ⟨rfl, hc3⟩
          have I3 := Lib.hid (I2.out.same hc3)
          have B3 := Lib.hid (B2.out.chg hc3 (by simp))
          clear y2
          go_wp2_with fail
          refine (spoil_any X 0 xc _ _ d63' (OX.out.chg hc3 (by simp))).mono ?_
          rintro e w4 ⟨rfl, hc4⟩
          have B4 := Lib.hid (B3.out.chg hc4 (fun hh => by have h1 := BK.out.lt; have h2 := (LX.out _ hh).1; omega))
          have I4 := Lib.hid (I3.out.away hc4 (fun k hk => by have h1 := (LX.out k hk).1; have h2 := I0.out.1.size; omega) DX.out (fun k hk hm => by have h1 := (LX.out k hm).1; have h2 := I0.out.2.2.1.lt k hk; omega) (fun k hk hm => by have h1 := (LX.out k hm).1; have h2 := I0.out.2.2.2.1.lt k hk; omega))
          have y4 := B4.out.cell 1
          simp at y4
          go_wp2_with fail
          refine (rappend_nil g' N _ _ D dc _ I4.out.2.2.2.1).mono ?_
          rintro e w5 ⟨N4, rfl, hs5, hc5, hn5⟩
          have I5 := Lib.hid (I4.out.rsp (s' := st base (ops.take i)) hs5 hc5 hn5)
          clear hs5 hn5 y4
          go_wp2_with fail
          refine (append_some q M base os _ 1 1 [9] _ (I5.out.2.2.1.chg ((Chg.refl [] w5).alloc _) (by simp)) (by omega) (by have := HB.out; omega) (by omega) (lit_rd w5 5 .u8 [9] 1 rfl (by decide))).mono ?_
          rintro e wz ⟨M4, rfl, hs6, hc6, hn6⟩
          have I6 := Lib.hid ((I5.out.same ((Chg.refl [] w5).alloc (.cells #[.int .u8 9] 5))).oth hs6 hc6 hn6)
          have FIN : Hid (∃ (L M N : List Nat) (os : List (List Int)), os.length ≤ i + 1 ∧ os.flatten.length ≤ i + 1 ∧ Inv3 w wz g q g' L M N (st base (ops.take (i + 1))) (st base (ops.take (i + 1))) base os) :=
            Lib.hid ⟨L4, M4, N4, os ++ [[9]], by simp; omega, by rw [flat_snoc]; simp only [List.length_cons, List.length_nil]; omega, by rw [HST.out, ST3.out]; exact I6.out⟩
          clear hs6 hc6 hn6 hc1 hc2 hc3 hc4 hc5
          obtain ⟨L', M', N', os', f1, f2, f3⟩ := FIN.out
          have f6 := f3.2.2.2.1
          have HSz := Lib.hid f3.2.1
          have HRz := Lib.hid f6
          have HFz := Lib.hid (And.intro f1 (And.intro f2 f3))
          obtain ⟨Az, nz, cz, Wz, mz, dz, vz, kbz, koz, kz1, kz2, kz3, kz4, kz5, kz6, kz7, kz8⟩ := f6
          have yz := kbz.cell 1
          simp at yz
          have HMZ := Lib.hid kz8
          obtain ⟨Sz, hSz⟩ : ∃ Sz, (st base (ops.take (i + 1))).1.length + (st base (ops.take (i + 1))).2.flatten.length = Sz := ⟨_, rfl⟩
          have HSS2 := Lib.hid hSz
          clear hSz f1 f2 f3 kbz koz kz1 kz2 kz3 kz4 kz5 kz6 kz7 kz8
          go_wp2_with fail
          go_region_held3 (fun w' => w'.cell? ⟨g', 1, none⟩ = some (.slice Wz mz dz)) (first | assumption | go_keep)
            (first
            | (go_at_call 24; (with_reducible refine (pending_any g L' _ _ _ (HSz.out.chg Z2 (by simp)) mz HMZ.out.symm).mono ?_); rintro e wz3 ⟨rfl, rfl⟩)
            | (go_at_call 21; (with_reducible refine (rseen_any g' N' _ _ _ (HRz.out.chg ((Chg.refl [] wz).drew) (by simp)) HB.out.2.2.2.1 HB.out.2.2.2.2.1 Sz (by rw [List.length_append]; exact HSS2.out)).mono ?_); rintro e wz2 ⟨Az2, cz2, rfl, hoz2, hcz2, hnz2⟩; have Z2 := ((Chg.refl [] wz).drew).trans0 hcz2; have vz2 := Z2.cell yz (by simp))
            | (go_at_call 23; (with_reducible refine (size_any g L' _ _ _ (HSz.out.chg ((Chg.refl [] wz).drew) (by simp)) Sz HSS2.out).mono ?_); rintro e wz1 ⟨rfl, rfl⟩))
          go_wp2
          go_roundw
          case rel =>
            obtain ⟨f1, f2, f3⟩ := HFz.out
            exact ⟨i + 1, L', M', N', os', by omega, by go_num, f1, f2, f3.same Z2⟩
          case measure => simp [intOf]; omega
        · have HE0 : Hid (¬ o.data = []) := Lib.hid (fun e => hd0 (by have := HDL.out; rw [e] at this; simpa using this.symm))
          have hpos : 0 < dn := by omega
          have st3 : st1 (st base (ops.take i)) o = ((st base (ops.take i)).1, (st base (ops.take i)).2 ++ [o.data]) := by rw [st1, if_pos (by rw [H4.out]; decide), if_neg HE0.out]
          have ST3 := Lib.hid st3
          clear st3
          go_wp2_with fail
          have e0 : Chg [] wr (wr.alloc (.cells #[.int .i64 o.kind, .slice D dn dc, .slice K kn kc] 34)) := (Chg.refl [] wr).alloc _
          have I0 := Lib.hid (HI.out.same e0)
          have bk : Blk (wr.alloc (.cells #[.int .i64 o.kind, .slice D dn dc, .slice K kn kc] 34)) wr.heap.size 34 #[.int .i64 o.kind, .slice D dn dc, .slice K kn kc] := Blk.new wr _ _
          have hob : wr.heap.size ∉ L := fun hh => by have := HI.out.2.1.lt _ hh; omega
          generalize wr.alloc (.cells #[.int .i64 o.kind, .slice D dn dc, .slice K kn kc] 34) = w0 at *
          have BK := Lib.hid bk
          have HOB := Lib.hid hob
          clear e0 bk hob
          refine (copy_any D dn dc o.data _ d63' (HD.out.chg I0.out.1 (by simp))).mono ?_
          rintro e w1 ⟨X, xc, rfl, ho1, hc1, hn1⟩
          have I1 := Lib.hid (I0.out.same hc1)
          have LX : Hid (∀ k ∈ bo X, w0.heap.size ≤ k ∧ k < w1.heap.size) := Lib.hid (fun k hk => ⟨hn1 k hk, ho1.lt k hk⟩)
          have B1 := Lib.hid (BK.out.chg hc1 (by simp))
          go_wp2_with fail
          refine (append_some g L _ _ X dn xc o.data _ I1.out.2.1 hpos HB.out.1 HB.out.2.1 ho1.rd).mono ?_
          rintro e w2 ⟨L4, rfl, hs2, hc2, hn2⟩
          have I2 := Lib.hid (I1.out.spo (s' := ((st base (ops.take i)).1, (st base (ops.take i)).2 ++ [o.data])) hs2 hc2 hn2)
          have B2 := Lib.hid (B1.out.chg hc2 HOB.out)
          have OX : Hid (Own w2 5 1 X dn xc (bv o.data)) := Lib.hid (ho1.chg hc2 (fun k hk hm => by have h1 := (LX.out k hk).1; have h2 := I0.out.2.1.lt k hm; omega))
          have DX : Hid (∀ k ∈ L4, k ∉ bo X) := Lib.hid (fun k hk hm => by
            rcases hn2 k hk with h | h
            · have h1 := (LX.out k hm).1; have h2 := I0.out.2.1.lt k h; omega
            · have h1 := (LX.out k hm).2; omega)
          clear hs2 hn2 ho1 hn1
          have y2 := B2.out.cell 1
          simp at y2
          go_wp2_with fail
          refine (same_true X dn xc o.data D dn dc _ d63' OX.out.rd (HD.out.chg I2.out.1 (by simp))).mono ?_
          rintro e w3 ⟨rfl, hc3⟩
          have I3 := Lib.hid (I2.out.same hc3)
          have B3 := Lib.hid (B2.out.chg hc3 (by simp))
          clear y2
          go_wp2_with fail
          refine (spoil_any X dn xc _ _ d63' (OX.out.chg hc3 (by simp))).mono ?_
          rintro e w4 ⟨rfl, hc4⟩
          have B4 := Lib.hid (B3.out.chg hc4 (fun hh => by have h1 := BK.out.lt; have h2 := (LX.out _ hh).1; omega))
          have I4 := Lib.hid (I3.out.away hc4 (fun k hk => by have h1 := (LX.out k hk).1; have h2 := I0.out.1.size; omega) DX.out (fun k hk hm => by have h1 := (LX.out k hm).1; have h2 := I0.out.2.2.1.lt k hk; omega) (fun k hk hm => by have h1 := (LX.out k hm).1; have h2 := I0.out.2.2.2.1.lt k hk; omega))
          have y4 := B4.out.cell 1
          simp at y4
          go_wp2_with fail
          refine (rappend_some g' N _ _ D dn dc o.data _ I4.out.2.2.2.1 hpos d63' HB.out.2.1 (HD.out.chg I4.out.1 (by simp))).mono ?_
          rintro e w5 ⟨N4, rfl, hs5, hc5, hn5⟩
          have I5 := Lib.hid (I4.out.rsp (s' := ((st base (ops.take i)).1, (st base (ops.take i)).2 ++ [o.data])) hs5 hc5 hn5)
          clear hs5 hn5 y4
          go_wp2_with fail
          refine (append_some q M base os _ 1 1 [9] _ (I5.out.2.2.1.chg ((Chg.refl [] w5).alloc _) (by simp)) (by omega) (by have := HB.out; omega) (by omega) (lit_rd w5 5 .u8 [9] 1 rfl (by decide))).mono ?_
          rintro e wz ⟨M4, rfl, hs6, hc6, hn6⟩
          have I6 := Lib.hid ((I5.out.same ((Chg.refl [] w5).alloc (.cells #[.int .u8 9] 5))).oth hs6 hc6 hn6)
          have FIN : Hid (∃ (L M N : List Nat) (os : List (List Int)), os.length ≤ i + 1 ∧ os.flatten.length ≤ i + 1 ∧ Inv3 w wz g q g' L M N (st base (ops.take (i + 1))) (st base (ops.take (i + 1))) base os) :=
            Lib.hid ⟨L4, M4, N4, os ++ [[9]], by simp; omega, by rw [flat_snoc]; simp only [List.length_cons, List.length_nil]; omega, by rw [HST.out, ST3.out]; exact I6.out⟩
          clear hs6 hc6 hn6 hc1 hc2 hc3 hc4 hc5
          obtain ⟨L', M', N', os', f1, f2, f3⟩ := FIN.out
          have f6 := f3.2.2.2.1
          have HSz := Lib.hid f3.2.1
          have HRz := Lib.hid f6
          have HFz := Lib.hid (And.intro f1 (And.intro f2 f3))
          obtain ⟨Az, nz, cz, Wz, mz, dz, vz, kbz, koz, kz1, kz2, kz3, kz4, kz5, kz6, kz7, kz8⟩ := f6
          have yz := kbz.cell 1
          simp at yz
          have HMZ := Lib.hid kz8
          obtain ⟨Sz, hSz⟩ : ∃ Sz, (st base (ops.take (i + 1))).1.length + (st base (ops.take (i + 1))).2.flatten.length = Sz := ⟨_, rfl⟩
          have HSS2 := Lib.hid hSz
          clear hSz f1 f2 f3 kbz koz kz1 kz2 kz3 kz4 kz5 kz6 kz7 kz8
          go_wp2_with fail
          go_region_held3 (fun w' => w'.cell? ⟨g', 1, none⟩ = some (.slice Wz mz dz)) (first | assumption | go_keep)
            (first
            | (go_at_call 24; (with_reducible refine (pending_any g L' _ _ _ (HSz.out.chg Z2 (by simp)) mz HMZ.out.symm).mono ?_); rintro e wz3 ⟨rfl, rfl⟩)
            | (go_at_call 21; (with_reducible refine (rseen_any g' N' _ _ _ (HRz.out.chg ((Chg.refl [] wz).drew) (by simp)) HB.out.2.2.2.1 HB.out.2.2.2.2.1 Sz (by rw [List.length_append]; exact HSS2.out)).mono ?_); rintro e wz2 ⟨Az2, cz2, rfl, hoz2, hcz2, hnz2⟩; have Z2 := ((Chg.refl [] wz).drew).trans0 hcz2; have vz2 := Z2.cell yz (by simp))
            | (go_at_call 23; (with_reducible refine (size_any g L' _ _ _ (HSz.out.chg ((Chg.refl [] wz).drew) (by simp)) Sz HSS2.out).mono ?_); rintro e wz1 ⟨rfl, rfl⟩))
          go_wp2
          go_roundw
          case rel =>
            obtain ⟨f1, f2, f3⟩ := HFz.out
            exact ⟨i + 1, L', M', N', os', by omega, by go_num, f1, f2, f3.same Z2⟩
          case measure => simp [intOf]; omega
      · go_wp2_with fail
        have e0 : Chg [] wr (wr.alloc (.cells #[.int .i64 o.kind, .slice D dn dc, .slice K kn kc] 34)) := (Chg.refl [] wr).alloc _
        have st3 : st1 (st base (ops.take i)) o = ((st base (ops.take i)).1 ++ (st base (ops.take i)).2.flatten, []) := by rw [st1, if_neg (by rw [H4.out]; decide), if_pos H4.out]
        have i0 := HI.out.same e0
        refine (sync_any g L _ _ _ i0.2.1 HB.out.2.2.1).mono ?_
        rintro e w1 ⟨L4, rfl, hs1, hc1, hn1⟩
        have i1 := i0.spo (s' := ((st base (ops.take i)).1 ++ (st base (ops.take i)).2.flatten, [])) hs1 hc1 hn1
        have I1 := Lib.hid i1
        have ST3 := Lib.hid st3
        clear i0 i1 hs1 hc1 hn1 e0 st3
        go_wp2_with fail
        refine (rsync_any g' N _ _ _ I1.out.2.2.2.1 HB.out.2.2.1 HB.out.2.1).mono ?_
        rintro e wz ⟨N4, rfl, hs2, hc2, hn2⟩
        have i2 := I1.out.rsp (s' := ((st base (ops.take i)).1 ++ (st base (ops.take i)).2.flatten, [])) hs2 hc2 hn2
        have FIN : Hid (∃ (L M N : List Nat) (os : List (List Int)), os.length ≤ i + 1 ∧ os.flatten.length ≤ i + 1 ∧ Inv3 w wz g q g' L M N (st base (ops.take (i + 1))) (st base (ops.take (i + 1))) base os) :=
          Lib.hid ⟨L4, M, N4, os, by omega, by omega, by rw [HST.out, ST3.out]; exact i2⟩
        clear i2 hs2 hc2 hn2
        obtain ⟨L', M', N', os', f1, f2, f3⟩ := FIN.out
        have f6 := f3.2.2.2.1
        have HSz := Lib.hid f3.2.1
        have HRz := Lib.hid f6
        have HFz := Lib.hid (And.intro f1 (And.intro f2 f3))
        obtain ⟨Az, nz, cz, Wz, mz, dz, vz, kbz, koz, kz1, kz2, kz3, kz4, kz5, kz6, kz7, kz8⟩ := f6
        have yz := kbz.cell 1
        simp at yz
        have HMZ := Lib.hid kz8
        obtain ⟨Sz, hSz⟩ : ∃ Sz, (st base (ops.take (i + 1))).1.length + (st base (ops.take (i + 1))).2.flatten.length = Sz := ⟨_, rfl⟩
        have HSS2 := Lib.hid hSz
        clear hSz f1 f2 f3 kbz koz kz1 kz2 kz3 kz4 kz5 kz6 kz7 kz8
        go_wp2_with fail
        go_region_held3 (fun w' => w'.cell? ⟨g', 1, none⟩ = some (.slice Wz mz dz)) (first | assumption | go_keep)
          (first
          | (go_at_call 24; (with_reducible refine (pending_any g L' _ _ _ (HSz.out.chg Z2 (by simp)) mz HMZ.out.symm).mono ?_); rintro e wz3 ⟨rfl, rfl⟩)
          | (go_at_call 21; (with_reducible refine (rseen_any g' N' _ _ _ (HRz.out.chg ((Chg.refl [] wz).drew) (by simp)) HB.out.2.2.2.1 HB.out.2.2.2.2.1 Sz (by rw [List.length_append]; exact HSS2.out)).mono ?_); rintro e wz2 ⟨Az2, cz2, rfl, hoz2, hcz2, hnz2⟩; have Z2 := ((Chg.refl [] wz).drew).trans0 hcz2; have vz2 := Z2.cell yz (by simp))
          | (go_at_call 23; (with_reducible refine (size_any g L' _ _ _ (HSz.out.chg ((Chg.refl [] wz).drew) (by simp)) Sz HSS2.out).mono ?_); rintro e wz1 ⟨rfl, rfl⟩))
        go_wp2
        go_roundw
        case rel =>
          obtain ⟨f1, f2, f3⟩ := HFz.out
          exact ⟨i + 1, L', M', N', os', by omega, by go_num, f1, f2, f3.same Z2⟩
        case measure => simp [intOf]; omega
      · go_wp2_with fail
        have hbk := Blk.new wr 34 #[.int .i64 o.kind, .slice D dn dc, .slice K kn kc]
        have e0 : Chg [] wr (wr.alloc (.cells #[.int .i64 o.kind, .slice D dn dc, .slice K kn kc] 34)) := (Chg.refl [] wr).alloc _
        have E0 := Lib.hid e0
        have st3 : st1 (st base (ops.take i)) o = st base (ops.take i) := by rw [st1, if_neg (by rw [H4.out]; decide), if_neg (by rw [H4.out]; decide)]
        have ST3 := Lib.hid st3
        generalize wr.alloc (.cells #[.int .i64 o.kind, .slice D dn dc, .slice K kn kc] 34) = w0 at *
        obtain ⟨h1, h2, h3, h4, h5⟩ := HI.out
        have hrs0 := h4.chg e0 (by simp)
        have HS0 := Lib.hid (h2.chg e0 (by simp))
        have HR0 := Lib.hid hrs0
        obtain ⟨Ab, nb, cb, Wb, mb, db, vs, kb, ko, kr1, kr2, kr3, kr4, kr5, kr6, kr7, kr8⟩ := hrs0
        have y0 := kb.cell 0
        have y1 := hbk.cell 2
        simp at y0 y1
        have HAb := Lib.hid (And.intro ko kr7)
        have HK0 := Lib.hid (HKR.out.chg (HI.out.1.trans0 e0) (by simp))
        have hnb : nb ≤ 1073741824 := by have := HB.out; omega
        obtain ⟨Z, hZ⟩ : ∃ Z, (aft (st base (ops.take i)).1 (st base (ops.take i)).1.length (st base (ops.take i)).2 o.keep).length = Z := ⟨_, rfl⟩
        have hZl : Z ≤ 1073741824 := by have := aft_le (st base (ops.take i)).1 (st base (ops.take i)).1.length (st base (ops.take i)).2 o.keep (Nat.le_refl _); have := HB.out; omega
        obtain ⟨S, hS⟩ : ∃ S, ((st base (ops.take i)).1 ++ (st base (ops.take i)).2.flatten).length = S := ⟨_, rfl⟩
        have hSl : S ≤ 1073741824 := by rw [← hS, List.length_append]; exact HB.out.2.2.1
        have HZ := Lib.hid hZ
        have HSS := Lib.hid hS
        have HC0 := Lib.hid (Chg.refl [] w0)
        clear hZ hS h1 h2 h3 h4 h5 kb ko kr1 kr2 kr3 kr4 kr5 kr6 kr7 kr8 hbk e0 st3
        go_region_held3 (fun w' => w'.cell? ⟨wr.heap.size, 2, none⟩ = some (.slice K kn kc) ∧ w'.cell? ⟨g', 0, none⟩ = some (.slice Ab nb cb)) (first | exact ⟨by assumption, by assumption⟩ | go_keep)
          (first
          | (go_at_call 11; (with_reducible refine (same_true A12 nb c12 _ Ab nb cb _ hnb ho12.rd (HAb.out.1.chg C12 (by simp)).rd).mono ?_); rintro e w13 ⟨rfl, hc13⟩; have C13 := C12.trans0 hc13; have u13 := C13.cell y1 (by simp); have v13 := C13.cell y0 (by simp))
          | (go_at_call 22; (with_reducible refine (safe_any g L _ _ _ (HS0.out.chg C11 (by simp)) HB.out.2.2.1 nb HAb.out.2.symm).mono ?_); rintro e w12 ⟨A12, c12, rfl, ho12, hc12, hn12⟩; have C12 := C11.trans0 hc12; have u12 := C12.cell y1 (by simp); have v12 := C12.cell y0 (by simp))
          | (go_at_call 11; (with_reducible refine (same_true A9 S c9 _ A10 S c10 _ hSl (ho9.chg hc10 (by simp)).rd ho10.rd).mono ?_); rintro e w11 ⟨rfl, hc11⟩; have C11 := C10.trans0 hc11; have u11 := C11.cell y1 (by simp); have v11 := C11.cell y0 (by simp))
          | (go_at_call 21; (with_reducible refine (rseen_any g' N _ _ _ (HR0.out.chg C9 (by simp)) HB.out.2.2.1 HB.out.2.1 S HSS.out).mono ?_); rintro e w10 ⟨A10, c10, rfl, ho10, hc10, hn10⟩; have C10 := C9.trans0 hc10; have u10 := C10.cell y1 (by simp); have v10 := C10.cell y0 (by simp))
          | (go_at_call 20; (with_reducible refine (seen_any g L _ _ _ (HS0.out.chg C8 (by simp)) HB.out.2.2.1 S HSS.out).mono ?_); rintro e w9 ⟨A9, c9, rfl, ho9, hc9, hn9⟩; have C9 := C8.trans0 hc9; have u9 := C9.cell y1 (by simp); have v9 := C9.cell y0 (by simp))
          | (go_at_call 11; (with_reducible refine (same_true A6 Z c6 _ A7 Z c7 _ hZl (ho6.chg hc7 (by simp)).rd ho7.rd).mono ?_); rintro e w8 ⟨rfl, hc8⟩; have C8 := C7.trans0 hc8; have u8 := C8.cell y1 (by simp); have v8 := C8.cell y0 (by simp))
          | (go_at_call 19; (with_reducible refine (rafter_any g' N _ _ K kn kc o.keep _ (HR0.out.chg C6 (by simp)) HB.out.2.2.1 HB.out.2.1 hkn (HK0.out.chg C6 (by simp)) Z HZ.out).mono ?_); rintro e w7 ⟨A7, c7, rfl, ho7, hc7, hn7⟩; have C7 := C6.trans0 hc7; have u7 := C7.cell y1 (by simp); have v7 := C7.cell y0 (by simp))
          | (go_at_call 18; (with_reducible refine (after_any g L _ _ A5 kn c5 o.keep _ (HS0.out.chg C5 (by simp)) HB.out.2.2.1 HB.out.2.1 hkn ho5' Z HZ.out).mono ?_); rintro e w6 ⟨A6, c6, rfl, ho6, hc6, hn6⟩; have C6 := C5.trans0 hc6; have u6 := C6.cell y1 (by simp); have v6 := C6.cell y0 (by simp))
          | (refine step_app rfl _ _ rfl etyBools rfl (Own.lit w0.drew 4 1 #[] 0 (by decide) rfl) rfl (HK0.out.chg (((Chg.refl [] w0).drew).alloc _) (by simp)) (kv_one _) (by unfold maxLen; omega) (by omega) ?_; intro A5 c5 w5 ho5 hc5 hn5 _; have C5 : Chg [] w0 w5 := (((Chg.refl [] w0).drew).alloc (.cells #[] 4)).trans hc5 (fun x hx => .inr (by simp at hx; omega)); have ho5' : Rd w5 1 A5 kn c5 (kv o.keep) := (by simpa using ho5.rd); have u5 := C5.cell y1 (by simp); have v5 := C5.cell y0 (by simp)))
        have FIN : Hid (∃ (L M N : List Nat) (os : List (List Int)), os.length ≤ i + 1 ∧ os.flatten.length ≤ i + 1 ∧ Inv3 w w13 g q g' L M N (st base (ops.take (i + 1))) (st base (ops.take (i + 1))) base os) :=
          Lib.hid ⟨L, M, N, os, by omega, by omega, by rw [HST.out, ST3.out]; exact HI.out.same (E0.out.trans0 C13)⟩
        obtain ⟨wz, hwz⟩ : ∃ wz : World, wz = w13 := ⟨_, rfl⟩
        subst hwz
        clear u5 v5 u6 v6 u7 v7 u8 v8 u9 v9 u10 v10 u11 v11 u12 v12 u13 v13 y0 y1
        obtain ⟨L', M', N', os', f1, f2, f3⟩ := FIN.out
        have f6 := f3.2.2.2.1
        have HSz := Lib.hid f3.2.1
        have HRz := Lib.hid f6
        have HFz := Lib.hid (And.intro f1 (And.intro f2 f3))
        obtain ⟨Az, nz, cz, Wz, mz, dz, vz, kbz, koz, kz1, kz2, kz3, kz4, kz5, kz6, kz7, kz8⟩ := f6
        have yz := kbz.cell 1
        simp at yz
        have HMZ := Lib.hid kz8
        obtain ⟨Sz, hSz⟩ : ∃ Sz, (st base (ops.take (i + 1))).1.length + (st base (ops.take (i + 1))).2.flatten.length = Sz := ⟨_, rfl⟩
        have HSS2 := Lib.hid hSz
        clear hSz f1 f2 f3 kbz koz kz1 kz2 kz3 kz4 kz5 kz6 kz7 kz8
        go_wp2_with fail
        go_region_held3 (fun w' => w'.cell? ⟨g', 1, none⟩ = some (.slice Wz mz dz)) (first | assumption | go_keep)
          (first
          | (go_at_call 24; (with_reducible refine (pending_any g L' _ _ _ (HSz.out.chg Z2 (by simp)) mz HMZ.out.symm).mono ?_); rintro e wz3 ⟨rfl, rfl⟩)
          | (go_at_call 21; (with_reducible refine (rseen_any g' N' _ _ _ (HRz.out.chg ((Chg.refl [] wz).drew) (by simp)) HB.out.2.2.2.1 HB.out.2.2.2.2.1 Sz (by rw [List.length_append]; exact HSS2.out)).mono ?_); rintro e wz2 ⟨Az2, cz2, rfl, hoz2, hcz2, hnz2⟩; have Z2 := ((Chg.refl [] wz).drew).trans0 hcz2; have vz2 := Z2.cell yz (by simp))
          | (go_at_call 23; (with_reducible refine (size_any g L' _ _ _ (HSz.out.chg ((Chg.refl [] wz).drew) (by simp)) Sz HSS2.out).mono ?_); rintro e wz1 ⟨rfl, rfl⟩))
        go_wp2
        go_roundw
        case rel =>
          obtain ⟨f1, f2, f3⟩ := HFz.out
          exact ⟨i + 1, L', M', N', os', by omega, by go_num, f1, f2, f3.same Z2⟩
        case measure => simp [intOf]; omega
    · have him : ops.take i = ops := List.take_of_length_le (by have := HS.out.1; omega)
      rw [him] at hinv
      have hsl := st_le base ops
      have HB : Hid ((st base ops).1.length + (st base ops).2.flatten.length ≤ 1073741824 ∧ (st base ops).2.length ≤ 1073741824) := Lib.hid (by have h1 := HT.out; have h2 := HS.out.1; exact ⟨by omega, by omega⟩)
      have hbl : base.length ≤ tot base ops := by unfold tot; omega
      have HO : Hid (base.length + os.flatten.length ≤ 1073741824) := Lib.hid (by have h1 := HT.out; omega)
      have HNL : Hid (base.length = n) := Lib.hid (by have := HR.out.1; simp at this; omega)
      have HI := Lib.hid hinv
      obtain ⟨S, hS⟩ : ∃ S, ((st base ops).1 ++ (st base ops).2.flatten).length = S := ⟨_, rfl⟩
      have hSl : S ≤ 1073741824 := by rw [← hS, List.length_append]; exact HB.out.1
      have HSS := Lib.hid hS
      clear hS hinv hch hsl hbl him INV
      obtain ⟨wo, hwo⟩ : ∃ wo : World, wo = wr := ⟨_, rfl⟩
      subst hwo
      go_wp2_with fail
      refine (safe_any q M base os _ HI.out.2.2.1 HO.out n HNL.out).mono ?_
      rintro e v1 ⟨X1, x1, rfl, ho1, hc1, hn1⟩
      go_wp2_with fail
      refine (same_true X1 n x1 base A n c _ hn ho1.rd (HR.out.chg (HI.out.1.trans0 hc1) (by simp))).mono ?_
      rintro e v2 ⟨rfl, hc2⟩
      have e2 : Chg [] wo v2 := hc1.trans0 hc2
      go_wp2_with fail
      refine (seen_any g L _ _ _ (HI.out.2.1.chg e2 (by simp)) HB.out.1 S HSS.out).mono ?_
      rintro e v3 ⟨X3, x3, rfl, ho3, hc3, hn3⟩
      go_wp2_with fail
      refine (rseen_any g' N _ _ _ (HI.out.2.2.2.1.chg (e2.trans0 hc3) (by simp)) HB.out.1 HB.out.2 S HSS.out).mono ?_
      rintro e v4 ⟨X4, x4, rfl, ho4, hc4, hn4⟩
      go_wp2_with fail
      refine (same_true X3 S x3 _ X4 S x4 _ hSl (ho3.chg hc4 (by simp)).rd ho4.rd).mono ?_
      rintro e v5 ⟨rfl, hc5⟩
      go_wp2
      go_ret
      exact ⟨rfl, HI.out.1.trans0 (((e2.trans0 hc3).trans0 hc4).trans0 hc5)⟩
end Go.Proofs.Ytiipgfhogkeeoaa
