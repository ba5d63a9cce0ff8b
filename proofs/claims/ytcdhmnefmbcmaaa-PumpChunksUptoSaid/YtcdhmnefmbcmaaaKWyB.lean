/-
  slices.Chunk's function over the second virtual program: it calls what it is given with the pieces; no condition but what each law names.
-/
import Derived.Test.YtcdhmnefmbcmaaaKWyA
import Derived.RangeFuncCalls
import Derived.Shelf.RegionOpen
import Derived.OwnWalkIn
import Derived.TacticsInMore
import Derived.LoopNIn
import Derived.LoopIn
namespace Go.Proofs.Ytcdhmnefmbcmaaa.Ww
open Go Go.RowKit
theorem cutr_get (d : Nat) : ∀ (k : Nat) (zs : List Int), k * (d + 1) < zs.length → (cutr d zs)[k]? = some ((zs.drop (k * (d + 1))).take (d + 1)) := by
  intro k
  induction k with
  | zero =>
    intro zs h
    have hz : zs ≠ [] := by intro e; subst e; simp at h
    rw [cutr_cut d zs hz]
    simp
  | succ k ih =>
    intro zs h
    rw [Nat.add_mul, Nat.one_mul] at h
    have hz : zs ≠ [] := by intro e; subst e; simp at h
    rw [cutr_cut d zs hz, List.getElem?_cons_succ, ih (zs.drop (d + 1)) (by rw [List.length_drop]; omega), List.drop_drop]
    rw [show d + 1 + k * (d + 1) = (k + 1) * (d + 1) by rw [Nat.add_mul, Nat.one_mul]; omega]
theorem cutr_len (d : Nat) : ∀ (m : Nat) (zs : List Int), zs.length = m → ∀ k, k < (cutr d zs).length ↔ k * (d + 1) < zs.length := by
  intro m
  induction m using Nat.strongRecOn with
  | _ m ih =>
    intro zs hm k
    by_cases hz : zs = []
    · subst hz; rw [cutr_nil]; simp
    · have hpos : 0 < zs.length := List.length_pos_iff.2 hz
      rw [cutr_cut d zs hz, List.length_cons]
      cases k with
      | zero => simp; exact hpos
      | succ k =>
        have h := ih (zs.drop (d + 1)).length (by rw [List.length_drop]; omega) (zs.drop (d + 1)) rfl k
        rw [List.length_drop] at h
        rw [Nat.add_mul, Nat.one_mul]
        constructor
        · intro h1; have := h.1 (by omega); omega
        · intro h1; have := h.2 (by omega); omega
theorem run_sl1w {d : Addr} {n c i : Nat} {w' : World} (b1 : i ≤ n) (b2 : i < c) (hc : n ≤ c) : (Instr.slice 22 (.slice (some d) n c) (some (.int .i64 (i : Int))) none none).run Tryw.prog w' = .ok (.slice (some (d.add i)) (n - i) (c - i)) w' := by
  obtain ⟨ht, ⟨ii, hi, hz, hsz, hby⟩, hzs, hpos⟩ := etyBytes
  have b3 : ¬ (c = i) := by omega
  have hi : Try.prog.info? 5 = some ii := hi
  simp [Instr.slice, run_underlying ht, Instr.sliceBounds, Instr.sliceBound, asIntOf, sizeOf, typeInfo, hi, hsz, b1, b3, hc]
theorem run_sl3w {d : Addr} {n c i g : Nat} {w' : World} (b1 : i < g) (b2 : g ≤ n) (hc : n ≤ c) : (Instr.slice 22 (.slice (some d) n c) (some (.int .i64 (i : Int))) (some (.int .i64 (g : Int))) (some (.int .i64 (g : Int)))).run Tryw.prog w' = .ok (.slice (some (d.add i)) (g - i) (g - i)) w' := by
  obtain ⟨ht, ⟨ii, hi, hz, hsz, hby⟩, hzs, hpos⟩ := etyBytes
  have b3 : ¬ (g = i) := by omega
  have b4 : i ≤ g := by omega
  have b5 : g ≤ c := by omega
  have hi : Try.prog.info? 5 = some ii := hi
  simp [Instr.slice, run_underlying ht, Instr.sliceBounds, Instr.sliceBound, asIntOf, sizeOf, typeInfo, hi, hsz, b3, b4, b5]
/-- the k-th piece of a row, in its place -/
def PcIn (A : Option Addr) (zs : List Int) (d : Nat) (k : Nat) (x : Value) (w : World) : Prop :=
  ∃ q ad, (cutr d zs)[k]? = some q ∧ x = .slice (some ad) q.length q.length ∧ Rd w 1 (some ad) q.length q.length (bv q) ∧ ad.block ∈ bo A
set_option maxRecDepth 100000 in
set_option maxHeartbeats 1600000 in
theorem chunk1_iter {b1 b2 : Nat} {A : Option Addr} {n c d : Nat} {zs : List Int} {W : World} (hb1 : Blk W b1 22 #[.slice A n c]) (hb2 : Blk W b2 3 #[.int .i64 ((d + 1 : Nat) : Int)]) (hrd : Rd W 1 A n c (bv zs)) (hd : d + 1 ≤ 9223372036854775807) (hn : n ≤ 1073741824) :
    Iter Tryw.prog 29 #[.pointer (some ⟨b1, 0, none⟩), .pointer (some ⟨b2, 0, none⟩)] (b1 :: b2 :: bo A) (fun _ => []) (cutr d zs).length (PcIn A zs d) W := by
  intro l L J Jx hL hJ hJx hY h0
  have hl : zs.length = n := by have := hrd.1; simp at this; omega
  have keep : ∀ wr, Chg L W wr → Blk wr b1 22 #[.slice A n c] ∧ Blk wr b2 3 #[.int .i64 ((d + 1 : Nat) : Int)] ∧ Rd wr 1 A n c (bv zs) := fun wr hc =>
    ⟨hb1.chg hc (fun h => (hL _ h).2 (by simp)), hb2.chg hc (fun h => (hL _ h).2 (by simp)), hrd.chg hc (fun k hk h => (hL _ h).2 (by simp [hk]))⟩
  refine callsIn_of_wp Tryw.func29 rfl trivial ?_ rfl
  simp only [Try.ntmps29, List.size_toArray, List.length_cons, List.length_nil, Nat.reduceAdd, Nat.reduceSub, Array.replicate_succ, Array.replicate_zero, List.push_toArray, List.append_toArray, List.nil_append, List.cons_append]
  gi_wp2
  gi_loopw [4] (fun v wr => ∃ k : Nat, v = .int .i64 ((k * (d + 1) : Nat) : Int) ∧ (∀ j, j < k → j * (d + 1) < n) ∧ J k wr ∧ Chg L W wr)
    (fun v _ => n - (intOf v).toNat)
  case atStart =>
    exact ⟨0, by simp, fun j h => absurd h (Nat.not_lt_zero _), h0, Chg.refl _ _⟩
  case round =>
    obtain ⟨k, rfl, hk, hJk, hck⟩ := hrel
    obtain ⟨k1, k2, k3⟩ := keep wr hck
    have c1 := k1.cell 0
    have c2 := k2.cell 0
    have hi := hk
    by_cases hlt : k * (d + 1) < n
    · obtain ⟨ad, rfl⟩ : ∃ ad, A = some ad := by
        cases A with
        | none => have h1 := hrd.2.2.2.1 rfl; have h2 := hrd.2.1; omega
        | some ad => exact ⟨ad, rfl⟩
      obtain ⟨i, hie⟩ : ∃ i, i = k * (d + 1) := ⟨_, rfl⟩
      rw [← hie] at hlt ⊢
      have hcn := hrd.2.1
      have hki : k < (cutr d zs).length := (cutr_len d _ zs rfl k).2 (by rw [hl, ← hie]; exact hlt)
      have hq := cutr_get d k zs (by rw [hl, ← hie]; exact hlt)
      rw [← hie] at hq
      obtain ⟨m, hm⟩ : ∃ m, m = min (d + 1) (n - i) := ⟨_, rfl⟩
      have hs1 : ∀ w', (Instr.slice 22 (.slice (some ad) n c) (some (.int .i64 (i : Int))) none none).run Tryw.prog w' = .ok (.slice (some (ad.add i)) (n - i) (c - i)) w' := fun w' => run_sl1w (Nat.le_of_lt hlt) (by omega) hcn
      have hs3 : ∀ w', (Instr.slice 22 (.slice (some ad) n c) (some (.int .i64 (i : Int))) (some (.int .i64 ((i + m : Nat) : Int))) (some (.int .i64 ((i + m : Nat) : Int)))).run Tryw.prog w' = .ok (.slice (some (ad.add i)) m m) w' := fun w' => by
        have h := run_sl3w (d := ad) (i := i) (g := i + m) (w' := w') (by omega) (by omega) hcn
        rwa [show i + m - i = m by omega] at h
      have hmn : ∀ w', (Builtin.min_ #[3, 3] 3 #[.int .i64 ((d + 1 : Nat) : Int), .int .i64 ((n - i : Nat) : Int)]).run Tryw.prog w' = .ok (.int .i64 (m : Int)) w' := fun w' => by
        simp [Builtin.min_, Builtin.min2, Sem.run_pure, hm]
        omega
      have HIE := Lib.hid hie
      have HM := Lib.hid hm
      have HQ := Lib.hid hq
      have HLT := Lib.hid hlt
      have hdt : decide ((i : Int) < (n : Int)) = true := by simp; omega
      clear hie hm hq hlt
      gi_wp2
      refine wpIn_wide.2 ?_
      go_quiet (fail)
      have hmi : (if ((n - i : Nat) : Int) < (d : Int) + 1 then ((n - i : Nat) : Int) else (d : Int) + 1) = (m : Int) := by
        have h := HM.out
        have h2 := HLT.out
        split <;> omega
      rw [hmi]
      clear hmi
      have hml : m ≤ n - i := by rw [HM.out]; exact Nat.min_le_right _ _
      have hmp : 0 < m := by rw [HM.out]; have := HLT.out; omega
      have hck2 : Chg L W (wr.drewN nq) := hck.drewN nq
      have hJ2 : J k (wr.drewN nq) := hJ _ _ _ hJk ((Chg.refl [] wr).drewN nq |>.below (by have := hck.size; omega) (by simp))
      obtain ⟨q1, q2, q3⟩ := keep _ hck2
      have d1 := q1.cell 0
      have d2 := q2.cell 0
      have hpc : PcIn (some ad) zs d k (.slice (some (ad.add i)) m m) (wr.drewN nq) := by
        have hql : ((zs.drop i).take (d + 1)).length = m := by rw [List.length_take, List.length_drop, hl, HM.out]
        refine ⟨_, ad.add i, HQ.out, by rw [hql], ?_, by rw [add_block]; simp⟩
        rw [hql]
        refine ⟨by simp [bv]; rw [hl, HM.out], Nat.le_refl _, by have := q3.2.2.1; omega, fun e => (by cases e), fun ad' e => ?_⟩
        obtain rfl := Option.some.inj e
        refine ⟨fun _ => by rw [add_block]; exact (q3.2.2.2.2 ad rfl).1 (by omega), fun j u hu => ?_⟩
        rw [add_add']
        refine (q3.2.2.2.2 ad rfl).2 _ u ?_
        simp only [bv, List.map_take, List.map_drop] at hu ⊢
        rw [List.getElem?_take] at hu
        split at hu
        · rw [List.getElem?_drop] at hu; exact hu
        · cases hu
      obtain ⟨fn, tmps, assign, body, hy, hR⟩ := hY k _ _ hki hJ2 hck2 hpc (by simp)
      have HY := Lib.hid hY
      have KEEP := Lib.hid keep
      have HPC := Lib.hid hpc
      clear hY keep hpc hs1 c1 c2 k1 k2
      gi_wp2
      refine ⟨rfl, hR.mono ?_⟩
      rintro e W3 ⟨hc3, ⟨rfl, hJ3⟩ | ⟨rfl, hJx3⟩⟩
      · rw [List.append_nil] at hc3
        have hck3 : Chg L W W3 := hck2.trans hc3 (fun x hx => .inl hx)
        obtain ⟨p1, p2, p3⟩ := KEEP.out W3 hck3
        have e2 := p2.cell 0
        have hB1 : (i : Int) + ((d : Int) + 1) ≤ 9223372036854775807 := by
          have h := HIE.out
          have h2 := HLT.out
          by_cases hk0 : k = 0
          · subst hk0; omega
          · have h3 : d + 1 ≤ k * (d + 1) := Nat.le_mul_of_pos_left _ (by omega)
            omega
        clear d1 d2
        gi_wp2
        go_roundw
        case rel =>
          refine ⟨k + 1, ?_, fun j hj => ?_, hJ3, hck3⟩
          · have h := HIE.out
            rw [Nat.add_mul, Nat.one_mul, ← h]
            simp
          · by_cases hjk : j < k
            · exact hk j hjk
            · have : j = k := by omega
              subst this
              rw [← HIE.out]
              exact HLT.out
        case measure =>
          have h := HLT.out
          simp [intOf]
          omega
      · rw [List.append_nil] at hc3
        gi_wp2
        refine bodyPost_ret (results_none rfl _ _ _) rfl ?_
        exact ⟨⟨_, rfl⟩, hck2.trans hc3 (fun x hx => .inl hx), .inr ⟨_, hJx3⟩⟩
    · have hkN : k = (cutr d zs).length := by
        have h1 : ¬ k < (cutr d zs).length := fun h => hlt (by have := (cutr_len d _ zs rfl k).1 h; rwa [hl] at this)
        by_cases h2 : (cutr d zs).length < k
        · have h3 := (cutr_len d _ zs rfl _).2 (by rw [hl]; exact hk _ h2)
          omega
        · omega
      have HKN := Lib.hid hkN
      obtain ⟨i, hie⟩ : ∃ i, i = k * (d + 1) := ⟨_, rfl⟩
      rw [← hie] at hlt ⊢
      clear hie hkN
      gi_wp2
      go_end0
      exact ⟨⟨_, rfl⟩, hck, .inl (by rw [← HKN.out]; exact hJk)⟩
end Go.Proofs.Ytcdhmnefmbcmaaa.Ww
