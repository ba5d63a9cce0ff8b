/-
  The laws of layer 7: their shared parts: a script that is read; run; speaks.
-/
import Derived.Test.YtiipgfhogkeeoaaRfC
namespace Go.Proofs.Ytiipgfhogkeeoaa
open Go.RowKit

/-- one call of a script -/
structure OpD where
  kind : Int
  data : List Int
  keep : List Bool

/-- a script that reads as these calls -/
def Scr (w : World) (A : Option Addr) (n : Nat) (ops : List OpD) : Prop :=
  ops.length = n ∧ ∀ i o, ops[i]? = some o → ∃ ad D dn dc K kn kc, A = some ad ∧ w.cell? (ad.add (i * 3)) = some (.int .i64 o.kind) ∧ w.cell? ⟨(ad.add (i * 3)).block, (ad.add (i * 3)).off + 1, none⟩ = some (.slice D dn dc) ∧ w.cell? ⟨(ad.add (i * 3)).block, (ad.add (i * 3)).off + 2, none⟩ = some (.slice K kn kc) ∧
    Rd w 1 D dn dc (bv o.data) ∧ Rd w 1 K kn kc (kv o.keep)
theorem Scr.chg {w w' : World} {A : Option Addr} {n : Nat} {ops : List OpD} (h : Scr w A n ops) (hc : Chg [] w w') : Scr w' A n ops :=
  ⟨h.1, fun i o ho => by
    obtain ⟨ad, D, dn, dc, K, kn, kc, h1, h2, h3, h4, h5, h6⟩ := h.2 i o ho
    exact ⟨ad, D, dn, dc, K, kn, kc, h1, hc.cell h2 (by simp), hc.cell h3 (by simp), hc.cell h4 (by simp), h5.chg hc (by simp), h6.chg hc (by simp)⟩⟩

/-- what a call does to a Spool's state -/
def st1 (s : List Int × List (List Int)) (o : OpD) : List Int × List (List Int) :=
  if o.kind % 4 = 0 ∨ o.kind % 4 = 1 then (if o.data = [] then s else (s.1, s.2 ++ [o.data])) else if o.kind % 4 = 2 then (s.1 ++ s.2.flatten, []) else s
def st (base : List Int) (ops : List OpD) : List Int × List (List Int) := ops.foldl st1 (base, [])
theorem st_snoc (base : List Int) (ops : List OpD) (o : OpD) : st base (ops ++ [o]) = st1 (st base ops) o := by simp [st]

/-- how many bytes a script may put -/
def tot (base : List Int) (ops : List OpD) : Nat := base.length + (ops.map (·.data.length)).sum
theorem tot_snoc (base : List Int) (ops : List OpD) (o : OpD) : tot base (ops ++ [o]) = tot base ops + o.data.length := by
  simp [tot]; omega
theorem tot_take (base : List Int) (ops : List OpD) (i : Nat) : tot base (ops.take i) ≤ tot base ops := by
  have : (ops.map (·.data.length)).sum = ((ops.take i).map (·.data.length)).sum + ((ops.drop i).map (·.data.length)).sum := by
    rw [← List.sum_append, ← List.map_append, List.take_append_drop]
  unfold tot
  omega
theorem st1_le (s : List Int × List (List Int)) (o : OpD) : (st1 s o).1.length + (st1 s o).2.flatten.length ≤ s.1.length + s.2.flatten.length + o.data.length ∧ (st1 s o).2.length ≤ s.2.length + 1 := by
  unfold st1
  split
  · split
    · exact ⟨by omega, by omega⟩
    · exact ⟨by show s.1.length + (s.2 ++ [o.data]).flatten.length ≤ _; rw [flat_snoc]; omega, by simp⟩
  · split
    · exact ⟨by show (s.1 ++ s.2.flatten).length + 0 ≤ _; rw [List.length_append]; omega, Nat.zero_le _⟩
    · exact ⟨by omega, by omega⟩
theorem st_le (base : List Int) (ops : List OpD) : (st base ops).1.length + (st base ops).2.flatten.length ≤ tot base ops ∧ (st base ops).2.length ≤ ops.length := by
  suffices h : ∀ (ops : List OpD) (s : List Int × List (List Int)), (ops.foldl st1 s).1.length + (ops.foldl st1 s).2.flatten.length ≤ s.1.length + s.2.flatten.length + (ops.map (·.data.length)).sum ∧ (ops.foldl st1 s).2.length ≤ s.2.length + ops.length by
    have := h ops (base, [])
    simpa [st, tot] using this
  intro ops
  induction ops with
  | nil => intro s; simp
  | cons o r ih =>
    intro s
    have h1 := ih (st1 s o)
    have h2 := st1_le s o
    simp only [List.foldl_cons, List.map_cons, List.sum_cons, List.length_cons]
    omega

theorem and3 (k : Int) : bits .and .i64 k 3 = k % 4 := by
  show IntKind.i64.wrap ((BitVec.ofInt 64 k &&& BitVec.ofInt 64 3).toNat : Int) = _
  rw [BitVec.toNat_and, show (BitVec.ofInt 64 3).toNat = 2 ^ 2 - 1 from rfl, Nat.and_two_pow_sub_one_eq_mod, BitVec.toNat_ofInt, IntKind.wrap_i64]
  omega

theorem same_true (A : Option Addr) (n c : Nat) (xs : List Int) (B : Option Addr) (m d : Nat) (w : World) (hn : n ≤ 1073741824) (ha : Rd w 1 A n c (bv xs)) (hb : Rd w 1 B m d (bv xs)) :
    Calls Try.prog 11 #[.slice A n c, .slice B m d] w fun e w' => e = .returned (.bool true) ∧ Chg [] w w' := by
  have hl : m = n := by have h1 := ha.1; have h2 := hb.1; simp at h1 h2; omega
  refine (same_any A n c xs B m d xs w hn (by omega) ha hb).mono ?_
  rintro e w' ⟨h1, h2⟩
  exact ⟨by rw [h1]; simp, h2⟩

set_option maxHeartbeats 3200000 in
theorem run_any (A : Option Addr) (n c : Nat) (base : List Int) (SA : Option Addr) (sn sc : Nat) (ops : List OpD) (w : World) (hrd : Rd w 1 A n c (bv base)) (hs : Scr w SA sn ops) (htot : tot base ops ≤ 1073741824) (hsn : sn ≤ 1073741824) :
    Calls Try.prog 25 #[.slice A n c, .slice SA sn sc] w fun e w' => ∃ g L, e = .returned (.pointer (some ⟨g, 0, none⟩)) ∧ Spo w' g L (st base ops).1 (st base ops).2 ∧ Chg [] w w' ∧ ∀ k ∈ L, w.heap.size ≤ k := by
  have hn : n ≤ 1073741824 := by have := hrd.1; simp [tot] at this htot; omega
  have HR := Lib.hid hrd
  have HS := Lib.hid hs
  have HT := Lib.hid htot
  clear hrd hs htot
  go_enter Try.func25, Try.ntmps25
  go_wp2_with fail
  refine (copy_any A n c base _ hn HR.out).mono ?_
  rintro e w1 ⟨A1, c1, rfl, ho1, hc1, hn1⟩
  go_wp2_with fail
  refine (new_any A1 n c1 base _ hn ho1.rd).mono ?_
  rintro e w2 ⟨g, L, rfl, hs2, hc2, hn2⟩
  go_wp2_with fail
  go_loopw [15] (fun q wr => ∃ (i : Nat) (L : List Nat), i ≤ sn ∧ q = .int .i64 i ∧ Spo wr g L (st base (ops.take i)).1 (st base (ops.take i)).2 ∧ Chg [] w wr ∧ ∀ k ∈ L, w.heap.size ≤ k) (fun q _ => sn - (intOf q).toNat)
  case atStart => exact ⟨0, L, Nat.zero_le _, rfl, hs2, hc1.trans0 hc2, fun k hk => Nat.le_trans hc1.size (hn2 k hk)⟩
  case round =>
    obtain ⟨i, L, hi, rfl, hsp, hch, hL⟩ := hrel
    by_cases hlt : i < sn
    · obtain ⟨o, ho⟩ : ∃ o, ops[i]? = some o := ⟨_, List.getElem?_eq_getElem (by have := HS.out.1; omega)⟩
      obtain ⟨ad, D, dn, dc, K, kn, kc, rfl, x0, x1, x2, hrD, hrK⟩ := (HS.out.chg hch).2 i o ho
      have HO := Lib.hid ho
      have HSP := Lib.hid hsp
      have HC := Lib.hid hch
      have HL := Lib.hid hL
      have HD := Lib.hid hrD
      have hdl : o.data.length = dn := by have := hrD.1; simp at this; omega
      have htk := tot_take base ops (i + 1)
      rw [take_snoc ops i o ho, tot_snoc] at htk
      have hsl := st_le base (ops.take i)
      rw [List.length_take] at hsl
      have d63 : dn ≤ 1073741824 := by have := HT.out; omega
      have hst : st base (ops.take (i + 1)) = st1 (st base (ops.take i)) o := by rw [take_snoc ops i o ho, st_snoc]
      obtain ⟨b1, b2, b3⟩ : (st base (ops.take i)).1.length + (st base (ops.take i)).2.flatten.length + dn ≤ 1073741824 ∧ (st base (ops.take i)).2.length ≤ 1073741824 ∧ (st base (ops.take i)).1.length + (st base (ops.take i)).2.flatten.length ≤ 1073741824 := by have := HT.out; refine ⟨by omega, by omega, by omega⟩
      have HB := Lib.hid b1
      have HB2 := Lib.hid b2
      have HB3 := Lib.hid b3
      have HST := Lib.hid hst
      have HDL := Lib.hid hdl
      -- behind the call: the round's end
      have next : ∀ (w' : World) (L' : List Nat), Spo w' g L' (st1 (st base (ops.take i)) o).1 (st1 (st base (ops.take i)) o).2 → Chg L wr w' → (∀ k ∈ L', k ∈ L ∨ wr.heap.size ≤ k) →
          Spo w' g L' (st base (ops.take (i + 1))).1 (st base (ops.take (i + 1))).2 ∧ Chg [] w w' ∧ ∀ k ∈ L', w.heap.size ≤ k := fun w' L' h1 h2 h3 =>
        ⟨by rw [HST.out]; exact h1, HC.out.trans h2 (fun x hx => .inr (HL.out x hx)), fun k hk => by
          rcases h3 k hk with h | h
          · exact HL.out k h
          · exact Nat.le_trans HC.out.size h⟩
      have HN := Lib.hid next
      have HA := Lib.hid (and3 o.kind)
      clear next ho hsp hch hL hrD hrK hs2 hn2 hst hsl htk b1 b2 b3 hdl
      have h4 : o.kind % 4 = 0 ∨ o.kind % 4 = 1 ∨ o.kind % 4 = 2 ∨ o.kind % 4 = 3 := by omega
      rcases h4 with h4 | h4 | h4 | h4
      all_goals
        have hA := HA.out
        rw [h4] at hA
        have H4 := Lib.hid h4
        clear h4
      · go_wp2_with fail
        refine (copy_any D dn dc o.data _ d63 (HD.out.chg ((Chg.refl [] wr).alloc _) (by simp))).mono ?_
        rintro e w3 ⟨D3, c3, rfl, ho3, hc3, hn3⟩
        have e3 : Chg [] wr w3 := ((Chg.refl [] wr).alloc _).trans0 hc3
        by_cases hd0 : dn = 0
        · subst hd0
          have HE0 : Hid (o.data = []) := Lib.hid (List.eq_nil_of_length_eq_zero HDL.out)
          go_wp2_with fail
          refine (append_nil g L _ _ D3 c3 _ (HSP.out.chg e3 (by simp))).mono ?_
          rintro e w4 ⟨L4, rfl, hs4, hc4, hl4⟩
          go_wp2
          go_roundw
          case rel =>
            obtain ⟨z1, z2, z3⟩ := HN.out w4 L4 (by rw [st1, if_pos (by rw [H4.out]; decide), if_pos HE0.out]; exact hs4) ((e3.nil L).trans hc4 (fun x hx => .inl hx)) (fun k hk => by rcases hl4 k hk with h | h; exact .inl h; right; exact Nat.le_trans e3.size h)
            exact ⟨i + 1, L4, by omega, by go_num, z1, z2, z3⟩
          case measure => simp [intOf]; omega
        · have HE0 : Hid (¬ o.data = []) := Lib.hid (fun e => hd0 (by have := HDL.out; rw [e] at this; simpa using this.symm))
          have hpos : 0 < dn := by omega
          go_wp2_with fail
          refine (append_some g L _ _ D3 dn c3 o.data _ (HSP.out.chg e3 (by simp)) hpos HB.out HB2.out ho3.rd).mono ?_
          rintro e w4 ⟨L4, rfl, hs4, hc4, hl4⟩
          go_wp2
          go_roundw
          case rel =>
            obtain ⟨z1, z2, z3⟩ := HN.out w4 L4 (by rw [st1, if_pos (by rw [H4.out]; decide), if_neg HE0.out]; exact hs4) ((e3.nil L).trans hc4 (fun x hx => .inl hx)) (fun k hk => by rcases hl4 k hk with h | h; exact .inl h; right; exact Nat.le_trans e3.size h)
            exact ⟨i + 1, L4, by omega, by go_num, z1, z2, z3⟩
          case measure => simp [intOf]; omega
      · go_wp2_with fail
        refine (copy_any D dn dc o.data _ d63 (HD.out.chg ((Chg.refl [] wr).alloc _) (by simp))).mono ?_
        rintro e w3 ⟨D3, c3, rfl, ho3, hc3, hn3⟩
        have e3 : Chg [] wr w3 := ((Chg.refl [] wr).alloc _).trans0 hc3
        by_cases hd0 : dn = 0
        · subst hd0
          have HE0 : Hid (o.data = []) := Lib.hid (List.eq_nil_of_length_eq_zero HDL.out)
          go_wp2_with fail
          refine (append_nil g L _ _ D3 c3 _ (HSP.out.chg e3 (by simp))).mono ?_
          rintro e w4 ⟨L4, rfl, hs4, hc4, hl4⟩
          go_wp2
          go_roundw
          case rel =>
            obtain ⟨z1, z2, z3⟩ := HN.out w4 L4 (by rw [st1, if_pos (by rw [H4.out]; decide), if_pos HE0.out]; exact hs4) ((e3.nil L).trans hc4 (fun x hx => .inl hx)) (fun k hk => by rcases hl4 k hk with h | h; exact .inl h; right; exact Nat.le_trans e3.size h)
            exact ⟨i + 1, L4, by omega, by go_num, z1, z2, z3⟩
          case measure => simp [intOf]; omega
        · have HE0 : Hid (¬ o.data = []) := Lib.hid (fun e => hd0 (by have := HDL.out; rw [e] at this; simpa using this.symm))
          have hpos : 0 < dn := by omega
          go_wp2_with fail
          refine (append_some g L _ _ D3 dn c3 o.data _ (HSP.out.chg e3 (by simp)) hpos HB.out HB2.out ho3.rd).mono ?_
          rintro e w4 ⟨L4, rfl, hs4, hc4, hl4⟩
          go_wp2
          go_roundw
          case rel =>
            obtain ⟨z1, z2, z3⟩ := HN.out w4 L4 (by rw [st1, if_pos (by rw [H4.out]; decide), if_neg HE0.out]; exact hs4) ((e3.nil L).trans hc4 (fun x hx => .inl hx)) (fun k hk => by rcases hl4 k hk with h | h; exact .inl h; right; exact Nat.le_trans e3.size h)
            exact ⟨i + 1, L4, by omega, by go_num, z1, z2, z3⟩
          case measure => simp [intOf]; omega
      · go_wp2_with fail
        have e3 : Chg [] wr (wr.alloc (.cells #[.int .i64 o.kind, .slice D dn dc, .slice K kn kc] 34)) := (Chg.refl [] wr).alloc _
        refine (sync_any g L _ _ _ (HSP.out.chg e3 (by simp)) HB3.out).mono ?_
        rintro e w4 ⟨L4, rfl, hs4, hc4, hl4⟩
        go_wp2
        go_roundw
        case rel =>
          obtain ⟨z1, z2, z3⟩ := HN.out w4 L4 (by rw [st1, if_neg (by rw [H4.out]; decide), if_pos H4.out]; exact hs4) ((e3.nil L).trans hc4 (fun x hx => .inl hx)) (fun k hk => by rcases hl4 k hk with h | h; exact .inl h; right; exact Nat.le_trans e3.size h)
          exact ⟨i + 1, L4, by omega, by go_num, z1, z2, z3⟩
        case measure => simp [intOf]; omega
      · go_wp2
        go_roundw
        case rel =>
          obtain ⟨z1, z2, z3⟩ := HN.out (wr.alloc (.cells #[.int .i64 o.kind, .slice D dn dc, .slice K kn kc] 34)) L (by rw [st1, if_neg (by rw [H4.out]; decide), if_neg (by rw [H4.out]; decide)]; exact HSP.out.chg ((Chg.refl [] wr).alloc _) (by simp)) ((Chg.refl L wr).alloc _) (fun k hk => .inl hk)
          exact ⟨i + 1, L, by omega, by go_num, z1, z2, z3⟩
        case measure => simp [intOf]; omega
    · go_wp2
      go_ret
      have him : ops.take i = ops := List.take_of_length_le (by have := HS.out.1; omega)
      rw [him] at hsp
      exact ⟨g, L, rfl, hsp, hch, hL⟩
end Go.Proofs.Ytiipgfhogkeeoaa
