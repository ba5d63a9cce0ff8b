/-
  The walk of PumpThere over the virtual program; no condition but what each law names.
-/
import Derived.Test.YtcdhmnefmbcmaaaJbh
namespace Go.Proofs.Ytcdhmnefmbcmaaa.Vw
open Go Go.RowKit
/-- what is left of a number by the mask 1023 -/
theorem and1023 (n : Int) : bits .and .i64 n 1023 = n % 1024 := by
  have h : (BitVec.ofInt 64 n &&& BitVec.ofInt 64 1023).toNat = (n % ((2 ^ 64 : Nat) : Int)).toNat % 1024 := by
    rw [BitVec.toNat_and, BitVec.toNat_ofInt, show (BitVec.ofInt 64 1023).toNat = 2 ^ 10 - 1 by decide, Nat.and_two_pow_sub_one_eq_mod]
  show IntKind.i64.wrap ((BitVec.ofInt 64 n &&& BitVec.ofInt 64 1023).toNat : Nat) = n % 1024
  rw [h, IntKind.wrap_i64]
  omega
/-- with room enough all pieces are taken -/
theorem takeR_all : ∀ (C : List (List Int)) (room : Int), (C.flatten.length : Int) ≤ room → takeR room C = (C.length, 0) := by
  intro C
  induction C with
  | nil => intro _ _; rfl
  | cons p r ih =>
    intro room h
    rw [List.flatten_cons, List.length_append] at h
    rw [takeR, if_neg (by omega), ih _ (by omega)]
    rfl
theorem copyAll {zs : List Int} {size room : Int} {g : Nat} {w0 w : World} (hb : ∀ x ∈ zs, 0 ≤ x ∧ x ≤ 255) (hn : zs.length ≤ 1073741824) (hs : size ≤ 9223372036854775807) (hr0 : (zs.length : Int) ≤ room) (hr1 : room ≤ 9223372036854775807)
    (h0 : BktN w0 w g room [] 0) :
    Calls Tryv.prog 19 #[chunkV zs size, snk g] w fun e w' => ∃ n : Nat, (n = 0 ↔ zs = []) ∧ n ≤ 1073741824 ∧ e = .returned (.tuple #[.int .i64 (n : Int), .int .i64 0]) ∧ BktN w0 w' g room zs n := by
  refine (copyBucket hb hn hs (by omega) hr1 h0).mono ?_
  rintro e w' ⟨n, c, h1, rfl, h3⟩
  have hf := cutr_flat (szOf size zs.length) _ zs rfl
  have hpos := cutr_pos (szOf size zs.length) _ zs rfl
  rw [takeR_all _ _ (by rw [hf]; exact hr0)] at h1
  cases h1
  rw [List.take_length, hf] at h3
  have hle : ∀ D : List (List Int), (∀ p ∈ D, 0 < p.length) → D.length ≤ D.flatten.length := by
    intro D
    induction D with
    | nil => intro _; simp
    | cons a r ih => intro h; have := ih (fun p hp => h p (List.mem_cons_of_mem _ hp)); have := h a (List.mem_cons_self); rw [List.flatten_cons, List.length_append, List.length_cons]; omega
  have hl := hle _ (fun p hp => (hpos p hp).1)
  rw [hf] at hl
  refine ⟨_, ⟨fun h => ?_, fun h => by subst h; rw [cutr_nil]; rfl⟩, by omega, rfl, h3⟩
  have h2 := List.eq_nil_of_length_eq_zero h
  rw [h2] at hf
  exact hf.symm
theorem BktN.ch {w0 w : World} {g : Nat} {room : Int} {zs : List Int} {cnt : Int} (h : BktN w0 w g room zs cnt) : Chg [] w0 w := by
  obtain ⟨_, _, h, _⟩ := h
  exact h
/-- a new Bucket -/
theorem newb_N (n : Int) (w : World) : Calls Tryv.prog 13 #[.int .i64 n] w fun e w' => ∃ g, e = .returned (.pointer (some ⟨g, 0, none⟩)) ∧ BktN w w' g (if n > 0 then n else 0) [] 0 := by
  refine (newb_any n w).mono ?_
  rintro e w' ⟨t, rfl, rfl⟩
  exact ⟨_, rfl, BktN.new w _ t⟩
theorem newb_nn {n : Int} (h : 0 ≤ n) (w : World) : Calls Tryv.prog 13 #[.int .i64 n] w fun e w' => ∃ g, e = .returned (.pointer (some ⟨g, 0, none⟩)) ∧ BktN w w' g n [] 0 := by
  refine (newb_N n w).mono ?_
  rintro e w' ⟨g, rfl, h1⟩
  refine ⟨g, rfl, ?_⟩
  split at h1
  · exact h1
  · have h2 : n = 0 := by omega
    subst h2
    exact h1
theorem cutr_len (d : Nat) (zs : List Int) : (cutr d zs).length ≤ zs.length := by
  have hf := cutr_flat d _ zs rfl
  have hpos := cutr_pos d _ zs rfl
  have hle : ∀ D : List (List Int), (∀ p ∈ D, 0 < p.length) → D.length ≤ D.flatten.length := by
    intro D
    induction D with
    | nil => intro _; simp
    | cons a r ih => intro h; have := ih (fun p hp => h p (List.mem_cons_of_mem _ hp)); have := h a (List.mem_cons_self); rw [List.flatten_cons, List.length_append, List.length_cons]; omega
  have hl := hle _ (fun p hp => (hpos p hp).1)
  rwa [hf] at hl
theorem bool_zero {k n : Nat} {zs : List Int} (h : k = 0 ↔ zs = []) (hl : zs.length = n) : ((k : Int) == 0) = ((n : Int) == 0) := by
  subst hl
  rw [Bool.eq_iff_iff]
  simp only [beq_iff_eq]
  rw [show ((k : Int) = 0) ↔ k = 0 by omega, show ((zs.length : Int) = 0) ↔ zs.length = 0 by omega, h, List.length_eq_zero_iff]
set_option maxRecDepth 100000 in
set_option maxHeartbeats 3200000 in
theorem there_any {A : Option Addr} {n c : Nat} {zs : List Int} {size more : Int} {w : World} (hn : n ≤ 1073741824) (hrd : Rd w 1 A n c (bv zs)) (hb : ∀ x ∈ zs, 0 ≤ x ∧ x ≤ 255)
    (hs : size ≤ 9223372036854775807) :
    Calls Tryv.prog 6 #[.slice A n c, .int .i64 size, .int .i64 more] w fun e w' => e = .returned (.bool true) ∧ Chg [] w w' := by
  have HR := Lib.hid hrd
  have HB := Lib.hid hb
  have hl : zs.length = n := by have := hrd.1; simp at this; omega
  have HL := Lib.hid hl
  obtain ⟨q, hq, hq0, hq1⟩ : ∃ q, bits .and .i64 more 1023 = q ∧ 0 ≤ q ∧ q ≤ 1023 := ⟨_, and1023 more, by omega, by omega⟩
  clear hrd hb hl
  have kPBYTES := Tryv.call17
  have kPCHUNKS := Tryv.call9
  have kPCOPY := Tryv.call19
  have kPCOUNT := Tryv.call18
  have kPNEWB := Tryv.call13
  have kRCOPY27 := Tryv.call8
  have kSAME27 := Tryv.call10
  have kSPEAKS27 := Tryv.call11
  go_enter Tryv.func6, Try.ntmps6
  go_wp2_with (first
    | (go_at_call 11; refine speaks_any.mono ?_; rintro e w1 ⟨rfl, hc1⟩; have HC1 := Lib.hid hc1; clear hc1)
    | (go_at_call 13; refine (newb_nn (by omega) _).mono ?_; rintro e w2 ⟨g, rfl, hbk2⟩; have HB2 := Lib.hid hbk2; have HR2 := Lib.hid ((HR.out.chg HC1.out (by simp)).chg hbk2.ch (by simp)); clear hbk2)
    | (go_at_call 8; refine (copy_any A n c zs _ hn HR2.out).mono ?_; rintro e w3 ⟨A3, c3, rfl, hown3, hchg3, hnew3⟩; have HO3 := Lib.hid hown3; have HB3 := Lib.hid (HB2.out.chg hchg3); clear hown3 hchg3 hnew3)
    | (go_at_call 9; refine (chunks_any hn HO3.out.rd HB.out hs).mono ?_; rintro e w4 ⟨rfl, rfl⟩)
    | (go_at_call 19; refine (copyAll (w0 := w1) HB.out (by rw [HL.out]; exact hn) hs (by rw [HL.out]; omega) (by omega) HB3.out).mono ?_; rintro e w5 ⟨k, hk0, hk1, rfl, hbk5⟩; have HB5 := Lib.hid hbk5; have hq5 := bool_zero hk0 HL.out; have HR5 := Lib.hid ((HR.out.chg HC1.out (by simp)).chg hbk5.ch (by simp)); clear hbk5 hk0)
    | (go_at_call 17; refine (bytes_bktN HB5.out (by rw [HL.out]; exact hn)).mono ?_; rw [HL.out]; rintro e w6 ⟨A6, c6, rfl, hown6, hchg6, hnew6⟩; have HB6 := Lib.hid (HB5.out.chg hchg6); have HO6 := Lib.hid hown6; have HR6 := Lib.hid (HR5.out.chg hchg6 (by simp)); clear hown6 hchg6 hnew6)
    | (go_at_call 10; refine (same_any HO6.out.rd HR6.out).mono ?_; rintro e w7 ⟨rfl, rfl⟩; rw [beq_self_eq_true])
    | (go_at_call 18; refine (count_bktN HB6.out).mono ?_; rintro e w8 ⟨rfl, rfl⟩))
  go_ret
  exact ⟨rfl, HC1.out.trans0 HB6.out.ch⟩
end Go.Proofs.Ytcdhmnefmbcmaaa.Vw
