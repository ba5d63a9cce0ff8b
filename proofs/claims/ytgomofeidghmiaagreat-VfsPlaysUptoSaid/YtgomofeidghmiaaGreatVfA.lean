/-
  Layer 08: which texts may be names.
-/
import Derived.Test.YtgomofeidghmiaaGreatMem
import Derived.Test.YtgomofeidghmiaaGreatChecked
import Derived.WalkSpells
import Derived.KernelRfl
import Derived.BigQuiet
import Derived.Deep.QuietTactic
namespace Go.Proofs.YtgomofeidghmiaaGreat
open Go.RowKit

/-- may this byte stand in a name? -/
def okc (c : Int) : Bool := decide (97 ≤ c ∧ c ≤ 122) || decide (48 ≤ c ∧ c ≤ 57) || c == 46 || c == 95 || c == 45
/-- may this text be a name? -/
def goodP (s : ByteArray) : Bool := decide (0 < s.size ∧ s.size ≤ 30) && s.data.toList.all fun b => okc (b.toNat : Int)
theorem goodP_bad {s : ByteArray} {i : Nat} {u : UInt8} (h : s.data.toList[i]? = some u) (hb : okc (u.toNat : Int) = false) : goodP s = false := by
  unfold goodP
  rw [Bool.and_eq_false_iff]
  right
  rw [List.all_eq_false]
  exact ⟨u, List.mem_of_getElem? h, by simp [hb]⟩
theorem take_all {l : List UInt8} {i : Nat} {u : UInt8} (h : ∀ x ∈ l.take i, okc (x.toNat : Int) = true) (hu : l[i]? = some u) (ho : okc (u.toNat : Int) = true) : ∀ x ∈ l.take (i + 1), okc (x.toNat : Int) = true := by
  intro x hx
  rw [List.take_add_one, hu] at hx
  rcases List.mem_append.1 hx with h1 | h1
  · exact h x h1
  · simp at h1; subst h1; exact ho

set_option maxRecDepth 100000 in
set_option maxHeartbeats 3200000 in
theorem good_any (s : ByteArray) (w : World) : Calls Tryz.prog 23 #[.string s] w fun e w' => e = .returned (.bool (goodP s)) ∧ w' = w := by
  by_cases h0 : s.size = 0
  · have hs : s = ByteArray.empty := by
      cases s with | mk d => simp [ByteArray.size] at h0; subst h0; rfl
    subst hs
    go_enter Tryz.func23, Tryz.ntmps23
    go_wp2
    go_ret
    exact ⟨rfl, rfl⟩
  · have e1 : s.toList.isEmpty = false := by
      rw [ByteArray.toList_eq, ← Bool.not_eq_true, List.isEmpty_iff]
      intro h
      apply h0
      have q : s.data.toList.length = 0 := by rw [h]; rfl
      simpa using q
    by_cases h30 : 30 < s.size
    · have e2 : decide ((30 : Int) < (s.size : Int)) = true := by simp; omega
      have HR : Hid (goodP s = false) := Lib.hid (by unfold goodP; simp; omega)
      go_enter Tryz.func23, Tryz.ntmps23
      go_wp2
      go_ret
      exact ⟨by rw [HR.out]; rfl, rfl⟩
    · have e2 : decide ((30 : Int) < (s.size : Int)) = false := by simp; omega
      go_enter Tryz.func23, Tryz.ntmps23
      go_wp2
      go_loopw [14] (fun q wr => ∃ i : Nat, i ≤ s.size ∧ q = .int .i64 i ∧ (∀ x ∈ s.data.toList.take i, okc (x.toNat : Int) = true) ∧ wr = w) (fun q _ => s.size - (intOf q).toNat)
      case atStart => exact ⟨0, Nat.zero_le _, rfl, by simp, rfl⟩
      case round =>
        obtain ⟨i, hi, rfl, hall, rfl⟩ := hrel
        have HALL := Lib.hid hall
        clear hall
        by_cases hlt : i < s.size
        · have hlt' : (i : Int) < (s.size : Int) := by omega
          have HX : Hid (s.data.toList[i]? = some (s[i]'hlt)) := Lib.hid (by rw [List.getElem?_eq_getElem (by simpa using hlt)]; rfl)
          have hub : (s[i]'hlt).toNat < 256 := (s[i]'hlt).toNat_lt
          rcases (show (97 ≤ (s[i]'hlt).toNat ∧ (s[i]'hlt).toNat ≤ 122) ∨ (48 ≤ (s[i]'hlt).toNat ∧ (s[i]'hlt).toNat ≤ 57) ∨ (s[i]'hlt).toNat = 46 ∨ (s[i]'hlt).toNat = 95 ∨ (s[i]'hlt).toNat = 45 ∨ ((s[i]'hlt).toNat < 48 ∧ (s[i]'hlt).toNat ≠ 46 ∧ (s[i]'hlt).toNat ≠ 45) ∨ (57 < (s[i]'hlt).toNat ∧ (s[i]'hlt).toNat < 97 ∧ (s[i]'hlt).toNat ≠ 95) ∨ (122 < (s[i]'hlt).toNat) by omega) with hq | hq | hq | hq | hq | hq | hq | hq
          · have e0 : decide (((s[i]'hlt).toNat : Int) < 97) = false := by simp; omega
            have e1 : decide (122 < ((s[i]'hlt).toNat : Int)) = false := by simp; omega
            have HO : Hid (okc ((s[i]'hlt).toNat : Int) = true) := Lib.hid (by unfold okc; simp; omega)
            go_wp2
            go_roundw
            case rel => exact ⟨i + 1, by omega, by go_num, take_all HALL.out HX.out HO.out, trivial⟩
            case measure => simp [intOf]; omega
          · have e0 : decide (((s[i]'hlt).toNat : Int) < 97) = true := by simp; omega
            have e1 : decide (((s[i]'hlt).toNat : Int) < 48) = false := by simp; omega
            have e2 : decide (57 < ((s[i]'hlt).toNat : Int)) = false := by simp; omega
            have HO : Hid (okc ((s[i]'hlt).toNat : Int) = true) := Lib.hid (by unfold okc; simp; omega)
            go_wp2
            go_roundw
            case rel => exact ⟨i + 1, by omega, by go_num, take_all HALL.out HX.out HO.out, trivial⟩
            case measure => simp [intOf]; omega
          · have e0 : decide (((s[i]'hlt).toNat : Int) < 97) = true := by simp; omega
            have e1 : decide (((s[i]'hlt).toNat : Int) < 48) = true := by simp; omega
            have e2 : (((s[i]'hlt).toNat : Int) != 46) = false := by simp; omega
            have HO : Hid (okc ((s[i]'hlt).toNat : Int) = true) := Lib.hid (by unfold okc; simp; omega)
            go_wp2
            go_roundw
            case rel => exact ⟨i + 1, by omega, by go_num, take_all HALL.out HX.out HO.out, trivial⟩
            case measure => simp [intOf]; omega
          · have e0 : decide (((s[i]'hlt).toNat : Int) < 97) = true := by simp; omega
            have e1 : decide (((s[i]'hlt).toNat : Int) < 48) = false := by simp; omega
            have e2 : decide (57 < ((s[i]'hlt).toNat : Int)) = true := by simp; omega
            have e3 : (((s[i]'hlt).toNat : Int) != 46) = true := by simp; omega
            have e4 : (((s[i]'hlt).toNat : Int) != 95) = false := by simp; omega
            have HO : Hid (okc ((s[i]'hlt).toNat : Int) = true) := Lib.hid (by unfold okc; simp; omega)
            go_wp2
            go_roundw
            case rel => exact ⟨i + 1, by omega, by go_num, take_all HALL.out HX.out HO.out, trivial⟩
            case measure => simp [intOf]; omega
          · have e0 : decide (((s[i]'hlt).toNat : Int) < 97) = true := by simp; omega
            have e1 : decide (((s[i]'hlt).toNat : Int) < 48) = true := by simp; omega
            have e2 : (((s[i]'hlt).toNat : Int) != 46) = true := by simp; omega
            have e3 : (((s[i]'hlt).toNat : Int) != 95) = true := by simp; omega
            have e4 : (((s[i]'hlt).toNat : Int) != 45) = false := by simp; omega
            have HO : Hid (okc ((s[i]'hlt).toNat : Int) = true) := Lib.hid (by unfold okc; simp; omega)
            go_wp2
            go_roundw
            case rel => exact ⟨i + 1, by omega, by go_num, take_all HALL.out HX.out HO.out, trivial⟩
            case measure => simp [intOf]; omega
          · have e0 : decide (((s[i]'hlt).toNat : Int) < 97) = true := by simp; omega
            have e1 : decide (((s[i]'hlt).toNat : Int) < 48) = true := by simp; omega
            have e2 : (((s[i]'hlt).toNat : Int) != 46) = true := by simp; omega
            have e3 : (((s[i]'hlt).toNat : Int) != 95) = true := by simp; omega
            have e4 : (((s[i]'hlt).toNat : Int) != 45) = true := by simp; omega
            have HR : Hid (goodP s = false) := Lib.hid (goodP_bad HX.out (by unfold okc; simp; omega))
            go_wp2
            go_ret
            exact ⟨by rw [HR.out]; rfl, rfl⟩
          · have e0 : decide (((s[i]'hlt).toNat : Int) < 97) = true := by simp; omega
            have e1 : decide (((s[i]'hlt).toNat : Int) < 48) = false := by simp; omega
            have e2 : decide (57 < ((s[i]'hlt).toNat : Int)) = true := by simp; omega
            have e3 : (((s[i]'hlt).toNat : Int) != 46) = true := by simp; omega
            have e4 : (((s[i]'hlt).toNat : Int) != 95) = true := by simp; omega
            have e5 : (((s[i]'hlt).toNat : Int) != 45) = true := by simp; omega
            have HR : Hid (goodP s = false) := Lib.hid (goodP_bad HX.out (by unfold okc; simp; omega))
            go_wp2
            go_ret
            exact ⟨by rw [HR.out]; rfl, rfl⟩
          · have e0 : decide (((s[i]'hlt).toNat : Int) < 97) = false := by simp; omega
            have e1 : decide (122 < ((s[i]'hlt).toNat : Int)) = true := by simp; omega
            have e2 : decide (((s[i]'hlt).toNat : Int) < 48) = false := by simp; omega
            have e3 : decide (57 < ((s[i]'hlt).toNat : Int)) = true := by simp; omega
            have e4 : (((s[i]'hlt).toNat : Int) != 46) = true := by simp; omega
            have e5 : (((s[i]'hlt).toNat : Int) != 95) = true := by simp; omega
            have e6 : (((s[i]'hlt).toNat : Int) != 45) = true := by simp; omega
            have HR : Hid (goodP s = false) := Lib.hid (goodP_bad HX.out (by unfold okc; simp; omega))
            go_wp2
            go_ret
            exact ⟨by rw [HR.out]; rfl, rfl⟩
        · obtain rfl : i = s.size := by omega
          have HR : Hid (goodP s = true) := Lib.hid (by
            unfold goodP
            rw [Bool.and_eq_true]
            refine ⟨by simp; omega, List.all_eq_true.2 (fun x hx => HALL.out x ?_)⟩
            rw [List.take_of_length_le (by simp)]
            exact hx)
          go_wp2
          go_ret
          exact ⟨by rw [HR.out]; rfl, rfl⟩

/-- the letters of a name, as the document lists them -/
def pathB : ByteArray := ⟨#[97, 98, 99, 100, 101, 102, 103, 104, 105, 106, 107, 108, 109, 110, 111, 112, 113, 114, 115, 116, 117, 118, 119, 120, 121, 122, 48, 49, 50, 51, 52, 53, 54, 55, 56, 57, 46, 95, 45]⟩
def hasC (k : Nat) (c : Nat) : Bool := (pathB.data.toList.take k).any fun b => b.toNat == c
theorem hasC_all : ((List.range 256).all fun n => hasC 39 n == okc (n : Int)) = true := by kernel_rfl
theorem hasC_okc {c : Nat} (h : c < 256) : hasC 39 c = okc (c : Int) := by
  have q := List.all_eq_true.1 hasC_all c (List.mem_range.2 h)
  exact eq_of_beq q
theorem hasC_succ {k c : Nat} (h : k < 39) : hasC (k + 1) c = (hasC k c || (pathB[k]'h).toNat == c) := by
  unfold hasC
  rw [List.take_add_one, show pathB.data.toList[k]? = some (pathB[k]'h) from by rw [List.getElem?_eq_getElem (show k < pathB.data.toList.length from h)]; rfl]
  simp [List.any_append]

set_option maxRecDepth 100000 in
set_option maxHeartbeats 3200000 in
theorem rgood_any (s : ByteArray) (w : World) : Calls Tryz.prog 75 #[.string s] w fun e w' => e = .returned (.bool (goodP s)) ∧ Chg [] w w' := by
  by_cases h0 : s.size = 0
  · have e1 : ((s.size : Int) == 0) = true := by simp [h0]
    have HR : Hid (goodP s = false) := Lib.hid (by unfold goodP; simp [h0])
    go_enter Tryz.func75, Tryz.ntmps75
    go_wp2
    go_ret
    exact ⟨by rw [HR.out]; rfl, Chg.refl _ _⟩
  · have e1 : ((s.size : Int) == 0) = false := by rw [beq_eq_false_iff_ne]; omega
    by_cases h30 : 30 < s.size
    · have e2 : decide ((30 : Int) < (s.size : Int)) = true := by simp; omega
      have HR : Hid (goodP s = false) := Lib.hid (by unfold goodP; simp; omega)
      go_enter Tryz.func75, Tryz.ntmps75
      go_wp2
      go_ret
      exact ⟨by rw [HR.out]; rfl, Chg.refl _ _⟩
    · have e2 : decide ((30 : Int) < (s.size : Int)) = false := by simp; omega
      go_enter Tryz.func75, Tryz.ntmps75
      go_wp2
      go_loopw [3] (fun q wr => ∃ i : Nat, i ≤ s.size ∧ q = .int .i64 i ∧ (∀ x ∈ s.data.toList.take i, okc (x.toNat : Int) = true) ∧ Chg [] w wr) (fun q _ => s.size - (intOf q).toNat)
      case atStart => exact ⟨0, Nat.zero_le _, rfl, by simp, Chg.refl _ _⟩
      case round =>
        obtain ⟨i, hi, rfl, hall, hch⟩ := hrel
        have HALL := Lib.hid hall
        have HCH := Lib.hid hch
        clear hall hch
        by_cases hlt : i < s.size
        · have hlt' : (i : Int) < (s.size : Int) := by omega
          have HX : Hid (s.data.toList[i]? = some (s[i]'hlt)) := Lib.hid (by rw [List.getElem?_eq_getElem (by simpa using hlt)]; rfl)
          have hub : (s[i]'hlt).toNat < 256 := (s[i]'hlt).toNat_lt
          go_wp2
          obtain ⟨wk, hwk⟩ : ∃ wk : World, wk = wr := ⟨_, rfl⟩
          subst hwk
          go_loopw [5, 4] (fun q b wr => ∃ k : Nat, k ≤ 39 ∧ q = .int .i64 k ∧ b = .bool (hasC k (s[i]'hlt).toNat) ∧ Chg [] wk wr) (fun q _ _ => 39 - (intOf q).toNat)
          case atStart => exact ⟨0, by omega, rfl, rfl, Chg.refl _ _⟩
          case round =>
            obtain ⟨k, hk, rfl, rfl, hcr⟩ := hrel
            have HCR := Lib.hid hcr
            clear hcr
            by_cases hk39 : k < 39
            · have hk39' : (k : Int) < 39 := by omega
              have HS := Lib.hid (hasC_succ (c := (s[i]'hlt).toNat) hk39)
              cases hb : hasC k (s[i]'hlt).toNat with
              | true =>
                rw [hb] at HS
                clear hb
                go_wp2_with fail
                go_quiet (fail)
                go_wp2
                go_roundw
                case rel => exact ⟨k + 1, by omega, by go_num, by rw [HS.out]; rfl, HCR.out.drewN _⟩
                case measure => simp [intOf]; omega
              | false =>
                rw [hb] at HS
                clear hb
                go_wp2_with fail
                go_quiet (fail)
                go_wp2
                go_roundw
                case rel =>
                  refine ⟨k + 1, by omega, by go_num, ?_, HCR.out.drewN _⟩
                  rw [HS.out, Bool.false_or]
                  exact congrArg Value.bool (by rw [Bool.eq_iff_iff]; simp; exact ⟨fun h => by exact_mod_cast h, fun h => by exact_mod_cast h⟩)
                case measure => simp [intOf]; omega
            · obtain rfl : k = 39 := by omega
              have HK := Lib.hid (hasC_okc hub)
              cases hb : hasC 39 (s[i]'hlt).toNat with
              | true =>
                rw [hb] at HK
                clear hb
                go_wp2
                go_roundw
                case rel => exact ⟨i + 1, by omega, by go_num, take_all HALL.out HX.out HK.out.symm, HCH.out.trans0 HCR.out⟩
                case measure => simp [intOf]; omega
              | false =>
                rw [hb] at HK
                clear hb
                have HR : Hid (goodP s = false) := Lib.hid (goodP_bad HX.out HK.out.symm)
                go_wp2
                go_ret
                exact ⟨by rw [HR.out]; rfl, HCH.out.trans0 HCR.out⟩
        · obtain rfl : i = s.size := by omega
          have HR : Hid (goodP s = true) := Lib.hid (by
            unfold goodP
            rw [Bool.and_eq_true]
            refine ⟨by simp; omega, List.all_eq_true.2 (fun x hx => HALL.out x ?_)⟩
            rw [List.take_of_length_le (by simp)]
            exact hx)
          go_wp2
          go_ret
          exact ⟨by rw [HR.out]; rfl, HCH.out⟩
end Go.Proofs.YtgomofeidghmiaaGreat
