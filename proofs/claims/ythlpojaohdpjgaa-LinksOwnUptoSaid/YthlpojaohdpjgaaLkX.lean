/-
  Layer 13: the walks of LinksIncident, LinksWalks.
-/
import Derived.Test.YthlpojaohdpjgaaLkW
import Derived.Test.YthlpojaohdpjgaaLkU
namespace Go.Proofs.Ythlpojaohdpjgaa
open Go.RowKit

set_option maxHeartbeats 6400000 in
theorem lkinc_any (A : Option Addr) (n c : Nat) (ls : List Lk) (node : Int) (w : World) (hrd : Rd w 7 A n c (lvs ls)) (hn : n ≤ 1073741824) :
    Calls Try.prog 3 #[.slice A n c, .int .i64 node] w fun e w' => e = .returned (.bool true) ∧ Chg [] w w' := by
  have hl : ls.length = n := by have := hrd.1; rw [lvs_length] at this; omega
  obtain ⟨N, hN⟩ : ∃ N, (incident ls node).length = N := ⟨_, rfl⟩
  have hNn : N ≤ n := by rw [← hN, ← inc_all, ← hl]; exact inc_le _ _ _
  have HN := Lib.hid hN
  have HR := Lib.hid hrd
  clear hrd hl hN
  go_enter Try.func3, Try.ntmps3
  go_wp2_with fail
  refine (lspeaks_any _).mono ?_
  rintro e w1 ⟨rfl, hc1⟩
  go_wp2_with fail
  refine (lcopied_any A n c ls _ hn (HR.out.chg hc1 (by simp))).mono ?_
  rintro e w2 ⟨A2, c2, rfl, ho2, hc2, hn2⟩
  go_wp2_with fail
  refine (incident_any A2 n c2 ls node _ ho2.rd hn N HN.out).mono ?_
  rintro e w3 ⟨A3, c3, rfl, ho3, hc3, hn3⟩
  have C3 : Chg [] w w3 := (hc1.trans0 hc2).trans0 hc3
  go_wp2_with fail
  refine (gincident_any A n c ls node _ (HR.out.chg C3 (by simp)) hn N HN.out).mono ?_
  rintro e w4 ⟨A4, c4, rfl, ho4, hc4, hn4⟩
  go_wp2_with fail
  refine (sameI_true A3 N c3 _ A4 N c4 _ (by omega) (ho3.chg hc4 (by simp)).rd ho4.rd).mono ?_
  rintro e w5 ⟨rfl, hc5⟩
  have C5 : Chg [] w w5 := (C3.trans0 hc4).trans0 hc5
  go_wp2_with fail
  refine (sameL_true A2 n c2 ls A n c _ hn (ho2.chg ((hc3.trans0 hc4).trans0 hc5) (by simp)).rd (HR.out.chg C5 (by simp))).mono ?_
  rintro e w6 ⟨rfl, hc6⟩
  go_wp2
  go_ret
  exact ⟨rfl, C5.trans0 hc6⟩

theorem walk_len (ls : List Lk) (node head : Int) : (walk ls node head).1.length ≤ ls.length + 1 := by
  have gen : ∀ (f : Nat) (acc : List Int) (id : Int), f + acc.length ≤ ls.length + 1 → (wk ls node f acc id).1.length ≤ ls.length + 1 := by
    intro f
    induction f with
    | zero => intro acc id h1; simpa [wk] using h1
    | succ f ih =>
      intro acc id h1
      simp only [wk]
      repeat' split
      all_goals first
        | exact ih _ _ (by simp; omega)
        | (simp; done)
        | (simp only; omega)
  exact gen _ _ _ (by simp)

set_option maxHeartbeats 6400000 in
theorem lkwalk_any (A : Option Addr) (n c : Nat) (ls : List Lk) (node head : Int) (w : World) (hrd : Rd w 7 A n c (lvs ls)) (hn : n ≤ 1073741823) :
    Calls Try.prog 5 #[.slice A n c, .int .i64 node, .int .i64 head] w fun e w' => e = .returned (.bool true) ∧ Chg [] w w' := by
  have hl : ls.length = n := by have := hrd.1; rw [lvs_length] at this; omega
  have HR := Lib.hid hrd
  have HWL := Lib.hid (walk_len ls node head)
  have HL := Lib.hid hl
  clear hrd hl
  go_enter Try.func5, Try.ntmps5
  go_wp2_with fail
  refine (lspeaks_any _).mono ?_
  rintro e w1 ⟨rfl, hc1⟩
  go_wp2_with fail
  refine (lcopied_any A n c ls _ (by omega) (HR.out.chg hc1 (by simp))).mono ?_
  rintro e w2 ⟨A2, c2, rfl, ho2, hc2, hn2⟩
  go_wp2_with fail
  refine (walk_any A2 n c2 ls node head _ ho2.rd (by omega)).mono ?_
  rintro e w3 ⟨A3, N3, c3, E3, rfl, hE3, ho3, hN3, hc3, hn3⟩
  have C3 : Chg [] w w3 := (hc1.trans0 hc2).trans0 hc3
  have HE3 := Lib.hid hE3
  have HN3 := Lib.hid hN3
  have q3 : N3 ≤ 1073741824 := by have := HWL.out; have := HL.out; omega
  clear hE3 hN3
  go_wp2_with fail
  refine (gwalk_any A n c ls node head _ (HR.out.chg C3 (by simp)) (by omega)).mono ?_
  rintro e w4 ⟨A4, N4, c4, E4, rfl, hE4, ho4, hN4, hc4, hn4⟩
  obtain rfl : E4 = E3 := hE4.trans HE3.out.symm
  obtain rfl : N4 = N3 := hN4.trans HN3.out.symm
  clear hE4 hN4
  have hee : (E4 == E4) = true := by simp
  go_wp2_with fail
  refine (sameI_true A3 N4 c3 _ A4 N4 c4 _ q3 (ho3.chg hc4 (by simp)).rd ho4.rd).mono ?_
  rintro e w5 ⟨rfl, hc5⟩
  have C5 : Chg [] w w5 := (C3.trans0 hc4).trans0 hc5
  go_wp2_with fail
  refine (sameL_true A2 n c2 ls A n c _ (by omega) (ho2.chg ((hc3.trans0 hc4).trans0 hc5) (by simp)).rd (HR.out.chg C5 (by simp))).mono ?_
  rintro e w6 ⟨rfl, hc6⟩
  go_wp2
  go_ret
  exact ⟨rfl, C5.trans0 hc6⟩
end Go.Proofs.Ythlpojaohdpjgaa
