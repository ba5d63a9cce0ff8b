/-
  Layer 08: ask: the first error that holds.
-/
import Derived.Test.YtgomofeidghmiaaVfB
import Derived.Test.YtgomofeidghmiaaVfK
import Derived.Test.YtgomofeidghmiaaVfPl
namespace Go.Proofs.Ytgomofeidghmiaa
open Go.RowKit

/-- a directory is there -/
def dirV (m : List (ByteArray × Value)) (k : ByteArray) : Value := (aget m k).getD (.map none)
/-- the first error that holds: the power, the names, the directory -/
def askE (a s : Int) (m : List (ByteArray × Value)) (there : Bool) (ns : List ByteArray) : Int :=
  if downB a s = true then 80 else if ns.all goodP = false then 81 else if there = true ∧ (aget m (ns.headD ByteArray.empty)).isNone = true then 82 else 0
theorem rd_str {w : World} {A : Option Addr} {n c : Nat} {ns : List ByteArray} (h : Rd w 1 A n c (svs ns)) {j : Nat} (hj : j < n) :
    ∃ ad s, A = some ad ∧ ns[j]? = some s ∧ w.cell? (ad.add j) = some (.string s) := by
  obtain ⟨ad, u, hA, hx, hc⟩ := h.at1 hj
  unfold svs at hx
  rw [List.getElem?_map] at hx
  cases hs : ns[j]? with
  | none => rw [hs] at hx; cases hx
  | some s => rw [hs] at hx; simp at hx; subst hx; exact ⟨ad, s, hA, rfl, hc⟩

set_option maxRecDepth 100000 in
set_option maxHeartbeats 3200000 in
theorem ask_any (b sb : Nat) (a s : Int) (m : List (ByteArray × Value)) (there : Bool) (A : Option Addr) (n c : Nat) (ns : List ByteArray) (w : World)
    (h0 : w.cell? ⟨b, 0, none⟩ = some (.map (some sb))) (h5 : w.cell? ⟨b, 5, none⟩ = some (.int .i64 a)) (h6 : w.cell? ⟨b, 6, none⟩ = some (.int .i64 s))
    (hm : Mp w sb kvS m) (hv : ∀ p ∈ m, ∃ r, p.2 = .map (some r)) (hr : Rd w 1 A n c (svs ns)) (hn : n ≤ 1073741824) (ht : there = true → 0 < n) :
    Calls Try.prog 55 #[.pointer (some ⟨b, 0, none⟩), .bool there, .slice A n c] w fun e w' => e = .returned (.int .i64 (askE a s m there ns)) ∧ Chg [] w w' := by
  have hl : ns.length = n := by have := hr.1; simp [svs] at this; omega
  have HR := Lib.hid hr
  have HL := Lib.hid hl
  have HMP := Lib.hid hm
  have HV := Lib.hid hv
  have H0 := Lib.hid h0
  have HT := Lib.hid ht
  clear hr hl hm hv h0 ht
  go_enter Try.func55, Try.ntmps55
  go_wp2_with fail
  refine (down_any b a s w h5 h6).mono ?_
  rintro e w1 ⟨rfl, hc1⟩
  have HC1 := Lib.hid hc1
  clear hc1 h5 h6
  cases hd : downB a s with
  | true =>
    have HE : Hid (askE a s m there ns = 80) := Lib.hid (by unfold askE; rw [if_pos hd])
    clear hd
    go_wp2
    go_ret
    exact ⟨by rw [HE.out]; rfl, HC1.out⟩
  | false =>
    have HD := Lib.hid hd
    clear hd
    go_wp2
    go_loopw [13] (fun q wr => ∃ i : Nat, i ≤ n ∧ q = .int .i64 i ∧ (∀ x ∈ ns.take i, goodP x = true) ∧ Chg [] w wr) (fun q _ => n - (intOf q).toNat)
    case atStart => exact ⟨0, Nat.zero_le _, rfl, by simp, HC1.out⟩
    case round =>
      obtain ⟨i, hi, rfl, hall, hch⟩ := hrel
      have HALL := Lib.hid hall
      have HCH := Lib.hid hch
      clear hall hch
      by_cases hlt : i < n
      · have hlt' : (i : Int) < n := by omega
        obtain ⟨ad, x, rfl, hx, hcell⟩ := rd_str (HR.out.chg HCH.out (fun _ _ => List.not_mem_nil)) hlt
        have HX := Lib.hid hx
        clear hx
        go_wp2_with fail
        refine (good_any x _).mono ?_
        rintro e w3 ⟨rfl, rfl⟩
        cases hg : goodP x with
        | false =>
          have HE : Hid (askE a s m there ns = 81) := Lib.hid (by
            unfold askE
            rw [if_neg (by rw [HD.out]; simp), if_pos (by rw [List.all_eq_false]; exact ⟨x, List.mem_of_getElem? HX.out, by simp [hg]⟩)])
          clear hg
          go_wp2
          go_ret
          exact ⟨by rw [HE.out]; rfl, HCH.out⟩
        | true =>
          have HG := Lib.hid hg
          clear hg
          go_wp2
          go_roundw
          case rel =>
            refine ⟨i + 1, by omega, by go_num, fun y hy => ?_, HCH.out⟩
            rw [take_snoc _ _ _ HX.out] at hy
            rcases List.mem_append.1 hy with h | h
            · exact HALL.out y h
            · simp at h; subst h; exact HG.out
          case measure => simp [intOf]; omega
      · obtain rfl : i = n := by omega
        have HAL : Hid (ns.all goodP = true) := Lib.hid (List.all_eq_true.2 (fun x hx => HALL.out x (by rw [List.take_of_length_le (by rw [HL.out]; exact Nat.le_refl _)]; exact hx)))
        cases there with
        | false =>
          have HE : Hid (askE a s m false ns = 0) := Lib.hid (by unfold askE; rw [if_neg (by rw [HD.out]; simp), if_neg (by rw [HAL.out]; simp), if_neg (by simp)])
          go_wp2_with fail
          go_quiet (fail)
          go_wp2
          go_ret
          exact ⟨by rw [HE.out]; rfl, HCH.out.drewN _⟩
        | true =>
          have hn0 := HT.out rfl
          obtain ⟨ad, x, rfl, hx, hcell⟩ := rd_str (HR.out.chg HCH.out (fun _ _ => List.not_mem_nil)) hn0
          have hcell0 : wr.cell? ad = some (.string x) := by simpa [Addr.add] using hcell
          have hn1 : (0 : Int) < (i : Int) := by omega
          have hq := fun w r => run_eql_map_nil (P := Try.prog) w 80 _ _ r Try.underlying80
          have h0 := HCH.out.cell H0.out (fun h => List.not_mem_nil h)
          have hmp := HMP.out.chg HCH.out (fun h => List.not_mem_nil h)
          have hlk : ∀ q, (Instr.lookup 73 (.map (some sb)) (.string x) false).run Try.prog (wr.drewN q) = .ok (dirV m x) (wr.drewN q) := fun q => (Mp.lookup (hmp.chg ((Chg.refl [] wr).drewN q) (fun h => List.not_mem_nil h)) (string_key Try.underlying9) Try.underlying73 (z := .map none) (by kernel_rfl) x).1
          have hhd : ns.headD ByteArray.empty = x := by
            cases ns with
            | nil => simp at hx
            | cons y r => simp at hx; exact hx
          have HHD := Lib.hid hhd
          clear hx hcell hmp hhd
          rcases hdv : aget m x with _ | v
          · have hdx : dirV m x = .map none := by unfold dirV; rw [hdv]; rfl
            have HE : Hid (askE a s m true ns = 82) := Lib.hid (by unfold askE; rw [if_neg (by rw [HD.out]; simp), if_neg (by rw [HAL.out]; simp), if_pos ⟨rfl, by rw [HHD.out, hdv]; rfl⟩])
            rw [hdx] at hlk
            clear hdx hdv
            go_wp2_with fail
            go_quiet (fail)
            go_wp2
            go_ret
            exact ⟨by rw [HE.out]; rfl, HCH.out.drewN _⟩
          · obtain ⟨r, hrv⟩ := HV.out _ (aget_mem hdv)
            have hdx : dirV m x = .map (some r) := by unfold dirV; rw [hdv]; exact hrv
            have HE : Hid (askE a s m true ns = 0) := Lib.hid (by unfold askE; rw [if_neg (by rw [HD.out]; simp), if_neg (by rw [HAL.out]; simp), if_neg (by rintro ⟨_, h⟩; rw [HHD.out, hdv] at h; cases h)])
            rw [hdx] at hlk
            clear hdx hdv hrv
            go_wp2_with fail
            go_quiet (fail)
            go_wp2
            go_ret
            exact ⟨by rw [HE.out]; rfl, HCH.out.drewN _⟩
end Go.Proofs.Ytgomofeidghmiaa
