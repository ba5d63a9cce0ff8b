/-
  V's Copy over a Tee, and Tee itself; no condition but what each law names.
  A Copy to a Bucket over the virtual program; speaks; no condition but what each law names.
-/
import Derived.Test.YtcdhmnefmbcmaaaJbg
namespace Go.Proofs.Ytcdhmnefmbcmaaa.Vw
open Go Go.RowKit
theorem Tryv.call69 (p : Array Value) (w : World) : (callFunc 69 p).run Tryv.prog w = .ok (.enter 69 p) w := by
  unfold callFunc
  simp only [Sem.run_bind]
  have : (program).run Tryv.prog w = .ok Tryv.prog w := rfl
  rw [this]
  simp only [Result.andThen_ok, Tryv.func69]
  rfl
theorem Tryv.call28 (p : Array Value) (w : World) : (callFunc 28 p).run Tryv.prog w = .ok (.enter 28 p) w := by
  unfold callFunc
  simp only [Sem.run_bind]
  have : (program).run Tryv.prog w = .ok Tryv.prog w := rfl
  rw [this]
  simp only [Result.andThen_ok, Tryv.func28]
  rfl
theorem Tryv.call20 (p : Array Value) (w : World) : (callFunc 20 p).run Tryv.prog w = .ok (.enter 20 p) w := by
  unfold callFunc
  simp only [Sem.run_bind]
  have : (program).run Tryv.prog w = .ok Tryv.prog w := rfl
  rw [this]
  simp only [Result.andThen_ok, Tryv.func20]
  rfl
theorem Tryv.call16 (p : Array Value) (w : World) : (callFunc 16 p).run Tryv.prog w = .ok (.enter 16 p) w := by
  unfold callFunc
  simp only [Sem.run_bind]
  have : (program).run Tryv.prog w = .ok Tryv.prog w := rfl
  rw [this]
  simp only [Result.andThen_ok, Tryv.func16]
  rfl
theorem Tryv.call13 (p : Array Value) (w : World) : (callFunc 13 p).run Tryv.prog w = .ok (.enter 13 p) w := by
  unfold callFunc
  simp only [Sem.run_bind]
  have : (program).run Tryv.prog w = .ok Tryv.prog w := rfl
  rw [this]
  simp only [Result.andThen_ok, Tryv.func13]
  rfl
theorem Tryv.call14 (p : Array Value) (w : World) : (callFunc 14 p).run Tryv.prog w = .ok (.enter 14 p) w := by
  unfold callFunc
  simp only [Sem.run_bind]
  have : (program).run Tryv.prog w = .ok Tryv.prog w := rfl
  rw [this]
  simp only [Result.andThen_ok, Tryv.func14]
  rfl
theorem Tryv.call9 (p : Array Value) (w : World) : (callFunc 9 p).run Tryv.prog w = .ok (.enter 9 p) w := by
  unfold callFunc
  simp only [Sem.run_bind]
  have : (program).run Tryv.prog w = .ok Tryv.prog w := rfl
  rw [this]
  simp only [Result.andThen_ok, Tryv.func9]
  rfl
theorem Tryv.call19 (p : Array Value) (w : World) : (callFunc 19 p).run Tryv.prog w = .ok (.enter 19 p) w := by
  unfold callFunc
  simp only [Sem.run_bind]
  have : (program).run Tryv.prog w = .ok Tryv.prog w := rfl
  rw [this]
  simp only [Result.andThen_ok, Tryv.func19]
  rfl
theorem Tryv.call17 (p : Array Value) (w : World) : (callFunc 17 p).run Tryv.prog w = .ok (.enter 17 p) w := by
  unfold callFunc
  simp only [Sem.run_bind]
  have : (program).run Tryv.prog w = .ok Tryv.prog w := rfl
  rw [this]
  simp only [Result.andThen_ok, Tryv.func17]
  rfl
theorem Tryv.call18 (p : Array Value) (w : World) : (callFunc 18 p).run Tryv.prog w = .ok (.enter 18 p) w := by
  unfold callFunc
  simp only [Sem.run_bind]
  have : (program).run Tryv.prog w = .ok Tryv.prog w := rfl
  rw [this]
  simp only [Result.andThen_ok, Tryv.func18]
  rfl
theorem Tryv.call10 (p : Array Value) (w : World) : (callFunc 10 p).run Tryv.prog w = .ok (.enter 10 p) w := by
  unfold callFunc
  simp only [Sem.run_bind]
  have : (program).run Tryv.prog w = .ok Tryv.prog w := rfl
  rw [this]
  simp only [Result.andThen_ok, Tryv.func10]
  rfl
theorem Tryv.call12 (p : Array Value) (w : World) : (callFunc 12 p).run Tryv.prog w = .ok (.enter 12 p) w := by
  unfold callFunc
  simp only [Sem.run_bind]
  have : (program).run Tryv.prog w = .ok Tryv.prog w := rfl
  rw [this]
  simp only [Result.andThen_ok, Tryv.func12]
  rfl
theorem Tryv.call8 (p : Array Value) (w : World) : (callFunc 8 p).run Tryv.prog w = .ok (.enter 8 p) w := by
  unfold callFunc
  simp only [Sem.run_bind]
  have : (program).run Tryv.prog w = .ok Tryv.prog w := rfl
  rw [this]
  simp only [Result.andThen_ok, Tryv.func8]
  rfl
theorem Tryv.call11 (p : Array Value) (w : World) : (callFunc 11 p).run Tryv.prog w = .ok (.enter 11 p) w := by
  unfold callFunc
  simp only [Sem.run_bind]
  have : (program).run Tryv.prog w = .ok Tryv.prog w := rfl
  rw [this]
  simp only [Result.andThen_ok, Tryv.func11]
  rfl
set_option maxRecDepth 100000 in
set_option maxHeartbeats 3200000 in
theorem copyT_any {zs : List Int} {size : Int} {rv : Value} {S : Nat → World → Prop} {E : Nat → World → Prop} {w : World} (hb : ∀ x ∈ zs, 0 ≤ x ∧ x ≤ 255) (hn : zs.length ≤ 1073741824) (hs : size ≤ 9223372036854775807) (h0 : S 0 w)
    (hT : ∀ (k : Nat) (p : List Int) (wr w2 : World) (A : Option Addr) (c : Nat), (cutr (szOf size zs.length) zs)[k]? = some p → S k wr → Chg [] wr w2 → Own w2 5 1 A p.length c (bv p) → (∀ j ∈ bo A, wr.heap.size ≤ j) →
      Calls Tryv.prog 69 #[rv, .slice A p.length c] w2 (Tkn S E k)) :
    Calls Tryv.prog 19 #[chunkV zs size, .iface 70 rv] w (Cpd S E (cutr (szOf size zs.length) zs).length) := by
  unfold chunkV
  have hcl : (strOfNums zs).size = zs.length := strOfNums_size zs
  generalize hd : szOf size zs.length = d at *
  generalize hC : cutr d zs = C at *
  generalize hN : zs.length = n at *
  have hd1 : (d : Int) + 1 ≤ 9223372036854775807 := by subst hd; unfold szOf; split <;> omega
  have HT := Lib.hid hT
  have HB := Lib.hid hb
  have HC := Lib.hid hC
  have HN := Lib.hid hN
  have H0 := Lib.hid h0
  have hm : ∀ w, (method 208 70 rv "Take").run Tryv.prog w = .ok (69, rv) w := fun _ => by kernel_rfl
  clear hT hb hC hN h0 hd
  have kCHUNKS1 := Tryv.call22
  have kTTAKE := Tryv.call69
  go_enter Tryv.func19, Tryv.ntmps19
  go_wp2_with (go_at_call 22; refine (seq_any (by omega) (by omega)).mono ?_; rintro e w1 ⟨rfl, rfl⟩)
  unfold Tryv.loop
  go_loopw [4, 5, 8] (fun c e lo wr => ∃ k l : Nat, c = .int .i64 k ∧ e = .int .i64 0 ∧ lo = .int .i64 l ∧ l ≤ n ∧ k ≤ l ∧ k ≤ C.length ∧ cutr d (zs.drop l) = C.drop k ∧ S k wr) (fun _ _ l _ => n - (intOf l).toNat)
  case atStart => exact ⟨0, 0, rfl, rfl, rfl, Nat.zero_le _, Nat.le_refl _, Nat.zero_le _, by rw [List.drop_zero, List.drop_zero]; exact HC.out, H0.out⟩
  case round =>
    obtain ⟨k, l, rfl, rfl, rfl, hl, hkl, hkC, hcut, hS⟩ := hrel
    by_cases hlt : l < n
    · have q := cutr_at hcut (by rw [HN.out]; exact hlt)
      have HQ := Lib.hid q
      have HS := Lib.hid hS
      clear q hcut hS
      by_cases hm1 : d + 1 ≤ n - l
      · have hm2 : ¬ (n : Int) - (l : Int) < (d : Int) + 1 := by omega
        have HM := Lib.hid hm1
        obtain ⟨ys, hys⟩ : ∃ ys, ys = (zs.drop l).take (d + 1) := ⟨_, rfl⟩
        have hyl : ys.length = (d + 1) := by rw [hys, List.length_take, List.length_drop, HN.out]; omega
        have hsl : ∀ w, (Instr.sliceAt 9 (.string (strOfNums zs)) (some (.int .i64 (l : Int))) (some (.int .i64 ((l : Int) + ((d : Int) + 1)))) none).run Tryv.prog w = .ok (.string (strOfNums ys)) w := fun w => by
          have h1 := run_slS (s := strOfNums zs) (i := l) (g := l + (d + 1)) (w := w) (by omega) (by rw [hcl]; omega)
          rw [strOfNums_extract, show l + (d + 1) - l = (d + 1) by omega] at h1
          rw [show ((l : Int) + ((d : Int) + 1) : Int) = ((l + (d + 1) : Nat) : Int) by omega, h1]
          have : (zs.drop l).take (d + 1) = ys := by
            rw [hys]
            first
              | done
              | (rw [List.take_of_length_le (by rw [List.length_drop, HN.out]; omega), List.take_of_length_le (by rw [List.length_drop, HN.out]; omega)])
          rw [this]
        have HYS := Lib.hid hys
        have HYL := Lib.hid hyl
        have hyb : ∀ x ∈ ys, 0 ≤ x ∧ x ≤ 255 := fun x hx => HB.out x (by rw [hys] at hx; exact List.drop_subset _ _ (List.take_subset _ _ hx))
        have HYB := Lib.hid hyb
        clear hys hyb hyl
        go_wp2_with (first
          | (at_builtin; refine wpList_appS rfl _ _ rfl HYB.out rfl rfl (by have := HYL.out; omega) ?_; intro A1 c1 w1 hown1 hchg1 hnew1)
          | (go_at_call 69; refine (HT.out k ys _ _ _ _ (by rw [HYS.out]; exact HQ.out.1) HS.out hchg1 hown1 hnew1).mono ?_; rintro e w3 (⟨rfl, hS3⟩ | ⟨rfl, hE3⟩)))
        all_goals (have hkl2 : k < C.length := (List.getElem?_eq_some_iff.1 HQ.out.1).1)
        all_goals first
          | (refine ⟨⟨k + 1, l + (d + 1), by go_num, rfl, by go_num, by omega, by omega, hkl2, HQ.out.2, hS3⟩, ?_⟩
             all_goals (simp [intOf]; omega; done))
          | (go_ret2; exact .inr ⟨k, hkl2, rfl, hE3⟩)
      · have hm2 : (n : Int) - (l : Int) < (d : Int) + 1 := by omega
        have HM := Lib.hid hm1
        obtain ⟨ys, hys⟩ : ∃ ys, ys = (zs.drop l).take (d + 1) := ⟨_, rfl⟩
        have hyl : ys.length = (n - l) := by rw [hys, List.length_take, List.length_drop, HN.out]; omega
        have hsl : ∀ w, (Instr.sliceAt 9 (.string (strOfNums zs)) (some (.int .i64 (l : Int))) (some (.int .i64 ((l : Int) + ((n : Int) - (l : Int))))) none).run Tryv.prog w = .ok (.string (strOfNums ys)) w := fun w => by
          have h1 := run_slS (s := strOfNums zs) (i := l) (g := l + (n - l)) (w := w) (by omega) (by rw [hcl]; omega)
          rw [strOfNums_extract, show l + (n - l) - l = (n - l) by omega] at h1
          rw [show ((l : Int) + ((n : Int) - (l : Int)) : Int) = ((l + (n - l) : Nat) : Int) by omega, h1]
          have : (zs.drop l).take (n - l) = ys := by
            rw [hys]
            first
              | done
              | (rw [List.take_of_length_le (by rw [List.length_drop, HN.out]; omega), List.take_of_length_le (by rw [List.length_drop, HN.out]; omega)])
          rw [this]
        have HYS := Lib.hid hys
        have HYL := Lib.hid hyl
        have hyb : ∀ x ∈ ys, 0 ≤ x ∧ x ≤ 255 := fun x hx => HB.out x (by rw [hys] at hx; exact List.drop_subset _ _ (List.take_subset _ _ hx))
        have HYB := Lib.hid hyb
        clear hys hyb hyl
        go_wp2_with (first
          | (at_builtin; refine wpList_appS rfl _ _ rfl HYB.out rfl rfl (by have := HYL.out; omega) ?_; intro A1 c1 w1 hown1 hchg1 hnew1)
          | (go_at_call 69; refine (HT.out k ys _ _ _ _ (by rw [HYS.out]; exact HQ.out.1) HS.out hchg1 hown1 hnew1).mono ?_; rintro e w3 (⟨rfl, hS3⟩ | ⟨rfl, hE3⟩)))
        all_goals (have hkl2 : k < C.length := (List.getElem?_eq_some_iff.1 HQ.out.1).1)
        all_goals first
          | (refine ⟨⟨k + 1, n, by go_num, rfl, by go_num, Nat.le_refl _, by omega, hkl2, by rw [← HQ.out.2, List.drop_of_length_le (by rw [HN.out]; omega), List.drop_of_length_le (by rw [HN.out]; omega)], hS3⟩, ?_⟩
             all_goals (simp [intOf]; omega; done))
          | (go_ret2; exact .inr ⟨k, hkl2, rfl, hE3⟩)
    · have hk : (C.drop k) = [] := by rw [← hcut, List.drop_of_length_le (by rw [HN.out]; omega), cutr_nil]
      go_wp2
      go_ret2
      have hk2 : k = C.length := by
        have := List.drop_eq_nil_iff.1 hk
        omega
      subst hk2
      exact .inl ⟨rfl, hS⟩

/-- a Bucket, as a sink -/
abbrev snk (g : Nat) : Value := .iface 32 (.pointer (some ⟨g, 0, none⟩))
/-- what a Take of one of two sinks leaves -/
def Tk2 (S : World → Prop) (E : World → Prop) (e : Ending) (w' : World) : Prop := (e = .returned (.int .i64 0) ∧ S w') ∨ (e = .returned (.int .i64 85) ∧ E w')
set_option maxRecDepth 100000 in
set_option maxHeartbeats 3200000 in
theorem ttake_any {r ga gb c m d : Nat} {B : Option Addr} {S : Nat → World → Prop} {E : World → Prop} {w : World} (h0 : S 0 w)
    (hrow : ∀ k w, S k w → w.cell? ⟨r, 0, none⟩ = some (snk ga) ∧ w.cell? ⟨r, 1, none⟩ = some (snk gb))
    (hA : ∀ w, S 0 w → Calls Tryv.prog 15 #[.pointer (some ⟨ga, 0, none⟩), .slice B m d] w (Tk2 (S 1) E))
    (hB : ∀ w, S 1 w → Calls Tryv.prog 15 #[.pointer (some ⟨gb, 0, none⟩), .slice B m d] w (Tk2 (S 2) E)) :
    Calls Tryv.prog 69 #[.slice (some ⟨r, 0, none⟩) 2 c, .slice B m d] w (Tk2 (S 2) E) := by
  have H0 := Lib.hid h0
  have HR := Lib.hid hrow
  have HA := Lib.hid hA
  have HB := Lib.hid hB
  have hm : ∀ v w, (method 208 32 v "Take").run Tryv.prog w = .ok (15, v) w := fun _ _ => by kernel_rfl
  clear h0 hrow hA hB
  have kPTAKE := Tryv.call15
  go_enter Tryv.func69, Try.ntmps69
  go_wp2
  go_loopw [6, 7, 10] (fun s e i wr => ∃ k : Nat, k ≤ 2 ∧ i = .int .i64 k ∧ S k wr) (fun _ _ i _ => 2 - (intOf i).toNat)
  case atStart => exact ⟨0, by omega, rfl, H0.out⟩
  case round =>
    obtain ⟨k, hk, rfl, hS⟩ := hrel
    obtain ⟨c0, c1⟩ := HR.out k _ hS
    have HS := Lib.hid hS
    clear hS
    match k, hk with
    | 0, _ =>
      go_wp2_with (go_at_call 15; refine (HA.out _ HS.out).mono ?_; rintro e w3 (⟨rfl, hS3⟩ | ⟨rfl, hE3⟩))
      all_goals first
        | (refine ⟨⟨1, by omega, rfl, hS3⟩, ?_⟩
           simp [intOf]; done)
        | (go_ret; exact .inr ⟨rfl, hE3⟩)
    | 1, _ =>
      go_wp2_with (go_at_call 15; refine (HB.out _ HS.out).mono ?_; rintro e w3 (⟨rfl, hS3⟩ | ⟨rfl, hE3⟩))
      all_goals first
        | (refine ⟨⟨2, by omega, rfl, hS3⟩, ?_⟩
           simp [intOf]; done)
        | (go_ret; exact .inr ⟨rfl, hE3⟩)
    | 2, _ =>
      go_wp2
      go_ret
      exact .inl ⟨rfl, HS.out⟩
theorem und_sinksV : Tryv.prog.underlying 69 = some (.slice 50) := (Tryv.und _).trans Try.underlying69
theorem etySinks : Ety Tryv.prog 69 50 1 16 .nilIface := .mk' und_sinksV (by kernel_rfl) rfl (by decide)
theorem clonesk_any {ad : Addr} {c ga gb : Nat} {w : World} (hrd : Rd w 1 (some ad) 2 c [snk ga, snk gb]) :
    Calls Tryv.prog 28 #[.slice (some ad) 2 c] w (NewRow 50 1 w [snk ga, snk gb] 2) := by
  have HR := Lib.hid hrd
  clear hrd
  have qT := fun (w : World) => Lib.run_eql_slice_nil (P := Tryv.prog) w 69 50 (some ad) 2 c 0 0 und_sinksV
  go_enter Tryv.func28, Try.ntmps28
  go_wp2_with (at_builtin; refine wpList_app rfl _ _ rfl etySinks rfl (Own.lit w 50 1 #[] 0 (by decide) rfl) rfl (HR.out.chg ((Chg.refl [] w).alloc _) (by simp)) (by simp [Value.oneCell']) (by decide) (by decide) ?_; intro A2 c2 w3 hown4 hchg4 hnew4 _)
  go_ret
  exact ⟨A2, c2, rfl, by simpa using hown4, ((Chg.refl [] w).alloc _).trans hchg4 (by simp), fun k hk => by
    rcases hnew4 k hk with h1 | h1
    · simp at h1; omega
    · have := h1.1; simp at this; omega⟩
/-- Tee of two Buckets -/
theorem tee_any {ad : Addr} {c ga gb : Nat} {w : World} (hrd : Rd w 1 (some ad) 2 c [snk ga, snk gb]) :
    Calls Tryv.prog 20 #[.slice (some ad) 2 c] w fun e w' => ∃ r c', e = .returned (.iface 70 (.slice (some ⟨r, 0, none⟩) 2 c')) ∧ Own w' 50 1 (some ⟨r, 0, none⟩) 2 c' [snk ga, snk gb] ∧ Chg [] w w' ∧ w.heap.size ≤ r := by
  have kCLONESK := Tryv.call28
  go_enter Tryv.func20, Try.ntmps20
  go_wp2_with (go_at_call 28; refine (clonesk_any hrd).mono ?_; rintro e w1 ⟨A1, c1, rfl, hown, hchg, hnew⟩)
  go_ret
  rcases hown.form with ⟨_, h, _⟩ | ⟨g, cur, rfl, hrest⟩
  · cases h
  · exact ⟨g, c1, rfl, hown, hchg, hnew g (by simp)⟩
end Go.Proofs.Ytcdhmnefmbcmaaa.Vw

namespace Go.Proofs.Ytcdhmnefmbcmaaa.Vw
open Go Go.RowKit
/-- how many pieces find room, and the error's number -/
def takeR (room : Int) : List (List Int) → Nat × Int
  | [] => (0, 0)
  | c :: r => if room < c.length then (0, 85) else ((takeR (room - c.length) r).1 + 1, (takeR (room - c.length) r).2)
theorem flat_snoc (C : List (List Int)) (k : Nat) (p : List Int) (h : C[k]? = some p) : (C.take (k + 1)).flatten = (C.take k).flatten ++ p := by
  rw [take_snoc C k p h, List.flatten_append]; simp
theorem flat_le (C : List (List Int)) (k : Nat) : (C.take k).flatten.length ≤ C.flatten.length := by
  conv => rhs; rw [← List.take_append_drop k C, List.flatten_append, List.length_append]
  omega
theorem drop_at {C : List (List Int)} {k : Nat} {p : List Int} (h : C[k]? = some p) : C.drop k = p :: C.drop (k + 1) := by
  have hk : k < C.length := (List.getElem?_eq_some_iff.1 h).1
  rw [List.drop_eq_getElem_cons hk]; congr 1; exact (List.getElem?_eq_some_iff.1 h).2
/-- where a Copy to a Bucket stands: k pieces taken -/
def Upto (room : Int) (C : List (List Int)) (k : Nat) : Prop :=
  takeR room C = ((takeR (room - (C.take k).flatten.length) (C.drop k)).1 + k, (takeR (room - (C.take k).flatten.length) (C.drop k)).2)
theorem Upto.zero (room : Int) (C : List (List Int)) : Upto room C 0 := by unfold Upto; simp
theorem Upto.step {room : Int} {C : List (List Int)} {k : Nat} {p : List Int} (h : Upto room C k) (hp : C[k]? = some p) (hr : ¬ room - (C.take k).flatten.length < p.length) : Upto room C (k + 1) := by
  unfold Upto at h ⊢
  rw [h, drop_at hp, takeR, if_neg hr, flat_snoc C k p hp, List.length_append]
  rw [show room - (((C.take k).flatten.length + p.length : Nat) : Int) = room - (C.take k).flatten.length - p.length by omega]
  ext <;> simp; omega
theorem Upto.full {room : Int} {C : List (List Int)} {k : Nat} {p : List Int} (h : Upto room C k) (hp : C[k]? = some p) (hr : room - (C.take k).flatten.length < p.length) : takeR room C = (k, 85) := by
  unfold Upto at h
  rw [h, drop_at hp, takeR, if_pos hr]; simp
theorem Upto.done {room : Int} {C : List (List Int)} (h : Upto room C C.length) : takeR room C = (C.length, 0) := by
  unfold Upto at h
  rw [h, List.drop_length]; simp [takeR]
/-- a Bucket behind the world w0 -/
def BktN (w0 w : World) (g : Nat) (room : Int) (zs : List Int) (cnt : Int) : Prop :=
  ∃ A, Bkt w g A room zs cnt ∧ Chg [] w0 w ∧ w0.heap.size ≤ g ∧ ∀ k ∈ bo A, w0.heap.size ≤ k
theorem Bkt.lt {w : World} {g : Nat} {A : Option Addr} {room : Int} {zs : List Int} {cnt : Int} (h : Bkt w g A room zs cnt) : ∀ k ∈ g :: bo A, k < w.heap.size := by
  obtain ⟨t, n, c, hb, ho, _, _⟩ := h
  intro k hk
  rcases List.mem_cons.1 hk with rfl | hk
  · exact hb.lt
  · exact ho.lt k hk
theorem RBkt.lt {w : World} {g : Nat} {A : Option Addr} {room : Int} {zs : List Int} {cnt : Int} (h : RBkt w g A room zs cnt) : ∀ k ∈ g :: bo A, k < w.heap.size := by
  obtain ⟨t, n, c, hb, ho, _, _⟩ := h
  intro k hk
  rcases List.mem_cons.1 hk with rfl | hk
  · exact hb.lt
  · exact ho.lt k hk
theorem Bkt.new (w : World) (room : Int) (t : TypeId) : Bkt (w.alloc (.cells #[.int .i64 room, .slice none 0 0, .int .i64 0] t)) w.heap.size none room [] 0 :=
  ⟨t, 0, 0, Blk.new w t _, Own.nil _ _ _, by simp, rfl⟩
theorem RBkt.new (w : World) (room : Int) (t : TypeId) : RBkt (w.alloc (.cells #[.int .i64 room, .int .i64 0, .slice none 0 0] t)) w.heap.size none room [] 0 :=
  ⟨t, 0, 0, Blk.new w t _, Own.nil _ _ _, by simp, rfl⟩
/-- a Copy to a new Bucket -/
theorem copyBucket {zs : List Int} {size room : Int} {g : Nat} {w0 w : World} (hb : ∀ x ∈ zs, 0 ≤ x ∧ x ≤ 255) (hn : zs.length ≤ 1073741824) (hs : size ≤ 9223372036854775807) (hr0 : 0 ≤ room) (hr1 : room ≤ 9223372036854775807)
    (h0 : BktN w0 w g room [] 0) :
    Calls Tryv.prog 19 #[chunkV zs size, snk g] w fun e w' => ∃ n c, takeR room (cutr (szOf size zs.length) zs) = (n, c) ∧ e = .returned (.tuple #[.int .i64 (n : Int), .int .i64 c]) ∧ BktN w0 w' g room ((cutr (szOf size zs.length) zs).take n).flatten n := by
  have hflat := cutr_flat (szOf size zs.length) _ zs rfl
  have hpos := cutr_pos (szOf size zs.length) _ zs rfl
  generalize hC : cutr (szOf size zs.length) zs = C at *
  have hfl : ∀ k, (C.take k).flatten.length ≤ 1073741824 := fun k => Nat.le_trans (flat_le C k) (by rw [hflat]; exact hn)
  have hcl : C.length ≤ C.flatten.length := by
    have : ∀ D : List (List Int), (∀ p ∈ D, 0 < p.length) → D.length ≤ D.flatten.length := by
      intro D
      induction D with
      | nil => intro _; simp
      | cons a r ih => intro h; have := ih (fun p hp => h p (List.mem_cons_of_mem _ hp)); have := h a (List.mem_cons_self); rw [List.flatten_cons, List.length_append, List.length_cons]; omega
    exact this C (fun p hp => (hpos p hp).1)
  have hcl2 : C.length ≤ 1073741824 := by rw [hflat] at hcl; omega
  refine (copyB_any (rv := .pointer (some ⟨g, 0, none⟩)) (S := fun k w => k ≤ C.length ∧ Upto room C k ∧ BktN w0 w g room (C.take k).flatten k)
    (E := fun k w => takeR room C = (k, 85) ∧ BktN w0 w g room (C.take k).flatten k) hb hn hs ⟨Nat.zero_le _, Upto.zero _ _, by simpa using h0⟩ ?_).mono ?_
  · rw [hC]
    rintro k p wr w2 A c hp ⟨hk, hu, A0, hbk, hch, hg, hA0⟩ hc2 hown hnew
    have hk2 : k < C.length := (List.getElem?_eq_some_iff.1 hp).1
    have hpl : p.length ≤ zs.length := (hpos p (List.mem_of_getElem? hp)).2
    have hbk2 := hbk.chg hc2 (by simp)
    refine (take_any hbk2 hown.rd hr0 hr1 (hfl k) (by omega) (by omega) (by omega)).mono ?_
    rintro e w' (⟨h1, rfl, h2⟩ | ⟨h1, rfl, A', h2, h3, h4⟩)
    · exact .inr ⟨rfl, hu.full hp h1, A0, hbk2.chg h2 (by simp), (hch.trans0 hc2).trans0 h2, hg, hA0⟩
    · refine .inl ⟨rfl, by omega, hu.step hp h1, A', ?_, (hch.trans0 hc2).trans h3 (fun x hx => ?_), hg, ?_⟩
      · rw [flat_snoc C k p hp]; simpa using h2
      · rcases List.mem_cons.1 hx with rfl | hx
        · exact .inr hg
        · exact .inr (hA0 x hx)
      · intro x hx
        rcases h4 x hx with h | h
        · exact hA0 x h
        · have := hch.size; have := hc2.size; omega
  · rw [hC]
    rintro e w' (⟨rfl, h1, h2, h3⟩ | ⟨k, hk, rfl, h1, h2⟩)
    · exact ⟨C.length, 0, h2.done, rfl, h3⟩
    · exact ⟨k, 85, h1, rfl, h2⟩
theorem bytes_bkt {g : Nat} {A : Option Addr} {room cnt : Int} {zs : List Int} {w : World} (h : Bkt w g A room zs cnt) (hn : zs.length ≤ 1073741824) :
    Calls Tryv.prog 17 #[.pointer (some ⟨g, 0, none⟩)] w (NewRow 5 1 w (bv zs) zs.length) := by
  obtain ⟨t, n, c, hb, ho, _, rfl⟩ := h
  exact bytes_any (by have := hb.cell 1; simpa using this) hn ho.rd
theorem count_bkt {g : Nat} {A : Option Addr} {room cnt : Int} {zs : List Int} {w : World} (h : Bkt w g A room zs cnt) : Calls Tryv.prog 18 #[.pointer (some ⟨g, 0, none⟩)] w fun e w' => e = .returned (.int .i64 cnt) ∧ w' = w := by
  obtain ⟨t, n, c, hb, ho, _, rfl⟩ := h
  exact count_any (by have := hb.cell 2; simpa using this)
theorem BktN.chg {w0 w w' : World} {g : Nat} {room : Int} {zs : List Int} {cnt : Int} (h : BktN w0 w g room zs cnt) (hc : Chg [] w w') : BktN w0 w' g room zs cnt := by
  obtain ⟨A, h1, h2, h3, h4⟩ := h
  exact ⟨A, h1.chg hc (by simp), h2.trans0 hc, h3, h4⟩
theorem bytes_bktN {g : Nat} {room cnt : Int} {zs : List Int} {w0 w : World} (h : BktN w0 w g room zs cnt) (hn : zs.length ≤ 1073741824) :
    Calls Tryv.prog 17 #[.pointer (some ⟨g, 0, none⟩)] w (NewRow 5 1 w (bv zs) zs.length) := by
  obtain ⟨A, h1, _⟩ := h
  exact bytes_bkt h1 hn
theorem count_bktN {g : Nat} {room cnt : Int} {zs : List Int} {w0 w : World} (h : BktN w0 w g room zs cnt) : Calls Tryv.prog 18 #[.pointer (some ⟨g, 0, none⟩)] w fun e w' => e = .returned (.int .i64 cnt) ∧ w' = w := by
  obtain ⟨A, h1, _⟩ := h
  exact count_bkt h1
theorem BktN.new (w : World) (room : Int) (t : TypeId) : BktN w (w.alloc (.cells #[.int .i64 room, .slice none 0 0, .int .i64 0] t)) w.heap.size room [] 0 :=
  ⟨none, Bkt.new w room t, (Chg.refl [] w).alloc _, Nat.le_refl _, by simp⟩
theorem lit_rd (w : World) (zs : List Int) (g : Nat) (hg : g = w.heap.size) (hl : zs.length ≤ 1073741824) : Rd (w.alloc (.cells (bv zs).toArray 5)) 1 (some ⟨g, 0, none⟩) zs.length zs.length (bv zs) := by
  subst hg
  have := (Own.lit w 5 1 (bv zs).toArray zs.length (by unfold maxLen; omega) (by simp)).rd
  simpa using this
theorem cut5 : cutr (szOf 2 5) [1, 2, 3, 4, 5] = [[1, 2], [3, 4], [5]] := by
  rw [show szOf 2 5 = 1 from rfl, cutr_cut _ _ (by decide)]
  simp only [List.take, List.drop]
  rw [cutr_cut _ _ (by decide)]
  simp only [List.take, List.drop]
  rw [cutr_cut _ _ (by decide)]
  simp only [List.take, List.drop]
  rw [cutr_nil]
theorem copy5 {g : Nat} {w0 w : World} (h0 : BktN w0 w g 4 [] 0) : Calls Tryv.prog 19 #[chunkV [1, 2, 3, 4, 5] 2, snk g] w fun e w' => e = .returned (.tuple #[.int .i64 2, .int .i64 85]) ∧ BktN w0 w' g 4 [1, 2, 3, 4] 2 := by
  refine (copyBucket (zs := [1, 2, 3, 4, 5]) (size := 2) (by decide) (by decide) (by decide) (by decide) (by decide) h0).mono ?_
  rintro e w' ⟨n, c, h1, h2, h3⟩
  rw [show ([1, 2, 3, 4, 5] : List Int).length = 5 from rfl, cut5] at h1 h3
  have h4 : takeR 4 [[1, 2], [3, 4], [5]] = (2, 85) := by simp [takeR]
  rw [h4] at h1
  cases h1
  exact ⟨h2, h3⟩
set_option maxRecDepth 100000 in
set_option maxHeartbeats 3200000 in
/-- speaks: it says yes -/
theorem speaks_any {w : World} : Calls Tryv.prog 11 #[] w fun e w' => e = .returned (.bool true) ∧ Chg [] w w' := by
  have h5 : ∀ x ∈ ([1, 2, 3, 4, 5] : List Int), 0 ≤ x ∧ x ≤ 255 := by decide
  have H5 := Lib.hid h5
  clear h5
  have kPBYTES := Tryv.call17
  have kPCHUNKS := Tryv.call9
  have kPCOPY := Tryv.call19
  have kPCOUNT := Tryv.call18
  have kPNEWB := Tryv.call13
  have kSAME27 := Tryv.call10
  go_enter Tryv.func11, Try.ntmps11
  go_wp2_with (first
    | (go_at_call 13; refine (newb_any 4 _).mono ?_; rintro e w1 ⟨t, rfl, rfl⟩)
    | (go_at_call 9; refine (chunks_any (zs := [1, 2, 3, 4, 5]) (by decide) (lit_rd _ [1, 2, 3, 4, 5] _ (by simp) (by decide)) H5.out (by decide)).mono ?_; rintro e w2 ⟨rfl, rfl⟩)
    | (go_at_call 19; refine (copy5 (w0 := w) ((BktN.new w 4 t).chg ((Chg.refl [] _).alloc _))).mono ?_; rintro e w3 ⟨rfl, hbk⟩; have HK := Lib.hid hbk; clear hbk)
    | (go_at_call 17; refine (bytes_bktN HK.out (by decide)).mono ?_; rintro e w4 ⟨A4, c4, rfl, hown4, hchg4, hnew4⟩; have HK4 := Lib.hid (HK.out.chg hchg4); have HO4 := Lib.hid hown4; clear hown4 hchg4 hnew4)
    | (go_at_call 10; refine (same_any (xs := [1, 2, 3, 4]) (ys := [1, 2, 3, 4]) (HO4.out.rd.chg ((Chg.refl [] _).alloc _) (by simp)) (lit_rd _ [1, 2, 3, 4] _ (by simp) (by decide))).mono ?_; rintro e w5 ⟨rfl, rfl⟩; rw [beq_self_eq_true])
    | (go_at_call 18; refine (count_bktN (HK4.out.chg ((Chg.refl [] _).alloc _))).mono ?_; rintro e w6 ⟨rfl, rfl⟩))
  go_ret
  obtain ⟨_, _, hc, _⟩ := HK4.out
  exact ⟨rfl, hc.alloc _⟩
end Go.Proofs.Ytcdhmnefmbcmaaa.Vw
