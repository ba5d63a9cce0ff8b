/-
  The document's Spool: After; and that it is what the program's is (aft).
-/
import Derived.Test.YtiipgfhogkeeoaaRfB
namespace Go.Proofs.Ytiipgfhogkeeoaa
open Go.RowKit

def rout (out : List Int) : List (List Int) → List Bool → List Int
  | [], _ => out
  | x :: r, ks => rout (out ++ if ks.headD false then x else List.replicate x.length 0) r ks.tail
def rend (at' e : Nat) : List (List Int) → List Bool → Nat
  | [], _ => e
  | x :: r, ks => rend (at' + x.length) (if ks.headD false then at' + x.length else e) r ks.tail

theorem rout_snoc (out : List Int) (ws : List (List Int)) (x : List Int) (ks : List Bool) :
    rout out (ws ++ [x]) ks = rout out ws ks ++ if ks[ws.length]?.getD false then x else List.replicate x.length 0 := by
  induction ws generalizing out ks with
  | nil => cases ks <;> simp [rout]
  | cons y r ih =>
    simp only [List.cons_append, rout, ih]
    cases ks with
    | nil => simp
    | cons k ks => simp only [List.tail_cons, List.length_cons, List.getElem?_cons_succ]; rfl
theorem rend_snoc (a e : Nat) (ws : List (List Int)) (x : List Int) (ks : List Bool) :
    rend a e (ws ++ [x]) ks = if ks[ws.length]?.getD false then a + ws.flatten.length + x.length else rend a e ws ks := by
  induction ws generalizing a e ks with
  | nil => cases ks <;> simp [rend]
  | cons y r ih =>
    simp only [List.cons_append, rend, ih]
    cases ks with
    | nil => simp
    | cons k ks => simp [Nat.add_assoc]
theorem rout_length (out : List Int) (ws : List (List Int)) (ks : List Bool) : (rout out ws ks).length = out.length + ws.flatten.length := by
  induction ws generalizing out ks with
  | nil => simp [rout]
  | cons y r ih =>
    simp only [rout, ih, List.flatten_cons, List.length_append]
    split <;> simp <;> omega
theorem rend_le (a e : Nat) (ws : List (List Int)) (ks : List Bool) (h : e ≤ a) : rend a e ws ks ≤ a + ws.flatten.length := by
  induction ws generalizing a e ks with
  | nil => simpa [rend] using h
  | cons y r ih =>
    simp only [rend, List.flatten_cons, List.length_append]
    have : (if ks.headD false then a + y.length else e) ≤ a + y.length := by split <;> omega
    have := ih _ _ ks.tail this
    omega

/-- the program's After is the document's -/
theorem aft_eq (ws : List (List Int)) : ∀ (R : List Int) (E : Nat) (ks : List Bool), E ≤ R.length → R.drop E = List.replicate (R.length - E) 0 →
    aft (R.take E) R.length ws ks = (rout R ws ks).take (rend R.length E ws ks) := by
  induction ws with
  | nil => intro R E ks _ _; rfl
  | cons x r ih =>
    intro R E ks hE hz
    simp only [aft, rout, rend]
    cases hk : ks.headD false with
    | true =>
      have hR : R.take E ++ List.replicate (R.length - (R.take E).length) 0 ++ x = R ++ x := by
        rw [List.length_take, Nat.min_eq_left hE, ← hz, List.take_append_drop]
      have := ih (R ++ x) (R ++ x).length ks.tail (Nat.le_refl _) (by simp)
      rw [List.take_length] at this
      simp only [if_true, hR]
      rw [List.length_append] at this
      exact this
    | false =>
      have := ih (R ++ List.replicate x.length 0) E ks.tail (by simp; omega) (by
        rw [List.drop_append_of_le_length hE, hz, List.replicate_append_replicate]
        congr 1; simp; omega)
      rw [List.take_append_of_le_length hE, List.length_append, List.length_replicate] at this
      simpa using this
theorem aft_ref (base : List Int) (ws : List (List Int)) (ks : List Bool) : aft base base.length ws ks = (rout base ws ks).take (rend base.length base.length ws ks) := by
  have := aft_eq ws base base.length ks (Nat.le_refl _) (by simp)
  rwa [List.take_length] at this

set_option maxHeartbeats 3200000 in
theorem rafter_any (g : Nat) (L : List Nat) (base : List Int) (ws : List (List Int)) (K : Option Addr) (kn kc : Nat) (ks : List Bool) (w : World) (h : Rsp w g L base ws) (hlen : base.length + ws.flatten.length ≤ 1073741824)
    (hwl : ws.length ≤ 1073741824) (hkn : kn ≤ 1073741824) (hkd : Rd w 1 K kn kc (kv ks)) (N0 : Nat) (hN0 : (aft base base.length ws ks).length = N0) :
    Calls Try.prog 19 #[.pointer (some ⟨g, 0, none⟩), .slice K kn kc] w (NewRow 5 1 w (bv (aft base base.length ws ks)) N0) := by
  obtain ⟨A, n, c, W, m, dm, vs, hb, h1, h2, h3, h4, h5, h6, h7, h8, h9⟩ := h
  have n63 : n ≤ 1073741824 := by omega
  have m63 : m ≤ 1073741824 := by omega
  have hkl : ks.length = kn := by have := hkd.1; simp at this; omega
  have HO := Lib.hid h1
  have HM := Lib.hid h2
  have HI := Lib.hid h3
  have HE := Lib.hid (show n = base.length ∧ m = ws.length ∧ ks.length = kn ∧ (aft base base.length ws ks).length = N0 from ⟨h8, h9, hkl, hN0⟩)
  have HB := Lib.hid hb
  have HL := Lib.hid hlen
  have HK := Lib.hid hkd
  have c0 := hb.cell 0
  simp at c0
  clear h1 h2 h3 h4 h5 h6 h7 h8 h9 hb hwl hlen hkd hkl hN0
  go_enter Try.func19, Try.ntmps19
  go_wp2_with (go_at_call 9; refine (copy_any A n c base _ n63 HO.out.rd).mono ?_; rintro e w1 ⟨A1, c1, rfl, hown, hchg, hnew⟩)
  obtain ⟨hn, hm, hkl, hN0⟩ := HE.out
  clear c0
  go_loopw [5, 6, 7, 8] (fun o t e q wr => ∃ (i T E : Nat) (A' : Option Addr) (c' : Nat), i ≤ m ∧ o = .slice A' T c' ∧ t = .int .i64 T ∧ e = .int .i64 E ∧ q = .int .i64 i ∧ T = base.length + (ws.take i).flatten.length ∧ E = rend base.length base.length (ws.take i) ks ∧
    Own wr 5 1 A' T c' (bv (rout base (ws.take i) ks)) ∧ Chg [] w wr ∧ (∀ k ∈ bo A', w.heap.size ≤ k)) (fun _ _ _ q _ => m - (intOf q).toNat)
  case atStart => exact ⟨0, n, n, A1, c1, Nat.zero_le _, rfl, rfl, rfl, rfl, by simp [hn], by simp [rend, hn], by simpa [rout] using hown, hchg, hnew⟩
  case round =>
    obtain ⟨i, T, E, A', c', hi, rfl, rfl, rfl, rfl, hT, hE, hown, hchg, hnew⟩ := hrel
    have HT := Lib.hid (show T = base.length + (ws.take i).flatten.length ∧ E = rend base.length base.length (ws.take i) ks from ⟨hT, hE⟩)
    have HW := Lib.hid hnew
    have HG := Lib.hid (show n = base.length ∧ m = ws.length ∧ ks.length = kn ∧ (aft base base.length ws ks).length = N0 from ⟨hn, hm, hkl, hN0⟩)
    have hb1 := HB.out.chg hchg (by simp)
    have c1' := hb1.cell 1
    simp at c1'
    by_cases hlt : i < m
    · obtain ⟨x, hx⟩ : ∃ x, ws[i]? = some x := ⟨_, List.getElem?_eq_getElem (by omega)⟩
      have hfl := take_flat ws i x hx
      have hle := take_flat_le ws (i + 1)
      rw [hfl, List.length_append] at hle
      have q1 : T + x.length ≤ 1073741824 := by have := HL.out; omega
      have HX := Lib.hid hx
      have hil : (ws.take i).length = i := by rw [List.length_take]; omega
      have HIL := Lib.hid hil
      clear hx hfl hle hnew hn hm hT hE hkl hN0 hil
      obtain ⟨wo, hwo⟩ : ∃ wo : World, wo = wr := ⟨_, rfl⟩
      subst hwo
      have HC := Lib.hid hchg
      clear hchg
      have inner : ∀ (b : Bool) (row : List Int), row = (if b then x else List.replicate x.length 0) → row.length = x.length := by
        intro b row hr; subst hr; cases b <;> simp
      have closing : ∀ (b : Bool), ks[i]?.getD false = b → ∀ (A2 : Option Addr) (c2 : Nat) (w2 : World), Own w2 5 1 A2 (T + x.length) c2 (bv (rout base (ws.take i) ks ++ (if b then x else List.replicate x.length 0))) → Chg [] w w2 → (∀ k ∈ bo A2, w.heap.size ≤ k) →
          T + x.length = base.length + (ws.take (i + 1)).flatten.length ∧ (if b then T + x.length else E) = rend base.length base.length (ws.take (i + 1)) ks ∧ Own w2 5 1 A2 (T + x.length) c2 (bv (rout base (ws.take (i + 1)) ks)) := by
        intro b hb A2 c2 w2 ho _ _
        obtain ⟨hT, hE⟩ := HT.out
        rw [take_snoc ws i x HX.out, flat_snoc, rout_snoc, rend_snoc, HIL.out, hb]
        refine ⟨by omega, ?_, ho⟩
        cases b
        · rw [if_neg (by decide), if_neg (by decide)]; exact hE
        · rw [if_pos rfl, if_pos rfl]; omega
      have HCL := Lib.hid closing
      clear inner closing
      by_cases hki : i < kn
      · obtain ⟨kd, b, rfl, hkb, hck⟩ := rd_bool (HK.out.chg HC.out (by simp)) hki
        have HKB : Hid (ks[i]?.getD false = b) := Lib.hid (by rw [hkb]; rfl)
        clear hkb
        cases b with
        | true =>
          go_wp2
          go_loopw [5, 6, 10] (fun o t q wr => ∃ (k : Nat) (A2 : Option Addr) (c2 : Nat), k ≤ x.length ∧ o = .slice A2 (T + k) c2 ∧ t = .int .i64 ((T + k : Nat) : Int) ∧ q = .int .i64 k ∧
            Own wr 5 1 A2 (T + k) c2 (bv (rout base (ws.take i) ks ++ x.take k)) ∧ Chg [] w wr ∧ (∀ k ∈ bo A2, w.heap.size ≤ k)) (fun _ _ q _ => x.length - (intOf q).toNat)
          case atStart => exact ⟨0, A', c', Nat.zero_le _, rfl, rfl, rfl, by simpa using hown, HC.out, HW.out⟩
          case round =>
            obtain ⟨k, A2, c2, hk, rfl, rfl, rfl, hown2, hchg, hnew⟩ := hrel
            have HW2 := Lib.hid hnew
            clear hnew
            have hb2 := HB.out.chg hchg (by simp)
            have e1 := hb2.cell 1
            simp at e1
            obtain ⟨ad, Ai, ci, rfl, hci, hri⟩ := ((HI.out).chg hchg (by simp)).at_ (HM.out.chg hchg (by simp)) HX.out
            by_cases hkx : k < x.length
            · obtain ⟨bd, y, rfl, hy, hcy⟩ := rd_byte hri hkx
              have HY := Lib.hid hy
              have HRI := Lib.hid hri
              clear hri hy
              go_wp2_with (at_builtin; refine wpList_app rfl _ _ rfl etyBytes rfl (hown2.chg ((Chg.refl [] wr).alloc _) (by simp)) rfl (Own.lit wr 5 1 #[.int .u8 y] 1 (by decide) rfl).rd (one_int _ _) (by unfold maxLen; omega) (by omega) ?_; intro A3 c3 w3 hown3 hchg3 hnew3 _)
              go_roundw
              case rel =>
                refine ⟨k + 1, A3, c3, by omega, rfl, by go_num, by go_num, ?_, (hchg.alloc _).trans hchg3 (fun y hy => .inr (HW2.out y hy)), fun y hy => ?_⟩
                · rw [take_snoc x k y (HY.out)]
                  simpa [List.append_assoc, Nat.add_assoc] using hown3
                · rcases hnew3 y hy with h1 | h1
                  · exact HW2.out y h1
                  · have h2 := hchg.size; simp at h1; omega
              case measure => simp [intOf]; omega
            · have HRI := Lib.hid hri
              clear hri
              go_wp2
              go_roundw
              case rel =>
                have hkk : k = x.length := by omega
                subst hkk
                rw [List.take_of_length_le (l := x) (i := x.length) (by simp)] at hown2
                obtain ⟨z1, z2, z3⟩ := HCL.out true HKB.out A2 c2 _ hown2 hchg HW2.out
                exact ⟨i + 1, T + x.length, T + x.length, A2, c2, by omega, rfl, rfl, rfl, by go_num, z1, z2, z3, hchg, HW2.out⟩
              case measure => simp [intOf]; omega
        | false =>
          go_wp2
          go_loopw [5, 6, 10] (fun o t q wr => ∃ (k : Nat) (A2 : Option Addr) (c2 : Nat), k ≤ x.length ∧ o = .slice A2 (T + k) c2 ∧ t = .int .i64 ((T + k : Nat) : Int) ∧ q = .int .i64 k ∧
            Own wr 5 1 A2 (T + k) c2 (bv (rout base (ws.take i) ks ++ (List.replicate x.length (0 : Int)).take k)) ∧ Chg [] w wr ∧ (∀ k ∈ bo A2, w.heap.size ≤ k)) (fun _ _ q _ => x.length - (intOf q).toNat)
          case atStart => exact ⟨0, A', c', Nat.zero_le _, rfl, rfl, rfl, by simpa using hown, HC.out, HW.out⟩
          case round =>
            obtain ⟨k, A2, c2, hk, rfl, rfl, rfl, hown2, hchg, hnew⟩ := hrel
            have HW2 := Lib.hid hnew
            clear hnew
            have hb2 := HB.out.chg hchg (by simp)
            have e1 := hb2.cell 1
            simp at e1
            obtain ⟨ad, Ai, ci, rfl, hci, hri⟩ := ((HI.out).chg hchg (by simp)).at_ (HM.out.chg hchg (by simp)) HX.out
            by_cases hkx : k < x.length
            · obtain ⟨bd, y, rfl, hy, hcy⟩ := rd_byte hri hkx
              have HY := Lib.hid hy
              have HRI := Lib.hid hri
              clear hri hy
              go_wp2_with (at_builtin; refine wpList_app rfl _ _ rfl etyBytes rfl (hown2.chg ((Chg.refl [] wr).alloc _) (by simp)) rfl (Own.lit wr 5 1 #[.int .u8 0] 1 (by decide) rfl).rd (one_int _ _) (by unfold maxLen; omega) (by omega) ?_; intro A3 c3 w3 hown3 hchg3 hnew3 _)
              go_roundw
              case rel =>
                refine ⟨k + 1, A3, c3, by omega, rfl, by go_num, by go_num, ?_, (hchg.alloc _).trans hchg3 (fun y hy => .inr (HW2.out y hy)), fun y hy => ?_⟩
                · rw [take_snoc (List.replicate x.length (0 : Int)) k 0 (by simp [hkx])]
                  simpa [List.append_assoc, Nat.add_assoc] using hown3
                · rcases hnew3 y hy with h1 | h1
                  · exact HW2.out y h1
                  · have h2 := hchg.size; simp at h1; omega
              case measure => simp [intOf]; omega
            · have HRI := Lib.hid hri
              clear hri
              go_wp2
              go_roundw
              case rel =>
                have hkk : k = x.length := by omega
                subst hkk
                rw [List.take_of_length_le (l := (List.replicate x.length (0 : Int))) (i := x.length) (by simp)] at hown2
                obtain ⟨z1, z2, z3⟩ := HCL.out false HKB.out A2 c2 _ hown2 hchg HW2.out
                exact ⟨i + 1, T + x.length, E, A2, c2, by omega, rfl, rfl, rfl, by go_num, z1, z2, z3, hchg, HW2.out⟩
              case measure => simp [intOf]; omega
      · have HKB : Hid (ks[i]?.getD false = false) := Lib.hid (by rw [List.getElem?_eq_none (by have := HG.out.2.2.1; omega)]; rfl)
        go_wp2
        go_loopw [5, 6, 10] (fun o t q wr => ∃ (k : Nat) (A2 : Option Addr) (c2 : Nat), k ≤ x.length ∧ o = .slice A2 (T + k) c2 ∧ t = .int .i64 ((T + k : Nat) : Int) ∧ q = .int .i64 k ∧
          Own wr 5 1 A2 (T + k) c2 (bv (rout base (ws.take i) ks ++ (List.replicate x.length (0 : Int)).take k)) ∧ Chg [] w wr ∧ (∀ k ∈ bo A2, w.heap.size ≤ k)) (fun _ _ q _ => x.length - (intOf q).toNat)
        case atStart => exact ⟨0, A', c', Nat.zero_le _, rfl, rfl, rfl, by simpa using hown, HC.out, HW.out⟩
        case round =>
          obtain ⟨k, A2, c2, hk, rfl, rfl, rfl, hown2, hchg, hnew⟩ := hrel
          have HW2 := Lib.hid hnew
          clear hnew
          have hb2 := HB.out.chg hchg (by simp)
          have e1 := hb2.cell 1
          simp at e1
          obtain ⟨ad, Ai, ci, rfl, hci, hri⟩ := ((HI.out).chg hchg (by simp)).at_ (HM.out.chg hchg (by simp)) HX.out
          by_cases hkx : k < x.length
          · obtain ⟨bd, y, rfl, hy, hcy⟩ := rd_byte hri hkx
            have HY := Lib.hid hy
            have HRI := Lib.hid hri
            clear hri hy
            go_wp2_with (at_builtin; refine wpList_app rfl _ _ rfl etyBytes rfl (hown2.chg ((Chg.refl [] wr).alloc _) (by simp)) rfl (Own.lit wr 5 1 #[.int .u8 0] 1 (by decide) rfl).rd (one_int _ _) (by unfold maxLen; omega) (by omega) ?_; intro A3 c3 w3 hown3 hchg3 hnew3 _)
            go_roundw
            case rel =>
              refine ⟨k + 1, A3, c3, by omega, rfl, by go_num, by go_num, ?_, (hchg.alloc _).trans hchg3 (fun y hy => .inr (HW2.out y hy)), fun y hy => ?_⟩
              · rw [take_snoc (List.replicate x.length (0 : Int)) k 0 (by simp [hkx])]
                simpa [List.append_assoc, Nat.add_assoc] using hown3
              · rcases hnew3 y hy with h1 | h1
                · exact HW2.out y h1
                · have h2 := hchg.size; simp at h1; omega
            case measure => simp [intOf]; omega
          · have HRI := Lib.hid hri
            clear hri
            go_wp2
            go_roundw
            case rel =>
              have hkk : k = x.length := by omega
              subst hkk
              rw [List.take_of_length_le (l := (List.replicate x.length (0 : Int))) (i := x.length) (by simp)] at hown2
              obtain ⟨z1, z2, z3⟩ := HCL.out false HKB.out A2 c2 _ hown2 hchg HW2.out
              exact ⟨i + 1, T + x.length, E, A2, c2, by omega, rfl, rfl, rfl, by go_num, z1, z2, z3, hchg, HW2.out⟩
            case measure => simp [intOf]; omega
    · have q5 : E ≤ T := by
        have := rend_le base.length base.length (ws.take i) ks (Nat.le_refl _)
        omega
      have q6 := hown.rd.2.1
      have him : ws.take i = ws := List.take_of_length_le (by omega)
      have HO5 : Hid (Own wr 5 1 A' T c' (bv (rout base ws ks)) ∧ E = rend base.length base.length ws ks) := Lib.hid (by rw [him] at hown hE; exact ⟨hown, hE⟩)
      clear hn hm hT hE hkl hN0 him hown hnew
      go_wp2
      go_ret
      obtain ⟨ho, hE⟩ := HO5.out
      have h0 := HG.out.2.2.2
      have hr := ho.cut q5
      rw [aft_ref] at h0 ⊢
      rw [Nat.mul_one, hE, ← List.map_take] at hr
      have hEN : rend base.length base.length ws ks = N0 := by
        rw [← h0, List.length_take, ← hE]
        have := ho.1
        simp at this
        omega
      rw [hEN] at hr ⊢
      have hEE : E = N0 := by omega
      subst hEE
      exact ⟨A', c', rfl, hr, hchg, HW.out⟩
end Go.Proofs.Ytiipgfhogkeeoaa
