/-
  The document's Spool (satchelref07): New, Append, Seen, Sync: contracts.
  The document's Spool: Seen, Sync: contracts.
  The document's Spool: After; and that it is what the program's is (aft).
-/
import Derived.Test.YtgomofeidghmiaaSpJ
import Derived.Deep.RegionHeld3
namespace Go.Proofs.Ytgomofeidghmiaa
open Go.RowKit

theorem etyBytess : Ety Try.prog 124 39 1 24 (.slice none 0 0) := .mk' Try.underlying124 (by kernel_rfl) rfl (by decide)

/-- each of the rows is owned and reads as its list; all their blocks are in L -/
def Inn (w : World) (L : List Nat) (vs : List Value) (ws : List (List Int)) : Prop :=
  vs.length = ws.length ∧ ∀ (i : Nat) (x : List Int), ws[i]? = some x → ∃ A c, vs[i]? = some (.slice A x.length c) ∧ Own w 5 1 A x.length c (bv x) ∧ ∀ k ∈ bo A, k ∈ L

theorem Inn.chg {w w' : World} {L M : List Nat} {vs : List Value} {ws : List (List Int)} (h : Inn w L vs ws) (hc : Chg M w w') (hn : ∀ k ∈ L, k ∈ M → ∃ t cs, Blk w k t cs ∧ t ≠ 5) : Inn w' L vs ws :=
  ⟨h.1, fun i x hx => by
    obtain ⟨A, c, h1, h2, h3⟩ := h.2 i x hx
    refine ⟨A, c, h1, h2.chg hc (fun k hk hm => ?_), h3⟩
    obtain ⟨t, cs, hb, ht⟩ := hn k (h3 k hk) hm
    exact h2.blk_ne hb ht k hk rfl⟩
theorem Inn.mono {w : World} {L M : List Nat} {vs : List Value} {ws : List (List Int)} (h : Inn w L vs ws) (hs : ∀ k ∈ L, k ∈ M) : Inn w M vs ws :=
  ⟨h.1, fun i x hx => by obtain ⟨A, c, h1, h2, h3⟩ := h.2 i x hx; exact ⟨A, c, h1, h2, fun k hk => hs k (h3 k hk)⟩⟩
theorem Inn.snoc {w : World} {L : List Nat} {vs : List Value} {ws : List (List Int)} {A : Option Addr} {c : Nat} {x : List Int} (h : Inn w L vs ws) (ho : Own w 5 1 A x.length c (bv x)) (hk : ∀ k ∈ bo A, k ∈ L) :
    Inn w L (vs ++ [.slice A x.length c]) (ws ++ [x]) := by
  refine ⟨by simp [h.1], fun i y hy => ?_⟩
  by_cases hi : i < ws.length
  · rw [List.getElem?_append_left hi] at hy
    obtain ⟨A', c', h1, h2, h3⟩ := h.2 i y hy
    exact ⟨A', c', by rw [List.getElem?_append_left (by rw [h.1]; exact hi)]; exact h1, h2, h3⟩
  · rw [List.getElem?_append_right (by omega)] at hy
    by_cases h0 : i - ws.length = 0
    · rw [h0] at hy
      simp at hy
      subst hy
      refine ⟨A, c, ?_, ho, hk⟩
      rw [List.getElem?_append_right (by rw [h.1]; omega), h.1, h0]
      rfl
    · rw [List.getElem?_eq_none (by simp; omega)] at hy
      cases hy

/-- the document's Spool in block g; its blocks are in L -/
def Rsp (w : World) (g : Nat) (L : List Nat) (base : List Int) (ws : List (List Int)) : Prop :=
  ∃ A n c W m d vs, Blk w g 126 #[.slice A n c, .slice W m d] ∧ Own w 5 1 A n c (bv base) ∧ Own w 39 1 W m d vs ∧ Inn w L vs ws ∧
    g ∈ L ∧ (∀ k ∈ bo A, k ∈ L) ∧ (∀ k ∈ bo W, k ∈ L) ∧ (∀ k ∈ L, k < w.heap.size) ∧ n = base.length ∧ m = ws.length

theorem Rsp.lt {w : World} {g : Nat} {L : List Nat} {base : List Int} {ws : List (List Int)} (h : Rsp w g L base ws) : ∀ k ∈ L, k < w.heap.size := by
  obtain ⟨A, n, c, W, m, d, vs, hb, h1, h2, h3, h4, h5, h6, h7, _⟩ := h
  exact h7
theorem Rsp.chg {w w' : World} {g : Nat} {L M : List Nat} {base : List Int} {ws : List (List Int)} (h : Rsp w g L base ws) (hc : Chg M w w') (hn : ∀ k ∈ L, k ∉ M) : Rsp w' g L base ws := by
  obtain ⟨A, n, c, W, m, d, vs, hb, h1, h2, h3, h4, h5, h6, h7, h8⟩ := h
  exact ⟨A, n, c, W, m, d, vs, hb.chg hc (hn g h4), h1.chg hc (fun k hk => hn k (h5 k hk)), h2.chg hc (fun k hk => hn k (h6 k hk)), h3.chg hc (fun k hk hm => absurd hm (hn k hk)), h4, h5, h6, fun k hk => Nat.lt_of_lt_of_le (h7 k hk) hc.size, h8⟩

def NewRsp (w : World) (zs : List Int) (e : Ending) (w' : World) : Prop :=
  ∃ g L, e = .returned (.pointer (some ⟨g, 0, none⟩)) ∧ Rsp w' g L zs [] ∧ Chg [] w w' ∧ ∀ k ∈ L, w.heap.size ≤ k

theorem zero22 (w : World) : (zeroValue 124).run Try.prog w = .ok (.slice none 0 0) w := by kernel_rfl

set_option maxRecDepth 100000 in
set_option maxHeartbeats 800000 in
theorem rnew_any (A : Option Addr) (n c : Nat) (zs : List Int) (w : World) (hn : n ≤ 1073741824) (hrd : Rd w 1 A n c (bv zs)) :
    Calls Try.prog 40 #[.slice A n c] w (NewRsp w zs) := by
  have hl : zs.length = n := by have := hrd.1; simp at this; omega
  have HL := Lib.hid hl
  clear hl
  go_enter Try.func40, Try.ntmps40
  go_wp2_with (go_at_call 65; refine (copy_any A n c zs _ hn hrd).mono ?_; rintro e w1 ⟨A1, c1, rfl, hown, hchg, hnew⟩)
  go_ret
  have hsz := hchg.size
  refine ⟨w1.heap.size, w1.heap.size :: bo A1, rfl, ⟨A1, n, c1, none, 0, 0, [], Blk.new w1 126 _, hown.chg ((Chg.refl [] w1).alloc _) (by simp), Own.nil _ _ _, ⟨rfl, fun i x hx => by simp at hx⟩, by simp, fun k hk => by simp [hk], by simp, ?_, HL.out.symm, rfl⟩, hchg.alloc _, ?_⟩
  · intro k hk
    simp at hk ⊢
    rcases hk with rfl | hk
    · omega
    · have := hown.lt k hk; omega
  · intro k hk
    simp at hk
    rcases hk with rfl | hk
    · omega
    · exact hnew k hk

def RspTo (w : World) (g : Nat) (L : List Nat) (base : List Int) (ws : List (List Int)) (e : Ending) (w' : World) : Prop :=
  ∃ L', e = .returned (.tuple #[]) ∧ Rsp w' g L' base ws ∧ Chg L w w' ∧ ∀ k ∈ L', k ∈ L ∨ w.heap.size ≤ k

end Go.Proofs.Ytgomofeidghmiaa

namespace Go.Proofs.Ytgomofeidghmiaa
open Go.RowKit

theorem Inn.at_ {w : World} {L : List Nat} {vs : List Value} {ws : List (List Int)} (h : Inn w L vs ws) {W : Option Addr} {m d : Nat} (hW : Own w 39 1 W m d vs) {i : Nat} {x : List Int} (hx : ws[i]? = some x) :
    ∃ ad A c, W = some ad ∧ w.cell? (ad.add i) = some (.slice A x.length c) ∧ Rd w 1 A x.length c (bv x) := by
  obtain ⟨A, c, h1, h2, h3⟩ := h.2 i x hx
  have hi : i < m := by
    have e1 := hW.1
    have e2 := (List.getElem?_eq_some_iff.1 hx).1
    have e3 := h.1
    omega
  obtain ⟨ad, u, e1, e2, e3⟩ := hW.rd.at1 hi
  rw [h1] at e2
  cases e2
  exact ⟨ad, A, c, e1, e3, h2.rd⟩

theorem take_flat (ws : List (List Int)) (i : Nat) (x : List Int) (h : ws[i]? = some x) : (ws.take (i + 1)).flatten = (ws.take i).flatten ++ x := by
  rw [take_snoc ws i x h, List.flatten_append]; simp
theorem take_flat_le (ws : List (List Int)) (i : Nat) : (ws.take i).flatten.length ≤ ws.flatten.length := by
  conv => rhs; rw [← List.take_append_drop i ws, List.flatten_append, List.length_append]
  omega

set_option maxRecDepth 100000 in
set_option maxHeartbeats 1600000 in
theorem rseen_any (g : Nat) (L : List Nat) (base : List Int) (ws : List (List Int)) (w : World) (h : Rsp w g L base ws) (hlen : base.length + ws.flatten.length ≤ 1073741824) (hwl : ws.length ≤ 1073741824) (N0 : Nat) (hN0 : (base ++ ws.flatten).length = N0) :
    Calls Try.prog 46 #[.pointer (some ⟨g, 0, none⟩)] w (NewRow 5 1 w (bv (base ++ ws.flatten)) N0) := by
  subst hN0
  obtain ⟨A, n, c, W, m, dm, vs, hb, h1, h2, h3, h4, h5, h6, h7, h8, h9⟩ := h
  have n63 : n ≤ 1073741824 := by omega
  have m63 : m ≤ 1073741824 := by omega
  have HO := Lib.hid h1
  have HM := Lib.hid h2
  have HI := Lib.hid h3
  have HE := Lib.hid (show n = base.length ∧ m = ws.length from ⟨h8, h9⟩)
  have HB := Lib.hid hb
  have HL := Lib.hid hlen
  have c0 := hb.cell 0
  simp at c0
  clear h1 h2 h3 h4 h5 h6 h7 h8 h9 hb hwl hlen
  go_enter Try.func46, Try.ntmps46
  go_wp2_with (go_at_call 65; refine (copy_any A n c base _ n63 HO.out.rd).mono ?_; rintro e w1 ⟨A1, c1, rfl, hown, hchg, hnew⟩)
  obtain ⟨hn, hm⟩ := HE.out
  clear c0
  go_loopw [3, 4] (fun o q wr => ∃ (i N : Nat) (A' : Option Addr) (c' : Nat), i ≤ m ∧ o = .slice A' N c' ∧ q = .int .i64 i ∧ N = base.length + (ws.take i).flatten.length ∧
    Own wr 5 1 A' N c' (bv (base ++ (ws.take i).flatten)) ∧ Chg [] w wr ∧ (∀ k ∈ bo A', w.heap.size ≤ k)) (fun _ q _ => m - (intOf q).toNat)
  case atStart => exact ⟨0, n, A1, c1, Nat.zero_le _, rfl, rfl, by simp [hn], by simpa using hown, hchg, hnew⟩
  case round =>
    obtain ⟨i, N, A', c', hi, rfl, rfl, hN, hown, hchg, hnew⟩ := hrel
    have HN := Lib.hid hN
    have HW := Lib.hid hnew
    have HG := Lib.hid (show n = base.length ∧ m = ws.length from ⟨hn, hm⟩)
    have hb1 := HB.out.chg hchg (by simp)
    have c1' := hb1.cell 1
    simp at c1'
    by_cases hlt : i < m
    · obtain ⟨x, hx⟩ : ∃ x, ws[i]? = some x := ⟨_, List.getElem?_eq_getElem (by omega)⟩
      have hfl := take_flat ws i x hx
      have hle := take_flat_le ws (i + 1)
      rw [hfl, List.length_append] at hle
      have q1 : N + x.length ≤ 1073741824 := by have := HL.out; omega
      have HX := Lib.hid hx
      clear hx hfl hle hN hnew hn hm
      obtain ⟨wo, hwo⟩ : ∃ wo : World, wo = wr := ⟨_, rfl⟩
      subst hwo
      have HC := Lib.hid hchg
      clear hchg
      go_wp2
      go_loopw [3, 5] (fun o q wr => ∃ (k : Nat) (A2 : Option Addr) (c2 : Nat), k ≤ x.length ∧ o = .slice A2 (N + k) c2 ∧ q = .int .i64 k ∧
        Own wr 5 1 A2 (N + k) c2 (bv (base ++ (ws.take i).flatten ++ x.take k)) ∧ Chg [] w wr ∧ (∀ k ∈ bo A2, w.heap.size ≤ k)) (fun _ q _ => x.length - (intOf q).toNat)
      case atStart => exact ⟨0, A', c', Nat.zero_le _, rfl, rfl, by simpa using hown, HC.out, HW.out⟩
      case round =>
        obtain ⟨k, A2, c2, hk, rfl, rfl, hown2, hchg, hnew⟩ := hrel
        have HW2 := Lib.hid hnew
        clear hnew
        have hb2 := HB.out.chg hchg (by simp)
        have e1 := hb2.cell 1
        simp at e1
        obtain ⟨ad, Ai, ci, rfl, hci, hri⟩ := ((HI.out).chg hchg (by simp)).at_ (HM.out.chg hchg (by simp)) HX.out
        by_cases hkx : k < x.length
        · obtain ⟨bd, y, rfl, hy, hcy⟩ := rd_byte hri hkx
          have HY := Lib.hid hy
          have HRI := Lib.hid hri
          clear hri hy
          go_wp2_with (at_builtin; refine wpList_app rfl _ _ rfl etyBytes rfl (hown2.chg ((Chg.refl [] wr).alloc _) (by simp)) rfl (Own.lit wr 5 1 #[.int .u8 y] 1 (by decide) rfl).rd (one_int _ _) (by unfold maxLen; omega) (by omega) ?_; intro A3 c3 w3 hown3 hchg3 hnew3 _)
          go_roundw
          case rel =>
            refine ⟨k + 1, A3, c3, by omega, rfl, by go_num, ?_, (hchg.alloc _).trans hchg3 (fun y hy => .inr (HW2.out y hy)), fun y hy => ?_⟩
            · rw [take_snoc x k y HY.out]
              simpa [List.append_assoc, Nat.add_assoc] using hown3
            · rcases hnew3 y hy with h1 | h1
              · exact HW2.out y h1
              · have h2 := hchg.size; simp at h1; omega
          case measure => simp [intOf]; omega
        · have HRI := Lib.hid hri
          clear hri
          go_wp2
          go_roundw
          case rel =>
            have hkk : k = x.length := by omega
            subst hkk
            refine ⟨i + 1, N + x.length, A2, c2, by omega, rfl, by go_num, by rw [take_flat ws i x HX.out, List.length_append]; have := HN.out; omega, ?_, hchg, HW2.out⟩
            rw [take_flat ws i x HX.out]
            rw [List.take_of_length_le (Nat.le_refl _)] at hown2
            simpa [List.append_assoc] using hown2
          case measure => simp [intOf]; omega
    · go_wp2
      go_ret
      have him : ws.take i = ws := List.take_of_length_le (by have := HG.out.2; omega)
      have hown5 := hown
      have hN5 := HN.out
      rw [him] at hown5 hN5
      rw [List.length_append, ← hN5]
      exact ⟨A', c', rfl, hown5, hchg, HW.out⟩

end Go.Proofs.Ytgomofeidghmiaa

namespace Go.Proofs.Ytgomofeidghmiaa
open Go.RowKit

def rout (out : List Int) : List (List Int) → List Bool → List Int
  | [], _ => out
  | x :: r, ks => rout (out ++ if ks.headD false then x else List.replicate x.length 0) r ks.tail
def rend (at' e : Nat) : List (List Int) → List Bool → Nat
  | [], _ => e
  | x :: r, ks => rend (at' + x.length) (if ks.headD false then at' + x.length else e) r ks.tail

theorem rout_snoc (out : List Int) (ws : List (List Int)) (x : List Int) (ks : List Bool) :
    rout out (ws ++ [x]) ks = rout out ws ks ++ if ks[ws.length]?.getD false then x else List.replicate x.length 0 := by
  induction ws generalizing out ks with
  | nil => cases ks <;> simp [rout]
  | cons y r ih =>
    simp only [List.cons_append, rout, ih]
    cases ks with
    | nil => simp
    | cons k ks => simp only [List.tail_cons, List.length_cons, List.getElem?_cons_succ]; rfl
theorem rend_snoc (a e : Nat) (ws : List (List Int)) (x : List Int) (ks : List Bool) :
    rend a e (ws ++ [x]) ks = if ks[ws.length]?.getD false then a + ws.flatten.length + x.length else rend a e ws ks := by
  induction ws generalizing a e ks with
  | nil => cases ks <;> simp [rend]
  | cons y r ih =>
    simp only [List.cons_append, rend, ih]
    cases ks with
    | nil => simp
    | cons k ks => simp [Nat.add_assoc]
theorem rout_length (out : List Int) (ws : List (List Int)) (ks : List Bool) : (rout out ws ks).length = out.length + ws.flatten.length := by
  induction ws generalizing out ks with
  | nil => simp [rout]
  | cons y r ih =>
    simp only [rout, ih, List.flatten_cons, List.length_append]
    split <;> simp <;> omega
theorem rend_le (a e : Nat) (ws : List (List Int)) (ks : List Bool) (h : e ≤ a) : rend a e ws ks ≤ a + ws.flatten.length := by
  induction ws generalizing a e ks with
  | nil => simpa [rend] using h
  | cons y r ih =>
    simp only [rend, List.flatten_cons, List.length_append]
    have : (if ks.headD false then a + y.length else e) ≤ a + y.length := by split <;> omega
    have := ih _ _ ks.tail this
    omega

/-- the program's After is the document's -/
theorem aft_eq (ws : List (List Int)) : ∀ (R : List Int) (E : Nat) (ks : List Bool), E ≤ R.length → R.drop E = List.replicate (R.length - E) 0 →
    aft (R.take E) R.length ws ks = (rout R ws ks).take (rend R.length E ws ks) := by
  induction ws with
  | nil => intro R E ks _ _; rfl
  | cons x r ih =>
    intro R E ks hE hz
    simp only [aft, rout, rend]
    cases hk : ks.headD false with
    | true =>
      have hR : R.take E ++ List.replicate (R.length - (R.take E).length) 0 ++ x = R ++ x := by
        rw [List.length_take, Nat.min_eq_left hE, ← hz, List.take_append_drop]
      have := ih (R ++ x) (R ++ x).length ks.tail (Nat.le_refl _) (by simp)
      rw [List.take_length] at this
      simp only [if_true, hR]
      rw [List.length_append] at this
      exact this
    | false =>
      have := ih (R ++ List.replicate x.length 0) E ks.tail (by simp; omega) (by
        rw [List.drop_append_of_le_length hE, hz, List.replicate_append_replicate]
        congr 1; simp; omega)
      rw [List.take_append_of_le_length hE, List.length_append, List.length_replicate] at this
      simpa using this
theorem aft_ref (base : List Int) (ws : List (List Int)) (ks : List Bool) : aft base base.length ws ks = (rout base ws ks).take (rend base.length base.length ws ks) := by
  have := aft_eq ws base base.length ks (Nat.le_refl _) (by simp)
  rwa [List.take_length] at this

end Go.Proofs.Ytgomofeidghmiaa
