/-
  PumpBuckets' three Buckets over the virtual program; no condition but what each law names.
-/
import Derived.Test.YtcdhmnefmbcmaaaKVxH
namespace Go.Proofs.Ytcdhmnefmbcmaaa.Vw
open Go Go.RowKit
/-- the three Buckets of PumpBuckets: the program's, another one of room 3, the document's; L: their blocks -/
def BS (L : List Nat) (w0 w : World) (gb go gm : Nat) (R : Int) (zb : List Int) (cb : Int) (j : Nat) (zm : List Int) (cm : Int) : Prop :=
  ∃ Ab Ao Am, Bkt w gb Ab R zb cb ∧ Bkt w go Ao 3 (List.replicate (min 3 j) 9) ((min 3 j : Nat) : Int) ∧ RBkt w gm Am R zm cm ∧ L = (gb :: bo Ab) ++ ((go :: bo Ao) ++ (gm :: bo Am)) ∧
    (∀ k ∈ gb :: bo Ab, k ∉ go :: bo Ao ∧ k ∉ gm :: bo Am) ∧ (∀ k ∈ go :: bo Ao, k ∉ gm :: bo Am) ∧ Chg [] w0 w ∧ ∀ k ∈ L, w0.heap.size ≤ k
section
variable {L : List Nat} {w0 w w' : World} {gb go gm : Nat} {R : Int} {zb zm : List Int} {cb cm : Int} {j : Nat}
theorem BS.lt (h : BS L w0 w gb go gm R zb cb j zm cm) : ∀ k ∈ L, k < w.heap.size := by
  obtain ⟨Ab, Ao, Am, h1, h2, h3, rfl, _⟩ := h
  intro k hk
  rcases List.mem_append.1 hk with hk | hk
  · exact h1.lt k hk
  · rcases List.mem_append.1 hk with hk | hk
    · exact h2.lt k hk
    · exact h3.lt k hk
theorem BS.ge (h : BS L w0 w gb go gm R zb cb j zm cm) : ∀ k ∈ L, w0.heap.size ≤ k := by
  obtain ⟨_, _, _, _, _, _, _, _, _, _, h⟩ := h
  exact h
theorem BS.ch (h : BS L w0 w gb go gm R zb cb j zm cm) : Chg [] w0 w := by
  obtain ⟨_, _, _, _, _, _, _, _, _, h, _⟩ := h
  exact h
theorem BS.chg {M : List Nat} (h : BS L w0 w gb go gm R zb cb j zm cm) (hc : Chg M w w') (hn : ∀ k ∈ L, k ∉ M) (hM : ∀ k ∈ M, w0.heap.size ≤ k) : BS L w0 w' gb go gm R zb cb j zm cm := by
  obtain ⟨Ab, Ao, Am, h1, h2, h3, rfl, h4, h5, h6, h7⟩ := h
  exact ⟨Ab, Ao, Am, h1.chg hc (fun k hk => hn k (List.mem_append.2 (.inl hk))), h2.chg hc (fun k hk => hn k (List.mem_append.2 (.inr (List.mem_append.2 (.inl hk))))), h3.chg hc (fun k hk => hn k (List.mem_append.2 (.inr (List.mem_append.2 (.inr hk))))), rfl, h4, h5, h6.trans hc (fun x hx => .inr (hM x hx)), h7⟩
theorem BS.chg0 (h : BS L w0 w gb go gm R zb cb j zm cm) (hc : Chg [] w w') : BS L w0 w' gb go gm R zb cb j zm cm := h.chg hc (by simp) (by simp)
theorem BS.bktB (h : BS L w0 w gb go gm R zb cb j zm cm) : BktN w0 w gb R zb cb := by
  obtain ⟨Ab, Ao, Am, h1, h2, h3, rfl, h4, h5, h6, h7⟩ := h
  exact ⟨Ab, h1, h6, h7 gb (by simp), fun k hk => h7 k (List.mem_append.2 (.inl (List.mem_cons_of_mem _ hk)))⟩
theorem BS.bktO (h : BS L w0 w gb go gm R zb cb j zm cm) : BktN w0 w go 3 (List.replicate (min 3 j) 9) ((min 3 j : Nat) : Int) := by
  obtain ⟨Ab, Ao, Am, h1, h2, h3, rfl, h4, h5, h6, h7⟩ := h
  exact ⟨Ao, h2, h6, h7 go (by simp), fun k hk => h7 k (List.mem_append.2 (.inr (List.mem_append.2 (.inl (List.mem_cons_of_mem _ hk)))))⟩
theorem BS.bktM (h : BS L w0 w gb go gm R zb cb j zm cm) : ∃ Am, RBkt w gm Am R zm cm := by
  obtain ⟨Ab, Ao, Am, h1, h2, h3, _⟩ := h
  exact ⟨Am, h3⟩
/-- what a Take leaves of the three -/
def BSto (L : List Nat) (w : World) (Q : List Nat → World → Prop) (e : Ending) (c : Int) (w' : World) : Prop := ∃ L', e = .returned (.int .i64 c) ∧ Q L' w' ∧ Chg L w w' ∧ ∀ k ∈ L', k ∈ L ∨ w.heap.size ≤ k
theorem BS.takeB {A : Option Addr} {m d : Nat} {ys : List Int} (h : BS L w0 w gb go gm R zb cb j zm cm) (hrd : Rd w 1 A m d (bv ys))
    (hr0 : 0 ≤ R) (hr1 : R ≤ 9223372036854775807) (hz : zb.length ≤ 1073741824) (hm : m ≤ 1073741824) (hc0 : 0 ≤ cb) (hc1 : cb ≤ 1073741824) :
    Calls Tryv.prog 15 #[.pointer (some ⟨gb, 0, none⟩), .slice A m d] w fun e w' => (R - zb.length < ys.length ∧ BSto L w (fun L' w' => BS L' w0 w' gb go gm R zb cb j zm cm) e 85 w') ∨
      (¬ R - zb.length < ys.length ∧ BSto L w (fun L' w' => BS L' w0 w' gb go gm R (zb ++ ys) (cb + 1) j zm cm) e 0 w') := by
  have hlt := h.lt
  have h' := h
  obtain ⟨Ab, Ao, Am, h1, h2, h3, rfl, h4, h5, h6, h7⟩ := h
  refine (take_any h1 hrd hr0 hr1 hz hm hc0 hc1).mono ?_
  rintro e w' (⟨q, rfl, hc⟩ | ⟨q, rfl, A2, b2, hc, hn⟩)
  · exact .inl ⟨q, _, rfl, h'.chg0 hc, hc.nil _, fun k hk => .inl hk⟩
  · have b : ∀ k ∈ gb :: bo A2, k ∈ gb :: bo Ab ∨ w.heap.size ≤ k := fun k hk => by
      rcases List.mem_cons.1 hk with rfl | hk
      · exact .inl (by simp)
      · exact (hn k hk).imp (fun h => List.mem_cons_of_mem _ h) id
    have hs := h6.size
    refine .inr ⟨q, _, rfl, ⟨A2, Ao, Am, b2, h2.chg hc (fun k hk hm => (h4 k hm).1 hk), h3.chg hc (fun k hk hm => (h4 k hm).2 hk), rfl, fun k hk => ⟨fun hm => ?_, fun hm => ?_⟩, h5, h6.trans hc (fun x hx => .inr (h7 x (List.mem_append.2 (.inl hx)))), fun k hk => ?_⟩, hc.mono (fun x hx => .inl (List.mem_append.2 (.inl hx))), fun k hk => ?_⟩
    · rcases b k hk with hb | hb
      · exact (h4 k hb).1 hm
      · have := hlt k (List.mem_append.2 (.inr (List.mem_append.2 (.inl hm)))); omega
    · rcases b k hk with hb | hb
      · exact (h4 k hb).2 hm
      · have := hlt k (List.mem_append.2 (.inr (List.mem_append.2 (.inr hm)))); omega
    · rcases List.mem_append.1 hk with hk | hk
      · rcases b k hk with hb | hb
        · exact h7 k (List.mem_append.2 (.inl hb))
        · omega
      · exact h7 k (List.mem_append.2 (.inr hk))
    · rcases List.mem_append.1 hk with hk | hk
      · exact (b k hk).imp (fun h => List.mem_append.2 (.inl h)) id
      · exact .inl (List.mem_append.2 (.inr hk))
theorem BS.takeM {A : Option Addr} {m d : Nat} {ys : List Int} (h : BS L w0 w gb go gm R zb cb j zm cm) (hrd : Rd w 1 A m d (bv ys)) (hA : 0 < m → ∀ k ∈ bo A, k ∉ L)
    (hr0 : 0 ≤ R) (hr1 : R ≤ 9223372036854775807) (hz : zm.length ≤ 1073741824) (hm : m ≤ 1073741824) (hc0 : 0 ≤ cm) (hc1 : cm ≤ 1073741824) :
    Calls Tryv.prog 16 #[.pointer (some ⟨gm, 0, none⟩), .slice A m d] w fun e w' => (R - zm.length < ys.length ∧ BSto L w (fun L' w' => BS L' w0 w' gb go gm R zb cb j zm cm) e 85 w') ∨
      (¬ R - zm.length < ys.length ∧ BSto L w (fun L' w' => BS L' w0 w' gb go gm R zb cb j (zm ++ ys) (cm + 1)) e 0 w') := by
  have hlt := h.lt
  have h' := h
  obtain ⟨Ab, Ao, Am, h1, h2, h3, rfl, h4, h5, h6, h7⟩ := h
  refine (rtake_any h3 hrd (fun hp k hk hm => hA hp k hk (List.mem_append.2 (.inr (List.mem_append.2 (.inr hm))))) hr0 hr1 hz hm hc0 hc1).mono ?_
  rintro e w' (⟨q, rfl, hc⟩ | ⟨q, rfl, A2, b2, hc, hn⟩)
  · exact .inl ⟨q, _, rfl, h'.chg0 hc, hc.nil _, fun k hk => .inl hk⟩
  · have b : ∀ k ∈ gm :: bo A2, k ∈ gm :: bo Am ∨ w.heap.size ≤ k := fun k hk => by
      rcases List.mem_cons.1 hk with rfl | hk
      · exact .inl (by simp)
      · exact (hn k hk).imp (fun h => List.mem_cons_of_mem _ h) id
    have hs := h6.size
    refine .inr ⟨q, _, rfl, ⟨Ab, Ao, A2, h1.chg hc (fun k hk hm => (h4 k hk).2 hm), h2.chg hc (fun k hk hm => h5 k hk hm), b2, rfl, fun k hk => ⟨(h4 k hk).1, fun hm => ?_⟩, fun k hk hm => ?_, h6.trans hc (fun x hx => .inr (h7 x (List.mem_append.2 (.inr (List.mem_append.2 (.inr hx)))))), fun k hk => ?_⟩, hc.mono (fun x hx => .inl (List.mem_append.2 (.inr (List.mem_append.2 (.inr hx))))), fun k hk => ?_⟩
    · rcases b k hm with hb | hb
      · exact (h4 k hk).2 hb
      · have := hlt k (List.mem_append.2 (.inl hk)); omega
    · rcases b k hm with hb | hb
      · exact h5 k hk hb
      · have := hlt k (List.mem_append.2 (.inr (List.mem_append.2 (.inl hk)))); omega
    · rcases List.mem_append.1 hk with hk | hk
      · exact h7 k (List.mem_append.2 (.inl hk))
      · rcases List.mem_append.1 hk with hk | hk
        · exact h7 k (List.mem_append.2 (.inr (List.mem_append.2 (.inl hk))))
        · rcases b k hk with hb | hb
          · exact h7 k (List.mem_append.2 (.inr (List.mem_append.2 (.inr hb))))
          · omega
    · rcases List.mem_append.1 hk with hk | hk
      · exact .inl (List.mem_append.2 (.inl hk))
      · rcases List.mem_append.1 hk with hk | hk
        · exact .inl (List.mem_append.2 (.inr (List.mem_append.2 (.inl hk))))
        · exact (b k hk).imp (fun h => List.mem_append.2 (.inr (List.mem_append.2 (.inr h)))) id
/-- what a Take makes of a Bucket's bytes and count -/
def tk (R : Int) (z : List Int) (c : Int) (ys : List Int) : Int × List Int × Int := if R - z.length < ys.length then (85, z, c) else (0, z ++ ys, c + 1)
theorem BS.tkB {A : Option Addr} {m d : Nat} {ys : List Int} {x : Int} {z' : List Int} {c' : Int} (htk : tk R zb cb ys = (x, z', c')) (h : BS L w0 w gb go gm R zb cb j zm cm) (hrd : Rd w 1 A m d (bv ys))
    (hr0 : 0 ≤ R) (hr1 : R ≤ 9223372036854775807) (hz : zb.length ≤ 1073741824) (hm : m ≤ 1073741824) (hc0 : 0 ≤ cb) (hc1 : cb ≤ 1073741824) :
    Calls Tryv.prog 15 #[.pointer (some ⟨gb, 0, none⟩), .slice A m d] w fun e w' => ∃ L', e = .returned (.int .i64 x) ∧ BS L' w0 w' gb go gm R z' c' j zm cm ∧ Chg L w w' ∧ ∀ k ∈ L', k ∈ L ∨ w.heap.size ≤ k := by
  refine (h.takeB hrd hr0 hr1 hz hm hc0 hc1).mono ?_
  unfold tk at htk
  rintro e w' (⟨q, L', rfl, h1, h2⟩ | ⟨q, L', rfl, h1, h2⟩)
  · rw [if_pos q] at htk; cases htk; exact ⟨L', rfl, h1, h2⟩
  · rw [if_neg q] at htk; cases htk; exact ⟨L', rfl, h1, h2⟩
theorem BS.tkM {A : Option Addr} {m d : Nat} {ys : List Int} {x : Int} {z' : List Int} {c' : Int} (htk : tk R zm cm ys = (x, z', c')) (h : BS L w0 w gb go gm R zb cb j zm cm) (hrd : Rd w 1 A m d (bv ys)) (hA : 0 < m → ∀ k ∈ bo A, k ∉ L)
    (hr0 : 0 ≤ R) (hr1 : R ≤ 9223372036854775807) (hz : zm.length ≤ 1073741824) (hm : m ≤ 1073741824) (hc0 : 0 ≤ cm) (hc1 : cm ≤ 1073741824) :
    Calls Tryv.prog 16 #[.pointer (some ⟨gm, 0, none⟩), .slice A m d] w fun e w' => ∃ L', e = .returned (.int .i64 x) ∧ BS L' w0 w' gb go gm R zb cb j z' c' ∧ Chg L w w' ∧ ∀ k ∈ L', k ∈ L ∨ w.heap.size ≤ k := by
  refine (h.takeM hrd hA hr0 hr1 hz hm hc0 hc1).mono ?_
  unfold tk at htk
  rintro e w' (⟨q, L', rfl, h1, h2⟩ | ⟨q, L', rfl, h1, h2⟩)
  · rw [if_pos q] at htk; cases htk; exact ⟨L', rfl, h1, h2⟩
  · rw [if_neg q] at htk; cases htk; exact ⟨L', rfl, h1, h2⟩
theorem tk_len {R : Int} {z ys : List Int} {c x c' : Int} {z' : List Int} (h : tk R z c ys = (x, z', c')) : z'.length ≤ z.length + ys.length ∧ c ≤ c' ∧ c' ≤ c + 1 := by
  unfold tk at h
  split at h <;> cases h
  · exact ⟨by omega, by omega, by omega⟩
  · exact ⟨by simp, by omega, by omega⟩
theorem rep_snoc (n : Nat) : List.replicate n (9 : Int) ++ [9] = List.replicate (n + 1) 9 := by rw [List.replicate_succ']
theorem BS.new {w1 w2 w3 w4 : World} {gb go gm : Nat} {R : Int} (hb : BktN w1 w2 gb R [] 0) (ho : BktN w2 w3 go 3 [] 0) (hm : RBkt w4 gm none R [] 0) (h4 : Chg [] w3 w4) (hg : w3.heap.size ≤ gm) : ∃ L, BS L w1 w4 gb go gm R [] 0 0 [] 0 := by
  obtain ⟨Ab, b1, b2, b3, b4⟩ := hb
  obtain ⟨Ao, o1, o2, o3, o4⟩ := ho
  have lb := b1.lt
  have lo := o1.lt
  have s1 := b2.size
  have s2 := o2.size
  have nb : ∀ k ∈ gb :: bo Ab, w1.heap.size ≤ k := fun k hk => by
    rcases List.mem_cons.1 hk with rfl | hk
    · exact b3
    · exact b4 k hk
  have no : ∀ k ∈ go :: bo Ao, w2.heap.size ≤ k := fun k hk => by
    rcases List.mem_cons.1 hk with rfl | hk
    · exact o3
    · exact o4 k hk
  refine ⟨_, Ab, Ao, none, (b1.chg o2 (by simp)).chg h4 (by simp), by simpa using o1.chg h4 (by simp), hm, rfl, fun k hk => ⟨fun hm => ?_, fun hm => ?_⟩, fun k hk hm => ?_, (b2.trans0 o2).trans0 h4, fun k hk => ?_⟩
  · have := lb k hk; have := no k hm; omega
  · have := lb k hk; simp at hm; omega
  · have := lo k hk; simp at hm; omega
  · rcases List.mem_append.1 hk with hk | hk
    · exact nb k hk
    · rcases List.mem_append.1 hk with hk | hk
      · have := no k hk; omega
      · simp at hk; omega
theorem BS.takeO {A : Option Addr} {d : Nat} (h : BS L w0 w gb go gm R zb cb j zm cm) (hrd : Rd w 1 A 1 d (bv [9])) :
    Calls Tryv.prog 15 #[.pointer (some ⟨go, 0, none⟩), .slice A 1 d] w fun e w' => ∃ c, BSto L w (fun L' w' => BS L' w0 w' gb go gm R zb cb (j + 1) zm cm) e c w' := by
  have hlt := h.lt
  obtain ⟨Ab, Ao, Am, h1, h2, h3, rfl, h4, h5, h6, h7⟩ := h
  refine (take_any h2 hrd (by decide) (by decide) (by simp; omega) (by decide) (by omega) (by omega)).mono ?_
  rintro e w' (⟨q, rfl, hc⟩ | ⟨q, rfl, A2, b2, hc, hn⟩)
  · have hj : min 3 (j + 1) = min 3 j := by simp at q; omega
    refine ⟨85, _, rfl, ⟨Ab, Ao, Am, h1.chg hc (by simp), ?_, h3.chg hc (by simp), rfl, h4, h5, h6.trans0 hc, h7⟩, hc.nil _, fun k hk => .inl hk⟩
    rw [hj]; exact h2.chg hc (by simp)
  · have hj : min 3 (j + 1) = min 3 j + 1 := by simp at q; omega
    have b : ∀ k ∈ go :: bo A2, k ∈ go :: bo Ao ∨ w.heap.size ≤ k := fun k hk => by
      rcases List.mem_cons.1 hk with rfl | hk
      · exact .inl (by simp)
      · exact (hn k hk).imp (fun h => List.mem_cons_of_mem _ h) id
    have hs := h6.size
    refine ⟨0, _, rfl, ⟨Ab, A2, Am, h1.chg hc (fun k hk hm => (h4 k hk).1 hm), ?_, h3.chg hc (fun k hk hm => h5 k hm hk), rfl, fun k hk => ⟨fun hm => ?_, (h4 k hk).2⟩, fun k hk hm => ?_, h6.trans hc (fun x hx => .inr (h7 x (List.mem_append.2 (.inr (List.mem_append.2 (.inl hx)))))), fun k hk => ?_⟩, hc.mono (fun x hx => .inl (List.mem_append.2 (.inr (List.mem_append.2 (.inl hx))))), fun k hk => ?_⟩
    · rw [hj, ← rep_snoc]; simpa using b2
    · rcases b k hm with hb | hb
      · exact (h4 k hk).1 hb
      · have := hlt k (List.mem_append.2 (.inl hk)); omega
    · rcases b k hk with hb | hb
      · exact h5 k hb hm
      · have := hlt k (List.mem_append.2 (.inr (List.mem_append.2 (.inr hm)))); omega
    · rcases List.mem_append.1 hk with hk | hk
      · exact h7 k (List.mem_append.2 (.inl hk))
      · rcases List.mem_append.1 hk with hk | hk
        · rcases b k hk with hb | hb
          · exact h7 k (List.mem_append.2 (.inr (List.mem_append.2 (.inl hb))))
          · omega
        · exact h7 k (List.mem_append.2 (.inr (List.mem_append.2 (.inr hk))))
    · rcases List.mem_append.1 hk with hk | hk
      · exact .inl (List.mem_append.2 (.inl hk))
      · rcases List.mem_append.1 hk with hk | hk
        · exact (b k hk).imp (fun h => List.mem_append.2 (.inr (List.mem_append.2 (.inl h)))) id
        · exact .inl (List.mem_append.2 (.inr (List.mem_append.2 (.inr hk))))
end
end Go.Proofs.Ytcdhmnefmbcmaaa.Vw
