/-
  A Copy to two Buckets through a Tee over the virtual program; no condition but what each law names.
-/
import Derived.Test.YtcdhmnefmbcmaaaKVxG
namespace Go.Proofs.Ytcdhmnefmbcmaaa.Vw
open Go Go.RowKit
/-- how many pieces both have taken, how many the first, and the error's number -/
def teeR (ra rb : Int) : List (List Int) → Nat × Nat × Int
  | [] => (0, 0, 0)
  | c :: r => if ra < c.length then (0, 0, 85) else if rb < c.length then (0, 1, 85) else ((teeR (ra - c.length) (rb - c.length) r).1 + 1, (teeR (ra - c.length) (rb - c.length) r).2.1 + 1, (teeR (ra - c.length) (rb - c.length) r).2.2)
/-- k pieces taken by both -/
def TUp (ra rb : Int) (C : List (List Int)) (k : Nat) : Prop :=
  teeR ra rb C = ((teeR (ra - (C.take k).flatten.length) (rb - (C.take k).flatten.length) (C.drop k)).1 + k, (teeR (ra - (C.take k).flatten.length) (rb - (C.take k).flatten.length) (C.drop k)).2.1 + k, (teeR (ra - (C.take k).flatten.length) (rb - (C.take k).flatten.length) (C.drop k)).2.2)
theorem TUp.zero (ra rb : Int) (C : List (List Int)) : TUp ra rb C 0 := by unfold TUp; simp
section
variable {ra rb : Int} {C : List (List Int)} {k : Nat} {p : List Int}
theorem TUp.step (h : TUp ra rb C k) (hp : C[k]? = some p) (h1 : ¬ ra - (C.take k).flatten.length < p.length) (h2 : ¬ rb - (C.take k).flatten.length < p.length) : TUp ra rb C (k + 1) := by
  unfold TUp at h ⊢
  rw [h, drop_at hp, teeR, if_neg h1, if_neg h2, flat_snoc C k p hp, List.length_append]
  rw [show ra - (((C.take k).flatten.length + p.length : Nat) : Int) = ra - (C.take k).flatten.length - p.length by omega, show rb - (((C.take k).flatten.length + p.length : Nat) : Int) = rb - (C.take k).flatten.length - p.length by omega]
  refine Prod.ext ?_ (Prod.ext ?_ rfl)
  · show _ + 1 + k = _ + (k + 1); omega
  · show _ + 1 + k = _ + (k + 1); omega
theorem TUp.fullA (h : TUp ra rb C k) (hp : C[k]? = some p) (h1 : ra - (C.take k).flatten.length < p.length) : teeR ra rb C = (k, k, 85) := by
  unfold TUp at h
  rw [h, drop_at hp, teeR, if_pos h1]; simp
theorem TUp.fullB (h : TUp ra rb C k) (hp : C[k]? = some p) (h1 : ¬ ra - (C.take k).flatten.length < p.length) (h2 : rb - (C.take k).flatten.length < p.length) : teeR ra rb C = (k, k + 1, 85) := by
  unfold TUp at h
  rw [h, drop_at hp, teeR, if_neg h1, if_pos h2]; simp; omega
theorem TUp.done (h : TUp ra rb C C.length) : teeR ra rb C = (C.length, C.length, 0) := by
  unfold TUp at h
  rw [h, List.drop_length]; simp [teeR]
end
/-- two Buckets and the row of a Tee over them, behind the world w0 -/
def TS (w0 w : World) (ga gb r c : Nat) (Ra Rb : Int) (za : List Int) (ca : Int) (zb : List Int) (cb : Int) : Prop :=
  ∃ Aa Ab, Bkt w ga Aa Ra za ca ∧ Bkt w gb Ab Rb zb cb ∧ Own w 50 1 (some ⟨r, 0, none⟩) 2 c [snk ga, snk gb] ∧ Chg [] w0 w ∧ (∀ k ∈ ga :: bo Aa, w0.heap.size ≤ k) ∧ (∀ k ∈ gb :: bo Ab, w0.heap.size ≤ k) ∧
    (∀ k ∈ ga :: bo Aa, k ∉ gb :: bo Ab) ∧ r ∉ ga :: bo Aa ∧ r ∉ gb :: bo Ab
theorem Own.lt1 {w : World} {e : TypeId} {sz n c r : Nat} {xs : List Value} (h : Own w e sz (some ⟨r, 0, none⟩) n c xs) : r < w.heap.size := h.lt r (by simp)
theorem TS.chg {w0 w w' : World} {ga gb r c : Nat} {Ra Rb : Int} {za zb : List Int} {ca cb : Int} (h : TS w0 w ga gb r c Ra Rb za ca zb cb) (hc : Chg [] w w') : TS w0 w' ga gb r c Ra Rb za ca zb cb := by
  obtain ⟨Aa, Ab, h1, h2, h3, h4, h5⟩ := h
  exact ⟨Aa, Ab, h1.chg hc (by simp), h2.chg hc (by simp), h3.chg hc (by simp), h4.trans0 hc, h5⟩
theorem TS.ch {w0 w : World} {ga gb r c : Nat} {Ra Rb : Int} {za zb : List Int} {ca cb : Int} (h : TS w0 w ga gb r c Ra Rb za ca zb cb) : Chg [] w0 w := by
  obtain ⟨_, _, _, _, _, h4, _⟩ := h
  exact h4
theorem TS.far {w0 w w9 wr : World} {ga gb r c : Nat} {Ra Rb : Int} {za zb : List Int} {ca cb : Int} {G : List Nat} (h : TS w0 w ga gb r c Ra Rb za ca zb cb) (h1 : Chg [] w w9) (h2 : Chg G w9 wr) (hG : ∀ k ∈ G, w.heap.size ≤ k) : TS w0 wr ga gb r c Ra Rb za ca zb cb := by
  obtain ⟨Aa, Ab, k1, k2, k3, k4, k5⟩ := h
  have hs := k4.size
  exact ⟨Aa, Ab, (k1.chg h1 (by simp)).chg h2 (fun j hj hm => by have := k1.lt j hj; have := hG j hm; omega), (k2.chg h1 (by simp)).chg h2 (fun j hj hm => by have := k2.lt j hj; have := hG j hm; omega),
    (k3.chg h1 (by simp)).chg h2 (fun j hj hm => by have := k3.lt j hj; have := hG j hm; omega), (k4.trans0 h1).trans h2 (fun x hx => .inr (by have := hG x hx; omega)), k5⟩
theorem Bkt.grow {w w' : World} {g : Nat} {A : Option Addr} {room : Int} {zs : List Int} {cnt : Int} {M : List Nat} (h : Bkt w g A room zs cnt) (hc : Chg M w w') (hn : ∀ k ∈ M, k ∉ g :: bo A) : Bkt w' g A room zs cnt :=
  h.chg hc (fun k hk hm => hn k hm hk)
theorem BktN.base {w1 wx w : World} {g : Nat} {room : Int} {zs : List Int} {cnt : Int} (h : BktN wx w g room zs cnt) (hc : Chg [] w1 wx) : BktN w1 w g room zs cnt := by
  obtain ⟨A, h1, h2, h3, h4⟩ := h
  exact ⟨A, h1, hc.trans0 h2, Nat.le_trans hc.size h3, fun k hk => Nat.le_trans hc.size (h4 k hk)⟩
theorem TS.new {w1 w2 w3 w4 : World} {ga gb r c : Nat} {Ra Rb : Int} (hA : BktN w1 w2 ga Ra [] 0) (hB : BktN w2 w3 gb Rb [] 0) (hc : Chg [] w3 w4) (ho : Own w4 50 1 (some ⟨r, 0, none⟩) 2 c [snk ga, snk gb]) (hr : w3.heap.size ≤ r) :
    TS w1 w4 ga gb r c Ra Rb [] 0 [] 0 := by
  obtain ⟨Aa, a1, a2, a3, a4⟩ := hA
  obtain ⟨Ab, b1, b2, b3, b4⟩ := hB
  have la := a1.lt
  have lb := b1.lt
  have s1 := a2.size
  have s2 := b2.size
  have nb : ∀ k ∈ gb :: bo Ab, w2.heap.size ≤ k := fun k hk => by
    rcases List.mem_cons.1 hk with rfl | hk
    · exact b3
    · exact b4 k hk
  exact ⟨Aa, Ab, (a1.chg b2 (by simp)).chg hc (by simp), b1.chg hc (by simp), ho, (a2.trans0 b2).trans0 hc, fun k hk => by
      rcases List.mem_cons.1 hk with rfl | hk
      · exact a3
      · exact a4 k hk, fun k hk => by have := nb k hk; omega, fun k hk hm => by have := la k hk; have := nb k hm; omega, fun hm => by have := la r hm; omega, fun hm => by have := lb r hm; omega⟩
theorem TS.bktA {w0 w : World} {ga gb r c : Nat} {Ra Rb : Int} {za zb : List Int} {ca cb : Int} (h : TS w0 w ga gb r c Ra Rb za ca zb cb) : BktN w0 w ga Ra za ca := by
  obtain ⟨Aa, Ab, h1, h2, h3, h4, h5, h6, _⟩ := h
  exact ⟨Aa, h1, h4, h5 ga (by simp), fun k hk => h5 k (List.mem_cons_of_mem _ hk)⟩
theorem TS.bktB {w0 w : World} {ga gb r c : Nat} {Ra Rb : Int} {za zb : List Int} {ca cb : Int} (h : TS w0 w ga gb r c Ra Rb za ca zb cb) : BktN w0 w gb Rb zb cb := by
  obtain ⟨Aa, Ab, h1, h2, h3, h4, h5, h6, _⟩ := h
  exact ⟨Ab, h2, h4, h6 gb (by simp), fun k hk => h6 k (List.mem_cons_of_mem _ hk)⟩
/-- a Take of the Tee -/
theorem teeTake {w0 wr w2 : World} {ga gb r c c2 : Nat} {Ra Rb : Int} {za zb p : List Int} {ca cb : Int} {A : Option Addr} (h : TS w0 wr ga gb r c Ra Rb za ca zb cb) (hc : Chg [] wr w2) (hown : Own w2 5 1 A p.length c2 (bv p)) (hnew : ∀ j ∈ bo A, wr.heap.size ≤ j)
    (ra0 : 0 ≤ Ra) (ra1 : Ra ≤ 9223372036854775807) (rb0 : 0 ≤ Rb) (rb1 : Rb ≤ 9223372036854775807) (hza : za.length ≤ 1073741824) (hzb : zb.length ≤ 1073741824) (hp : p.length ≤ 1073741824) (ca0 : 0 ≤ ca) (ca1 : ca ≤ 1073741824) (cb0 : 0 ≤ cb) (cb1 : cb ≤ 1073741824) :
    Calls Tryv.prog 69 #[.slice (some ⟨r, 0, none⟩) 2 c, .slice A p.length c2] w2 (Tk2 (fun w' => ¬ Ra - za.length < p.length ∧ ¬ Rb - zb.length < p.length ∧ TS w0 w' ga gb r c Ra Rb (za ++ p) (ca + 1) (zb ++ p) (cb + 1))
      (fun w' => (Ra - za.length < p.length ∧ TS w0 w' ga gb r c Ra Rb za ca zb cb) ∨ (¬ Ra - za.length < p.length ∧ Rb - zb.length < p.length ∧ TS w0 w' ga gb r c Ra Rb (za ++ p) (ca + 1) zb cb))) := by
  obtain ⟨Aa, Ab, k1, k2, k3, k4, k5, k6, k7, k8, k9⟩ := h
  have l1 := k1.lt
  have l2 := k2.lt
  have l3 := k3.lt1
  have hs0 := k4.size
  have hs1 := hc.size
  replace k1 := k1.chg hc (by simp)
  replace k2 := k2.chg hc (by simp)
  replace k3 := k3.chg hc (by simp)
  replace k4 := k4.trans0 hc
  have row : ∀ w, Own w 50 1 (some ⟨r, 0, none⟩) 2 c [snk ga, snk gb] → w.cell? ⟨r, 0, none⟩ = some (snk ga) ∧ w.cell? ⟨r, 1, none⟩ = some (snk gb) := fun w ho => by
    have h := ho.rd
    exact ⟨(h.2.2.2.2 _ rfl).2 0 (snk ga) rfl, (h.2.2.2.2 _ rfl).2 1 (snk gb) rfl⟩
  refine ttake_any (ga := ga) (gb := gb) (S := fun i w => if i = 0 then w = w2 else if i = 1 then (¬ Ra - za.length < p.length ∧ ∃ Aa', Bkt w ga Aa' Ra (za ++ p) (ca + 1) ∧ Chg (ga :: bo Aa) w2 w ∧ ∀ k ∈ bo Aa', k ∈ bo Aa ∨ w2.heap.size ≤ k)
      else (¬ Ra - za.length < p.length ∧ ¬ Rb - zb.length < p.length ∧ TS w0 w ga gb r c Ra Rb (za ++ p) (ca + 1) (zb ++ p) (cb + 1))) rfl ?_ ?_ ?_
  · intro i w hi
    by_cases h0 : i = 0
    · subst h0; simp only [if_true] at hi; subst hi; exact row _ k3
    by_cases h1 : i = 1
    · subst h1
      simp only [Nat.one_ne_zero, if_false, if_true] at hi
      obtain ⟨_, Aa', _, q2, _⟩ := hi
      exact row _ (k3.chg q2 (fun k hk hm => by simp at hk; subst hk; exact k8 hm))
    · rw [if_neg h0, if_neg h1] at hi
      obtain ⟨_, _, _, _, _, _, q3, _⟩ := hi
      exact row _ q3
  · intro w hw
    simp only [if_true] at hw
    subst hw
    refine (take_any k1 hown.rd ra0 ra1 hza hp ca0 ca1).mono ?_
    rintro e w' (⟨q1, rfl, q2⟩ | ⟨q1, rfl, Aa', q2, q3, q4⟩)
    · exact .inr ⟨rfl, .inl ⟨q1, Aa, Ab, k1.chg q2 (by simp), k2.chg q2 (by simp), k3.chg q2 (by simp), k4.trans0 q2, k5, k6, k7, k8, k9⟩⟩
    · exact .inl ⟨rfl, by simp only [Nat.one_ne_zero, if_false, if_true]; exact ⟨q1, Aa', q2, q3, q4⟩⟩
  · intro w hw
    simp only [Nat.one_ne_zero, if_false, if_true] at hw
    obtain ⟨q1, Aa', q2, q3, q4⟩ := hw
    have hk2 : Bkt w gb Ab Rb zb cb := k2.grow q3 k7
    have ho : Own w 5 1 A p.length c2 (bv p) := hown.chg q3 (fun j hj hm => by have := hnew j hj; have := l1 j hm; omega)
    have hk3 := k3.chg q3 (fun k hk hm => by simp at hk; subst hk; exact k8 hm)
    have b1 : ∀ k ∈ ga :: bo Aa', k ∈ ga :: bo Aa ∨ w2.heap.size ≤ k := fun k hk => by
      rcases List.mem_cons.1 hk with rfl | hk
      · exact .inl (by simp)
      · exact (q4 k hk).imp (fun h => List.mem_cons_of_mem _ h) id
    have a5 : ∀ k ∈ ga :: bo Aa', w0.heap.size ≤ k := fun k hk => (b1 k hk).elim (k5 k) (fun h => by omega)
    have a7 : ∀ k ∈ ga :: bo Aa', k ∉ gb :: bo Ab := fun k hk hm => (b1 k hk).elim (fun h => k7 k h hm) (fun h => by have := l2 k hm; omega)
    have a8 : r ∉ ga :: bo Aa' := fun hm => (b1 r hm).elim k8 (fun h => by omega)
    have q5 : Chg [] w0 w := k4.trans q3 (fun x hx => .inr (k5 x hx))
    refine (take_any hk2 ho.rd rb0 rb1 hzb hp cb0 cb1).mono ?_
    rintro e w' (⟨e1, rfl, e2⟩ | ⟨e1, rfl, Ab', e2, e3, e4⟩)
    · exact .inr ⟨rfl, .inr ⟨q1, e1, Aa', Ab, q2.chg e2 (by simp), hk2.chg e2 (by simp), hk3.chg e2 (by simp), q5.trans0 e2, a5, k6, a7, a8, k9⟩⟩
    · have hsz := q3.size
      have hlt2 := q2.lt
      have b2 : ∀ k ∈ gb :: bo Ab', k ∈ gb :: bo Ab ∨ w.heap.size ≤ k := fun k hk => by
        rcases List.mem_cons.1 hk with rfl | hk
        · exact .inl (by simp)
        · exact (e4 k hk).imp (fun h => List.mem_cons_of_mem _ h) id
      refine .inl ⟨rfl, ?_⟩
      simp only [show ¬ (2 : Nat) = 0 by decide, show ¬ (2 : Nat) = 1 by decide, if_false]
      exact ⟨q1, e1, Aa', Ab', q2.chg e3 (fun k hk hm => a7 k hk hm), e2, hk3.chg e3 (fun k hk hm => by simp at hk; subst hk; exact k9 hm), q5.trans e3 (fun x hx => .inr (k6 x hx)), a5,
        fun k hk => (b2 k hk).elim (k6 k) (fun h => by omega), fun k hk hm => (b2 k hm).elim (a7 k hk) (fun h => by have := hlt2 k hk; omega), a8, fun hm => (b2 r hm).elim k9 (fun h => by omega)⟩
/-- a Copy to the Tee -/
theorem copyTee {zs : List Int} {size Ra Rb : Int} {ga gb r c : Nat} {w0 w : World} (hb : ∀ x ∈ zs, 0 ≤ x ∧ x ≤ 255) (hn : zs.length ≤ 1073741824) (hs : size ≤ 9223372036854775807) (ra0 : 0 ≤ Ra) (ra1 : Ra ≤ 9223372036854775807) (rb0 : 0 ≤ Rb) (rb1 : Rb ≤ 9223372036854775807)
    (h0 : TS w0 w ga gb r c Ra Rb [] 0 [] 0) :
    Calls Tryv.prog 19 #[chunkV zs size, .iface 70 (.slice (some ⟨r, 0, none⟩) 2 c)] w fun e w' => ∃ n na x, teeR Ra Rb (cutr (szOf size zs.length) zs) = (n, na, x) ∧ e = .returned (.tuple #[.int .i64 (n : Int), .int .i64 x]) ∧
      TS w0 w' ga gb r c Ra Rb ((cutr (szOf size zs.length) zs).take na).flatten na ((cutr (szOf size zs.length) zs).take n).flatten n := by
  have hflat := cutr_flat (szOf size zs.length) _ zs rfl
  have hpos := cutr_pos (szOf size zs.length) _ zs rfl
  have hcl := cutr_len (szOf size zs.length) zs
  generalize hC : cutr (szOf size zs.length) zs = C at *
  have hfl : ∀ k, (C.take k).flatten.length ≤ 1073741824 := fun k => Nat.le_trans (flat_le C k) (by rw [hflat]; exact hn)
  refine (copyT_any (rv := .slice (some ⟨r, 0, none⟩) 2 c) (S := fun k w => k ≤ C.length ∧ TUp Ra Rb C k ∧ TS w0 w ga gb r c Ra Rb (C.take k).flatten k (C.take k).flatten k)
    (E := fun k w => ∃ na, teeR Ra Rb C = (k, na, 85) ∧ TS w0 w ga gb r c Ra Rb (C.take na).flatten na (C.take k).flatten k) hb hn hs ⟨Nat.zero_le _, TUp.zero _ _ _, by simpa using h0⟩ ?_).mono ?_
  · rw [hC]
    rintro k p wr w2 A c2 hp ⟨hk, hu, hts⟩ hc2 hown hnew
    have hk2 : k < C.length := (List.getElem?_eq_some_iff.1 hp).1
    have hpl : p.length ≤ zs.length := (hpos p (List.mem_of_getElem? hp)).2
    refine (teeTake hts hc2 hown hnew ra0 ra1 rb0 rb1 (hfl k) (hfl k) (by omega) (by omega) (by omega) (by omega) (by omega)).mono ?_
    rintro e w' (⟨rfl, q1, q2, q3⟩ | ⟨rfl, ⟨q1, q3⟩ | ⟨q1, q2, q3⟩⟩)
    · exact .inl ⟨rfl, by omega, hu.step hp q1 q2, by rw [flat_snoc C k p hp]; simpa using q3⟩
    · exact .inr ⟨rfl, k, hu.fullA hp q1, q3⟩
    · exact .inr ⟨rfl, k + 1, hu.fullB hp q1 q2, by rw [flat_snoc C k p hp]; simpa using q3⟩
  · rw [hC]
    rintro e w' (⟨rfl, h1, h2, h3⟩ | ⟨k, hk, rfl, na, h1, h2⟩)
    · exact ⟨C.length, C.length, 0, h2.done, rfl, h3⟩
    · exact ⟨k, na, 85, h1, rfl, h2⟩
end Go.Proofs.Ytcdhmnefmbcmaaa.Vw
