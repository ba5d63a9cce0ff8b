/-
  Layer 17: Rels.copied, Rels.same.
-/
import Derived.Test.YtelmnmepdmfihaaGrT
import Derived.Test.YtelmnmepdmfihaaLkU
namespace Go.Proofs.Ytelmnmepdmfihaa
open Go.RowKit

/-- relationships and types in new memory -/
def RelsNew (ls : List Lk) (ts : List Int) (n m : Nat) (w : World) (e : Ending) (w' : World) : Prop :=
  ∃ A c B d, e = .returned (.agg #[.slice A n c, .slice B m d]) ∧ Own w' 55 7 A n c (lvs ls) ∧ Own w' 3 1 B m d (iv ts) ∧ Chg [] w w' ∧ (∀ x ∈ bo A, w.heap.size ≤ x) ∧ (∀ x ∈ bo B, w.heap.size ≤ x)

theorem copied_ret {a : Act} {W : World} {Bb : Nat} {s0 s1 : Value} {R : Ending → World → Prop} (hp : a.tmps.getD 2 undef = .pointer (some ⟨Bb, 0, none⟩)) (hd : a.defers = []) (hb : Blk W Bb 25 #[s0, s1])
    (hR : R (.returned (.agg #[s0, s1])) W) : bodyPost Try.prog Try.f11 R .ret a W :=
  bodyPost_ret (v := .agg #[s0, s1]) (results_cell_row (p := 2) (ty := 25) rfl _ W Bb 25 #[s0, s1] (0, 0) _ hp hb Try.underlying25 rfl (by kernel_rfl)) hd hR

set_option maxRecDepth 100000 in
set_option maxHeartbeats 3200000 in
theorem copied_any (A : Option Addr) (n c : Nat) (ls : List Lk) (B : Option Addr) (m d : Nat) (ts : List Int) (w : World) (hrd : Rd w 7 A n c (lvs ls)) (hn : n ≤ 1073741824) (hts : Rd w 1 B m d (iv ts)) (hm : m ≤ 1073741824) :
    Calls Try.prog 11 #[.agg #[.slice A n c, .slice B m d]] w (RelsNew ls ts n m w) := by
  have HR := Lib.hid hrd
  have HO := Lib.hid hts
  clear hrd hts
  go_enter Try.func11, Try.ntmps11
  go_wp2_with fail
  have hb0 := (Blk.new w 25 #[.slice A n c, .slice B m d]).alloc (.cells #[.slice none 0 0, .slice none 0 0] 25)
  have hr0 := Blk.new (w.alloc (.cells #[.slice A n c, .slice B m d] 25)) 25 #[.slice none 0 0, .slice none 0 0]
  rw [show (w.alloc (.cells #[.slice A n c, .slice B m d] 25)).heap.size = w.heap.size + 1 by simp] at hr0
  have hc0 := ((Chg.refl [] w).alloc (.cells #[.slice A n c, .slice B m d] 25)).alloc (.cells #[.slice none 0 0, .slice none 0 0] 25)
  obtain ⟨W, hW⟩ : ∃ W, W = (w.alloc (.cells #[.slice A n c, .slice B m d] 25)).alloc (.cells #[.slice none 0 0, .slice none 0 0] 25) := ⟨_, rfl⟩
  rw [← hW] at hb0 hr0 hc0 ⊢
  have hws : w.heap.size + 1 < W.heap.size := hr0.lt
  clear hW
  have z0 := hb0.cell 0
  have z1 := hb0.cell 1
  simp at z0 z1
  have HR0 := Lib.hid hr0
  have HC0 := Lib.hid hc0
  clear hb0 hr0 hc0
  refine wp_region_held_drew (S := fun w' => Chg [w.heap.size + 1] W w') (by kernel_rfl) ((Chg.refl _ _).drew) (fun hHeld => ?_)
  refine wpAnyH_take (i := 1) (v := ?_) rfl (by kernel_rfl) (by kernel_rfl) (by kernel_rfl) (fun _ _ _ h => h) (Or.inl ⟨by rfl, ?_⟩) (by assumption) ?_
  rotate_left
  · (intro w' hSw; go_simp; try with_reducible rfl)
  try simp only [Act.put, List.getElem_toArray, List.getElem_cons_zero, List.getElem_cons_succ, List.setIfInBounds_toArray, List.set_cons_zero, List.set_cons_succ]
  refine wpAnyH_take (i := 2) (v := ?_) rfl (by kernel_rfl) (by kernel_rfl) (by kernel_rfl) (fun _ _ _ h => h) (Or.inl ⟨by rfl, ?_⟩) (by assumption) ?_
  rotate_left
  · (intro w' hSw; have q := hSw.cell z0 (fun h => by simp at h); go_simp; try with_reducible rfl)
  try simp only [Act.put, List.getElem_toArray, List.getElem_cons_zero, List.getElem_cons_succ, List.setIfInBounds_toArray, List.set_cons_zero, List.set_cons_succ]
  refine wpAnyH_take (i := 5) (v := ?_) rfl (by kernel_rfl) (by kernel_rfl) (by kernel_rfl) (fun _ _ _ h => h) (Or.inl ⟨by rfl, ?_⟩) (by assumption) ?_
  rotate_left
  · (intro w' hSw; go_simp; try with_reducible rfl)
  try simp only [Act.put, List.getElem_toArray, List.getElem_cons_zero, List.getElem_cons_succ, List.setIfInBounds_toArray, List.set_cons_zero, List.set_cons_succ]
  refine wpAnyH_take (i := 6) (v := ?_) rfl (by kernel_rfl) (by kernel_rfl) (by kernel_rfl) (fun _ _ _ h => h) (Or.inl ⟨by rfl, ?_⟩) (by assumption) ?_
  rotate_left
  · (intro w' hSw; have q := hSw.cell z1 (fun h => by simp at h); go_simp; try with_reducible rfl)
  try simp only [Act.put, List.getElem_toArray, List.getElem_cons_zero, List.getElem_cons_succ, List.setIfInBounds_toArray, List.set_cons_zero, List.set_cons_succ]
  refine wpAnyH_ready (rs := [0, 4]) (by kernel_rfl) (by simp) ?_
  refine AllReadyH.cons rfl (fun K hK => ?_) (AllReadyH.cons rfl (fun K hK => ?_) (AllReadyH.nil))
  · go_simp
    refine hK.out _ _ ((((Chg.refl [] W).alloc _).drew).nil _) (fun hHeld => ?_)
    try simp only [Act.put, List.getElem_toArray, List.getElem_cons_zero, List.getElem_cons_succ, List.setIfInBounds_toArray, List.set_cons_zero, List.set_cons_succ]
    clear hK K
    refine wpAnyH_ready (rs := [3, 4]) (by kernel_rfl) (by simp) ?_
    refine AllReadyH.cons rfl (fun K hK => ?_) (AllReadyH.cons rfl (fun K hK => ?_) (AllReadyH.nil))
    · have hcu : Chg [] W (W.alloc (.cells #[] 55)).drew := ((Chg.refl [] W).alloc _).drew
      have hol : Own (W.alloc (.cells #[] 55)).drew 55 7 _ 0 0 [] := (Own.lit W 55 7 #[] 0 (by decide) rfl).chg ((Chg.refl [] _).drew) (fun _ _ => List.not_mem_nil)
      have holt := hol.lt
      refine step_app rfl _ _ rfl etyLinks rfl hol rfl (HR.out.chg (HC0.out.trans0 hcu) (fun _ _ => List.not_mem_nil)) (lvs_one ls) (by unfold maxLen; omega) (by omega) ?_
      intro Aa ca wa hoa hca hna _
      have hSa : Chg [] W wa := hcu.trans hca (fun x hx => .inr (by simp at hx; omega))
      have hNa : ∀ x ∈ bo Aa, w.heap.size ≤ x := fun x hx => by rcases hna x hx with h | h; (simp at h; omega); (have q := hcu.size; have q2 := h.1; omega)
      refine hK.out _ _ (hSa.nil _) (fun hHeld => ?_)
      try simp only [Act.put, List.getElem_toArray, List.getElem_cons_zero, List.getElem_cons_succ, List.setIfInBounds_toArray, List.set_cons_zero, List.set_cons_succ]
      clear hK K
      refine wpAnyH_ready (rs := [4]) (by kernel_rfl) (by simp) ?_
      refine AllReadyH.cons rfl (fun K hK => ?_) (AllReadyH.nil)
      go_simp
      refine hK.out _ _ ((hSa.alloc _).nil _) (fun hHeld => ?_)
      try simp only [Act.put, List.getElem_toArray, List.getElem_cons_zero, List.getElem_cons_succ, List.setIfInBounds_toArray, List.set_cons_zero, List.set_cons_succ]
      clear hK K
      refine wpAnyH_ready (rs := [7]) (by kernel_rfl) (by simp) ?_
      refine AllReadyH.cons rfl (fun K hK => ?_) (AllReadyH.nil)
      have hLB : ∀ x ∈ bo (some (⟨wa.heap.size, 0, none⟩ : Addr)), W.heap.size ≤ x := fun x hx => by simp at hx; have := hSa.size; omega
      have hcv : Chg [] W (wa.alloc (.cells #[] 3)) := hSa.alloc _
      have hob : Own (wa.alloc (.cells #[] 3)) 3 1 _ 0 0 [] := Own.lit wa 3 1 #[] 0 (by decide) rfl
      have hoau : Own (wa.alloc (.cells #[] 3)) 55 7 Aa (0 + n) ca ([] ++ lvs ls) := hoa.chg ((Chg.refl [] wa).alloc _) (fun _ _ => List.not_mem_nil)
      refine step_app rfl _ _ rfl etyInts rfl hob rfl (HO.out.chg (HC0.out.trans0 hcv) (fun _ _ => List.not_mem_nil)) (iv_one ts) (by unfold maxLen; omega) (by omega) ?_
      intro Ab cb wb hob2 hcb hnb _
      have hSb : Chg [] W wb := hcv.trans hcb (fun x hx => .inr (by have := hLB x hx; omega))
      have hNb : ∀ x ∈ bo Ab, w.heap.size ≤ x := fun x hx => by rcases hnb x hx with h | h; (have := hLB x h; omega); (have q := hcv.size; have q2 := h.1; omega)
      have HOA := Lib.hid (hoau.chg hcb (fun x hx hm => hoau.own_ne hob (by decide) x hx hm))
      have HOB := Lib.hid hob2
      have HNA := Lib.hid hNa
      have HNB := Lib.hid hNb
      have HSB := Lib.hid hSb
      clear hoau hob2 hNa hNb hcb hnb
      refine hK.out _ _ (HSB.out.nil _) (fun hHeld => ?_)
      try simp only [Act.put, List.getElem_toArray, List.getElem_cons_zero, List.getElem_cons_succ, List.setIfInBounds_toArray, List.set_cons_zero, List.set_cons_succ]
      clear hK K
      refine wpAnyH_take (i := 8) (v := ?_) rfl (by kernel_rfl) (by kernel_rfl) (by kernel_rfl) (fun _ _ _ h => h) (Or.inl ⟨by rfl, ?_⟩) (by assumption) ?_
      rotate_left
      · (intro w' hSw; go_simp; try with_reducible rfl)
      try simp only [Act.put, List.getElem_toArray, List.getElem_cons_zero, List.getElem_cons_succ, List.setIfInBounds_toArray, List.set_cons_zero, List.set_cons_succ]
      have hr9 := HR0.out.chg HSB.out (fun h => List.not_mem_nil h)
      have y0 := hr9.cell 0
      have y1 := hr9.cell 1
      have e0 := hr9.frozen 0
      have e1 := hr9.frozen 1
      simp at y0 y1
      have HR9 := Lib.hid hr9
      clear hr9
      refine wpAnyH_ready (rs := [9]) (by kernel_rfl) (by simp) ?_
      refine AllReadyH.cons rfl (fun K hK => ?_) (AllReadyH.nil)
      go_simp
      refine hK.out _ _ (((HSB.out.nil _).setCell (.inl (by simp)) _).setCell (.inl (by simp)) _) (fun hHeld => ?_)
      try simp only [Act.put, List.getElem_toArray, List.getElem_cons_zero, List.getElem_cons_succ, List.setIfInBounds_toArray, List.set_cons_zero, List.set_cons_succ]
      clear hK K
      refine wpAnyH_done (by kernel_rfl) ?_ _
      try simp only [Act.put, List.getElem_toArray, List.getElem_cons_zero, List.getElem_cons_succ, List.setIfInBounds_toArray, List.set_cons_zero, List.set_cons_succ]
      go_wp2
      refine copied_ret rfl rfl ((HR9.out.set_ 0 _).set_ 1 _) ⟨Aa, ca, Ab, cb, by first | rfl | simp, ?_, ?_, ((HC0.out.trans0 HSB.out).setCell (.inr (by simp)) _).setCell (.inr (by simp)) _, HNA.out, HNB.out⟩
      · have q := HOA.out.chg (((Chg.refl [w.heap.size + 1] wb).setCell (p := ⟨w.heap.size + 1, 0, none⟩) (.inl (by simp)) (.slice Aa (0 + n) ca)).setCell (p := ⟨w.heap.size + 1, 1, none⟩) (.inl (by simp)) (.slice Ab (0 + m) cb)) (fun x hx hm => HOA.out.blk_ne HR9.out (by decide) x hx (by simpa using hm))
        simpa using q
      · have q := HOB.out.chg (((Chg.refl [w.heap.size + 1] wb).setCell (p := ⟨w.heap.size + 1, 0, none⟩) (.inl (by simp)) (.slice Aa (0 + n) ca)).setCell (p := ⟨w.heap.size + 1, 1, none⟩) (.inl (by simp)) (.slice Ab (0 + m) cb)) (fun x hx hm => HOB.out.blk_ne HR9.out (by decide) x hx (by simpa using hm))
        simpa using q
    · go_simp
      refine hK.out _ _ (((((Chg.refl [] W).alloc _).alloc _).drew).nil _) (fun hHeld => ?_)
      try simp only [Act.put, List.getElem_toArray, List.getElem_cons_zero, List.getElem_cons_succ, List.setIfInBounds_toArray, List.set_cons_zero, List.set_cons_succ]
      clear hK K
      refine wpAnyH_ready (rs := [3]) (by kernel_rfl) (by simp) ?_
      refine AllReadyH.cons rfl (fun K hK => ?_) (AllReadyH.nil)
      have hcu : Chg [] W ((W.alloc (.cells #[] 55)).alloc (.cells #[] 3)).drew := (((Chg.refl [] W).alloc _).alloc _).drew
      have hol : Own ((W.alloc (.cells #[] 55)).alloc (.cells #[] 3)).drew 55 7 _ 0 0 [] := ((Own.lit W 55 7 #[] 0 (by decide) rfl).chg ((Chg.refl [] _).alloc _) (fun _ _ => List.not_mem_nil)).chg ((Chg.refl [] _).drew) (fun _ _ => List.not_mem_nil)
      have holt := hol.lt
      refine step_app rfl _ _ rfl etyLinks rfl hol rfl (HR.out.chg (HC0.out.trans0 hcu) (fun _ _ => List.not_mem_nil)) (lvs_one ls) (by unfold maxLen; omega) (by omega) ?_
      intro Aa ca wa hoa hca hna _
      have hSa : Chg [] W wa := hcu.trans hca (fun x hx => .inr (by simp at hx; omega))
      have hNa : ∀ x ∈ bo Aa, w.heap.size ≤ x := fun x hx => by rcases hna x hx with h | h; (simp at h; omega); (have q := hcu.size; have q2 := h.1; omega)
      have hlb0 : Own ((W.alloc (.cells #[] 55)).alloc (.cells #[] 3)).drew 3 1 (some ⟨W.heap.size + 1, 0, none⟩) 0 0 [] := (Own.litg (W.alloc (.cells #[] 55)) 3 1 #[] 0 (W.heap.size + 1) [] (by simp) rfl (by decide) rfl).chg ((Chg.refl [] _).drew) (fun _ _ => List.not_mem_nil)
      have hlb := hlb0.chg hca (fun x hx hm => hlb0.own_ne hol (by decide) x hx hm)
      have hLB : ∀ x ∈ bo (some (⟨W.heap.size + 1, 0, none⟩ : Addr)), W.heap.size ≤ x := fun x hx => by simp at hx; omega
      refine hK.out _ _ (hSa.nil _) (fun hHeld => ?_)
      try simp only [Act.put, List.getElem_toArray, List.getElem_cons_zero, List.getElem_cons_succ, List.setIfInBounds_toArray, List.set_cons_zero, List.set_cons_succ]
      clear hK K
      refine wpAnyH_ready (rs := [7]) (by kernel_rfl) (by simp) ?_
      refine AllReadyH.cons rfl (fun K hK => ?_) (AllReadyH.nil)
      have hcv : Chg [] W wa := hSa
      have hob : Own wa 3 1 _ 0 0 [] := hlb
      have hoau : Own wa 55 7 Aa (0 + n) ca ([] ++ lvs ls) := hoa
      refine step_app rfl _ _ rfl etyInts rfl hob rfl (HO.out.chg (HC0.out.trans0 hcv) (fun _ _ => List.not_mem_nil)) (iv_one ts) (by unfold maxLen; omega) (by omega) ?_
      intro Ab cb wb hob2 hcb hnb _
      have hSb : Chg [] W wb := hcv.trans hcb (fun x hx => .inr (by have := hLB x hx; omega))
      have hNb : ∀ x ∈ bo Ab, w.heap.size ≤ x := fun x hx => by rcases hnb x hx with h | h; (have := hLB x h; omega); (have q := hcv.size; have q2 := h.1; omega)
      have HOA := Lib.hid (hoau.chg hcb (fun x hx hm => hoau.own_ne hob (by decide) x hx hm))
      have HOB := Lib.hid hob2
      have HNA := Lib.hid hNa
      have HNB := Lib.hid hNb
      have HSB := Lib.hid hSb
      clear hoau hob2 hNa hNb hcb hnb
      refine hK.out _ _ (HSB.out.nil _) (fun hHeld => ?_)
      try simp only [Act.put, List.getElem_toArray, List.getElem_cons_zero, List.getElem_cons_succ, List.setIfInBounds_toArray, List.set_cons_zero, List.set_cons_succ]
      clear hK K
      refine wpAnyH_take (i := 8) (v := ?_) rfl (by kernel_rfl) (by kernel_rfl) (by kernel_rfl) (fun _ _ _ h => h) (Or.inl ⟨by rfl, ?_⟩) (by assumption) ?_
      rotate_left
      · (intro w' hSw; go_simp; try with_reducible rfl)
      try simp only [Act.put, List.getElem_toArray, List.getElem_cons_zero, List.getElem_cons_succ, List.setIfInBounds_toArray, List.set_cons_zero, List.set_cons_succ]
      have hr9 := HR0.out.chg HSB.out (fun h => List.not_mem_nil h)
      have y0 := hr9.cell 0
      have y1 := hr9.cell 1
      have e0 := hr9.frozen 0
      have e1 := hr9.frozen 1
      simp at y0 y1
      have HR9 := Lib.hid hr9
      clear hr9
      refine wpAnyH_ready (rs := [9]) (by kernel_rfl) (by simp) ?_
      refine AllReadyH.cons rfl (fun K hK => ?_) (AllReadyH.nil)
      go_simp
      refine hK.out _ _ (((HSB.out.nil _).setCell (.inl (by simp)) _).setCell (.inl (by simp)) _) (fun hHeld => ?_)
      try simp only [Act.put, List.getElem_toArray, List.getElem_cons_zero, List.getElem_cons_succ, List.setIfInBounds_toArray, List.set_cons_zero, List.set_cons_succ]
      clear hK K
      refine wpAnyH_done (by kernel_rfl) ?_ _
      try simp only [Act.put, List.getElem_toArray, List.getElem_cons_zero, List.getElem_cons_succ, List.setIfInBounds_toArray, List.set_cons_zero, List.set_cons_succ]
      go_wp2
      refine copied_ret rfl rfl ((HR9.out.set_ 0 _).set_ 1 _) ⟨Aa, ca, Ab, cb, by first | rfl | simp, ?_, ?_, ((HC0.out.trans0 HSB.out).setCell (.inr (by simp)) _).setCell (.inr (by simp)) _, HNA.out, HNB.out⟩
      · have q := HOA.out.chg (((Chg.refl [w.heap.size + 1] wb).setCell (p := ⟨w.heap.size + 1, 0, none⟩) (.inl (by simp)) (.slice Aa (0 + n) ca)).setCell (p := ⟨w.heap.size + 1, 1, none⟩) (.inl (by simp)) (.slice Ab (0 + m) cb)) (fun x hx hm => HOA.out.blk_ne HR9.out (by decide) x hx (by simpa using hm))
        simpa using q
      · have q := HOB.out.chg (((Chg.refl [w.heap.size + 1] wb).setCell (p := ⟨w.heap.size + 1, 0, none⟩) (.inl (by simp)) (.slice Aa (0 + n) ca)).setCell (p := ⟨w.heap.size + 1, 1, none⟩) (.inl (by simp)) (.slice Ab (0 + m) cb)) (fun x hx hm => HOB.out.blk_ne HR9.out (by decide) x hx (by simpa using hm))
        simpa using q
  · go_simp
    refine hK.out _ _ ((((Chg.refl [] W).alloc _).drew).nil _) (fun hHeld => ?_)
    try simp only [Act.put, List.getElem_toArray, List.getElem_cons_zero, List.getElem_cons_succ, List.setIfInBounds_toArray, List.set_cons_zero, List.set_cons_succ]
    clear hK K
    refine wpAnyH_ready (rs := [0]) (by kernel_rfl) (by simp) ?_
    refine AllReadyH.cons rfl (fun K hK => ?_) (AllReadyH.nil)
    go_simp
    refine hK.out _ _ (((((Chg.refl [] W).alloc _).alloc _).drew).nil _) (fun hHeld => ?_)
    try simp only [Act.put, List.getElem_toArray, List.getElem_cons_zero, List.getElem_cons_succ, List.setIfInBounds_toArray, List.set_cons_zero, List.set_cons_succ]
    clear hK K
    refine wpAnyH_ready (rs := [3]) (by kernel_rfl) (by simp) ?_
    refine AllReadyH.cons rfl (fun K hK => ?_) (AllReadyH.nil)
    have hcu : Chg [] W ((W.alloc (.cells #[] 3)).alloc (.cells #[] 55)).drew := (((Chg.refl [] W).alloc _).alloc _).drew
    have hol : Own ((W.alloc (.cells #[] 3)).alloc (.cells #[] 55)).drew 55 7 _ 0 0 [] := (Own.litg (W.alloc (.cells #[] 3)) 55 7 #[] 0 (W.heap.size + 1) [] (by simp) rfl (by decide) rfl).chg ((Chg.refl [] _).drew) (fun _ _ => List.not_mem_nil)
    have holt := hol.lt
    refine step_app rfl _ _ rfl etyLinks rfl hol rfl (HR.out.chg (HC0.out.trans0 hcu) (fun _ _ => List.not_mem_nil)) (lvs_one ls) (by unfold maxLen; omega) (by omega) ?_
    intro Aa ca wa hoa hca hna _
    have hSa : Chg [] W wa := hcu.trans hca (fun x hx => .inr (by simp at hx; omega))
    have hNa : ∀ x ∈ bo Aa, w.heap.size ≤ x := fun x hx => by rcases hna x hx with h | h; (simp at h; omega); (have q := hcu.size; have q2 := h.1; omega)
    have hlb0 : Own ((W.alloc (.cells #[] 3)).alloc (.cells #[] 55)).drew 3 1 (some ⟨W.heap.size, 0, none⟩) 0 0 [] := ((Own.lit W 3 1 #[] 0 (by decide) rfl).chg ((Chg.refl [] _).alloc _) (fun _ _ => List.not_mem_nil)).chg ((Chg.refl [] _).drew) (fun _ _ => List.not_mem_nil)
    have hlb := hlb0.chg hca (fun x hx hm => hlb0.own_ne hol (by decide) x hx hm)
    have hLB : ∀ x ∈ bo (some (⟨W.heap.size, 0, none⟩ : Addr)), W.heap.size ≤ x := fun x hx => by simp at hx; omega
    refine hK.out _ _ (hSa.nil _) (fun hHeld => ?_)
    try simp only [Act.put, List.getElem_toArray, List.getElem_cons_zero, List.getElem_cons_succ, List.setIfInBounds_toArray, List.set_cons_zero, List.set_cons_succ]
    clear hK K
    refine wpAnyH_ready (rs := [7]) (by kernel_rfl) (by simp) ?_
    refine AllReadyH.cons rfl (fun K hK => ?_) (AllReadyH.nil)
    have hcv : Chg [] W wa := hSa
    have hob : Own wa 3 1 _ 0 0 [] := hlb
    have hoau : Own wa 55 7 Aa (0 + n) ca ([] ++ lvs ls) := hoa
    refine step_app rfl _ _ rfl etyInts rfl hob rfl (HO.out.chg (HC0.out.trans0 hcv) (fun _ _ => List.not_mem_nil)) (iv_one ts) (by unfold maxLen; omega) (by omega) ?_
    intro Ab cb wb hob2 hcb hnb _
    have hSb : Chg [] W wb := hcv.trans hcb (fun x hx => .inr (by have := hLB x hx; omega))
    have hNb : ∀ x ∈ bo Ab, w.heap.size ≤ x := fun x hx => by rcases hnb x hx with h | h; (have := hLB x h; omega); (have q := hcv.size; have q2 := h.1; omega)
    have HOA := Lib.hid (hoau.chg hcb (fun x hx hm => hoau.own_ne hob (by decide) x hx hm))
    have HOB := Lib.hid hob2
    have HNA := Lib.hid hNa
    have HNB := Lib.hid hNb
    have HSB := Lib.hid hSb
    clear hoau hob2 hNa hNb hcb hnb
    refine hK.out _ _ (HSB.out.nil _) (fun hHeld => ?_)
    try simp only [Act.put, List.getElem_toArray, List.getElem_cons_zero, List.getElem_cons_succ, List.setIfInBounds_toArray, List.set_cons_zero, List.set_cons_succ]
    clear hK K
    refine wpAnyH_take (i := 8) (v := ?_) rfl (by kernel_rfl) (by kernel_rfl) (by kernel_rfl) (fun _ _ _ h => h) (Or.inl ⟨by rfl, ?_⟩) (by assumption) ?_
    rotate_left
    · (intro w' hSw; go_simp; try with_reducible rfl)
    try simp only [Act.put, List.getElem_toArray, List.getElem_cons_zero, List.getElem_cons_succ, List.setIfInBounds_toArray, List.set_cons_zero, List.set_cons_succ]
    have hr9 := HR0.out.chg HSB.out (fun h => List.not_mem_nil h)
    have y0 := hr9.cell 0
    have y1 := hr9.cell 1
    have e0 := hr9.frozen 0
    have e1 := hr9.frozen 1
    simp at y0 y1
    have HR9 := Lib.hid hr9
    clear hr9
    refine wpAnyH_ready (rs := [9]) (by kernel_rfl) (by simp) ?_
    refine AllReadyH.cons rfl (fun K hK => ?_) (AllReadyH.nil)
    go_simp
    refine hK.out _ _ (((HSB.out.nil _).setCell (.inl (by simp)) _).setCell (.inl (by simp)) _) (fun hHeld => ?_)
    try simp only [Act.put, List.getElem_toArray, List.getElem_cons_zero, List.getElem_cons_succ, List.setIfInBounds_toArray, List.set_cons_zero, List.set_cons_succ]
    clear hK K
    refine wpAnyH_done (by kernel_rfl) ?_ _
    try simp only [Act.put, List.getElem_toArray, List.getElem_cons_zero, List.getElem_cons_succ, List.setIfInBounds_toArray, List.set_cons_zero, List.set_cons_succ]
    go_wp2
    refine copied_ret rfl rfl ((HR9.out.set_ 0 _).set_ 1 _) ⟨Aa, ca, Ab, cb, by first | rfl | simp, ?_, ?_, ((HC0.out.trans0 HSB.out).setCell (.inr (by simp)) _).setCell (.inr (by simp)) _, HNA.out, HNB.out⟩
    · have q := HOA.out.chg (((Chg.refl [w.heap.size + 1] wb).setCell (p := ⟨w.heap.size + 1, 0, none⟩) (.inl (by simp)) (.slice Aa (0 + n) ca)).setCell (p := ⟨w.heap.size + 1, 1, none⟩) (.inl (by simp)) (.slice Ab (0 + m) cb)) (fun x hx hm => HOA.out.blk_ne HR9.out (by decide) x hx (by simpa using hm))
      simpa using q
    · have q := HOB.out.chg (((Chg.refl [w.heap.size + 1] wb).setCell (p := ⟨w.heap.size + 1, 0, none⟩) (.inl (by simp)) (.slice Aa (0 + n) ca)).setCell (p := ⟨w.heap.size + 1, 1, none⟩) (.inl (by simp)) (.slice Ab (0 + m) cb)) (fun x hx hm => HOB.out.blk_ne HR9.out (by decide) x hx (by simpa using hm))
      simpa using q
end Go.Proofs.Ytelmnmepdmfihaa
