/-
  Layer 17, plain: what is made is read; the sizes sum up.
-/
import Derived.Test.YtelmnmepdmfihaaGrR
namespace Go.Proofs.Ytelmnmepdmfihaa
open Go.RowKit

/-! chains that share no id lie side by side -/
def Disj (a b : List Int) : Prop := ∀ x ∈ a, x ∉ b
theorem lay_far {ls : List Lk} {node : Int} {oa ob : List Int} (h : Good ls node oa (-1)) (hs : SelfOk ls oa) (hd : Disj oa ob) : Good (layG ls node ob ob) node oa (-1) ∧ SelfOk (layG ls node ob ob) oa := by
  have key : ∀ x ∈ oa, 0 ≤ x → (layG ls node ob ob)[x.toNat]? = ls[x.toNat]? := by
    intro x hx h0
    rw [layG_get, show ((x.toNat : Nat) : Int) = x by omega, idxOf?_none.2 (hd x hx)]
    cases ls[x.toNat]? <;> rfl
  refine ⟨⟨h.nodup, fun i a hi => ?_⟩, fun a ha l hl => ?_⟩
  · obtain ⟨h0, l, hl, hr⟩ := h.at_ i a hi
    exact ⟨h0, l, by rw [key a (List.mem_of_getElem? hi) h0]; exact hl, hr⟩
  · obtain ⟨i, hi⟩ := List.getElem?_of_mem ha
    obtain ⟨h0, _⟩ := h.at_ i a hi
    rw [key a ha h0] at hl
    exact hs a ha l hl
def layAll (node : Int) (ls : List Lk) (L : List (List Int)) : List Lk := L.foldl (fun l o => layG l node o o) ls
theorem layAll_tch (node : Int) (L : List (List Int)) : ∀ (ls : List Lk) (n2 id : Int), tch (layAll node ls L) n2 id = tch ls n2 id := by
  induction L with
  | nil => intro ls n2 id; rfl
  | cons o r ih => intro ls n2 id; rw [layAll, List.foldl_cons]; exact (ih _ n2 id).trans (tch_layG ls node n2 o o id)
theorem layAll_good {node : Int} : ∀ (L : List (List Int)) (ls : List Lk), (∀ o ∈ L, ordE ls node [] o = 0) → L.Pairwise Disj → ∀ o, (o ∈ L ∨ (Good ls node o (-1) ∧ SelfOk ls o ∧ ∀ o' ∈ L, Disj o o')) → Good (layAll node ls L) node o (-1) ∧ SelfOk (layAll node ls L) o := by
  intro L
  induction L with
  | nil =>
    intro ls _ _ o h
    rcases h with h | ⟨h1, h2, _⟩
    · simp at h
    · exact ⟨h1, h2⟩
  | cons a r ih =>
    intro ls hE hP o h
    obtain ⟨p1, p2⟩ := List.pairwise_cons.1 hP
    have hE' : ∀ o ∈ r, ordE (layG ls node a a) node [] o = 0 := fun o ho => by rw [ordE_congr (fun id => tch_layG ls node node a a id)]; exact hE o (by simp [ho])
    rw [layAll, List.foldl_cons]
    refine ih (layG ls node a a) hE' p2 o ?_
    rcases h with h | ⟨h1, h2, h3⟩
    · rcases List.mem_cons.1 h with rfl | h
      · obtain ⟨g1, g2⟩ := lay_good (hE o (by simp))
        exact .inr ⟨g1, g2, fun o' ho' => p1 o' ho'⟩
      · exact .inl h
    · obtain ⟨g1, g2⟩ := lay_far h1 h2 (h3 a (by simp))
      exact .inr ⟨g1, g2, fun o' ho' => h3 o' (by simp [ho'])⟩
def chains (bs : List Bn) : List (List Int) := bs.flatMap fun b => [b.f 0, b.f 1, b.f 2]
theorem layB_all (node : Int) : ∀ (bs : List Bn) (ls : List Lk), layB node ls bs = layAll node ls (chains bs)
  | [], ls => rfl
  | b :: r, ls => by
    show layB node (lay3 node ls b) r = layAll node (layG (layG (layG ls node (b.f 0) (b.f 0)) node (b.f 1) (b.f 1)) node (b.f 2) (b.f 2)) (chains r)
    rw [layB_all node r]; rfl

theorem pk_disj {ls : List Lk} {ts : List Int} {node : Int} {ids : List Int} {t u : Int} {k l : Nat} (h : t ≠ u ∨ k ≠ l) : Disj (pk ls ts node ids t k) (pk ls ts node ids u l) := by
  intro x hx hx'
  obtain ⟨_, h1, h2⟩ := mem_pk.1 hx
  obtain ⟨_, h3, h4⟩ := mem_pk.1 hx'
  rcases h with h | h
  · exact h (h1.symm.trans h3)
  · exact h (h2.symm.trans h4)
theorem chains_disj {ls : List Lk} {ts : List Int} {node : Int} {ids : List Int} : ∀ {T : List Int}, T.Pairwise (· < ·) → (chains (T.map (bnOf ls ts node ids))).Pairwise Disj
  | [], _ => by simp [chains]
  | t :: r, h => by
    obtain ⟨h1, h2⟩ := List.pairwise_cons.1 h
    have far : ∀ k, ∀ o ∈ chains (r.map (bnOf ls ts node ids)), Disj (pk ls ts node ids t k) o := by
      intro k o ho
      unfold chains at ho
      obtain ⟨b, hb, ho⟩ := List.mem_flatMap.1 ho
      obtain ⟨u, hu, rfl⟩ := List.mem_map.1 hb
      have htu : t ≠ u := by have := h1 u hu; omega
      simp [bnOf] at ho
      rcases ho with rfl | rfl | rfl <;> exact pk_disj (.inl htu)
    have ih := chains_disj (ls := ls) (ts := ts) (node := node) (ids := ids) h2
    show ([pk ls ts node ids t 0, pk ls ts node ids t 1, pk ls ts node ids t 2] ++ chains (r.map (bnOf ls ts node ids))).Pairwise Disj
    rw [List.pairwise_append]
    refine ⟨?_, ih, fun a ha o ho => ?_⟩
    · simp only [List.pairwise_cons, List.mem_cons, List.mem_nil_iff, or_false, forall_eq_or_imp, forall_eq]
      exact ⟨⟨pk_disj (.inr (by decide)), pk_disj (.inr (by decide))⟩, pk_disj (.inr (by decide)), by simp⟩
    · simp at ha
      rcases ha with rfl | rfl | rfl <;> exact far _ o ho

/-- each chain of the groups that are made stands -/
theorem made_good {ls : List Lk} {ts : List Int} {node t : Int} (ht : t ∈ tys ts (incident ls node)) {k : Nat} (hk : k < 3) : Good (layB node ls (gath ls ts node)) node (pk ls ts node (incident ls node) t k) (-1) ∧ SelfOk (layB node ls (gath ls ts node)) (pk ls ts node (incident ls node) t k) := by
  rw [layB_all]
  refine layAll_good _ _ (fun o ho => ?_) (chains_disj (tys_sorted _ _)) _ (.inl ?_)
  · unfold chains at ho
    obtain ⟨b, hb, ho⟩ := List.mem_flatMap.1 ho
    obtain ⟨u, hu, rfl⟩ := List.mem_map.1 hb
    simp [bnOf] at ho
    rcases ho with rfl | rfl | rfl <;> exact pk_ord (fun _ => rfl)
  · unfold chains
    refine List.mem_flatMap.2 ⟨_, List.mem_map.2 ⟨t, ht, rfl⟩, ?_⟩
    rcases (by omega : k = 0 ∨ k = 1 ∨ k = 2) with rfl | rfl | rfl <;> simp [bnOf]
theorem head_at (ids : List Int) : headOf ids = ids[0]?.getD (-1) := by unfold headOf; rw [List.head?_eq_getElem?]

/-- ways stay where chains are laid -/
def SameEnds (ls ls' : List Lk) : Prop := ls'.length = ls.length ∧ ∀ (i : Nat) (l l' : Lk), ls[i]? = some l → ls'[i]? = some l' → l'.src = l.src ∧ l'.dst = l.dst ∧ l'.live = l.live
theorem SameEnds.refl (ls : List Lk) : SameEnds ls ls := ⟨rfl, fun i l l' h h' => by rw [h] at h'; cases h'; exact ⟨rfl, rfl, rfl⟩⟩
theorem SameEnds.lay {ls ls' : List Lk} (h : SameEnds ls ls') (node : Int) (a f : List Int) : SameEnds ls (layG ls' node a f) := by
  refine ⟨by rw [layG_length]; exact h.1, fun i l l' hl hl' => ?_⟩
  rw [layG_get] at hl'
  cases hm : ls'[i]? with
  | none => rw [hm] at hl'; cases hl'
  | some m =>
    rw [hm] at hl'
    simp only [Option.map_some, Option.some.injEq] at hl'
    obtain ⟨e1, e2, e3⟩ := h.2 i l m hl hm
    subst hl'
    split
    · exact ⟨e1, e2, e3⟩
    · rw [(put_src m node _ _).1, (put_src m node _ _).2.1, (put_src m node _ _).2.2]; exact ⟨e1, e2, e3⟩
theorem SameEnds.layB (ls : List Lk) (node : Int) : ∀ (bs : List Bn) (ls' : List Lk), SameEnds ls ls' → SameEnds ls (layB node ls' bs)
  | [], _, h => h
  | b :: r, _, h => SameEnds.layB ls node r _ (((h.lay node _ _).lay node _ _).lay node _ _)
theorem SameEnds.wy {ls ls' : List Lk} (h : SameEnds ls ls') (node id : Int) : wyOf ls' node id = wyOf ls node id := by
  unfold wyOf
  cases hl : ls[id.toNat]? with
  | none =>
    have : ls'[id.toNat]? = none := by rw [List.getElem?_eq_none_iff] at hl ⊢; rw [h.1]; exact hl
    rw [this]
  | some l =>
    obtain ⟨l', hl'⟩ : ∃ l', ls'[id.toNat]? = some l' := ⟨_, List.getElem?_eq_getElem (by rw [h.1]; exact (List.getElem?_eq_some_iff.1 hl).1)⟩
    obtain ⟨e1, e2, _⟩ := h.2 _ l l' hl hl'
    rw [hl']
    simp only [wayOf, e1, e2]
theorem SameEnds.inc {ls ls' : List Lk} (h : SameEnds ls ls') (node : Int) : incident ls' node = incident ls node := by
  unfold incident
  rw [h.1]
  congr 1
  refine List.filter_congr fun i hi => ?_
  simp at hi
  obtain ⟨l, hl⟩ : ∃ l, ls[i]? = some l := ⟨_, List.getElem?_eq_getElem hi⟩
  obtain ⟨l', hl'⟩ : ∃ l', ls'[i]? = some l' := ⟨_, List.getElem?_eq_getElem (by rw [h.1]; exact hi)⟩
  obtain ⟨e1, e2, e3⟩ := h.2 i l l' hl hl'
  rw [hl, hl']
  simp only [Option.map_some, Option.getD_some, Lk.touches, e1, e2, e3]

theorem zeros_sum : ∀ (T : List Int), (T.map fun _ => (0 : Nat)).sum = 0
  | [] => rfl
  | x :: r => by rw [List.map_cons, List.sum_cons, zeros_sum r]
/-- the sizes of all bunches sum up to all ids -/
def sz (b : Bn) : Nat := (b.f 0).length + (b.f 1).length + (b.f 2).length
theorem sum_sizes {ls : List Lk} {ts : List Int} {node : Int} {T : List Int} (hT : T.Nodup) : ∀ (ids : List Int), (∀ id ∈ ids, tyOf ts id ∈ T) → ((T.map (bnOf ls ts node ids)).map sz).sum = ids.length
  | [], _ => by
    rw [List.map_map]
    have : (sz ∘ bnOf ls ts node []) = fun _ => 0 := by funext t; simp [sz, bnOf, pk_nil]
    rw [this]
    exact zeros_sum T
  | id :: r, h => by
    have ih := sum_sizes (ls := ls) (ts := ts) (node := node) hT r (fun a ha => h a (by simp [ha]))
    have hw := wyOf_lt ls node id
    have step : ∀ t, sz (bnOf ls ts node (id :: r) t) = sz (bnOf ls ts node r t) + if tyOf ts id = t then 1 else 0 := by
      intro t
      simp only [sz, bnOf, pk, List.filter_cons]
      by_cases ht : tyOf ts id = t
      · rcases (by omega : wyOf ls node id = 0 ∨ wyOf ls node id = 1 ∨ wyOf ls node id = 2) with hw | hw | hw <;> simp [ht, hw] <;> omega
      · simp [ht]
    have gen : ∀ (U : List Int), U.Nodup → ((U.map (bnOf ls ts node (id :: r))).map sz).sum = ((U.map (bnOf ls ts node r)).map sz).sum + if tyOf ts id ∈ U then 1 else 0 := by
      intro U
      induction U with
      | nil => intro _; rfl
      | cons u s ih2 =>
        intro hU
        obtain ⟨h1, h2⟩ := List.nodup_cons.1 hU
        simp only [List.map_cons, List.sum_cons, step u, ih2 h2]
        by_cases hu : tyOf ts id = u
        · subst hu; simp [h1]; omega
        · rw [if_neg hu]
          by_cases hs : tyOf ts id ∈ s
          · rw [if_pos hs, if_pos (by simp [hs])]; omega
          · rw [if_neg hs, if_neg (by simp [hs, hu])]; omega
    rw [gen T hT, ih, if_pos (h id (by simp))]
    simp
theorem sum_gath (ls : List Lk) (ts : List Int) (node : Int) : ((gath ls ts node).map sz).sum = (incident ls node).length := by
  unfold gath
  refine sum_sizes ?_ _ (fun id hid => (mem_tys ts _ _).2 ⟨id, hid, rfl⟩)
  exact (tys_sorted ts (incident ls node)).imp (fun {a b} hab => by omega)
theorem sz_pos {ls : List Lk} {ts : List Int} {node t : Int} {ids : List Int} (h : t ∈ tys ts ids) : sz (bnOf ls ts node ids t) ≠ 0 := by
  obtain ⟨id, hid, ht⟩ := (mem_tys ts ids t).1 h
  have hm : id ∈ pk ls ts node ids t (wyOf ls node id) := mem_pk.2 ⟨hid, ht, rfl⟩
  have hl := List.length_pos_of_mem hm
  have hw := wyOf_lt ls node id
  simp only [sz, bnOf]
  rcases (by omega : wyOf ls node id = 0 ∨ wyOf ls node id = 1 ∨ wyOf ls node id = 2) with hw | hw | hw <;> rw [hw] at hl <;> omega

/-- bunches that are alike where it matters -/
def BEq (a b : List Bn) : Prop := a.length = b.length ∧ ∀ (i : Nat) (x y : Bn), a[i]? = some x → b[i]? = some y → x.t = y.t ∧ ∀ k, k < 3 → x.f k = y.f k
theorem BRd.eq {w : World} {A : Option Addr} {n c : Nat} {a b : List Bn} (h : BRd w A n c a) (he : BEq a b) : BRd w A n c b := by
  obtain ⟨rs, h1, h2, h3⟩ := h
  refine ⟨rs, h1, h2.trans he.1, fun i p y hp hy => ?_⟩
  obtain ⟨x, hx⟩ : ∃ x, a[i]? = some x := ⟨_, List.getElem?_eq_getElem (by rw [he.1]; exact (List.getElem?_eq_some_iff.1 hy).1)⟩
  obtain ⟨e1, e2⟩ := he.2 i x y hx hy
  obtain ⟨e3, e4⟩ := h3 i p x hp hx
  exact ⟨e3.trans e1, fun k hk => by rw [← e2 k hk]; exact e4 k hk⟩

/-- one group's chains are read as they were gathered, wherever they stand as laid -/
theorem one_made {ls ls2 : List Lk} {ts : List Int} {node t : Int} {g : Lk} (hse : SameEnds ls ls2) (ht : t ∈ tys ts (incident ls node)) (hgood : ∀ k, k < 3 → Good ls2 node (pk ls ts node (incident ls node) t k) (-1) ∧ SelfOk ls2 (pk ls ts node (incident ls node) t k))
    (hg1 : g.src = t) (hg2 : g.dst = node) (hg3 : ∀ k, k < 3 → hd g k = headOf (pk ls ts node (incident ls node) t k)) :
    (∀ k, k < 3 → idsOf ls2 g k = pk ls ts node (incident ls node) t k) ∧ oneE ls2 ts g = 0 := by
  have hw : ∀ k, k < 3 → walk ls2 g.dst (hd g k) = (pk ls ts node (incident ls node) t k, 0) := fun k hk => by
    rw [hg2, hg3 k hk, head_at]
    exact (hgood k hk).1.walked (hgood k hk).2
  have hids : ∀ k, k < 3 → idsOf ls2 g k = pk ls ts node (incident ls node) t k := fun k hk => by unfold idsOf; rw [hw k hk]
  refine ⟨hids, ?_⟩
  have hway : ∀ k, k < 3 → wayE ls2 ts g k (hd g k) = 0 := fun k hk => by
    unfold wayE
    rw [hw k hk, if_neg (by simp)]
    unfold idsE
    refine if_pos (fun id hid => ?_)
    obtain ⟨_, h1, h2⟩ := mem_pk.1 hid
    rw [hg1, hg2, hse.wy]
    exact ⟨h1, h2⟩
  have hj : oneJ ls2 ts g 3 = 0 := by
    simp only [oneJ]
    simp [hway 0 (by decide), hway 1 (by decide), hway 2 (by decide)]
  unfold oneE
  rw [if_neg (by rw [hj]; simp), hids 0 (by decide), hids 1 (by decide), hids 2 (by decide)]
  exact if_neg (sz_pos (ls := ls) (node := node) ht)

/-- groups that stand in a row from 'start' on, each with its chains in the list: all are read -/
theorem reads_made {ls ls2 : List Lk} {ts : List Int} {node : Int} {gs : List Lk} {start : Nat} (hl : ts.length = ls.length) (hse : SameEnds ls ls2)
    (hgood : ∀ t ∈ tys ts (incident ls node), ∀ k, k < 3 → Good ls2 node (pk ls ts node (incident ls node) t k) (-1) ∧ SelfOk ls2 (pk ls ts node (incident ls node) t k))
    (hgs : ∀ i, i < (gath ls ts node).length → gs[start + i]? = (grps node start (gath ls ts node))[i]?) :
    ∃ bs', reads ls2 ts gs node (if (gath ls ts node).length = 0 then -1 else (start : Int)) = (bs', 0) ∧ BEq bs' (gath ls ts node) := by
  obtain ⟨bs, hbs⟩ : ∃ bs, bs = gath ls ts node := ⟨_, rfl⟩
  rw [← hbs] at hgs ⊢
  -- what stands at place i
  have hat : ∀ (i : Nat) (b : Bn), bs[i]? = some b → ∃ t, t ∈ tys ts (incident ls node) ∧ (tys ts (incident ls node))[i]? = some t ∧ b = bnOf ls ts node (incident ls node) t ∧ ∃ g, gs[start + i]? = some g ∧ g = grp node start bs.length i b := by
    intro i b hb
    have hb' := hb
    rw [hbs] at hb'
    unfold gath at hb'
    rw [List.getElem?_map] at hb'
    cases ht : (tys ts (incident ls node))[i]? with
    | none => rw [ht] at hb'; cases hb'
    | some t =>
      rw [ht] at hb'
      simp at hb'
      refine ⟨t, List.mem_of_getElem? ht, rfl, hb'.symm, grp node start bs.length i b, ?_, rfl⟩
      rw [hgs i (List.getElem?_eq_some_iff.1 hb).1, grps_get, hb]; rfl
  have hone : ∀ (i : Nat) (b : Bn), bs[i]? = some b → ∃ g, gs[start + i]? = some g ∧ g.live = true ∧ g.dst = node ∧ g.src = b.t ∧ (g.tn = if i + 1 < bs.length then (start : Int) + i + 1 else -1) ∧ (∀ k, k < 3 → idsOf ls2 g k = b.f k) ∧ oneE ls2 ts g = 0 := by
    intro i b hb
    obtain ⟨t, ht, _, hbe, g, hg, hge⟩ := hat i b hb
    subst hge
    subst hbe
    obtain ⟨h1, h2⟩ := one_made (g := grp node start bs.length i (bnOf ls ts node (incident ls node) t)) hse ht (hgood t ht) rfl rfl (fun k hk => by
      rcases (by omega : k = 0 ∨ k = 1 ∨ k = 2) with rfl | rfl | rfl <;> rfl)
    exact ⟨_, hg, rfl, rfl, rfl, rfl, h1, h2⟩
  have hty : ∀ (i j : Nat) (x y : Bn), bs[i]? = some x → bs[j]? = some y → i < j → x.t < y.t := by
    intro i j x y hx hy hij
    obtain ⟨t, _, ht, rfl, _⟩ := hat i x hx
    obtain ⟨u, _, hu, rfl, _⟩ := hat j y hy
    obtain ⟨h1, rfl⟩ := List.getElem?_eq_some_iff.1 ht
    obtain ⟨h2, rfl⟩ := List.getElem?_eq_some_iff.1 hu
    exact List.pairwise_iff_getElem.1 (tys_sorted ts (incident ls node)) i j h1 h2 hij
  -- from place i on
  have gen : ∀ (d i f : Nat) (acc : List Bn), d + i = bs.length → d < f → BEq acc (bs.take i) →
      ∃ bs', rdg ls2 ts gs node f acc ((bs.take i).map sz).sum (if i < bs.length then (start : Int) + i else -1) = (bs', 0) ∧ BEq bs' bs := by
    intro d
    induction d with
    | zero =>
      intro i f acc hi hf hb
      obtain ⟨f, rfl⟩ : ∃ f', f = f' + 1 := ⟨f - 1, by omega⟩
      rw [if_neg (by omega), rdg_end]
      rw [List.take_of_length_le (by omega)] at hb ⊢
      rw [if_pos (by rw [hse.inc, hbs, sum_gath])]
      exact ⟨acc, rfl, hb⟩
    | succ d ih =>
      intro i f acc hi hf hb
      obtain ⟨f, rfl⟩ : ∃ f', f = f' + 1 := ⟨f - 1, by omega⟩
      obtain ⟨b, hbi⟩ : ∃ b, bs[i]? = some b := ⟨_, List.getElem?_eq_getElem (by omega)⟩
      obtain ⟨g, hg, hlv, hdn, hsr, htn, hids, hone⟩ := hone i b hbi
      have hc : ¬ (g.dst ≠ node ∨ (∃ b, acc.getLast? = some b ∧ g.src ≤ b.t)) := by
        rintro (h | ⟨x, hx, hle⟩)
        · exact h hdn
        · rw [List.getLast?_eq_getElem?] at hx
          have hxl := (List.getElem?_eq_some_iff.1 hx).1
          have hal : acc.length = i := by rw [hb.1, List.length_take]; omega
          obtain ⟨y, hy⟩ : ∃ y, (bs.take i)[acc.length - 1]? = some y := ⟨_, List.getElem?_eq_getElem (by rw [← hb.1]; exact hxl)⟩
          obtain ⟨e1, _⟩ := hb.2 _ x y hx hy
          rw [List.getElem?_take_of_lt (by omega)] at hy
          have := hty _ i y b hy hbi (by omega)
          omega
      rw [if_pos (by omega), show (start : Int) + (i : Int) = ((start + i : Nat) : Int) by omega, rdg_step hg hlv hc hone]
      have hsz : (idsOf ls2 g 0).length + (idsOf ls2 g 1).length + (idsOf ls2 g 2).length = sz b := by rw [hids 0 (by decide), hids 1 (by decide), hids 2 (by decide)]; rfl
      have htk : bs.take (i + 1) = bs.take i ++ [b] := take_snoc bs i b hbi
      have hsum : ((bs.take (i + 1)).map sz).sum = ((bs.take i).map sz).sum + sz b := by rw [htk]; simp
      rw [hsz, ← hsum, htn]
      obtain ⟨bs', h1, h2⟩ := ih (i + 1) f (acc ++ [oneB ls2 g]) (by omega) (by omega) (by
        rw [htk]
        refine ⟨by simp [hb.1], fun j x y hx hy => ?_⟩
        rcases Nat.lt_or_ge j acc.length with h | h
        · rw [List.getElem?_append_left h] at hx
          rw [List.getElem?_append_left (by rw [← hb.1]; exact h)] at hy
          exact hb.2 j x y hx hy
        · rw [List.getElem?_append_right h] at hx
          rw [List.getElem?_append_right (by rw [← hb.1]; exact h)] at hy
          have hj : j = acc.length := by
            rcases Nat.lt_or_ge acc.length j with h3 | h3
            · rw [List.getElem?_eq_none (by simp; omega)] at hx; cases hx
            · omega
          rw [hj] at hx hy
          rw [hb.1] at hy
          simp at hx hy
          subst hx; subst hy
          exact ⟨hsr, hids⟩)
      refine ⟨bs', ?_, h2⟩
      rw [← h1]
      have hte : (if i + 1 < bs.length then (start : Int) + (i : Int) + 1 else -1) = (if i + 1 < bs.length then (start : Int) + ((i + 1 : Nat) : Int) else -1) := by
        by_cases h : i + 1 < bs.length
        · rw [if_pos h, if_pos h]; omega
        · rw [if_neg h, if_neg h]
      rw [hte]
  -- the whole
  have hgl : bs.length ≤ gs.length := by
    rcases Nat.eq_zero_or_pos bs.length with h | h
    · omega
    · have h1 := hgs (bs.length - 1) (by omega)
      have h2 : (grps node start bs)[bs.length - 1]? = some ((grps node start bs)[bs.length - 1]'(by rw [grps_length]; omega)) := List.getElem?_eq_getElem _
      rw [h2] at h1
      have := (List.getElem?_eq_some_iff.1 h1).1
      omega
  obtain ⟨bs', h1, h2⟩ := gen bs.length 0 (gs.length + 1) [] (by omega) (by omega) ⟨by simp, by simp⟩
  refine ⟨bs', ?_, h2⟩
  unfold reads
  rw [if_neg (by rw [hl, hse.1]; simp)]
  rw [← h1]
  congr 1
  by_cases h : bs.length = 0
  · rw [if_pos h, if_neg (by omega)]
  · rw [if_neg h, if_pos (by omega)]; simp
end Go.Proofs.Ytelmnmepdmfihaa
