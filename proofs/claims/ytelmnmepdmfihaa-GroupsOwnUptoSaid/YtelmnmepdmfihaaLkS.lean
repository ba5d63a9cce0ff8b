/-
  Layer 13, plain: relationships, a chain laid (lay), a chain walked (wk); nothing of the program.
-/
namespace Go.Proofs.Ytelmnmepdmfihaa

structure Lk where
  live : Bool
  src : Int
  dst : Int
  sp : Int
  tp : Int
  sn : Int
  tn : Int
deriving DecidableEq

def Lk.touches (l : Lk) (node : Int) : Bool := l.src == node || l.dst == node

/-- the error's number: 3: there is none of that id; 65: it does not touch the node; 0: it may stand in the chain -/
def tch (ls : List Lk) (node id : Int) : Int :=
  if id < 0 then 3 else
  match ls[id.toNat]? with
  | none => 3
  | some l => if l.live then (if l.touches node then 0 else 65) else 3

theorem tch_some {ls : List Lk} {node id : Int} (h : tch ls node id = 0) : 0 ≤ id ∧ ∃ l, ls[id.toNat]? = some l ∧ l.live = true ∧ l.touches node = true := by
  unfold tch at h
  split at h
  · cases h
  · rename_i h0
    split at h
    · cases h
    · rename_i l hl
      split at h
      · rename_i h1
        split at h
        · rename_i h2; exact ⟨by omega, l, hl, h1, h2⟩
        · cases h
      · cases h
theorem tch_cases (ls : List Lk) (node id : Int) : tch ls node id = 0 ∨ tch ls node id = 3 ∨ tch ls node id = 65 := by
  unfold tch
  split
  · simp
  · split
    · simp
    · split
      · split <;> simp
      · simp

def incident (ls : List Lk) (node : Int) : List Int := ((List.range ls.length).filter fun i => (ls[i]?.map fun l => l.live && l.touches node).getD false).map Int.ofNat

/-- the node's side set -/
def Lk.put (l : Lk) (node p n : Int) : Lk :=
  if l.src = node then (if l.dst = node then { l with sp := p, sn := n, tp := -1, tn := -1 } else { l with sp := p, sn := n }) else { l with tp := p, tn := n }
/-- the next field of the node's side set -/
def Lk.putN (l : Lk) (node n : Int) : Lk := if l.src = node then { l with sn := n } else { l with tn := n }

/-- the error of an order: the first id that may not stand there (7: it was there before) -/
def ordE (ls : List Lk) (node : Int) : List Int → List Int → Int
  | _, [] => 0
  | seen, id :: r => if tch ls node id ≠ 0 then tch ls node id else if id ∈ seen then 7 else ordE ls node (seen ++ [id]) r

def prevOf (ord : List Int) (i : Nat) : Int := if i = 0 then -1 else ord[i - 1]?.getD (-1)
def nextOf (ord : List Int) (i : Nat) : Int := ord[i + 1]?.getD (-1)

/-- the first k of an order laid, each with its neighbours in ord -/
def layG (ls : List Lk) (node : Int) (ord full : List Int) : List Lk :=
  ls.mapIdx fun j l => match ord.idxOf? (j : Int) with
    | none => l
    | some i => l.put node (prevOf full i) (nextOf full i)

theorem layG_length (ls : List Lk) (node : Int) (ord full : List Int) : (layG ls node ord full).length = ls.length := by simp [layG]
theorem layG_get (ls : List Lk) (node : Int) (ord full : List Int) (j : Nat) : (layG ls node ord full)[j]? = (ls[j]?).map fun l => match ord.idxOf? (j : Int) with
    | none => l
    | some i => l.put node (prevOf full i) (nextOf full i) := by
  simp [layG, List.getElem?_mapIdx]
theorem layG_nil (ls : List Lk) (node : Int) (full : List Int) : layG ls node [] full = ls := by
  apply List.ext_getElem?
  intro j
  rw [layG_get]
  cases h : ls[j]? <;> simp [List.idxOf?_nil]

theorem put_src (l : Lk) (node p n : Int) : (l.put node p n).src = l.src ∧ (l.put node p n).dst = l.dst ∧ (l.put node p n).live = l.live := by
  unfold Lk.put; split <;> (try split) <;> simp
theorem tch_layG (ls : List Lk) (node node2 : Int) (ord full : List Int) (id : Int) : tch (layG ls node ord full) node2 id = tch ls node2 id := by
  unfold tch
  rw [layG_get]
  split
  · rfl
  · cases h : ls[id.toNat]? with
    | none => rfl
    | some l =>
      simp only [Option.map_some]
      cases h2 : ord.idxOf? ((id.toNat : Nat) : Int) with
      | none => rfl
      | some i =>
        simp only [Lk.touches, (put_src l node _ _).1, (put_src l node _ _).2.1, (put_src l node _ _).2.2]
        rfl

/-- a chain walked: the ids so far, the id at hand; fuel: more than there are -/
def wk (ls : List Lk) (node : Int) : Nat → List Int → Int → List Int × Int
  | 0, acc, _ => (acc, 0)
  | f + 1, acc, id =>
    if id = -1 then (acc, 0) else
    if tch ls node id ≠ 0 then ([], tch ls node id) else
    match ls[id.toNat]? with
    | none => ([], 3)
    | some l =>
      let p := if l.src = node then l.sp else l.tp
      let n := if l.src = node then l.sn else l.tn
      if p ≠ acc.getLast?.getD (-1) then ([], 101) else
      if l.src = l.dst ∧ (l.tp ≠ -1 ∨ l.tn ≠ -1) then ([], 101) else
      wk ls node f (acc ++ [id]) n

def Lk.pv (l : Lk) (node : Int) : Int := if l.src = node then l.sp else l.tp
def Lk.nx (l : Lk) (node : Int) : Int := if l.src = node then l.sn else l.tn

theorem nodup_bound : ∀ (N : Nat) (l : List Nat), l.Nodup → (∀ x ∈ l, x < N) → l.length ≤ N := by
  intro N
  induction N with
  | zero =>
    intro l _ h
    cases l with
    | nil => simp
    | cons x r => exact absurd (h x (by simp)) (by omega)
  | succ N ih =>
    intro l hn h
    have h1 := ih (l.filter (· ≠ N)) (hn.filter _) (fun x hx => by
      simp at hx
      have := h x hx.1
      omega)
    have h2 : l.length ≤ (l.filter (· ≠ N)).length + 1 := by
      clear ih h1 h
      induction l with
      | nil => simp
      | cons x r ihr =>
        have hr := ihr (List.nodup_cons.1 hn).2
        by_cases hx : x = N
        · subst hx
          have : r.filter (· ≠ x) = r := List.filter_eq_self.2 (fun y hy => by
            have := (List.nodup_cons.1 hn).1
            simp
            rintro rfl
            exact this hy)
          rw [List.filter_cons]
          simp only [ne_eq, not_true, decide_false, Bool.false_eq_true, if_false]
          rw [show (r.filter fun y => decide (¬ y = x)) = r from this]
          simp
        · rw [List.filter_cons]
          simp only [ne_eq, hx, not_false_eq_true, decide_true, if_true, List.length_cons]
          simp only [ne_eq] at hr
          omega
    omega

/-- what has been walked: unlike ids, each with its neighbours; id comes next -/
structure Good (ls : List Lk) (node : Int) (acc : List Int) (id : Int) : Prop where
  nodup : acc.Nodup
  at_ : ∀ (i : Nat) (a : Int), acc[i]? = some a → 0 ≤ a ∧ ∃ l, ls[a.toNat]? = some l ∧ l.live = true ∧ l.touches node = true ∧ l.pv node = prevOf acc i ∧ l.nx node = acc[i + 1]?.getD id

theorem Good.nil (ls : List Lk) (node id : Int) : Good ls node [] id := ⟨List.nodup_nil, fun i a h => by simp at h⟩
theorem Good.len {ls : List Lk} {node : Int} {acc : List Int} {id : Int} (h : Good ls node acc id) : acc.length ≤ ls.length := by
  have h1 : (acc.map Int.toNat).Nodup := by
    have hn : acc.Pairwise (· ≠ ·) := h.nodup
    have : (acc.map Int.toNat).Pairwise (· ≠ ·) := by
      rw [List.pairwise_map]
      refine List.Pairwise.imp_of_mem ?_ hn
      intro a b ha hb hab e
      obtain ⟨i, hi⟩ := List.getElem?_of_mem ha
      obtain ⟨j, hj⟩ := List.getElem?_of_mem hb
      have a1 := (h.at_ i _ hi).1
      have a2 := (h.at_ j _ hj).1
      exact hab (by omega)
    exact this
  have h2 := nodup_bound ls.length _ h1 (fun x hx => by
    obtain ⟨a, ha, rfl⟩ := List.mem_map.1 hx
    obtain ⟨i, hi⟩ := List.getElem?_of_mem ha
    obtain ⟨_, l, hl, _⟩ := h.at_ i a hi
    exact (List.getElem?_eq_some_iff.1 hl).1)
  simpa using h2
theorem getLast_at (acc : List Int) (_ : acc ≠ []) : acc.getLast? = acc[acc.length - 1]? := by
  rw [List.getLast?_eq_getElem?]
theorem Good.step {ls : List Lk} {node : Int} {acc : List Int} {id : Int} {l : Lk} (h : Good ls node acc id) (h0 : 0 ≤ id) (hl : ls[id.toNat]? = some l) (h1 : l.live = true) (h2 : l.touches node = true) (hp : l.pv node = acc.getLast?.getD (-1)) :
    id ∉ acc ∧ Good ls node (acc ++ [id]) (l.nx node) := by
  have hnot : id ∉ acc := by
    intro hm
    obtain ⟨i, hi⟩ := List.getElem?_of_mem hm
    obtain ⟨ha, l', hl', _, _, hp', _⟩ := h.at_ i id hi
    rw [hl] at hl'
    cases hl'
    have hil := (List.getElem?_eq_some_iff.1 hi).1
    have hne : acc ≠ [] := by rintro rfl; simp at hil
    rw [hp', getLast_at acc hne] at hp
    have hlast : acc[acc.length - 1]? = some (acc[acc.length - 1]'(by omega)) := List.getElem?_eq_getElem (by omega)
    have hpos := (h.at_ _ _ hlast).1
    rw [hlast] at hp
    unfold prevOf at hp
    split at hp
    · simp at hp; omega
    · have hi1 : acc[i - 1]? = some (acc[i - 1]'(by omega)) := List.getElem?_eq_getElem (by omega)
      rw [hi1] at hp
      simp at hp
      have hn := List.getElem?_inj (i := i - 1) (j := acc.length - 1) (by omega) h.nodup |>.1 (by rw [hi1, hlast, hp])
      omega
  refine ⟨hnot, ⟨by rw [List.nodup_append]; exact ⟨h.nodup, by simp, fun a ha b hb => by simp at hb; subst hb; rintro rfl; exact hnot ha⟩, fun i a hi => ?_⟩⟩
  by_cases hil : i < acc.length
  · rw [List.getElem?_append_left hil] at hi
    obtain ⟨ha, l', e1, e2, e3, e4, e5⟩ := h.at_ i a hi
    refine ⟨ha, l', e1, e2, e3, ?_, ?_⟩
    · rw [e4]; unfold prevOf; split
      · rfl
      · rw [List.getElem?_append_left (by omega)]
    · rw [e5]
      by_cases hi2 : i + 1 < acc.length
      · rw [List.getElem?_append_left hi2, List.getElem?_eq_getElem hi2]; rfl
      · have : i + 1 = acc.length := by omega
        rw [List.getElem?_append_right (by omega), List.getElem?_eq_none (by omega), this]
        simp
  · rw [List.getElem?_append_right (by omega)] at hi
    have hi0 : i = acc.length := by
      rcases Nat.lt_or_ge acc.length i with h3 | h3
      · rw [List.getElem?_eq_none (by simp; omega)] at hi; cases hi
      · omega
    subst hi0
    simp at hi
    subst hi
    refine ⟨h0, l, hl, h1, h2, ?_, ?_⟩
    · rw [hp]; unfold prevOf
      by_cases hz : acc.length = 0
      · have : acc = [] := List.eq_nil_of_length_eq_zero hz
        subst this; simp
      · rw [if_neg hz, getLast_at acc (by rintro rfl; simp at hz), List.getElem?_append_left (by omega)]
    · simp

theorem wk_step {ls : List Lk} {node : Int} {f : Nat} {acc : List Int} {id : Int} {l : Lk} (hne : id ≠ -1) (ht : tch ls node id = 0) (hl : ls[id.toNat]? = some l) (hp : l.pv node = acc.getLast?.getD (-1)) (hq : ¬ (l.src = l.dst ∧ (l.tp ≠ -1 ∨ l.tn ≠ -1))) :
    wk ls node (f + 1) acc id = wk ls node f (acc ++ [id]) (l.nx node) := by
  unfold Lk.pv at hp
  simp only [wk, hne, ht, hl, hp, hq, if_false, ne_eq, not_true, Lk.nx]
theorem wk_end (ls : List Lk) (node : Int) (f : Nat) (acc : List Int) : wk ls node (f + 1) acc (-1) = (acc, 0) := by simp [wk]
theorem wk_bad {ls : List Lk} {node : Int} {f : Nat} {acc : List Int} {id : Int} (hne : id ≠ -1) (ht : tch ls node id ≠ 0) : wk ls node (f + 1) acc id = ([], tch ls node id) := by
  simp only [wk, hne, if_false]
  rw [if_pos ht]
theorem wk_chain {ls : List Lk} {node : Int} {f : Nat} {acc : List Int} {id : Int} {l : Lk} (hne : id ≠ -1) (ht : tch ls node id = 0) (hl : ls[id.toNat]? = some l) (hb : l.pv node ≠ acc.getLast?.getD (-1) ∨ (l.src = l.dst ∧ (l.tp ≠ -1 ∨ l.tn ≠ -1))) :
    wk ls node (f + 1) acc id = ([], 101) := by
  unfold Lk.pv at hb
  simp only [wk, hne, ht, hl, if_false, ne_eq, not_true]
  rcases hb with hb | hb
  · rw [if_pos hb]
  · rw [if_pos hb]
    simp

/-- the whole walk -/
def walk (ls : List Lk) (node head : Int) : List Int × Int := wk ls node (ls.length + 1) [] head
end Go.Proofs.Ytelmnmepdmfihaa
