/-
  Layer 13, plain: a chain laid is walked; a walk is sound; chains of two nodes stand apart.
-/
import Derived.Test.YtelmnmepdmfihaaLkT
namespace Go.Proofs.Ytelmnmepdmfihaa

theorem ordE_ok {ls : List Lk} {node : Int} : ∀ {ord seen : List Int}, ordE ls node seen ord = 0 → (∀ a ∈ ord, tch ls node a = 0 ∧ a ∉ seen) ∧ ord.Nodup := by
  intro ord
  induction ord with
  | nil => intro seen _; exact ⟨by simp, List.nodup_nil⟩
  | cons id r ih =>
    intro seen h
    simp only [ordE] at h
    split at h
    · rename_i hne; exact absurd h hne
    · rename_i ht
      have ht : tch ls node id = 0 := by simpa using ht
      split at h
      · cases h
      · rename_i hs
        obtain ⟨h1, h2⟩ := ih h
        refine ⟨fun a ha => ?_, List.nodup_cons.2 ⟨fun hm => (h1 id hm).2 (by simp), h2⟩⟩
        rcases List.mem_cons.1 ha with rfl | ha
        · exact ⟨ht, hs⟩
        · exact ⟨(h1 a ha).1, fun hh => (h1 a ha).2 (by simp [hh])⟩

theorem tch_of {ls : List Lk} {node a : Int} {l : Lk} (h0 : 0 ≤ a) (hl : ls[a.toNat]? = some l) (h1 : l.live = true) (h2 : l.touches node = true) : tch ls node a = 0 := by
  unfold tch
  rw [if_neg (by omega), hl]
  simp [h1, h2]

theorem put_pv (l : Lk) (node p n : Int) : (l.put node p n).pv node = p ∧ (l.put node p n).nx node = n := by
  unfold Lk.put Lk.pv Lk.nx
  split
  · split <;> simp [*]
  · simp [*]
theorem put_self (l : Lk) (node p n : Int) (ht : l.touches node = true) : ¬ ((l.put node p n).src = (l.put node p n).dst ∧ ((l.put node p n).tp ≠ -1 ∨ (l.put node p n).tn ≠ -1)) := by
  rw [(put_src l node p n).1, (put_src l node p n).2.1]
  rintro ⟨h1, h2⟩
  simp [Lk.touches, ← h1] at ht
  unfold Lk.put at h2
  rw [if_pos ht, if_pos (by omega)] at h2
  simp at h2
theorem put_touches (l : Lk) (node p n m : Int) : (l.put node p n).touches m = l.touches m := by
  unfold Lk.touches; rw [(put_src l node p n).1, (put_src l node p n).2.1]

/-- no loop's far side is set -/
def SelfOk (ls : List Lk) (ord : List Int) : Prop := ∀ a ∈ ord, ∀ l, ls[a.toNat]? = some l → ¬ (l.src = l.dst ∧ (l.tp ≠ -1 ∨ l.tn ≠ -1))

theorem lay_at {ls : List Lk} {node : Int} {ord : List Int} (h : ordE ls node [] ord = 0) {i : Nat} {a : Int} (hi : ord[i]? = some a) :
    0 ≤ a ∧ ∃ l, ls[a.toNat]? = some l ∧ l.live = true ∧ l.touches node = true ∧ (layG ls node ord ord)[a.toNat]? = some (l.put node (prevOf ord i) (nextOf ord i)) := by
  obtain ⟨h1, h2⟩ := ordE_ok h
  obtain ⟨h0, l, hl, hv, ht⟩ := tch_some (h1 a (List.mem_of_getElem? hi)).1
  refine ⟨h0, l, hl, hv, ht, ?_⟩
  rw [layG_get, hl]
  have hid : ((a.toNat : Nat) : Int) = a := by omega
  rw [hid, idxOf?_nodup h2 hi]
  rfl
theorem lay_good {ls : List Lk} {node : Int} {ord : List Int} (h : ordE ls node [] ord = 0) : Good (layG ls node ord ord) node ord (-1) ∧ SelfOk (layG ls node ord ord) ord := by
  refine ⟨⟨(ordE_ok h).2, fun i a hi => ?_⟩, fun a ha l hl => ?_⟩
  · obtain ⟨h0, l, hl, hv, ht, hg⟩ := lay_at h hi
    exact ⟨h0, _, hg, by rw [(put_src l node _ _).2.2]; exact hv, by rw [put_touches]; exact ht, (put_pv l node _ _).1, (put_pv l node _ _).2⟩
  · obtain ⟨i, hi⟩ := List.getElem?_of_mem ha
    obtain ⟨h0, l', hl', hv, ht, hg⟩ := lay_at h hi
    rw [hg] at hl
    cases hl
    exact put_self l' node _ _ ht

theorem last_take (ord : List Int) (k : Nat) (hk : k ≤ ord.length) : (ord.take k).getLast?.getD (-1) = prevOf ord k := by
  unfold prevOf
  split
  · rename_i h; subst h; rfl
  · rw [List.getLast?_eq_getElem?, List.length_take, Nat.min_eq_left hk, List.getElem?_take, if_pos (by omega)]

/-- a good chain is walked whole -/
theorem Good.walked {ls : List Lk} {node : Int} {ord : List Int} (h : Good ls node ord (-1)) (hs : SelfOk ls ord) : walk ls node (ord[0]?.getD (-1)) = (ord, 0) := by
  have hlen := h.len
  have gen : ∀ (d k f : Nat), d + k = ord.length → d < f → wk ls node f (ord.take k) (ord[k]?.getD (-1)) = (ord, 0) := by
    intro d
    induction d with
    | zero =>
      intro k f hk hf
      obtain ⟨f, rfl⟩ : ∃ f', f = f' + 1 := ⟨f - 1, by omega⟩
      rw [List.getElem?_eq_none (by omega), List.take_of_length_le (by omega)]
      exact wk_end _ _ _ _
    | succ d ih =>
      intro k f hk hf
      obtain ⟨f, rfl⟩ : ∃ f', f = f' + 1 := ⟨f - 1, by omega⟩
      have hka : ord[k]? = some (ord[k]'(by omega)) := List.getElem?_eq_getElem (by omega)
      obtain ⟨h0, l, hl, hv, ht, hp, hn⟩ := h.at_ k _ hka
      rw [hka]
      simp only [Option.getD_some]
      rw [wk_step (l := l) (by omega) (tch_of h0 hl hv ht) hl (by rw [hp, last_take _ _ (by omega)]) (hs _ (List.mem_of_getElem? hka) l hl), hn]
      have : ord.take k ++ [ord[k]'(by omega)] = ord.take (k + 1) := by rw [List.take_add_one, hka]; rfl
      rw [this]
      exact ih (k + 1) f (by omega) (by omega)
  have := gen ord.length 0 (ls.length + 1) (by omega) (by omega)
  simpa [walk] using this

/-- from its inside no chain is walked -/
theorem Good.walked_in {ls : List Lk} {node : Int} {ord : List Int} (h : Good ls node ord (-1)) {i : Nat} {a : Int} (hi : ord[i]? = some a) (h1 : 0 < i) : walk ls node a = ([], 101) := by
  obtain ⟨h0, l, hl, hv, ht, hp, hn⟩ := h.at_ i a hi
  have hil := (List.getElem?_eq_some_iff.1 hi).1
  have hpa : ord[i - 1]? = some (ord[i - 1]'(by omega)) := List.getElem?_eq_getElem (by omega)
  obtain ⟨hp0, _⟩ := h.at_ (i - 1) _ hpa
  refine wk_chain (by omega) (tch_of h0 hl hv ht) hl (.inl ?_)
  rw [hp]
  unfold prevOf
  rw [if_neg (by omega), hpa]
  simp
  omega

theorem put_apart {l : Lk} {a b p n : Int} (hab : a ≠ b) (ha : l.touches a = true) (hb : l.touches b = true) : (l.put b p n).pv a = l.pv a ∧ (l.put b p n).nx a = l.nx a := by
  simp [Lk.touches] at ha hb
  unfold Lk.put Lk.pv Lk.nx
  by_cases h1 : l.src = b
  · have h2 : ¬ l.src = a := by omega
    have h3 : ¬ l.dst = b := by omega
    simp only [h1, if_true, h3, if_false]
    have h4 : ¬ b = a := fun e => hab e.symm
    simp [h4]
  · have h2 : l.dst = b := by omega
    have h3 : l.src = a := by omega
    simp only [h1, if_false]
    simp [h3]
theorem lay_apart {ls : List Lk} {a b : Int} {oa ob : List Int} (hab : a ≠ b) (h : Good ls a oa (-1)) (hs : SelfOk ls oa) (hb : ordE ls b [] ob = 0) : Good (layG ls b ob ob) a oa (-1) ∧ SelfOk (layG ls b ob ob) oa := by
  have key : ∀ (x : Int) (l : Lk), 0 ≤ x → ls[x.toNat]? = some l → l.touches a = true → ∃ l', (layG ls b ob ob)[x.toNat]? = some l' ∧ l'.live = l.live ∧ l'.touches a = true ∧ l'.pv a = l.pv a ∧ l'.nx a = l.nx a ∧ (¬ (l.src = l.dst ∧ (l.tp ≠ -1 ∨ l.tn ≠ -1)) → ¬ (l'.src = l'.dst ∧ (l'.tp ≠ -1 ∨ l'.tn ≠ -1))) := by
    intro x l h0 hl ht
    by_cases hm : x ∈ ob
    · obtain ⟨j, hj⟩ := List.getElem?_of_mem hm
      obtain ⟨_, l2, hl2, _, ht2, hg⟩ := lay_at hb hj
      rw [hl] at hl2
      cases hl2
      refine ⟨_, hg, (put_src l b _ _).2.2, by rw [put_touches]; exact ht, (put_apart hab ht ht2).1, (put_apart hab ht ht2).2, fun _ => put_self l b _ _ ht2⟩
    · refine ⟨l, ?_, rfl, ht, rfl, rfl, fun h => h⟩
      have hid : ((x.toNat : Nat) : Int) = x := by omega
      rw [layG_get, hl, hid, idxOf?_none.2 hm]; rfl
  refine ⟨⟨h.nodup, fun i x hi => ?_⟩, fun x hx l' hl' => ?_⟩
  · obtain ⟨h0, l, hl, hv, ht, hp, hn⟩ := h.at_ i x hi
    obtain ⟨l', e1, e2, e3, e4, e5, _⟩ := key x l h0 hl ht
    exact ⟨h0, l', e1, by rw [e2]; exact hv, e3, by rw [e4]; exact hp, by rw [e5]; exact hn⟩
  · obtain ⟨i, hi⟩ := List.getElem?_of_mem hx
    obtain ⟨h0, l, hl, hv, ht, hp, hn⟩ := h.at_ i x hi
    obtain ⟨l2, e1, e2, e3, e4, e5, e6⟩ := key x l h0 hl ht
    rw [e1] at hl'
    cases hl'
    exact e6 (hs x hx l hl)

/-- a walk that ends well -/
theorem wk_sound {ls : List Lk} {node : Int} : ∀ (f : Nat) (acc : List Int) (id : Int), Good ls node acc id → f + acc.length = ls.length + 1 →
    ((wk ls node f acc id).2 = 0 → Good ls node (wk ls node f acc id).1 (-1) ∧ (if id = -1 then (wk ls node f acc id).1 = acc else ∃ r, (wk ls node f acc id).1 = acc ++ id :: r)) ∧ ((wk ls node f acc id).2 ≠ 0 → (wk ls node f acc id).1 = []) := by
  intro f
  induction f with
  | zero => intro acc id h hf; have := h.len; omega
  | succ f ih =>
    intro acc id h hf
    by_cases hid : id = -1
    · subst hid
      rw [wk_end]
      exact ⟨fun _ => ⟨h, by simp⟩, fun h => absurd rfl h⟩
    · by_cases ht : tch ls node id = 0
      · obtain ⟨h0, l, hl, hv, htt⟩ := tch_some ht
        by_cases hp : l.pv node = acc.getLast?.getD (-1)
        · by_cases hq : l.src = l.dst ∧ (l.tp ≠ -1 ∨ l.tn ≠ -1)
          · rw [wk_chain hid ht hl (.inr hq)]
            exact ⟨fun h => by simp at h, fun _ => rfl⟩
          · rw [wk_step hid ht hl hp hq]
            obtain ⟨_, hg⟩ := h.step h0 hl hv htt hp
            obtain ⟨i1, i2⟩ := ih (acc ++ [id]) (l.nx node) hg (by simp; omega)
            refine ⟨fun he => ?_, i2⟩
            obtain ⟨j1, j2⟩ := i1 he
            refine ⟨j1, ?_⟩
            rw [if_neg hid]
            split at j2
            · exact ⟨[], by rw [j2]⟩
            · obtain ⟨r, hr⟩ := j2
              exact ⟨l.nx node :: r, by rw [hr]; simp⟩
        · rw [wk_chain hid ht hl (.inl hp)]
          exact ⟨fun h => by simp at h, fun _ => rfl⟩
      · rw [wk_bad hid ht]
        exact ⟨fun h => absurd h ht, fun _ => rfl⟩
theorem walk_sound {ls : List Lk} {node head : Int} : ((walk ls node head).2 = 0 → Good ls node (walk ls node head).1 (-1) ∧ (if head = -1 then (walk ls node head).1 = [] else ∃ r, (walk ls node head).1 = head :: r)) ∧ ((walk ls node head).2 ≠ 0 → (walk ls node head).1 = []) := by
  have := wk_sound (ls.length + 1) [] head (Good.nil ls node head) (by simp)
  simpa [walk] using this

theorem nodup_sub_len {α : Type} [DecidableEq α] : ∀ (l m : List α), l.Nodup → (∀ x ∈ l, x ∈ m) → l.length ≤ m.length := by
  intro l
  induction l with
  | nil => intro m _ _; simp
  | cons x r ih =>
    intro m hn hs
    obtain ⟨h1, h2⟩ := List.nodup_cons.1 hn
    have hx := hs x (by simp)
    have := ih (m.erase x) h2 (fun y hy => (List.mem_erase_of_ne (by rintro rfl; exact h1 hy)).2 (hs y (by simp [hy])))
    rw [List.length_erase_of_mem hx] at this
    have hm : 0 < m.length := List.length_pos_of_mem hx
    simp only [List.length_cons]
    omega
theorem Good.inc {ls : List Lk} {node : Int} {ord : List Int} (h : Good ls node ord (-1)) : ord.length ≤ (incident ls node).length := by
  refine nodup_sub_len _ _ h.nodup (fun x hx => ?_)
  obtain ⟨i, hi⟩ := List.getElem?_of_mem hx
  obtain ⟨h0, l, hl, hv, ht, _⟩ := h.at_ i x hi
  unfold incident
  refine List.mem_map.2 ⟨x.toNat, ?_, by simp; omega⟩
  rw [List.mem_filter]
  refine ⟨by simp; exact (List.getElem?_eq_some_iff.1 hl).1, ?_⟩
  simp [hl, hv, ht]
end Go.Proofs.Ytelmnmepdmfihaa
