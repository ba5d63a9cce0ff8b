/-
  Layer 08: clone: a tree in new memory.
-/
import Derived.Test.YtgomofeidghmiaaVfJ
import Derived.Test.YtgomofeidghmiaaVfI
namespace Go.Proofs.Ytgomofeidghmiaa
open Go.RowKit

/-- the same names and files -/
def Copied (g g' : GTr) : Prop := ∀ k, (aget g' k).map (·.2) = (aget g k).map (·.2)
theorem TreeIs.copied {ib : List Nat} {g g' : GTr} {T : Tr} (h : TreeIs ib g T) (hc : Copied g g') : TreeIs ib g' T := by
  refine ⟨fun k => ?_, fun k d F hd hF n => ?_⟩
  · have := congrArg Option.isSome (hc k)
    rw [Option.isSome_map, Option.isSome_map] at this
    rw [this]; exact h.top k
  · have := hc k
    rw [hd] at this
    cases hg : aget g k with
    | none => rw [hg] at this; cases this
    | some e =>
      rw [hg] at this
      simp only [Option.map_some, Option.some.injEq] at this
      rw [this]
      exact h.sub k e F hg hF n
theorem copied_of {g g' : GTr} (hn : (g.map Prod.fst).Nodup) (hn' : (g'.map Prod.fst).Nodup) (h1 : ∀ p ∈ g', ∃ q ∈ g, q.1 = p.1 ∧ q.2.2 = p.2.2) (h2 : (g'.map Prod.fst).Perm (g.map Prod.fst)) : Copied g g' := by
  intro k
  cases hk : aget g' k with
  | none =>
    have : k ∉ g.map Prod.fst := fun h => (aget_none.1 hk) (h2.mem_iff.2 h)
    rw [aget_none.2 this]
  | some e =>
    obtain ⟨q, hq, e1, e2⟩ := h1 _ (aget_mem hk)
    have := aget_of_mem hn (show (k, q.2) ∈ g by rw [← show q.1 = k from e1]; exact hq)
    rw [this]
    simp only [Option.map_some, Option.some.injEq]
    exact e2.symm
theorem aput_new {κ α : Type} [DecidableEq κ] {t : List (κ × α)} {k : κ} (h : k ∉ t.map Prod.fst) (v : α) : aput t k v = t ++ [(k, v)] := by
  unfold aput
  rw [aidx_none.2 h]

set_option maxRecDepth 100000 in
set_option maxHeartbeats 3200000 in
theorem tclone_any (w : World) (tb : Nat) (g : GTr) (h : Tree w tb g) :
    Calls Try.prog 39 #[.map (some tb)] w fun e w' => ∃ ob g', e = .returned (.map (some ob)) ∧ Tree w' ob g' ∧ (∀ x ∈ tbl ob g', w.heap.size ≤ x) ∧ Chg [] w w' ∧ Copied g g' := by
  have HT := Lib.hid h
  have hmm := @run_makeMap Try.prog
  have hal : Chg [] w (w.alloc (.map #[] 0)) := (Chg.refl _ _).alloc _
  have hmp := h.top.chg hal List.not_mem_nil
  have HM : Hid (Mp (w.alloc (.map #[] 0)) w.heap.size kvS []) := Lib.hid (Mp.made w kvS)
  clear h hal
  go_enter Try.func39, Try.ntmps39
  go_wp2_with (at_range; refine wpList_range_mp rfl _ _ rfl Try.underlying73 rfl hmp ?_; intro w0 hit0 hc0 hs0)
  go_frame
  obtain ⟨ob, hob⟩ : ∃ ob, w.heap.size = ob := ⟨_, rfl⟩
  obtain ⟨r, hr⟩ : ∃ r, (w.alloc (.map #[] 0)).heap.size = r := ⟨_, rfl⟩
  rw [hr] at hit0
  have hc1 : Chg [] w w0 := ((Chg.refl [] w).alloc _).trans0 hc0
  have hm0 : Mp w0 ob kvS [] := by rw [← hob]; exact HM.out.chg hc0 List.not_mem_nil
  rw [hr, hob]
  have hrl : w.heap.size ≤ r := by rw [← hr]; simp
  have hne : r ∉ [ob] := by rw [← hr, ← hob]; simp
  have hnt : r ∉ tbl tb g := fun hm => by have := HT.out.lt r hm; rw [← hr] at this; simp at this; omega
  have hol : w.heap.size ≤ ob := by omega
  have hot : tb ≠ ob := by have := HT.out.top.lt; omega
  have HA := Lib.hid (show w.heap.size ≤ r ∧ r ∉ [ob] ∧ r ∉ tbl tb g ∧ w.heap.size ≤ ob ∧ tb ≠ ob from ⟨hrl, hne, hnt, hol, hot⟩)
  clear hrl hne hnt hol hot
  go_loopw [4] (fun _ wr => ∃ done todo g', MpIt wr tb r kvS (tval g) todo ∧ (done ++ todo).Perm (tval g) ∧ Tree wr ob g' ∧ (∀ x ∈ tbl ob g', w.heap.size ≤ x) ∧ Chg [] w wr ∧ (∀ p ∈ g', ∃ q ∈ g, q.1 = p.1 ∧ q.2.2 = p.2.2) ∧ g'.map Prod.fst = done.map Prod.fst) (fun _ wr => wr.rangeLeft tb r)
  case atStart =>
    exact ⟨[], tval g, [], hit0, List.Perm.refl _, ⟨hm0, by simp, by simp⟩, by simp [tbl]; exact HA.out.2.2.2.1, hc1, by simp, rfl⟩
  case round =>
    obtain ⟨done, todo, g', hit, hperm, htr, hnew, hch, hcp, hks⟩ := hrel
    have HP := Lib.hid hperm
    have HTR := Lib.hid htr
    have HN := Lib.hid hnew
    have HCH := Lib.hid hch
    have HCP := Lib.hid hcp
    have HKS := Lib.hid hks
    have HIT := Lib.hid hit
    clear hperm htr hnew hch hcp hks
    go_wp2_with (at_next; refine wpList_next_mp rfl _ rfl rfl hit ?_ ?_)
    · intro hdone
      have HD := Lib.hid hdone
      clear hdone
      go_wp2
      go_ret
      have hp := HP.out
      rw [HD.out, List.append_nil] at hp
      have hn := HTR.out.nodup
      refine ⟨ob, g', rfl, HTR.out, HN.out, HCH.out, copied_of HT.out.nodup hn HCP.out ?_⟩
      rw [HKS.out, ← tval_fst]
      exact hp.map _
    · intro k v todo' w1 hp hit1 hch1 hen
      have hkv : (k, v) ∈ tval g := HP.out.mem_iff.1 (List.mem_append_right _ (hp.mem_iff.2 (List.mem_cons_self ..)))
      obtain ⟨q, hq, hqe⟩ := List.mem_map.1 hkv
      injection hqe with hq1 hq2
      subst hq1
      subst hq2
      have hkn : q.1 ∉ g'.map Prod.fst := by
        rw [HKS.out]
        intro hm
        have hnd := (HP.out.map Prod.fst).nodup_iff.2 (by rw [tval_fst]; exact HT.out.nodup)
        rw [List.map_append, List.nodup_append] at hnd
        exact hnd.2.2 _ hm _ (((hp.map Prod.fst).mem_iff).2 (by simp)) rfl
      have hne1 := HIT.out.ne
      have hch1' : Chg [] w w1 := HCH.out.trans hch1 (fun x hx => by simp only [List.mem_singleton] at hx; subst hx; exact .inr HA.out.1)
      have hsub := (HT.out.sub q hq).chg hch1' List.not_mem_nil
      have htr1 := HTR.out.keep hch1 (fun x hx hm => by
        simp only [List.mem_singleton] at hm
        subst hm
        rcases List.mem_cons.1 hx with rfl | hx
        · exact HA.out.2.1 (by simp)
        · obtain ⟨p, hp', rfl⟩ := List.mem_map.1 hx
          have h1 := (HTR.out.sub p hp')
          obtain ⟨es, c, hb, _⟩ := h1
          obtain ⟨_, _, _, _, _, _, _, _, _, _, hbr, _⟩ := HIT.out
          rw [hb] at hbr; cases hbr)
      have HSUB := Lib.hid hsub
      have HPP := Lib.hid hp
      have HKN := Lib.hid hkn
      have HC1 := Lib.hid hch1'
      have HTR1 := Lib.hid htr1
      have HIT1 := Lib.hid hit1
      have HQ := Lib.hid hq
      clear hp hkv hkn hch1 hch1' htr1 hq hit hsub
      go_wp2_with fail
      refine (mclone_any w1 q.2.1 _ HSUB.out).mono ?_
      rintro e w2 ⟨rfl, hm2, hc2⟩
      obtain ⟨w3, hu, hm3, hc3⟩ := Mp.update (HTR1.out.top.chg hc2 List.not_mem_nil) (string_key Try.underlying9) Try.underlying73 q.1 (.map (some w1.heap.size))
      have hc23 : Chg [ob] w1 w3 := (hc2.nil [ob]).trans hc3 (fun x hx => .inl hx)
      have hlo := HTR1.out.top.lt
      have hwo : w1.heap.size ≠ ob := by omega
      have hro := HA.out.2.1
      have HTR3 := Lib.hid (Tree.put (d := q.1) (fb := w1.heap.size) (f := q.2.2) HTR1.out.nodup HTR1.out.sub HTR1.out.apart hc23 hm3 (hm2.chg hc3 (by simpa using hwo)) (by simpa using hwo) (fun p hp _ => by have := (HTR1.out.sub p hp).lt; omega) (fun p hp _ => by simpa using HTR1.out.ne_top hp))
      have hlt := HIT1.out.lt
      have HIT3 := Lib.hid (HIT1.out.chg hc23 (by simpa using HA.out.2.2.2.2) hro)
      have HC3 : Hid (Chg [] w w3) := Lib.hid (HC1.out.trans hc23 (fun x hx => by simp only [List.mem_singleton] at hx; subst hx; exact .inr HA.out.2.2.2.1))
      have HSZ : Hid (w.heap.size ≤ w1.heap.size) := Lib.hid HC1.out.size
      clear hm2 hc2 hm3 hc3 hc23 hlo hwo hro hlt hne1
      go_wp2
      go_roundw
      case rel =>
        refine ⟨done ++ [(q.1, Value.map (some q.2.1))], todo', aput g' q.1 (w1.heap.size, q.2.2), HIT3.out, ?_, HTR3.out, ?_, HC3.out, ?_, ?_⟩
        · rw [List.append_assoc]
          exact (List.Perm.append_left done HPP.out.symm).trans HP.out
        · intro x hx
          rcases tbl_aput (B := w.heap.size) HTR1.out.nodup (.inr HSZ.out) x hx with h | h
          · exact HN.out x h
          · exact h
        · intro p hp
          rcases (mem_aput HTR1.out.nodup).1 hp with rfl | ⟨hp, _⟩
          · exact ⟨q, HQ.out, rfl, rfl⟩
          · exact HCP.out p hp
        · rw [aput_new HKN.out, List.map_append, List.map_append, HKS.out]
          rfl
      case measure =>
        have h1 := HIT3.out.left_eq
        have h2 := HIT.out.left_eq
        have h3 := HPP.out.length_eq
        rw [h1, h2, h3]
        simp
end Go.Proofs.Ytgomofeidghmiaa
