/-
  Layer 13: Thread.
-/
import Derived.Test.YtelmnmepdmfihaaLkC
import Derived.Test.YtelmnmepdmfihaaMapM
namespace Go.Proofs.Ytelmnmepdmfihaa
open Go.RowKit

/-- the document's answer: the list with the chain laid, or nothing -/
def thr (ls : List Lk) (node : Int) (ord : List Int) : List Lk := if ordE ls node [] ord = 0 then layG ls node ord ord else []

/-- k ids of an order have been laid -/
structure ThrOk (ls : List Lk) (node : Int) (ord : List Int) (k : Nat) : Prop where
  seen : ordE ls node [] ord = ordE ls node (ord.take k) (ord.drop k)
  nodup : (ord.take k).Nodup
  pos : ∀ a ∈ ord.take k, 0 ≤ a ∧ a.toNat < ls.length

theorem ThrOk.zero (ls : List Lk) (node : Int) (ord : List Int) : ThrOk ls node ord 0 := ⟨by simp, by simp, by simp⟩
theorem drop_cons_at {α : Type} {l : List α} {k : Nat} {x : α} (h : l[k]? = some x) : l.drop k = x :: l.drop (k + 1) := by
  obtain ⟨hk, rfl⟩ := List.getElem?_eq_some_iff.1 h
  exact List.drop_eq_getElem_cons hk
theorem ThrOk.bad {ls : List Lk} {node : Int} {ord : List Int} {k : Nat} {id : Int} (h : ThrOk ls node ord k) (hk : ord[k]? = some id) (ht : tch ls node id ≠ 0) : ordE ls node [] ord = tch ls node id := by
  rw [h.seen, drop_cons_at hk, ordE_bad ht]
theorem ThrOk.twice {ls : List Lk} {node : Int} {ord : List Int} {k : Nat} {id : Int} (h : ThrOk ls node ord k) (hk : ord[k]? = some id) (ht : tch ls node id = 0) (hm : id ∈ ord.take k) : ordE ls node [] ord = 7 := by
  rw [h.seen, drop_cons_at hk, ordE_twice ht hm]
theorem ThrOk.step {ls : List Lk} {node : Int} {ord : List Int} {k : Nat} {id : Int} (h : ThrOk ls node ord k) (hk : ord[k]? = some id) (ht : tch ls node id = 0) (hm : id ∉ ord.take k) : ThrOk ls node ord (k + 1) := by
  obtain ⟨h0, l, hl, _, _⟩ := tch_some ht
  have hts := take_snoc ord k id hk
  refine ⟨by rw [h.seen, drop_cons_at hk, ordE_step ht hm, hts], ?_, ?_⟩
  · rw [hts, List.nodup_append]
    exact ⟨h.nodup, by simp, fun a ha b hb => by simp at hb; subst hb; rintro rfl; exact hm ha⟩
  · intro a ha
    rw [hts] at ha
    rcases List.mem_append.1 ha with ha | ha
    · exact h.pos a ha
    · simp at ha; subst ha; exact ⟨h0, (List.getElem?_eq_some_iff.1 hl).1⟩
theorem ThrOk.done {ls : List Lk} {node : Int} {ord : List Int} {k : Nat} (h : ThrOk ls node ord k) (hk : ord.length ≤ k) : ordE ls node [] ord = 0 := by
  rw [h.seen, List.drop_eq_nil_of_le hk]; rfl

/-- the map counts just the ids met, each once -/
def Met (m : List (Int × Value)) (seen : List Int) : Prop := (m.map Prod.fst).Nodup ∧ ∀ x, aget m x = if x ∈ seen then some (.int .i64 1) else none
theorem Met.nil : Met [] [] := ⟨by simp, fun x => by simp [aget]⟩
theorem Met.step {m : List (Int × Value)} {ord : List Int} {k : Nat} {id : Int} (h : Met m (ord.take k)) (hk : ord[k]? = some id) : Met (aput m id (.int .i64 1)) (ord.take (k + 1)) := by
  refine ⟨aput_keys_nodup h.1 _ _, fun x => ?_⟩
  rw [aget_aput h.1, take_snoc ord k id hk, h.2]
  by_cases hx : id = x
  · subst hx; simp
  · have hx' : ¬ x = id := fun e => hx e.symm
    simp [hx, hx']

def lastOf (ord : List Int) (k : Nat) : Int := (ord.take k).getLast?.getD (-1)
theorem lastOf_zero (ord : List Int) : lastOf ord 0 = -1 := rfl
theorem lastOf_succ {ord : List Int} {k : Nat} {id : Int} (h : ord[k]? = some id) : lastOf ord (k + 1) = id := by
  unfold lastOf; rw [take_snoc ord k id h]; simp

/-- a list and an error's number are told -/
def ThrTo (ls : List Lk) (node : Int) (ord : List Int) (w : World) (e : Ending) (w' : World) : Prop :=
  ∃ A N c E, e = .returned (.tuple #[.slice A N c, .int .i64 E]) ∧ E = ordE ls node [] ord ∧ Own w' 55 7 A N c (lvs (thr ls node ord)) ∧ N = (thr ls node ord).length ∧ Chg [] w w' ∧ ∀ k ∈ bo A, w.heap.size ≤ k

theorem int_zero (w : World) : (zeroValue 3).run Try.prog w = .ok (.int .i64 0) w := by
  have h : Try.t3.zero = some (.int .i64 0) := by kernel_rfl
  simp [go_sem, zeroValue, h]

theorem mp_key : KeyT Try.prog 3 (fun z : Int => Value.int .i64 z) := int_key Try.underlying3
theorem mp_und : Try.prog.underlying 85 = some (.map 3 3) := Try.underlying85

theorem Own.mp_ne {w : World} {e : TypeId} {sz n c b : Nat} {A : Option Addr} {xs : List Value} {m : List (Int × Value)} (h : Own w e sz A n c xs) (hm : Mp w b (fun z : Int => Value.int .i64 z) m) : ∀ k ∈ bo A, k ≠ b := by
  intro k hk
  rcases h.form with ⟨rfl, _⟩ | ⟨g, cur, rfl, hb, _⟩
  · simp at hk
  · simp at hk
    subst hk
    rintro rfl
    obtain ⟨es, cl, h1, _⟩ := hm
    unfold Blk at hb
    rw [hb] at h1
    cases h1

theorem Own.c1 {w : World} {e : TypeId} {g n c : Nat} {ls : List Lk} (h : Own w e 7 (some ⟨g, 0, none⟩) n c (lvs ls)) {j : Nat} {l : Lk} (hj : ls[j]? = some l) : w.cell? ⟨g, j * 7 + 1, none⟩ = some (.int .i64 l.src) := by
  obtain ⟨g', hg, hat, _⟩ := h.lk hj
  injection hg with hg
  injection hg with hg
  subst hg
  exact hat.c1
theorem Own.cl {w : World} {e : TypeId} {g n c : Nat} {ls : List Lk} (h : Own w e 7 (some ⟨g, 0, none⟩) n c (lvs ls)) {j : Nat} {l : Lk} (hj : ls[j]? = some l) {k : Nat} {u : Value} (hk : k < 7) (hu : (lv l)[k]? = some u) : w.cell? ⟨g, j * 7 + k, none⟩ = some u := by
  rcases h.form with ⟨h, _⟩ | ⟨g', cur, hg, hb, hn, hm, hs, ht⟩
  · cases h
  · injection hg with hg
    injection hg with hg
    subst hg
    rw [hb.cell]
    have h1 : (lvs ls)[j * 7 + k]? = some u := by rw [lvs_get _ _ _ hk, hj]; exact hu
    rw [← ht, List.getElem?_take] at h1
    split at h1
    · simpa using h1
    · cases h1
theorem Own.fz {w : World} {e : TypeId} {g n c : Nat} {xs : List Value} (h : Own w e 7 (some ⟨g, 0, none⟩) n c xs) (k : Nat) : w.frozen? ⟨g, k, none⟩ = false := by
  rcases h.form with ⟨h, _⟩ | ⟨g', cur, hg, hb, _⟩
  · cases h
  · injection hg with hg
    injection hg with hg
    subst hg
    exact hb.frozen k
theorem Own.set1 {w : World} {e : TypeId} {g n c : Nat} {ls : List Lk} (h : Own w e 7 (some ⟨g, 0, none⟩) n c (lvs ls)) {j : Nat} {l : Lk} (hj : ls[j]? = some l) {k : Nat} {v : Value} {l' : Lk} (hk : k < 7) (hl : lv l' = (lv l).set k v) :
    Own (w.setCell ⟨g, j * 7 + k, none⟩ v) e 7 (some ⟨g, 0, none⟩) n c (lvs (ls.set j l')) := by
  obtain ⟨g', hg, _, _, hs⟩ := h.lk hj
  injection hg with hg
  injection hg with hg
  subst hg
  exact hs k v l' hk hl
theorem Own.set2 {w : World} {e : TypeId} {g n c : Nat} {ls : List Lk} (h : Own w e 7 (some ⟨g, 0, none⟩) n c (lvs ls)) {j : Nat} {l : Lk} (hj : ls[j]? = some l) {k k' : Nat} {v v' : Value} {l'' : Lk} (hk : k < 7) (hk' : k' < 7) (h1 : ∃ l', lv l' = (lv l).set k v) (hl : lv l'' = ((lv l).set k v).set k' v') :
    Own ((w.setCell ⟨g, j * 7 + k, none⟩ v).setCell ⟨g, j * 7 + k', none⟩ v') e 7 (some ⟨g, 0, none⟩) n c (lvs (ls.set j l'')) := by
  obtain ⟨l', h1⟩ := h1
  have h2 := h.set1 hj hk h1
  have h3 := h2.set1 (j := j) (l := l') (by rw [List.getElem?_set, if_pos rfl, if_pos (List.getElem?_eq_some_iff.1 hj).1]) hk' (l' := l'') (by rw [h1]; exact hl)
  rwa [List.set_set] at h3

set_option maxHeartbeats 12800000 in
theorem thread_any (A : Option Addr) (n c : Nat) (ls : List Lk) (node : Int) (B : Option Addr) (m d : Nat) (ord : List Int) (w : World) (hrd : Rd w 7 A n c (lvs ls)) (hn : n ≤ 1073741824) (hor : Rd w 1 B m d (iv ord)) (hm : m ≤ 1073741824) :
    Calls Try.prog 32 #[.slice A n c, .int .i64 node, .slice B m d] w (ThrTo ls node ord w) := by
  have hl : ls.length = n := by have := hrd.1; rw [lvs_length] at this; omega
  have hol : ord.length = m := by have := hor.1; simp at this; omega
  have HR := Lib.hid hrd
  have HO := Lib.hid hor
  have HL := Lib.hid hl
  have HM := Lib.hid hol
  clear hrd hor hl hol
  go_enter Try.func32, Try.ntmps32
  go_wp2_with fail
  refine (lclone_any A n c ls w hn HR.out).mono ?_
  rintro e w1 ⟨A1, c1, rfl, hown, hch, hnew⟩
  have HW1 := Lib.hid hnew
  clear hnew
  have hmm := @run_makeMap Try.prog
  go_wp2
  go_loopw [10, 22] (fun l q wr => ∃ (k : Nat) (mm : List (Int × Value)), k ≤ m ∧ q = .int .i64 k ∧ l = .int .i64 (lastOf ord k) ∧ ThrOk ls node ord k ∧ Own wr 55 7 A1 n c1 (lvs (layG ls node (ord.take k) (ord.take k))) ∧
    Mp wr w1.heap.size (fun z : Int => Value.int .i64 z) mm ∧ Met mm (ord.take k) ∧ Chg [] w wr) (fun _ q _ => m - (intOf q).toNat)
  case atStart => exact ⟨0, [], Nat.zero_le _, rfl, rfl, ThrOk.zero _ _ _, by simpa [layG_nil] using hown.chg ((Chg.refl [] w1).alloc _) (by simp), Mp.made _ _, Met.nil, hch.alloc _⟩
  case round =>
    obtain ⟨k, mm, hk, rfl, rfl, hok, hown, hmp, hmet, hch2⟩ := hrel
    by_cases hlt : k < m
    · obtain ⟨bd, id, rfl, hid, hcell⟩ := rd_int (HO.out.chg hch2 (by simp)) hlt
      have HID := Lib.hid hid
      clear hid
      go_wp2_with fail
      have hf := find_any A1 n c1 (layG ls node (ord.take k) (ord.take k)) node id wr hown.rd
      rw [tch_layG] at hf
      by_cases ht : tch ls node id = 0
      · rw [ht] at hf
        obtain ⟨h0, l, hl, hlive, htou⟩ := tch_some ht
        obtain ⟨j, rfl⟩ := Int.eq_ofNat_of_zero_le h0
        have HT := Lib.hid ht
        have HLV := Lib.hid hlive
        have HTO := Lib.hid htou
        clear ht hlive htou
        refine hf.mono ?_
        rintro e w2 ⟨rfl, hc2⟩
        have hmp2 := hmp.chg hc2 (by simp)
        have hown2 := hown.chg hc2 (by simp)
        by_cases hmem : (j : Int) ∈ ord.take k
        · have ha := hmet.2 j
          rw [if_pos hmem] at ha
          have HA := Lib.hid ha
          have HME := Lib.hid hmem
          clear ha hmem
          have hl1 := (hmp2.lookup mp_key mp_und (int_zero w2) (j : Int)).1
          rw [HA.out] at hl1
          simp only [Option.getD_some] at hl1
          obtain ⟨w3, hu, hmp3, hc3⟩ := hmp2.update mp_key mp_und (j : Int) (.int .i64 2)
          have hl2 := (hmp3.lookup mp_key mp_und (int_zero w3) (j : Int)).1
          rw [aget_aput hmet.1, if_pos rfl] at hl2
          simp only [Option.getD_some] at hl2
          go_wp2
          go_ret2
          exact ⟨none, 0, 0, 7, rfl, (hok.twice HID.out HT.out HME.out).symm, by rw [thr, hok.twice HID.out HT.out HME.out]; exact Own.nil _ _ _, by rw [thr, hok.twice HID.out HT.out HME.out]; rfl, (hch2.trans0 hc2).trans hc3 (by simp; have := hch.size; omega), by simp⟩
        · have ha := hmet.2 j
          rw [if_neg hmem] at ha
          have HA := Lib.hid ha
          have HME := Lib.hid hmem
          clear ha hmem
          have hl1 := (hmp2.lookup mp_key mp_und (int_zero w2) (j : Int)).1
          rw [HA.out] at hl1
          simp only [Option.getD_none] at hl1
          obtain ⟨w3, hu, hmp3, hc3⟩ := hmp2.update mp_key mp_und (j : Int) (.int .i64 1)
          have hl2 := (hmp3.lookup mp_key mp_und (int_zero w3) (j : Int)).1
          rw [aget_aput hmet.1, if_pos rfl] at hl2
          simp only [Option.getD_some] at hl2
          have hown3 := hown2.chg hc3 (fun x hx => by simpa using hown2.mp_ne hmp2 x hx)
          obtain ⟨hlG, hsn0, hsn1⟩ := layG_snoc ls node (ord.take k) (j : Int) l hok.nodup h0 HME.out hl hok.pos
          simp only [Int.toNat_natCast] at hlG
          obtain ⟨g, rfl, ⟨x0, x1, x2, x3, x4, x5, x6⟩, hfz, hset⟩ := hown3.lk hlG
          have f3 := hfz (j * 7 + 3)
          have f4 := hfz (j * 7 + 4)
          have f5 := hfz (j * 7 + 5)
          have f6 := hfz (j * 7 + 6)
          have HS0 := Lib.hid hsn0
          have HS1 := Lib.hid hsn1
          have HSET := Lib.hid hset
          have HFZ := Lib.hid hfz
          have HLG := Lib.hid hlG
          have HLL := Lib.hid hl
          have HL1 := Lib.hid hl1
          have qj : (j : Int) < n := by
            have := (List.getElem?_eq_some_iff.1 hl).1
            have := HL.out
            omega
          have HGB := Lib.hid (hown3.mp_ne hmp3 g (by simp))
          have HGW := Lib.hid (HW1.out g (by simp))
          have HCH := Lib.hid ((hch2.trans0 hc2).trans hc3 (M := [w1.heap.size]) (fun x hx => .inr (by simp at hx; subst hx; exact hch.size)))
          clear hsn0 hsn1 hset hfz hlG hl
          --BEGIN
          rcases hlast : (ord.take k).getLast? with _ | la
          · have hq : lastOf ord k = -1 := by unfold lastOf; rw [hlast]; rfl
            have htk : ord.take k = [] := by simpa using hlast
            have HLA := Lib.hid (HS0.out htk)
            rw [hq]
            clear hq htk hlast
            go_wp2
            by_cases hsd : l.src = l.dst
            · have e1 : (l.src == l.dst) = true := by simp [hsd]
              have hs1 : l.src = node := by
                have := HTO.out
                simp only [Lk.touches, ← hsd] at this
                simpa using this
              have HSD := Lib.hid hsd
              have HS1' := Lib.hid hs1
              clear hsd hs1
              go_quiet (fail)
              have ho4 : ∀ q, Own (((w3.drewN q).setCell ⟨g, j * 7 + 4, none⟩ (.int .i64 (-1))).setCell ⟨g, j * 7 + 6, none⟩ (.int .i64 (-1))) 55 7 (some ⟨g, 0, none⟩) n c1 (lvs ((layG ls node (ord.take k) (ord.take k)).set j { l with tp := -1, tn := -1 })) := fun q =>
                (hown3.chg ((Chg.refl [] w3).drewN q) (by simp)).set2 HLG.out (by decide) (by decide) ⟨{ l with tp := -1 }, rfl⟩ rfl
              have hj4 : ((layG ls node (ord.take k) (ord.take k)).set j { l with tp := -1, tn := -1 })[j]? = some { l with tp := -1, tn := -1 } := by rw [List.getElem?_set, if_pos rfl, if_pos (List.getElem?_eq_some_iff.1 HLG.out).1]
              have hch4 : ∀ q, Chg [] w (((w3.drewN q).setCell ⟨g, j * 7 + 4, none⟩ (.int .i64 (-1))).setCell ⟨g, j * 7 + 6, none⟩ (.int .i64 (-1))) := fun q => ((HCH.out.drewN q).setCell (.inr HGW.out) _).setCell (.inr HGW.out) _
              have hmp4 : ∀ q, Mp (((w3.drewN q).setCell ⟨g, j * 7 + 4, none⟩ (.int .i64 (-1))).setCell ⟨g, j * 7 + 6, none⟩ (.int .i64 (-1))) w1.heap.size (fun z : Int => Value.int .i64 z) (aput mm (j : Int) (.int .i64 1)) := fun q => hmp3.chg ((((Chg.refl [g] w3).drewN q).setCell (.inl (by simp)) _).setCell (.inl (by simp)) _) (by simpa using fun e => HGB.out e.symm)
              have HO4 := Lib.hid ho4
              have HC4 := Lib.hid hch4
              have HM4 := Lib.hid hmp4
              clear ho4 hch4 hmp4
              go_wp2_with fail
              have hsrc := (HO4.out nq).c1 hj4
              refine (side_any ⟨g, j * 7, none⟩ l.src node _ hsrc).mono ?_
              rintro e w5 ⟨⟨q5, hq5⟩, d, hd, rfl⟩
              have ho5 := (HO4.out nq).chg ((Chg.refl [] _).drewN q5) (by simp)
              rw [← hq5] at ho5
              have hch5 := (HC4.out nq).drewN q5
              rw [← hq5] at hch5
              have hmp5 := (HM4.out nq).chg ((Chg.refl [] _).drewN q5) (by simp)
              rw [← hq5] at hmp5
              clear hq5
              rcases hd with ⟨hs2, rfl⟩ | ⟨hs2, rfl⟩
              · clear hs2
                have f3 := ho5.fz (j * 7 + 3)
                have y3 := ho5.cl hj4 (k := 3) (u := .int .i64 l.sp) (by decide) rfl
                have y5 := ho5.cl hj4 (k := 5) (u := .int .i64 l.sn) (by decide) rfl
                have f5 := ho5.fz (j * 7 + 5)
                have ho6 := ho5.set2 hj4 (k := 3) (v := .int .i64 (-1)) (k' := 5) (v' := .int .i64 (-1)) (l'' := l.put node (-1) (-1)) (by decide) (by decide) ⟨{ l with tp := -1, tn := -1, sp := -1 }, rfl⟩ (by unfold Lk.put; rw [if_pos HS1'.out, if_pos (by rw [← HSD.out]; exact HS1'.out)]; rfl)
                rw [List.set_set] at ho6
                go_wp2
                go_roundw
                case rel =>
                  refine ⟨k + 1, _, by omega, by go_num, by rw [lastOf_succ HID.out], hok.step HID.out HT.out HME.out, ?_, hmp5.chg (((Chg.refl [g] w5).setCell (.inl (by simp)) _).setCell (.inl (by simp)) _) (by simpa using fun e => HGB.out e.symm), hmet.step HID.out, (hch5.setCell (.inr HGW.out) _).setCell (.inr HGW.out) _⟩
                  rw [take_snoc ord k _ HID.out, HLA.out]
                  exact ho6
                case measure => simp [intOf]; omega
              · exact absurd HS1'.out hs2
            · have e1 : (l.src == l.dst) = false := by simp [hsd]
              have HSD := Lib.hid hsd
              clear hsd
              go_quiet (fail)
              have ho4 : ∀ q, Own (w3.drewN q) 55 7 (some ⟨g, 0, none⟩) n c1 (lvs (layG ls node (ord.take k) (ord.take k))) := fun q => hown3.chg ((Chg.refl [] w3).drewN q) (by simp)
              have hj4 := HLG.out
              go_wp2_with fail
              refine (side_any ⟨g, j * 7, none⟩ l.src node _ ((ho4 _).c1 hj4)).mono ?_
              rintro e w5 ⟨⟨q5, hq5⟩, d, hd, rfl⟩
              have ho5 := (ho4 nq).chg ((Chg.refl [] _).drewN q5) (by simp)
              rw [← hq5] at ho5
              have hch5 := (HCH.out.drewN nq).drewN q5
              rw [← hq5] at hch5
              have hmp5 := hmp3.chg (((Chg.refl [] w3).drewN nq).drewN q5) (by simp)
              rw [← hq5] at hmp5
              clear hq5
              rcases hd with ⟨hs2, rfl⟩ | ⟨hs2, rfl⟩
              · have HSS := Lib.hid hs2
                clear hs2
                have f3 := ho5.fz (j * 7 + 3)
                have y3 := ho5.cl hj4 (k := 3) (u := .int .i64 l.sp) (by decide) rfl
                have y5 := ho5.cl hj4 (k := 5) (u := .int .i64 l.sn) (by decide) rfl
                have f5 := ho5.fz (j * 7 + 5)
                have ho6 := ho5.set2 hj4 (k := 3) (v := .int .i64 (-1)) (k' := 5) (v' := .int .i64 (-1)) (l'' := l.put node (-1) (-1)) (by decide) (by decide) ⟨{ l with sp := -1 }, rfl⟩ (by unfold Lk.put; rw [if_pos HSS.out, if_neg (by rw [← HSS.out]; exact fun e => HSD.out e.symm)]; rfl)
                go_wp2
                go_roundw
                case rel =>
                  refine ⟨k + 1, _, by omega, by go_num, by rw [lastOf_succ HID.out], hok.step HID.out HT.out HME.out, ?_, hmp5.chg (((Chg.refl [g] w5).setCell (.inl (by simp)) _).setCell (.inl (by simp)) _) (by simpa using fun e => HGB.out e.symm), hmet.step HID.out, (hch5.setCell (.inr HGW.out) _).setCell (.inr HGW.out) _⟩
                  rw [take_snoc ord k _ HID.out, HLA.out]
                  exact ho6
                case measure => simp [intOf]; omega
              · have HSS := Lib.hid hs2
                clear hs2
                have f3 := ho5.fz (j * 7 + 4)
                have y3 := ho5.cl hj4 (k := 4) (u := .int .i64 l.tp) (by decide) rfl
                have y5 := ho5.cl hj4 (k := 6) (u := .int .i64 l.tn) (by decide) rfl
                have f5 := ho5.fz (j * 7 + 6)
                have ho6 := ho5.set2 hj4 (k := 4) (v := .int .i64 (-1)) (k' := 6) (v' := .int .i64 (-1)) (l'' := l.put node (-1) (-1)) (by decide) (by decide) ⟨{ l with tp := -1 }, rfl⟩ (by unfold Lk.put; rw [if_neg HSS.out]; rfl)
                go_wp2
                go_roundw
                case rel =>
                  refine ⟨k + 1, _, by omega, by go_num, by rw [lastOf_succ HID.out], hok.step HID.out HT.out HME.out, ?_, hmp5.chg (((Chg.refl [g] w5).setCell (.inl (by simp)) _).setCell (.inl (by simp)) _) (by simpa using fun e => HGB.out e.symm), hmet.step HID.out, (hch5.setCell (.inr HGW.out) _).setCell (.inr HGW.out) _⟩
                  rw [take_snoc ord k _ HID.out, HLA.out]
                  exact ho6
                case measure => simp [intOf]; omega


          · have hq : lastOf ord k = la := by unfold lastOf; rw [hlast]; rfl
            obtain ⟨pl, pl2⟩ := hok.pos la (List.mem_of_getLast? hlast)
            obtain ⟨jl, rfl⟩ := Int.eq_ofNat_of_zero_le pl
            have qjl : (jl : Int) < n := by have := HL.out; omega
            obtain ⟨lla, hlla, hlay⟩ := HS1.out _ hlast
            simp only [Int.toNat_natCast] at hlla hlay
            have HLA := Lib.hid hlay
            have HLLA := Lib.hid hlla
            rw [hq]
            clear hq hlast hlla hlay pl2
            go_wp2
            by_cases hsd : l.src = l.dst
            · have e1 : (l.src == l.dst) = true := by simp [hsd]
              have hs1 : l.src = node := by
                have := HTO.out
                simp only [Lk.touches, ← hsd] at this
                simpa using this
              have HSD := Lib.hid hsd
              have HS1' := Lib.hid hs1
              clear hsd hs1
              go_quiet (fail)
              have ho4 : ∀ q, Own (((w3.drewN q).setCell ⟨g, j * 7 + 4, none⟩ (.int .i64 (-1))).setCell ⟨g, j * 7 + 6, none⟩ (.int .i64 (-1))) 55 7 (some ⟨g, 0, none⟩) n c1 (lvs ((layG ls node (ord.take k) (ord.take k)).set j { l with tp := -1, tn := -1 })) := fun q =>
                (hown3.chg ((Chg.refl [] w3).drewN q) (by simp)).set2 HLG.out (by decide) (by decide) ⟨{ l with tp := -1 }, rfl⟩ rfl
              have hj4 : ((layG ls node (ord.take k) (ord.take k)).set j { l with tp := -1, tn := -1 })[j]? = some { l with tp := -1, tn := -1 } := by rw [List.getElem?_set, if_pos rfl, if_pos (List.getElem?_eq_some_iff.1 HLG.out).1]
              have hch4 : ∀ q, Chg [] w (((w3.drewN q).setCell ⟨g, j * 7 + 4, none⟩ (.int .i64 (-1))).setCell ⟨g, j * 7 + 6, none⟩ (.int .i64 (-1))) := fun q => ((HCH.out.drewN q).setCell (.inr HGW.out) _).setCell (.inr HGW.out) _
              have hmp4 : ∀ q, Mp (((w3.drewN q).setCell ⟨g, j * 7 + 4, none⟩ (.int .i64 (-1))).setCell ⟨g, j * 7 + 6, none⟩ (.int .i64 (-1))) w1.heap.size (fun z : Int => Value.int .i64 z) (aput mm (j : Int) (.int .i64 1)) := fun q => hmp3.chg ((((Chg.refl [g] w3).drewN q).setCell (.inl (by simp)) _).setCell (.inl (by simp)) _) (by simpa using fun e => HGB.out e.symm)
              have HO4 := Lib.hid ho4
              have HC4 := Lib.hid hch4
              have HM4 := Lib.hid hmp4
              clear ho4 hch4 hmp4
              go_wp2_with fail
              have hsrc := (HO4.out nq).c1 hj4
              refine (side_any ⟨g, j * 7, none⟩ l.src node _ hsrc).mono ?_
              rintro e w5 ⟨⟨q5, hq5⟩, d, hd, rfl⟩
              have ho5 := (HO4.out nq).chg ((Chg.refl [] _).drewN q5) (by simp)
              rw [← hq5] at ho5
              have hch5 := (HC4.out nq).drewN q5
              rw [← hq5] at hch5
              have hmp5 := (HM4.out nq).chg ((Chg.refl [] _).drewN q5) (by simp)
              rw [← hq5] at hmp5
              clear hq5
              rcases hd with ⟨hs2, rfl⟩ | ⟨hs2, rfl⟩
              · clear hs2
                have f3 := ho5.fz (j * 7 + 3)
                have y3 := ho5.cl hj4 (k := 3) (u := .int .i64 l.sp) (by decide) rfl
                have y5 := ho5.cl hj4 (k := 5) (u := .int .i64 l.sn) (by decide) rfl
                have f5 := ho5.fz (j * 7 + 5)
                have ho6 := ho5.set2 hj4 (k := 3) (v := .int .i64 (jl : Int)) (k' := 5) (v' := .int .i64 (-1)) (l'' := l.put node (jl : Int) (-1)) (by decide) (by decide) ⟨{ l with tp := -1, tn := -1, sp := (jl : Int) }, rfl⟩ (by unfold Lk.put; rw [if_pos HS1'.out, if_pos (by rw [← HSD.out]; exact HS1'.out)]; rfl)
                rw [List.set_set] at ho6
                have hj7 := HLLA.out
                go_wp2_with fail
                refine (side_any ⟨g, jl * 7, none⟩ lla.src node _ (ho6.c1 hj7)).mono ?_
                rintro e w7 ⟨⟨q7, hq7⟩, d, hd, rfl⟩
                have ho7 := ho6.chg ((Chg.refl [] _).drewN q7) (by simp)
                rw [← hq7] at ho7
                have hch7 := ((hch5.setCell (p := ⟨g, j * 7 + 3, none⟩) (.inr HGW.out) (.int .i64 (jl : Int))).setCell (p := ⟨g, j * 7 + 5, none⟩) (.inr HGW.out) (.int .i64 (-1))).drewN q7
                rw [← hq7] at hch7
                have hmp7 := hmp5.chg ((((Chg.refl [g] w5).setCell (p := ⟨g, j * 7 + 3, none⟩) (.inl (by simp)) (.int .i64 (jl : Int))).setCell (p := ⟨g, j * 7 + 5, none⟩) (.inl (by simp)) (.int .i64 (-1))).drewN q7) (by simpa using fun e => HGB.out e.symm)
                rw [← hq7] at hmp7
                clear hq7
                rcases hd with ⟨hs2, rfl⟩ | ⟨hs2, rfl⟩
                · have HS2 := Lib.hid hs2
                  clear hs2
                  have f7 := ho7.fz (jl * 7 + 5)
                  have y7 := ho7.cl hj7 (k := 5) (u := .int .i64 lla.sn) (by decide) rfl
                  have ho8 := ho7.set1 hj7 (k := 5) (v := .int .i64 (j : Int)) (l' := lla.putN node (j : Int)) (by decide) (by unfold Lk.putN; rw [if_pos HS2.out]; rfl)
                  go_wp2
                  go_roundw
                  case rel =>
                    refine ⟨k + 1, _, by omega, by go_num, by rw [lastOf_succ HID.out], hok.step HID.out HT.out HME.out, ?_, hmp7.chg ((Chg.refl [g] w7).setCell (.inl (by simp)) _) (by simpa using fun e => HGB.out e.symm), hmet.step HID.out, hch7.setCell (.inr HGW.out) _⟩
                    rw [take_snoc ord k _ HID.out, HLA.out]
                    exact ho8
                  case measure => simp [intOf]; omega
                · have HS2 := Lib.hid hs2
                  clear hs2
                  have f7 := ho7.fz (jl * 7 + 6)
                  have y7 := ho7.cl hj7 (k := 6) (u := .int .i64 lla.tn) (by decide) rfl
                  have ho8 := ho7.set1 hj7 (k := 6) (v := .int .i64 (j : Int)) (l' := lla.putN node (j : Int)) (by decide) (by unfold Lk.putN; rw [if_neg HS2.out]; rfl)
                  go_wp2
                  go_roundw
                  case rel =>
                    refine ⟨k + 1, _, by omega, by go_num, by rw [lastOf_succ HID.out], hok.step HID.out HT.out HME.out, ?_, hmp7.chg ((Chg.refl [g] w7).setCell (.inl (by simp)) _) (by simpa using fun e => HGB.out e.symm), hmet.step HID.out, hch7.setCell (.inr HGW.out) _⟩
                    rw [take_snoc ord k _ HID.out, HLA.out]
                    exact ho8
                  case measure => simp [intOf]; omega

              · exact absurd HS1'.out hs2
            · have e1 : (l.src == l.dst) = false := by simp [hsd]
              have HSD := Lib.hid hsd
              clear hsd
              go_quiet (fail)
              have ho4 : ∀ q, Own (w3.drewN q) 55 7 (some ⟨g, 0, none⟩) n c1 (lvs (layG ls node (ord.take k) (ord.take k))) := fun q => hown3.chg ((Chg.refl [] w3).drewN q) (by simp)
              have hj4 := HLG.out
              go_wp2_with fail
              refine (side_any ⟨g, j * 7, none⟩ l.src node _ ((ho4 _).c1 hj4)).mono ?_
              rintro e w5 ⟨⟨q5, hq5⟩, d, hd, rfl⟩
              have ho5 := (ho4 nq).chg ((Chg.refl [] _).drewN q5) (by simp)
              rw [← hq5] at ho5
              have hch5 := (HCH.out.drewN nq).drewN q5
              rw [← hq5] at hch5
              have hmp5 := hmp3.chg (((Chg.refl [] w3).drewN nq).drewN q5) (by simp)
              rw [← hq5] at hmp5
              clear hq5
              rcases hd with ⟨hs2, rfl⟩ | ⟨hs2, rfl⟩
              · have HSS := Lib.hid hs2
                clear hs2
                have f3 := ho5.fz (j * 7 + 3)
                have y3 := ho5.cl hj4 (k := 3) (u := .int .i64 l.sp) (by decide) rfl
                have y5 := ho5.cl hj4 (k := 5) (u := .int .i64 l.sn) (by decide) rfl
                have f5 := ho5.fz (j * 7 + 5)
                have ho6 := ho5.set2 hj4 (k := 3) (v := .int .i64 (jl : Int)) (k' := 5) (v' := .int .i64 (-1)) (l'' := l.put node (jl : Int) (-1)) (by decide) (by decide) ⟨{ l with sp := (jl : Int) }, rfl⟩ (by unfold Lk.put; rw [if_pos HSS.out, if_neg (by rw [← HSS.out]; exact fun e => HSD.out e.symm)]; rfl)
                have hj7 := HLLA.out
                go_wp2_with fail
                refine (side_any ⟨g, jl * 7, none⟩ lla.src node _ (ho6.c1 hj7)).mono ?_
                rintro e w7 ⟨⟨q7, hq7⟩, d, hd, rfl⟩
                have ho7 := ho6.chg ((Chg.refl [] _).drewN q7) (by simp)
                rw [← hq7] at ho7
                have hch7 := ((hch5.setCell (p := ⟨g, j * 7 + 3, none⟩) (.inr HGW.out) (.int .i64 (jl : Int))).setCell (p := ⟨g, j * 7 + 5, none⟩) (.inr HGW.out) (.int .i64 (-1))).drewN q7
                rw [← hq7] at hch7
                have hmp7 := hmp5.chg ((((Chg.refl [g] w5).setCell (p := ⟨g, j * 7 + 3, none⟩) (.inl (by simp)) (.int .i64 (jl : Int))).setCell (p := ⟨g, j * 7 + 5, none⟩) (.inl (by simp)) (.int .i64 (-1))).drewN q7) (by simpa using fun e => HGB.out e.symm)
                rw [← hq7] at hmp7
                clear hq7
                rcases hd with ⟨hs2, rfl⟩ | ⟨hs2, rfl⟩
                · have HS2 := Lib.hid hs2
                  clear hs2
                  have f7 := ho7.fz (jl * 7 + 5)
                  have y7 := ho7.cl hj7 (k := 5) (u := .int .i64 lla.sn) (by decide) rfl
                  have ho8 := ho7.set1 hj7 (k := 5) (v := .int .i64 (j : Int)) (l' := lla.putN node (j : Int)) (by decide) (by unfold Lk.putN; rw [if_pos HS2.out]; rfl)
                  go_wp2
                  go_roundw
                  case rel =>
                    refine ⟨k + 1, _, by omega, by go_num, by rw [lastOf_succ HID.out], hok.step HID.out HT.out HME.out, ?_, hmp7.chg ((Chg.refl [g] w7).setCell (.inl (by simp)) _) (by simpa using fun e => HGB.out e.symm), hmet.step HID.out, hch7.setCell (.inr HGW.out) _⟩
                    rw [take_snoc ord k _ HID.out, HLA.out]
                    exact ho8
                  case measure => simp [intOf]; omega
                · have HS2 := Lib.hid hs2
                  clear hs2
                  have f7 := ho7.fz (jl * 7 + 6)
                  have y7 := ho7.cl hj7 (k := 6) (u := .int .i64 lla.tn) (by decide) rfl
                  have ho8 := ho7.set1 hj7 (k := 6) (v := .int .i64 (j : Int)) (l' := lla.putN node (j : Int)) (by decide) (by unfold Lk.putN; rw [if_neg HS2.out]; rfl)
                  go_wp2
                  go_roundw
                  case rel =>
                    refine ⟨k + 1, _, by omega, by go_num, by rw [lastOf_succ HID.out], hok.step HID.out HT.out HME.out, ?_, hmp7.chg ((Chg.refl [g] w7).setCell (.inl (by simp)) _) (by simpa using fun e => HGB.out e.symm), hmet.step HID.out, hch7.setCell (.inr HGW.out) _⟩
                    rw [take_snoc ord k _ HID.out, HLA.out]
                    exact ho8
                  case measure => simp [intOf]; omega

              · have HSS := Lib.hid hs2
                clear hs2
                have f3 := ho5.fz (j * 7 + 4)
                have y3 := ho5.cl hj4 (k := 4) (u := .int .i64 l.tp) (by decide) rfl
                have y5 := ho5.cl hj4 (k := 6) (u := .int .i64 l.tn) (by decide) rfl
                have f5 := ho5.fz (j * 7 + 6)
                have ho6 := ho5.set2 hj4 (k := 4) (v := .int .i64 (jl : Int)) (k' := 6) (v' := .int .i64 (-1)) (l'' := l.put node (jl : Int) (-1)) (by decide) (by decide) ⟨{ l with tp := (jl : Int) }, rfl⟩ (by unfold Lk.put; rw [if_neg HSS.out]; rfl)
                have hj7 := HLLA.out
                go_wp2_with fail
                refine (side_any ⟨g, jl * 7, none⟩ lla.src node _ (ho6.c1 hj7)).mono ?_
                rintro e w7 ⟨⟨q7, hq7⟩, d, hd, rfl⟩
                have ho7 := ho6.chg ((Chg.refl [] _).drewN q7) (by simp)
                rw [← hq7] at ho7
                have hch7 := ((hch5.setCell (p := ⟨g, j * 7 + 4, none⟩) (.inr HGW.out) (.int .i64 (jl : Int))).setCell (p := ⟨g, j * 7 + 6, none⟩) (.inr HGW.out) (.int .i64 (-1))).drewN q7
                rw [← hq7] at hch7
                have hmp7 := hmp5.chg ((((Chg.refl [g] w5).setCell (p := ⟨g, j * 7 + 4, none⟩) (.inl (by simp)) (.int .i64 (jl : Int))).setCell (p := ⟨g, j * 7 + 6, none⟩) (.inl (by simp)) (.int .i64 (-1))).drewN q7) (by simpa using fun e => HGB.out e.symm)
                rw [← hq7] at hmp7
                clear hq7
                rcases hd with ⟨hs2, rfl⟩ | ⟨hs2, rfl⟩
                · have HS2 := Lib.hid hs2
                  clear hs2
                  have f7 := ho7.fz (jl * 7 + 5)
                  have y7 := ho7.cl hj7 (k := 5) (u := .int .i64 lla.sn) (by decide) rfl
                  have ho8 := ho7.set1 hj7 (k := 5) (v := .int .i64 (j : Int)) (l' := lla.putN node (j : Int)) (by decide) (by unfold Lk.putN; rw [if_pos HS2.out]; rfl)
                  go_wp2
                  go_roundw
                  case rel =>
                    refine ⟨k + 1, _, by omega, by go_num, by rw [lastOf_succ HID.out], hok.step HID.out HT.out HME.out, ?_, hmp7.chg ((Chg.refl [g] w7).setCell (.inl (by simp)) _) (by simpa using fun e => HGB.out e.symm), hmet.step HID.out, hch7.setCell (.inr HGW.out) _⟩
                    rw [take_snoc ord k _ HID.out, HLA.out]
                    exact ho8
                  case measure => simp [intOf]; omega
                · have HS2 := Lib.hid hs2
                  clear hs2
                  have f7 := ho7.fz (jl * 7 + 6)
                  have y7 := ho7.cl hj7 (k := 6) (u := .int .i64 lla.tn) (by decide) rfl
                  have ho8 := ho7.set1 hj7 (k := 6) (v := .int .i64 (j : Int)) (l' := lla.putN node (j : Int)) (by decide) (by unfold Lk.putN; rw [if_neg HS2.out]; rfl)
                  go_wp2
                  go_roundw
                  case rel =>
                    refine ⟨k + 1, _, by omega, by go_num, by rw [lastOf_succ HID.out], hok.step HID.out HT.out HME.out, ?_, hmp7.chg ((Chg.refl [g] w7).setCell (.inl (by simp)) _) (by simpa using fun e => HGB.out e.symm), hmet.step HID.out, hch7.setCell (.inr HGW.out) _⟩
                    rw [take_snoc ord k _ HID.out, HLA.out]
                    exact ho8
                  case measure => simp [intOf]; omega




          --END
      · obtain ⟨E, hE⟩ : ∃ E, tch ls node id = E := ⟨_, rfl⟩
        rw [hE] at hf ht
        have HE := Lib.hid hE
        clear hE
        refine hf.mono ?_
        rintro e w2 ⟨rfl, hc2⟩
        go_wp2
        go_ret2
        have hbad := hok.bad HID.out (by rw [HE.out]; exact ht)
        rw [HE.out] at hbad
        exact ⟨none, 0, 0, E, rfl, hbad.symm, by rw [thr, hbad, if_neg ht]; exact Own.nil _ _ _, by rw [thr, hbad, if_neg ht]; rfl, hch2.trans0 hc2, by simp⟩
    · have hkm : k = m := by omega
      subst hkm
      have hz := hok.done (by rw [HM.out]; exact Nat.le_refl _)
      have hta : ord.take k = ord := List.take_of_length_le (by rw [HM.out]; exact Nat.le_refl _)
      have HZ := Lib.hid hz
      have HTA := Lib.hid hta
      clear hz hta
      go_wp2
      go_ret2
      refine ⟨A1, n, c1, 0, rfl, HZ.out.symm, ?_, ?_, hch2, HW1.out⟩
      · rw [thr, HZ.out, if_pos rfl]; rw [HTA.out] at hown; exact hown
      · rw [thr, HZ.out, if_pos rfl, layG_length]; exact HL.out.symm
end Go.Proofs.Ytelmnmepdmfihaa
