/-
  Layer 08: the document's file system in memory.
  Layer 08: the document's copied: a tree in new rows.
-/
import Derived.Test.YtgomofeidghmiaaGreatVfJh
import Derived.Test.YtgomofeidghmiaaGreatVfJc
import Derived.Test.YtgomofeidghmiaaGreatRfJ
import Derived.Deep.RegionHeld3
import Derived.Deep.RegionLaw
namespace Go.Proofs.YtgomofeidghmiaaGreat
open Go.RowKit

def pv8 (x : Nat) : Value := .pointer (some ⟨x, 0, none⟩)
def nmc (q : ByteArray × Nat) : List Value := [.string q.1, .int .i64 (q.2 : Nat)]
/-- names and files' numbers -/
def nmv (xs : Fol) : List Value := xs.flatMap nmc
theorem nmv_length (xs : Fol) : (nmv xs).length = xs.length * 2 := by
  induction xs with
  | nil => rfl
  | cons x r ih => simp only [nmv, List.flatMap_cons, List.length_append, List.length_cons] at ih ⊢; rw [ih]; simp [nmc]; omega
theorem nmv_append (a b : Fol) : nmv (a ++ b) = nmv a ++ nmv b := by simp [nmv]
theorem nmv_get (xs : Fol) (j k : Nat) (hk : k < 2) : (nmv xs)[j * 2 + k]? = (xs[j]?).bind fun x => (nmc x)[k]? := by
  induction xs generalizing j with
  | nil => simp [nmv]
  | cons x r ih =>
    simp only [nmv, List.flatMap_cons]
    cases j with
    | zero =>
      rw [List.getElem?_append_left (by simp [nmc]; omega)]
      simp
    | succ j =>
      rw [List.getElem?_append_right (by simp [nmc]; omega)]
      have : (j + 1) * 2 + k - (nmc x).length = j * 2 + k := by simp [nmc]; omega
      rw [this]
      simpa [nmv] using ih j
theorem nmv_one (xs : Fol) : ∀ u ∈ nmv xs, u.oneCell' = true := by
  intro u hu
  obtain ⟨x, _, h⟩ := List.mem_flatMap.1 hu
  simp only [nmc, List.mem_cons, List.mem_nil_iff, or_false] at h
  rcases h with rfl | rfl <;> rfl
/-- at p they stand -/
structure NmAt (w : World) (p : Addr) (x : ByteArray × Nat) : Prop where
  c0 : w.cell? p = some (.string x.1)
  c1 : w.cell? ⟨p.block, p.off + 1, none⟩ = some (.int .i64 (x.2 : Nat))
theorem NmAt.chg {w w' : World} {p : Addr} {x : ByteArray × Nat} {L : List Nat} (h : NmAt w p x) (hc : Chg L w w') (hn : p.block ∉ L) : NmAt w' p x := ⟨hc.cell h.c0 hn, hc.cell h.c1 hn⟩
theorem Rd.nml {w : World} {A : Option Addr} {n c : Nat} {xs : Fol} (h : Rd w 2 A n c (nmv xs)) : xs.length = n := by have := h.1; rw [nmv_length] at this; omega
theorem Rd.nm {w : World} {A : Option Addr} {n c : Nat} {xs : Fol} (h : Rd w 2 A n c (nmv xs)) {j : Nat} {x : ByteArray × Nat} (hj : xs[j]? = some x) : ∃ ad, A = some ad ∧ NmAt w (ad.add (j * 2)) x := by
  have hl := h.nml
  have hjn : j < n := by have := (List.getElem?_eq_some_iff.1 hj).1; omega
  obtain ⟨ad, rfl, _⟩ := h.some_ (by omega)
  refine ⟨ad, rfl, ?_⟩
  have hc : ∀ k, k < 2 → ∀ u, (nmc x)[k]? = some u → w.cell? (ad.add (j * 2 + k)) = some u := fun k hk u hu => (h.2.2.2.2 ad rfl).2 _ u (by rw [nmv_get _ _ _ hk, hj]; exact hu)
  refine ⟨hc 0 (by decide) _ rfl, ?_⟩
  have := hc 1 (by decide) _ rfl
  rw [add_field] at this
  exact this

/-- a directory of the document: its row's slice, its files -/
abbrev RF := Nsl × Fol
def rnsl (rs : List RF) : List Nsl := rs.map (·.1)
def rval (rs : List RF) : Tr := rs.map fun r => (r.1.nm, r.2)
def rblk (rs : List RF) : List Nat := rs.flatMap fun r => bo r.1.A
/-- a row of directories, for reading -/
structure RTree (w : World) (A : Option Addr) (n c : Nat) (rs : List RF) : Prop where
  row : Rd w 2 A n c (nsv (rnsl rs))
  fil : ∀ r ∈ rs, Rd w 2 r.1.A r.1.n r.1.c (nmv r.2)
theorem RTree.chg {w w' : World} {A : Option Addr} {n c : Nat} {rs : List RF} {L : List Nat} (h : RTree w A n c rs) (hc : Chg L w w') (hn : ∀ k ∈ bo A ++ rblk rs, k ∉ L) : RTree w' A n c rs :=
  ⟨h.row.chg hc (fun k hk => hn k (List.mem_append_left _ hk)), fun r hr => (h.fil r hr).chg hc (fun k hk => hn k (List.mem_append_right _ (List.mem_flatMap.2 ⟨r, hr, hk⟩)))⟩
theorem RTree.chg0 {w w' : World} {A : Option Addr} {n c : Nat} {rs : List RF} (h : RTree w A n c rs) (hc : Chg [] w w') : RTree w' A n c rs := h.chg hc (fun _ _ => List.not_mem_nil)
theorem RTree.len {w : World} {A : Option Addr} {n c : Nat} {rs : List RF} (h : RTree w A n c rs) : rs.length = n := by have := h.row.nsl; simpa [rnsl] using this
theorem rnsl_at {rs : List RF} {i : Nat} {r : RF} (h : rs[i]? = some r) : (rnsl rs)[i]? = some r.1 := by unfold rnsl; rw [List.getElem?_map, h]; rfl

theorem etyFolds : Ety Tryz.prog 41 106 2 40 (.agg #[.string ByteArray.empty, .slice none 0 0]) := .mk' Tryz.underlying41 (by kernel_rfl) rfl (by decide)
theorem etyRNames : Ety Tryz.prog 104 108 2 24 (.agg #[.string ByteArray.empty, .int .i64 0]) := .mk' Tryz.underlying104 (by kernel_rfl) rfl (by decide)
theorem etyRSpools : Ety Tryz.prog 43 109 1 8 (.pointer none) := .mk' Tryz.underlying43 (by kernel_rfl) rfl (by decide)

/-- a change as five cells -/
def chc : Chn → List Value
  | .mkdir d => [.int .i64 1, .string d, .string noS, .string noS, .int .i64 0]
  | .create d n i => [.int .i64 2, .string d, .string n, .string noS, .int .i64 (i : Nat)]
  | .rename a b => [.int .i64 3, .string a, .string noS, .string b, .int .i64 0]
  | .remove d n => [.int .i64 4, .string d, .string n, .string noS, .int .i64 0]
  | .rmdir d => [.int .i64 5, .string d, .string noS, .string noS, .int .i64 0]
def chv (cs : List Chn) : List Value := cs.flatMap chc
theorem chc_length (c : Chn) : (chc c).length = 5 := by cases c <;> rfl

/-- where the document's file system lies -/
structure RfG where
  b : Nat
  sA : Option Addr
  sc : Nat
  rs : List RF
  pA : Option Addr
  pc : Nat
  ps : List RF
  cA : Option Addr
  cc : Nat
  fA : Option Addr
  fc : Nat
  wA : Option Addr
  wc : Nat
  K : List Nat
  sg : List Nat
  Ls : List (List Nat)
/-- parts: 0 the struct, 1 changes, 2 files, 3 writes, 4 what never changes, from 5 on the Spools -/
def RfG.parts (R : RfG) : List (List Nat) := [R.b] :: bo R.cA :: bo R.fA :: bo R.wA :: R.K :: R.Ls
def RfG.all (R : RfG) : List Nat := R.parts.flatten
structure RfM (w : World) (R : RfG) (S : St) : Prop where
  blk : Blk w R.b 46 #[.slice R.sA S.seen.length R.sc, .slice R.pA S.safe.length R.pc, .slice R.cA S.chs.length R.cc, .slice R.fA S.files.length R.fc, .slice R.wA S.wr.length R.wc, .int .i64 S.quota, .int .i64 S.stop, .int .i64 (S.steps : Int)]
  seen : RTree w R.sA S.seen.length R.sc R.rs
  seenv : rval R.rs = S.seen
  seenk : ∀ k ∈ bo R.sA ++ rblk R.rs, k ∈ R.K
  safe : RTree w R.pA S.safe.length R.pc R.ps
  safev : rval R.ps = S.safe
  safek : ∀ k ∈ bo R.pA ++ rblk R.ps, k ∈ R.K
  chg : Own w 118 5 R.cA S.chs.length R.cc (chv S.chs)
  fil : Own w 109 1 R.fA S.files.length R.fc (R.sg.map pv8)
  wrs : Own w 3 1 R.wA S.wr.length R.wc (S.wr.map fun i => .int .i64 (i : Nat))
  lsl : R.Ls.length = S.files.length
  spo : ∀ (i g : Nat) (L : List Nat) (f : Fil), R.sg[i]? = some g → R.Ls[i]? = some L → S.files[i]? = some f → Rsp w g L f.1 f.2
  lay : Lay w R.parts
theorem RfM.sgl {w : World} {R : RfG} {S : St} (h : RfM w R S) : R.sg.length = S.files.length := by have := h.fil.1; simp at this; omega
theorem RfG.mem_all {R : RfG} {x : Nat} {P : List Nat} {i : Nat} (hi : R.parts[i]? = some P) (hx : x ∈ P) : x ∈ R.all := List.mem_flatten.2 ⟨P, List.mem_of_getElem? hi, hx⟩
theorem RfM.lt {w : World} {R : RfG} {S : St} (h : RfM w R S) : ∀ x ∈ R.all, x < w.heap.size := by
  intro x hx
  obtain ⟨P, hP, hx⟩ := List.mem_flatten.1 hx
  exact h.lay.lt P hP x hx
theorem RfM.keep {w w' : World} {R : RfG} {S : St} {L : List Nat} (h : RfM w R S) (hc : Chg L w w') (hn : ∀ x ∈ R.all, x ∉ L) : RfM w' R S := by
  have hm : ∀ (i : Nat) (P : List Nat), R.parts[i]? = some P → ∀ x ∈ P, x ∉ L := fun i P hi x hx => hn x (RfG.mem_all hi hx)
  exact ⟨h.blk.chg hc (hm 0 _ rfl _ (by simp)), h.seen.chg hc (fun k hk => hm 4 _ rfl k (h.seenk k hk)), h.seenv, h.seenk, h.safe.chg hc (fun k hk => hm 4 _ rfl k (h.safek k hk)), h.safev, h.safek, h.chg.chg hc (hm 1 _ rfl), h.fil.chg hc (hm 2 _ rfl), h.wrs.chg hc (hm 3 _ rfl), h.lsl,
    fun i g M f e1 e2 e3 => (h.spo i g M f e1 e2 e3).chg hc (hm (i + 5) M (by simpa [RfG.parts] using e2)), h.lay.mono hc.size⟩
theorem RfM.keep0 {w w' : World} {R : RfG} {S : St} (h : RfM w R S) (hc : Chg [] w w') : RfM w' R S := h.keep hc (fun _ _ => List.not_mem_nil)
/-- a call has turned it into that -/
def RfTo (w : World) (R : RfG) (S' : St) (w' : World) : Prop := ∃ R', RfM w' R' S' ∧ R'.b = R.b ∧ (∀ x ∈ R'.all, x ∈ R.all ∨ w.heap.size ≤ x) ∧ Chg R.all w w'
theorem RfTo.same {w w' : World} {R : RfG} {S : St} (h : RfM w R S) (hc : Chg [] w w') : RfTo w R S w' := ⟨R, h.keep0 hc, rfl, fun _ hx => .inl hx, hc.nil _⟩
end Go.Proofs.YtgomofeidghmiaaGreat

namespace Go.Proofs.YtgomofeidghmiaaGreat
open Go.RowKit

/-- a tree is told, in new rows -/
def NewRT (w : World) (T : Tr) (n : Nat) (e : Ending) (w' : World) : Prop :=
  ∃ A c rs, e = .returned (.slice A n c) ∧ RTree w' A n c rs ∧ rval rs = T ∧ Chg [] w w' ∧ ∀ k ∈ bo A ++ rblk rs, w.heap.size ≤ k ∧ k < w'.heap.size
theorem rval_snoc (rs : List RF) (r : RF) : rval (rs ++ [r]) = rval rs ++ [(r.1.nm, r.2)] := by simp [rval]
theorem rblk_snoc (rs : List RF) (r : RF) : rblk (rs ++ [r]) = rblk rs ++ bo r.1.A := by simp [rblk]
theorem rnsl_snoc (rs : List RF) (r : RF) : rnsl (rs ++ [r]) = rnsl rs ++ [r.1] := by simp [rnsl]

set_option maxRecDepth 100000 in
set_option maxHeartbeats 3200000 in
theorem rcopied_any (A : Option Addr) (n c : Nat) (rs : List RF) (w : World) (ha : RTree w A n c rs) (hn : n ≤ 1073741824) (hfn : ∀ r ∈ rs, r.1.n ≤ 1073741824) :
    Calls Tryz.prog 60 #[.slice A n c] w (NewRT w (rval rs) n) := by
  have hlx := ha.len
  have HA := Lib.hid ha
  have HLX := Lib.hid hlx
  have HFN := Lib.hid hfn
  clear ha hlx hfn
  go_enter Tryz.func60, Tryz.ntmps60
  go_wp2
  go_loopw [3, 4] (fun o q wr => ∃ (i : Nat) (A' : Option Addr) (c' : Nat) (zs : List RF), i ≤ n ∧ q = .int .i64 i ∧ o = .slice A' i c' ∧ Own wr 106 2 A' i c' (nsv (rnsl zs)) ∧ (∀ z ∈ zs, Own wr 108 2 z.1.A z.1.n z.1.c (nmv z.2)) ∧ rval zs = rval (rs.take i) ∧ Chg [] w wr ∧ ∀ k ∈ bo A' ++ rblk zs, w.heap.size ≤ k) (fun _ q _ => n - (intOf q).toNat)
  case atStart => exact ⟨0, _, 0, [], Nat.zero_le _, rfl, rfl, Own.lit w 106 2 #[] 0 (by decide) rfl, by simp, rfl, (Chg.refl _ _).alloc _, by simp [rblk]⟩
  case round =>
    obtain ⟨i, A', c', zs, hi, rfl, rfl, hz, hzf, hval, hch, hnw⟩ := hrel
    have HZ := Lib.hid hz
    have HZF := Lib.hid hzf
    have HVAL := Lib.hid hval
    have HCH := Lib.hid hch
    have HNW := Lib.hid hnw
    clear hz hzf hval hch hnw
    by_cases hlt : i < n
    · have hlt' : (i : Int) < n := by omega
      obtain ⟨x, hx⟩ : ∃ x, rs[i]? = some x := ⟨_, List.getElem?_eq_getElem (by have := HLX.out; omega)⟩
      obtain ⟨ad, rfl, hat⟩ := HA.out.row.ns (rnsl_at hx)
      have HNB : Hid (ad.block ∉ bo A') := Lib.hid (fun hm => by
        have h1 := World.block_lt_of_cell? w _ hat.c0
        rw [add_block] at h1
        have h2 := HNW.out _ (List.mem_append_left _ hm)
        omega)
      have hat2 := hat.chg HCH.out List.not_mem_nil
      have x0 := hat2.c0
      have x1 := hat2.c1
      have HX := Lib.hid hx
      have HF := Lib.hid ((HA.out.fil x (List.mem_of_getElem? hx)).chg HCH.out (fun _ _ => List.not_mem_nil))
      have hxn := HFN.out x (List.mem_of_getElem? hx)
      clear hx hat hat2
      go_wp2
      refine wp_region_held_drew (S := fun w' => Chg (bo A') wr w') (by kernel_rfl) ((Chg.refl _ _).drew) (fun hHeld => ?_)
      refine wpAnyH_take (i := 0) (v := ?_) rfl (by kernel_rfl) (by kernel_rfl) (by kernel_rfl) (fun _ _ _ h => h) (Or.inl ⟨by rfl, ?_⟩) (by assumption) ?_
      rotate_left
      · (intro w' hSw; go_simp; try with_reducible rfl)
      try simp only [Act.put, put8]
      refine wpAnyH_take (i := 1) (v := ?_) rfl (by kernel_rfl) (by kernel_rfl) (by kernel_rfl) (fun _ _ _ h => h) (Or.inl ⟨by rfl, ?_⟩) (by assumption) ?_
      rotate_left
      · (intro w' hSw; go_simp; try with_reducible rfl)
      try simp only [Act.put, put8]
      refine wpAnyH_take (i := 2) (v := ?_) rfl (by kernel_rfl) (by kernel_rfl) (by kernel_rfl) (fun _ _ _ h => h) (Or.inl ⟨by rfl, ?_⟩) (by assumption) ?_
      rotate_left
      · (intro w' hSw; go_simp; try with_reducible rfl)
      try simp only [Act.put, put8]
      refine wpAnyH_take (i := 3) (v := ?_) rfl (by kernel_rfl) (by kernel_rfl) (by kernel_rfl) (fun _ _ _ h => h) (Or.inl ⟨by rfl, ?_⟩) (by assumption) ?_
      rotate_left
      · (intro w' hSw; go_simp; try with_reducible rfl)
      try simp only [Act.put, put8]
      refine wpAnyH_take (i := 4) (v := ?_) rfl (by kernel_rfl) (by kernel_rfl) (by kernel_rfl) (fun _ _ _ h => h) (Or.inl ⟨by rfl, ?_⟩) (by assumption) ?_
      rotate_left
      · (intro w' hSw; go_simp; try with_reducible rfl)
      try simp only [Act.put, put8]
      refine wpAnyH_take (i := 5) (v := ?_) rfl (by kernel_rfl) (by kernel_rfl) (by kernel_rfl) (fun _ _ _ h => h) (Or.inl ⟨by rfl, ?_⟩) (by assumption) ?_
      rotate_left
      · (intro w' hSw; have y := hSw.cell x0 (fun h => HNB.out (by simpa [add_block] using h)); go_simp; try with_reducible rfl)
      try simp only [Act.put, put8]
      refine wpAnyH_take (i := 7) (v := ?_) rfl (by kernel_rfl) (by kernel_rfl) (by kernel_rfl) (fun _ _ _ h => h) (Or.inl ⟨by rfl, ?_⟩) (by assumption) ?_
      rotate_left
      · (intro w' hSw; go_simp; try with_reducible rfl)
      try simp only [Act.put, put8]
      refine wpAnyH_take (i := 8) (v := ?_) rfl (by kernel_rfl) (by kernel_rfl) (by kernel_rfl) (fun _ _ _ h => h) (Or.inl ⟨by rfl, ?_⟩) (by assumption) ?_
      rotate_left
      · (intro w' hSw; go_simp; try with_reducible rfl)
      try simp only [Act.put, put8]
      refine wpAnyH_take (i := 9) (v := ?_) rfl (by kernel_rfl) (by kernel_rfl) (by kernel_rfl) (fun _ _ _ h => h) (Or.inl ⟨by rfl, ?_⟩) (by assumption) ?_
      rotate_left
      · (intro w' hSw; go_simp; try with_reducible rfl)
      try simp only [Act.put, put8]
      refine wpAnyH_take (i := 10) (v := ?_) rfl (by kernel_rfl) (by kernel_rfl) (by kernel_rfl) (fun _ _ _ h => h) (Or.inl ⟨by rfl, ?_⟩) (by assumption) ?_
      rotate_left
      · (intro w' hSw; go_simp; try with_reducible rfl)
      try simp only [Act.put, put8]
      refine wpAnyH_take (i := 11) (v := ?_) rfl (by kernel_rfl) (by kernel_rfl) (by kernel_rfl) (fun _ _ _ h => h) (Or.inl ⟨by rfl, ?_⟩) (by assumption) ?_
      rotate_left
      · (intro w' hSw; have y := hSw.cell x1 (fun h => HNB.out (by simpa [add_block] using h)); go_simp; try with_reducible rfl)
      try simp only [Act.put, put8]
      refine wpAnyH_ready (rs := [6]) (by kernel_rfl) (by simp) ?_
      refine AllReadyH.cons rfl (fun K hK => ?_) (AllReadyH.nil)
      go_simp
      refine hK.out _ _ (hHeld.alloc _) (fun hHeld => ?_)
      try simp only [Act.put, put8]
      clear hK K
      refine wpAnyH_ready (rs := [12]) (by kernel_rfl) (by simp) ?_
      refine AllReadyH.cons rfl (fun K hK => ?_) (AllReadyH.nil)
      refine step_app rfl _ _ rfl etyRNames rfl (Own.lit wr.drew 108 2 #[] 0 (by decide) rfl) rfl (HF.out.chg (((Chg.refl [] wr).drew).alloc (.cells #[] 108)) (fun _ _ => List.not_mem_nil)) (nmv_one _) (by unfold maxLen; omega) (by omega) ?_
      intro B2 d2 w5 hown5 hchg5 hnew5 _
      have HO5 : Hid (Own w5 108 2 B2 x.1.n d2 (nmv x.2)) := Lib.hid (by simpa using hown5)
      have HC5 : Hid (Chg [] wr w5) := Lib.hid (((((Chg.refl [] wr).drew).alloc (.cells #[] 108))).trans hchg5 (fun x hx => by simp at hx; subst hx; right; simp))
      have HN5 : Hid (∀ k ∈ bo B2, wr.heap.size ≤ k) := Lib.hid (fun k hk => by rcases hnew5 k hk with h | h; simp at h; omega; have := h.1; simp at this; omega)
      have hH5 := (Chg.refl (bo A') wr).trans (HC5.out.nil (bo A')) (fun x hx => .inl hx)
      have HOW : Hid (Own (w5.alloc (.cells #[.string x.1.nm, .slice B2 x.1.n d2] 106)) 106 2 A' i c' (nsv (rnsl zs))) := Lib.hid (HZ.out.chg (HC5.out.alloc _) (fun _ _ => List.not_mem_nil))
      clear hown5 hchg5 hnew5
      refine hK.out _ _ (hH5) (fun hHeld => ?_)
      try simp only [Act.put, put8]
      clear hK K
      refine wpAnyH_take (i := 13) (v := ?_) rfl (by kernel_rfl) (by kernel_rfl) (by kernel_rfl) (fun _ _ _ h => h) (Or.inl ⟨by rfl, ?_⟩) (by assumption) ?_
      rotate_left
      · (intro w' hSw; go_simp; try with_reducible rfl)
      try simp only [Act.put, put8]
      refine wpAnyH_ready (rs := [14]) (by kernel_rfl) (by simp) ?_
      refine AllReadyH.cons rfl (fun K hK => ?_) (AllReadyH.nil)
      go_simp
      refine hK.out _ _ (hHeld.alloc _) (fun hHeld => ?_)
      try simp only [Act.put, put8]
      clear hK K
      refine wpAnyH_ready (rs := [15]) (by kernel_rfl) (by simp) ?_
      refine AllReadyH.cons rfl (fun K hK => ?_) (AllReadyH.nil)
      refine step_app rfl _ _ rfl etyFolds rfl HOW.out rfl (Own.lit w5 106 2 #[.string x.1.nm, .slice B2 x.1.n d2] 1 (by decide) rfl).rd (nsv_one [⟨x.1.nm, B2, x.1.n, d2⟩]) (by unfold maxLen; omega) (by omega) ?_
      intro A2 c2 w6 hown6 hchg6 hnew6 _
      have HO6 := Lib.hid hown6
      have HC6 := Lib.hid hchg6
      have HN6 := Lib.hid hnew6
      have hH6 := hHeld.trans hchg6 (fun x hx => .inl hx)
      clear hown6 hchg6 hnew6
      refine hK.out _ _ (hH6) (fun hHeld => ?_)
      try simp only [Act.put, put8]
      clear hK K
      refine wpAnyH_take (i := 16) (v := ?_) rfl (by kernel_rfl) (by kernel_rfl) (by kernel_rfl) (fun _ _ _ h => h) (Or.inl ⟨by rfl, ?_⟩) (by assumption) ?_
      rotate_left
      · (intro w' hSw; go_simp; try with_reducible rfl)
      try simp only [Act.put, put8]
      refine wpAnyH_done (by kernel_rfl) ?_ _
      try simp only [Act.put, put8]
      clear hHeld hH5 hH6 x0 x1
      go_wp2
      go_roundw
      case rel =>
        have hzl : ∀ z ∈ zs, ∀ k ∈ bo z.1.A, k < wr.heap.size := fun z hz k hk => (HZF.out z hz).lt k hk
        have hcl : Chg [] wr (w5.alloc (.cells #[.string x.1.nm, .slice B2 x.1.n d2] 106)) := HC5.out.alloc _
        have hAl := HZ.out.lt
        refine ⟨i + 1, A2, c2, zs ++ [(⟨x.1.nm, B2, x.1.n, d2⟩, x.2)], by omega, by go_num, rfl, ?_, fun z hz => ?_, ?_, (HCH.out.trans0 hcl).trans HC6.out (fun x hx => .inr (HNW.out x (List.mem_append_left _ hx))), fun k hk => ?_⟩
        · have := HO6.out
          rw [rnsl_snoc, nsv_append]
          exact this
        · rcases List.mem_append.1 hz with hz | hz
          · exact ((HZF.out z hz).chg hcl (fun _ _ => List.not_mem_nil)).chg HC6.out ((HZF.out z hz).own_ne HZ.out (by decide))
          · simp only [List.mem_singleton] at hz
            subst hz
            exact (HO5.out.chg ((Chg.refl [] w5).alloc _) (fun _ _ => List.not_mem_nil)).chg HC6.out (fun k hk hm => by have h1 := HN5.out k hk; have h2 := hAl k hm; omega)
        · rw [rval_snoc, HVAL.out]
          unfold rval
          rw [List.map_take, List.map_take, take_snoc _ i _ (show (rs.map _)[i]? = some _ by rw [List.getElem?_map, HX.out]; rfl)]
        · rw [rblk_snoc] at hk
          have h3 := HCH.out.size
          rcases List.mem_append.1 hk with hk | hk
          · rcases HN6.out k hk with h | h
            · exact HNW.out k (List.mem_append_left _ h)
            · have h4 := HC5.out.size; simp at h; omega
          · rcases List.mem_append.1 hk with hk | hk
            · exact HNW.out k (List.mem_append_right _ hk)
            · have := HN5.out k hk; omega
      case measure => simp [intOf]; omega
    · obtain rfl : i = n := by omega
      go_wp2
      go_ret
      refine ⟨A', c', zs, rfl, ⟨HZ.out.rd, fun z hz => (HZF.out z hz).rd⟩, ?_, HCH.out, fun k hk => ⟨HNW.out k hk, by
        rcases List.mem_append.1 hk with hk | hk
        · exact HZ.out.lt k hk
        · obtain ⟨z, hz, hk⟩ := List.mem_flatMap.1 hk
          exact (HZF.out z hz).lt k hk⟩⟩
      rw [HVAL.out, List.take_of_length_le (by rw [HLX.out]; exact Nat.le_refl _)]
end Go.Proofs.YtgomofeidghmiaaGreat
