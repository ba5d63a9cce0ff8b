/-
  Layer 08: disks as arguments, opened.
  Layer 08: the law's call keeps what holds.
  Layer 08: a script as an argument, opened.
  Layer 08: the law's settle.
  Layer 08: the law's settle, walked.
  Layer 08, plain: what each call does to the power, the steps, the room.
  Layer 08, plain: all made safe; a Rename behind it.
  Layer 08: Bytes: how many bytes a disk has.
  Layer 08: the laws' shared parts: a script run; how great what is told may be.
  Layer 08: a fate, a last move as arguments, opened; how great a script is.
-/
import Derived.Test.YtgomofeidghmiaaGreatVfJa
import Derived.Test.YtgomofeidghmiaaGreatVfJh
import Derived.Test.YtgomofeidghmiaaGreatVfCa
import Derived.Test.YtgomofeidghmiaaGreatVfJb
import Derived.Test.YtgomofeidghmiaaGreatVfJd
namespace Go.Proofs.YtgomofeidghmiaaGreat
open Go.RowKit Go.ChangeShapes Go.WideShapes Go.Deep

theorem sum_le_range {H : Type} (D : Nat → DataW H) (n : Nat) {α : Type} (Z : List α) (G : α → Nat) (hl : Z.length = n) (h : ∀ (i : Nat) z, Z[i]? = some z → G z ≤ Rows.uptoBulk (D i)) : (Z.map G).sum ≤ Rows.uptoBulkAll ((List.range n).map D) := by
  have h1 := bulk_map_range D n (fun i => (Z[i]?.map G).getD 0) (fun i hil => by
    have hz : Z[i]? = some (Z[i]'(by omega)) := List.getElem?_eq_getElem (by omega)
    rw [hz]
    exact h i _ hz)
  have h2 : (List.range n).map (fun i => (Z[i]?.map G).getD 0) = Z.map G := by
    apply List.ext_getElem?
    intro i
    rw [List.getElem?_map, List.getElem?_map]
    by_cases hil : i < n
    · rw [List.getElem?_eq_getElem (by simpa using hil), List.getElem?_eq_getElem (by omega)]
      have hil' : i < Z.length := by omega
      simp [hil']
    · rw [List.getElem?_eq_none (by simp; omega), List.getElem?_eq_none (by omega)]
      rfl
  rwa [h2] at h1

theorem collect {α : Type} {Q : Nat → α → Prop} (n : Nat) (h : ∀ i, i < n → ∃ z, Q i z) : ∃ Z : List α, Z.length = n ∧ ∀ (i : Nat) z, Z[i]? = some z → Q i z := by
  induction n with
  | zero => exact ⟨[], rfl, fun i z h => by simp at h⟩
  | succ k ih =>
    obtain ⟨zs, h1, h2⟩ := ih (fun i hi => h i (by omega))
    obtain ⟨z, hz⟩ := h k (by omega)
    refine ⟨zs ++ [z], by simp [h1], fun i y hy => ?_⟩
    by_cases hik : i < k
    · rw [List.getElem?_append_left (by omega)] at hy; exact h2 i y hy
    · rw [List.getElem?_append_right (by omega)] at hy
      have h0 : i = k := by
        rcases Nat.lt_or_ge k i with h3 | h3
        · rw [List.getElem?_eq_none (by simp; omega)] at hy; cases hy
        · omega
      subst h0
      rw [h1, Nat.sub_self] at hy
      simp at hy
      subst hy
      exact hz

theorem slice_of_trod {H : Type} {enc : TypeId × Value → H} {W : World} {sp : Nat → Bool} {held : Bool} {t e : TypeId} {v1 : Value} {n : Nat} {y : DataW H × List MemPlace} (ht : Tryz.prog.underlying t = some (.slice e)) (h1 : DataW.trod enc Tryz.prog W 0 sp held n t [v1] = some y) : ∃ a l c, v1 = .slice a l c := by
  rcases open_slice ht h1 with ⟨h1, _⟩ | ⟨a, len, cap, m, n, D, Pl, h1, _⟩
  · simp at h1; exact ⟨_, _, _, h1⟩
  · simp at h1; exact ⟨_, _, _, h1⟩

theorem rd_nsv {W : World} {a : Addr} {n c : Nat} {xs : List Nsl} (hl : xs.length = n) (hn : n ≤ c) (hm : c ≤ maxLen) (h : ∀ (i : Nat) x, xs[i]? = some x → W.cell? (a.add (i * 2)) = some (.string x.nm) ∧ W.cell? (a.add (i * 2 + 1)) = some (.slice x.A x.n x.c)) : Rd W 2 (some a) n c (nsv xs) := by
  refine ⟨by rw [nsv_length, hl], hn, hm, (fun e => by cases e), fun ad e => ?_⟩
  injection e with e; subst e
  refine ⟨fun hp => ?_, fun j u hu => ?_⟩
  · obtain ⟨x, hx⟩ : ∃ x, xs[0]? = some x := ⟨_, List.getElem?_eq_getElem (by omega)⟩
    have := World.block_lt_of_cell? _ _ (h 0 x hx).1
    rwa [add_block] at this
  · have hj := nsv_get xs (j / 2) (j % 2) (Nat.mod_lt _ (by decide))
    rw [show j / 2 * 2 + j % 2 = j by omega, hu] at hj
    cases hx : xs[j / 2]? with
    | none => rw [hx] at hj; simp at hj
    | some x =>
      rw [hx] at hj
      simp only [Option.bind_some] at hj
      have h2 := h _ x hx
      rcases Nat.mod_two_eq_zero_or_one j with e | e
      · rw [e] at hj
        have := h2.1
        rw [show j / 2 * 2 = j by omega] at this
        rw [this]; simpa [Nsl.cells] using hj.symm
      · rw [e] at hj
        have := h2.2
        rw [show j / 2 * 2 + 1 = j by omega] at this
        rw [this]; simpa [Nsl.cells] using hj.symm
theorem sum_one_le {α : Type} (l : List α) (f : α → Nat) : l.length ≤ (l.map fun x => f x + 1).sum := by
  induction l with
  | nil => simp
  | cons x r ih => simp only [List.map_cons, List.sum_cons, List.length_cons]; omega
set_option maxRecDepth 100000 in
theorem opn_files {H : Type} {enc : TypeId × Value → H} {W : World} {sp : Nat → Bool} {held : Bool} {v : Value} {d : DataW H} {p : List MemPlace}
    (hv : ∃ a l c, v = .slice a l c) (h : DataW.Trod enc Tryz.prog W 0 sp held 65 v d p) :
    ∃ A n c, ∃ fs : List FM, v = .slice A n c ∧ FilesR W A n c fs ∧ (fs.map fun x => x.2.length + 1).sum + 1 ≤ Rows.uptoBulk d := by
  obtain ⟨a0, l0, c0, rfl⟩ := hv
  obtain ⟨fuel, hf⟩ := h
  rcases open_slice_fields (e := 70) Tryz.underlying65 Tryz.underlying70 (by kernel_rfl) (by kernel_rfl) hf with ⟨hcs, hx⟩ | ⟨a, len, cap, m, D, Pl, hcs, hb, hl, hm, hmm, hx, hi⟩
  · simp [Value.cells] at hcs
    obtain ⟨rfl, rfl, rfl⟩ := hcs
    simp only [Prod.mk.injEq] at hx
    obtain ⟨rfl, rfl⟩ := hx
    exact ⟨none, 0, 0, [], rfl, ⟨Rd.nil _ _, by simp⟩, by simp [Rows.uptoBulk]⟩
  · simp [Value.cells] at hcs
    obtain ⟨rfl, rfl, rfl⟩ := hcs
    simp only [Prod.mk.injEq] at hx
    obtain ⟨rfl, rfl⟩ := hx
    have hle : l0 ≤ m := by rw [hmm]; split <;> omega
    have el : ∀ i, i < l0 → ∃ x : FM, (W.cell? (a.add (i * 2)) = some (.string x.1.nm) ∧ W.cell? (a.add (i * 2 + 1)) = some (.slice x.1.A x.1.n x.1.c) ∧ Rd W 1 x.1.A x.1.n x.1.c (bv x.2)) ∧ x.2.length + 1 ≤ Rows.uptoBulk (D i) := by
      intro i hil
      obtain ⟨ys, n', hD, hPl, hyl, hfl⟩ := hi i (by omega)
      obtain ⟨v0, y0, e0, g0, t0⟩ := hfl 0 _ rfl
      obtain ⟨v1, y1, e1, g1, t1⟩ := hfl 1 _ rfl
      obtain ⟨nm, h0, hy0, _⟩ := DataW.trod_string Tryz.underlying9 t0
      simp at h0
      subst h0
      obtain ⟨a1, l1, c1, rfl⟩ := slice_of_trod Tryz.underlying31 t1
      obtain ⟨A1, n1, cc1, zs, hz1, hz2, hz3, hz4, _⟩ := opn_ints Tryz.underlying31 Tryz.underlying5 (by kernel_rfl) ⟨_, _, _, rfl⟩ ⟨n', t1⟩
      injection hz1 with i1 i2 i3
      subst i1; subst i2; subst i3
      refine ⟨(⟨nm, a1, l1, c1⟩, zs), ⟨by simpa using e0, e1, hz2⟩, ?_⟩
      rw [hD]
      have hys : ys = [y0, y1] := by
        match ys, hyl with
        | [z0, z1], _ => simp at g0 g1; rw [g0, g1]
      rw [hys]
      simp only [List.map_cons, List.map_nil, Rows.uptoBulk, Rows.uptoBulkAll, hz3]
      omega
    obtain ⟨fs, hll, hlp⟩ := collect l0 el
    have hs := sum_le_range D l0 fs (fun x => x.2.length + 1) hll (fun i z hz => (hlp i z hz).2)
    refine ⟨some a, l0, c0, fs, rfl, ⟨rd_nsv (by simp [fnsl, hll]) hl hm (fun i x hx => ?_), fun f hf => ?_⟩, ?_⟩
    · unfold fnsl at hx
      rw [List.getElem?_map] at hx
      cases hz : fs[i]? with
      | none => rw [hz] at hx; cases hx
      | some z =>
        rw [hz] at hx
        simp at hx
        subst hx
        exact ⟨(hlp i z hz).1.1, (hlp i z hz).1.2.1⟩
    · obtain ⟨i, hi'⟩ := List.getElem?_of_mem hf
      exact (hlp i f hi').1.2.2
    · simp only [Rows.uptoBulk]; omega
set_option maxRecDepth 100000 in
theorem opn_dirs {H : Type} {enc : TypeId × Value → H} {W : World} {sp : Nat → Bool} {held : Bool} {v : Value} {d : DataW H} {p : List MemPlace}
    (hv : ∃ a l c, v = .slice a l c) (h : DataW.Trod enc Tryz.prog W 0 sp held 22 v d p) :
    ∃ A n c, ∃ ds : List DM, v = .slice A n c ∧ DirsR W A n c ds ∧ bulk8 (dval8 ds) + 1 ≤ Rows.uptoBulk d := by
  obtain ⟨a0, l0, c0, rfl⟩ := hv
  obtain ⟨fuel, hf⟩ := h
  rcases open_slice_fields (e := 67) Tryz.underlying22 Tryz.underlying67 (by kernel_rfl) (by kernel_rfl) hf with ⟨hcs, hx⟩ | ⟨a, len, cap, m, D, Pl, hcs, hb, hl, hm, hmm, hx, hi⟩
  · simp [Value.cells] at hcs
    obtain ⟨rfl, rfl, rfl⟩ := hcs
    simp only [Prod.mk.injEq] at hx
    obtain ⟨rfl, rfl⟩ := hx
    exact ⟨none, 0, 0, [], rfl, ⟨Rd.nil _ _, by simp⟩, by simp [Rows.uptoBulk, bulk8, dval8]⟩
  · simp [Value.cells] at hcs
    obtain ⟨rfl, rfl, rfl⟩ := hcs
    simp only [Prod.mk.injEq] at hx
    obtain ⟨rfl, rfl⟩ := hx
    have hle : l0 ≤ m := by rw [hmm]; split <;> omega
    have el : ∀ i, i < l0 → ∃ x : DM, (W.cell? (a.add (i * 2)) = some (.string x.1.nm) ∧ W.cell? (a.add (i * 2 + 1)) = some (.slice x.1.A x.1.n x.1.c) ∧ FilesR W x.1.A x.1.n x.1.c x.2) ∧ (x.2.map fun f => f.2.length + 1).sum + 1 ≤ Rows.uptoBulk (D i) := by
      intro i hil
      obtain ⟨ys, n', hD, hPl, hyl, hfl⟩ := hi i (by omega)
      obtain ⟨v0, y0, e0, g0, t0⟩ := hfl 0 _ rfl
      obtain ⟨v1, y1, e1, g1, t1⟩ := hfl 1 _ rfl
      obtain ⟨nm, h0, hy0, _⟩ := DataW.trod_string Tryz.underlying9 t0
      simp at h0
      subst h0
      obtain ⟨a1, l1, c1, rfl⟩ := slice_of_trod Tryz.underlying65 t1
      obtain ⟨A1, n1, cc1, zs, hz1, hz2, hz4⟩ := opn_files ⟨_, _, _, rfl⟩ ⟨n', t1⟩
      injection hz1 with i1 i2 i3
      subst i1; subst i2; subst i3
      refine ⟨(⟨nm, a1, l1, c1⟩, zs), ⟨by simpa using e0, e1, hz2⟩, ?_⟩
      rw [hD]
      have hys : ys = [y0, y1] := by
        match ys, hyl with
        | [z0, z1], _ => simp at g0 g1; rw [g0, g1]
      rw [hys]
      simp only [List.map_cons, List.map_nil, Rows.uptoBulk, Rows.uptoBulkAll]
      omega
    obtain ⟨fs, hll, hlp⟩ := collect l0 el
    have hbk : bulk8 (dval8 fs) = (fs.map fun x => (x.2.map fun f => f.2.length + 1).sum + 1).sum := by unfold bulk8 dval8; rw [List.map_map]; congr 1; apply List.map_congr_left; intro x _; simp [fval8, Function.comp_def]
    have hs := sum_le_range D l0 fs (fun x => (x.2.map fun f => f.2.length + 1).sum + 1) hll (fun i z hz => (hlp i z hz).2)
    refine ⟨some a, l0, c0, fs, rfl, ⟨rd_nsv (by simp [dnsl, hll]) hl hm (fun i x hx => ?_), fun f hf => ?_⟩, ?_⟩
    · unfold dnsl at hx
      rw [List.getElem?_map] at hx
      cases hz : fs[i]? with
      | none => rw [hz] at hx; cases hx
      | some z =>
        rw [hz] at hx
        simp at hx
        subst hx
        exact ⟨(hlp i z hz).1.1, (hlp i z hz).1.2.1⟩
    · obtain ⟨i, hi'⟩ := List.getElem?_of_mem hf
      exact (hlp i f hi').1.2.2
    · rw [hbk]; simp only [Rows.uptoBulk]; omega
set_option maxRecDepth 100000 in
theorem opn_start {H : Type} {enc : TypeId × Value → H} {W : World} {b : Nat} {r : Reach} {sp : Nat → Bool} {held : Bool} {v : Value} {d : DataW H} {p : List MemPlace}
    (hv : Value.okWide Tryz.prog W r b 24 v) (h : DataW.Trod enc Tryz.prog W 0 sp held 24 v d p) :
    ∃ A n c, ∃ ds : List DM, ∃ q at_ : Int, v = .agg #[.slice A n c, .int .i64 q, .int .i64 at_] ∧ DirsR W A n c ds ∧ (Lit.int .i64 q).wf = true ∧ (Lit.int .i64 at_).wf = true ∧ bulk8 (dval8 ds) + 1 ≤ Rows.uptoBulk d := by
  obtain ⟨v0, v1, v2, y0, y1, y2, n, rfl, rfl, rfl, h0, h1, h2⟩ := Go.Joins.open_agg3 Tryz.underlying24 (by kernel_rfl) (by kernel_rfl) hv h
  obtain ⟨a0, l0, c0, rfl⟩ := slice_of_trod Tryz.underlying22 h0
  obtain ⟨A, n0, cc, ds, e0, hz0, hb0⟩ := opn_dirs ⟨_, _, _, rfl⟩ ⟨n, h0⟩
  obtain ⟨q, hq, _, hqw⟩ := DataW.trod_int Tryz.underlying3 h1
  obtain ⟨t, ht, _, htw⟩ := DataW.trod_int Tryz.underlying3 h2
  simp at hq ht
  subst hq; subst ht
  injection e0 with i1 i2 i3
  subst i1; subst i2; subst i3
  refine ⟨_, _, _, ds, q, t, rfl, hz0, ?_, ?_, ?_⟩
  · exact hqw
  · exact htw
  · simp only [Rows.uptoBulk, Rows.uptoBulkAll]; omega
end Go.Proofs.YtgomofeidghmiaaGreat

namespace Go.Proofs.YtgomofeidghmiaaGreat
open Go.RowKit

theorem Inv.callK {B : Nat} {S : St} (h : Inv B S) (m : Nat) (d n t : ByteArray) (xs : List Int) : Inv (B + xs.length + 2) (callK S m d n t xs).1 := by
  unfold Go.Proofs.YtgomofeidghmiaaGreat.callK
  split
  · exact (h.mkdir d).mono (by omega)
  · exact (h.create d n).mono (by omega)
  · exact h.write d n xs
  · exact h.write d n xs
  · exact h.write d n xs
  · exact (h.sync d n).mono (by omega)
  · exact (h.sync d n).mono (by omega)
  · exact h.names.mono (by omega)
  · exact h.names.mono (by omega)
  · exact (h.rename d t).mono (by omega)
  · exact (h.remove d n).mono (by omega)
  · exact (h.rmdir d).mono (by omega)
  · exact h.mono (by omega)
  · exact h.mono (by omega)
  · exact h.mono (by omega)
/-- the law's call, at a file system that lies behind w0 -/
theorem FsAt.call {w0 w : World} {p : Nat} {S : St} {B : Nat} (h : FsAt w0 w p S) (hi : Inv B S) (o : O8) (hd : Rd w0 1 o.A o.n o.c (bv o.data)) (hB : B + o.n + 1 ≤ 1073741824) :
    Calls Tryz.prog 8 #[.pointer (some ⟨p, 0, none⟩), .agg #[.int .i64 o.kind, .string o.dir, .string o.name, .string o.dest, .slice o.A o.n o.c]] w fun e w' =>
      ∃ dA dn dc nA nn nc, e = .returned (.agg #[.int .i64 (callK S (kd o.kind) o.dir o.name o.dest o.data).2.1, .slice dA dn dc, .slice nA nn nc]) ∧
        Own w' 5 1 dA dn dc (bv (callK S (kd o.kind) o.dir o.name o.dest o.data).2.2.1) ∧ Own w' 9 1 nA nn nc (svs (callK S (kd o.kind) o.dir o.name o.dest o.data).2.2.2) ∧
        (∀ k ∈ bo dA ++ bo nA, w.heap.size ≤ k) ∧ FsAt w0 w' p (callK S (kd o.kind) o.dir o.name o.dest o.data).1 := by
  obtain ⟨G, hF, rfl, hn, hc⟩ := h
  refine (lawcall_any hF hi o (hd.chg hc (fun _ _ => List.not_mem_nil)) hB (fun h0 x hx hm => by
    obtain ⟨ad, he, h1⟩ := hd.some_ h0
    have h2 := hn x hm
    rw [he] at hx
    simp at hx
    omega)).mono ?_
  rintro e w' ⟨dA, dn, dc, nA, nn, nc, he, h1, h2, h3, G', h4, h5, h6, _, h7⟩
  exact ⟨dA, dn, dc, nA, nn, nc, he, h1, h2, h3, .to hn hc ⟨G', h4, h5, h6, h7⟩⟩
end Go.Proofs.YtgomofeidghmiaaGreat

namespace Go.Proofs.YtgomofeidghmiaaGreat
open Go.RowKit Go.ChangeShapes Go.WideShapes Go.Deep

/-- a script lies there -/
def Scr8 (w : World) (A : Option Addr) (n : Nat) (os : List O8) : Prop :=
  os.length = n ∧ ∀ (i : Nat) o, os[i]? = some o → ∃ a, A = some a ∧ w.cell? (a.add (i * 5)) = some (.int .i64 o.kind) ∧ w.cell? (a.add (i * 5 + 1)) = some (.string o.dir) ∧ w.cell? (a.add (i * 5 + 2)) = some (.string o.name) ∧
    w.cell? (a.add (i * 5 + 3)) = some (.string o.dest) ∧ w.cell? (a.add (i * 5 + 4)) = some (.slice o.A o.n o.c) ∧ Rd w 1 o.A o.n o.c (bv o.data)
set_option maxRecDepth 100000 in
theorem opn_ops8 {H : Type} {enc : TypeId × Value → H} {W : World} {sp : Nat → Bool} {held : Bool} {v : Value} {d : DataW H} {p : List MemPlace}
    (hv : ∃ a l c, v = .slice a l c) (h : DataW.Trod enc Tryz.prog W 0 sp held 25 v d p) :
    ∃ A n c, ∃ os : List O8, v = .slice A n c ∧ Scr8 W A n os ∧ (os.map fun o => o.n + 1).sum + 1 ≤ Rows.uptoBulk d := by
  obtain ⟨a0, l0, c0, rfl⟩ := hv
  obtain ⟨fuel, hf⟩ := h
  rcases open_slice_fields (e := 33) Tryz.underlying25 Tryz.underlying33 (by kernel_rfl) (by kernel_rfl) hf with ⟨hcs, hx⟩ | ⟨a, len, cap, m, D, Pl, hcs, hb, hl, hm, hmm, hx, hi⟩
  · simp [Value.cells] at hcs
    obtain ⟨rfl, rfl, rfl⟩ := hcs
    simp only [Prod.mk.injEq] at hx
    obtain ⟨rfl, rfl⟩ := hx
    exact ⟨none, 0, 0, [], rfl, ⟨rfl, fun i o ho => by simp at ho⟩, by simp [Rows.uptoBulk]⟩
  · simp [Value.cells] at hcs
    obtain ⟨rfl, rfl, rfl⟩ := hcs
    simp only [Prod.mk.injEq] at hx
    obtain ⟨rfl, rfl⟩ := hx
    have hle : l0 ≤ m := by rw [hmm]; split <;> omega
    have el : ∀ i, i < l0 → ∃ o : O8, (W.cell? (a.add (i * 5)) = some (.int .i64 o.kind) ∧ W.cell? (a.add (i * 5 + 1)) = some (.string o.dir) ∧ W.cell? (a.add (i * 5 + 2)) = some (.string o.name) ∧
        W.cell? (a.add (i * 5 + 3)) = some (.string o.dest) ∧ W.cell? (a.add (i * 5 + 4)) = some (.slice o.A o.n o.c) ∧ Rd W 1 o.A o.n o.c (bv o.data)) ∧ o.n + 1 ≤ Rows.uptoBulk (D i) := by
      intro i hil
      obtain ⟨ys, n', hD, hPl, hyl, hfl⟩ := hi i (by omega)
      obtain ⟨v0, y0, e0, g0, t0⟩ := hfl 0 _ rfl
      obtain ⟨v1, y1, e1, g1, t1⟩ := hfl 1 _ rfl
      obtain ⟨v2, y2, e2, g2, t2⟩ := hfl 2 _ rfl
      obtain ⟨v3, y3, e3, g3, t3⟩ := hfl 3 _ rfl
      obtain ⟨v4, y4, e4, g4, t4⟩ := hfl 4 _ rfl
      obtain ⟨k, h0, _⟩ := DataW.trod_int Tryz.underlying3 t0
      obtain ⟨s1, h1, _⟩ := DataW.trod_string Tryz.underlying9 t1
      obtain ⟨s2, h2, _⟩ := DataW.trod_string Tryz.underlying9 t2
      obtain ⟨s3, h3, _⟩ := DataW.trod_string Tryz.underlying9 t3
      simp at h0 h1 h2 h3
      subst h0 h1 h2 h3
      obtain ⟨a1, l1, c1, rfl⟩ := slice_of_trod Tryz.underlying31 t4
      obtain ⟨A1, n1, cc1, zs, hz1, hz2, hz3, hz4, _⟩ := opn_ints Tryz.underlying31 Tryz.underlying5 (by kernel_rfl) ⟨_, _, _, rfl⟩ ⟨n', t4⟩
      injection hz1 with i1 i2 i3
      subst i1; subst i2; subst i3
      refine ⟨⟨k, s1, s2, s3, a1, l1, c1, zs⟩, ⟨by simpa using e0, e1, e2, e3, e4, hz2⟩, ?_⟩
      rw [hD]
      have hys : ys = [y0, y1, y2, y3, y4] := by
        match ys, hyl with
        | [z0, z1, z2, z3, z4], _ => simp at g0 g1 g2 g3 g4; rw [g0, g1, g2, g3, g4]
      rw [hys]
      simp only [List.map_cons, List.map_nil, Rows.uptoBulk, Rows.uptoBulkAll]
      omega
    obtain ⟨os, hll, hlp⟩ := collect l0 el
    have hs := sum_le_range D l0 os (fun o => o.n + 1) hll (fun i z hz => (hlp i z hz).2)
    refine ⟨some a, l0, c0, os, rfl, ⟨hll, fun i o ho => ⟨a, rfl, (hlp i o ho).1⟩⟩, ?_⟩
    simp only [Rows.uptoBulk]; omega
end Go.Proofs.YtgomofeidghmiaaGreat

namespace Go.Proofs.YtgomofeidghmiaaGreat
open Go.RowKit

/-- a directory's files made safe, one behind another; right: none was refused -/
def setF (d : ByteArray) (S : St) : List (ByteArray × List Int) → St × Bool
  | [] => (S, true)
  | x :: r => if (S.sync d x.1).2 = 0 then setF d (S.sync d x.1).1 r else ((S.sync d x.1).1, false)
def setD (S : St) : Dsk → St × Bool
  | [] => (S, true)
  | d :: r => if (setF d.1 S d.2).2 = true then setD (setF d.1 S d.2).1 r else ((setF d.1 S d.2).1, false)
def settleS (S : St) : St × Bool := if (setD S S.view).2 = true then ((setD S S.view).1.names.1, decide ((setD S S.view).1.names.2 = 0)) else ((setD S S.view).1, false)
theorem setF_at {d : ByteArray} {S : St} {l : List (ByteArray × List Int)} {j : Nat} {x : ByteArray × List Int} (h : l[j]? = some x) : setF d S (l.drop j) = if (S.sync d x.1).2 = 0 then setF d (S.sync d x.1).1 (l.drop (j + 1)) else ((S.sync d x.1).1, false) := by
  have hj := (List.getElem?_eq_some_iff.1 h)
  obtain ⟨h1, h2⟩ := hj
  rw [List.drop_eq_getElem_cons h1, h2]
  rfl
theorem setD_at {S : St} {D : Dsk} {i : Nat} {x : ByteArray × List (ByteArray × List Int)} (h : D[i]? = some x) : setD S (D.drop i) = if (setF x.1 S x.2).2 = true then setD (setF x.1 S x.2).1 (D.drop (i + 1)) else ((setF x.1 S x.2).1, false) := by
  obtain ⟨h1, h2⟩ := List.getElem?_eq_some_iff.1 h
  rw [List.drop_eq_getElem_cons h1, h2]
  rfl
theorem Inv.setF {B : Nat} {S : St} (h : Inv B S) (d : ByteArray) (l : List (ByteArray × List Int)) : Inv (B + l.length) (setF d S l).1 := by
  induction l generalizing S B with
  | nil => exact h
  | cons x r ih =>
    unfold Go.Proofs.YtgomofeidghmiaaGreat.setF
    have h1 := h.sync d x.1
    split
    · have h2 := ih h1
      exact h2.mono (by simp; omega)
    · exact h1.mono (by simp)
theorem Inv.setD {B : Nat} {S : St} (h : Inv B S) (D : Dsk) : Inv (B + cnt8 D) (setD S D).1 := by
  induction D generalizing S B with
  | nil => exact h
  | cons x r ih =>
    unfold Go.Proofs.YtgomofeidghmiaaGreat.setD
    have h1 := h.setF x.1 x.2
    have hc : cnt8 (x :: r) = x.2.length + cnt8 r := by simp [cnt8]
    split
    · exact (ih h1).mono (by omega)
    · exact h1.mono (by omega)
end Go.Proofs.YtgomofeidghmiaaGreat

namespace Go.Proofs.YtgomofeidghmiaaGreat
open Go.RowKit

theorem FsTo.trans {w w1 w2 : World} {G G1 : FsG} {S2 : St} (ha : ∀ x ∈ G1.all, x ∈ G.all ∨ w.heap.size ≤ x) (hb : G1.b = G.b) (hc : Chg G.all w w1) (h : FsTo w1 G1 S2 w2) : FsTo w G S2 w2 := by
  obtain ⟨G', h1, h2, h3, h4⟩ := h
  refine ⟨G', h1, h2.trans hb, fun x hx => ?_, hc.trans h4 ha⟩
  rcases h3 x hx with h | h
  · exact ha x h
  · exact .inr (Nat.le_trans hc.size h)
theorem FsTo.keep0 {w w1 w2 : World} {G : FsG} {S2 : St} (h : FsTo w G S2 w1) (hc : Chg [] w1 w2) : FsTo w G S2 w2 := by
  obtain ⟨G', h1, h2, h3, h4⟩ := h
  exact ⟨G', h1.keep0 hc, h2, h3, h4.trans0 hc⟩
theorem FsTo.sync {w w1 : World} {G : FsG} {S1 : St} {B : Nat} (h : FsTo w G S1 w1) (hi : Inv B S1) (hB : B ≤ 1073741824) (d n : ByteArray) :
    Calls Tryz.prog 27 #[.pointer (some ⟨G.b, 0, none⟩), .string d, .string n] w1 fun e w' => e = .returned (.int .i64 (S1.sync d n).2) ∧ FsTo w G (S1.sync d n).1 w' := by
  obtain ⟨G', h1, h2, h3, h4⟩ := h
  rw [← h2]
  exact (sync_st h1 hi d n hB).mono fun e w' ⟨a, b⟩ => ⟨a, .trans h3 h2 h4 b⟩
theorem FsTo.names {w w1 : World} {G : FsG} {S1 : St} {B : Nat} (h : FsTo w G S1 w1) (hi : Inv B S1) (hB : B ≤ 1073741824) :
    Calls Tryz.prog 32 #[.pointer (some ⟨G.b, 0, none⟩)] w1 fun e w' => e = .returned (.int .i64 S1.names.2) ∧ FsTo w G S1.names.1 w' := by
  obtain ⟨G', h1, h2, h3, h4⟩ := h
  rw [← h2]
  exact (names_st h1 hi hB).mono fun e w' ⟨a, b⟩ => ⟨a, .trans h3 h2 h4 b⟩
theorem FsTo.before {w w1 w2 : World} {G : FsG} {S2 : St} (hc : Chg [] w w1) (h : FsTo w1 G S2 w2) : FsTo w G S2 w2 := by
  obtain ⟨G', h1, h2, h3, h4⟩ := h
  exact ⟨G', h1, h2, fun x hx => (h3 x hx).imp id (fun h => Nat.le_trans hc.size h), (hc.nil _).trans h4 (fun x hx => .inl hx)⟩
theorem FsTo.chg {w w1 : World} {G : FsG} {S1 : St} (h : FsTo w G S1 w1) : Chg G.all w w1 := by obtain ⟨_, _, _, _, h⟩ := h; exact h

end Go.Proofs.YtgomofeidghmiaaGreat

namespace Go.Proofs.YtgomofeidghmiaaGreat
open Go.RowKit

/-- is it a change? -/
def chK (m : Nat) : Bool := decide (m < 8) || (decide (10 < m) && decide (m < 15))
theorem ask_down {S : St} (h : S.down = true) (t : Bool) (ns : List ByteArray) : S.ask t ns = 80 := by unfold St.ask; rw [if_pos h]
theorem fnd_down {S : St} (h : S.down = true) (d n : ByteArray) : S.fnd d n = (none, 80) := by unfold St.fnd; rw [ask_down h]; rfl
theorem callK_down {S : St} (h : S.down = true) (m : Nat) (d n t : ByteArray) (xs : List Int) : callK S m d n t xs = (S, 80, [], []) := by
  unfold callK
  split <;> simp [St.mkdir, St.create, St.write, St.sync, St.names, St.rename, St.remove, St.rmdir, St.read, St.list, St.dirs, ask_down h, fnd_down h, h]
theorem fnd_no {S : St} {d n : ByteArray} {e : Int} (h : S.fnd d n = (none, e)) : e ≠ 0 := by
  unfold St.fnd at h
  by_cases h0 : S.ask true [d, n] = 0
  · rw [if_neg (by simp [h0])] at h
    cases hg : aget (folOf S.seen d) n with
    | none => rw [hg] at h; simp at h; omega
    | some i => rw [hg] at h; simp at h
  · rw [if_pos h0] at h; simp at h; rw [← h]; exact h0
end Go.Proofs.YtgomofeidghmiaaGreat

namespace Go.Proofs.YtgomofeidghmiaaGreat
open Go.RowKit

def fbytes (fs : List (ByteArray × List Int)) : Nat := (fs.map fun q => q.2.length).sum
theorem bytesOf_snoc (D : Dsk) (d : ByteArray × List (ByteArray × List Int)) : bytesOf (D ++ [d]) = bytesOf D + fbytes d.2 := by simp [bytesOf, fbytes]
theorem fbytes_snoc (fs : List (ByteArray × List Int)) (f : ByteArray × List Int) : fbytes (fs ++ [f]) = fbytes fs + f.2.length := by simp [fbytes]
theorem sum_take_le (l : List Nat) (i : Nat) : (l.take i).sum ≤ l.sum := by
  conv => rhs; rw [← List.take_append_drop i l, List.sum_append]
  omega
theorem fbytes_take_le (fs : List (ByteArray × List Int)) (i : Nat) : fbytes (fs.take i) ≤ fbytes fs := by
  unfold fbytes; rw [List.map_take]; exact sum_take_le _ _
theorem bytesOf_take_le (D : Dsk) (i : Nat) : bytesOf (D.take i) ≤ bytesOf D := by
  unfold bytesOf; rw [List.map_take]; exact sum_take_le _ _

set_option maxRecDepth 100000 in
set_option maxHeartbeats 3200000 in
theorem rbytes_any (A : Option Addr) (n c : Nat) (ds : List DM) (w : World) (h : DirsR w A n c ds) (hn : n ≤ 1073741824) (hfn : ∀ d ∈ ds, d.1.n ≤ 1073741824) (hb : bytesOf (dval8 ds) ≤ 1152921504606846976) :
    Calls Tryz.prog 51 #[.slice A n c] w fun e w' => e = .returned (.int .i64 (bytesOf (dval8 ds) : Int)) ∧ Chg [] w w' := by
  have hl : ds.length = n := by have := h.row.nsl; simpa [dnsl] using this
  have HR := Lib.hid h
  have HL := Lib.hid hl
  have HFN := Lib.hid hfn
  have HB := Lib.hid hb
  clear h hl hfn hb
  go_enter Tryz.func51, Tryz.ntmps51
  go_wp2
  go_loopw [3, 4, 5] (fun s q _ wr => ∃ i : Nat, i ≤ n ∧ q = .int .i64 i ∧ s = .int .i64 (bytesOf ((dval8 ds).take i) : Nat) ∧ Chg [] w wr) (fun _ q _ _ => n - (intOf q).toNat)
  case atStart => exact ⟨0, Nat.zero_le _, rfl, rfl, Chg.refl _ _⟩
  case round =>
    obtain ⟨i, hi, rfl, rfl, hch⟩ := hrel
    have HCH := Lib.hid hch
    clear hch
    obtain ⟨S0, hS0⟩ : ∃ S0, bytesOf ((dval8 ds).take i) = S0 := ⟨_, rfl⟩
    rw [hS0]
    have HS0 := Lib.hid hS0
    clear hS0
    by_cases hlt : i < n
    · have hlt' : (i : Int) < n := by omega
      obtain ⟨d, hd⟩ : ∃ d, ds[i]? = some d := ⟨_, List.getElem?_eq_getElem (by have := HL.out; omega)⟩
      obtain ⟨ad, rfl, hat⟩ := (HR.out.chg0 HCH.out).row.ns (j := i) (x := d.1) (by unfold dnsl; rw [List.getElem?_map, hd]; rfl)
      have hfr := HR.out.fil d (List.mem_of_getElem? hd)
      have HDV : Hid ((dval8 ds)[i]? = some (d.1.nm, fval8 d.2)) := Lib.hid (by unfold dval8; rw [List.getElem?_map, hd]; rfl)
      have hdn := HFN.out d (List.mem_of_getElem? hd)
      obtain ⟨⟨dnm, dA, dn, dc⟩, dfs⟩ := d
      have hfl : dfs.length = dn := by have := hfr.row.nsl; simpa [fnsl] using this
      have HFR := Lib.hid hfr
      have HFL := Lib.hid hfl
      have HXW : Hid (∀ w', Chg [] w w' → w'.cell? ⟨(ad.add (i * 2)).block, (ad.add (i * 2)).off + 1, none⟩ = some (.slice dA dn dc)) := Lib.hid (by
        obtain ⟨ad', ha', hat'⟩ := HR.out.row.ns (j := i) (x := ⟨dnm, dA, dn, dc⟩) (by unfold dnsl; rw [List.getElem?_map, hd]; rfl)
        injection ha' with ha'
        subst ha'
        exact fun w' hc => hc.cell hat'.c1 List.not_mem_nil)
      have x1 := HXW.out _ HCH.out
      simp only at hdn
      have HTOT : Hid (S0 + fbytes (fval8 dfs) ≤ 1152921504606846976) := Lib.hid (by
        have h1 := bytesOf_take_le (dval8 ds) (i + 1)
        rw [take_snoc _ _ _ HDV.out, bytesOf_snoc, HS0.out] at h1
        have h2 := HB.out
        simp only at h1
        omega)
      clear hd hat hfr hfl
      go_wp2
      go_loopw [3, 5] (fun s q wr => ∃ k : Nat, k ≤ dn ∧ q = .int .i64 k ∧ s = .int .i64 ((S0 + fbytes ((fval8 dfs).take k) : Nat) : Int) ∧ Chg [] w wr) (fun _ q _ => dn - (intOf q).toNat)
      case atStart => exact ⟨0, Nat.zero_le _, rfl, by simp [fbytes], HCH.out⟩
      case round =>
        obtain ⟨k, hk, rfl, rfl, hch⟩ := hrel
        have HC2 := Lib.hid hch
        obtain ⟨S1, hS1⟩ : ∃ S1, S0 + fbytes ((fval8 dfs).take k) = S1 := ⟨_, rfl⟩
        rw [hS1]
        have HS1 := Lib.hid hS1
        clear hS1 hch
        have x1 : wr.cell? ⟨(ad.add (i * 2)).block, (ad.add (i * 2)).off + 1, none⟩ = some (.slice dA dn dc) := HXW.out _ HC2.out
        by_cases hkl : k < dn
        · have hkl' : (k : Int) < dn := by omega
          obtain ⟨f, hf⟩ : ∃ f, dfs[k]? = some f := ⟨_, List.getElem?_eq_getElem (by have := HFL.out; omega)⟩
          obtain ⟨bd, hbd, hbt⟩ := (HFR.out.chg0 HC2.out).row.ns (j := k) (x := f.1) (by unfold fnsl; rw [List.getElem?_map, hf]; rfl)
          subst hbd
          have z1 := hbt.c1
          have HFV : Hid ((fval8 dfs)[k]? = some (f.1.nm, f.2)) := Lib.hid (by unfold fval8; rw [List.getElem?_map, hf]; rfl)
          have HFN2 : Hid (f.2.length = f.1.n) := Lib.hid (by have := ((HFR.out).dat f (List.mem_of_getElem? hf)).1; simp at this; omega)
          have hwr : wrap64 ((S1 : Int) + (f.1.n : Nat)) = ((S1 + f.1.n : Nat) : Int) := by
            have h1 := fbytes_take_le (fval8 dfs) (k + 1)
            rw [take_snoc _ _ _ HFV.out, fbytes_snoc] at h1
            have h2 := HTOT.out; have h3 := HS1.out; have h4 := HFN2.out
            simp only at h1
            unfold wrap64; omega
          have HWR := Lib.hid hwr
          clear hwr hf hbt
          go_wp2
          go_roundw
          case rel =>
            refine ⟨k + 1, by omega, by go_num, ?_, HC2.out⟩
            have e1 : S0 + fbytes ((fval8 dfs).take (k + 1)) = S1 + f.1.n := by
              rw [take_snoc _ _ _ HFV.out, fbytes_snoc, ← HFN2.out, ← HS1.out, Nat.add_assoc]
            rw [e1]
            exact congrArg (Value.int .i64) HWR.out
          case measure => simp [intOf]; omega
        · obtain rfl : k = dn := by omega
          go_wp2
          go_roundw
          case rel =>
            refine ⟨i + 1, by omega, by go_num, ?_, HC2.out⟩
            rw [take_snoc _ _ _ HDV.out, bytesOf_snoc, HS0.out, ← HS1.out, List.take_of_length_le (by unfold fval8; rw [List.length_map, HFL.out]; exact Nat.le_refl _)]
          case measure => simp [intOf]; omega
    · obtain rfl : i = n := by omega
      go_wp2
      go_ret
      refine ⟨?_, HCH.out⟩
      rw [← HS0.out, List.take_of_length_le (by unfold dval8; rw [List.length_map, HL.out]; exact Nat.le_refl _)]
      rfl
end Go.Proofs.YtgomofeidghmiaaGreat

namespace Go.Proofs.YtgomofeidghmiaaGreat
open Go.RowKit

/-- behind a script -/
def runO (S : St) (os : List O8) : St := os.foldl (fun S o => (callK S (kd o.kind) o.dir o.name o.dest o.data).1) S
theorem runO_snoc (S : St) (os : List O8) (o : O8) : runO S (os ++ [o]) = (callK (runO S os) (kd o.kind) o.dir o.name o.dest o.data).1 := by simp [runO]
def opsB (os : List O8) : Nat := (os.map fun o => o.data.length + 2).sum
theorem opsB_snoc (os : List O8) (o : O8) : opsB (os ++ [o]) = opsB os + (o.data.length + 2) := by simp [opsB]
theorem opsB_take (os : List O8) (i : Nat) : opsB (os.take i) ≤ opsB os := by
  have : (os.map fun o => o.data.length + 2).sum = ((os.take i).map fun o => o.data.length + 2).sum + ((os.drop i).map fun o => o.data.length + 2).sum := by
    rw [← List.sum_append, ← List.map_append, List.take_append_drop]
  unfold opsB
  omega
theorem Inv.runO {B : Nat} {S : St} (h : Inv B S) (os : List O8) : Inv (B + opsB os) (runO S os) := by
  induction os generalizing S B with
  | nil => exact h
  | cons o r ih =>
    have h1 := ih (h.callK (kd o.kind) o.dir o.name o.dest o.data)
    have h2 : opsB (o :: r) = o.data.length + 2 + opsB r := by simp [opsB]
    exact h1.mono (by omega)
/-- a call stands at p -/
structure OpAt (w : World) (p : Addr) (o : O8) : Prop where
  c0 : w.cell? p = some (.int .i64 o.kind)
  c1 : w.cell? ⟨p.block, p.off + 1, none⟩ = some (.string o.dir)
  c2 : w.cell? ⟨p.block, p.off + 2, none⟩ = some (.string o.name)
  c3 : w.cell? ⟨p.block, p.off + 3, none⟩ = some (.string o.dest)
  c4 : w.cell? ⟨p.block, p.off + 4, none⟩ = some (.slice o.A o.n o.c)
theorem OpAt.chg {w w' : World} {p : Addr} {o : O8} {L : List Nat} (h : OpAt w p o) (hc : Chg L w w') (hn : p.block ∉ L) : OpAt w' p o :=
  ⟨hc.cell h.c0 hn, hc.cell h.c1 hn, hc.cell h.c2 hn, hc.cell h.c3 hn, hc.cell h.c4 hn⟩
theorem Scr8.at_ {w : World} {A : Option Addr} {n : Nat} {os : List O8} (h : Scr8 w A n os) {i : Nat} {o : O8} (ho : os[i]? = some o) :
    ∃ ad, A = some ad ∧ OpAt w (ad.add (i * 5)) o ∧ Rd w 1 o.A o.n o.c (bv o.data) := by
  obtain ⟨ad, e, h0, h1, h2, h3, h4, hr⟩ := h.2 i o ho
  refine ⟨ad, e, ⟨h0, ?_, ?_, ?_, ?_⟩, hr⟩
  · rw [add_field ad (i * 5) 0] at h1; exact h1
  · rw [add_field ad (i * 5) 1] at h2; exact h2
  · rw [add_field ad (i * 5) 2] at h3; exact h3
  · rw [add_field ad (i * 5) 3] at h4; exact h4
theorem Rd.blen {w : World} {A : Option Addr} {n c : Nat} {xs : List Int} (h : Rd w 1 A n c (bv xs)) : xs.length = n := by have := h.1; simpa using this

/-- how many names a disk has -/
def siz (D : Dsk) : Nat := (D.map fun d => d.2.length + 1).sum
theorem siz_map (T : Tr) (g : Nat → List Int) : siz (T.map fun p => (p.1, p.2.map fun q => (q.1, g q.2))) = wd T := by
  unfold siz wd
  rw [List.map_map]
  congr 1
  apply List.map_congr_left
  intro p _
  simp
theorem siz_view {B : Nat} {S : St} (h : Inv B S) : siz S.view ≤ B := by
  unfold St.view
  split
  · exact Nat.zero_le _
  · rw [siz_map]; exact h.wd
theorem siz_left {B : Nat} {S : St} (h : Inv B S) (ks : List Bool) (names : Int) : siz (S.left ks names) ≤ B := by
  unfold St.left
  rw [siz_map]
  have h1 := wd_run (okC_take h.chs names.toNat)
  have h2 := h.wds
  have h3 : (S.chs.take names.toNat).length ≤ S.chs.length := by rw [List.length_take]; omega
  omega
theorem bytes_view {B : Nat} {S : St} (h : Inv B S) (hB : B ≤ 1073741824) : bytesOf S.view ≤ 1152921504606846976 := Nat.le_trans (used_le h) (Nat.mul_le_mul hB hB)
theorem siz_mem {D : Dsk} {d : ByteArray × List (ByteArray × List Int)} (h : d ∈ D) : d.2.length + D.length ≤ siz D := by
  unfold siz
  induction D with
  | nil => simp at h
  | cons q r ih =>
    simp only [List.map_cons, List.sum_cons, List.length_cons]
    have hl : r.length ≤ (r.map fun d => d.2.length + 1).sum := by
      clear ih h
      induction r with
      | nil => simp
      | cons z l ih => simp only [List.length_cons, List.map_cons, List.sum_cons]; omega
    rcases List.mem_cons.1 h with rfl | h
    · omega
    · have := ih h; omega
theorem siz_len (D : Dsk) : D.length ≤ siz D := by
  cases D with
  | nil => simp
  | cons d r => have := siz_mem (D := d :: r) (List.mem_cons_self ..); omega
theorem DirsR.bnd {w : World} {A : Option Addr} {n c : Nat} {ds : List DM} (h : DirsR w A n c ds) {B : Nat} (hB : siz (dval8 ds) ≤ B) : n ≤ B ∧ ∀ d ∈ ds, d.1.n ≤ B := by
  have h1 : (dval8 ds).length = n := by have := h.row.nsl; simpa [dval8, dnsl] using this
  refine ⟨by have := siz_len (dval8 ds); omega, fun d hd => ?_⟩
  have h2 : (d.1.nm, fval8 d.2) ∈ dval8 ds := List.mem_map.2 ⟨d, hd, rfl⟩
  have h3 := siz_mem h2
  have h4 : (fval8 d.2).length = d.1.n := by have := (h.fil d hd).row.nsl; simpa [fval8, fnsl] using this
  simp only at h3
  omega
/-- a disk's parts are no greater than it -/
theorem bulk8_bnd {w : World} {A : Option Addr} {n c : Nat} {ds : List DM} (h : DirsR w A n c ds) {B : Nat} (hB : bulk8 (dval8 ds) ≤ B) : n ≤ B ∧ bytesOf (dval8 ds) ≤ B ∧ siz (dval8 ds) ≤ B ∧ ∀ x ∈ ds, x.1.n ≤ B ∧ ∀ f ∈ x.2, f.1.n ≤ B := by
  have hs : ∀ l : List (ByteArray × List Int), (l.map fun x => x.2.length + 1).sum = (l.map fun x => x.2.length).sum + l.length := by
    intro l
    induction l with
    | nil => rfl
    | cons x r ih => simp only [List.map_cons, List.sum_cons, List.length_cons, ih]; omega
  have he : ∀ D : Dsk, bulk8 D = bytesOf D + siz D := by
    intro D
    unfold bulk8 bytesOf siz
    induction D with
    | nil => rfl
    | cons x r ih => simp only [List.map_cons, List.sum_cons, hs] at ih ⊢; omega
  have h0 := he (dval8 ds)
  have h1 := h.bnd (B := B) (by omega)
  refine ⟨h1.1, by omega, by omega, fun x hx => ⟨h1.2 x hx, fun f hf => ?_⟩⟩
  have h2 : (x.1.nm, fval8 x.2) ∈ dval8 ds := List.mem_map.2 ⟨x, hx, rfl⟩
  have h3 : (f.1.nm, f.2) ∈ fval8 x.2 := List.mem_map.2 ⟨f, hf, rfl⟩
  have hm : ∀ (l : List (ByteArray × List Int)) y, y ∈ l → y.2.length ≤ (l.map fun x => x.2.length).sum := by
    intro l
    induction l with
    | nil => simp
    | cons z r ih =>
      intro y hy
      simp only [List.map_cons, List.sum_cons]
      rcases List.mem_cons.1 hy with rfl | hy
      · omega
      · have := ih y hy; omega
  have hM : ∀ (D : Dsk) d, d ∈ D → (d.2.map fun x => x.2.length).sum ≤ bytesOf D := by
    unfold bytesOf
    intro D
    induction D with
    | nil => simp
    | cons z r ih =>
      intro y hy
      simp only [List.map_cons, List.sum_cons]
      rcases List.mem_cons.1 hy with rfl | hy
      · omega
      · have := ih y hy; omega
  have h4 := hm _ _ h3
  have h5 := hM _ _ h2
  have h6 := ((h.fil x hx).dat f hf).blen
  simp only at h4 h5
  omega
/-- opened: behind w0 -/
theorem FsAt.opened {w0 w w' : World} {G : FsG} {S : St} (h : FsM w' G S) (hn : ∀ x ∈ G.all, w.heap.size ≤ x) (h0 : Chg [] w0 w) (hc : Chg [] w w') : FsAt w0 w' G.b S :=
  ⟨G, h, rfl, fun x hx => Nat.le_trans h0.size (hn x hx), h0.trans0 hc⟩
theorem FsAt.rename {w0 w : World} {p : Nat} {S : St} {B : Nat} (h : FsAt w0 w p S) (hi : Inv B S) (hB : B ≤ 1073741824) (a b : ByteArray) :
    Calls Tryz.prog 33 #[.pointer (some ⟨p, 0, none⟩), .string a, .string b] w fun e w' => e = .returned (.int .i64 (S.rename a b).2) ∧ FsAt w0 w' p (S.rename a b).1 := by
  obtain ⟨G, hF, rfl, hn, hc⟩ := h
  exact (rename_st hF hi hB a b).mono fun e w' ⟨h1, h2⟩ => ⟨h1, .to hn hc h2⟩
theorem FsAt.down {w0 w : World} {p : Nat} {S : St} (h : FsAt w0 w p S) : Calls Tryz.prog 12 #[.pointer (some ⟨p, 0, none⟩)] w fun e w' => e = .returned (.bool S.down) ∧ Chg [] w w' := by
  obtain ⟨G, hF, rfl, hn, hc⟩ := h
  exact down_st hF
/-! behind a world w, at a file system that lay at G there -/
section
variable {w w1 : World} {p : Nat} {G : FsG} {S S1 : St} {B : Nat}
theorem FsTo.of_view (h : FsM w G S) (hb : G.b = p) (hi : Inv B S) (hB : B ≤ 1073741824) : Calls Tryz.prog 17 #[.pointer (some ⟨p, 0, none⟩)] w fun e w' => NewDsk w S.view e w' ∧ FsTo w' G S w' ∧ Chg [] w w' := by
  subst hb
  refine (view_st h hi hB).mono fun e w' hn => ?_
  obtain ⟨A, n, c, ds, h1, h2, h3, h4, h5⟩ := id hn
  exact ⟨hn, .same (h.keep0 h4) (Chg.refl _ _), h4⟩
theorem FsTo.of_durable (h : FsM w G S) (hb : G.b = p) (hi : Inv B S) (hB : B ≤ 1073741824) {K : Option Addr} {kn kc : Nat} {ks : List Bool} (names : Int) (hK : Rd w 1 K kn kc (kv ks)) (hkn : kn ≤ 1073741824) :
    Calls Tryz.prog 19 #[.pointer (some ⟨p, 0, none⟩), .agg #[.slice K kn kc, .int .i64 names]] w fun e w' => NewDsk w (S.left ks names) e w' ∧ FsTo w' G S w' ∧ Chg [] w w' := by
  subst hb
  refine (durable_st h hi hB K kn kc ks names hK hkn).mono fun e w' hn => ?_
  obtain ⟨A, n, c, ds, h1, h2, h3, h4, h5⟩ := id hn
  exact ⟨hn, .same (h.keep0 h4) (Chg.refl _ _), h4⟩
theorem FsTo.view (h : FsTo w G S1 w1) (hb : G.b = p) (hi : Inv B S1) (hB : B ≤ 1073741824) : Calls Tryz.prog 17 #[.pointer (some ⟨p, 0, none⟩)] w1 (NewDsk w1 S1.view) := by
  obtain ⟨G', h1, h2, h3, h4⟩ := h
  subst hb
  rw [← h2]
  exact view_st h1 hi hB
theorem FsTo.durable (h : FsTo w G S1 w1) (hb : G.b = p) (hi : Inv B S1) (hB : B ≤ 1073741824) {K : Option Addr} {kn kc : Nat} {ks : List Bool} (names : Int) (hK : Rd w1 1 K kn kc (kv ks)) (hkn : kn ≤ 1073741824) :
    Calls Tryz.prog 19 #[.pointer (some ⟨p, 0, none⟩), .agg #[.slice K kn kc, .int .i64 names]] w1 (NewDsk w1 (S1.left ks names)) := by
  obtain ⟨G', h1, h2, h3, h4⟩ := h
  subst hb
  rw [← h2]
  exact durable_st h1 hi hB K kn kc ks names hK hkn
theorem FsTo.rename (h : FsTo w G S1 w1) (hb : G.b = p) (hi : Inv B S1) (hB : B ≤ 1073741824) (a b : ByteArray) :
    Calls Tryz.prog 33 #[.pointer (some ⟨p, 0, none⟩), .string a, .string b] w1 fun e w' => e = .returned (.int .i64 (S1.rename a b).2) ∧ FsTo w G (S1.rename a b).1 w' := by
  obtain ⟨G', h1, h2, h3, h4⟩ := h
  subst hb
  rw [← h2]
  exact (rename_st h1 hi hB a b).mono fun e w' ⟨a, b⟩ => ⟨a, .trans h3 h2 h4 b⟩
theorem FsTo.steps (h : FsTo w G S1 w1) (hb : G.b = p) : Calls Tryz.prog 11 #[.pointer (some ⟨p, 0, none⟩)] w1 fun e w' => e = .returned (.int .i64 (S1.steps : Int)) ∧ w' = w1 := by
  obtain ⟨G', h1, h2, h3, h4⟩ := h
  subst hb
  rw [← h2]
  exact steps_any G'.b S1.steps w1 (by simpa using h1.blk.cell 6)
theorem FsTo.call (h : FsTo w G S1 w1) (hb : G.b = p) (hi : Inv B S1) (o : O8) (hd : Rd w1 1 o.A o.n o.c (bv o.data)) (hB : B + o.n + 1 ≤ 1073741824) (hdis : 0 < o.n → ∀ x ∈ bo o.A, x ∉ G.all ∧ x < w.heap.size) :
    Calls Tryz.prog 8 #[.pointer (some ⟨p, 0, none⟩), .agg #[.int .i64 o.kind, .string o.dir, .string o.name, .string o.dest, .slice o.A o.n o.c]] w1 fun e w' =>
      ∃ dA dn dc nA nn nc, e = .returned (.agg #[.int .i64 (callK S1 (kd o.kind) o.dir o.name o.dest o.data).2.1, .slice dA dn dc, .slice nA nn nc]) ∧
        Own w' 5 1 dA dn dc (bv (callK S1 (kd o.kind) o.dir o.name o.dest o.data).2.2.1) ∧ Own w' 9 1 nA nn nc (svs (callK S1 (kd o.kind) o.dir o.name o.dest o.data).2.2.2) ∧
        (∀ k ∈ bo dA ++ bo nA, w1.heap.size ≤ k) ∧ FsTo w G (callK S1 (kd o.kind) o.dir o.name o.dest o.data).1 w' := by
  obtain ⟨G', h1, h2, h3, h4⟩ := h
  subst hb
  rw [← h2]
  refine (lawcall_any h1 hi o hd hB (fun h0 x hx hm => by
    obtain ⟨k1, k2⟩ := hdis h0 x hx
    rcases h3 x hm with h | h
    · exact k1 h
    · omega)).mono ?_
  rintro e w' ⟨dA, dn, dc, nA, nn, nc, he, h5, h6, h7, G2, h8, h9, h10, _, h11⟩
  exact ⟨dA, dn, dc, nA, nn, nc, he, h5, h6, h7, .trans h3 h2 h4 ⟨G2, h8, h9, h10, h11⟩⟩
end
end Go.Proofs.YtgomofeidghmiaaGreat

namespace Go.Proofs.YtgomofeidghmiaaGreat
open Go.RowKit Go.ChangeShapes Go.WideShapes Go.Deep Go.Joins

set_option maxRecDepth 100000 in
theorem fate_cells {H : Type} {enc : TypeId × Value → H} {W : World} {sp : Nat → Bool} {held : Bool} {n : Nat} {c0 c1 : Value} {y : DataW H × List MemPlace}
    (h : DataW.trod enc Tryz.prog W 0 sp held n 52 [c0, c1] = some y) :
    ∃ K kn kc, ∃ ks : List Bool, ∃ names : Int, c0 = .slice K kn kc ∧ c1 = .int .i64 names ∧ Rd W 1 K kn kc (kv ks) ∧ ks.length = kn ∧ kn + 1 ≤ Rows.uptoBulk y.1 := by
  obtain ⟨y0, y1, m, hx, hl, h0, h1⟩ := trod_struct2 Tryz.underlying52 h
  subst hx
  have e0 : Tryz.prog.cellsOf 50 = 1 := by kernel_rfl
  have e1 : Tryz.prog.cellsOf 3 = 1 := by kernel_rfl
  simp only [e0, e1, List.drop_zero, List.take_succ_cons, List.take_zero, List.drop_succ_cons] at h0 h1
  obtain ⟨a, l, c, hc⟩ := slice_form Tryz.underlying50 h0
  simp only [List.cons.injEq, and_true] at hc
  subst hc
  obtain ⟨A2, n2, cc2, ks, hk1, hk2, hk3, hk4⟩ := opn_bools Tryz.underlying50 Tryz.underlying4 (by kernel_rfl) ⟨_, _, _, rfl⟩ ⟨m, by simpa [Value.cells] using h0⟩
  injection hk1 with i1 i2 i3
  subst i1; subst i2; subst i3
  obtain ⟨q, hq, _, _⟩ := DataW.trod_int Tryz.underlying3 h1
  simp only [List.cons.injEq, and_true] at hq
  subst hq
  refine ⟨_, _, _, ks, q, rfl, rfl, hk2, hk3, ?_⟩
  simp only [Rows.uptoBulk, Rows.uptoBulkAll]
  omega
set_option maxRecDepth 100000 in
theorem opn_fate {H : Type} {enc : TypeId × Value → H} {W : World} {b : Nat} {r : Reach} {sp : Nat → Bool} {held : Bool} {v : Value} {d : DataW H} {p : List MemPlace}
    (hv : Value.okWide Tryz.prog W r b 52 v) (h : DataW.Trod enc Tryz.prog W 0 sp held 52 v d p) :
    ∃ K kn kc, ∃ ks : List Bool, ∃ names : Int, v = .agg #[.slice K kn kc, .int .i64 names] ∧ Rd W 1 K kn kc (kv ks) ∧ ks.length = kn ∧ kn + 1 ≤ Rows.uptoBulk d := by
  obtain ⟨cs, rfl, hsz⟩ := okWide_struct Tryz.underlying52 hv
  obtain ⟨c0, c1, rfl⟩ := array2 (hsz.trans (by kernel_rfl))
  obtain ⟨fuel, hf⟩ := h
  obtain ⟨K, kn, kc, ks, names, rfl, rfl, h1, h2, h3⟩ := fate_cells (y := (d, p)) (by simpa [Value.cells] using hf)
  exact ⟨K, kn, kc, ks, names, rfl, h1, h2, h3⟩
/-- a script's bound -/
theorem scr_bnd {w : World} {A : Option Addr} {n : Nat} {os : List O8} (h : Scr8 w A n os) {B : Nat} (hB : (os.map fun o => o.n + 1).sum ≤ B) : opsB os ≤ 2 * B ∧ n ≤ B := by
  have h1 : opsB os = (os.map fun o => o.n + 2).sum := by
    unfold opsB
    congr 1
    apply List.map_congr_left
    intro o ho
    obtain ⟨i, hi⟩ := List.getElem?_of_mem ho
    obtain ⟨a, _, _, hr⟩ := h.at_ hi
    rw [hr.blen]
  have h2 : ∀ l : List O8, (l.map fun o => o.n + 2).sum ≤ 2 * (l.map fun o => o.n + 1).sum ∧ l.length ≤ (l.map fun o => o.n + 1).sum := by
    intro l
    induction l with
    | nil => simp
    | cons x r ih => simp only [List.map_cons, List.sum_cons, List.length_cons]; omega
  have h3 := h2 os
  have h4 := h.1
  omega
theorem q_le {q : Int} (h : (Lit.int .i64 q).wf = true) : q ≤ 9223372036854775807 := by
  simp only [Lit.wf, Bool.and_eq_true, decide_eq_true_eq] at h
  have h2 : IntKind.max .i64 = 9223372036854775807 := by decide
  rw [h2] at h
  omega
end Go.Proofs.YtgomofeidghmiaaGreat
