/-
  Layer 08: disks as arguments, opened.
  Layer 08: the law's call keeps what holds.
  Layer 08: a script as an argument, opened.
  Layer 08: the law's settle.
  Layer 08: the law's settle, walked.
  Layer 08, plain: what each call does to the power, the steps, the room.
  Layer 08, plain: all made safe; a Rename behind it.
  Layer 08: Bytes: how many bytes a disk has.
  Layer 08: the laws' shared parts: a script run; how great what is told may be.
  Layer 08: a fate, a last move as arguments, opened; how great a script is.
-/
import Derived.Test.YtgomofeidghmiaaVfJa
import Derived.Test.YtgomofeidghmiaaVfJh
import Derived.Test.YtgomofeidghmiaaVfCa
import Derived.Test.YtgomofeidghmiaaVfJb
import Derived.Test.YtgomofeidghmiaaVfJd
namespace Go.Proofs.Ytgomofeidghmiaa
open Go.RowKit Go.ChangeShapes Go.WideShapes Go.Deep

theorem sum_le_range {H : Type} (D : Nat → DataW H) (n : Nat) {α : Type} (Z : List α) (G : α → Nat) (hl : Z.length = n) (h : ∀ (i : Nat) z, Z[i]? = some z → G z ≤ Rows.uptoBulk (D i)) : (Z.map G).sum ≤ Rows.uptoBulkAll ((List.range n).map D) := by
  have h1 := bulk_map_range D n (fun i => (Z[i]?.map G).getD 0) (fun i hil => by
    have hz : Z[i]? = some (Z[i]'(by omega)) := List.getElem?_eq_getElem (by omega)
    rw [hz]
    exact h i _ hz)
  have h2 : (List.range n).map (fun i => (Z[i]?.map G).getD 0) = Z.map G := by
    apply List.ext_getElem?
    intro i
    rw [List.getElem?_map, List.getElem?_map]
    by_cases hil : i < n
    · rw [List.getElem?_eq_getElem (by simpa using hil), List.getElem?_eq_getElem (by omega)]
      have hil' : i < Z.length := by omega
      simp [hil']
    · rw [List.getElem?_eq_none (by simp; omega), List.getElem?_eq_none (by omega)]
      rfl
  rwa [h2] at h1

theorem collect {α : Type} {Q : Nat → α → Prop} (n : Nat) (h : ∀ i, i < n → ∃ z, Q i z) : ∃ Z : List α, Z.length = n ∧ ∀ (i : Nat) z, Z[i]? = some z → Q i z := by
  induction n with
  | zero => exact ⟨[], rfl, fun i z h => by simp at h⟩
  | succ k ih =>
    obtain ⟨zs, h1, h2⟩ := ih (fun i hi => h i (by omega))
    obtain ⟨z, hz⟩ := h k (by omega)
    refine ⟨zs ++ [z], by simp [h1], fun i y hy => ?_⟩
    by_cases hik : i < k
    · rw [List.getElem?_append_left (by omega)] at hy; exact h2 i y hy
    · rw [List.getElem?_append_right (by omega)] at hy
      have h0 : i = k := by
        rcases Nat.lt_or_ge k i with h3 | h3
        · rw [List.getElem?_eq_none (by simp; omega)] at hy; cases hy
        · omega
      subst h0
      rw [h1, Nat.sub_self] at hy
      simp at hy
      subst hy
      exact hz

theorem slice_of_trod {H : Type} {enc : TypeId × Value → H} {W : World} {sp : Nat → Bool} {held : Bool} {t e : TypeId} {v1 : Value} {n : Nat} {y : DataW H × List MemPlace} (ht : Try.prog.underlying t = some (.slice e)) (h1 : DataW.trod enc Try.prog W 0 sp held n t [v1] = some y) : ∃ a l c, v1 = .slice a l c := by
  rcases open_slice ht h1 with ⟨h1, _⟩ | ⟨a, len, cap, m, n, D, Pl, h1, _⟩
  · simp at h1; exact ⟨_, _, _, h1⟩
  · simp at h1; exact ⟨_, _, _, h1⟩

theorem rd_nsv {W : World} {a : Addr} {n c : Nat} {xs : List Nsl} (hl : xs.length = n) (hn : n ≤ c) (hm : c ≤ maxLen) (h : ∀ (i : Nat) x, xs[i]? = some x → W.cell? (a.add (i * 2)) = some (.string x.nm) ∧ W.cell? (a.add (i * 2 + 1)) = some (.slice x.A x.n x.c)) : Rd W 2 (some a) n c (nsv xs) := by
  refine ⟨by rw [nsv_length, hl], hn, hm, (fun e => by cases e), fun ad e => ?_⟩
  injection e with e; subst e
  refine ⟨fun hp => ?_, fun j u hu => ?_⟩
  · obtain ⟨x, hx⟩ : ∃ x, xs[0]? = some x := ⟨_, List.getElem?_eq_getElem (by omega)⟩
    have := World.block_lt_of_cell? _ _ (h 0 x hx).1
    rwa [add_block] at this
  · have hj := nsv_get xs (j / 2) (j % 2) (Nat.mod_lt _ (by decide))
    rw [show j / 2 * 2 + j % 2 = j by omega, hu] at hj
    cases hx : xs[j / 2]? with
    | none => rw [hx] at hj; simp at hj
    | some x =>
      rw [hx] at hj
      simp only [Option.bind_some] at hj
      have h2 := h _ x hx
      rcases Nat.mod_two_eq_zero_or_one j with e | e
      · rw [e] at hj
        have := h2.1
        rw [show j / 2 * 2 = j by omega] at this
        rw [this]; simpa [Nsl.cells] using hj.symm
      · rw [e] at hj
        have := h2.2
        rw [show j / 2 * 2 + 1 = j by omega] at this
        rw [this]; simpa [Nsl.cells] using hj.symm
theorem sum_one_le {α : Type} (l : List α) (f : α → Nat) : l.length ≤ (l.map fun x => f x + 1).sum := by
  induction l with
  | nil => simp
  | cons x r ih => simp only [List.map_cons, List.sum_cons, List.length_cons]; omega
set_option maxRecDepth 100000 in
theorem opn_files {H : Type} {enc : TypeId × Value → H} {W : World} {sp : Nat → Bool} {held : Bool} {v : Value} {d : DataW H} {p : List MemPlace}
    (hv : ∃ a l c, v = .slice a l c) (h : DataW.Trod enc Try.prog W 0 sp held 36 v d p) :
    ∃ A n c, ∃ fs : List FM, v = .slice A n c ∧ FilesR W A n c fs ∧ (fs.map fun x => x.2.length + 1).sum + 1 ≤ Rows.uptoBulk d := by
  obtain ⟨a0, l0, c0, rfl⟩ := hv
  obtain ⟨fuel, hf⟩ := h
  rcases open_slice_fields (e := 41) Try.underlying36 Try.underlying41 (by kernel_rfl) (by kernel_rfl) hf with ⟨hcs, hx⟩ | ⟨a, len, cap, m, D, Pl, hcs, hb, hl, hm, hmm, hx, hi⟩
  · simp [Value.cells] at hcs
    obtain ⟨rfl, rfl, rfl⟩ := hcs
    simp only [Prod.mk.injEq] at hx
    obtain ⟨rfl, rfl⟩ := hx
    exact ⟨none, 0, 0, [], rfl, ⟨Rd.nil _ _, by simp⟩, by simp [Rows.uptoBulk]⟩
  · simp [Value.cells] at hcs
    obtain ⟨rfl, rfl, rfl⟩ := hcs
    simp only [Prod.mk.injEq] at hx
    obtain ⟨rfl, rfl⟩ := hx
    have hle : l0 ≤ m := by rw [hmm]; split <;> omega
    have el : ∀ i, i < l0 → ∃ x : FM, (W.cell? (a.add (i * 2)) = some (.string x.1.nm) ∧ W.cell? (a.add (i * 2 + 1)) = some (.slice x.1.A x.1.n x.1.c) ∧ Rd W 1 x.1.A x.1.n x.1.c (bv x.2)) ∧ x.2.length + 1 ≤ Rows.uptoBulk (D i) := by
      intro i hil
      obtain ⟨ys, n', hD, hPl, hyl, hfl⟩ := hi i (by omega)
      obtain ⟨v0, y0, e0, g0, t0⟩ := hfl 0 _ rfl
      obtain ⟨v1, y1, e1, g1, t1⟩ := hfl 1 _ rfl
      obtain ⟨nm, h0, hy0, _⟩ := DataW.trod_string Try.underlying9 t0
      simp at h0
      subst h0
      obtain ⟨a1, l1, c1, rfl⟩ := slice_of_trod Try.underlying39 t1
      obtain ⟨A1, n1, cc1, zs, hz1, hz2, hz3, hz4, _⟩ := opn_ints Try.underlying39 Try.underlying5 (by kernel_rfl) ⟨_, _, _, rfl⟩ ⟨n', t1⟩
      injection hz1 with i1 i2 i3
      subst i1; subst i2; subst i3
      refine ⟨(⟨nm, a1, l1, c1⟩, zs), ⟨by simpa using e0, e1, hz2⟩, ?_⟩
      rw [hD]
      have hys : ys = [y0, y1] := by
        match ys, hyl with
        | [z0, z1], _ => simp at g0 g1; rw [g0, g1]
      rw [hys]
      simp only [List.map_cons, List.map_nil, Rows.uptoBulk, Rows.uptoBulkAll, hz3]
      omega
    obtain ⟨fs, hll, hlp⟩ := collect l0 el
    have hs := sum_le_range D l0 fs (fun x => x.2.length + 1) hll (fun i z hz => (hlp i z hz).2)
    refine ⟨some a, l0, c0, fs, rfl, ⟨rd_nsv (by simp [fnsl, hll]) hl hm (fun i x hx => ?_), fun f hf => ?_⟩, ?_⟩
    · unfold fnsl at hx
      rw [List.getElem?_map] at hx
      cases hz : fs[i]? with
      | none => rw [hz] at hx; cases hx
      | some z =>
        rw [hz] at hx
        simp at hx
        subst hx
        exact ⟨(hlp i z hz).1.1, (hlp i z hz).1.2.1⟩
    · obtain ⟨i, hi'⟩ := List.getElem?_of_mem hf
      exact (hlp i f hi').1.2.2
    · simp only [Rows.uptoBulk]; omega
set_option maxRecDepth 100000 in
theorem opn_dirs {H : Type} {enc : TypeId × Value → H} {W : World} {sp : Nat → Bool} {held : Bool} {v : Value} {d : DataW H} {p : List MemPlace}
    (hv : ∃ a l c, v = .slice a l c) (h : DataW.Trod enc Try.prog W 0 sp held 24 v d p) :
    ∃ A n c, ∃ ds : List DM, v = .slice A n c ∧ DirsR W A n c ds ∧ bulk8 (dval8 ds) + 1 ≤ Rows.uptoBulk d := by
  obtain ⟨a0, l0, c0, rfl⟩ := hv
  obtain ⟨fuel, hf⟩ := h
  rcases open_slice_fields (e := 38) Try.underlying24 Try.underlying38 (by kernel_rfl) (by kernel_rfl) hf with ⟨hcs, hx⟩ | ⟨a, len, cap, m, D, Pl, hcs, hb, hl, hm, hmm, hx, hi⟩
  · simp [Value.cells] at hcs
    obtain ⟨rfl, rfl, rfl⟩ := hcs
    simp only [Prod.mk.injEq] at hx
    obtain ⟨rfl, rfl⟩ := hx
    exact ⟨none, 0, 0, [], rfl, ⟨Rd.nil _ _, by simp⟩, by simp [Rows.uptoBulk, bulk8, dval8]⟩
  · simp [Value.cells] at hcs
    obtain ⟨rfl, rfl, rfl⟩ := hcs
    simp only [Prod.mk.injEq] at hx
    obtain ⟨rfl, rfl⟩ := hx
    have hle : l0 ≤ m := by rw [hmm]; split <;> omega
    have el : ∀ i, i < l0 → ∃ x : DM, (W.cell? (a.add (i * 2)) = some (.string x.1.nm) ∧ W.cell? (a.add (i * 2 + 1)) = some (.slice x.1.A x.1.n x.1.c) ∧ FilesR W x.1.A x.1.n x.1.c x.2) ∧ (x.2.map fun f => f.2.length + 1).sum + 1 ≤ Rows.uptoBulk (D i) := by
      intro i hil
      obtain ⟨ys, n', hD, hPl, hyl, hfl⟩ := hi i (by omega)
      obtain ⟨v0, y0, e0, g0, t0⟩ := hfl 0 _ rfl
      obtain ⟨v1, y1, e1, g1, t1⟩ := hfl 1 _ rfl
      obtain ⟨nm, h0, hy0, _⟩ := DataW.trod_string Try.underlying9 t0
      simp at h0
      subst h0
      obtain ⟨a1, l1, c1, rfl⟩ := slice_of_trod Try.underlying36 t1
      obtain ⟨A1, n1, cc1, zs, hz1, hz2, hz4⟩ := opn_files ⟨_, _, _, rfl⟩ ⟨n', t1⟩
      injection hz1 with i1 i2 i3
      subst i1; subst i2; subst i3
      refine ⟨(⟨nm, a1, l1, c1⟩, zs), ⟨by simpa using e0, e1, hz2⟩, ?_⟩
      rw [hD]
      have hys : ys = [y0, y1] := by
        match ys, hyl with
        | [z0, z1], _ => simp at g0 g1; rw [g0, g1]
      rw [hys]
      simp only [List.map_cons, List.map_nil, Rows.uptoBulk, Rows.uptoBulkAll]
      omega
    obtain ⟨fs, hll, hlp⟩ := collect l0 el
    have hbk : bulk8 (dval8 fs) = (fs.map fun x => (x.2.map fun f => f.2.length + 1).sum + 1).sum := by unfold bulk8 dval8; rw [List.map_map]; congr 1; apply List.map_congr_left; intro x _; simp [fval8, Function.comp_def]
    have hs := sum_le_range D l0 fs (fun x => (x.2.map fun f => f.2.length + 1).sum + 1) hll (fun i z hz => (hlp i z hz).2)
    refine ⟨some a, l0, c0, fs, rfl, ⟨rd_nsv (by simp [dnsl, hll]) hl hm (fun i x hx => ?_), fun f hf => ?_⟩, ?_⟩
    · unfold dnsl at hx
      rw [List.getElem?_map] at hx
      cases hz : fs[i]? with
      | none => rw [hz] at hx; cases hx
      | some z =>
        rw [hz] at hx
        simp at hx
        subst hx
        exact ⟨(hlp i z hz).1.1, (hlp i z hz).1.2.1⟩
    · obtain ⟨i, hi'⟩ := List.getElem?_of_mem hf
      exact (hlp i f hi').1.2.2
    · rw [hbk]; simp only [Rows.uptoBulk]; omega
set_option maxRecDepth 100000 in
theorem opn_start {H : Type} {enc : TypeId × Value → H} {W : World} {b : Nat} {r : Reach} {sp : Nat → Bool} {held : Bool} {v : Value} {d : DataW H} {p : List MemPlace}
    (hv : Value.okWide Try.prog W r b 26 v) (h : DataW.Trod enc Try.prog W 0 sp held 26 v d p) :
    ∃ A n c, ∃ ds : List DM, ∃ q at_ : Int, v = .agg #[.slice A n c, .int .i64 q, .int .i64 at_] ∧ DirsR W A n c ds ∧ (Lit.int .i64 q).wf = true ∧ (Lit.int .i64 at_).wf = true ∧ bulk8 (dval8 ds) + 1 ≤ Rows.uptoBulk d := by
  obtain ⟨v0, v1, v2, y0, y1, y2, n, rfl, rfl, rfl, h0, h1, h2⟩ := Go.Joins.open_agg3 Try.underlying26 (by kernel_rfl) (by kernel_rfl) hv h
  obtain ⟨a0, l0, c0, rfl⟩ := slice_of_trod Try.underlying24 h0
  obtain ⟨A, n0, cc, ds, e0, hz0, hb0⟩ := opn_dirs ⟨_, _, _, rfl⟩ ⟨n, h0⟩
  obtain ⟨q, hq, _, hqw⟩ := DataW.trod_int Try.underlying3 h1
  obtain ⟨t, ht, _, htw⟩ := DataW.trod_int Try.underlying3 h2
  simp at hq ht
  subst hq; subst ht
  injection e0 with i1 i2 i3
  subst i1; subst i2; subst i3
  refine ⟨_, _, _, ds, q, t, rfl, hz0, ?_, ?_, ?_⟩
  · exact hqw
  · exact htw
  · simp only [Rows.uptoBulk, Rows.uptoBulkAll]; omega
end Go.Proofs.Ytgomofeidghmiaa

namespace Go.Proofs.Ytgomofeidghmiaa
open Go.RowKit

theorem Inv.callK {B : Nat} {S : St} (h : Inv B S) (m : Nat) (d n t : ByteArray) (xs : List Int) : Inv (B + xs.length + 2) (callK S m d n t xs).1 := by
  unfold Go.Proofs.Ytgomofeidghmiaa.callK
  split
  · exact (h.mkdir d).mono (by omega)
  · exact (h.create d n).mono (by omega)
  · exact h.write d n xs
  · exact h.write d n xs
  · exact h.write d n xs
  · exact (h.sync d n).mono (by omega)
  · exact (h.sync d n).mono (by omega)
  · exact h.names.mono (by omega)
  · exact h.names.mono (by omega)
  · exact (h.rename d t).mono (by omega)
  · exact (h.remove d n).mono (by omega)
  · exact (h.rmdir d).mono (by omega)
  · exact h.mono (by omega)
  · exact h.mono (by omega)
  · exact h.mono (by omega)
/-- the law's call, at a file system that lies behind w0 -/
theorem FsAt.call {w0 w : World} {p : Nat} {S : St} {B : Nat} (h : FsAt w0 w p S) (hi : Inv B S) (o : O8) (hd : Rd w0 1 o.A o.n o.c (bv o.data)) (hB : B + o.n + 1 ≤ 1073741824) :
    Calls Try.prog 26 #[.pointer (some ⟨p, 0, none⟩), .agg #[.int .i64 o.kind, .string o.dir, .string o.name, .string o.dest, .slice o.A o.n o.c]] w fun e w' =>
      ∃ dA dn dc nA nn nc, e = .returned (.agg #[.int .i64 (callK S (kd o.kind) o.dir o.name o.dest o.data).2.1, .slice dA dn dc, .slice nA nn nc]) ∧
        Own w' 5 1 dA dn dc (bv (callK S (kd o.kind) o.dir o.name o.dest o.data).2.2.1) ∧ Own w' 9 1 nA nn nc (svs (callK S (kd o.kind) o.dir o.name o.dest o.data).2.2.2) ∧
        (∀ k ∈ bo dA ++ bo nA, w.heap.size ≤ k) ∧ FsAt w0 w' p (callK S (kd o.kind) o.dir o.name o.dest o.data).1 := by
  obtain ⟨G, hF, rfl, hn, hc⟩ := h
  refine (lawcall_any hF hi o (hd.chg hc (fun _ _ => List.not_mem_nil)) hB (fun h0 x hx hm => by
    obtain ⟨ad, he, h1⟩ := hd.some_ h0
    have h2 := hn x hm
    rw [he] at hx
    simp at hx
    omega)).mono ?_
  rintro e w' ⟨dA, dn, dc, nA, nn, nc, he, h1, h2, h3, G', h4, h5, h6, _, h7⟩
  exact ⟨dA, dn, dc, nA, nn, nc, he, h1, h2, h3, .to hn hc ⟨G', h4, h5, h6, h7⟩⟩
end Go.Proofs.Ytgomofeidghmiaa

namespace Go.Proofs.Ytgomofeidghmiaa
open Go.RowKit Go.ChangeShapes Go.WideShapes Go.Deep

/-- a script lies there -/
def Scr8 (w : World) (A : Option Addr) (n : Nat) (os : List O8) : Prop :=
  os.length = n ∧ ∀ (i : Nat) o, os[i]? = some o → ∃ a, A = some a ∧ w.cell? (a.add (i * 5)) = some (.int .i64 o.kind) ∧ w.cell? (a.add (i * 5 + 1)) = some (.string o.dir) ∧ w.cell? (a.add (i * 5 + 2)) = some (.string o.name) ∧
    w.cell? (a.add (i * 5 + 3)) = some (.string o.dest) ∧ w.cell? (a.add (i * 5 + 4)) = some (.slice o.A o.n o.c) ∧ Rd w 1 o.A o.n o.c (bv o.data)
set_option maxRecDepth 100000 in
theorem opn_ops8 {H : Type} {enc : TypeId × Value → H} {W : World} {sp : Nat → Bool} {held : Bool} {v : Value} {d : DataW H} {p : List MemPlace}
    (hv : ∃ a l c, v = .slice a l c) (h : DataW.Trod enc Try.prog W 0 sp held 49 v d p) :
    ∃ A n c, ∃ os : List O8, v = .slice A n c ∧ Scr8 W A n os ∧ (os.map fun o => o.n + 1).sum + 1 ≤ Rows.uptoBulk d := by
  obtain ⟨a0, l0, c0, rfl⟩ := hv
  obtain ⟨fuel, hf⟩ := h
  rcases open_slice_fields (e := 53) Try.underlying49 Try.underlying53 (by kernel_rfl) (by kernel_rfl) hf with ⟨hcs, hx⟩ | ⟨a, len, cap, m, D, Pl, hcs, hb, hl, hm, hmm, hx, hi⟩
  · simp [Value.cells] at hcs
    obtain ⟨rfl, rfl, rfl⟩ := hcs
    simp only [Prod.mk.injEq] at hx
    obtain ⟨rfl, rfl⟩ := hx
    exact ⟨none, 0, 0, [], rfl, ⟨rfl, fun i o ho => by simp at ho⟩, by simp [Rows.uptoBulk]⟩
  · simp [Value.cells] at hcs
    obtain ⟨rfl, rfl, rfl⟩ := hcs
    simp only [Prod.mk.injEq] at hx
    obtain ⟨rfl, rfl⟩ := hx
    have hle : l0 ≤ m := by rw [hmm]; split <;> omega
    have el : ∀ i, i < l0 → ∃ o : O8, (W.cell? (a.add (i * 5)) = some (.int .i64 o.kind) ∧ W.cell? (a.add (i * 5 + 1)) = some (.string o.dir) ∧ W.cell? (a.add (i * 5 + 2)) = some (.string o.name) ∧
        W.cell? (a.add (i * 5 + 3)) = some (.string o.dest) ∧ W.cell? (a.add (i * 5 + 4)) = some (.slice o.A o.n o.c) ∧ Rd W 1 o.A o.n o.c (bv o.data)) ∧ o.n + 1 ≤ Rows.uptoBulk (D i) := by
      intro i hil
      obtain ⟨ys, n', hD, hPl, hyl, hfl⟩ := hi i (by omega)
      obtain ⟨v0, y0, e0, g0, t0⟩ := hfl 0 _ rfl
      obtain ⟨v1, y1, e1, g1, t1⟩ := hfl 1 _ rfl
      obtain ⟨v2, y2, e2, g2, t2⟩ := hfl 2 _ rfl
      obtain ⟨v3, y3, e3, g3, t3⟩ := hfl 3 _ rfl
      obtain ⟨v4, y4, e4, g4, t4⟩ := hfl 4 _ rfl
      obtain ⟨k, h0, _⟩ := DataW.trod_int Try.underlying3 t0
      obtain ⟨s1, h1, _⟩ := DataW.trod_string Try.underlying9 t1
      obtain ⟨s2, h2, _⟩ := DataW.trod_string Try.underlying9 t2
      obtain ⟨s3, h3, _⟩ := DataW.trod_string Try.underlying9 t3
      simp at h0 h1 h2 h3
      subst h0 h1 h2 h3
      obtain ⟨a1, l1, c1, rfl⟩ := slice_of_trod Try.underlying39 t4
      obtain ⟨A1, n1, cc1, zs, hz1, hz2, hz3, hz4, _⟩ := opn_ints Try.underlying39 Try.underlying5 (by kernel_rfl) ⟨_, _, _, rfl⟩ ⟨n', t4⟩
      injection hz1 with i1 i2 i3
      subst i1; subst i2; subst i3
      refine ⟨⟨k, s1, s2, s3, a1, l1, c1, zs⟩, ⟨by simpa using e0, e1, e2, e3, e4, hz2⟩, ?_⟩
      rw [hD]
      have hys : ys = [y0, y1, y2, y3, y4] := by
        match ys, hyl with
        | [z0, z1, z2, z3, z4], _ => simp at g0 g1 g2 g3 g4; rw [g0, g1, g2, g3, g4]
      rw [hys]
      simp only [List.map_cons, List.map_nil, Rows.uptoBulk, Rows.uptoBulkAll]
      omega
    obtain ⟨os, hll, hlp⟩ := collect l0 el
    have hs := sum_le_range D l0 os (fun o => o.n + 1) hll (fun i z hz => (hlp i z hz).2)
    refine ⟨some a, l0, c0, os, rfl, ⟨hll, fun i o ho => ⟨a, rfl, (hlp i o ho).1⟩⟩, ?_⟩
    simp only [Rows.uptoBulk]; omega
end Go.Proofs.Ytgomofeidghmiaa

namespace Go.Proofs.Ytgomofeidghmiaa
open Go.RowKit

/-- a directory's files made safe, one behind another; right: none was refused -/
def setF (d : ByteArray) (S : St) : List (ByteArray × List Int) → St × Bool
  | [] => (S, true)
  | x :: r => if (S.sync d x.1).2 = 0 then setF d (S.sync d x.1).1 r else ((S.sync d x.1).1, false)
def setD (S : St) : Dsk → St × Bool
  | [] => (S, true)
  | d :: r => if (setF d.1 S d.2).2 = true then setD (setF d.1 S d.2).1 r else ((setF d.1 S d.2).1, false)
def settleS (S : St) : St × Bool := if (setD S S.view).2 = true then ((setD S S.view).1.names.1, decide ((setD S S.view).1.names.2 = 0)) else ((setD S S.view).1, false)
theorem setF_at {d : ByteArray} {S : St} {l : List (ByteArray × List Int)} {j : Nat} {x : ByteArray × List Int} (h : l[j]? = some x) : setF d S (l.drop j) = if (S.sync d x.1).2 = 0 then setF d (S.sync d x.1).1 (l.drop (j + 1)) else ((S.sync d x.1).1, false) := by
  have hj := (List.getElem?_eq_some_iff.1 h)
  obtain ⟨h1, h2⟩ := hj
  rw [List.drop_eq_getElem_cons h1, h2]
  rfl
theorem setD_at {S : St} {D : Dsk} {i : Nat} {x : ByteArray × List (ByteArray × List Int)} (h : D[i]? = some x) : setD S (D.drop i) = if (setF x.1 S x.2).2 = true then setD (setF x.1 S x.2).1 (D.drop (i + 1)) else ((setF x.1 S x.2).1, false) := by
  obtain ⟨h1, h2⟩ := List.getElem?_eq_some_iff.1 h
  rw [List.drop_eq_getElem_cons h1, h2]
  rfl
theorem Inv.setF {B : Nat} {S : St} (h : Inv B S) (d : ByteArray) (l : List (ByteArray × List Int)) : Inv (B + l.length) (setF d S l).1 := by
  induction l generalizing S B with
  | nil => exact h
  | cons x r ih =>
    unfold Go.Proofs.Ytgomofeidghmiaa.setF
    have h1 := h.sync d x.1
    split
    · have h2 := ih h1
      exact h2.mono (by simp; omega)
    · exact h1.mono (by simp)
theorem Inv.setD {B : Nat} {S : St} (h : Inv B S) (D : Dsk) : Inv (B + cnt8 D) (setD S D).1 := by
  induction D generalizing S B with
  | nil => exact h
  | cons x r ih =>
    unfold Go.Proofs.Ytgomofeidghmiaa.setD
    have h1 := h.setF x.1 x.2
    have hc : cnt8 (x :: r) = x.2.length + cnt8 r := by simp [cnt8]
    split
    · exact (ih h1).mono (by omega)
    · exact h1.mono (by omega)
end Go.Proofs.Ytgomofeidghmiaa

namespace Go.Proofs.Ytgomofeidghmiaa
open Go.RowKit

theorem FsTo.trans {w w1 w2 : World} {G G1 : FsG} {S2 : St} (ha : ∀ x ∈ G1.all, x ∈ G.all ∨ w.heap.size ≤ x) (hb : G1.b = G.b) (hc : Chg G.all w w1) (h : FsTo w1 G1 S2 w2) : FsTo w G S2 w2 := by
  obtain ⟨G', h1, h2, h3, h4⟩ := h
  refine ⟨G', h1, h2.trans hb, fun x hx => ?_, hc.trans h4 ha⟩
  rcases h3 x hx with h | h
  · exact ha x h
  · exact .inr (Nat.le_trans hc.size h)
theorem FsTo.keep0 {w w1 w2 : World} {G : FsG} {S2 : St} (h : FsTo w G S2 w1) (hc : Chg [] w1 w2) : FsTo w G S2 w2 := by
  obtain ⟨G', h1, h2, h3, h4⟩ := h
  exact ⟨G', h1.keep0 hc, h2, h3, h4.trans0 hc⟩
theorem FsTo.sync {w w1 : World} {G : FsG} {S1 : St} {B : Nat} (h : FsTo w G S1 w1) (hi : Inv B S1) (hB : B ≤ 1073741824) (d n : ByteArray) :
    Calls Try.prog 33 #[.pointer (some ⟨G.b, 0, none⟩), .string d, .string n] w1 fun e w' => e = .returned (.int .i64 (S1.sync d n).2) ∧ FsTo w G (S1.sync d n).1 w' := by
  obtain ⟨G', h1, h2, h3, h4⟩ := h
  rw [← h2]
  exact (sync_st h1 hi d n hB).mono fun e w' ⟨a, b⟩ => ⟨a, .trans h3 h2 h4 b⟩
theorem FsTo.names {w w1 : World} {G : FsG} {S1 : St} {B : Nat} (h : FsTo w G S1 w1) (hi : Inv B S1) (hB : B ≤ 1073741824) :
    Calls Try.prog 50 #[.pointer (some ⟨G.b, 0, none⟩)] w1 fun e w' => e = .returned (.int .i64 S1.names.2) ∧ FsTo w G S1.names.1 w' := by
  obtain ⟨G', h1, h2, h3, h4⟩ := h
  rw [← h2]
  exact (names_st h1 hi hB).mono fun e w' ⟨a, b⟩ => ⟨a, .trans h3 h2 h4 b⟩
theorem FsTo.before {w w1 w2 : World} {G : FsG} {S2 : St} (hc : Chg [] w w1) (h : FsTo w1 G S2 w2) : FsTo w G S2 w2 := by
  obtain ⟨G', h1, h2, h3, h4⟩ := h
  exact ⟨G', h1, h2, fun x hx => (h3 x hx).imp id (fun h => Nat.le_trans hc.size h), (hc.nil _).trans h4 (fun x hx => .inl hx)⟩
theorem FsTo.chg {w w1 : World} {G : FsG} {S1 : St} (h : FsTo w G S1 w1) : Chg G.all w w1 := by obtain ⟨_, _, _, _, h⟩ := h; exact h

set_option maxRecDepth 100000 in
set_option maxHeartbeats 3200000 in
theorem settle_any {w : World} {G : FsG} {S : St} {B : Nat} (h : FsM w G S) (hi : Inv B S) (hB : B + cnt8 S.view + 1 ≤ 1073741824) :
    Calls Try.prog 27 #[.pointer (some ⟨G.b, 0, none⟩)] w fun e w' => e = .returned (.bool (settleS S).2) ∧ FsTo w G (settleS S).1 w' := by
  have HF := Lib.hid h
  have HI := Lib.hid hi
  clear h hi
  go_enter Try.func27, Try.ntmps27
  go_wp2_with fail
  refine (view_st HF.out HI.out (by omega)).mono ?_
  rintro e w2 ⟨A, n, c, ds, rfl, hds, hdv, hc2, hnew⟩
  have HDS := Lib.hid hds
  have HDV := Lib.hid hdv
  have HC2 := Lib.hid hc2
  have HNEW := Lib.hid hnew
  have HF2 : Hid (FsTo w2 G S w2) := Lib.hid (.same (HF.out.keep0 HC2.out) (Chg.refl _ _))
  have hln : ds.length = n := by have := hds.rd.row.nsl; simpa [dnsl] using this
  have HLN := Lib.hid hln
  have hnm : n ≤ 9223372036854775807 := Nat.le_trans hds.rd.row.2.1 hds.rd.row.2.2.1
  clear hds hdv hc2 hnew hln
  go_wp2
  go_loopw [4, 6, 10, 17] (fun _ _ q _ wr => ∃ (i : Nat) (S1 : St), i ≤ n ∧ q = .int .i64 i ∧ setD S1 (S.view.drop i) = setD S S.view ∧ Inv (B + cnt8 (S.view.take i)) S1 ∧ FsTo w2 G S1 wr) (fun _ _ q _ _ => n - (intOf q).toNat)
  case atStart => exact ⟨0, S, Nat.zero_le _, rfl, rfl, HI.out.mono (by simp), HF2.out⟩
  case round =>
    obtain ⟨i, S1, hin, rfl, hset, hi1, hf1⟩ := hrel
    have HSET := Lib.hid hset
    have HI1 := Lib.hid hi1
    have HF1 := Lib.hid hf1
    clear hset hi1 hf1
    have HCR : Hid (Chg G.all w2 wr) := Lib.hid HF1.out.chg
    have HRD : Hid (DirsR wr A n c ds) := Lib.hid (HDS.out.rd.chg HCR.out (fun k hk hm => by have h1 := HNEW.out k hk; have h2 := HF.out.lt k hm; omega))
    by_cases hlt : i < n
    · have hlt' : (i : Int) < n := by omega
      obtain ⟨d, hd⟩ : ∃ d, ds[i]? = some d := ⟨_, List.getElem?_eq_getElem (by have := HLN.out; omega)⟩
      obtain ⟨⟨dnm, dA, dn, dc⟩, dfs⟩ := d
      have hdv : S.view[i]? = some (dnm, fval8 dfs) := by rw [← HDV.out]; unfold dval8; rw [List.getElem?_map, hd]; rfl
      obtain ⟨ad, rfl, hat⟩ := HRD.out.row.ns (j := i) (x := ⟨dnm, dA, dn, dc⟩) (by unfold dnsl; rw [List.getElem?_map, hd]; rfl)
      have x0 := hat.c0
      have x1 := hat.c1
      have HDVV := Lib.hid hdv
      have HFR := Lib.hid (HRD.out.fil _ (List.mem_of_getElem? hd))
      have hdm := List.mem_of_getElem? hd
      have hml : dfs.length = dn := by have := HFR.out.row.nsl; simpa [fnsl] using this
      have HML := Lib.hid hml
      clear hd hdv hat hml
      obtain ⟨dv, hdvn⟩ : ∃ dv, wr.heap.size = dv := ⟨_, rfl⟩
      obtain ⟨W5, hW5⟩ : ∃ W5, wr.alloc (.cells #[.string dnm, .slice dA dn dc] 38) = W5 := ⟨_, rfl⟩
      have hv5 : Blk W5 dv 38 #[.string dnm, .slice dA dn dc] := by rw [← hW5, ← hdvn]; exact Blk.new wr _ _
      have hc5 : Chg [] wr W5 := by rw [← hW5]; exact (Chg.refl [] wr).alloc _
      obtain ⟨G1, hf1, hb1, ha1, hg1⟩ := HF1.out
      have hnv : dv ∉ G1.all := fun hm => by have := hf1.lt dv hm; omega
      have v1 := hv5.cell 1
      simp only [List.getElem?_toArray, List.getElem?_cons_succ, List.getElem?_cons_zero] at v1
      have HV5 := Lib.hid hv5
      have HC5 := Lib.hid hc5
      have HG1 : Hid (FsTo W5 G1 S1 W5) := Lib.hid (.same (hf1.keep0 hc5) (Chg.refl _ _))
      have HB1 := Lib.hid hb1
      have HA1 := Lib.hid ha1
      have HG := Lib.hid (hg1.trans0 hc5)
      have HNV := Lib.hid hnv
      have HFRN : Hid (∀ k ∈ bo dA ++ fblk dfs, k ∉ G1.all) := Lib.hid (fun k hk hm => by
        have h0 : k ∈ dblk ds := List.mem_flatMap.2 ⟨_, hdm, hk⟩
        have h1 := HNEW.out k (List.mem_append_right _ h0)
        have h2 := HDS.out.lt k (List.mem_append_right _ h0)
        rcases HA1.out k hm with h | h
        · have := HF.out.lt k h; omega
        · omega)
      clear hv5 hc5 hf1 hb1 ha1 hg1 hnv hdm
      go_wp2
      go_loopw [6, 17] (fun _ q wr => ∃ (j : Nat) (S2 : St), j ≤ dn ∧ q = .int .i64 j ∧ setF dnm S2 ((fval8 dfs).drop j) = setF dnm S1 (fval8 dfs) ∧ Inv (B + cnt8 (S.view.take i) + j) S2 ∧ FsTo W5 G1 S2 wr) (fun _ q _ => dn - (intOf q).toNat)
      case atStart => exact ⟨0, S1, Nat.zero_le _, rfl, rfl, HI1.out.mono (by omega), HG1.out⟩
      case round =>
        obtain ⟨j, S2, hjn, rfl, hset2, hi2, hf2⟩ := hrel
        have HSET2 := Lib.hid hset2
        have HI2 := Lib.hid hi2
        have HF2' := Lib.hid hf2
        clear hset2 hi2 hf2
        by_cases hjl : j < dn
        · have hjl' : (j : Int) < dn := by omega
          have HCI : Hid (Chg G1.all W5 wr) := Lib.hid HF2'.out.chg
          have HFI := Lib.hid ((HFR.out.chg0 HC5.out).chg HCI.out HFRN.out)
          have HVI := Lib.hid (HV5.out.chg HCI.out HNV.out)
          obtain ⟨x, hx⟩ : ∃ x, dfs[j]? = some x := ⟨_, List.getElem?_eq_getElem (by have := HML.out; omega)⟩
          obtain ⟨⟨fnm, fB, fn, fd⟩, bs⟩ := x
          have hxv : (fval8 dfs)[j]? = some (fnm, bs) := by unfold fval8; rw [List.getElem?_map, hx]; rfl
          obtain ⟨ad2, rfl, hat⟩ := HFI.out.row.ns (j := j) (x := ⟨fnm, fB, fn, fd⟩) (by unfold fnsl; rw [List.getElem?_map, hx]; rfl)
          have f0 := hat.c0
          have f1 := hat.c1
          have HXV := Lib.hid hxv
          have u0 := HVI.out.cell 0
          simp only [List.getElem?_toArray, List.getElem?_cons_succ, List.getElem?_cons_zero] at u0
          clear hx hxv hat v1
          obtain ⟨fv, hfv⟩ : ∃ fv, wr.heap.size = fv := ⟨_, rfl⟩
          obtain ⟨W6, hW6⟩ : ∃ W6, wr.alloc (.cells #[.string fnm, .slice fB fn fd] 41) = W6 := ⟨_, rfl⟩
          have hv6 : Blk W6 fv 41 #[.string fnm, .slice fB fn fd] := by rw [← hW6, ← hfv]; exact Blk.new wr _ _
          have hc6 : Chg [] wr W6 := by rw [← hW6]; exact (Chg.refl [] wr).alloc _
          have g0 := hv6.cell 0
          have u06 := (HVI.out.chg hc6 List.not_mem_nil).cell 0
          simp only [List.getElem?_toArray, List.getElem?_cons_succ, List.getElem?_cons_zero] at g0 u06
          have HF6 := Lib.hid (HF2'.out.keep0 hc6)
          clear hv6 hc6
          have hcb : cnt8 (S.view.take i) + dn ≤ cnt8 S.view := by have := cnt8_at HDVV.out; simpa [fval8, HML.out] using this
          go_wp2_with fail
          have hsy := HF6.out.sync HI2.out (by omega) dnm fnm
          rw [HB1.out] at hsy
          refine hsy.mono ?_
          clear hsy
          rintro e w7 ⟨rfl, hf7⟩
          have HF7 := Lib.hid hf7
          have HST := Lib.hid (setF_at (d := dnm) (S := S2) HXV.out)
          obtain ⟨cd, hcd⟩ : ∃ cd, (S2.sync dnm fnm).2 = cd := ⟨_, rfl⟩
          rw [hcd]
          have HCD := Lib.hid hcd
          clear hf7 hcd u0 u06 g0 f0 f1
          by_cases hz : cd = 0
          · subst hz
            go_wp2
            go_roundw
            case rel => exact ⟨j + 1, (S2.sync dnm fnm).1, by omega, by go_num, by rw [← HSET2.out, HST.out, if_pos HCD.out], (HI2.out.sync dnm fnm).mono (by omega), HF7.out⟩
            case measure => simp [intOf]; omega
          · have HS : Hid (settleS S = ((S2.sync dnm fnm).1, false)) := Lib.hid (by
              have h1 : setF dnm S1 (fval8 dfs) = ((S2.sync dnm fnm).1, false) := by rw [← HSET2.out, HST.out, if_neg (by simp only [HCD.out]; exact hz)]
              have h2 : setD S S.view = ((S2.sync dnm fnm).1, false) := by rw [← HSET.out, setD_at HDVV.out, h1, if_neg (by simp)]
              unfold settleS
              rw [h2]
              rfl)
            have HRES : Hid (FsTo w G (S2.sync dnm fnm).1 w7) := Lib.hid (FsTo.before HC2.out (.trans HA1.out HB1.out HG.out HF7.out))
            go_wp2
            go_ret
            rw [HS.out]
            exact ⟨rfl, HRES.out⟩
        · obtain rfl : j = dn := by omega
          have he : (fval8 dfs).drop j = [] := List.drop_of_length_le (by simp only [fval8, List.length_map, HML.out]; exact Nat.le_refl _)
          have hs : setF dnm S1 (fval8 dfs) = (S2, true) := by rw [← HSET2.out, he]; rfl
          have HSD : Hid (setD S1 (S.view.drop i) = setD S2 (S.view.drop (i + 1))) := Lib.hid (by rw [setD_at HDVV.out, hs, if_pos rfl])
          have HCB : Hid (cnt8 (S.view.take (i + 1)) = cnt8 (S.view.take i) + j) := Lib.hid (by rw [take_snoc _ _ _ HDVV.out, cnt8_snoc]; simp [fval8, HML.out])
          clear he hs v1
          go_wp2
          go_roundw
          case rel => exact ⟨i + 1, S2, by omega, by go_num, by rw [← HSD.out, HSET.out], HI2.out.mono (by rw [HCB.out]; omega), .trans HA1.out HB1.out HG.out HF2'.out⟩
          case measure => simp [intOf]; omega
    · obtain rfl : i = n := by omega
      have he : S.view.drop i = [] := List.drop_of_length_le (by rw [← HDV.out]; simp only [dval8, List.length_map, HLN.out]; exact Nat.le_refl _)
      have hs : setD S S.view = (S1, true) := by rw [← HSET.out, he]; rfl
      have HS : Hid (settleS S = (S1.names.1, decide (S1.names.2 = 0))) := Lib.hid (by unfold settleS; rw [hs]; rfl)
      have hbb : cnt8 (S.view.take i) ≤ cnt8 S.view := cnt8_take _ _
      clear he hs
      go_wp2_with fail
      refine (HF1.out.names HI1.out (by omega)).mono ?_
      rintro e w5 ⟨rfl, hf5⟩
      have HF5 := Lib.hid hf5
      clear hf5
      go_wp2
      go_ret
      rw [HS.out]
      exact ⟨rfl, HF5.out.before HC2.out⟩
end Go.Proofs.Ytgomofeidghmiaa

namespace Go.Proofs.Ytgomofeidghmiaa
open Go.RowKit

/-- is it a change? -/
def chK (m : Nat) : Bool := decide (m < 8) || (decide (10 < m) && decide (m < 15))
theorem ask_down {S : St} (h : S.down = true) (t : Bool) (ns : List ByteArray) : S.ask t ns = 80 := by unfold St.ask; rw [if_pos h]
theorem fnd_down {S : St} (h : S.down = true) (d n : ByteArray) : S.fnd d n = (none, 80) := by unfold St.fnd; rw [ask_down h]; rfl
theorem callK_down {S : St} (h : S.down = true) (m : Nat) (d n t : ByteArray) (xs : List Int) : callK S m d n t xs = (S, 80, [], []) := by
  unfold callK
  split <;> simp [St.mkdir, St.create, St.write, St.sync, St.names, St.rename, St.remove, St.rmdir, St.read, St.list, St.dirs, ask_down h, fnd_down h, h]
theorem fnd_no {S : St} {d n : ByteArray} {e : Int} (h : S.fnd d n = (none, e)) : e ≠ 0 := by
  unfold St.fnd at h
  by_cases h0 : S.ask true [d, n] = 0
  · rw [if_neg (by simp [h0])] at h
    cases hg : aget (folOf S.seen d) n with
    | none => rw [hg] at h; simp at h; omega
    | some i => rw [hg] at h; simp at h
  · rw [if_pos h0] at h; simp at h; rw [← h]; exact h0
theorem fnd_up {S : St} {d n : ByteArray} {x : Nat} {e : Int} (h : S.fnd d n = (some x, e)) : S.down = false := by
  cases hd : S.down with
  | false => rfl
  | true => rw [fnd_down hd] at h; cases h

/-- a step, and nothing else of the power and the quota -/
def Stp (S : St) (r : St × Int) : Prop := r.1.stop = S.stop ∧ r.1.quota = S.quota ∧ r.1.steps = S.steps + if r.2 = 0 then 1 else 0
theorem Stp.no {S : St} {e : Int} (h : e ≠ 0) : Stp S (S, e) := ⟨rfl, rfl, by rw [if_neg h]; rfl⟩
theorem Stp.mkdir (S : St) (d : ByteArray) : Stp S (S.mkdir d) := by
  unfold St.mkdir
  by_cases h0 : S.ask false [d] = 0
  · rw [if_neg (by simp [h0])]
    split
    · exact .no (by decide)
    · exact ⟨rfl, rfl, rfl⟩
  · rw [if_pos h0]; exact .no h0
theorem Stp.create (S : St) (d n : ByteArray) : Stp S (S.create d n) := by
  unfold St.create
  by_cases h0 : S.ask true [d, n] = 0
  · rw [if_neg (by simp [h0])]
    split
    · exact .no (by decide)
    · exact ⟨rfl, rfl, rfl⟩
  · rw [if_pos h0]; exact .no h0
theorem Stp.write (S : St) (d n : ByteArray) (xs : List Int) : Stp S (S.write d n xs) := by
  unfold St.write
  cases hf : S.fnd d n with
  | mk o e =>
    cases o with
    | none => exact .no (fnd_no hf)
    | some x =>
      simp only
      split
      · exact ⟨rfl, rfl, rfl⟩
      · split
        · exact .no (by decide)
        · exact ⟨rfl, rfl, rfl⟩
theorem Stp.sync (S : St) (d n : ByteArray) : Stp S (S.sync d n) := by
  unfold St.sync
  cases hf : S.fnd d n with
  | mk o e =>
    cases o with
    | none => exact .no (fnd_no hf)
    | some x => exact ⟨rfl, rfl, rfl⟩
theorem Stp.names (S : St) : Stp S S.names := by
  unfold St.names
  split
  · exact .no (by decide)
  · exact ⟨rfl, rfl, rfl⟩
theorem Stp.rename (S : St) (a b : ByteArray) : Stp S (S.rename a b) := by
  unfold St.rename
  by_cases h0 : S.ask true [a, b] = 0
  · rw [if_neg (by simp [h0])]; exact ⟨rfl, rfl, rfl⟩
  · rw [if_pos h0]; exact .no h0
theorem Stp.remove (S : St) (d n : ByteArray) : Stp S (S.remove d n) := by
  unfold St.remove
  cases hf : S.fnd d n with
  | mk o e =>
    cases o with
    | none => exact .no (fnd_no hf)
    | some x => exact ⟨rfl, rfl, rfl⟩
theorem Stp.rmdir (S : St) (d : ByteArray) : Stp S (S.rmdir d) := by
  unfold St.rmdir
  by_cases h0 : S.ask true [d] = 0
  · rw [if_neg (by simp [h0])]
    split
    · exact .no (by decide)
    · exact ⟨rfl, rfl, rfl⟩
  · rw [if_pos h0]; exact .no h0
theorem callK_step (S : St) {m : Nat} (hm : m < 16) (d n t : ByteArray) (xs : List Int) :
    (callK S m d n t xs).1.stop = S.stop ∧ (callK S m d n t xs).1.quota = S.quota ∧ (callK S m d n t xs).1.steps = S.steps + if (callK S m d n t xs).2.1 = 0 ∧ chK m = true then 1 else 0 := by
  have key : ∀ {r : St × Int}, Stp S r → chK m = true → r.1.stop = S.stop ∧ r.1.quota = S.quota ∧ r.1.steps = S.steps + if r.2 = 0 ∧ chK m = true then 1 else 0 := fun h hc => by
    obtain ⟨h1, h2, h3⟩ := h
    exact ⟨h1, h2, by rw [h3]; simp [hc]⟩
  match m, hm with
  | 0, _ => exact key (.mkdir S d) rfl
  | 1, _ => exact key (.create S d n) rfl
  | 2, _ => exact key (.write S d n xs) rfl
  | 3, _ => exact key (.sync S d n) rfl
  | 4, _ => exact key (.names S) rfl
  | 5, _ => exact key (.rename S d t) rfl
  | 6, _ => exact key (.remove S d n) rfl
  | 7, _ => exact key (.rmdir S d) rfl
  | 8, _ => exact ⟨rfl, rfl, by simp [callK, chK]⟩
  | 9, _ => exact ⟨rfl, rfl, by simp [callK, chK]⟩
  | 10, _ => exact ⟨rfl, rfl, by simp [callK, chK]⟩
  | 11, _ => exact key (.write S d n xs) rfl
  | 12, _ => exact key (.write S d n xs) rfl
  | 13, _ => exact key (.sync S d n) rfl
  | 14, _ => exact key (.names S) rfl
  | 15, _ => exact ⟨rfl, rfl, by simp [callK, chK]⟩
  | k + 16, h => exact absurd h (by omega)

/-! room -/
def Wf (f : Nat → Nat) (F : Fol) : Nat := (F.map fun q => f q.2).sum
def Wt (f : Nat → Nat) (T : Tr) : Nat := (T.map fun p => Wf f p.2).sum
theorem Wf_withS (f : Nat → Nat) (n : ByteArray) (i : Nat) (F : Fol) : Wf f (withS n i F) = f i + Wf f F := by
  unfold Wf
  rw [((withS_perm n i F).map _).sum_nat, List.map_cons, List.sum_cons]
theorem Wt_withS (f : Nat → Nat) (d : ByteArray) (F : Fol) (T : Tr) : Wt f (withS d F T) = Wf f F + Wt f T := by
  unfold Wt
  rw [((withS_perm d F T).map _).sum_nat, List.map_cons, List.sum_cons]
theorem Wf_without (f : Nat → Nat) (F : Fol) (n : ByteArray) : Wf f (without F n) ≤ Wf f F := by
  unfold Wf without
  induction F with
  | nil => simp
  | cons p r ih =>
    rw [List.filter_cons]
    split
    · simp only [List.map_cons, List.sum_cons]; omega
    · simp only [List.map_cons, List.sum_cons]; omega
theorem Wt_without (f : Nat → Nat) (T : Tr) (d : ByteArray) : Wt f (without T d) ≤ Wt f T := by
  unfold Wt without
  induction T with
  | nil => simp
  | cons p r ih =>
    rw [List.filter_cons]
    split
    · simp only [List.map_cons, List.sum_cons]; omega
    · simp only [List.map_cons, List.sum_cons]; omega
theorem Wt_fol (f : Nat → Nat) (T : Tr) (d : ByteArray) : Wf f (folOf T d) + Wt f (without T d) ≤ Wt f T := by
  induction T with
  | nil => simp [folOf, aget, Wt, Wf, without]
  | cons p r ih =>
    unfold folOf at ih ⊢
    rw [aget_cons, without_cons]
    by_cases h : p.1 = d
    · rw [if_pos h, if_pos h]
      have := Wt_without f r d
      simp only [Option.getD_some, Wt, List.map_cons, List.sum_cons] at this ⊢
      omega
    · rw [if_neg h, if_neg h]
      simp only [Wt, List.map_cons, List.sum_cons] at ih ⊢
      omega
/-- the file that a change makes -/
def Chn.made (f : Nat → Nat) : Chn → Nat
  | .create _ _ i => f i
  | _ => 0
theorem Wt_on (f : Nat → Nat) (T : Tr) (c : Chn) : Wt f (c.on T) ≤ Wt f T + c.made f := by
  cases c with
  | mkdir d => simp only [Chn.on, Wt_withS, Chn.made]; simp [Wf]
  | create d n i =>
    have := Wt_fol f T d
    simp only [Chn.on, Wt_withS, Wf_withS, Chn.made]
    omega
  | rename a b =>
    have h1 := Wt_fol f T a
    have h2 := Wt_without f (without T a) b
    simp only [Chn.on, Wt_withS, Chn.made]
    omega
  | remove d n =>
    have h1 := Wt_fol f T d
    have h2 := Wf_without f (folOf T d) n
    simp only [Chn.on, Wt_withS, Chn.made]
    omega
  | rmdir d => simp only [Chn.on, Chn.made]; exact Wt_without f T d
theorem Wt_zero {f : Nat → Nat} {T : Tr} (h : ∀ p ∈ T, ∀ q ∈ p.2, f q.2 = 0) : Wt f T = 0 := by
  unfold Wt
  induction T with
  | nil => rfl
  | cons p r ih =>
    simp only [List.map_cons, List.sum_cons]
    rw [ih (fun p hp => h p (List.mem_cons_of_mem _ hp))]
    have h1 := h p (List.mem_cons_self ..)
    unfold Wf
    generalize p.2 = F at h1
    induction F with
    | nil => rfl
    | cons q r ih2 =>
      simp only [List.map_cons, List.sum_cons]
      rw [h1 q (List.mem_cons_self ..)]
      have := ih2 (fun q hq => h1 q (List.mem_cons_of_mem _ hq))
      omega
theorem Wf_lin {f g k : Nat → Nat} {a : Nat} (h : ∀ i, f i ≤ g i + a * k i) (F : Fol) : Wf f F ≤ Wf g F + a * Wf k F := by
  unfold Wf
  induction F with
  | nil => simp
  | cons q r ih =>
    simp only [List.map_cons, List.sum_cons, Nat.mul_add]
    have := h q.2
    omega
theorem Wt_lin {f g k : Nat → Nat} {a : Nat} (h : ∀ i, f i ≤ g i + a * k i) (T : Tr) : Wt f T ≤ Wt g T + a * Wt k T := by
  unfold Wt
  induction T with
  | nil => simp
  | cons p r ih =>
    simp only [List.map_cons, List.sum_cons, Nat.mul_add]
    have := Wf_lin h p.2
    omega
theorem Wt_congr {f g : Nat → Nat} (h : ∀ i, f i = g i) (T : Tr) : Wt f T = Wt g T := by rw [show f = g from funext h]

/-- is it that one? -/
def oneAt (i : Nat) : Nat → Nat := fun j => if j = i then 1 else 0
def lenf (S : St) : Nat → Nat := fun i => (S.bytes i).length
def St.tot (S : St) : Nat := Wt (lenf S) S.seen
theorem used_up {S : St} (h : S.down = false) : S.used = S.tot := by
  unfold St.used St.view St.tot bytesOf Wt Wf lenf
  rw [if_neg (by simp [h]), List.map_map]
  congr 1
  apply List.map_congr_left
  intro p _
  simp [Function.comp_def]
theorem used_off {S : St} (h : S.down = true) : S.used = 0 := by
  unfold St.used St.view
  rw [if_pos h]
  rfl
/-- there is room: no file has two names, and no more bytes are seen than M -/
structure Room (M : Int) (S : St) : Prop where
  uniq : ∀ i, Wt (oneAt i) S.seen ≤ 1
  quota : S.quota ≤ M
  tot : (S.tot : Int) ≤ M
theorem Room.used {M : Int} {S : St} (h : Room M S) (h0 : 0 ≤ M) : (S.used : Int) ≤ M := by
  cases hd : S.down with
  | false => rw [used_up hd]; exact h.tot
  | true => rw [used_off hd]; exact h0
theorem Room.make {M : Int} {S : St} (h : Room M S) {c : Chn} (hc : ∀ f, c.made f = 0) : Room M (S.make c) := by
  obtain ⟨h1, h2, h3⟩ := h
  refine ⟨fun i => ?_, h2, ?_⟩
  · have := Wt_on (oneAt i) S.seen c; have := hc (oneAt i); have := h1 i
    show Wt (oneAt i) (c.on S.seen) ≤ 1
    omega
  · have := Wt_on (lenf S) S.seen c; have := hc (lenf S)
    have h4 : (S.make c).tot = Wt (lenf S) (c.on S.seen) := rfl
    rw [h4]
    unfold St.tot at h3
    omega
theorem Room.mkdir {M : Int} {S : St} (h : Room M S) (d : ByteArray) : Room M (S.mkdir d).1 := by
  unfold St.mkdir
  split
  · exact h
  · split
    · exact h
    · exact h.make (fun _ => rfl)
theorem getD_snoc {α : Type} (l : List α) (d : α) (i : Nat) : (l ++ [d]).getD i d = l.getD i d := by
  rw [List.getD_eq_getElem?_getD, List.getD_eq_getElem?_getD]
  by_cases h : i < l.length
  · rw [List.getElem?_append_left h]
  · rw [List.getElem?_append_right (by omega), List.getElem?_eq_none (l := l) (by omega)]
    cases i - l.length with
    | zero => rfl
    | succ k => rfl
theorem bytes_addFile (S : St) (i : Nat) : ({ S with files := S.files ++ [([], [])] } : St).bytes i = S.bytes i := by
  unfold St.bytes
  simp only
  rw [getD_snoc]
theorem Room.create {M : Int} {B : Nat} {S : St} (h : Room M S) (hi : Inv B S) (d n : ByteArray) : Room M (S.create d n).1 := by
  unfold St.create
  split
  · exact h
  · split
    · exact h
    · obtain ⟨h1, h2, h3⟩ := h
      refine ⟨fun i => ?_, h2, ?_⟩
      · show Wt (oneAt i) (Chn.on S.seen (.create d n S.files.length)) ≤ 1
        have h4 := Wt_on (oneAt i) S.seen (.create d n S.files.length)
        simp only [Chn.made] at h4
        by_cases hin : i = S.files.length
        · have h5 : Wt (oneAt i) S.seen = 0 := Wt_zero (fun p hp q hq => by
            have := hi.val.ids p hp q hq
            unfold oneAt
            rw [if_neg (by omega)])
          have h6 : oneAt i S.files.length = 1 := by unfold oneAt; rw [if_pos hin.symm]
          omega
        · have h6 : oneAt i S.files.length = 0 := by unfold oneAt; rw [if_neg (fun e => hin e.symm)]
          have := h1 i
          omega
      · have h4 := Wt_on (lenf S) S.seen (.create d n S.files.length)
        simp only [Chn.made] at h4
        have h5 : lenf S S.files.length = 0 := by
          unfold lenf St.bytes
          rw [List.getD_eq_getElem?_getD, List.getElem?_eq_none (Nat.le_refl _)]
          rfl
        show ((Wt (lenf (({ S with files := S.files ++ [([], [])] } : St).make (.create d n S.files.length))) (Chn.on S.seen (.create d n S.files.length)) : Nat) : Int) ≤ M
        rw [Wt_congr (g := lenf S) (fun i => by unfold lenf; exact congrArg List.length (bytes_addFile S i))]
        unfold St.tot at h3
        omega
theorem getD_modify {α : Type} (l : List α) (x : Nat) (φ : α → α) (d : α) (i : Nat) : (l.modify x φ).getD i d = if i = x ∧ x < l.length then φ (l.getD i d) else l.getD i d := by
  rw [List.getD_eq_getElem?_getD, List.getD_eq_getElem?_getD, List.getElem?_modify]
  by_cases h : x = i
  · subst h
    simp only [if_true, true_and]
    by_cases hx : x < l.length
    · rw [if_pos hx, List.getElem?_eq_getElem hx]; rfl
    · rw [if_neg hx, List.getElem?_eq_none (by omega)]; rfl
  · rw [if_neg (fun e => h e.1.symm)]
    simp [h]
theorem Room.write {M : Int} {S : St} (h : Room M S) (d n : ByteArray) (xs : List Int) : Room M (S.write d n xs).1 := by
  unfold St.write
  cases hf : S.fnd d n with
  | mk o e =>
    cases o with
    | none => exact h
    | some x =>
      simp only
      split
      · exact ⟨h.uniq, h.quota, h.tot⟩
      · split
        · exact h
        · rename_i _ hq
          obtain ⟨h1, h2, h3⟩ := h
          refine ⟨h1, h2, ?_⟩
          rw [used_up (fnd_up hf)] at hq
          have h4 : Wt (lenf { S with files := S.files.modify x (fun f => (f.1, f.2 ++ [xs])), wr := S.wr ++ [x], steps := S.steps + 1 }) S.seen ≤ Wt (lenf S) S.seen + xs.length * Wt (oneAt x) S.seen := Wt_lin (fun i => by
            unfold lenf St.bytes oneAt
            simp only
            rw [getD_modify]
            split
            · rename_i hx
              rw [if_pos hx.1]
              simp [Fil.all]
              omega
            · omega) _
          have h5 := Nat.mul_le_mul_left xs.length (h1 x)
          have h6 : (St.tot { S with files := S.files.modify x (fun f => (f.1, f.2 ++ [xs])), wr := S.wr ++ [x], steps := S.steps + 1 }) ≤ S.tot + xs.length := by
            show Wt (lenf _) S.seen ≤ Wt (lenf S) S.seen + xs.length
            omega
          refine Int.le_trans (Int.ofNat_le.2 h6) ?_
          omega
theorem bytes_sync (S : St) (x i : Nat) (wr' : List Nat) : ({ S with files := S.files.modify x (fun f => (Fil.all f, [])), wr := wr', steps := S.steps + 1 } : St).bytes i = S.bytes i := by
  unfold St.bytes
  simp only
  rw [getD_modify]
  split
  · simp [Fil.all]
  · rfl
theorem Room.sync {M : Int} {S : St} (h : Room M S) (d n : ByteArray) : Room M (S.sync d n).1 := by
  unfold St.sync
  cases hf : S.fnd d n with
  | mk o e =>
    cases o with
    | none => exact h
    | some x =>
      obtain ⟨h1, h2, h3⟩ := h
      refine ⟨h1, h2, ?_⟩
      show ((Wt (lenf _) S.seen : Nat) : Int) ≤ M
      rw [Wt_congr (g := lenf S) (fun i => by unfold lenf; exact congrArg List.length (bytes_sync S x i _))]
      exact h3
theorem Room.names {M : Int} {S : St} (h : Room M S) : Room M S.names.1 := by
  unfold St.names
  split
  · exact h
  · exact ⟨h.uniq, h.quota, h.tot⟩
theorem Room.rename {M : Int} {S : St} (h : Room M S) (a b : ByteArray) : Room M (S.rename a b).1 := by
  unfold St.rename
  split
  · exact h
  · exact h.make (fun _ => rfl)
theorem Room.remove {M : Int} {S : St} (h : Room M S) (d n : ByteArray) : Room M (S.remove d n).1 := by
  unfold St.remove
  cases hf : S.fnd d n with
  | mk o e =>
    cases o with
    | none => exact h
    | some x => exact h.make (fun _ => rfl)
theorem Room.rmdir {M : Int} {S : St} (h : Room M S) (d : ByteArray) : Room M (S.rmdir d).1 := by
  unfold St.rmdir
  split
  · exact h
  · split
    · exact h
    · exact h.make (fun _ => rfl)
theorem Room.callK {M : Int} {B : Nat} {S : St} (h : Room M S) (hi : Inv B S) (m : Nat) (d n t : ByteArray) (xs : List Int) : Room M (callK S m d n t xs).1 := by
  unfold Go.Proofs.Ytgomofeidghmiaa.callK
  split
  · exact h.mkdir d
  · exact h.create hi d n
  · exact h.write d n xs
  · exact h.write d n xs
  · exact h.write d n xs
  · exact h.sync d n
  · exact h.sync d n
  · exact h.names
  · exact h.names
  · exact h.rename d t
  · exact h.remove d n
  · exact h.rmdir d
  · exact h
  · exact h
  · exact h

/-! a disk opened: what is seen -/
def dat (D : Dsk) : List (List Int) := D.flatMap fun d => d.2.map (·.2)
theorem numF_map (g : Nat → List Int) {n : Nat} {l : List (ByteArray × List Int)} (h : ∀ (k : Nat) x, l[k]? = some x → g (n + k) = x.2) : (numF n l).map (fun q => (q.1, g q.2)) = l := by
  induction l generalizing n with
  | nil => rfl
  | cons x r ih =>
    simp only [numF, List.map_cons]
    rw [ih (n := n + 1) (fun k y hy => by have := h (k + 1) y (by simpa using hy); rw [← this]; congr 1; omega)]
    have := h 0 x rfl
    rw [Nat.add_zero] at this
    rw [this]
theorem numT_map (g : Nat → List Int) {n : Nat} {D : Dsk} (h : ∀ (k : Nat) x, (dat D)[k]? = some x → g (n + k) = x) : (numT n D).map (fun p => (p.1, p.2.map fun q => (q.1, g q.2))) = D := by
  induction D generalizing n with
  | nil => rfl
  | cons d r ih =>
    simp only [numT, List.map_cons]
    have hd : dat (d :: r) = d.2.map (·.2) ++ dat r := rfl
    rw [ih (n := n + d.2.length) (fun k y hy => by
        have := h (d.2.length + k) y (by rw [hd, List.getElem?_append_right (by simp)]; simpa using hy)
        rw [← this]; congr 1; omega),
      numF_map g (n := n) (l := d.2) (fun k x hx => h k x.2 (by
        rw [hd, List.getElem?_append_left (by simp; exact (List.getElem?_eq_some_iff.1 hx).1), List.getElem?_map, hx]; rfl))]
theorem fls_dat (D : Dsk) : fls D = (dat D).map fun x => (x, []) := by
  unfold fls dat
  rw [List.map_flatMap]
  congr 1
  funext d
  simp
theorem open_bytes {D : Dsk} {q s : Int} {k : Nat} {x : List Int} (h : (dat D)[k]? = some x) : (openS D q s).files.getD k ([], []) = (x, []) := by
  show (fls D).getD k ([], []) = _
  rw [fls_dat, List.getD_eq_getElem?_getD, List.getElem?_map, h]
  rfl
theorem open_seen (D : Dsk) (q s : Int) : (openS D q s).seen.map (fun p => (p.1, p.2.map fun r => (r.1, (openS D q s).bytes r.2))) = D :=
  numT_map _ (fun k x hx => by
    unfold St.bytes
    rw [Nat.zero_add, open_bytes hx]
    simp [Fil.all])
theorem aft_nil (out : List Int) (start : Nat) (ks : List Bool) : aft out start [] ks = out := by simp [aft]
theorem open_left (D : Dsk) (q s : Int) (ks : List Bool) (names : Int) : (openS D q s).left ks names = D := by
  unfold St.left
  show (runC (numT 0 D) (List.take _ [])).map _ = D
  rw [List.take_nil]
  exact numT_map _ (fun k x hx => by
    unfold St.after
    simp only
    rw [Nat.zero_add, open_bytes hx, aft_nil])
theorem range_one (i k : Nat) : ∀ n, ((List.range' n k).map (oneAt i)).sum ≤ 1 ∧ (i < n → ((List.range' n k).map (oneAt i)).sum = 0) := by
  induction k with
  | zero => intro n; simp
  | succ k ih =>
    intro n
    rw [List.range'_succ, List.map_cons, List.sum_cons]
    obtain ⟨h1, h2⟩ := ih (n + 1)
    by_cases h : n = i
    · have h4 := h2 (by omega)
      have h3 : oneAt i n = 1 := by unfold oneAt; rw [if_pos h]
      rw [h3, h4]
      exact ⟨by omega, fun h5 => by omega⟩
    · have h3 : oneAt i n = 0 := by unfold oneAt; rw [if_neg h]
      rw [h3]
      exact ⟨by omega, fun h4 => by have := h2 (by omega); omega⟩
theorem Wf_num (f : Nat → Nat) (n : Nat) (l : List (ByteArray × List Int)) : Wf f (numF n l) = ((List.range' n l.length).map f).sum := by
  unfold Wf
  induction l generalizing n with
  | nil => rfl
  | cons x r ih => simp only [numF, List.map_cons, List.sum_cons, List.length_cons, List.range'_succ, ih]
theorem Wt_num (f : Nat → Nat) (n : Nat) (D : Dsk) : Wt f (numT n D) = ((List.range' n (cnt8 D)).map f).sum := by
  unfold Wt
  induction D generalizing n with
  | nil => rfl
  | cons d r ih =>
    simp only [numT, List.map_cons, List.sum_cons, ih, Wf_num]
    have : cnt8 (d :: r) = d.2.length + cnt8 r := by simp [cnt8]
    rw [this, ← List.range'_append_1, List.map_append, List.sum_append]
theorem Room.open_ {D : Dsk} {q s : Int} : Room (max q (bytesOf D : Int)) (openS D q s) := by
  refine ⟨fun i => ?_, by simp only [openS]; omega, ?_⟩
  · show Wt (oneAt i) (numT 0 D) ≤ 1
    rw [Wt_num]
    exact (range_one i _ 0).1
  · have h : (openS D q s).tot = bytesOf D := by
      have h1 : bytesOf ((openS D q s).seen.map (fun p => (p.1, p.2.map fun r => (r.1, (openS D q s).bytes r.2)))) = (openS D q s).tot := by
        unfold bytesOf St.tot Wt Wf lenf
        rw [List.map_map]
        congr 1
        apply List.map_congr_left
        intro p _
        simp [Function.comp_def]
      rw [← h1, open_seen]
    rw [h]
    omega
end Go.Proofs.Ytgomofeidghmiaa

namespace Go.Proofs.Ytgomofeidghmiaa
open Go.RowKit

theorem downB_never {s : Int} (k : Int) (h : s < 0) : downB s k = false := by unfold downB; rw [show decide (0 ≤ s) = false from decide_eq_false (by omega)]; rfl
theorem up_never {S : St} (h : S.stop < 0) : S.down = false := downB_never _ h

/-- files safe that were not; else nothing has changed -/
structure Safer (S S' : St) : Prop where
  seen : S'.seen = S.seen
  safe : S'.safe = S.safe
  chs : S'.chs = S.chs
  stop : S'.stop = S.stop
  bytes : ∀ i, S'.bytes i = S.bytes i
  len : S'.files.length = S.files.length
  clean : ∀ i, (S.files.getD i ([], [])).2 = [] → (S'.files.getD i ([], [])).2 = []
theorem Safer.refl (S : St) : Safer S S := ⟨rfl, rfl, rfl, rfl, fun _ => rfl, rfl, fun _ h => h⟩
theorem Safer.trans {S S1 S2 : St} (h : Safer S S1) (k : Safer S1 S2) : Safer S S2 :=
  ⟨k.seen.trans h.seen, k.safe.trans h.safe, k.chs.trans h.chs, k.stop.trans h.stop, fun i => (k.bytes i).trans (h.bytes i), k.len.trans h.len, fun i hi => k.clean i (h.clean i hi)⟩
theorem ask_ok {S : St} (hd : S.down = false) {d : ByteArray} {ns : List ByteArray} (hg : (d :: ns).all goodP = true) {F : Fol} (hF : aget S.seen d = some F) (t : Bool) : S.ask t (d :: ns) = 0 := by
  unfold St.ask
  rw [if_neg (by simp [hd]), if_neg (by simp [hg]), if_neg]
  rw [List.headD_cons, hF]
  simp
theorem sync_ok {S : St} (hd : S.down = false) {d n : ByteArray} {F : Fol} {i : Nat} (h1 : goodP d = true) (h2 : goodP n = true) (hF : aget S.seen d = some F) (hn : aget F n = some i) :
    (S.sync d n).2 = 0 ∧ Safer S (S.sync d n).1 ∧ ((S.sync d n).1.files.getD i ([], [])).2 = [] := by
  have hf : S.fnd d n = (some i, 0) := by
    unfold St.fnd
    rw [ask_ok hd (by simp [h1, h2]) hF, if_neg (by simp)]
    have : folOf S.seen d = F := by unfold folOf; rw [hF]; rfl
    rw [this, hn]
  have he : S.sync d n = ({ S with files := S.files.modify i (fun f => (Fil.all f, [])), wr := S.wr.filter (fun y => y != i), steps := S.steps + 1 }, 0) := by
    unfold St.sync
    rw [hf]
  rw [he]
  refine ⟨rfl, ⟨rfl, rfl, rfl, rfl, fun j => bytes_sync S i j _, by simp, fun j hj => ?_⟩, ?_⟩
  · simp only
    rw [getD_modify]
    split
    · rfl
    · exact hj
  · simp only
    rw [getD_modify]
    by_cases hl : i < S.files.length
    · rw [if_pos ⟨rfl, hl⟩]
    · rw [if_neg (fun h => hl h.2), List.getD_eq_getElem?_getD, List.getElem?_eq_none (by omega)]
      rfl
theorem setF_ok (g : Nat → List Int) {S : St} (hs : S.stop < 0) {d : ByteArray} {F : Fol} (h1 : goodP d = true) (hF : aget S.seen d = some F) (F' : Fol) (h2 : ∀ q ∈ F', goodP q.1 = true ∧ aget F q.1 = some q.2) :
    (setF d S (F'.map fun q => (q.1, g q.2))).2 = true ∧ Safer S (setF d S (F'.map fun q => (q.1, g q.2))).1 ∧ ∀ q ∈ F', ((setF d S (F'.map fun q => (q.1, g q.2))).1.files.getD q.2 ([], [])).2 = [] := by
  induction F' generalizing S with
  | nil => exact ⟨rfl, .refl S, by simp⟩
  | cons q r ih =>
    obtain ⟨k1, k2, k3⟩ := sync_ok (up_never hs) h1 (h2 q (List.mem_cons_self ..)).1 hF (h2 q (List.mem_cons_self ..)).2
    obtain ⟨m1, m2, m3⟩ := ih (S := (S.sync d q.1).1) (by rw [k2.stop]; exact hs) (by rw [k2.seen]; exact hF) (fun p hp => h2 p (List.mem_cons_of_mem _ hp))
    simp only [List.map_cons, setF]
    rw [if_pos k1]
    refine ⟨m1, k2.trans m2, fun p hp => ?_⟩
    rcases List.mem_cons.1 hp with rfl | hp
    · exact m2.clean _ k3
    · exact m3 p hp
theorem setD_ok (g : Nat → List Int) {S : St} (hs : S.stop < 0) {m : Nat} (hv : Val m S.seen) (T' : Tr) (hT : ∀ p ∈ T', p ∈ S.seen) :
    (setD S (T'.map fun p => (p.1, p.2.map fun q => (q.1, g q.2)))).2 = true ∧ Safer S (setD S (T'.map fun p => (p.1, p.2.map fun q => (q.1, g q.2)))).1 ∧
      ∀ p ∈ T', ∀ q ∈ p.2, ((setD S (T'.map fun p => (p.1, p.2.map fun q => (q.1, g q.2)))).1.files.getD q.2 ([], [])).2 = [] := by
  induction T' generalizing S with
  | nil => exact ⟨rfl, .refl S, by simp⟩
  | cons p r ih =>
    have hp := hT p (List.mem_cons_self ..)
    obtain ⟨k1, k2, k3⟩ := setF_ok g hs (hv.nm p hp) (aget_mem' hv.srt.nodup hp) p.2 (fun q hq => ⟨hv.nms p hp q hq, aget_mem' (hv.sub p hp).nodup hq⟩)
    obtain ⟨m1, m2, m3⟩ := ih (S := (setF p.1 S (p.2.map fun q => (q.1, g q.2))).1) (by rw [k2.stop]; exact hs) (by rw [k2.seen]; exact hv) (fun x hx => by rw [k2.seen]; exact hT x (List.mem_cons_of_mem _ hx))
    simp only [List.map_cons, setD]
    rw [if_pos k1]
    refine ⟨m1, k2.trans m2, fun x hx q hq => ?_⟩
    rcases List.mem_cons.1 hx with rfl | hx
    · exact m2.clean _ (k3 q hq)
    · exact m3 x hx q hq
theorem view_up {S : St} (h : S.down = false) : S.view = S.seen.map fun p => (p.1, p.2.map fun q => (q.1, S.bytes q.2)) := by unfold St.view; rw [if_neg (by simp [h])]
/-- all that is seen is safe -/
structure AllSafe (S : St) : Prop where
  stop : S.stop < 0
  safe : S.safe = S.seen
  chs : S.chs = []
  clean : ∀ p ∈ S.seen, ∀ q ∈ p.2, (S.files.getD q.2 ([], [])).2 = []
theorem settle_ok {B : Nat} {S : St} (hs : S.stop < 0) (hi : Inv B S) : (settleS S).2 = true ∧ AllSafe (settleS S).1 ∧ (settleS S).1.view = S.view := by
  obtain ⟨k1, k2, k3⟩ := setD_ok S.bytes hs hi.val S.seen (fun _ h => h)
  rw [← view_up (up_never hs)] at k1 k2 k3
  obtain ⟨S1, hS1⟩ : ∃ S1, (setD S S.view).1 = S1 := ⟨_, rfl⟩
  rw [hS1] at k2 k3
  have hs1 : S1.stop < 0 := by rw [k2.stop]; exact hs
  have hn : S1.names = ({ S1 with safe := S1.seen, chs := [], steps := S1.steps + 1 }, 0) := by
    unfold St.names
    rw [if_neg (by rw [up_never hs1]; simp)]
  have he : settleS S = ({ S1 with safe := S1.seen, chs := [], steps := S1.steps + 1 }, true) := by
    unfold settleS
    rw [if_pos k1, hS1, hn]
    rfl
  rw [he]
  refine ⟨rfl, ⟨hs1, rfl, rfl, fun p hp q hq => ?_⟩, ?_⟩
  · simp only at hp ⊢
    rw [k2.seen] at hp
    exact k3 p hp q hq
  · show St.view { S1 with safe := S1.seen, chs := [], steps := S1.steps + 1 } = S.view
    have h5 := view_up (S := { S1 with safe := S1.seen, chs := [], steps := S1.steps + 1 }) (up_never hs1)
    rw [h5, view_up (up_never hs)]
    simp only
    rw [k2.seen]
    apply List.map_congr_left
    intro p _
    congr 1
    apply List.map_congr_left
    intro q _
    exact congrArg _ (k2.bytes q.2)
theorem after_clean {S : St} {i : Nat} (h : (S.files.getD i ([], [])).2 = []) (ks : List Bool) : S.after ks i = S.bytes i := by
  unfold St.after St.bytes
  simp only
  unfold Fil.all
  rw [h, aft_nil]
  simp
theorem left_of {S : St} (ks : List Bool) (names : Int) {T : Tr} (hT : runC S.safe (S.chs.take names.toNat) = T) (hc : ∀ p ∈ T, ∀ q ∈ p.2, (S.files.getD q.2 ([], [])).2 = []) : S.left ks names = T.map fun p => (p.1, p.2.map fun q => (q.1, S.bytes q.2)) := by
  unfold St.left
  rw [hT]
  apply List.map_congr_left
  intro p hp
  congr 1
  apply List.map_congr_left
  intro q hq
  exact congrArg _ (after_clean (hc p hp q hq) ks)
theorem AllSafe.left {S : St} (h : AllSafe S) (ks : List Bool) (names : Int) : S.left ks names = S.view := by
  rw [view_up (up_never h.stop)]
  exact left_of ks names (by rw [h.chs, List.take_nil]; exact h.safe) h.clean
theorem Inv.settle {B : Nat} {S : St} (h : Inv B S) : Inv (B + cnt8 S.view + 1) (settleS S).1 := by
  unfold settleS
  split
  · exact (h.setD S.view).names
  · exact (h.setD S.view).mono (by omega)
theorem cnt8_view {B : Nat} {S : St} (h : Inv B S) : cnt8 S.view ≤ B := by
  have h1 := h.wd
  refine Nat.le_trans ?_ h1
  unfold St.view
  split
  · simp [cnt8]
  · unfold cnt8 wd
    rw [List.map_map]
    generalize S.seen = T
    induction T with
    | nil => simp
    | cons p r ih => simp only [List.map_cons, List.sum_cons, Function.comp, List.length_map] at ih ⊢; omega

/-- is the directory seen? -/
def thereB (D : Dsk) (a : ByteArray) : Bool := D.any fun d => decide (d.1 = a)
theorem thereB_snoc (D : Dsk) (d : ByteArray × List (ByteArray × List Int)) (a : ByteArray) : thereB (D ++ [d]) a = (thereB D a || decide (d.1 = a)) := by simp [thereB]
theorem str_beq (a b : ByteArray) : decide (a = b) = (a.toList == b.toList) := by
  rw [Bool.eq_iff_iff, decide_eq_true_eq, beq_iff_eq]
  refine ⟨fun h => by rw [h], fun h => ?_⟩
  rw [ByteArray.toList_eq, ByteArray.toList_eq] at h
  exact data_inj h
theorem thereB_view {S : St} (h : S.down = false) (a : ByteArray) : thereB S.view a = (aget S.seen a).isSome := by
  rw [Bool.eq_iff_iff, aget_isSome, view_up h]
  unfold thereB
  rw [List.any_map, List.any_eq_true]
  simp only [Function.comp, decide_eq_true_eq, List.mem_map]
theorem rename_no {B : Nat} {S : St} (h : AllSafe S) (hi : Inv B S) {a b : ByteArray} (hn : thereB S.view a = false ∨ goodP b = false) : (S.rename a b).2 ≠ 0 ∧ (S.rename a b).1 = S := by
  have hd := up_never h.stop
  rw [thereB_view hd] at hn
  have h0 : S.ask true [a, b] ≠ 0 := by
    unfold St.ask
    rw [if_neg (by simp [hd])]
    split
    · decide
    · rename_i hg
      split
      · decide
      · rename_i hh
        exfalso
        simp only [List.all_cons, List.all_nil, Bool.and_true, Bool.and_eq_false_iff, not_or, Bool.not_eq_false] at hg
        simp only [List.headD_cons, true_and] at hh
        rcases hn with hn | hn
        · apply hh
          cases hx : aget S.seen a with
          | none => rfl
          | some F => rw [hx] at hn; simp at hn
        · rw [hn] at hg; simp at hg
  unfold St.rename
  rw [if_pos h0]
  exact ⟨h0, rfl⟩
theorem rename_yes {B : Nat} {S : St} (h : AllSafe S) (hi : Inv B S) {a b : ByteArray} (ht : thereB S.view a = true) (hb : goodP b = true) :
    S.rename a b = (S.make (.rename a b), 0) ∧ (∀ ks (names : Int), names < 1 → (S.make (.rename a b)).left ks names = S.view) ∧ ∀ ks (names : Int), ¬ names < 1 → (S.make (.rename a b)).left ks names = (S.make (.rename a b)).view := by
  have hd := up_never h.stop
  rw [thereB_view hd] at ht
  obtain ⟨F, hF⟩ := Option.isSome_iff_exists.1 ht
  have hg := hi.val.nm _ (aget_mem hF)
  refine ⟨?_, fun ks names hn => ?_, fun ks names hn => ?_⟩
  · unfold St.rename
    rw [ask_ok hd (by simp [hg, hb]) hF, if_neg (by simp)]
  · rw [view_up hd]
    refine left_of ks names ?_ h.clean
    rw [show names.toNat = 0 by omega, List.take_zero]
    exact h.safe
  · rw [view_up (up_never (S := S.make (.rename a b)) h.stop)]
    refine left_of ks names ?_ (fun p hp q hq => ?_)
    · show runC S.safe ((S.chs ++ [_]).take _) = _
      rw [h.chs, h.safe, List.take_of_length_le (by simp; omega)]
      rfl
    · show (S.files.getD q.2 ([], [])).2 = []
      have h1 : p ∈ Chn.on S.seen (.rename a b) := hp
      simp only [Chn.on] at h1
      rcases mem_withS.1 h1 with rfl | h1
      · have hq' : q ∈ folOf S.seen a := hq
        unfold folOf at hq'
        rw [hF] at hq'
        exact h.clean _ (aget_mem hF) q hq'
      · exact h.clean p (mem_without.1 (mem_without.1 h1).1).1 q hq
end Go.Proofs.Ytgomofeidghmiaa

namespace Go.Proofs.Ytgomofeidghmiaa
open Go.RowKit

def fbytes (fs : List (ByteArray × List Int)) : Nat := (fs.map fun q => q.2.length).sum
theorem bytesOf_snoc (D : Dsk) (d : ByteArray × List (ByteArray × List Int)) : bytesOf (D ++ [d]) = bytesOf D + fbytes d.2 := by simp [bytesOf, fbytes]
theorem fbytes_snoc (fs : List (ByteArray × List Int)) (f : ByteArray × List Int) : fbytes (fs ++ [f]) = fbytes fs + f.2.length := by simp [fbytes]
theorem sum_take_le (l : List Nat) (i : Nat) : (l.take i).sum ≤ l.sum := by
  conv => rhs; rw [← List.take_append_drop i l, List.sum_append]
  omega
theorem fbytes_take_le (fs : List (ByteArray × List Int)) (i : Nat) : fbytes (fs.take i) ≤ fbytes fs := by
  unfold fbytes; rw [List.map_take]; exact sum_take_le _ _
theorem bytesOf_take_le (D : Dsk) (i : Nat) : bytesOf (D.take i) ≤ bytesOf D := by
  unfold bytesOf; rw [List.map_take]; exact sum_take_le _ _

set_option maxRecDepth 100000 in
set_option maxHeartbeats 3200000 in
theorem rbytes_any (A : Option Addr) (n c : Nat) (ds : List DM) (w : World) (h : DirsR w A n c ds) (hn : n ≤ 1073741824) (hfn : ∀ d ∈ ds, d.1.n ≤ 1073741824) (hb : bytesOf (dval8 ds) ≤ 1152921504606846976) :
    Calls Try.prog 29 #[.slice A n c] w fun e w' => e = .returned (.int .i64 (bytesOf (dval8 ds) : Int)) ∧ Chg [] w w' := by
  have hl : ds.length = n := by have := h.row.nsl; simpa [dnsl] using this
  have HR := Lib.hid h
  have HL := Lib.hid hl
  have HFN := Lib.hid hfn
  have HB := Lib.hid hb
  clear h hl hfn hb
  go_enter Try.func29, Try.ntmps29
  go_wp2
  go_loopw [3, 4, 5] (fun s q _ wr => ∃ i : Nat, i ≤ n ∧ q = .int .i64 i ∧ s = .int .i64 (bytesOf ((dval8 ds).take i) : Nat) ∧ Chg [] w wr) (fun _ q _ _ => n - (intOf q).toNat)
  case atStart => exact ⟨0, Nat.zero_le _, rfl, rfl, Chg.refl _ _⟩
  case round =>
    obtain ⟨i, hi, rfl, rfl, hch⟩ := hrel
    have HCH := Lib.hid hch
    clear hch
    obtain ⟨S0, hS0⟩ : ∃ S0, bytesOf ((dval8 ds).take i) = S0 := ⟨_, rfl⟩
    rw [hS0]
    have HS0 := Lib.hid hS0
    clear hS0
    by_cases hlt : i < n
    · have hlt' : (i : Int) < n := by omega
      obtain ⟨d, hd⟩ : ∃ d, ds[i]? = some d := ⟨_, List.getElem?_eq_getElem (by have := HL.out; omega)⟩
      obtain ⟨ad, rfl, hat⟩ := (HR.out.chg0 HCH.out).row.ns (j := i) (x := d.1) (by unfold dnsl; rw [List.getElem?_map, hd]; rfl)
      have hfr := HR.out.fil d (List.mem_of_getElem? hd)
      have HDV : Hid ((dval8 ds)[i]? = some (d.1.nm, fval8 d.2)) := Lib.hid (by unfold dval8; rw [List.getElem?_map, hd]; rfl)
      have hdn := HFN.out d (List.mem_of_getElem? hd)
      obtain ⟨⟨dnm, dA, dn, dc⟩, dfs⟩ := d
      have hfl : dfs.length = dn := by have := hfr.row.nsl; simpa [fnsl] using this
      have HFR := Lib.hid hfr
      have HFL := Lib.hid hfl
      have HXW : Hid (∀ w', Chg [] w w' → w'.cell? ⟨(ad.add (i * 2)).block, (ad.add (i * 2)).off + 1, none⟩ = some (.slice dA dn dc)) := Lib.hid (by
        obtain ⟨ad', ha', hat'⟩ := HR.out.row.ns (j := i) (x := ⟨dnm, dA, dn, dc⟩) (by unfold dnsl; rw [List.getElem?_map, hd]; rfl)
        injection ha' with ha'
        subst ha'
        exact fun w' hc => hc.cell hat'.c1 List.not_mem_nil)
      have x1 := HXW.out _ HCH.out
      simp only at hdn
      have HTOT : Hid (S0 + fbytes (fval8 dfs) ≤ 1152921504606846976) := Lib.hid (by
        have h1 := bytesOf_take_le (dval8 ds) (i + 1)
        rw [take_snoc _ _ _ HDV.out, bytesOf_snoc, HS0.out] at h1
        have h2 := HB.out
        simp only at h1
        omega)
      clear hd hat hfr hfl
      go_wp2
      go_loopw [3, 5] (fun s q wr => ∃ k : Nat, k ≤ dn ∧ q = .int .i64 k ∧ s = .int .i64 ((S0 + fbytes ((fval8 dfs).take k) : Nat) : Int) ∧ Chg [] w wr) (fun _ q _ => dn - (intOf q).toNat)
      case atStart => exact ⟨0, Nat.zero_le _, rfl, by simp [fbytes], HCH.out⟩
      case round =>
        obtain ⟨k, hk, rfl, rfl, hch⟩ := hrel
        have HC2 := Lib.hid hch
        obtain ⟨S1, hS1⟩ : ∃ S1, S0 + fbytes ((fval8 dfs).take k) = S1 := ⟨_, rfl⟩
        rw [hS1]
        have HS1 := Lib.hid hS1
        clear hS1 hch
        have x1 : wr.cell? ⟨(ad.add (i * 2)).block, (ad.add (i * 2)).off + 1, none⟩ = some (.slice dA dn dc) := HXW.out _ HC2.out
        by_cases hkl : k < dn
        · have hkl' : (k : Int) < dn := by omega
          obtain ⟨f, hf⟩ : ∃ f, dfs[k]? = some f := ⟨_, List.getElem?_eq_getElem (by have := HFL.out; omega)⟩
          obtain ⟨bd, hbd, hbt⟩ := (HFR.out.chg0 HC2.out).row.ns (j := k) (x := f.1) (by unfold fnsl; rw [List.getElem?_map, hf]; rfl)
          subst hbd
          have z1 := hbt.c1
          have HFV : Hid ((fval8 dfs)[k]? = some (f.1.nm, f.2)) := Lib.hid (by unfold fval8; rw [List.getElem?_map, hf]; rfl)
          have HFN2 : Hid (f.2.length = f.1.n) := Lib.hid (by have := ((HFR.out).dat f (List.mem_of_getElem? hf)).1; simp at this; omega)
          have hwr : wrap64 ((S1 : Int) + (f.1.n : Nat)) = ((S1 + f.1.n : Nat) : Int) := by
            have h1 := fbytes_take_le (fval8 dfs) (k + 1)
            rw [take_snoc _ _ _ HFV.out, fbytes_snoc] at h1
            have h2 := HTOT.out; have h3 := HS1.out; have h4 := HFN2.out
            simp only at h1
            unfold wrap64; omega
          have HWR := Lib.hid hwr
          clear hwr hf hbt
          go_wp2
          go_roundw
          case rel =>
            refine ⟨k + 1, by omega, by go_num, ?_, HC2.out⟩
            have e1 : S0 + fbytes ((fval8 dfs).take (k + 1)) = S1 + f.1.n := by
              rw [take_snoc _ _ _ HFV.out, fbytes_snoc, ← HFN2.out, ← HS1.out, Nat.add_assoc]
            rw [e1]
            exact congrArg (Value.int .i64) HWR.out
          case measure => simp [intOf]; omega
        · obtain rfl : k = dn := by omega
          go_wp2
          go_roundw
          case rel =>
            refine ⟨i + 1, by omega, by go_num, ?_, HC2.out⟩
            rw [take_snoc _ _ _ HDV.out, bytesOf_snoc, HS0.out, ← HS1.out, List.take_of_length_le (by unfold fval8; rw [List.length_map, HFL.out]; exact Nat.le_refl _)]
          case measure => simp [intOf]; omega
    · obtain rfl : i = n := by omega
      go_wp2
      go_ret
      refine ⟨?_, HCH.out⟩
      rw [← HS0.out, List.take_of_length_le (by unfold dval8; rw [List.length_map, HL.out]; exact Nat.le_refl _)]
      rfl
end Go.Proofs.Ytgomofeidghmiaa

namespace Go.Proofs.Ytgomofeidghmiaa
open Go.RowKit

/-- behind a script -/
def runO (S : St) (os : List O8) : St := os.foldl (fun S o => (callK S (kd o.kind) o.dir o.name o.dest o.data).1) S
theorem runO_snoc (S : St) (os : List O8) (o : O8) : runO S (os ++ [o]) = (callK (runO S os) (kd o.kind) o.dir o.name o.dest o.data).1 := by simp [runO]
def opsB (os : List O8) : Nat := (os.map fun o => o.data.length + 2).sum
theorem opsB_snoc (os : List O8) (o : O8) : opsB (os ++ [o]) = opsB os + (o.data.length + 2) := by simp [opsB]
theorem opsB_take (os : List O8) (i : Nat) : opsB (os.take i) ≤ opsB os := by
  have : (os.map fun o => o.data.length + 2).sum = ((os.take i).map fun o => o.data.length + 2).sum + ((os.drop i).map fun o => o.data.length + 2).sum := by
    rw [← List.sum_append, ← List.map_append, List.take_append_drop]
  unfold opsB
  omega
theorem Inv.runO {B : Nat} {S : St} (h : Inv B S) (os : List O8) : Inv (B + opsB os) (runO S os) := by
  induction os generalizing S B with
  | nil => exact h
  | cons o r ih =>
    have h1 := ih (h.callK (kd o.kind) o.dir o.name o.dest o.data)
    have h2 : opsB (o :: r) = o.data.length + 2 + opsB r := by simp [opsB]
    exact h1.mono (by omega)
theorem Room.runO {M : Int} {B : Nat} {S : St} (h : Room M S) (hi : Inv B S) (os : List O8) : Room M (runO S os) := by
  induction os generalizing S B with
  | nil => exact h
  | cons o r ih => exact ih (h.callK hi (kd o.kind) o.dir o.name o.dest o.data) (hi.callK (kd o.kind) o.dir o.name o.dest o.data)
theorem runO_stop (S : St) (os : List O8) : (runO S os).stop = S.stop := by
  induction os generalizing S with
  | nil => rfl
  | cons o r ih => exact (ih _).trans (callK_step S (kd_eq o.kind).2 o.dir o.name o.dest o.data).1
theorem runO_steps (S : St) (os : List O8) : (runO S os).steps ≤ S.steps + os.length := by
  induction os generalizing S with
  | nil => exact Nat.le_refl _
  | cons o r ih =>
    have h1 := ih (callK S (kd o.kind) o.dir o.name o.dest o.data).1
    have h2 := (callK_step S (kd_eq o.kind).2 o.dir o.name o.dest o.data).2.2
    have h3 : (callK S (kd o.kind) o.dir o.name o.dest o.data).1.steps ≤ S.steps + 1 := by rw [h2]; split <;> omega
    simp only [List.length_cons]
    have h4 : runO S (o :: r) = runO (callK S (kd o.kind) o.dir o.name o.dest o.data).1 r := rfl
    rw [h4]
    omega

/-- a call stands at p -/
structure OpAt (w : World) (p : Addr) (o : O8) : Prop where
  c0 : w.cell? p = some (.int .i64 o.kind)
  c1 : w.cell? ⟨p.block, p.off + 1, none⟩ = some (.string o.dir)
  c2 : w.cell? ⟨p.block, p.off + 2, none⟩ = some (.string o.name)
  c3 : w.cell? ⟨p.block, p.off + 3, none⟩ = some (.string o.dest)
  c4 : w.cell? ⟨p.block, p.off + 4, none⟩ = some (.slice o.A o.n o.c)
theorem OpAt.chg {w w' : World} {p : Addr} {o : O8} {L : List Nat} (h : OpAt w p o) (hc : Chg L w w') (hn : p.block ∉ L) : OpAt w' p o :=
  ⟨hc.cell h.c0 hn, hc.cell h.c1 hn, hc.cell h.c2 hn, hc.cell h.c3 hn, hc.cell h.c4 hn⟩
theorem Scr8.at_ {w : World} {A : Option Addr} {n : Nat} {os : List O8} (h : Scr8 w A n os) {i : Nat} {o : O8} (ho : os[i]? = some o) :
    ∃ ad, A = some ad ∧ OpAt w (ad.add (i * 5)) o ∧ Rd w 1 o.A o.n o.c (bv o.data) := by
  obtain ⟨ad, e, h0, h1, h2, h3, h4, hr⟩ := h.2 i o ho
  refine ⟨ad, e, ⟨h0, ?_, ?_, ?_, ?_⟩, hr⟩
  · rw [add_field ad (i * 5) 0] at h1; exact h1
  · rw [add_field ad (i * 5) 1] at h2; exact h2
  · rw [add_field ad (i * 5) 2] at h3; exact h3
  · rw [add_field ad (i * 5) 3] at h4; exact h4
theorem Rd.blen {w : World} {A : Option Addr} {n c : Nat} {xs : List Int} (h : Rd w 1 A n c (bv xs)) : xs.length = n := by have := h.1; simpa using this

/-- how many names a disk has -/
def siz (D : Dsk) : Nat := (D.map fun d => d.2.length + 1).sum
theorem siz_map (T : Tr) (g : Nat → List Int) : siz (T.map fun p => (p.1, p.2.map fun q => (q.1, g q.2))) = wd T := by
  unfold siz wd
  rw [List.map_map]
  congr 1
  apply List.map_congr_left
  intro p _
  simp
theorem siz_view {B : Nat} {S : St} (h : Inv B S) : siz S.view ≤ B := by
  unfold St.view
  split
  · exact Nat.zero_le _
  · rw [siz_map]; exact h.wd
theorem siz_left {B : Nat} {S : St} (h : Inv B S) (ks : List Bool) (names : Int) : siz (S.left ks names) ≤ B := by
  unfold St.left
  rw [siz_map]
  have h1 := wd_run (okC_take h.chs names.toNat)
  have h2 := h.wds
  have h3 : (S.chs.take names.toNat).length ≤ S.chs.length := by rw [List.length_take]; omega
  omega
theorem bytes_view {B : Nat} {S : St} (h : Inv B S) (hB : B ≤ 1073741824) : bytesOf S.view ≤ 1152921504606846976 := Nat.le_trans (used_le h) (Nat.mul_le_mul hB hB)
theorem siz_mem {D : Dsk} {d : ByteArray × List (ByteArray × List Int)} (h : d ∈ D) : d.2.length + D.length ≤ siz D := by
  unfold siz
  induction D with
  | nil => simp at h
  | cons q r ih =>
    simp only [List.map_cons, List.sum_cons, List.length_cons]
    have hl : r.length ≤ (r.map fun d => d.2.length + 1).sum := by
      clear ih h
      induction r with
      | nil => simp
      | cons z l ih => simp only [List.length_cons, List.map_cons, List.sum_cons]; omega
    rcases List.mem_cons.1 h with rfl | h
    · omega
    · have := ih h; omega
theorem siz_len (D : Dsk) : D.length ≤ siz D := by
  cases D with
  | nil => simp
  | cons d r => have := siz_mem (D := d :: r) (List.mem_cons_self ..); omega
theorem DirsR.bnd {w : World} {A : Option Addr} {n c : Nat} {ds : List DM} (h : DirsR w A n c ds) {B : Nat} (hB : siz (dval8 ds) ≤ B) : n ≤ B ∧ ∀ d ∈ ds, d.1.n ≤ B := by
  have h1 : (dval8 ds).length = n := by have := h.row.nsl; simpa [dval8, dnsl] using this
  refine ⟨by have := siz_len (dval8 ds); omega, fun d hd => ?_⟩
  have h2 : (d.1.nm, fval8 d.2) ∈ dval8 ds := List.mem_map.2 ⟨d, hd, rfl⟩
  have h3 := siz_mem h2
  have h4 : (fval8 d.2).length = d.1.n := by have := (h.fil d hd).row.nsl; simpa [fval8, fnsl] using this
  simp only at h3
  omega
/-- a disk's parts are no greater than it -/
theorem bulk8_bnd {w : World} {A : Option Addr} {n c : Nat} {ds : List DM} (h : DirsR w A n c ds) {B : Nat} (hB : bulk8 (dval8 ds) ≤ B) : n ≤ B ∧ bytesOf (dval8 ds) ≤ B ∧ siz (dval8 ds) ≤ B ∧ ∀ x ∈ ds, x.1.n ≤ B ∧ ∀ f ∈ x.2, f.1.n ≤ B := by
  have hs : ∀ l : List (ByteArray × List Int), (l.map fun x => x.2.length + 1).sum = (l.map fun x => x.2.length).sum + l.length := by
    intro l
    induction l with
    | nil => rfl
    | cons x r ih => simp only [List.map_cons, List.sum_cons, List.length_cons, ih]; omega
  have he : ∀ D : Dsk, bulk8 D = bytesOf D + siz D := by
    intro D
    unfold bulk8 bytesOf siz
    induction D with
    | nil => rfl
    | cons x r ih => simp only [List.map_cons, List.sum_cons, hs] at ih ⊢; omega
  have h0 := he (dval8 ds)
  have h1 := h.bnd (B := B) (by omega)
  refine ⟨h1.1, by omega, by omega, fun x hx => ⟨h1.2 x hx, fun f hf => ?_⟩⟩
  have h2 : (x.1.nm, fval8 x.2) ∈ dval8 ds := List.mem_map.2 ⟨x, hx, rfl⟩
  have h3 : (f.1.nm, f.2) ∈ fval8 x.2 := List.mem_map.2 ⟨f, hf, rfl⟩
  have hm : ∀ (l : List (ByteArray × List Int)) y, y ∈ l → y.2.length ≤ (l.map fun x => x.2.length).sum := by
    intro l
    induction l with
    | nil => simp
    | cons z r ih =>
      intro y hy
      simp only [List.map_cons, List.sum_cons]
      rcases List.mem_cons.1 hy with rfl | hy
      · omega
      · have := ih y hy; omega
  have hM : ∀ (D : Dsk) d, d ∈ D → (d.2.map fun x => x.2.length).sum ≤ bytesOf D := by
    unfold bytesOf
    intro D
    induction D with
    | nil => simp
    | cons z r ih =>
      intro y hy
      simp only [List.map_cons, List.sum_cons]
      rcases List.mem_cons.1 hy with rfl | hy
      · omega
      · have := ih y hy; omega
  have h4 := hm _ _ h3
  have h5 := hM _ _ h2
  have h6 := ((h.fil x hx).dat f hf).blen
  simp only at h4 h5
  omega
/-- opened: behind w0 -/
theorem FsAt.opened {w0 w w' : World} {G : FsG} {S : St} (h : FsM w' G S) (hn : ∀ x ∈ G.all, w.heap.size ≤ x) (h0 : Chg [] w0 w) (hc : Chg [] w w') : FsAt w0 w' G.b S :=
  ⟨G, h, rfl, fun x hx => Nat.le_trans h0.size (hn x hx), h0.trans0 hc⟩
theorem FsAt.settle {w0 w : World} {p : Nat} {S : St} {B : Nat} (h : FsAt w0 w p S) (hi : Inv B S) (hB : B + cnt8 S.view + 1 ≤ 1073741824) :
    Calls Try.prog 27 #[.pointer (some ⟨p, 0, none⟩)] w fun e w' => e = .returned (.bool (settleS S).2) ∧ FsAt w0 w' p (settleS S).1 := by
  obtain ⟨G, hF, rfl, hn, hc⟩ := h
  exact (settle_any hF hi hB).mono fun e w' ⟨h1, h2⟩ => ⟨h1, .to hn hc h2⟩
theorem FsAt.rename {w0 w : World} {p : Nat} {S : St} {B : Nat} (h : FsAt w0 w p S) (hi : Inv B S) (hB : B ≤ 1073741824) (a b : ByteArray) :
    Calls Try.prog 28 #[.pointer (some ⟨p, 0, none⟩), .string a, .string b] w fun e w' => e = .returned (.int .i64 (S.rename a b).2) ∧ FsAt w0 w' p (S.rename a b).1 := by
  obtain ⟨G, hF, rfl, hn, hc⟩ := h
  exact (rename_st hF hi hB a b).mono fun e w' ⟨h1, h2⟩ => ⟨h1, .to hn hc h2⟩
theorem FsAt.down {w0 w : World} {p : Nat} {S : St} (h : FsAt w0 w p S) : Calls Try.prog 23 #[.pointer (some ⟨p, 0, none⟩)] w fun e w' => e = .returned (.bool S.down) ∧ Chg [] w w' := by
  obtain ⟨G, hF, rfl, hn, hc⟩ := h
  exact down_st hF
/-! behind a world w, at a file system that lay at G there -/
section
variable {w w1 : World} {p : Nat} {G : FsG} {S S1 : St} {B : Nat}
theorem FsTo.of_view (h : FsM w G S) (hb : G.b = p) (hi : Inv B S) (hB : B ≤ 1073741824) : Calls Try.prog 17 #[.pointer (some ⟨p, 0, none⟩)] w fun e w' => NewDsk w S.view e w' ∧ FsTo w' G S w' ∧ Chg [] w w' := by
  subst hb
  refine (view_st h hi hB).mono fun e w' hn => ?_
  obtain ⟨A, n, c, ds, h1, h2, h3, h4, h5⟩ := id hn
  exact ⟨hn, .same (h.keep0 h4) (Chg.refl _ _), h4⟩
theorem FsTo.of_durable (h : FsM w G S) (hb : G.b = p) (hi : Inv B S) (hB : B ≤ 1073741824) {K : Option Addr} {kn kc : Nat} {ks : List Bool} (names : Int) (hK : Rd w 1 K kn kc (kv ks)) (hkn : kn ≤ 1073741824) :
    Calls Try.prog 19 #[.pointer (some ⟨p, 0, none⟩), .agg #[.slice K kn kc, .int .i64 names]] w fun e w' => NewDsk w (S.left ks names) e w' ∧ FsTo w' G S w' ∧ Chg [] w w' := by
  subst hb
  refine (durable_st h hi hB K kn kc ks names hK hkn).mono fun e w' hn => ?_
  obtain ⟨A, n, c, ds, h1, h2, h3, h4, h5⟩ := id hn
  exact ⟨hn, .same (h.keep0 h4) (Chg.refl _ _), h4⟩
theorem FsTo.view (h : FsTo w G S1 w1) (hb : G.b = p) (hi : Inv B S1) (hB : B ≤ 1073741824) : Calls Try.prog 17 #[.pointer (some ⟨p, 0, none⟩)] w1 (NewDsk w1 S1.view) := by
  obtain ⟨G', h1, h2, h3, h4⟩ := h
  subst hb
  rw [← h2]
  exact view_st h1 hi hB
theorem FsTo.durable (h : FsTo w G S1 w1) (hb : G.b = p) (hi : Inv B S1) (hB : B ≤ 1073741824) {K : Option Addr} {kn kc : Nat} {ks : List Bool} (names : Int) (hK : Rd w1 1 K kn kc (kv ks)) (hkn : kn ≤ 1073741824) :
    Calls Try.prog 19 #[.pointer (some ⟨p, 0, none⟩), .agg #[.slice K kn kc, .int .i64 names]] w1 (NewDsk w1 (S1.left ks names)) := by
  obtain ⟨G', h1, h2, h3, h4⟩ := h
  subst hb
  rw [← h2]
  exact durable_st h1 hi hB K kn kc ks names hK hkn
theorem FsTo.settle (h : FsTo w G S1 w1) (hb : G.b = p) (hi : Inv B S1) (hB : B + cnt8 S1.view + 1 ≤ 1073741824) :
    Calls Try.prog 27 #[.pointer (some ⟨p, 0, none⟩)] w1 fun e w' => e = .returned (.bool (settleS S1).2) ∧ FsTo w G (settleS S1).1 w' := by
  obtain ⟨G', h1, h2, h3, h4⟩ := h
  subst hb
  rw [← h2]
  exact (settle_any h1 hi hB).mono fun e w' ⟨a, b⟩ => ⟨a, .trans h3 h2 h4 b⟩
theorem FsTo.rename (h : FsTo w G S1 w1) (hb : G.b = p) (hi : Inv B S1) (hB : B ≤ 1073741824) (a b : ByteArray) :
    Calls Try.prog 28 #[.pointer (some ⟨p, 0, none⟩), .string a, .string b] w1 fun e w' => e = .returned (.int .i64 (S1.rename a b).2) ∧ FsTo w G (S1.rename a b).1 w' := by
  obtain ⟨G', h1, h2, h3, h4⟩ := h
  subst hb
  rw [← h2]
  exact (rename_st h1 hi hB a b).mono fun e w' ⟨a, b⟩ => ⟨a, .trans h3 h2 h4 b⟩
theorem FsTo.steps (h : FsTo w G S1 w1) (hb : G.b = p) : Calls Try.prog 22 #[.pointer (some ⟨p, 0, none⟩)] w1 fun e w' => e = .returned (.int .i64 (S1.steps : Int)) ∧ w' = w1 := by
  obtain ⟨G', h1, h2, h3, h4⟩ := h
  subst hb
  rw [← h2]
  exact steps_any G'.b S1.steps w1 (by simpa using h1.blk.cell 6)
theorem FsTo.call (h : FsTo w G S1 w1) (hb : G.b = p) (hi : Inv B S1) (o : O8) (hd : Rd w1 1 o.A o.n o.c (bv o.data)) (hB : B + o.n + 1 ≤ 1073741824) (hdis : 0 < o.n → ∀ x ∈ bo o.A, x ∉ G.all ∧ x < w.heap.size) :
    Calls Try.prog 26 #[.pointer (some ⟨p, 0, none⟩), .agg #[.int .i64 o.kind, .string o.dir, .string o.name, .string o.dest, .slice o.A o.n o.c]] w1 fun e w' =>
      ∃ dA dn dc nA nn nc, e = .returned (.agg #[.int .i64 (callK S1 (kd o.kind) o.dir o.name o.dest o.data).2.1, .slice dA dn dc, .slice nA nn nc]) ∧
        Own w' 5 1 dA dn dc (bv (callK S1 (kd o.kind) o.dir o.name o.dest o.data).2.2.1) ∧ Own w' 9 1 nA nn nc (svs (callK S1 (kd o.kind) o.dir o.name o.dest o.data).2.2.2) ∧
        (∀ k ∈ bo dA ++ bo nA, w1.heap.size ≤ k) ∧ FsTo w G (callK S1 (kd o.kind) o.dir o.name o.dest o.data).1 w' := by
  obtain ⟨G', h1, h2, h3, h4⟩ := h
  subst hb
  rw [← h2]
  refine (lawcall_any h1 hi o hd hB (fun h0 x hx hm => by
    obtain ⟨k1, k2⟩ := hdis h0 x hx
    rcases h3 x hm with h | h
    · exact k1 h
    · omega)).mono ?_
  rintro e w' ⟨dA, dn, dc, nA, nn, nc, he, h5, h6, h7, G2, h8, h9, h10, _, h11⟩
  exact ⟨dA, dn, dc, nA, nn, nc, he, h5, h6, h7, .trans h3 h2 h4 ⟨G2, h8, h9, h10, h11⟩⟩
end
end Go.Proofs.Ytgomofeidghmiaa

namespace Go.Proofs.Ytgomofeidghmiaa
open Go.RowKit Go.ChangeShapes Go.WideShapes Go.Deep Go.Joins

set_option maxRecDepth 100000 in
theorem fate_cells {H : Type} {enc : TypeId × Value → H} {W : World} {sp : Nat → Bool} {held : Bool} {n : Nat} {c0 c1 : Value} {y : DataW H × List MemPlace}
    (h : DataW.trod enc Try.prog W 0 sp held n 46 [c0, c1] = some y) :
    ∃ K kn kc, ∃ ks : List Bool, ∃ names : Int, c0 = .slice K kn kc ∧ c1 = .int .i64 names ∧ Rd W 1 K kn kc (kv ks) ∧ ks.length = kn ∧ kn + 1 ≤ Rows.uptoBulk y.1 := by
  obtain ⟨y0, y1, m, hx, hl, h0, h1⟩ := trod_struct2 Try.underlying46 h
  subst hx
  have e0 : Try.prog.cellsOf 44 = 1 := by kernel_rfl
  have e1 : Try.prog.cellsOf 3 = 1 := by kernel_rfl
  simp only [e0, e1, List.drop_zero, List.take_succ_cons, List.take_zero, List.drop_succ_cons] at h0 h1
  obtain ⟨a, l, c, hc⟩ := slice_form Try.underlying44 h0
  simp only [List.cons.injEq, and_true] at hc
  subst hc
  obtain ⟨A2, n2, cc2, ks, hk1, hk2, hk3, hk4⟩ := opn_bools Try.underlying44 Try.underlying4 (by kernel_rfl) ⟨_, _, _, rfl⟩ ⟨m, by simpa [Value.cells] using h0⟩
  injection hk1 with i1 i2 i3
  subst i1; subst i2; subst i3
  obtain ⟨q, hq, _, _⟩ := DataW.trod_int Try.underlying3 h1
  simp only [List.cons.injEq, and_true] at hq
  subst hq
  refine ⟨_, _, _, ks, q, rfl, rfl, hk2, hk3, ?_⟩
  simp only [Rows.uptoBulk, Rows.uptoBulkAll]
  omega
set_option maxRecDepth 100000 in
theorem opn_fate {H : Type} {enc : TypeId × Value → H} {W : World} {b : Nat} {r : Reach} {sp : Nat → Bool} {held : Bool} {v : Value} {d : DataW H} {p : List MemPlace}
    (hv : Value.okWide Try.prog W r b 46 v) (h : DataW.Trod enc Try.prog W 0 sp held 46 v d p) :
    ∃ K kn kc, ∃ ks : List Bool, ∃ names : Int, v = .agg #[.slice K kn kc, .int .i64 names] ∧ Rd W 1 K kn kc (kv ks) ∧ ks.length = kn ∧ kn + 1 ≤ Rows.uptoBulk d := by
  obtain ⟨cs, rfl, hsz⟩ := okWide_struct Try.underlying46 hv
  obtain ⟨c0, c1, rfl⟩ := array2 (hsz.trans (by kernel_rfl))
  obtain ⟨fuel, hf⟩ := h
  obtain ⟨K, kn, kc, ks, names, rfl, rfl, h1, h2, h3⟩ := fate_cells (y := (d, p)) (by simpa [Value.cells] using hf)
  exact ⟨K, kn, kc, ks, names, rfl, h1, h2, h3⟩
set_option maxRecDepth 100000 in
theorem opn_move {H : Type} {enc : TypeId × Value → H} {W : World} {b : Nat} {r : Reach} {sp : Nat → Bool} {held : Bool} {v : Value} {d : DataW H} {p : List MemPlace}
    (hv : Value.okWide Try.prog W r b 61 v) (h : DataW.Trod enc Try.prog W 0 sp held 61 v d p) :
    ∃ from_ to_ : ByteArray, ∃ K kn kc, ∃ ks : List Bool, ∃ names : Int, v = .agg #[.string from_, .string to_, .slice K kn kc, .int .i64 names] ∧ Rd W 1 K kn kc (kv ks) ∧ ks.length = kn ∧ kn + 1 ≤ Rows.uptoBulk d := by
  obtain ⟨cs, rfl, hsz⟩ := okWide_struct Try.underlying61 hv
  obtain ⟨c0, c1, c2, c3, rfl⟩ := array4 (hsz.trans (by kernel_rfl))
  obtain ⟨fuel, hf⟩ := h
  obtain ⟨y0, y1, y2, m, hx, hl, h0, h1, h2⟩ := Go.Deep.trod_struct3 (f0 := _) (f1 := _) (f2 := _) Try.underlying61 (cs := [c0, c1, c2, c3]) (by simpa [Value.cells] using hf)
  have e0 : Try.prog.cellsOf 9 = 1 := by kernel_rfl
  have e1 : Try.prog.cellsOf 46 = 2 := by kernel_rfl
  simp only [e0, e1, List.drop_zero, List.take_succ_cons, List.take_zero, List.drop_succ_cons] at h0 h1 h2
  obtain ⟨s0, hs0, _⟩ := DataW.trod_string Try.underlying9 h0
  obtain ⟨s1, hs1, _⟩ := DataW.trod_string Try.underlying9 h1
  simp only [List.cons.injEq, and_true] at hs0 hs1
  subst hs0; subst hs1
  obtain ⟨K, kn, kc, ks, names, rfl, rfl, k1, k2, k3⟩ := fate_cells (y := y2) h2
  simp only [Prod.mk.injEq] at hx
  obtain ⟨rfl, _⟩ := hx
  refine ⟨s0, s1, K, kn, kc, ks, names, rfl, k1, k2, ?_⟩
  simp only [Rows.uptoBulk, Rows.uptoBulkAll]
  omega
/-- a script's bound -/
theorem scr_bnd {w : World} {A : Option Addr} {n : Nat} {os : List O8} (h : Scr8 w A n os) {B : Nat} (hB : (os.map fun o => o.n + 1).sum ≤ B) : opsB os ≤ 2 * B ∧ n ≤ B := by
  have h1 : opsB os = (os.map fun o => o.n + 2).sum := by
    unfold opsB
    congr 1
    apply List.map_congr_left
    intro o ho
    obtain ⟨i, hi⟩ := List.getElem?_of_mem ho
    obtain ⟨a, _, _, hr⟩ := h.at_ hi
    rw [hr.blen]
  have h2 : ∀ l : List O8, (l.map fun o => o.n + 2).sum ≤ 2 * (l.map fun o => o.n + 1).sum ∧ l.length ≤ (l.map fun o => o.n + 1).sum := by
    intro l
    induction l with
    | nil => simp
    | cons x r ih => simp only [List.map_cons, List.sum_cons, List.length_cons]; omega
  have h3 := h2 os
  have h4 := h.1
  omega
theorem q_le {q : Int} (h : (Lit.int .i64 q).wf = true) : q ≤ 9223372036854775807 := by
  simp only [Lit.wf, Bool.and_eq_true, decide_eq_true_eq] at h
  have h2 : IntKind.max .i64 = 9223372036854775807 := by decide
  rw [h2] at h
  omega
end Go.Proofs.Ytgomofeidghmiaa
