/-
  Layer 08, plain: each call keeps what holds of every state.
  Layer 08: speaks: a run that the document fixes.
-/
import Derived.Test.YtgomofeidghmiaaGreatVfO
import Derived.Test.YtgomofeidghmiaaGreatVfX
import Derived.Test.YtgomofeidghmiaaGreatVfOp
import Derived.Test.YtgomofeidghmiaaGreatVfJb
namespace Go.Proofs.YtgomofeidghmiaaGreat
open Go.RowKit

theorem Inv.make {B : Nat} {S : St} (h : Inv B S) {c : Chn} (hc : c.ok S.files.length S.seen) : Inv (B + 1) (S.make c) := by
  obtain ⟨h1, h2, h3, h4, h5, h6, h7, h8, h9, h10⟩ := h
  refine ⟨h1, ?_, ?_, h4, ?_, ?_, ?_, ?_, ?_, h10⟩
  · exact okC_snoc.2 ⟨h2, by show Chn.ok S.files.length (runC S.safe S.chs) c; rw [h3]; exact hc⟩
  · show runC S.safe (S.chs ++ [c]) = c.on S.seen
    rw [runC_snoc, h3]
  all_goals (simp only [St.make, List.length_append, List.length_cons, List.length_nil]; omega)
theorem Inv.step {B : Nat} {S : St} (h : Inv B S) : Inv (B + 1) { S with steps := S.steps + 1 } := by
  obtain ⟨h1, h2, h3, h4, h5, h6, h7, h8, h9, h10⟩ := h
  exact ⟨h1, h2, h3, h4, by simp only; omega, by simp only; omega, by simp only; omega, by simp only; omega, by simp only; omega, h10⟩
theorem Inv.mkdir {B : Nat} {S : St} (h : Inv B S) (d : ByteArray) : Inv (B + 1) (S.mkdir d).1 := by
  unfold St.mkdir
  by_cases h0 : S.ask false [d] = 0
  · rw [if_neg (by simp [h0])]
    by_cases h1 : (aget S.seen d).isSome = true
    · rw [if_pos h1]; exact h.mono (by omega)
    · rw [if_neg h1]
      refine h.make ⟨(ask_good h0).2.1 d (by simp), ?_⟩
      cases hg : aget S.seen d with
      | none => rfl
      | some F => rw [hg] at h1; simp at h1
  · rw [if_pos h0]; exact h.mono (by omega)
theorem Inv.create {B : Nat} {S : St} (h : Inv B S) (d n : ByteArray) : Inv (B + 2) (S.create d n).1 := by
  unfold St.create
  by_cases h0 : S.ask true [d, n] = 0
  · rw [if_neg (by simp [h0])]
    by_cases h1 : (aget (folOf S.seen d) n).isSome = true
    · rw [if_pos h1]; exact h.mono (by omega)
    · rw [if_neg h1]
      obtain ⟨F, hF⟩ := (ask_good h0).2.2 rfl
      simp only [List.headD_cons] at hF
      have := (h.addFile []).make (c := .create d n S.files.length) ⟨by simp, (ask_good h0).2.1 n (by simp), F, hF, by
        rw [fol_some hF] at h1
        cases hg : aget F n with
        | none => rfl
        | some i => rw [hg] at h1; simp at h1⟩
      exact this.mono (by simp)
  · rw [if_pos h0]; exact h.mono (by omega)
theorem filesBulk_modify (fs : List Fil) (x : Nat) (φ : Fil → Fil) (k : Nat) (hφ : ∀ f, (φ f).all.length + (φ f).2.length ≤ f.all.length + f.2.length + k) : filesBulk (fs.modify x φ) ≤ filesBulk fs + k := by
  unfold filesBulk
  induction fs generalizing x with
  | nil => simp
  | cons f r ih =>
    cases x with
    | zero => simp only [List.modify_zero_cons, List.map_cons, List.sum_cons]; have := hφ f; omega
    | succ x => simp only [List.modify_succ_cons, List.map_cons, List.sum_cons]; have := ih x; omega
theorem Inv.modify {B k : Nat} {S : St} (h : Inv B S) (x : Nat) (φ : Fil → Fil) (wr' : List Nat) (hφ : ∀ f, (φ f).all.length + (φ f).2.length ≤ f.all.length + f.2.length + k) (hw : ∀ y ∈ wr', y < S.files.length) (hl : wr'.length ≤ S.wr.length + 1) : Inv (B + k + 1) { S with files := S.files.modify x φ, wr := wr', steps := S.steps + 1 } := by
  obtain ⟨h1, h2, h3, h4, h5, h6, h7, h8, h9, h10⟩ := h
  have hb := filesBulk_modify S.files x φ k hφ
  refine ⟨by simpa using h1, by simpa using h2, h3, by simpa using hw, by simp only; omega, by simp only [List.length_modify]; omega, by simp only; omega, by simp only; omega, by simp only; omega, h10⟩
theorem Inv.write {B : Nat} {S : St} (h : Inv B S) (d n : ByteArray) (xs : List Int) : Inv (B + xs.length + 2) (S.write d n xs).1 := by
  unfold St.write
  cases hf : S.fnd d n with
  | mk o e =>
    cases o with
    | none => exact h.mono (by omega)
    | some x =>
      simp only
      by_cases hx : xs = []
      · rw [if_pos hx]; exact h.step.mono (by omega)
      · rw [if_neg hx]
        by_cases hq : S.quota < (S.used : Int) + xs.length
        · rw [if_pos hq]; exact h.mono (by omega)
        · rw [if_neg hq]
          have := h.modify (k := xs.length + 1) x (fun f => (f.1, f.2 ++ [xs])) (S.wr ++ [x]) (fun f => by simp [Fil.all]; omega) (fun y hy => by
            rcases List.mem_append.1 hy with hy | hy
            · exact h.wr y hy
            · simp only [List.mem_singleton] at hy; subst hy; exact fnd_lt h hf) (by simp)
          exact this.mono (by omega)
theorem Inv.sync {B : Nat} {S : St} (h : Inv B S) (d n : ByteArray) : Inv (B + 1) (S.sync d n).1 := by
  unfold St.sync
  cases hf : S.fnd d n with
  | mk o e =>
    cases o with
    | none => exact h.mono (by omega)
    | some x =>
      exact h.modify (k := 0) x (fun f => (Fil.all f, [])) (S.wr.filter (fun y => y != x)) (fun f => by simp [Fil.all]) (fun y hy => h.wr y (List.mem_filter.1 hy).1) (Nat.le_trans (List.length_filter_le _ _) (by omega))
theorem Inv.names {B : Nat} {S : St} (h : Inv B S) : Inv (B + 1) S.names.1 := by
  unfold St.names
  by_cases hd : S.down = true
  · rw [if_pos hd]; exact h.mono (by omega)
  · rw [if_neg hd]
    have hv := h.val
    have hw := h.wd
    obtain ⟨h1, h2, h3, h4, h5, h6, h7, h8, h9, h10⟩ := h
    exact ⟨hv, trivial, rfl, h4, by simp only [List.length_nil]; omega, by simp only; omega, by simp only; omega, by simp only; omega, by simp only; omega, h10⟩
theorem Inv.rename {B : Nat} {S : St} (h : Inv B S) (a b : ByteArray) : Inv (B + 1) (S.rename a b).1 := by
  unfold St.rename
  by_cases h0 : S.ask true [a, b] = 0
  · rw [if_neg (by simp [h0])]
    obtain ⟨F, hF⟩ := (ask_good h0).2.2 rfl
    simp only [List.headD_cons] at hF
    exact h.make ⟨(ask_good h0).2.1 b (by simp), F, hF⟩
  · rw [if_pos h0]; exact h.mono (by omega)
theorem Inv.remove {B : Nat} {S : St} (h : Inv B S) (d n : ByteArray) : Inv (B + 1) (S.remove d n).1 := by
  unfold St.remove
  cases hf : S.fnd d n with
  | mk o e =>
    cases o with
    | none => exact h.mono (by omega)
    | some x =>
      obtain ⟨_, _, F, hF, _⟩ := fnd_good hf
      exact h.make ⟨F, hF⟩
theorem Inv.rmdir {B : Nat} {S : St} (h : Inv B S) (d : ByteArray) : Inv (B + 1) (S.rmdir d).1 := by
  unfold St.rmdir
  by_cases h0 : S.ask true [d] = 0
  · rw [if_neg (by simp [h0])]
    obtain ⟨F, hF⟩ := (ask_good h0).2.2 rfl
    simp only [List.headD_cons] at hF
    by_cases h1 : (folOf S.seen d).length > 0
    · rw [if_pos h1]; exact h.mono (by omega)
    · rw [if_neg h1]; exact h.make ⟨F, hF⟩
  · rw [if_pos h0]; exact h.mono (by omega)
end Go.Proofs.YtgomofeidghmiaaGreat

namespace Go.Proofs.YtgomofeidghmiaaGreat
open Go.RowKit

def sA : ByteArray := { data := #[97] }
def sX : ByteArray := { data := #[120] }
def z0 : St := openS [] 9 (-1)
def z1 : St := (z0.mkdir sA).1
def z2 : St := (z1.create sA sX).1
def z3 : St := (z2.write sA sX [1, 2]).1
def z4 : St := (z3.sync sA sX).1
theorem z_open : openE [] 9 = 0 := by kernel_rfl
theorem z1c : (z0.mkdir sA).2 = 0 := by kernel_rfl
theorem z2c : (z1.create sA sX).2 = 0 := by kernel_rfl
theorem z3c : (z2.write sA sX [1, 2]).2 = 0 := by kernel_rfl
theorem z4c : (z3.sync sA sX).2 = 0 := by kernel_rfl
theorem z_left : z4.left [] 2 = [(sA, [(sX, [1, 2])])] := by kernel_rfl
theorem z_read : z4.read sA sX = ([1, 2], 0) := by kernel_rfl
theorem z_used : z4.used = 2 := by kernel_rfl
theorem z_steps : z4.steps = 4 := by kernel_rfl
theorem z5c : (z4.mkdir sA).2 = 83 := by kernel_rfl
theorem zi0 : Inv 0 z0 := inv_open (D := []) z_open (by decide)
theorem zi1 : Inv 1 z1 := zi0.mkdir sA
theorem zi2 : Inv 3 z2 := zi1.create sA sX
theorem zi3 : Inv 7 z3 := zi2.write sA sX [1, 2]
theorem zi4 : Inv 8 z4 := zi3.sync sA sX
theorem goodA : goodP sA = true := by kernel_rfl
theorem goodA' : goodP ({ data := #[97] } : ByteArray) = true := goodA

theorem dsk_one {ds : List DM} (h : dval8 ds = [(sA, [(sX, [1, 2])])]) : ∃ (d : Nsl) (f : Nsl), ds = [(d, [(f, [1, 2])])] := by
  unfold dval8 at h
  cases ds with
  | nil => cases h
  | cons x r =>
    cases r with
    | cons y r => simp at h
    | nil =>
      obtain ⟨d, fs⟩ := x
      simp only [List.map_cons, List.map_nil, List.cons.injEq, Prod.mk.injEq, and_true] at h
      have h2 := h.2
      unfold fval8 at h2
      cases fs with
      | nil => cases h2
      | cons f r =>
        cases r with
        | cons y r => simp at h2
        | nil =>
          obtain ⟨f, dt⟩ := f
          simp only [List.map_cons, List.map_nil, List.cons.injEq, Prod.mk.injEq, and_true] at h2
          exact ⟨d, f, by rw [h2.2]⟩

/-- a file system of one's own: all of it is new since w0, and nothing else has changed since -/
def FsAt (w0 w : World) (p : Nat) (S : St) : Prop := ∃ G, FsM w G S ∧ G.b = p ∧ (∀ x ∈ G.all, w0.heap.size ≤ x) ∧ Chg [] w0 w
theorem FsAt.to {w0 w w' : World} {G : FsG} {S' : St} (hn : ∀ x ∈ G.all, w0.heap.size ≤ x) (hc : Chg [] w0 w) (h : FsTo w G S' w') : FsAt w0 w' G.b S' := by
  obtain ⟨G', h1, h2, h3, h4⟩ := h
  exact ⟨G', h1, h2, fun x hx => by
    rcases h3 x hx with h | h
    · exact hn x h
    · exact Nat.le_trans hc.size h, hc.trans h4 (fun x hx => .inr (hn x hx))⟩
theorem FsAt.keep0 {w0 w w' : World} {p : Nat} {S : St} (h : FsAt w0 w p S) (hc : Chg [] w w') : FsAt w0 w' p S := by
  obtain ⟨G, h1, h2, h3, h4⟩ := h
  exact ⟨G, h1.keep0 hc, h2, h3, h4.trans0 hc⟩
theorem FsAt.chg {w0 w : World} {p : Nat} {S : St} (h : FsAt w0 w p S) : Chg [] w0 w := by obtain ⟨_, _, _, _, h⟩ := h; exact h
section
variable {w0 w : World} {p : Nat} {S : St} {B : Nat}
theorem FsAt.mkdir (h : FsAt w0 w p S) (hi : Inv B S) (hB : B ≤ 1073741824) (d : ByteArray) :
    Calls Tryz.prog 24 #[.pointer (some ⟨p, 0, none⟩), .string d] w fun e w' => e = .returned (.int .i64 (S.mkdir d).2) ∧ FsAt w0 w' p (S.mkdir d).1 := by
  obtain ⟨G, hF, rfl, hn, hc⟩ := h
  exact (mkdir_st hF hi hB d).mono fun e w' ⟨h1, h2⟩ => ⟨h1, .to hn hc h2⟩
theorem FsAt.create (h : FsAt w0 w p S) (hi : Inv B S) (hB : B + 1 ≤ 1073741824) (d n : ByteArray) :
    Calls Tryz.prog 25 #[.pointer (some ⟨p, 0, none⟩), .string d, .string n] w fun e w' => e = .returned (.int .i64 (S.create d n).2) ∧ FsAt w0 w' p (S.create d n).1 := by
  obtain ⟨G, hF, rfl, hn, hc⟩ := h
  exact (create_st hF hi hB d n).mono fun e w' ⟨h1, h2⟩ => ⟨h1, .to hn hc h2⟩
theorem FsAt.sync (h : FsAt w0 w p S) (hi : Inv B S) (hB : B ≤ 1073741824) (d n : ByteArray) :
    Calls Tryz.prog 27 #[.pointer (some ⟨p, 0, none⟩), .string d, .string n] w fun e w' => e = .returned (.int .i64 (S.sync d n).2) ∧ FsAt w0 w' p (S.sync d n).1 := by
  obtain ⟨G, hF, rfl, hn, hc⟩ := h
  exact (sync_st hF hi d n hB).mono fun e w' ⟨h1, h2⟩ => ⟨h1, .to hn hc h2⟩
/-- data that lie in a new block, or ahead of w0 -/
theorem FsAt.write_new (h : FsAt w0 w p S) (hi : Inv B S) (d n : ByteArray) (xs : List Int) (cs : Array Value) (hcs : cs.toList = bv xs) (hB : B + xs.length ≤ 1073741824) :
    Calls Tryz.prog 26 #[.pointer (some ⟨p, 0, none⟩), .string d, .string n, .slice (some ⟨w.heap.size, 0, none⟩) xs.length xs.length] (w.alloc (.cells cs 5)) fun e w' => e = .returned (.int .i64 (S.write d n xs).2) ∧ FsAt w0 w' p (S.write d n xs).1 := by
  obtain ⟨G, hF, rfl, hn, hc⟩ := h
  have hal : Chg [] w (w.alloc (.cells cs 5)) := (Chg.refl [] w).alloc _
  have hsz : cs.size = xs.length := by rw [← Array.length_toList, hcs, List.length_map]
  have hr : Rd (w.alloc (.cells cs 5)) 1 (some ⟨w.heap.size, 0, none⟩) xs.length xs.length (bv xs) := by
    rw [← hcs]
    exact (Own.lit w 5 1 cs xs.length (by unfold maxLen; omega) (by omega)).rd
  exact (write_st (hF.keep0 hal) hi d n (some ⟨w.heap.size, 0, none⟩) xs.length xs.length xs hr hB (fun x hx hm => by
    simp at hx; subst hx
    have := hF.lt _ hm; omega)).mono fun e w' ⟨h1, h2⟩ => ⟨h1, .to hn (hc.trans0 hal) h2⟩
theorem FsAt.read (h : FsAt w0 w p S) (hi : Inv B S) (hB : B ≤ 1073741824) (d n : ByteArray) :
    Calls Tryz.prog 28 #[.pointer (some ⟨p, 0, none⟩), .string d, .string n] w fun e w' => NewRowE 5 w (bv (S.read d n).1) (S.read d n).1.length (S.read d n).2 e w' ∧ FsAt w0 w' p S := by
  obtain ⟨G, hF, rfl, hn, hc⟩ := h
  exact (read_st hF hi hB d n).mono fun e w' h1 => ⟨h1, by obtain ⟨A, c, _, _, hc1, _⟩ := h1; exact ⟨G, hF.keep0 hc1, rfl, hn, hc.trans0 hc1⟩⟩
theorem FsAt.used (h : FsAt w0 w p S) (hi : Inv B S) (hB : B ≤ 1073741824) :
    Calls Tryz.prog 14 #[.pointer (some ⟨p, 0, none⟩)] w fun e w' => e = .returned (.int .i64 (S.used : Int)) ∧ Chg [] w w' := by
  obtain ⟨G, hF, rfl, hn, hc⟩ := h
  exact used_st hF hi hB
theorem FsAt.steps (h : FsAt w0 w p S) : Calls Tryz.prog 11 #[.pointer (some ⟨p, 0, none⟩)] w fun e w' => e = .returned (.int .i64 (S.steps : Int)) ∧ w' = w := by
  obtain ⟨G, hF, rfl, hn, hc⟩ := h
  exact steps_any G.b S.steps w (by simpa using hF.blk.cell 6)
theorem FsAt.durable (h : FsAt w0 w p S) (hi : Inv B S) (hB : B ≤ 1073741824) (K : Option Addr) (kn kc : Nat) (ks : List Bool) (names : Int) (hK : Rd w 1 K kn kc (kv ks)) (hkn : kn ≤ 1073741824) :
    Calls Tryz.prog 19 #[.pointer (some ⟨p, 0, none⟩), .agg #[.slice K kn kc, .int .i64 names]] w (NewDsk w (S.left ks names)) := by
  obtain ⟨G, hF, rfl, hn, hc⟩ := h
  exact durable_st hF hi hB K kn kc ks names hK hkn
theorem FsAt.view (h : FsAt w0 w p S) (hi : Inv B S) (hB : B ≤ 1073741824) : Calls Tryz.prog 17 #[.pointer (some ⟨p, 0, none⟩)] w (NewDsk w S.view) := by
  obtain ⟨G, hF, rfl, hn, hc⟩ := h
  exact view_st hF hi hB
end

set_option maxRecDepth 100000 in
set_option maxHeartbeats 6400000 in
theorem speaks_any (w : World) : Calls Tryz.prog 6 #[] w fun e w' => e = .returned (.bool true) ∧ Chg [] w w' := by
  go_enter Tryz.func6, Tryz.ntmps6
  go_wp2_with fail
  refine (open_st w none 0 0 [] 9 (-1) ⟨Rd.nil _ _, by simp⟩ (by decide) (by decide)).mono ?_
  rintro e w1 hnf
  rcases hnf with ⟨h0, _⟩ | ⟨_, G, rfl, hF, hnw, hc⟩
  · exact absurd z_open h0
  obtain ⟨p, hp⟩ : ∃ p, G.b = p := ⟨_, rfl⟩
  have H0 : Hid (FsAt w w1 p z0) := Lib.hid ⟨G, hF, hp, hnw, hc⟩
  rw [hp]
  clear hF hc hnw hp
  go_wp2_with fail
  refine (good_any _ w1).mono ?_
  rintro e w2 ⟨rfl, rfl⟩
  rw [goodA']
  go_wp2_with fail
  refine (H0.out.mkdir zi0 (by decide) sA).mono ?_
  rintro e w3 ⟨rfl, h1⟩
  rw [z1c]
  have H1 := Lib.hid h1
  clear h1
  go_wp2_with fail
  refine (FsAt.create (S := z1) H1.out zi1 (by decide) sA sX).mono ?_
  rintro e w4 ⟨rfl, h2⟩
  rw [z2c]
  have H2 := Lib.hid h2
  clear h2
  go_wp2_with fail
  refine (FsAt.write_new (S := z2) H2.out zi2 sA sX [1, 2] #[.int .u8 1, .int .u8 2] rfl (by decide)).mono ?_
  rintro e w5 ⟨rfl, h3⟩
  rw [z3c]
  have H3 := Lib.hid h3
  clear h3
  go_wp2_with fail
  refine (FsAt.sync (S := z3) H3.out zi3 (by decide) sA sX).mono ?_
  rintro e w6 ⟨rfl, h4⟩
  rw [z4c]
  have H4 : Hid (FsAt w w6 p z4) := Lib.hid h4
  clear h4
  go_wp2_with fail
  refine (H4.out.durable zi4 (by decide) none 0 0 [] 2 (Rd.nil _ _) (by decide)).mono ?_
  rintro e w7 ⟨A, n, c, ds, rfl, hds, hdv, hc7, hn7⟩
  rw [z_left] at hdv
  obtain ⟨d, f, rfl⟩ := dsk_one hdv
  have H7 := Lib.hid (H4.out.keep0 hc7)
  have HDS := Lib.hid hds.rd
  have hn1 : n = 1 := by have := hds.row.rd.nsl; simp [dnsl] at this; omega
  subst hn1
  clear hds hdv hc7 hn7
  go_wp2_with fail
  refine (H7.out.read zi4 (by decide) sA sX).mono ?_
  rintro e w8 ⟨⟨A2, c2, rfl, ho2, hc8, hn8⟩, h8⟩
  rw [z_read]
  have H8 := Lib.hid h8
  have HD8 := Lib.hid (HDS.out.chg0 hc8)
  clear ho2 hc8 hn8 h8
  go_wp2_with fail
  refine (H8.out.used zi4 (by decide)).mono ?_
  rintro e w9 ⟨rfl, hc9⟩
  rw [z_used]
  have H9 := Lib.hid (H8.out.keep0 hc9)
  have HD9 := Lib.hid (HD8.out.chg0 hc9)
  clear hc9
  go_wp2_with fail
  refine H9.out.steps.mono ?_
  rintro e w10 ⟨rfl, rfl⟩
  rw [z_steps]
  obtain ⟨ad, rfl, hat⟩ := HD9.out.row.ns (j := 0) (x := d) rfl
  have hfl := HD9.out.fil _ (List.mem_singleton.2 rfl)
  have hnf := hfl.row.nsl
  simp only [fnsl, List.map_cons, List.map_nil, List.length_cons, List.length_nil] at hnf
  obtain ⟨bd, hbd, hat2⟩ := hfl.row.ns (j := 0) (x := f) rfl
  have u1 := hat.c1
  have u2 := hat2.c1
  have hdat := hfl.dat _ (List.mem_singleton.2 rfl)
  obtain ⟨dnm, dA, dn, dc⟩ := d
  simp only at hnf hbd
  subst hbd
  subst hnf
  have hfn : f.n = 2 := by have := hdat.1; simp at this; omega
  obtain ⟨fnm, fA, fn, fc⟩ := f
  simp only at hfn
  subst hfn
  have HDAT := Lib.hid hdat
  simp [Addr.add] at u1 u2
  clear hat hat2 hfl hdat
  go_wp2_with fail
  have hal : Chg [] w10 (w10.alloc (.cells #[.int .u8 1, .int .u8 2] 5)) := (Chg.refl [] w10).alloc _
  refine (sameb_any fA 2 fc [1, 2] _ 2 2 [1, 2] _ (HDAT.out.chg hal (fun _ _ => List.not_mem_nil)) (Own.lit w10 5 1 #[.int .u8 1, .int .u8 2] 2 (by decide) rfl).rd).mono ?_
  rintro e w11 ⟨b, rfl, hb, hc11⟩
  rw [hb rfl]
  have H11 := Lib.hid (H9.out.keep0 (hal.trans0 hc11))
  clear hc11 hal hb u1 u2
  go_wp2_with fail
  refine (H11.out.mkdir zi4 (by decide) sA).mono ?_
  rintro e w12 ⟨rfl, h12⟩
  rw [z5c]
  have H12 := Lib.hid h12
  clear h12
  go_wp2
  go_ret
  exact ⟨rfl, H12.out.chg⟩
end Go.Proofs.YtgomofeidghmiaaGreat
