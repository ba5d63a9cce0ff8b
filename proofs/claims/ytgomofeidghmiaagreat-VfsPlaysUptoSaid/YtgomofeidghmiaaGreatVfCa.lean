/-
  Layer 08: the law's call.
-/
import Derived.Test.YtgomofeidghmiaaGreatVfLo
namespace Go.Proofs.YtgomofeidghmiaaGreat
open Go.RowKit

/-- a call -/
structure O8 where
  kind : Int
  dir : ByteArray
  name : ByteArray
  dest : ByteArray
  A : Option Addr
  n : Nat
  c : Nat
  data : List Int
/-- which -/
def kd (k : Int) : Nat := (bits .and .i64 k 15).toNat
theorem kd_eq (k : Int) : bits .and .i64 k 15 = (kd k : Int) ∧ kd k < 16 := by
  have h2 : (BitVec.ofInt 64 (15 : Int)).toNat = 15 := by decide
  have h3 : bits .and .i64 k 15 = (((BitVec.ofInt 64 k).toNat &&& 15 : Nat) : Int) := by
    show IntKind.i64.wrap ((BitVec.ofInt 64 k &&& BitVec.ofInt 64 (15 : Int)).toNat : Int) = _
    have h4 : (BitVec.ofInt 64 k).toNat &&& 15 ≤ 15 := Nat.and_le_right
    rw [BitVec.toNat_and, h2, IntKind.wrap_i64]
    omega
  have h4 : (BitVec.ofInt 64 k).toNat &&& 15 ≤ 15 := Nat.and_le_right
  unfold kd
  rw [h3]
  omega
/-- what it does: the state, code, bytes, names -/
def callK (S : St) (m : Nat) (d n t : ByteArray) (xs : List Int) : St × Int × List Int × List ByteArray :=
  match m with
  | 0 => ((S.mkdir d).1, (S.mkdir d).2, [], [])
  | 1 => ((S.create d n).1, (S.create d n).2, [], [])
  | 2 | 11 | 12 => ((S.write d n xs).1, (S.write d n xs).2, [], [])
  | 3 | 13 => ((S.sync d n).1, (S.sync d n).2, [], [])
  | 4 | 14 => (S.names.1, S.names.2, [], [])
  | 5 => ((S.rename d t).1, (S.rename d t).2, [], [])
  | 6 => ((S.remove d n).1, (S.remove d n).2, [], [])
  | 7 => ((S.rmdir d).1, (S.rmdir d).2, [], [])
  | 8 => (S, (S.read d n).2, (S.read d n).1, [])
  | 9 => (S, (S.list d).2, [], (S.list d).1)
  | _ => (S, S.dirs.2, [], S.dirs.1)
/-- told -/
def CallTo (w : World) (G : FsG) (r : St × Int × List Int × List ByteArray) (e : Ending) (w' : World) : Prop :=
  ∃ dA dn dc nA nn nc, e = .returned (.agg #[.int .i64 r.2.1, .slice dA dn dc, .slice nA nn nc]) ∧ Own w' 5 1 dA dn dc (bv r.2.2.1) ∧ Own w' 9 1 nA nn nc (svs r.2.2.2) ∧ (∀ k ∈ bo dA ++ bo nA, w.heap.size ≤ k) ∧
    ∃ G', FsM w' G' r.1 ∧ G'.b = G.b ∧ (∀ x ∈ G'.all, x ∈ G.all ∨ w.heap.size ≤ x) ∧ (∀ k ∈ bo dA ++ bo nA, k ∉ G'.all) ∧ Chg G.all w w'

theorem bv_one8 (zs : List Int) : ∀ u ∈ bv zs, u.oneCell' = true := by
  intro u hu
  obtain ⟨x, _, rfl⟩ := List.mem_map.1 hu
  rfl

theorem Rd.chgz {w w' : World} {sz n c : Nat} {A : Option Addr} {xs : List Value} {L : List Nat} (h : Rd w sz A n c xs) (hc : Chg L w w') (hn : 0 < n → ∀ k ∈ bo A, k ∉ L) : Rd w' sz A n c xs := by
  rcases Nat.eq_zero_or_pos n with h0 | h0
  · subst h0
    have hx : xs = [] := List.eq_nil_of_length_eq_zero (by have := h.1; omega)
    subst hx
    exact ⟨h.1, h.2.1, h.2.2.1, h.2.2.2.1, fun ad _ => ⟨fun hp => absurd hp (by omega), fun j u hu => by simp at hu⟩⟩
  · exact h.chg hc (hn h0)
theorem callTo_code {w W1 w2 w3 : World} {G G' : FsG} {S' : St} {rb : Nat} {cd : Int} {v1 v2 v3 : Value} (hW : Chg [] w W1) (h2 : Chg [] W1 w2) (hrb : rb ∉ G.all) (hrw : w.heap.size ≤ rb ∧ rb < w2.heap.size) (hf : FsM w3 G' S') (hb : G'.b = G.b) (ha : ∀ x ∈ G'.all, x ∈ G.all ∨ w2.heap.size ≤ x) (hc : Chg G.all w2 w3) :
    CallTo w G (S', cd, [], []) (.returned (.agg #[.int .i64 cd, .slice none 0 0, .slice none 0 0])) (((w3.setCell ⟨rb, 0, none⟩ v1).setCell ⟨rb, 1, none⟩ v2).setCell ⟨rb, 2, none⟩ v3) := by
  have hcs : Chg [rb] w3 (((w3.setCell ⟨rb, 0, none⟩ v1).setCell ⟨rb, 1, none⟩ v2).setCell ⟨rb, 2, none⟩ v3) := (((Chg.refl _ _).setCell (.inl (by simp)) _).setCell (.inl (by simp)) _).setCell (.inl (by simp)) _
  have hca : Chg [] w w2 := hW.trans0 h2
  refine ⟨none, 0, 0, none, 0, 0, rfl, Own.nil _ _ _, Own.nil _ _ _, by simp, G', hf.keep hcs (fun x hx hm => ?_), hb, fun x hx => ?_, by simp, ((hca.nil G.all).trans hc (fun x hx => .inl hx)).trans hcs (fun x hx => .inr (by simp at hx; omega))⟩
  · simp only [List.mem_singleton] at hm
    subst hm
    rcases ha x hx with h | h
    · exact hrb h
    · omega
  · rcases ha x hx with h | h
    · exact .inl h
    · exact .inr (Nat.le_trans hca.size h)
theorem callTo_row {w W1 w2 w3 : World} {G : FsG} {S : St} {rb : Nat} {cd : Int} {v1 v2 v3 : Value} {dA nA : Option Addr} {dn dc nn nc : Nat} {xs : List Int} {ns : List ByteArray} (hW : Chg [] w W1) (h2 : Chg [] W1 w2) (hrb : rb ∉ G.all) (hrw : w.heap.size ≤ rb ∧ rb < w2.heap.size) (hf : FsM w2 G S) (hc : Chg [] w2 w3)
    (ho : Own w3 5 1 dA dn dc (bv xs)) (hs : Own w3 9 1 nA nn nc (svs ns)) (hd : ∀ k ∈ bo dA, w2.heap.size ≤ k) (hn : ∀ k ∈ bo nA, w2.heap.size ≤ k) :
    CallTo w G (S, cd, xs, ns) (.returned (.agg #[.int .i64 cd, .slice dA dn dc, .slice nA nn nc])) (((w3.setCell ⟨rb, 0, none⟩ v1).setCell ⟨rb, 1, none⟩ v2).setCell ⟨rb, 2, none⟩ v3) := by
  have hcs : Chg [rb] w3 (((w3.setCell ⟨rb, 0, none⟩ v1).setCell ⟨rb, 1, none⟩ v2).setCell ⟨rb, 2, none⟩ v3) := (((Chg.refl _ _).setCell (.inl (by simp)) _).setCell (.inl (by simp)) _).setCell (.inl (by simp)) _
  have hca : Chg [] w w2 := hW.trans0 h2
  have hdn : ∀ k ∈ bo dA ++ bo nA, w2.heap.size ≤ k := fun k hk => by
    rcases List.mem_append.1 hk with h | h
    · exact hd k h
    · exact hn k h
  refine ⟨dA, dn, dc, nA, nn, nc, rfl, ho.chg hcs (fun k hk hm => ?_), hs.chg hcs (fun k hk hm => ?_), fun k hk => Nat.le_trans hca.size (hdn k hk), G, (hf.keep0 hc).keep hcs (fun x hx hm => ?_), rfl, fun x hx => .inl hx, fun k hk hm => ?_, ((hca.trans0 hc).trans hcs (fun x hx => .inr (by simp at hx; omega))).nil _⟩
  · simp only [List.mem_singleton] at hm
    have := hd k hk; omega
  · simp only [List.mem_singleton] at hm
    have := hn k hk; omega
  · simp only [List.mem_singleton] at hm
    subst hm
    exact hrb hx
  · have h1 := hdn k hk; have h2 := hf.lt k hm; omega

set_option maxRecDepth 100000 in
set_option maxHeartbeats 3200000 in
theorem lawcall_any {w : World} {G : FsG} {S : St} {B : Nat} (h : FsM w G S) (hi : Inv B S) (o : O8) (hd : Rd w 1 o.A o.n o.c (bv o.data)) (hB : B + o.n + 1 ≤ 1073741824) (hdis : 0 < o.n → ∀ x ∈ bo o.A, x ∉ G.all) :
    Calls Tryz.prog 8 #[.pointer (some ⟨G.b, 0, none⟩), .agg #[.int .i64 o.kind, .string o.dir, .string o.name, .string o.dest, .slice o.A o.n o.c]] w (CallTo w G (callK S (kd o.kind) o.dir o.name o.dest o.data)) := by
  have HF := Lib.hid h
  have HI := Lib.hid hi
  have HD := Lib.hid hd
  have hm := (kd_eq o.kind).2
  have hk := (kd_eq o.kind).1
  generalize kd o.kind = m at hm hk ⊢
  have HK := Lib.hid hk
  clear hk
  obtain ⟨kind, dir, name, dest, A, n, c, data⟩ := o
  simp only at hB hdis
  have HDIS := Lib.hid hdis
  clear hdis
  have hn : n ≤ 1073741824 := by omega
  clear h hi hd
  go_enter Tryz.func8, Tryz.ntmps8
  obtain ⟨sb, hsb⟩ : ∃ sb, w.heap.size = sb := ⟨_, rfl⟩
  obtain ⟨rb, hrb⟩ : ∃ rb, sb + 1 = rb := ⟨_, rfl⟩
  obtain ⟨W1, hW1⟩ : ∃ W1, (w.alloc (.cells #[.int .i64 kind, .string dir, .string name, .string dest, .slice A n c] 33)).alloc (.cells #[.int .i64 0, .slice none 0 0, .slice none 0 0] 36) = W1 := ⟨_, rfl⟩
  have hb1 : Blk W1 sb 33 #[.int .i64 kind, .string dir, .string name, .string dest, .slice A n c] := by rw [← hW1, ← hsb]; exact (Blk.new w _ _).alloc _
  have hb2 : Blk W1 rb 36 #[.int .i64 0, .slice none 0 0, .slice none 0 0] := by
    have := Blk.new (w.alloc (.cells #[.int .i64 kind, .string dir, .string name, .string dest, .slice A n c] 33)) 36 #[.int .i64 0, .slice none 0 0, .slice none 0 0]
    rw [← hW1, ← hrb, ← hsb]
    simpa using this
  have hcW : Chg [] w W1 := by rw [← hW1]; exact ((Chg.refl [] w).alloc _).alloc _
  have x4 := (hb1.alloc (.cells #[] 5)).cell 4
  simp only [List.getElem?_toArray, List.getElem?_cons_succ, List.getElem?_cons_zero] at x4
  have HB1 := Lib.hid hb1
  have HB2 := Lib.hid hb2
  have HCW := Lib.hid hcW
  clear hb1 hb2 hcW
  go_upto_region 2 with (at_builtin; go_loud (refine wpList_app rfl _ _ rfl etyBytes rfl (Own.lit W1 5 1 #[] 0 (by decide) rfl) rfl (HD.out.chg (HCW.out.alloc _) (fun _ _ => List.not_mem_nil)) (bv_one8 _) (by unfold maxLen; omega) (by omega) ?_; intro A2 c2 w2 hown2 hchg2 hnew2 _; have HOWN2 : Hid (Own w2 5 1 A2 n c2 (bv data)) := Lib.hid (by simpa using hown2); have HCG2 : Hid (Chg [] W1 w2) := Lib.hid (((Chg.refl [] W1).alloc _).trans hchg2 (fun x hx => .inr (by simp at hx; omega))); have HB12 := Lib.hid (HB1.out.chg HCG2.out List.not_mem_nil); have HB22 := Lib.hid (HB2.out.chg HCG2.out List.not_mem_nil); have HN2 : Hid (∀ k ∈ bo A2, W1.heap.size ≤ k) := Lib.hid (fun k hk => by rcases hnew2 k hk with h | h; (simp at h; omega); (have := h.1; simp at this; omega)); have x0 := HB12.out.cell 0; simp only [List.getElem?_toArray, List.getElem?_cons_zero] at x0; clear x4 hown2 hchg2 hnew2))
  go_upto_region 3 with fail
  rw [HK.out]
  have HFW := Lib.hid (HF.out.keep0 (HCW.out.trans0 HCG2.out))
  clear x0
  have HRBW : Hid (w.heap.size ≤ rb ∧ rb < w2.heap.size) := Lib.hid ⟨by omega, HB22.out.lt⟩
  have HRB : Hid (rb ∉ G.all) := Lib.hid (fun hh => by have := HF.out.lt rb hh; omega)
  have q1 := HB12.out.cell 1
  have q2 := HB12.out.cell 2
  have q3 := HB12.out.cell 3
  simp only [List.getElem?_toArray, List.getElem?_cons_succ, List.getElem?_cons_zero] at q1 q2 q3
  have hcs : m = 0 ∨ m = 1 ∨ m = 2 ∨ m = 3 ∨ m = 4 ∨ m = 5 ∨ m = 6 ∨ m = 7 ∨ m = 8 ∨ m = 9 ∨ m = 10 ∨ m = 11 ∨ m = 12 ∨ m = 13 ∨ m = 14 ∨ m = 15 := by omega
  rcases hcs with rfl | rfl | rfl | rfl | rfl | rfl | rfl | rfl | rfl | rfl | rfl | rfl | rfl | rfl | rfl | rfl
  · go_wp2_with fail
    refine (mkdir_st HFW.out HI.out (by omega) dir).mono ?_
    rintro e w3 ⟨rfl, G', hf', hb', hall', hchg'⟩
    have HB3 := Lib.hid (HB22.out.chg hchg' HRB.out)
    have y0 := HB3.out.cell 0
    have y1 := HB3.out.cell 1
    have y2 := HB3.out.cell 2
    have z0 := HB3.out.frozen 0
    have z1 := HB3.out.frozen 1
    have z2 := HB3.out.frozen 2
    simp only [List.getElem?_toArray, List.getElem?_cons_succ, List.getElem?_cons_zero] at y0 y1 y2
    have HF3 := Lib.hid hf'
    have HC3 := Lib.hid hchg'
    have HA3 := Lib.hid hall'
    clear hf' hchg' hall'
    go_wp2
    refine bodyPost_ret (by simp [results, Tryz.results8, go_sem, y0, y1, y2]; try rfl) rfl ?_
    exact callTo_code HCW.out HCG2.out HRB.out HRBW.out HF3.out hb' HA3.out HC3.out
  · go_wp2_with fail
    refine (create_st HFW.out HI.out (by omega) dir name).mono ?_
    rintro e w3 ⟨rfl, G', hf', hb', hall', hchg'⟩
    have HB3 := Lib.hid (HB22.out.chg hchg' HRB.out)
    have y0 := HB3.out.cell 0
    have y1 := HB3.out.cell 1
    have y2 := HB3.out.cell 2
    have z0 := HB3.out.frozen 0
    have z1 := HB3.out.frozen 1
    have z2 := HB3.out.frozen 2
    simp only [List.getElem?_toArray, List.getElem?_cons_succ, List.getElem?_cons_zero] at y0 y1 y2
    have HF3 := Lib.hid hf'
    have HC3 := Lib.hid hchg'
    have HA3 := Lib.hid hall'
    clear hf' hchg' hall'
    go_wp2
    refine bodyPost_ret (by simp [results, Tryz.results8, go_sem, y0, y1, y2]; try rfl) rfl ?_
    exact callTo_code HCW.out HCG2.out HRB.out HRBW.out HF3.out hb' HA3.out HC3.out
  · go_wp2_with fail
    refine (write_st HFW.out HI.out dir name A2 n c2 data HOWN2.out.rd (by omega) (fun x hx hm => by have h1 := HN2.out x hx; have h2 := HF.out.lt x hm; have h3 := HCW.out.size; omega)).mono ?_
    rintro e w3 ⟨rfl, G', hf', hb', hall', hchg'⟩
    have HF3 := Lib.hid hf'
    have HC3 := Lib.hid hchg'
    have HA3 := Lib.hid hall'
    clear hf' hchg' hall' q1 q2 q3
    obtain ⟨cd, hcd⟩ : ∃ cd, (S.write dir name data).2 = cd := ⟨_, rfl⟩
    rw [hcd]
    have HCD := Lib.hid hcd
    clear hcd
    obtain ⟨ab, hab⟩ : ∃ ab, w3.heap.size = ab := ⟨_, rfl⟩
    obtain ⟨W4, hW4⟩ : ∃ W4, W4 = w3.alloc (.cells #[.int .i64 cd, .slice none 0 0, .slice none 0 0] 36) := ⟨_, rfl⟩
    have hb4 : Blk W4 ab 36 #[.int .i64 cd, .slice none 0 0, .slice none 0 0] := by rw [hW4, ← hab]; exact Blk.new w3 _ _
    have hc4 : Chg [] w3 W4 := by rw [hW4]; exact (Chg.refl _ _).alloc _
    have HW4 := Lib.hid hW4
    have HB4 := Lib.hid hb4
    have HC4 := Lib.hid hc4
    have HAB := Lib.hid hab
    clear hW4 hb4 hc4
    have HSB4 := Lib.hid ((HB12.out.chg HC3.out (fun hh => by have := HF.out.lt sb hh; omega)).chg HC4.out List.not_mem_nil)
    have p4 := HSB4.out.cell 4
    have p4a := (HB12.out.chg HC3.out (fun hh => by have := HF.out.lt sb hh; omega)).cell 4
    simp only [List.getElem?_toArray, List.getElem?_cons_succ, List.getElem?_cons_zero] at p4 p4a
    have HO4 : Hid (Own W4 5 1 A2 n c2 (bv data)) := Lib.hid ((HOWN2.out.chg HC3.out (fun x hx hm => by have h1 := HN2.out x hx; have h2 := HF.out.lt x hm; have h3 := HCW.out.size; omega)).chg HC4.out (fun _ _ => List.not_mem_nil))
    have HD4 : Hid (Rd W4 1 A n c (bv data)) := Lib.hid ((((HD.out.chg (HCW.out.trans0 HCG2.out) (fun _ _ => List.not_mem_nil)).chgz HC3.out HDIS.out)).chg HC4.out (fun _ _ => List.not_mem_nil))
    go_upto_region 11 with fail
    rw [← HW4.out]
    clear hab p4a
    go_wp2_with fail
    refine (sameb_any A2 n c2 data A n c data W4 HO4.out.rd HD4.out).mono ?_
    rintro e w6 ⟨bb, rfl, hbb, hc6⟩
    obtain rfl := hbb rfl
    have HC6 := Lib.hid hc6
    have HO6 := Lib.hid (HO4.out.chg hc6 (fun _ _ => List.not_mem_nil))
    clear hc6 hbb p4
    go_wp2
    go_loopw [7, 57] (fun _ s57 wr => ∃ (k : Nat) (cs : List Value), k ≤ n ∧ s57 = .int .i64 k ∧ Own wr 5 1 A2 n c2 cs ∧ Chg (bo A2) w6 wr) (fun _ s57 _ => n - (intOf s57).toNat)
    case atStart => exact ⟨0, _, Nat.zero_le _, rfl, HO6.out, Chg.refl _ _⟩
    case round =>
      obtain ⟨k, cs, hk, rfl, hown, hch⟩ := hrel
      have HCH := Lib.hid hch
      have HOW := Lib.hid hown
      clear hch hown
      by_cases hlt : k < n
      · have hlt' : (k : Int) < n := by omega
        obtain ⟨ad, u, rfl, _, hcell, hfz, hset⟩ := HOW.out.at1 hlt
        have HSET := Lib.hid hset
        have HADB : Hid ((ad.add k).block ∈ bo (some ad)) := Lib.hid (by simp [add_block])
        clear hset
        go_wp2
        go_roundw
        case rel => exact ⟨k + 1, _, by omega, by go_num, HSET.out _, HCH.out.setCell (.inl HADB.out) _⟩
        case measure => simp [intOf]; omega
      · have HC7 : Hid (Chg [] w3 w6) := Lib.hid (HC4.out.trans0 HC6.out)
        have HBA := Lib.hid ((HB4.out.chg HC6.out List.not_mem_nil).chg HCH.out (fun hm => by have h1 := HOWN2.out.lt ab hm; have h2 := HC3.out.size; have h3 := HAB.out; omega))
        have HNR : Hid (rb ∉ bo A2) := Lib.hid (fun hm => by have h1 := HN2.out rb hm; have h2 := HB2.out.lt; omega)
        have HB3 := Lib.hid (((HB22.out.chg HC3.out HRB.out).chg HC7.out List.not_mem_nil).chg HCH.out HNR.out)
        have y0 := HB3.out.cell 0
        have y1 := HB3.out.cell 1
        have y2 := HB3.out.cell 2
        have z0 := HB3.out.frozen 0
        have z1 := HB3.out.frozen 1
        have z2 := HB3.out.frozen 2
        have a0 := HBA.out.cell 0
        have a1 := HBA.out.cell 1
        have a2 := HBA.out.cell 2
        simp only [List.getElem?_toArray, List.getElem?_cons_succ, List.getElem?_cons_zero] at y0 y1 y2 a0 a1 a2
        go_wp2
        refine bodyPost_ret (by simp [results, Tryz.results8, go_sem, y0, y1, y2]; try rfl) rfl ?_
        have hg : ∀ x ∈ bo A2, W1.heap.size ≤ x ∧ x < w2.heap.size := fun x hx => ⟨HN2.out x hx, HOWN2.out.lt x hx⟩
        have hff := (HF3.out.keep0 HC7.out).keep HCH.out (fun x hx hm => by
          rcases HA3.out x hx with h | h
          · have h1 := (hg x hm).1; have h2 := HF.out.lt x h; have h3 := HCW.out.size; omega
          · have h1 := (hg x hm).2; omega)
        have hcd := HCD.out
        subst hcd
        exact callTo_code HCW.out (Chg.refl [] W1) HRB.out ⟨HRBW.out.1, HB2.out.lt⟩ hff hb' (fun x hx => by
          rcases HA3.out x hx with h | h
          · exact .inl h
          · exact .inr (Nat.le_trans HCG2.out.size h)) ((((HCG2.out.nil G.all).trans HC3.out (fun x hx => .inl hx)).trans0 HC7.out).trans HCH.out (fun x hx => .inr (hg x hx).1))
  · go_wp2_with fail
    refine (sync_st HFW.out HI.out dir name (by omega)).mono ?_
    rintro e w3 ⟨rfl, G', hf', hb', hall', hchg'⟩
    have HB3 := Lib.hid (HB22.out.chg hchg' HRB.out)
    have y0 := HB3.out.cell 0
    have y1 := HB3.out.cell 1
    have y2 := HB3.out.cell 2
    have z0 := HB3.out.frozen 0
    have z1 := HB3.out.frozen 1
    have z2 := HB3.out.frozen 2
    simp only [List.getElem?_toArray, List.getElem?_cons_succ, List.getElem?_cons_zero] at y0 y1 y2
    have HF3 := Lib.hid hf'
    have HC3 := Lib.hid hchg'
    have HA3 := Lib.hid hall'
    clear hf' hchg' hall'
    go_wp2
    refine bodyPost_ret (by simp [results, Tryz.results8, go_sem, y0, y1, y2]; try rfl) rfl ?_
    exact callTo_code HCW.out HCG2.out HRB.out HRBW.out HF3.out hb' HA3.out HC3.out
  · go_wp2_with fail
    refine (names_st HFW.out HI.out (by omega)).mono ?_
    rintro e w3 ⟨rfl, G', hf', hb', hall', hchg'⟩
    have HB3 := Lib.hid (HB22.out.chg hchg' HRB.out)
    have y0 := HB3.out.cell 0
    have y1 := HB3.out.cell 1
    have y2 := HB3.out.cell 2
    have z0 := HB3.out.frozen 0
    have z1 := HB3.out.frozen 1
    have z2 := HB3.out.frozen 2
    simp only [List.getElem?_toArray, List.getElem?_cons_succ, List.getElem?_cons_zero] at y0 y1 y2
    have HF3 := Lib.hid hf'
    have HC3 := Lib.hid hchg'
    have HA3 := Lib.hid hall'
    clear hf' hchg' hall'
    go_wp2
    refine bodyPost_ret (by simp [results, Tryz.results8, go_sem, y0, y1, y2]; try rfl) rfl ?_
    exact callTo_code HCW.out HCG2.out HRB.out HRBW.out HF3.out hb' HA3.out HC3.out
  · go_wp2_with fail
    refine (rename_st HFW.out HI.out (by omega) dir dest).mono ?_
    rintro e w3 ⟨rfl, G', hf', hb', hall', hchg'⟩
    have HB3 := Lib.hid (HB22.out.chg hchg' HRB.out)
    have y0 := HB3.out.cell 0
    have y1 := HB3.out.cell 1
    have y2 := HB3.out.cell 2
    have z0 := HB3.out.frozen 0
    have z1 := HB3.out.frozen 1
    have z2 := HB3.out.frozen 2
    simp only [List.getElem?_toArray, List.getElem?_cons_succ, List.getElem?_cons_zero] at y0 y1 y2
    have HF3 := Lib.hid hf'
    have HC3 := Lib.hid hchg'
    have HA3 := Lib.hid hall'
    clear hf' hchg' hall'
    go_wp2
    refine bodyPost_ret (by simp [results, Tryz.results8, go_sem, y0, y1, y2]; try rfl) rfl ?_
    exact callTo_code HCW.out HCG2.out HRB.out HRBW.out HF3.out hb' HA3.out HC3.out
  · go_wp2_with fail
    refine (remove_st HFW.out HI.out (by omega) dir name).mono ?_
    rintro e w3 ⟨rfl, G', hf', hb', hall', hchg'⟩
    have HB3 := Lib.hid (HB22.out.chg hchg' HRB.out)
    have y0 := HB3.out.cell 0
    have y1 := HB3.out.cell 1
    have y2 := HB3.out.cell 2
    have z0 := HB3.out.frozen 0
    have z1 := HB3.out.frozen 1
    have z2 := HB3.out.frozen 2
    simp only [List.getElem?_toArray, List.getElem?_cons_succ, List.getElem?_cons_zero] at y0 y1 y2
    have HF3 := Lib.hid hf'
    have HC3 := Lib.hid hchg'
    have HA3 := Lib.hid hall'
    clear hf' hchg' hall'
    go_wp2
    refine bodyPost_ret (by simp [results, Tryz.results8, go_sem, y0, y1, y2]; try rfl) rfl ?_
    exact callTo_code HCW.out HCG2.out HRB.out HRBW.out HF3.out hb' HA3.out HC3.out
  · go_wp2_with fail
    refine (rmdir_st HFW.out HI.out (by omega) dir).mono ?_
    rintro e w3 ⟨rfl, G', hf', hb', hall', hchg'⟩
    have HB3 := Lib.hid (HB22.out.chg hchg' HRB.out)
    have y0 := HB3.out.cell 0
    have y1 := HB3.out.cell 1
    have y2 := HB3.out.cell 2
    have z0 := HB3.out.frozen 0
    have z1 := HB3.out.frozen 1
    have z2 := HB3.out.frozen 2
    simp only [List.getElem?_toArray, List.getElem?_cons_succ, List.getElem?_cons_zero] at y0 y1 y2
    have HF3 := Lib.hid hf'
    have HC3 := Lib.hid hchg'
    have HA3 := Lib.hid hall'
    clear hf' hchg' hall'
    go_wp2
    refine bodyPost_ret (by simp [results, Tryz.results8, go_sem, y0, y1, y2]; try rfl) rfl ?_
    exact callTo_code HCW.out HCG2.out HRB.out HRBW.out HF3.out hb' HA3.out HC3.out
  · go_wp2_with fail
    refine (read_st HFW.out HI.out (by omega) dir name).mono ?_
    rintro e w3 ⟨A3, c3, rfl, how3, hchg', hnew3⟩
    have HB3 := Lib.hid (HB22.out.chg hchg' List.not_mem_nil)
    have y0 := HB3.out.cell 0
    have y1 := HB3.out.cell 1
    have y2 := HB3.out.cell 2
    have z0 := HB3.out.frozen 0
    have z1 := HB3.out.frozen 1
    have z2 := HB3.out.frozen 2
    simp only [List.getElem?_toArray, List.getElem?_cons_succ, List.getElem?_cons_zero] at y0 y1 y2
    have HO3 := Lib.hid how3
    have HC3 := Lib.hid hchg'
    have HN3 := Lib.hid hnew3
    clear how3 hchg' hnew3
    go_wp2
    refine bodyPost_ret (by simp [results, Tryz.results8, go_sem, y0, y1, y2]; try rfl) rfl ?_
    exact callTo_row HCW.out HCG2.out HRB.out HRBW.out HFW.out HC3.out HO3.out (Own.nil _ _ _) HN3.out (by simp)
  · go_wp2_with fail
    refine (list_st HFW.out HI.out (by omega) dir).mono ?_
    rintro e w3 ⟨A3, c3, rfl, how3, hchg', hnew3⟩
    have HB3 := Lib.hid (HB22.out.chg hchg' List.not_mem_nil)
    have y0 := HB3.out.cell 0
    have y1 := HB3.out.cell 1
    have y2 := HB3.out.cell 2
    have z0 := HB3.out.frozen 0
    have z1 := HB3.out.frozen 1
    have z2 := HB3.out.frozen 2
    simp only [List.getElem?_toArray, List.getElem?_cons_succ, List.getElem?_cons_zero] at y0 y1 y2
    have HO3 := Lib.hid how3
    have HC3 := Lib.hid hchg'
    have HN3 := Lib.hid hnew3
    clear how3 hchg' hnew3
    go_wp2
    refine bodyPost_ret (by simp [results, Tryz.results8, go_sem, y0, y1, y2]; try rfl) rfl ?_
    exact callTo_row HCW.out HCG2.out HRB.out HRBW.out HFW.out HC3.out (Own.nil _ _ _) HO3.out (by simp) HN3.out
  · go_wp2_with fail
    refine (dirs_st HFW.out HI.out (by omega)).mono ?_
    rintro e w3 ⟨A3, c3, rfl, how3, hchg', hnew3⟩
    have HB3 := Lib.hid (HB22.out.chg hchg' List.not_mem_nil)
    have y0 := HB3.out.cell 0
    have y1 := HB3.out.cell 1
    have y2 := HB3.out.cell 2
    have z0 := HB3.out.frozen 0
    have z1 := HB3.out.frozen 1
    have z2 := HB3.out.frozen 2
    simp only [List.getElem?_toArray, List.getElem?_cons_succ, List.getElem?_cons_zero] at y0 y1 y2
    have HO3 := Lib.hid how3
    have HC3 := Lib.hid hchg'
    have HN3 := Lib.hid hnew3
    clear how3 hchg' hnew3
    go_wp2
    refine bodyPost_ret (by simp [results, Tryz.results8, go_sem, y0, y1, y2]; try rfl) rfl ?_
    exact callTo_row HCW.out HCG2.out HRB.out HRBW.out HFW.out HC3.out (Own.nil _ _ _) HO3.out (by simp) HN3.out
  · go_wp2_with fail
    refine (write_st HFW.out HI.out dir name A2 n c2 data HOWN2.out.rd (by omega) (fun x hx hm => by have h1 := HN2.out x hx; have h2 := HF.out.lt x hm; have h3 := HCW.out.size; omega)).mono ?_
    rintro e w3 ⟨rfl, G', hf', hb', hall', hchg'⟩
    have HF3 := Lib.hid hf'
    have HC3 := Lib.hid hchg'
    have HA3 := Lib.hid hall'
    clear hf' hchg' hall' q1 q2 q3
    obtain ⟨cd, hcd⟩ : ∃ cd, (S.write dir name data).2 = cd := ⟨_, rfl⟩
    rw [hcd]
    have HCD := Lib.hid hcd
    clear hcd
    obtain ⟨ab, hab⟩ : ∃ ab, w3.heap.size = ab := ⟨_, rfl⟩
    obtain ⟨W4, hW4⟩ : ∃ W4, W4 = w3.alloc (.cells #[.int .i64 cd, .slice none 0 0, .slice none 0 0] 36) := ⟨_, rfl⟩
    have hb4 : Blk W4 ab 36 #[.int .i64 cd, .slice none 0 0, .slice none 0 0] := by rw [hW4, ← hab]; exact Blk.new w3 _ _
    have hc4 : Chg [] w3 W4 := by rw [hW4]; exact (Chg.refl _ _).alloc _
    have HW4 := Lib.hid hW4
    have HB4 := Lib.hid hb4
    have HC4 := Lib.hid hc4
    have HAB := Lib.hid hab
    clear hW4 hb4 hc4
    have HSB4 := Lib.hid ((HB12.out.chg HC3.out (fun hh => by have := HF.out.lt sb hh; omega)).chg HC4.out List.not_mem_nil)
    have p4 := HSB4.out.cell 4
    have p4a := (HB12.out.chg HC3.out (fun hh => by have := HF.out.lt sb hh; omega)).cell 4
    simp only [List.getElem?_toArray, List.getElem?_cons_succ, List.getElem?_cons_zero] at p4 p4a
    have HO4 : Hid (Own W4 5 1 A2 n c2 (bv data)) := Lib.hid ((HOWN2.out.chg HC3.out (fun x hx hm => by have h1 := HN2.out x hx; have h2 := HF.out.lt x hm; have h3 := HCW.out.size; omega)).chg HC4.out (fun _ _ => List.not_mem_nil))
    have HD4 : Hid (Rd W4 1 A n c (bv data)) := Lib.hid ((((HD.out.chg (HCW.out.trans0 HCG2.out) (fun _ _ => List.not_mem_nil)).chgz HC3.out HDIS.out)).chg HC4.out (fun _ _ => List.not_mem_nil))
    go_upto_region 11 with fail
    rw [← HW4.out]
    clear hab p4a
    go_wp2_with fail
    refine (sameb_any A2 n c2 data A n c data W4 HO4.out.rd HD4.out).mono ?_
    rintro e w6 ⟨bb, rfl, hbb, hc6⟩
    obtain rfl := hbb rfl
    have HC6 := Lib.hid hc6
    have HO6 := Lib.hid (HO4.out.chg hc6 (fun _ _ => List.not_mem_nil))
    clear hc6 hbb p4
    go_wp2
    go_loopw [7, 57] (fun _ s57 wr => ∃ (k : Nat) (cs : List Value), k ≤ n ∧ s57 = .int .i64 k ∧ Own wr 5 1 A2 n c2 cs ∧ Chg (bo A2) w6 wr) (fun _ s57 _ => n - (intOf s57).toNat)
    case atStart => exact ⟨0, _, Nat.zero_le _, rfl, HO6.out, Chg.refl _ _⟩
    case round =>
      obtain ⟨k, cs, hk, rfl, hown, hch⟩ := hrel
      have HCH := Lib.hid hch
      have HOW := Lib.hid hown
      clear hch hown
      by_cases hlt : k < n
      · have hlt' : (k : Int) < n := by omega
        obtain ⟨ad, u, rfl, _, hcell, hfz, hset⟩ := HOW.out.at1 hlt
        have HSET := Lib.hid hset
        have HADB : Hid ((ad.add k).block ∈ bo (some ad)) := Lib.hid (by simp [add_block])
        clear hset
        go_wp2
        go_roundw
        case rel => exact ⟨k + 1, _, by omega, by go_num, HSET.out _, HCH.out.setCell (.inl HADB.out) _⟩
        case measure => simp [intOf]; omega
      · have HC7 : Hid (Chg [] w3 w6) := Lib.hid (HC4.out.trans0 HC6.out)
        have HBA := Lib.hid ((HB4.out.chg HC6.out List.not_mem_nil).chg HCH.out (fun hm => by have h1 := HOWN2.out.lt ab hm; have h2 := HC3.out.size; have h3 := HAB.out; omega))
        have HNR : Hid (rb ∉ bo A2) := Lib.hid (fun hm => by have h1 := HN2.out rb hm; have h2 := HB2.out.lt; omega)
        have HB3 := Lib.hid (((HB22.out.chg HC3.out HRB.out).chg HC7.out List.not_mem_nil).chg HCH.out HNR.out)
        have y0 := HB3.out.cell 0
        have y1 := HB3.out.cell 1
        have y2 := HB3.out.cell 2
        have z0 := HB3.out.frozen 0
        have z1 := HB3.out.frozen 1
        have z2 := HB3.out.frozen 2
        have a0 := HBA.out.cell 0
        have a1 := HBA.out.cell 1
        have a2 := HBA.out.cell 2
        simp only [List.getElem?_toArray, List.getElem?_cons_succ, List.getElem?_cons_zero] at y0 y1 y2 a0 a1 a2
        go_wp2
        refine bodyPost_ret (by simp [results, Tryz.results8, go_sem, y0, y1, y2]; try rfl) rfl ?_
        have hg : ∀ x ∈ bo A2, W1.heap.size ≤ x ∧ x < w2.heap.size := fun x hx => ⟨HN2.out x hx, HOWN2.out.lt x hx⟩
        have hff := (HF3.out.keep0 HC7.out).keep HCH.out (fun x hx hm => by
          rcases HA3.out x hx with h | h
          · have h1 := (hg x hm).1; have h2 := HF.out.lt x h; have h3 := HCW.out.size; omega
          · have h1 := (hg x hm).2; omega)
        have hcd := HCD.out
        subst hcd
        exact callTo_code HCW.out (Chg.refl [] W1) HRB.out ⟨HRBW.out.1, HB2.out.lt⟩ hff hb' (fun x hx => by
          rcases HA3.out x hx with h | h
          · exact .inl h
          · exact .inr (Nat.le_trans HCG2.out.size h)) ((((HCG2.out.nil G.all).trans HC3.out (fun x hx => .inl hx)).trans0 HC7.out).trans HCH.out (fun x hx => .inr (hg x hx).1))
  · go_wp2_with fail
    refine (write_st HFW.out HI.out dir name A2 n c2 data HOWN2.out.rd (by omega) (fun x hx hm => by have h1 := HN2.out x hx; have h2 := HF.out.lt x hm; have h3 := HCW.out.size; omega)).mono ?_
    rintro e w3 ⟨rfl, G', hf', hb', hall', hchg'⟩
    have HF3 := Lib.hid hf'
    have HC3 := Lib.hid hchg'
    have HA3 := Lib.hid hall'
    clear hf' hchg' hall' q1 q2 q3
    obtain ⟨cd, hcd⟩ : ∃ cd, (S.write dir name data).2 = cd := ⟨_, rfl⟩
    rw [hcd]
    have HCD := Lib.hid hcd
    clear hcd
    obtain ⟨ab, hab⟩ : ∃ ab, w3.heap.size = ab := ⟨_, rfl⟩
    obtain ⟨W4, hW4⟩ : ∃ W4, W4 = w3.alloc (.cells #[.int .i64 cd, .slice none 0 0, .slice none 0 0] 36) := ⟨_, rfl⟩
    have hb4 : Blk W4 ab 36 #[.int .i64 cd, .slice none 0 0, .slice none 0 0] := by rw [hW4, ← hab]; exact Blk.new w3 _ _
    have hc4 : Chg [] w3 W4 := by rw [hW4]; exact (Chg.refl _ _).alloc _
    have HW4 := Lib.hid hW4
    have HB4 := Lib.hid hb4
    have HC4 := Lib.hid hc4
    have HAB := Lib.hid hab
    clear hW4 hb4 hc4
    have HSB4 := Lib.hid ((HB12.out.chg HC3.out (fun hh => by have := HF.out.lt sb hh; omega)).chg HC4.out List.not_mem_nil)
    have p4 := HSB4.out.cell 4
    have p4a := (HB12.out.chg HC3.out (fun hh => by have := HF.out.lt sb hh; omega)).cell 4
    simp only [List.getElem?_toArray, List.getElem?_cons_succ, List.getElem?_cons_zero] at p4 p4a
    have HO4 : Hid (Own W4 5 1 A2 n c2 (bv data)) := Lib.hid ((HOWN2.out.chg HC3.out (fun x hx hm => by have h1 := HN2.out x hx; have h2 := HF.out.lt x hm; have h3 := HCW.out.size; omega)).chg HC4.out (fun _ _ => List.not_mem_nil))
    have HD4 : Hid (Rd W4 1 A n c (bv data)) := Lib.hid ((((HD.out.chg (HCW.out.trans0 HCG2.out) (fun _ _ => List.not_mem_nil)).chgz HC3.out HDIS.out)).chg HC4.out (fun _ _ => List.not_mem_nil))
    go_upto_region 11 with fail
    rw [← HW4.out]
    clear hab p4a
    go_wp2_with fail
    refine (sameb_any A2 n c2 data A n c data W4 HO4.out.rd HD4.out).mono ?_
    rintro e w6 ⟨bb, rfl, hbb, hc6⟩
    obtain rfl := hbb rfl
    have HC6 := Lib.hid hc6
    have HO6 := Lib.hid (HO4.out.chg hc6 (fun _ _ => List.not_mem_nil))
    clear hc6 hbb p4
    go_wp2
    go_loopw [7, 57] (fun _ s57 wr => ∃ (k : Nat) (cs : List Value), k ≤ n ∧ s57 = .int .i64 k ∧ Own wr 5 1 A2 n c2 cs ∧ Chg (bo A2) w6 wr) (fun _ s57 _ => n - (intOf s57).toNat)
    case atStart => exact ⟨0, _, Nat.zero_le _, rfl, HO6.out, Chg.refl _ _⟩
    case round =>
      obtain ⟨k, cs, hk, rfl, hown, hch⟩ := hrel
      have HCH := Lib.hid hch
      have HOW := Lib.hid hown
      clear hch hown
      by_cases hlt : k < n
      · have hlt' : (k : Int) < n := by omega
        obtain ⟨ad, u, rfl, _, hcell, hfz, hset⟩ := HOW.out.at1 hlt
        have HSET := Lib.hid hset
        have HADB : Hid ((ad.add k).block ∈ bo (some ad)) := Lib.hid (by simp [add_block])
        clear hset
        go_wp2
        go_roundw
        case rel => exact ⟨k + 1, _, by omega, by go_num, HSET.out _, HCH.out.setCell (.inl HADB.out) _⟩
        case measure => simp [intOf]; omega
      · have HC7 : Hid (Chg [] w3 w6) := Lib.hid (HC4.out.trans0 HC6.out)
        have HBA := Lib.hid ((HB4.out.chg HC6.out List.not_mem_nil).chg HCH.out (fun hm => by have h1 := HOWN2.out.lt ab hm; have h2 := HC3.out.size; have h3 := HAB.out; omega))
        have HNR : Hid (rb ∉ bo A2) := Lib.hid (fun hm => by have h1 := HN2.out rb hm; have h2 := HB2.out.lt; omega)
        have HB3 := Lib.hid (((HB22.out.chg HC3.out HRB.out).chg HC7.out List.not_mem_nil).chg HCH.out HNR.out)
        have y0 := HB3.out.cell 0
        have y1 := HB3.out.cell 1
        have y2 := HB3.out.cell 2
        have z0 := HB3.out.frozen 0
        have z1 := HB3.out.frozen 1
        have z2 := HB3.out.frozen 2
        have a0 := HBA.out.cell 0
        have a1 := HBA.out.cell 1
        have a2 := HBA.out.cell 2
        simp only [List.getElem?_toArray, List.getElem?_cons_succ, List.getElem?_cons_zero] at y0 y1 y2 a0 a1 a2
        go_wp2
        refine bodyPost_ret (by simp [results, Tryz.results8, go_sem, y0, y1, y2]; try rfl) rfl ?_
        have hg : ∀ x ∈ bo A2, W1.heap.size ≤ x ∧ x < w2.heap.size := fun x hx => ⟨HN2.out x hx, HOWN2.out.lt x hx⟩
        have hff := (HF3.out.keep0 HC7.out).keep HCH.out (fun x hx hm => by
          rcases HA3.out x hx with h | h
          · have h1 := (hg x hm).1; have h2 := HF.out.lt x h; have h3 := HCW.out.size; omega
          · have h1 := (hg x hm).2; omega)
        have hcd := HCD.out
        subst hcd
        exact callTo_code HCW.out (Chg.refl [] W1) HRB.out ⟨HRBW.out.1, HB2.out.lt⟩ hff hb' (fun x hx => by
          rcases HA3.out x hx with h | h
          · exact .inl h
          · exact .inr (Nat.le_trans HCG2.out.size h)) ((((HCG2.out.nil G.all).trans HC3.out (fun x hx => .inl hx)).trans0 HC7.out).trans HCH.out (fun x hx => .inr (hg x hx).1))
  · go_wp2_with fail
    refine (sync_st HFW.out HI.out dir name (by omega)).mono ?_
    rintro e w3 ⟨rfl, G', hf', hb', hall', hchg'⟩
    have HB3 := Lib.hid (HB22.out.chg hchg' HRB.out)
    have y0 := HB3.out.cell 0
    have y1 := HB3.out.cell 1
    have y2 := HB3.out.cell 2
    have z0 := HB3.out.frozen 0
    have z1 := HB3.out.frozen 1
    have z2 := HB3.out.frozen 2
    simp only [List.getElem?_toArray, List.getElem?_cons_succ, List.getElem?_cons_zero] at y0 y1 y2
    have HF3 := Lib.hid hf'
    have HC3 := Lib.hid hchg'
    have HA3 := Lib.hid hall'
    clear hf' hchg' hall'
    go_wp2
    refine bodyPost_ret (by simp [results, Tryz.results8, go_sem, y0, y1, y2]; try rfl) rfl ?_
    exact callTo_code HCW.out HCG2.out HRB.out HRBW.out HF3.out hb' HA3.out HC3.out
  · go_wp2_with fail
    refine (names_st HFW.out HI.out (by omega)).mono ?_
    rintro e w3 ⟨rfl, G', hf', hb', hall', hchg'⟩
    have HB3 := Lib.hid (HB22.out.chg hchg' HRB.out)
    have y0 := HB3.out.cell 0
    have y1 := HB3.out.cell 1
    have y2 := HB3.out.cell 2
    have z0 := HB3.out.frozen 0
    have z1 := HB3.out.frozen 1
    have z2 := HB3.out.frozen 2
    simp only [List.getElem?_toArray, List.getElem?_cons_succ, List.getElem?_cons_zero] at y0 y1 y2
    have HF3 := Lib.hid hf'
    have HC3 := Lib.hid hchg'
    have HA3 := Lib.hid hall'
    clear hf' hchg' hall'
    go_wp2
    refine bodyPost_ret (by simp [results, Tryz.results8, go_sem, y0, y1, y2]; try rfl) rfl ?_
    exact callTo_code HCW.out HCG2.out HRB.out HRBW.out HF3.out hb' HA3.out HC3.out
  · go_wp2_with fail
    refine (dirs_st HFW.out HI.out (by omega)).mono ?_
    rintro e w3 ⟨A3, c3, rfl, how3, hchg', hnew3⟩
    have HB3 := Lib.hid (HB22.out.chg hchg' List.not_mem_nil)
    have y0 := HB3.out.cell 0
    have y1 := HB3.out.cell 1
    have y2 := HB3.out.cell 2
    have z0 := HB3.out.frozen 0
    have z1 := HB3.out.frozen 1
    have z2 := HB3.out.frozen 2
    simp only [List.getElem?_toArray, List.getElem?_cons_succ, List.getElem?_cons_zero] at y0 y1 y2
    have HO3 := Lib.hid how3
    have HC3 := Lib.hid hchg'
    have HN3 := Lib.hid hnew3
    clear how3 hchg' hnew3
    go_wp2
    refine bodyPost_ret (by simp [results, Tryz.results8, go_sem, y0, y1, y2]; try rfl) rfl ?_
    exact callTo_row HCW.out HCG2.out HRB.out HRBW.out HFW.out HC3.out (Own.nil _ _ _) HO3.out (by simp) HN3.out
end Go.Proofs.YtgomofeidghmiaaGreat
