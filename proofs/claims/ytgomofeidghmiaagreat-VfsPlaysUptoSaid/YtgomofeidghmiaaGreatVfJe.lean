/-
  Layer 08: View.
  Maps whose keys are pointers to blocks of plain cells.
  Layer 08: Durable's closure; which writes are kept, by file.
-/
import Derived.Test.YtgomofeidghmiaaGreatVfT
import Derived.Test.YtgomofeidghmiaaGreatVfQ
import Derived.Test.YtgomofeidghmiaaGreatVfJc
namespace Go.Proofs.YtgomofeidghmiaaGreat
open Go.RowKit

set_option maxRecDepth 100000 in
set_option maxHeartbeats 3200000 in
theorem view1_any {w : World} {G : FsG} {S : St} {B : Nat} (h : FsM w G S) (hi : Inv B S) (hB : B ≤ 1073741824) {i : Nat} (hil : i < S.files.length) :
    Calls Tryz.prog 54 #[.pointer (some ⟨ibf G.ib i, 0, none⟩)] w (NewRow 5 1 w (bv (S.bytes i)) (S.bytes i).length) := by
  obtain ⟨g, L, _, hbx, hs, _⟩ := h.spo hil
  have c0 := hbx.cell 0
  simp at c0
  have HS := Lib.hid hs
  have HL := Lib.hid (show _ ≤ 1073741824 from Nat.le_trans (hi.fil i).1 hB)
  clear h hi hbx hs
  go_enter Tryz.func54, Tryz.ntmps54
  go_wp2_with fail
  refine (seen_any g L _ _ w HS.out HL.out (S.bytes i).length rfl).mono ?_
  rintro e w2 ⟨A, c, rfl, ho, hc2, hn⟩
  have HO := Lib.hid ho
  have HC2 := Lib.hid hc2
  have HN := Lib.hid hn
  clear ho hc2 hn
  go_wp2
  go_ret
  exact ⟨A, c, rfl, HO.out, HC2.out, HN.out⟩

theorem view_shows {S : St} (h : S.down = false) : S.view = shows S.bytes S.seen := by
  unfold St.view shows
  rw [if_neg (by simp [h])]

set_option maxRecDepth 100000 in
set_option maxHeartbeats 3200000 in
theorem view_st {w : World} {G : FsG} {S : St} {B : Nat} (h : FsM w G S) (hi : Inv B S) (hB : B ≤ 1073741824) :
    Calls Tryz.prog 17 #[.pointer (some ⟨G.b, 0, none⟩)] w (NewDsk w S.view) := by
  have HF := Lib.hid h
  have HI := Lib.hid hi
  have HB := Lib.hid hB
  clear h hi hB
  go_enter Tryz.func17, Tryz.ntmps17
  go_wp2_with fail
  refine (down_st HF.out).mono ?_
  rintro e w1 ⟨rfl, hc1⟩
  have HC1 := Lib.hid hc1
  cases hd : S.down with
  | true =>
    have HR : Hid (S.view = []) := Lib.hid (by unfold St.view; rw [if_pos hd])
    clear hc1 hd
    go_wp2
    go_ret
    rw [HR.out]
    exact ⟨none, 0, 0, [], rfl, ⟨Own.nil _ _ _, by simp, by simp [dblk]⟩, rfl, HC1.out, by simp [dblk]⟩
  | false =>
    have HR := Lib.hid (view_shows hd)
    have HF1 := Lib.hid (HF.out.keep0 hc1)
    have h0 := HF1.out.blk.cell 0
    simp at h0
    clear hc1 hd
    go_wp2_with fail
    refine (disk_view w1 G.t1 G.g1 G.ib S.seen S.files.length S.bytes HF1.out.tr1 HF1.out.is1 HI.out.val (Nat.le_trans HI.out.wd HB.out) (fun i hil wr hc => view1_any (HF1.out.keep0 hc) HI.out HB.out hil)).mono ?_
    rintro e w2 ⟨A, n, c, ds, rfl, hds, hv, hc2, hn⟩
    have HDS := Lib.hid hds
    have HV := Lib.hid hv
    have HC2 := Lib.hid hc2
    have HN := Lib.hid hn
    clear hds hv hc2 hn
    go_wp2
    go_ret
    exact ⟨A, n, c, ds, rfl, HDS.out, by rw [HV.out, HR.out], HC1.out.trans0 HC2.out, fun k hk => Nat.le_trans HC1.out.size (HN.out k hk)⟩
end Go.Proofs.YtgomofeidghmiaaGreat

namespace Go.Proofs.YtgomofeidghmiaaGreat
open Go.RowKit

/-- looking for a key among these, in this world -/
structure KeyAt (P : Program) (kt : TypeId) {κ : Type} [DecidableEq κ] (kv : κ → Value) (w : World) (k : κ) (ks : List κ) : Prop where
  find : ∀ es : List MapEntry, es.map (·.key) = ks.map kv → (Instr.findKey kt (kv k) es).run P w = .ok ((ks.idxOf? k).bind fun i => (es[i]?).map fun e => (i, e.val)) w
  check : ∀ e : Bool, (Instr.checkKey e 10000 kt (kv k)).run P w = .ok () w
  bits : Instr.sameBits 10000 (kv k) (kv k) = true

section mp
variable {κ : Type} [DecidableEq κ] {P : Program} {w w' : World} {b : Nat} {kv : κ → Value} {m : List (κ × Value)}
/-- m[k] -/
theorem Mp.lookupAt (h : Mp w b kv m) {t kt e : TypeId} (k : κ) (hK : KeyAt P kt kv w k (m.map Prod.fst)) (ht : P.underlying t = some (.map kt e)) {z : Value} (hz : (zeroValue e).run P w = .ok z w) :
    (Instr.lookup t (.map (some b)) (kv k) false).run P w = .ok ((aget m k).getD z) w := by
  obtain ⟨es, c, hb, he, _⟩ := h
  have hf := hK.find es.toList (Mp.keys he)
  have hv : ∀ i : Nat, (es.toList[i]?).map (fun e : MapEntry => e.val) = (m[i]?).map (fun p : κ × Value => p.2) := fun i => by
    have := congrArg (fun l => (l[i]?).map Prod.snd) he
    simp only [List.getElem?_map, Option.map_map] at this
    exact this
  have hrun : (getObj b).run P w = .ok (.map es c) w := by simp [getObj, Sem.run, hb]
  unfold Instr.lookup aget
  simp only [Sem.run_bind, run_underlying ht, Result.andThen_ok, hrun, Sem.run_pure, hK.check, hf]
  cases hx : (m.map Prod.fst).idxOf? k with
  | none => simp [hz]
  | some i =>
    have h1 := aidx_some hx
    rw [List.getElem?_map] at h1
    have := hv i
    cases hmi : m[i]? with
    | none => rw [hmi] at h1; cases h1
    | some p =>
      rw [hmi] at this
      cases hei : es.toList[i]? with
      | none => rw [hei] at this; cases this
      | some e0 =>
        rw [hei] at this
        simp at this
        have hei' : es[i]? = some e0 := by simpa using hei
        simp [hei', hmi, this]

/-- m[k] = v -/
theorem Mp.updateAt (h : Mp w b kv m) {t kt e : TypeId} (k : κ) (hK : KeyAt P kt kv w k (m.map Prod.fst)) (ht : P.underlying t = some (.map kt e)) (v : Value) :
    ∃ w', (Instr.mapUpdate t (.map (some b)) (kv k) v).run P w = .ok () w' ∧ Mp w' b kv (aput m k v) ∧ Chg [b] w w' := by
  obtain ⟨es, c, hb, he, hn, hs, hc⟩ := h
  have hf := hK.find es.toList (Mp.keys he)
  have hrun : (getObj b).run P w = .ok (.map es c) w := by simp [getObj, Sem.run, hb]
  have hlt : b < w.heap.size := (Array.getElem?_eq_some_iff.1 hb).1
  have hset : ∀ o : Obj, (setObj b o).run P w = .ok () { w with heap := w.heap.setIfInBounds b o } := fun o => by simp [setObj, Sem.run, hb]
  have hchg : ∀ o : Obj, Chg [b] w { w with heap := w.heap.setIfInBounds b o } := fun o => ⟨rfl, rfl, rfl, by simp, fun i hi hne => by
    simp only [Array.getElem?_setIfInBounds]
    rw [if_neg (fun e => hne (by simp [e]))]⟩
  have hat : ∀ o : Obj, ({ w with heap := w.heap.setIfInBounds b o } : World).heap[b]? = some o := fun o => by simp [hlt]
  cases hx : (m.map Prod.fst).idxOf? k with
  | none =>
    refine ⟨_, ?_, ⟨es.push { key := kv k, val := v, born := c }, c + 1, hat _, ?_, aput_keys_nodup hn k v, ?_, ?_⟩, hchg _⟩
    · unfold Instr.mapUpdate
      simp only [Sem.run_bind, run_underlying ht, Result.andThen_ok, hrun, hK.check, hf, hx]
      simp [hset]
    · simp only [aput, hx, Array.toList_push, List.map_append, he, List.map_cons, List.map_nil]
    · simp only [Array.toList_push, List.map_append, List.map_cons, List.map_nil]
      rw [List.nodup_append]
      refine ⟨hs, by simp, fun a ha b' hb' => ?_⟩
      obtain ⟨e0, he0, rfl⟩ := List.mem_map.1 ha
      simp at hb'
      subst hb'
      have := hc e0 he0
      omega
    · intro e0 he0
      simp only [Array.toList_push, List.mem_append, List.mem_singleton] at he0
      rcases he0 with he0 | rfl
      · have := hc e0 he0; omega
      · simp
  | some i =>
    have h1 := aidx_some hx
    have hil : i < es.size := by
      have := (List.getElem?_eq_some_iff.1 h1).1
      have e2 := congrArg List.length he
      simp at this e2
      omega
    have hei : es[i]? = some es[i] := Array.getElem?_eq_getElem hil
    have hkey : (es[i]).key = kv k := by
      have e3 := congrArg (fun l => l[i]?) (Mp.keys he)
      simp only [List.getElem?_map, Array.getElem?_toList, hei] at e3
      rw [List.getElem?_map] at h1
      cases hmi : m[i]? with
      | none => rw [hmi] at h1; cases h1
      | some p =>
        rw [hmi] at e3 h1
        simp at e3 h1
        rw [e3, h1]
    have hml : (es.modify i fun e => { e with key := kv k, val := v }).toList = es.toList.set i { es[i] with key := kv k, val := v } := by
      apply List.ext_getElem?
      intro j
      rw [Array.getElem?_toList, Array.getElem?_modify, List.getElem?_set, Array.getElem?_toList]
      by_cases hij : i = j
      · subst hij; simp [hil]
      · rw [if_neg hij, if_neg hij]
    refine ⟨_, ?_, ⟨es.modify i fun e => { e with key := kv k, val := v }, c, hat _, ?_, aput_keys_nodup hn k v, ?_, ?_⟩, hchg _⟩
    · unfold Instr.mapUpdate
      simp only [Sem.run_bind, run_underlying ht, Result.andThen_ok, hrun, hK.check, hf, hx]
      have hstay : (Instr.keyThatStays (kv k) (kv k)).run P w = .ok (kv k) w := by simp [Instr.keyThatStays, hK.bits]
      simp [hei, hkey, hstay, hset]
    · rw [hml]
      simp only [aput, hx, List.map_set, he]
    · rw [hml, List.map_set]
      have : (es.toList.map (·.born)).set i (es[i]).born = es.toList.map (·.born) := by
        apply List.ext_getElem?
        intro j
        rw [List.getElem?_set]
        split
        · rename_i hij; subst hij; simp [hil]
        · rfl
      rw [this]; exact hs
    · intro e0 he0
      rw [hml] at he0
      rcases List.mem_or_eq_of_mem_set he0 with h2 | h2
      · exact hc e0 h2
      · subst h2; exact hc es[i] (by simp)
end mp

theorem equal_inode {w : World} {x y : Nat} (hx : IsB w x) (hy : IsB w y) : (Op.equal 95 (pv x) (pv y)).run Tryz.prog w = .ok (decide (x = y)) w := by
  have h := eql_inode hx hy
  simp only [binOp, Sem.run_bind] at h
  cases hr : (Op.equal 95 (pv x) (pv y)).run Tryz.prog w with
  | ok b w' =>
    unfold pv at hr
    rw [hr] at h
    simp only [Result.andThen_ok, Sem.run_pure, Result.ok.injEq, Value.bool.injEq] at h
    rw [h.1, h.2]
  | _ => unfold pv at hr; rw [hr] at h; cases h

theorem asking_inode {w : World} {x : Nat} (hx : IsB w x) : ∀ (es : List MapEntry) (ks : List Nat) (i : Nat), es.map (·.key) = ks.map pv → (∀ k ∈ ks, IsB w k) →
    (Instr.findAsking 95 (pv x) es i).run Tryz.prog w = .ok ((ks.idxOf? x).bind fun j => (es[j]?).map fun e => (i + j, e.val)) w
  | [], [], i, _, _ => by simp [Instr.findAsking]
  | [], k' :: ks, i, he, _ => by simp at he
  | e :: es, [], i, he, _ => by simp at he
  | e :: es, k' :: ks, i, he, hb => by
    simp only [List.map_cons, List.cons.injEq] at he
    unfold Instr.findAsking
    rw [he.1]
    simp only [Sem.run_bind, equal_inode hx (hb k' (by simp)), Result.andThen_ok]
    by_cases hk : x = k'
    · subst hk
      rw [List.idxOf?_cons, beq_self_eq_true]
      simp
    · simp only [hk, decide_false]
      have ih := asking_inode hx es ks (i + 1) he.2 (fun k hk => hb k (List.mem_cons_of_mem _ hk))
      rw [List.idxOf?_cons]
      have : (k' == x) = false := by simp; exact fun e => hk e.symm
      rw [this]
      simp only [Bool.false_eq_true, if_false]
      rw [ih]
      cases ks.idxOf? x with
      | none => rfl
      | some j => simp [Nat.add_assoc, Nat.add_comm 1 j]

theorem inode_key {w : World} {x : Nat} {ks : List Nat} (hx : IsB w x) (hks : ∀ k ∈ ks, IsB w k) : KeyAt Tryz.prog 95 pv w x ks where
  find := fun es he => by
    unfold Instr.findKey
    simp only [Sem.run_bind, run_underlying Tryz.underlying95, Result.andThen_ok]
    cases es with
    | nil =>
      cases ks with
      | nil => simp [Instr.findNow]
      | cons k r => simp at he
    | cons e es =>
      cases ks with
      | nil => simp at he
      | cons k r =>
        have hk : e.key = pv k := by simp only [List.map_cons, List.cons.injEq] at he; exact he.1
        have hn : Instr.findNow (.pointer 98) (pv x) (e :: es) 0 = none := by
          unfold Instr.findNow
          rw [hk]
          simp [Instr.sameNow]
        rw [hn]
        have := asking_inode hx (e :: es) (k :: r) 0 he hks
        simp only [Nat.zero_add] at this
        exact this
  check := fun e => by
    show (Instr.checkKey e (9999 + 1) 95 (pv x)).run Tryz.prog w = _
    unfold Instr.checkKey
    simp [run_underlying Tryz.underlying95, pv]
  bits := by simp [Instr.sameBits, pv]
end Go.Proofs.YtgomofeidghmiaaGreat

namespace Go.Proofs.YtgomofeidghmiaaGreat
open Go.RowKit

structure KRow where
  A : Option Addr
  n : Nat
  c : Nat
  bs : List Bool
def KRow.v (r : KRow) : Value := .slice r.A r.n r.c
def KRow.nil : KRow := ⟨none, 0, 0, []⟩
abbrev KG := List (Nat × KRow)
def kgv (kg : KG) : List (Nat × Value) := kg.map fun p => (p.1, p.2.v)
def kblk (kg : KG) : List Nat := kg.flatMap fun p => bo p.2.A
/-- what is kept of x's writes -/
def kbs (kg : KG) (x : Nat) : List Bool := ((aget kg x).getD KRow.nil).bs
structure KMap (w : World) (km : Nat) (kg : KG) : Prop where
  top : Mp w km pv (kgv kg)
  row : ∀ p ∈ kg, Own w 4 1 p.2.A p.2.n p.2.c (kv p.2.bs)
  isb : ∀ p ∈ kg, IsB w p.1
  sep : (kblk kg).Nodup
theorem kgv_fst (kg : KG) : (kgv kg).map Prod.fst = kg.map Prod.fst := by unfold kgv; rw [List.map_map]; rfl
theorem aget_kgv (kg : KG) (x : Nat) : (aget (kgv kg) x).getD (.slice none 0 0) = ((aget kg x).getD KRow.nil).v := by
  unfold kgv
  rw [aget_map (fun r : KRow => r.v)]
  cases aget kg x <;> rfl
theorem KMap.get {w : World} {km : Nat} {kg : KG} (h : KMap w km kg) (x : Nat) : Own w 4 1 ((aget kg x).getD KRow.nil).A ((aget kg x).getD KRow.nil).n ((aget kg x).getD KRow.nil).c (kv (kbs kg x)) := by
  unfold kbs
  cases hx : aget kg x with
  | none => exact Own.nil _ _ _
  | some r => exact h.row _ (aget_mem hx)
theorem KMap.chg {w w' : World} {km : Nat} {kg : KG} {L : List Nat} (h : KMap w km kg) (hc : Chg L w w') (h1 : km ∉ L) (h2 : ∀ k ∈ kblk kg, k ∉ L) (h3 : ∀ p ∈ kg, p.1 ∉ L) : KMap w' km kg :=
  ⟨h.top.chg hc h1, fun p hp => (h.row p hp).chg hc (fun k hk => h2 k (List.mem_flatMap.2 ⟨p, hp, hk⟩)), fun p hp => (h.isb p hp).chg hc (h3 p hp), h.sep⟩
theorem KMap.chg0 {w w' : World} {km : Nat} {kg : KG} (h : KMap w km kg) (hc : Chg [] w w') : KMap w' km kg := h.chg hc List.not_mem_nil (fun _ _ => List.not_mem_nil) (fun _ _ => List.not_mem_nil)
theorem KMap.look {w : World} {km : Nat} {kg : KG} (h : KMap w km kg) {x : Nat} (hx : IsB w x) : (Instr.lookup 113 (.map (some km)) (pv x) false).run Tryz.prog w = .ok (((aget kg x).getD KRow.nil).v) w := by
  have := Mp.lookupAt h.top (t := 113) x (inode_key hx (fun k hk => by
    rw [kgv_fst] at hk
    obtain ⟨p, hp, rfl⟩ := List.mem_map.1 hk
    exact h.isb p hp)) Tryz.underlying113 (z := .slice none 0 0) (by kernel_rfl)
  rw [aget_kgv] at this
  exact this

set_option maxRecDepth 100000 in
set_option maxHeartbeats 3200000 in
theorem dur1_any {w : World} {G : FsG} {S : St} {B : Nat} (h : FsM w G S) (hi : Inv B S) (hB : B ≤ 1073741824) {i : Nat} (hil : i < S.files.length) (kc km : Nat) (kg : KG) (hk : w.cell? ⟨kc, 0, none⟩ = some (.map (some km))) (hm : KMap w km kg) (hkl : (kbs kg (ibf G.ib i)).length ≤ 1073741824) (ks : List Bool) (hks : kbs kg (ibf G.ib i) = ks) :
    Calls Tryz.prog 58 #[.pointer (some ⟨ibf G.ib i, 0, none⟩), .pointer (some ⟨kc, 0, none⟩)] w (NewRow 5 1 w (bv (aft (S.files.getD i ([], [])).1 (S.files.getD i ([], [])).1.length (S.files.getD i ([], [])).2 ks)) (aft (S.files.getD i ([], [])).1 (S.files.getD i ([], [])).1.length (S.files.getD i ([], [])).2 ks).length) := by
  subst hks
  obtain ⟨g, L, _, hbx, hs, _⟩ := h.spo hil
  have c0 := hbx.cell 0
  simp at c0
  have HS := Lib.hid hs
  have hL := (show _ ≤ 1073741824 from Nat.le_trans (hi.fil i).1 hB)
  have hL2 := (show _ ≤ 1073741824 from Nat.le_trans (hi.fil i).2 hB)
  clear HS
  generalize S.files.getD i ([], []) = f at hs hL hL2 ⊢
  have HS := Lib.hid hs
  have HL := Lib.hid hL
  have HL2 := Lib.hid hL2
  have hlk := (hm.chg0 (Chg.refl [] w).drew).look (IsB.chg ⟨_, _, hbx⟩ (Chg.refl [] w).drew List.not_mem_nil)
  unfold pv KRow.v at hlk
  have HM := Lib.hid hm
  have HKL := Lib.hid hkl
  clear h hi hbx hs hm hkl hL hL2 hil
  go_enter Tryz.func58, Tryz.ntmps58
  go_wp2
  go_still_tail 7, (by kernel_rfl)
  go_wp2_with fail
  refine (after_any g L _ _ _ _ _ _ _ (HS.out.chg (Chg.refl [] w).drew (fun _ _ => List.not_mem_nil)) HL.out HL2.out (by have h1 := (HM.out.get (ibf G.ib i)).1; have h2 := HKL.out; simp at h1; omega) ((HM.out.get (ibf G.ib i)).rd.chg (Chg.refl [] w).drew (fun _ _ => List.not_mem_nil)) _ rfl).mono ?_
  rintro e w2 ⟨A, c, rfl, ho, hc2, hn⟩
  have HO := Lib.hid ho
  have HC2 : Hid (Chg [] w w2) := Lib.hid ((Chg.refl [] w).drew.trans0 hc2)
  have HN := Lib.hid hn
  clear ho hc2 hn
  go_wp2
  go_ret
  exact ⟨A, c, rfl, HO.out, HC2.out, HN.out⟩
end Go.Proofs.YtgomofeidghmiaaGreat
