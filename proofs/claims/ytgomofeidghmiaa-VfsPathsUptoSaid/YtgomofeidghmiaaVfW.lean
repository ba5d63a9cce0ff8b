/-
  Layer 08: Durable's closure; which writes are kept, by file.
-/
import Derived.Test.YtgomofeidghmiaaVfV
import Derived.Test.YtgomofeidghmiaaVfU
namespace Go.Proofs.Ytgomofeidghmiaa
open Go.RowKit

structure KRow where
  A : Option Addr
  n : Nat
  c : Nat
  bs : List Bool
def KRow.v (r : KRow) : Value := .slice r.A r.n r.c
def KRow.nil : KRow := ⟨none, 0, 0, []⟩
abbrev KG := List (Nat × KRow)
def kgv (kg : KG) : List (Nat × Value) := kg.map fun p => (p.1, p.2.v)
def kblk (kg : KG) : List Nat := kg.flatMap fun p => bo p.2.A
/-- what is kept of x's writes -/
def kbs (kg : KG) (x : Nat) : List Bool := ((aget kg x).getD KRow.nil).bs
structure KMap (w : World) (km : Nat) (kg : KG) : Prop where
  top : Mp w km pv (kgv kg)
  row : ∀ p ∈ kg, Own w 4 1 p.2.A p.2.n p.2.c (kv p.2.bs)
  isb : ∀ p ∈ kg, IsB w p.1
  sep : (kblk kg).Nodup
theorem kgv_fst (kg : KG) : (kgv kg).map Prod.fst = kg.map Prod.fst := by unfold kgv; rw [List.map_map]; rfl
theorem aget_kgv (kg : KG) (x : Nat) : (aget (kgv kg) x).getD (.slice none 0 0) = ((aget kg x).getD KRow.nil).v := by
  unfold kgv
  rw [aget_map (fun r : KRow => r.v)]
  cases aget kg x <;> rfl
theorem KMap.get {w : World} {km : Nat} {kg : KG} (h : KMap w km kg) (x : Nat) : Own w 4 1 ((aget kg x).getD KRow.nil).A ((aget kg x).getD KRow.nil).n ((aget kg x).getD KRow.nil).c (kv (kbs kg x)) := by
  unfold kbs
  cases hx : aget kg x with
  | none => exact Own.nil _ _ _
  | some r => exact h.row _ (aget_mem hx)
theorem KMap.chg {w w' : World} {km : Nat} {kg : KG} {L : List Nat} (h : KMap w km kg) (hc : Chg L w w') (h1 : km ∉ L) (h2 : ∀ k ∈ kblk kg, k ∉ L) (h3 : ∀ p ∈ kg, p.1 ∉ L) : KMap w' km kg :=
  ⟨h.top.chg hc h1, fun p hp => (h.row p hp).chg hc (fun k hk => h2 k (List.mem_flatMap.2 ⟨p, hp, hk⟩)), fun p hp => (h.isb p hp).chg hc (h3 p hp), h.sep⟩
theorem KMap.chg0 {w w' : World} {km : Nat} {kg : KG} (h : KMap w km kg) (hc : Chg [] w w') : KMap w' km kg := h.chg hc List.not_mem_nil (fun _ _ => List.not_mem_nil) (fun _ _ => List.not_mem_nil)
theorem KMap.look {w : World} {km : Nat} {kg : KG} (h : KMap w km kg) {x : Nat} (hx : IsB w x) : (Instr.lookup 107 (.map (some km)) (pv x) false).run Try.prog w = .ok (((aget kg x).getD KRow.nil).v) w := by
  have := Mp.lookupAt h.top (t := 107) x (inode_key hx (fun k hk => by
    rw [kgv_fst] at hk
    obtain ⟨p, hp, rfl⟩ := List.mem_map.1 hk
    exact h.isb p hp)) Try.underlying107 (z := .slice none 0 0) (by kernel_rfl)
  rw [aget_kgv] at this
  exact this

set_option maxRecDepth 100000 in
set_option maxHeartbeats 3200000 in
theorem dur1_any {w : World} {G : FsG} {S : St} {B : Nat} (h : FsM w G S) (hi : Inv B S) (hB : B ≤ 1073741824) {i : Nat} (hil : i < S.files.length) (kc km : Nat) (kg : KG) (hk : w.cell? ⟨kc, 0, none⟩ = some (.map (some km))) (hm : KMap w km kg) (hkl : (kbs kg (ibf G.ib i)).length ≤ 1073741824) (ks : List Bool) (hks : kbs kg (ibf G.ib i) = ks) :
    Calls Try.prog 47 #[.pointer (some ⟨ibf G.ib i, 0, none⟩), .pointer (some ⟨kc, 0, none⟩)] w (NewRow 5 1 w (bv (aft (S.files.getD i ([], [])).1 (S.files.getD i ([], [])).1.length (S.files.getD i ([], [])).2 ks)) (aft (S.files.getD i ([], [])).1 (S.files.getD i ([], [])).1.length (S.files.getD i ([], [])).2 ks).length) := by
  subst hks
  obtain ⟨g, L, _, hbx, hs, _⟩ := h.spo hil
  have c0 := hbx.cell 0
  simp at c0
  have HS := Lib.hid hs
  have hL := (show _ ≤ 1073741824 from Nat.le_trans (hi.fil i).1 hB)
  have hL2 := (show _ ≤ 1073741824 from Nat.le_trans (hi.fil i).2 hB)
  clear HS
  generalize S.files.getD i ([], []) = f at hs hL hL2 ⊢
  have HS := Lib.hid hs
  have HL := Lib.hid hL
  have HL2 := Lib.hid hL2
  have hlk := (hm.chg0 (Chg.refl [] w).drew).look (IsB.chg ⟨_, _, hbx⟩ (Chg.refl [] w).drew List.not_mem_nil)
  unfold pv KRow.v at hlk
  have HM := Lib.hid hm
  have HKL := Lib.hid hkl
  clear h hi hbx hs hm hkl hL hL2 hil
  go_enter Try.func47, Try.ntmps47
  go_wp2
  go_still_tail 7, (by kernel_rfl)
  go_wp2_with fail
  refine (after_any g L _ _ _ _ _ _ _ (HS.out.chg (Chg.refl [] w).drew (fun _ _ => List.not_mem_nil)) HL.out HL2.out (by have h1 := (HM.out.get (ibf G.ib i)).1; have h2 := HKL.out; simp at h1; omega) ((HM.out.get (ibf G.ib i)).rd.chg (Chg.refl [] w).drew (fun _ _ => List.not_mem_nil)) _ rfl).mono ?_
  rintro e w2 ⟨A, c, rfl, ho, hc2, hn⟩
  have HO := Lib.hid ho
  have HC2 : Hid (Chg [] w w2) := Lib.hid ((Chg.refl [] w).drew.trans0 hc2)
  have HN := Lib.hid hn
  clear ho hc2 hn
  go_wp2
  go_ret
  exact ⟨A, c, rfl, HO.out, HC2.out, HN.out⟩
end Go.Proofs.Ytgomofeidghmiaa
