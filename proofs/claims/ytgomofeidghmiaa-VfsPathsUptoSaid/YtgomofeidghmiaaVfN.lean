/-
  Layer 08: Used: how many bytes are seen, whatever order the maps are gone over in.
-/
import Derived.Test.YtgomofeidghmiaaVfL
namespace Go.Proofs.Ytgomofeidghmiaa
open Go.RowKit

/-- a sum over keys -/
def ksum {α : Type} (c : α → Nat) (F : List (ByteArray × α)) (ks : List ByteArray) : Nat := (ks.map fun n => ((aget F n).map c).getD 0).sum
theorem ksum_perm {α : Type} {c : α → Nat} {F : List (ByteArray × α)} {a b : List ByteArray} (h : a.Perm b) : ksum c F a = ksum c F b := (h.map _).sum_nat
theorem ksum_append {α : Type} {c : α → Nat} {F : List (ByteArray × α)} (a b : List ByteArray) : ksum c F (a ++ b) = ksum c F a + ksum c F b := by simp [ksum]
theorem ksum_one {α : Type} {c : α → Nat} {F : List (ByteArray × α)} {n : ByteArray} {x : α} (h : aget F n = some x) : ksum c F [n] = c x := by simp [ksum, h]
theorem ksum_all {α : Type} (c : α → Nat) {F : List (ByteArray × α)} (hn : (F.map Prod.fst).Nodup) : ksum c F (F.map Prod.fst) = (F.map fun q => c q.2).sum := by
  unfold ksum
  rw [List.map_map]
  congr 1
  refine List.map_congr_left fun q hq => ?_
  simp only [Function.comp]
  rw [aget_mem' hn hq]; rfl
theorem sum_le_mul {α : Type} (l : List α) (f : α → Nat) (M : Nat) (h : ∀ x ∈ l, f x ≤ M) : (l.map f).sum ≤ l.length * M := by
  induction l with
  | nil => simp
  | cons x r ih =>
    simp only [List.map_cons, List.sum_cons, List.length_cons]
    have h1 := h x (by simp)
    have h2 := ih (fun y hy => h y (List.mem_cons_of_mem _ hy))
    rw [Nat.add_mul, Nat.one_mul]; omega

def St.len (S : St) (i : Nat) : Nat := (S.bytes i).length
def St.flen (S : St) (F : Fol) : Nat := (F.map fun q => S.len q.2).sum
theorem Inv.len {B : Nat} {S : St} (h : Inv B S) (i : Nat) : S.len i ≤ B := by
  unfold St.len St.bytes
  rw [List.getD_eq_getElem?_getD]
  cases hf : S.files[i]? with
  | none => simp [Fil.all]
  | some f =>
    have h1 := fil_le (List.mem_of_getElem? hf)
    have h2 := h.bulk
    simp only [Option.getD_some]; omega
theorem used_eq {S : St} (hd : S.down = false) : S.used = (S.seen.map fun p => S.flen p.2).sum := by
  unfold St.used St.view bytesOf
  rw [if_neg (by simp [hd]), List.map_map]
  congr 1
  refine List.map_congr_left fun p _ => ?_
  simp only [Function.comp]
  rw [List.map_map]; rfl
theorem flen_sum_le {B : Nat} {S : St} (h : Inv B S) (T : Tr) : (T.map fun p => S.flen p.2).sum ≤ wd T * B := by
  unfold wd
  induction T with
  | nil => simp
  | cons p r ih =>
    simp only [List.map_cons, List.sum_cons, Nat.add_mul]
    have h1 : S.flen p.2 ≤ p.2.length * B := sum_le_mul _ _ B (fun q _ => h.len q.2)
    omega
theorem used_le {B : Nat} {S : St} (h : Inv B S) : S.used ≤ B * B := by
  cases hd : S.down with
  | true => unfold St.used St.view; rw [if_pos hd]; simp [bytesOf]
  | false =>
    rw [used_eq hd]
    exact Nat.le_trans (flen_sum_le h S.seen) (Nat.mul_le_mul_right _ h.wd)

theorem FsM.size_ {w : World} {G : FsG} {S : St} (h : FsM w G S) {i : Nat} (hi : i < S.files.length) : ∃ g, Blk w (ibf G.ib i) 85 #[.pointer (some ⟨g, 0, none⟩)] ∧ Calls Try.prog 49 #[.pointer (some ⟨g, 0, none⟩)] w (fun e w' => e = .returned (.int .i64 (S.len i : Nat)) ∧ w' = w) := by
  have hf : S.files[i]? = some S.files[i] := List.getElem?_eq_getElem hi
  obtain ⟨x, g, L, h1, h2, h3, h4, h5⟩ := h.at_ hf
  refine ⟨g, by rw [ibf_at h1]; exact h4, size_any g L _ _ w h5 _ ?_⟩
  unfold St.len St.bytes
  rw [List.getD_eq_getElem?_getD, hf]
  simp [Fil.all]

set_option maxRecDepth 100000 in
set_option maxHeartbeats 3200000 in
theorem used_st {w : World} {G : FsG} {S : St} {B : Nat} (h : FsM w G S) (hi : Inv B S) (hB : B ≤ 1073741824) :
    Calls Try.prog 20 #[.pointer (some ⟨G.b, 0, none⟩)] w fun e w' => e = .returned (.int .i64 (S.used : Int)) ∧ Chg [] w w' := by
  have HF := Lib.hid h
  have HI := Lib.hid hi
  have hU : S.used ≤ 1152921504606846976 := by
    have h1 := used_le hi
    have h2 : B * B ≤ 1073741824 * 1073741824 := Nat.mul_le_mul hB hB
    omega
  have HU := Lib.hid hU
  clear h hi hB hU
  go_enter Try.func20, Try.ntmps20
  go_wp2_with fail
  refine (down_st HF.out).mono ?_
  rintro e w1 ⟨rfl, hc1⟩
  have HC1 := Lib.hid hc1
  cases hd : S.down with
  | true =>
    have HR : Hid (S.used = 0) := Lib.hid (by unfold St.used St.view; rw [if_pos hd]; rfl)
    clear hc1 hd
    go_wp2
    go_ret
    exact ⟨by rw [HR.out]; rfl, HC1.out⟩
  | false =>
    have HR : Hid (S.used = (S.seen.map fun p => S.flen p.2).sum) := Lib.hid (used_eq hd)
    have HF1 := Lib.hid (HF.out.keep0 hc1)
    have h0 := HF1.out.blk.cell 0
    simp at h0
    have hmp := HF1.out.tr1.top
    clear hc1 hd
    go_wp2_with (at_range; refine wpList_range_mp rfl _ _ rfl Try.underlying73 rfl hmp ?_; intro w0 hit0 hc0 hs0)
    go_frame
    obtain ⟨r, hr⟩ : ∃ r, w1.heap.size = r := ⟨_, rfl⟩
    rw [hr] at hit0 ⊢
    have HC0 : Hid (Chg [] w w0) := Lib.hid (HC1.out.trans0 hc0)
    have HRR : Hid (w.heap.size ≤ r) := Lib.hid (by rw [← hr]; exact HC1.out.size)
    clear hr hs0 hc0 h0 hmp
    have htot : ksum S.flen S.seen (G.g1.map Prod.fst) = S.used := by
      rw [HR.out, ksum_perm (HF.out.is1.keys HF.out.tr1.nodup HI.out.val.srt), ksum_all _ HI.out.val.srt.nodup]
    have HTOT := Lib.hid htot
    clear htot
    go_loopw [2, 4] (fun s _ wr => ∃ done todo, ∃ N : Nat, s = .int .i64 N ∧ MpIt wr G.t1 r kvS (tval G.g1) todo ∧ (done ++ todo).Perm (tval G.g1) ∧ Chg [] w wr ∧ N = ksum S.flen S.seen (done.map Prod.fst)) (fun _ _ wr => wr.rangeLeft G.t1 r)
    case atStart => exact ⟨[], tval G.g1, 0, rfl, hit0, List.Perm.refl _, HC0.out, rfl⟩
    case round =>
      obtain ⟨done, todo, N, rfl, hit, hperm, hch, hN⟩ := hrel
      have HP := Lib.hid hperm
      have HCH := Lib.hid hch
      have HN := Lib.hid hN
      have HIT := Lib.hid hit
      clear hperm hch hN
      go_wp2_with (at_next; refine wpList_next_mp rfl _ rfl rfl hit ?_ ?_)
      · intro hdone
        have HD := Lib.hid hdone
        clear hdone
        go_wp2
        go_ret
        have hp := HP.out
        rw [HD.out, List.append_nil] at hp
        refine ⟨?_, HCH.out⟩
        rw [HN.out, ksum_perm (hp.map Prod.fst), tval_fst, HTOT.out]
        rfl
      · intro k v todo' w2 hp hit1 hch1 hen
        have hkv : (k, v) ∈ tval G.g1 := HP.out.mem_iff.1 (List.mem_append_right _ (hp.mem_iff.2 (List.mem_cons_self ..)))
        obtain ⟨q, hq, hqe⟩ := List.mem_map.1 hkv
        injection hqe with hq1 hq2
        subst hq1
        subst hq2
        have hgq := aget_mem' HF.out.tr1.nodup hq
        obtain ⟨F, hF⟩ : ∃ F, aget S.seen q.1 = some F := by
          have := HF.out.is1.top q.1
          rw [hgq] at this
          exact Option.isSome_iff_exists.1 this.symm
        have hsub := HF.out.is1.sub _ _ _ hgq hF
        have hSF : Srt F := HI.out.val.sub _ (aget_mem hF)
        have hall : ksum S.len F ((q.2.2).map Prod.fst) = S.flen F := by
          rw [ksum_perm (fol_keys hsub (HF.out.tr1.subnodup hq) hSF), ksum_all _ hSF.nodup]; rfl
        have hle : N + S.flen F ≤ S.used := by
          have e1 := ksum_perm (c := S.flen) (F := S.seen) (((List.Perm.append_left done hp.symm).trans HP.out).map Prod.fst)
          rw [tval_fst, HTOT.out, List.map_append, List.map_cons, ksum_append] at e1
          rw [show (q.1 :: todo'.map Prod.fst) = [q.1] ++ todo'.map Prod.fst from rfl, ksum_append, ksum_one hF] at e1
          have := HN.out
          omega
        have hC2 : Chg [] w w2 := HCH.out.trans hch1 (fun x hx => by simp only [List.mem_singleton] at hx; subst hx; exact .inr HRR.out)
        have hmq := (HF.out.tr1.sub q hq).chg hC2 List.not_mem_nil
        have HC2 := Lib.hid hC2
        have HSUB := Lib.hid hsub
        have HALL := Lib.hid hall
        have HLE := Lib.hid hle
        have HPP := Lib.hid hp
        have HIT1 := Lib.hid hit1
        have HFF := Lib.hid hF
        have HQ := Lib.hid hq
        clear hkv hgq hF hsub hSF hall hle hC2 hp hit hit1 hch1 hq
        go_wp2_with (at_range; refine wpList_range_mp rfl _ _ rfl Try.underlying80 rfl hmq ?_; intro w3 hit3 hc3 hs3)
        go_frame
        obtain ⟨r2, hr2⟩ : ∃ r2, w2.heap.size = r2 := ⟨_, rfl⟩
        rw [hr2] at hit3 ⊢
        have HC3 : Hid (Chg [] w w3) := Lib.hid (HC2.out.trans0 hc3)
        have HR2 : Hid (w.heap.size ≤ r2 ∧ r ≠ r2 ∧ G.t1 ≠ r2) := Lib.hid (by
          have h1 := HC2.out.size; have h2 := HIT1.out.lt; have h3 := HIT1.out.mp.lt
          refine ⟨by omega, by omega, by omega⟩)
        have HIT3 : Hid (MpIt w3 G.t1 r kvS (tval G.g1) todo') := Lib.hid (HIT1.out.chg hc3 List.not_mem_nil List.not_mem_nil)
        clear hr2 hs3 hc3 hmq hen
        go_loopw [2, 6] (fun s _ wr => ∃ done2 todo2, ∃ M : Nat, s = .int .i64 ((N + M : Nat) : Int) ∧ MpIt wr q.2.1 r2 kvS (fval q.2.2) todo2 ∧ MpIt wr G.t1 r kvS (tval G.g1) todo' ∧ (done2 ++ todo2).Perm (fval q.2.2) ∧ Chg [] w wr ∧ M = ksum S.len F (done2.map Prod.fst)) (fun _ _ wr => wr.rangeLeft q.2.1 r2)
        case atStart => exact ⟨[], fval q.2.2, 0, rfl, hit3, HIT3.out, List.Perm.refl _, HC3.out, rfl⟩
        case round =>
          obtain ⟨done2, todo2, M, rfl, hit4, hito, hperm2, hch4, hM⟩ := hrel
          have HP2 := Lib.hid hperm2
          have HCH4 := Lib.hid hch4
          have HM := Lib.hid hM
          have HIT4 := Lib.hid hit4
          have HITO := Lib.hid hito
          clear hperm2 hch4 hM hito
          go_wp2_with (at_next; refine wpList_next_mp rfl _ rfl rfl hit4 ?_ ?_)
          · intro hdone
            have HD := Lib.hid hdone
            clear hdone
            go_wp2
            go_roundw
            case rel =>
              refine ⟨done ++ [(q.1, Value.map (some q.2.1))], todo', N + M, rfl, HITO.out, (List.append_assoc done _ _ ▸ (List.Perm.append_left done HPP.out.symm).trans HP.out), HCH4.out, ?_⟩
              have hp2 := HP2.out
              rw [HD.out, List.append_nil] at hp2
              rw [List.map_append, ksum_append, List.map_cons, List.map_nil, ksum_one HFF.out, HM.out, ksum_perm (hp2.map Prod.fst), fval_fst, HALL.out, HN.out]
            case measure =>
              have h1 := HITO.out.left_eq
              have h2 := HIT.out.left_eq
              have h3 := HPP.out.length_eq
              rw [h1, h2, h3]
              simp
          · intro k2 v2 todo2' w4 hp2 hit5 hch5 hen2
            have hkv2 : (k2, v2) ∈ fval q.2.2 := HP2.out.mem_iff.1 (List.mem_append_right _ (hp2.mem_iff.2 (List.mem_cons_self ..)))
            obtain ⟨p, hp, hpe⟩ := List.mem_map.1 hkv2
            injection hpe with hp1 hpv
            subst hp1
            subst hpv
            have hgp := aget_mem' (HF.out.tr1.subnodup HQ.out) hp
            obtain ⟨i, hi, hix⟩ : ∃ i, aget F p.1 = some i ∧ ibf G.ib i = p.2 := by
              have := HSUB.out p.1
              rw [hgp] at this
              cases hFi : aget F p.1 with
              | none => rw [hFi] at this; cases this
              | some i => rw [hFi] at this; injection this with this; exact ⟨i, rfl, this.symm⟩
            have hil := HI.out.val.ids _ (aget_mem HFF.out) _ (aget_mem hi)
            have hC4 : Chg [] w w4 := HCH4.out.trans hch5 (fun x hx => by simp only [List.mem_singleton] at hx; subst hx; exact .inr HR2.out.1)
            obtain ⟨sg, hb4, hsz⟩ := (HF.out.keep0 hC4).size_ hil
            rw [hix] at hb4
            have c0 := hb4.cell 0
            simp at c0
            have hle2 : M + S.len i ≤ S.flen F := by
              have e1 := ksum_perm (c := S.len) (F := F) (((List.Perm.append_left done2 hp2.symm).trans HP2.out).map Prod.fst)
              rw [fval_fst, HALL.out, List.map_append, List.map_cons, ksum_append] at e1
              rw [show (p.1 :: todo2'.map Prod.fst) = [p.1] ++ todo2'.map Prod.fst from rfl, ksum_append, ksum_one hi] at e1
              have := HM.out
              omega
            have hwr : wrap64 ((N : Int) + (M : Int) + (S.len i : Nat)) = ((N + (M + S.len i) : Nat) : Int) := by
              have h1 := HLE.out; have h2 := HU.out
              unfold wrap64; omega
            have HWR := Lib.hid hwr
            clear hwr
            have HC4 := Lib.hid hC4
            have HP5 := Lib.hid hp2
            have HIT5 := Lib.hid hit5
            have HIO5 : Hid (MpIt w4 G.t1 r kvS (tval G.g1) todo') := Lib.hid (HITO.out.chg hch5 (by simpa using HR2.out.2.2) (by simpa using HR2.out.2.1))
            have HII := Lib.hid hi
            have HSZ := Lib.hid hsz
            clear hkv2 hgp hi hix hil hC4 hb4 hle2 hp2 hit4 hit5 hch5 hp hsz
            go_wp2_with fail
            refine HSZ.out.mono ?_
            rintro e w5 ⟨rfl, rfl⟩
            go_wp2
            go_roundw
            case rel =>
              refine ⟨done2 ++ [(p.1, Value.pointer (some ⟨p.2, 0, none⟩))], todo2', M + S.len i, (congrArg (Value.int .i64) HWR.out), HIT5.out, HIO5.out, (List.append_assoc done2 _ _ ▸ (List.Perm.append_left done2 HP5.out.symm).trans HP2.out), HC4.out, ?_⟩
              rw [List.map_append, ksum_append, List.map_cons, List.map_nil, ksum_one HII.out, HM.out]
            case measure =>
              have h1 := HIT5.out.left_eq
              have h2 := HIT4.out.left_eq
              have h3 := HP5.out.length_eq
              rw [h1, h2, h3]
              simp
end Go.Proofs.Ytgomofeidghmiaa
