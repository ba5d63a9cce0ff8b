/-
  Layer 08, VfsAtomic: a Rename is kept whole or not at all; where what comes in is together of bulk at most 1048576.
-/
import Derived.Test.YtgomofeidghmiaaVfJf
import Derived.Test.YtgomofeidghmiaaVfQm
namespace Go.Proofs.Ytgomofeidghmiaa.lawAtomic
open Go.RowKit Go.ChangeShapes Go.WideShapes

set_option maxRecDepth 100000 in
theorem contract (H : Type) (enc : TypeId × Value → H) (W : World) (base : Nat) (args : Array Value) (ds gs : List (DataW H)) (before : List MemPlace)
    (hval : ∀ (j : Nat) t v, Try.f7.params[j]? = some t → args[j]? = some v → Value.okWide Try.prog W .any base t v)
    (hW : DataW.Whole enc Try.prog Try.f7.params.toList Rows.vfsAtomicSpec.vars false W args.toList ds gs before) (hk : Rows.uptoSmall H (ds ++ gs) = true) :
    Calls Try.prog 7 args W fun e W' => ∃ v, e = .returned v ∧ Rows.vfsAtomicSpec.post enc Try.prog Try.f7 false true false false W args v W' := by
  have hW' := hW
  obtain ⟨p, q, hA0, hV, rfl, hfz, hnd⟩ := hW
  have hA : DataW.TrodAll enc Try.prog W 0 (fun _ => true) true Try.f7.params.toList args.toList ds p := hA0
  rw [Try.params7] at hA hval
  obtain ⟨v0, v1, v2, d0, d1, d2, p0, p1, p2, rfl, rfl, rfl, h0, h1, h2⟩ := trodAll_three hA
  obtain ⟨rfl, rfl⟩ := trodVars_none hV
  have hb := bulk_small hk
  simp only [List.append_nil, Rows.uptoBulkAll] at hb
  obtain ⟨A, n, c, zs, rfl, hz, hzb⟩ := opn_dirs (okWide_slice Try.underlying24 (hval 0 _ _ rfl rfl)) h0
  obtain ⟨SA, sn, sc, os, rfl, hs, hsb⟩ := opn_ops8 (okWide_slice Try.underlying49 (hval 1 _ _ rfl rfl)) h1
  have hsc := scr_bnd hs (Nat.le_refl _)
  obtain ⟨fr, tt, K, kn, kc, ks, names, rfl, hks, hkl, hkb⟩ := opn_move (hval 2 _ _ rfl rfl) h2
  refine (lvatomic_any A n c zs SA sn sc os fr tt K kn kc ks names W hz hs hks (by omega) (by omega) (by omega)).mono ?_
  rintro e W' ⟨rfl, hc⟩
  exact ⟨_, rfl, post_law laidOut hW' rfl rfl Try.underlying4 (by
    intro t ht
    rw [Try.params7] at ht
    simp at ht
    rcases ht with rfl | rfl | rfl <;> exact ⟨by kernel_rfl, of_decide_eq_true (by kernel_rfl)⟩) rfl rfl rfl (hc.below (Nat.le_refl _) (by simp))⟩

set_option maxRecDepth 100000 in
theorem lifted (os : Os) (started : os.Started) (H : Type) (enc : TypeId × Value → H) (F : Stop.Interp) :
    ReturnsInHanded {} Try.checked os 7 .any ((Rows.OpenSpec.upto Rows.vfsAtomicSpec).pre6 enc Try.prog Try.f7 Rows.vfsAtomicUptoRow.domain false) (((Rows.OpenSpec.upto Rows.vfsAtomicSpec).at F).post enc Try.prog Try.f7 false true false false) := by
  refine returnsInHanded_of_cond (C := Try.checked) (s := Rows.OpenSpec.upto Rows.vfsAtomicSpec) (k := Rows.uptoSmall) rfl own started (by kernel_rfl) Try.func7
    (OpenSpec.witness (enc := enc) (C := Try.checked) (s := Rows.OpenSpec.upto Rows.vfsAtomicSpec) (k := Rows.uptoSmall) rfl false ⟨#[], #[.slice none 0 0, .slice none 0 0, .agg #[.string { data := #[] }, .string { data := #[] }, .slice none 0 0, .int .i64 0]], []⟩ 8 (by kernel_rfl) (by kernel_rfl) (by kernel_rfl)
      (x := ([.nil, .nil, .agg [.lit (.string []), .lit (.string []), .agg [.nil, .lit (.int .i64 0)]]], [], [])) (by kernel_rfl) rfl (by kernel_rfl)) ?_
  intro W base args ds gs before hval hW _ hk _
  exact contract H enc W base args ds gs before hval hW hk

theorem proved : Rows.VfsAtomicUptoSaid :=
  OpenClaim.holds_of_cond 7 Try.f7 rfl rfl rfl rfl rfl rfl rfl ⟨rfl, rfl, rfl, rfl, rfl⟩ rfl rfl rfl rfl rfl (by kernel_rfl) Try.func7 (by kernel_rfl)
    (of_decide_eq_true (by kernel_rfl)) (by unfold Func.isWrapper; rw [if_neg (of_decide_eq_false (by kernel_rfl))]; exact ⟨rfl, rfl⟩)
    (fun os started H enc _ F => lifted os started H enc F)
#print axioms proved
end Go.Proofs.Ytgomofeidghmiaa.lawAtomic
