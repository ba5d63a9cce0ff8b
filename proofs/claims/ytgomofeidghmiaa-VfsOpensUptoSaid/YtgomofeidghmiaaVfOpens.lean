/-
  Layer 08, VfsOpens: any disk is opened, or refused, exactly as the document says; the disk stays and is not kept; where what comes in is together of bulk at most 1048576.
-/
import Derived.Test.YtgomofeidghmiaaVfJf
import Derived.Test.YtgomofeidghmiaaVfQo
namespace Go.Proofs.Ytgomofeidghmiaa.lawOpens
open Go.RowKit Go.ChangeShapes Go.WideShapes

set_option maxRecDepth 100000 in
theorem contract (H : Type) (enc : TypeId × Value → H) (W : World) (base : Nat) (args : Array Value) (ds gs : List (DataW H)) (before : List MemPlace)
    (hval : ∀ (j : Nat) t v, Try.f5.params[j]? = some t → args[j]? = some v → Value.okWide Try.prog W .any base t v)
    (hW : DataW.Whole enc Try.prog Try.f5.params.toList Rows.vfsOpensSpec.vars false W args.toList ds gs before) (hk : Rows.uptoSmall H (ds ++ gs) = true) :
    Calls Try.prog 5 args W fun e W' => ∃ v, e = .returned v ∧ Rows.vfsOpensSpec.post enc Try.prog Try.f5 false true false false W args v W' := by
  have hW' := hW
  obtain ⟨p, q, hA0, hV, rfl, hfz, hnd⟩ := hW
  have hA : DataW.TrodAll enc Try.prog W 0 (fun _ => true) true Try.f5.params.toList args.toList ds p := hA0
  rw [Try.params5] at hA hval
  obtain ⟨v0, d0, p0, rfl, rfl, rfl, h0⟩ := trodAll_one8 hA
  obtain ⟨rfl, rfl⟩ := trodVars_none hV
  have hb := bulk_small hk
  simp only [List.append_nil, Rows.uptoBulkAll] at hb
  obtain ⟨A, n, c, zs, q, t, rfl, hz, hqw, htw, hzb⟩ := opn_start (hval 0 _ _ rfl rfl) h0
  refine (lvopens_any A n c zs q t W hz (q_le hqw) (by omega)).mono ?_
  rintro e W' ⟨rfl, hc⟩
  exact ⟨_, rfl, post_law laidOut hW' rfl rfl Try.underlying4 (by
    intro t ht
    rw [Try.params5] at ht
    simp at ht
    subst ht; exact ⟨by kernel_rfl, of_decide_eq_true (by kernel_rfl)⟩) rfl rfl rfl (hc.below (Nat.le_refl _) (by simp))⟩

set_option maxRecDepth 100000 in
theorem lifted (os : Os) (started : os.Started) (H : Type) (enc : TypeId × Value → H) (F : Stop.Interp) :
    ReturnsInHanded {} Try.checked os 5 .any ((Rows.OpenSpec.upto Rows.vfsOpensSpec).pre6 enc Try.prog Try.f5 Rows.vfsOpensUptoRow.domain false) (((Rows.OpenSpec.upto Rows.vfsOpensSpec).at F).post enc Try.prog Try.f5 false true false false) := by
  refine returnsInHanded_of_cond (C := Try.checked) (s := Rows.OpenSpec.upto Rows.vfsOpensSpec) (k := Rows.uptoSmall) rfl own started (by kernel_rfl) Try.func5
    (OpenSpec.witness (enc := enc) (C := Try.checked) (s := Rows.OpenSpec.upto Rows.vfsOpensSpec) (k := Rows.uptoSmall) rfl false ⟨#[], #[.agg #[.slice none 0 0, .int .i64 0, .int .i64 0]], []⟩ 8 (by kernel_rfl) (by kernel_rfl) (by kernel_rfl)
      (x := ([.agg [.nil, .lit (.int .i64 0), .lit (.int .i64 0)]], [], [])) (by kernel_rfl) rfl (by kernel_rfl)) ?_
  intro W base args ds gs before hval hW _ hk _
  exact contract H enc W base args ds gs before hval hW hk

theorem proved : Rows.VfsOpensUptoSaid :=
  OpenClaim.holds_of_cond 5 Try.f5 rfl rfl rfl rfl rfl rfl rfl ⟨rfl, rfl, rfl, rfl, rfl⟩ rfl rfl rfl rfl rfl (by kernel_rfl) Try.func5 (by kernel_rfl)
    (of_decide_eq_true (by kernel_rfl)) (by unfold Func.isWrapper; rw [if_neg (of_decide_eq_false (by kernel_rfl))]; exact ⟨rfl, rfl⟩)
    (fun os started H enc _ F => lifted os started H enc F)
#print axioms proved
end Go.Proofs.Ytgomofeidghmiaa.lawOpens
