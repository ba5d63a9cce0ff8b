/-
  Layer 27, PumpChunks: Chunks goes over the pieces of data, twice, and ended early, though the data have been written over; where what comes in is together of bulk at most 1048576.
-/
import Derived.Test.YtcdhmnefmbcmaaaJbf
import Derived.Test.YtcdhmnefmbcmaaaKWyG
namespace Go.Proofs.Ytcdhmnefmbcmaaa.lawChunks
open Go Go.RowKit Go.Conc Go.ChangeShapes Go.WideShapes Go.Deep Go.Proofs.Ytcdhmnefmbcmaaa.Vw

theorem runs (H : Type) (enc : TypeId × Value → H) (W : World) (base : Nat) (args : Array Value) (ds gs : List (DataW H)) (before : List MemPlace)
    (hval : ∀ (j : Nat) t v, Try.f3.params[j]? = some t → args[j]? = some v → Value.okWide Try.prog W .any base t v)
    (hW : DataW.Whole enc Try.prog Try.f3.params.toList Rows.pumpChunksSpec.vars false W args.toList ds gs before) (hk : Rows.uptoSmall H (ds ++ gs) = true) :
    ∃ M last o w' t', runNT Try.prog (M + 1) (solo (G (Frame.enter Try.prog 3 args .normal) []) W) #[] = (.ended o w', t') ∧ runN Try.prog M (solo (G (Frame.enter Try.prog 3 args .normal) []) W) = .next last ∧
      step Try.prog last = .ended o w' ∧ Conc.Good Try.prog (fun v W' => Rows.pumpChunksSpec.post enc Try.prog Try.f3 false true false false W args v W') last o w' t' := by
  have hW' := hW
  obtain ⟨p, q, hA0, hV, rfl, hfz, hnd⟩ := hW
  have hA : DataW.TrodAll enc Try.prog W 0 (fun _ => true) true Try.f3.params.toList args.toList ds p := hA0
  rw [Try.params3] at hA hval
  obtain ⟨v0, v1, d0, d1, p0, p1, hargs, rfl, rfl, h0, h1⟩ := trodAll_two hA
  obtain ⟨rfl, rfl⟩ := trodVars_none hV
  have hb := bulk_small hk
  simp only [List.append_nil, Rows.uptoBulkAll] at hb
  subst hargs
  obtain ⟨A, n, c, zs, rfl, hz, hzl, hzb, hzw⟩ := opn_ints Try.underlying22 Try.underlying5 (by kernel_rfl) (okWide_slice Try.underlying22 (hval 0 _ _ rfl rfl)) h0
  obtain ⟨z1, rfl, hz1⟩ := okw_i64 (hval 1 _ _ rfl rfl)
  have hBs : ∀ b, b ∈ bo A → ∃ p t f, W.heap[b]? = some (.cells p t f) := fun b hb => by
    cases A with
    | none => simp at hb
    | some a => simp at hb; subst hb; exact okw_block Try.underlying22 (hval 0 _ _ rfl rfl)
  refine law_calls2 (X := 3) (fn := Try.f3) (r := 4) (by decide) (by rfl) Try.func3 Tryw.func3 rfl (by kernel_rfl) (Bs := fun b => b ∈ bo A) hBs ?_ ?_ ?_
  · intro i x hx
    match i, hx with
    | 0, hx =>
      obtain rfl : Value.slice A n c = x := by simpa using hx
      cases A with
      | none => exact .inl rfl
      | some a => exact .inr (.inl ⟨a, n, c, rfl, by simp⟩)
    | 1, hx =>
      obtain rfl : Value.int .i64 z1 = x := by simpa using hx
      exact .inl rfl
    | i + 2, hx => simp at hx
  · intro w' hsz hbl ht ho hou
    exact post_law laidOut hW' rfl rfl Try.underlying4 (by
      intro t ht
      rw [Try.params3] at ht
      simp at ht
      rcases ht with rfl | rfl <;> exact ⟨by kernel_rfl, of_decide_eq_true (by kernel_rfl)⟩) rfl rfl rfl ⟨ho, ht, hou, hsz, hbl⟩
  · intro H ts hH hrow t
    have hz' := rd_H hBs hrow hH hz (fun k hk => hk) (fun x hx => .inl (by obtain ⟨y, _, rfl⟩ := List.mem_map.1 hx; rfl)) t
    refine (Ww.lawchunks_any (by omega) hz1.2 hz' (fun x hx => bounds_u8 (hzw x hx))).mono ?_
    rintro e w' ⟨rfl, hc⟩
    exact ⟨rfl, fun a ha => hc.block a ha (by simp)⟩

set_option maxRecDepth 100000 in
theorem lifted (os : Os) (started : os.Started) (H : Type) (enc : TypeId × Value → H) (F : Stop.Interp) :
    ReturnsInLeavingWide {} Try.checked os 3 .any ((Rows.OpenSpec.upto Rows.pumpChunksSpec).pre6 enc Try.prog Try.f3 Rows.pumpChunksUptoRow.domain false) (((Rows.OpenSpec.upto Rows.pumpChunksSpec).at F).post enc Try.prog Try.f3 false true false false) := by
  refine leaving_of_cond (C := Try.checked) (s := Rows.OpenSpec.upto Rows.pumpChunksSpec) (k := Rows.uptoSmall) rfl Vw.own started Try.func3
    (OpenSpec.witness (enc := enc) (C := Try.checked) (s := Rows.OpenSpec.upto Rows.pumpChunksSpec) (k := Rows.uptoSmall) rfl false ⟨#[], #[.slice none 0 0, .int .i64 0], []⟩ 8 (by kernel_rfl) (by kernel_rfl) (by kernel_rfl)
      (x := ([.nil, .lit (.int .i64 0)], [], [])) (by kernel_rfl) rfl (by kernel_rfl)) ?_
  intro W base args ds gs before hval hW hk
  exact runs H enc W base args ds gs before hval hW hk

theorem proved : Rows.PumpChunksUptoSaid :=
  holds_cond_leaving 3 Try.f3 rfl rfl rfl rfl rfl rfl rfl ⟨rfl, rfl, rfl, rfl, rfl⟩ rfl rfl rfl rfl rfl (by kernel_rfl) Try.func3 (by kernel_rfl)
    (of_decide_eq_true (by kernel_rfl)) (by unfold Func.isWrapper; first | (rw [if_neg (of_decide_eq_false (by kernel_rfl))]; exact ⟨rfl, rfl⟩) | (rw [if_pos (of_decide_eq_true (by kernel_rfl))]; kernel_rfl))
    (fun os started H enc _ F => lifted os started H enc F)
#print axioms proved
end Go.Proofs.Ytcdhmnefmbcmaaa.lawChunks
