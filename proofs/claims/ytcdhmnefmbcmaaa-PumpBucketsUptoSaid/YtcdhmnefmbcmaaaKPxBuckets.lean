/-
  Layer 27, PumpBuckets: a bucket takes or refuses each chunk exactly, whole, and tells what it has; another one beside it does not meet it; where what comes in is together of bulk at most 1048576.
-/
import Derived.Test.YtcdhmnefmbcmaaaJbf
import Derived.Test.YtcdhmnefmbcmaaaKVxL
namespace Go.Proofs.Ytcdhmnefmbcmaaa.lawBuckets
open Go Go.RowKit Go.Conc Go.ChangeShapes Go.WideShapes Go.Deep Go.Proofs.Ytcdhmnefmbcmaaa.Vw

theorem runs (H : Type) (enc : TypeId × Value → H) (W : World) (base : Nat) (args : Array Value) (ds gs : List (DataW H)) (before : List MemPlace)
    (hval : ∀ (j : Nat) t v, Try.f4.params[j]? = some t → args[j]? = some v → Value.okWide Try.prog W .any base t v)
    (hW : DataW.Whole enc Try.prog Try.f4.params.toList Rows.pumpBucketsSpec.vars false W args.toList ds gs before) (hk : Rows.uptoSmall H (ds ++ gs) = true) :
    ∃ M last o w' t', runNT Try.prog (M + 1) (solo (G (Frame.enter Try.prog 4 args .normal) []) W) #[] = (.ended o w', t') ∧ runN Try.prog M (solo (G (Frame.enter Try.prog 4 args .normal) []) W) = .next last ∧
      step Try.prog last = .ended o w' ∧ Conc.Good Try.prog (fun v W' => Rows.pumpBucketsSpec.post enc Try.prog Try.f4 false true false false W args v W') last o w' t' := by
  have hW' := hW
  obtain ⟨p, q, hA0, hV, rfl, hfz, hnd⟩ := hW
  have hA : DataW.TrodAll enc Try.prog W 0 (fun _ => true) true Try.f4.params.toList args.toList ds p := hA0
  rw [Try.params4] at hA hval
  obtain ⟨v0, v1, d0, d1, p0, p1, hargs, rfl, rfl, h0, h1⟩ := trodAll_two hA
  obtain ⟨rfl, rfl⟩ := trodVars_none hV
  have hb := bulk_small hk
  simp only [List.append_nil, Rows.uptoBulkAll] at hb
  subst hargs
  obtain ⟨z1, rfl, hz1⟩ := okw_i64 (hval 0 _ _ rfl rfl)
  obtain ⟨A, n, c, Z, rfl, hz, hzl, hzb⟩ := opn_rows (okWide_slice Try.underlying29 (hval 1 _ _ rfl rfl)) h1
  have hBs : ∀ (b : Nat), (∃ p t f, W.heap[b]? = some (.cells p t f)) → ∃ p t f, W.heap[b]? = some (.cells p t f) := fun b hb => hb
  refine law_calls (X := 4) (fn := Try.f4) (r := 4) (by decide) (by rfl) Try.func4 Tryv.func4 rfl (by kernel_rfl) (Bs := fun (b : Nat) => ∃ p t f, W.heap[b]? = some (.cells p t f)) hBs ?_ ?_ ?_
  · intro i x hx
    match i, hx with
    | 0, hx =>
      obtain rfl : Value.int .i64 z1 = x := by simpa using hx
      exact .inl rfl
    | 1, hx =>
      obtain rfl : Value.slice A n c = x := by simpa using hx
      cases A with
      | none => exact .inl rfl
      | some a => exact .inr (.inl ⟨a, n, c, rfl, okw_block Try.underlying29 (hval 1 _ _ rfl rfl)⟩)
    | i + 2, hx => simp at hx
  · intro w' hsz hbl ht ho hou
    exact post_law laidOut hW' rfl rfl Try.underlying4 (by
      intro t ht
      rw [Try.params4] at ht
      simp at ht
      rcases ht with rfl | rfl <;> exact ⟨by kernel_rfl, of_decide_eq_true (by kernel_rfl)⟩) rfl rfl rfl ⟨ho, ht, hou, hsz, hbl⟩
  · intro H ts hH hrow t
    have hsum : ∀ Y : List (InRow W), (Y.map fun r => r.zs).flatten.length + Y.length ≤ (Y.map fun r => r.n + 1).sum := by
      intro Y
      induction Y with
      | nil => simp
      | cons r Y ih => simp only [List.map_cons, List.flatten_cons, List.length_append, List.sum_cons, List.length_cons]; have := r.len; omega
    have hone : ∀ (Y : List (InRow W)) (r : InRow W), r ∈ Y → r.n ≤ (Y.map fun r => r.n + 1).sum := by
      intro Y
      induction Y with
      | nil => intro r h; cases h
      | cons q Y ih =>
        intro r h
        simp only [List.map_cons, List.sum_cons]
        rcases List.mem_cons.1 h with rfl | h
        · omega
        · have := ih r h; omega
    have hs1 := hsum Z
    have hci := chin_H hrow hH hz (fun r hr => by have := hone Z r hr; omega) t
    refine (buckets_any (n := n) (d := c) hci (by simpa using hzl) (by omega) (by omega) hz1.2).mono ?_
    rintro e w' ⟨rfl, hc⟩
    exact ⟨rfl, fun a ha => hc.block a ha (by simp)⟩

set_option maxRecDepth 100000 in
theorem lifted (os : Os) (started : os.Started) (H : Type) (enc : TypeId × Value → H) (F : Stop.Interp) :
    ReturnsInLeavingWide {} Try.checked os 4 .any ((Rows.OpenSpec.upto Rows.pumpBucketsSpec).pre6 enc Try.prog Try.f4 Rows.pumpBucketsUptoRow.domain false) (((Rows.OpenSpec.upto Rows.pumpBucketsSpec).at F).post enc Try.prog Try.f4 false true false false) := by
  refine leaving_of_cond (C := Try.checked) (s := Rows.OpenSpec.upto Rows.pumpBucketsSpec) (k := Rows.uptoSmall) rfl Vw.own started Try.func4
    (OpenSpec.witness (enc := enc) (C := Try.checked) (s := Rows.OpenSpec.upto Rows.pumpBucketsSpec) (k := Rows.uptoSmall) rfl false ⟨#[], #[.int .i64 0, .slice none 0 0], []⟩ 8 (by kernel_rfl) (by kernel_rfl) (by kernel_rfl)
      (x := ([.lit (.int .i64 0), .nil], [], [])) (by kernel_rfl) rfl (by kernel_rfl)) ?_
  intro W base args ds gs before hval hW hk
  exact runs H enc W base args ds gs before hval hW hk

theorem proved : Rows.PumpBucketsUptoSaid :=
  holds_cond_leaving 4 Try.f4 rfl rfl rfl rfl rfl rfl rfl ⟨rfl, rfl, rfl, rfl, rfl⟩ rfl rfl rfl rfl rfl (by kernel_rfl) Try.func4 (by kernel_rfl)
    (of_decide_eq_true (by kernel_rfl)) (by unfold Func.isWrapper; first | (rw [if_neg (of_decide_eq_false (by kernel_rfl))]; exact ⟨rfl, rfl⟩) | (rw [if_pos (of_decide_eq_true (by kernel_rfl))]; kernel_rfl))
    (fun os started H enc _ F => lifted os started H enc F)
#print axioms proved
end Go.Proofs.Ytcdhmnefmbcmaaa.lawBuckets
