/-
  What the law of Chunks over the second virtual program is walked with: marks, append in a round, a loop told round by round; no condition but what each law names.
-/
import Derived.Test.YtcdhmnefmbcmaaaKWyD
namespace Go.Proofs.Ytcdhmnefmbcmaaa.Ww
open Go Go.RowKit
def mark (D : Nat) : Deferred := { target := .collected D, args := #[] }
theorem leaves_marks {F : Fence} {n : Nat} {P : Program} {fn : Func} {tmps : Array Value} {R : Ending → World → Prop} : ∀ (Ds : List Nat) (w : World), Ds.Nodup → (∀ D ∈ Ds, w.heap[D]? = some (.deferred (some []))) → (∀ w', Chg Ds w w' → LeavesIn F n P fn tmps R [] .returning w') → LeavesInM F n P fn tmps R (Ds.map mark) .returning w := by
  intro Ds
  induction Ds with
  | nil => intro w _ _ h; exact h w (Chg.refl _ _)
  | cons D Ds ih =>
    intro w hn hd h
    have hnd := List.nodup_cons.1 hn
    refine ⟨by simp, .inl ⟨D, _, rfl, run_takeDeferred (hd D (by simp)), ih _ hnd.2 (fun D' hD' => ?_) fun w' hc => h w' ?_⟩⟩
    · exact (World.putObj_heap_other (fun e => hnd.1 (by rw [← e]; exact hD'))).trans (hd D' (by simp [hD']))
    · have hc1 : Chg [D] w (w.putObj D (.deferred none)) := Chg.putObj _ _
      exact (hc1.mono (L := D :: Ds) (fun b hb => .inl (by simp at hb; simp [hb]))).trans hc (fun b hb => .inl (by simp [hb]))
theorem eql_funcnil {f : Fn} {p q : Array Value} {w : World} : (binOp .eql 25 (.func f p q) .nilFunc).run Tryw.prog w = .ok (.bool false) w := by rfl
theorem wpListIn_app {F : Fence} (hFF : ∀ f, F.fn f) {nn : Nat} {P : Program} {w : World} {ops : Array Oper} {rest : List Oper} {o : Oper} {a : Act} {Q : Exit → Act → World → Prop} (hgd : o.guard = none) (s x : Operand) {t : TypeId}
    (ho : o.op = .call { callee := .builtin .append, args := #[s, x], argTypes := #[t, t] })
    {e : TypeId} {sz bytes : Nat} {z : Value} (he : Ety P t e sz bytes z) {A : Option Addr} {n c : Nat} {xs : List Value} (hs : a.eval s = .slice A n c) (hown : Own w e sz A n c xs)
    {A2 : Option Addr} {m c2 : Nat} {news : List Value} (hx : a.eval x = .slice A2 m c2) (hrd : Rd w sz A2 m c2 news) (h1 : ∀ u ∈ news, u.oneCell' = true) (h63 : n + m ≤ maxLen) (hb : (n + m) * bytes ≤ 140737488355328)
    (h : ∀ A' c' w', Own w' e sz A' (n + m) c' (xs ++ news) → Chg (bo A) w w' → (∀ k ∈ bo A', k ∈ bo A ∨ (w.heap.size ≤ k ∧ k < w'.heap.size)) → (A' = none → A = none ∧ m = 0) →
      wpListIn F nn P ops Q rest (a.put o.dst (.slice A' (n + m) c')) w') : wpListIn F nn P ops Q (o :: rest) a w := by
  obtain ⟨A', c', w', hr, h2, h3, h4, h5⟩ := run_app (ty := o.type) he hown hrd h1 h63 hb
  refine wpListIn_plain hgd fun K hK => ?_
  unfold Oper.wpIn
  refine ⟨fun f _ => hFF f, ?_⟩
  rw [Oper.semAt_plain F _ _ (by rw [ho]; intro c hc; cases hc)]
  unfold execOp
  simp only [ho, resolve, invoke, builtin, Sem.run_bind, Sem.run_pure, Result.andThen_ok, List.map_toArray, List.map_cons, List.map_nil, hs, hx, hr]
  exact hK _ _ (h A' c' w' h2 h3 h4 h5)
/-- a loop told round by round: j more at most -/
def Rounds (F : Fence) (n : Nat) (P : Program) (c : Code) (Q : Exit → Act → World → Prop) : Nat → Act → World → Prop
  | 0, a, w => c.wpIn F n P (Exit.then (fun _ _ => False) Q) a w
  | j + 1, a, w => c.wpIn F n P (Exit.then (Rounds F n P c Q j) Q) a w
theorem least_of {p : Nat → Prop} (h : ∃ j, p j) : ∃ j, p j ∧ ∀ k, p k → j ≤ k := by
  obtain ⟨j, hj⟩ := h
  induction j using Nat.strongRecOn with
  | _ j ih =>
    by_cases h : ∃ k, k < j ∧ p k
    · obtain ⟨k, hk, hpk⟩ := h
      exact ih k hk hpk
    · exact ⟨j, hj, fun k hk => Nat.le_of_not_lt fun hlt => h ⟨k, hlt, hk⟩⟩
open Classical in
noncomputable def leastN (p : Nat → Prop) : Nat := if h : ∃ j, p j then Classical.choose (least_of h) else 0
theorem leastN_spec {p : Nat → Prop} (h : ∃ j, p j) : p (leastN p) ∧ ∀ k, p k → leastN p ≤ k := by
  unfold leastN
  rw [dif_pos h]
  exact Classical.choose_spec (least_of h)
theorem loop_times {F : Fence} {n : Nat} {P : Program} {c : Code} {Q : Exit → Act → World → Prop} {a : Act} {w : World} (j : Nat) (h : Rounds F n P c Q j a w) : (Code.loop c).wpIn F n P Q a w := by
  refine wpIn_loop (fun a w => ∃ j, Rounds F n P c Q j a w) (fun a w => leastN fun j => Rounds F n P c Q j a w) ⟨j, h⟩ ?_
  intro a w hj
  have hf := (leastN_spec hj).1
  generalize hm : leastN (fun j => Rounds F n P c Q j a w) = m at hf
  cases m with
  | zero =>
    refine wpIn_mono hf fun e a' w' hq => ?_
    cases e <;> first | exact hq.elim | exact hq
  | succ m =>
    refine wpIn_mono hf fun e a' w' hq => ?_
    cases e with
    | normal =>
      refine ⟨⟨m, hq⟩, ?_⟩
      have h1 := (leastN_spec (p := fun j => Rounds F n P c Q j a' w') ⟨m, hq⟩).2 m hq
      exact Nat.lt_succ_of_le h1
    | _ => exact hq
/-- the body of the law's loop over three rounds -/
noncomputable def lcC : Code := match bodyOf Try.f3 with | .seq _ (.seq _ (.seq _ (.seq _ (.seq _ (.seq _ (.seq (.seq _ (.block _ (.loop c))) _)))))) => c | _ => .skip
end Go.Proofs.Ytcdhmnefmbcmaaa.Ww
