/-
  From a law's walk to its row: what is read is opened, the row's last step, for every law of a seat.
-/
import Derived.Test.YtgomofeidghmiaaGreatMem
import Derived.Test.YtgomofeidghmiaaGreatRows
import Derived.WalkKit
import Derived.ProofKit
import Derived.OpenShut
import Derived.JoinedCond
import Derived.ChangeSame
import Derived.Deep.Slices
import Derived.Deep.Fields
namespace Go.Proofs.YtgomofeidghmiaaGreat
open Go.RowKit Go.ChangeShapes Go.WideShapes Go.Deep

theorem own : ownKnob Tryz.prog.godebug = none := by kernel_rfl
theorem laidOut : laidOutB Tryz.prog = true := by kernel_rfl

section
variable {H : Type} {enc : TypeId × Value → H} {P : Program} {w : World} {base : Nat} {spare : Nat → Bool} {held : Bool}
theorem open_slice_fields {t e : TypeId} {fs : Array Field} {fuel : Nat} {cs : List Value} {x : DataW H × List MemPlace} (ht : P.underlying t = some (.slice e)) (he : P.underlying e = some (.struct fs))
    (hone : oneCellFields P fs = true) (hC : P.cellsOf e = fs.size) (h : DataW.trod enc P w base spare held fuel t cs = some x) :
    (cs = [.slice none 0 0] ∧ x = (.nil, [])) ∨
    ∃ (a : Addr) (len cap m : Nat) (D : Nat → DataW H) (Pl : Nat → List MemPlace), cs = [.slice (some a) len cap] ∧ base ≤ a.block ∧ len ≤ cap ∧ cap ≤ maxLen ∧ m = (if spare a.block then cap else len) ∧
      x = (.slice ((List.range len).map D) ((List.range (m - len)).map fun j => D (len + j)), MemPlace.row a (m * fs.size) ++ (List.range m).flatMap Pl) ∧
      ∀ i, i < m → ∃ (ys : List (DataW H × List MemPlace)) (n : Nat), D i = .agg (ys.map (·.1)) ∧ Pl i = ys.flatMap (·.2) ∧ ys.length = fs.size ∧
        ∀ (j : Nat) (f : Field), fs[j]? = some f → ∃ (v : Value) (y : DataW H × List MemPlace), w.cell? (a.add (i * fs.size + j)) = some v ∧ ys[j]? = some y ∧ DataW.trod enc P w base spare held n f.type [v] = some y := by
  rcases open_slice ht h with h0 | ⟨a, len, cap, m, n, D, Pl, hcs, hb, hl, hm, hmm, hx, hi⟩
  · exact .inl h0
  · refine .inr ⟨a, len, cap, m, D, Pl, hcs, hb, hl, hm, hmm, by rw [hC] at hx; exact hx, fun i him => ?_⟩
    obtain ⟨cs', hc, ht'⟩ := hi i him
    rw [hC] at hc
    obtain ⟨ys, n', hn', hy, hlen, hyl, hf⟩ := DataW.trod_struct he ht'
    obtain ⟨_, hcl, hat⟩ := World.cells?_some hc
    simp only [Prod.mk.injEq] at hy
    refine ⟨ys, n', hy.1, hy.2, hyl, fun j f hj => ?_⟩
    obtain ⟨ho, hk⟩ := hone_of hone j f hj
    have hjl : j < fs.size := (Array.getElem?_eq_some_iff.1 hj).1
    have hcell := hat j hjl
    have hv : cs'[j]? = some (cs'[j]'(by omega)) := List.getElem?_eq_getElem (by omega)
    have h1 := hf j f hj
    rw [ho, hk] at h1
    have hone' : (cs'.drop j).take 1 = [cs'[j]'(by omega)] := by
      rw [List.drop_eq_getElem_cons (by omega)]
      rfl
    rw [hone'] at h1
    have hys : ys[j]? = some (ys[j]'(by omega)) := List.getElem?_eq_getElem (by omega)
    refine ⟨_, _, ?_, hys, h1.trans hys⟩
    rw [← Go.Deep.add_add, hcell, hv]
end

section
variable {H : Type} {enc : TypeId × Value → H} {P : Program}
theorem post_of_below {f : Func} {s : ChangeSpec} {apart fresh handsOn again : Bool} {W W' : World} {args : Array Value} {v : Value} {ds gs : List (DataW H)} {before pa pv : List MemPlace}
    (hW : DataW.Whole enc P f.params.toList s.vars apart W args.toList ds gs before)
    (hres : ∀ (b : Nat) (sp : Nat → Bool) (hd : Bool), DataW.TrodAll enc P W' b sp hd f.resultTypes.toList (v.resultList f.resultTypes.size) (s.fn H (ds ++ gs)).results [])
    (hargs : ∀ sp : Nat → Bool, (∀ p ∈ before, sp p.block = true) → DataW.TrodAll enc P W' 0 sp true f.params.toList args.toList (s.fn H (ds ++ gs)).args pa)
    (hvars : ∀ sp : Nat → Bool, (∀ p ∈ before, sp p.block = true) → DataW.TrodVars enc P W' sp s.vars (s.fn H (ds ++ gs)).vars pv)
    (hps : before = pa ++ pv) (hb : Below W.heap.size W W')
    (hok : ∀ (j : Nat) (t : TypeId) (r : Value), f.resultTypes[j]? = some t → (v.resultList f.resultTypes.size)[j]? = some r → Value.okWide P W' .any 0 t r) :
    s.post enc P f apart fresh handsOn again W args v W' := by
  have hlt : ∀ p ∈ before, p.block < W.heap.size := fun p hp => hW.lt p hp
  have hold : ∀ p ∈ before, (fun b => decide (b < W.heap.size)) p.block = true := fun p hp => by simpa using hlt p hp
  refine ⟨ds, gs, before, [], pa, pv, hW, hres _ _ _, hargs _ hold, hvars _ hold, World.keptBut_mono (fun p hp => ⟨hp, ?_⟩) (hb.frame (· ∈ before)), fun _ => ?_⟩
  · rw [hps, List.mem_append] at hp
    exact Or.inr hp
  · obtain ⟨_, _, _, _, _, hz, hn⟩ := hW
    refine ⟨hok, _, _, ([] ++ pa) ++ pv, ⟨[] ++ pa, pv, trodAll_append (hargs _ (fun _ _ => rfl)) (hres _ _ _), hvars _ (fun _ _ => rfl), rfl, ?_, ?_⟩, ?_⟩
    · intro b off hp
      have hin : MemPlace.cell b off ∈ before := by rw [hps]; simpa using hp
      rw [hb.frozen (hlt _ hin)]
      exact hz b off hin
    · intro ha
      have := hn ha
      rw [hps] at this
      simpa using this
    · intro p hp _
      rw [hps]
      simpa using hp
end

/-! bulk -/
theorem bulk_one {H : Type} (d : DataW H) : 1 ≤ Rows.uptoBulk d := by
  cases d with
  | lit l => cases l <;> simp [Rows.uptoBulk]
  | nil => simp [Rows.uptoBulk]
  | ptr d => simp [Rows.uptoBulk]
  | slice elems spare => simp [Rows.uptoBulk]
  | agg parts => simp [Rows.uptoBulk]
  | iface t d => simp [Rows.uptoBulk]
  | map entries => simp [Rows.uptoBulk]
  | held h => simp [Rows.uptoBulk]
theorem bulk_map_range {H : Type} (D : Nat → DataW H) (n : Nat) (f : Nat → Nat) (h : ∀ i, i < n → f i ≤ Rows.uptoBulk (D i)) : ((List.range n).map f).sum ≤ Rows.uptoBulkAll ((List.range n).map D) := by
  have gen : ∀ (l : List Nat), (∀ i ∈ l, f i ≤ Rows.uptoBulk (D i)) → (l.map f).sum ≤ Rows.uptoBulkAll (l.map D) := by
    intro l
    induction l with
    | nil => intro _; simp [Rows.uptoBulkAll]
    | cons x r ih =>
      intro hl
      have h1 := hl x (by simp)
      have h2 := ih (fun i hi => hl i (by simp [hi]))
      simp only [List.map_cons, List.sum_cons, Rows.uptoBulkAll]
      omega
  exact gen _ (fun i hi => h i (by simpa using hi))
theorem bulk_small {H : Type} {ds : List (DataW H)} (hk : Rows.uptoSmall H ds = true) : Rows.uptoBulkAll ds ≤ 1048576 := of_decide_eq_true hk

section
variable {H : Type} {enc : TypeId × Value → H} {P : Program}

/-- a slice of one-cell elements: it reads -/
theorem opn1 {t e : TypeId} {W : World} {sp : Nat → Bool} {held : Bool} {v : Value} {d : DataW H} {p : List MemPlace} {α : Type} (F : α → Value) (G : α → Nat)
    (ht : P.underlying t = some (.slice e)) (hc : P.cellsOf e = 1) (hel : ∀ n (u : Value) y, DataW.trod enc P W 0 sp held n e [u] = some y → ∃ a, u = F a ∧ G a ≤ Rows.uptoBulk y.1)
    (hv : ∃ a l c, v = .slice a l c) (h : DataW.Trod enc P W 0 sp held t v d p) :
    ∃ A n c, ∃ zs : List α, v = .slice A n c ∧ Rd W 1 A n c (zs.map F) ∧ zs.length = n ∧ (zs.map G).sum + 1 ≤ Rows.uptoBulk d := by
  obtain ⟨a0, l0, c0, rfl⟩ := hv
  obtain ⟨fuel, hf⟩ := h
  rcases open_slice1 ht hc hf with ⟨hcs, hx⟩ | ⟨a, len, cap, m, n, V, D, Pl, hcs, hb, hl, hm, hmm, hx, hi⟩
  · simp [Value.cells] at hcs
    obtain ⟨rfl, rfl, rfl⟩ := hcs
    simp only [Prod.mk.injEq] at hx
    obtain ⟨rfl, rfl⟩ := hx
    exact ⟨none, 0, 0, [], rfl, Rd.nil _ _, rfl, by simp [Rows.uptoBulk]⟩
  · simp [Value.cells] at hcs
    obtain ⟨rfl, rfl, rfl⟩ := hcs
    simp only [Prod.mk.injEq] at hx
    obtain ⟨rfl, rfl⟩ := hx
    have hle : l0 ≤ m := by rw [hmm]; split <;> omega
    have hex : ∀ i : Nat, i < l0 → ∃ z : α, V i = F z ∧ G z ≤ Rows.uptoBulk (D i) := fun i hil => hel _ _ _ (hi i (by omega)).2
    obtain ⟨Z, hZ⟩ : ∃ zs : List α, zs.length = l0 ∧ ∀ i z, zs[i]? = some z → V i = F z ∧ G z ≤ Rows.uptoBulk (D i) := by
      have : ∀ k, k ≤ l0 → ∃ zs : List α, zs.length = k ∧ ∀ i z, zs[i]? = some z → V i = F z ∧ G z ≤ Rows.uptoBulk (D i) := by
        intro k
        induction k with
        | zero => intro _; exact ⟨[], rfl, fun i z h => by simp at h⟩
        | succ k ih =>
          intro hk
          obtain ⟨zs, h1, h2⟩ := ih (by omega)
          obtain ⟨z, hz⟩ := hex k (by omega)
          refine ⟨zs ++ [z], by simp [h1], fun i y hy => ?_⟩
          by_cases hik : i < k
          · rw [List.getElem?_append_left (by omega)] at hy; exact h2 i y hy
          · rw [List.getElem?_append_right (by omega)] at hy
            have h0 : i = k := by
              rcases Nat.lt_or_ge k i with h3 | h3
              · rw [List.getElem?_eq_none (by simp; omega)] at hy; cases hy
              · omega
            subst h0
            rw [h1, Nat.sub_self] at hy
            simp at hy
            subst hy
            exact hz
      exact this l0 (Nat.le_refl _)
    refine ⟨some a, l0, c0, Z, rfl, ⟨by simp [hZ.1], hl, hm, (fun e => by cases e), fun ad e => ?_⟩, hZ.1, ?_⟩
    · injection e with e; subst e
      refine ⟨fun hp => ?_, fun j u hu => ?_⟩
      · have := (hi 0 (by omega)).1
        have := World.block_lt_of_cell? _ _ this
        rwa [add_block] at this
      · rw [List.getElem?_map] at hu
        cases hz : Z[j]? with
        | none => rw [hz] at hu; cases hu
        | some z =>
          rw [hz] at hu
          simp at hu
          subst hu
          have hj : j < l0 := by have := (List.getElem?_eq_some_iff.1 hz).1; omega
          rw [(hi j (by omega)).1, (hZ.2 j z hz).1]
    · have h1 := bulk_map_range D l0 (fun i => (Z[i]?.map G).getD 0) (fun i hil => by
        have hz : Z[i]? = some (Z[i]'(by omega)) := List.getElem?_eq_getElem (by omega)
        rw [hz]
        exact (hZ.2 i _ hz).2)
      have h2 : (List.range l0).map (fun i => (Z[i]?.map G).getD 0) = Z.map G := by
        apply List.ext_getElem?
        intro i
        rw [List.getElem?_map, List.getElem?_map]
        by_cases hil : i < l0
        · rw [List.getElem?_eq_getElem (by simpa using hil), List.getElem?_eq_getElem (by omega)]
          have hil' : i < Z.length := by omega
          simp [hil']
        · rw [List.getElem?_eq_none (by simp; omega), List.getElem?_eq_none (by omega)]
          rfl
      rw [h2] at h1
      simp only [Rows.uptoBulk]
      omega

theorem opn_int_el {e : TypeId} {k : IntKind} {W : World} {sp : Nat → Bool} {held : Bool} (he : P.underlying e = some (.int k)) : ∀ n (u : Value) (y : DataW H × List MemPlace), DataW.trod enc P W 0 sp held n e [u] = some y → ∃ a : { z : Int // (Lit.int k z).wf = true }, u = Value.int k a.1 ∧ 1 ≤ Rows.uptoBulk y.1 := fun n u y h => by
  obtain ⟨z, h1, rfl, h3⟩ := DataW.trod_int he h
  simp at h1
  exact ⟨⟨z, h3⟩, h1, by simp [Rows.uptoBulk]⟩
theorem opn_bool_el {e : TypeId} {W : World} {sp : Nat → Bool} {held : Bool} (he : P.underlying e = some .bool) : ∀ n (u : Value) (y : DataW H × List MemPlace), DataW.trod enc P W 0 sp held n e [u] = some y → ∃ a : Bool, u = Value.bool a ∧ 1 ≤ Rows.uptoBulk y.1 := fun n u y h => by
  obtain ⟨z, h1, rfl⟩ := DataW.trod_bool he h
  simp at h1
  exact ⟨z, h1, by simp [Rows.uptoBulk]⟩
theorem sum_one {α : Type} (l : List α) : (l.map (fun _ => 1)).sum = l.length := by induction l with | nil => rfl | cons x r ih => simp [ih]; omega

/-- a slice of integers -/
theorem opn_ints {t e : TypeId} {k : IntKind} {W : World} {sp : Nat → Bool} {held : Bool} {v : Value} {d : DataW H} {p : List MemPlace}
    (ht : P.underlying t = some (.slice e)) (he : P.underlying e = some (.int k)) (hc : P.cellsOf e = 1) (hv : ∃ a l c, v = .slice a l c) (h : DataW.Trod enc P W 0 sp held t v d p) :
    ∃ A n c, ∃ zs : List Int, v = .slice A n c ∧ Rd W 1 A n c (zs.map (Value.int k)) ∧ zs.length = n ∧ n + 1 ≤ Rows.uptoBulk d ∧ ∀ z ∈ zs, (Lit.int k z).wf = true := by
  obtain ⟨A, n, c, zs, h1, h2, h3, h4⟩ := opn1 (fun a : { z : Int // (Lit.int k z).wf = true } => Value.int k a.1) (fun _ => 1) ht hc (opn_int_el he) hv h
  rw [sum_one] at h4
  refine ⟨A, n, c, zs.map (·.1), h1, by rw [List.map_map]; exact h2, by simp [h3], by omega, fun z hz => ?_⟩
  obtain ⟨a, _, rfl⟩ := List.mem_map.1 hz
  exact a.2
theorem opn_bools {t e : TypeId} {W : World} {sp : Nat → Bool} {held : Bool} {v : Value} {d : DataW H} {p : List MemPlace}
    (ht : P.underlying t = some (.slice e)) (he : P.underlying e = some .bool) (hc : P.cellsOf e = 1) (hv : ∃ a l c, v = .slice a l c) (h : DataW.Trod enc P W 0 sp held t v d p) :
    ∃ A n c, ∃ ks : List Bool, v = .slice A n c ∧ Rd W 1 A n c (ks.map Value.bool) ∧ ks.length = n ∧ n + 1 ≤ Rows.uptoBulk d := by
  obtain ⟨A, n, c, zs, h1, h2, h3, h4⟩ := opn1 Value.bool (fun _ => 1) ht hc (opn_bool_el he) hv h
  rw [sum_one] at h4
  exact ⟨A, n, c, zs, h1, h2, h3, by omega⟩

/-- the arguments read behind the call as before -/
theorem trodAll_stays (hl : laidOutB P = true) {W W' : World} (hb : Below W.heap.size W W') {sp : Nat → Bool} : ∀ (ts : List TypeId) (vs : List Value) (ds : List (DataW H)) (ps : List MemPlace),
    (∀ t ∈ ts, P.readableRec t = true ∧ t < P.types.size) → DataW.TrodAll enc P W 0 (fun _ => true) true ts vs ds ps → (∀ x ∈ ps, x.block < W.heap.size) → (∀ x ∈ ps, sp x.block = true) → DataW.TrodAll enc P W' 0 sp true ts vs ds ps
  | [], [], [], ps, _, h, _, _ => h
  | t :: ts, v :: vs, d :: ds, ps, hr, h, hlt, hsp => by
    obtain ⟨p, q, h1, h2, rfl⟩ := h
    refine ⟨p, q, WideElems.Trod_stays hl (hr t (by simp)).1 (hr t (by simp)).2 h1 (fun x hx => hb.same (hlt x (by simp [hx]))) (fun x hx => hsp x (by simp [hx])), ?_, rfl⟩
    exact trodAll_stays hl hb ts vs ds q (fun t ht => hr t (by simp [ht])) h2 (fun x hx => hlt x (by simp [hx])) (fun x hx => hsp x (by simp [hx]))

/-- the row's last step for a law: true, and below the old heap's size nothing has turned -/
theorem post_law {fn : Func} {s : ChangeSpec} {tb : TypeId} {W W' : World} {args : Array Value} {ds gs : List (DataW H)} {before : List MemPlace}
    (hl : laidOutB P = true) (hW : DataW.Whole enc P fn.params.toList s.vars false W args.toList ds gs before) (hvars : s.vars = []) (hrt : fn.resultTypes = #[tb]) (htb : P.underlying tb = some .bool)
    (hrd : ∀ t ∈ fn.params.toList, P.readableRec t = true ∧ t < P.types.size)
    (hres : (s.fn H (ds ++ gs)).results = [.lit (.bool true)]) (hargs : (s.fn H (ds ++ gs)).args = ds) (hvs : (s.fn H (ds ++ gs)).vars = []) (hb : Below W.heap.size W W') :
    s.post enc P fn false true false false W args (.bool true) W' := by
  have hW' := hW
  obtain ⟨p, q, hA, hV, rfl, hfz, hnd⟩ := hW
  rw [hvars] at hV
  obtain ⟨rfl, rfl⟩ := trodVars_none hV
  have hlt : ∀ x ∈ p, x.block < W.heap.size := fun x hx => hW'.lt x (by simp [hx])
  refine post_of_below (pa := p) (pv := []) hW' (fun _ _ _ => ?_) (fun sp hsp => ?_) (fun sp _ => ?_) (by simp) hb ?_
  · rw [hrt, hres]
    exact trodAll_mk1 (shut_bool htb _)
  · rw [hargs]
    exact trodAll_stays hl hb _ _ _ _ hrd hA hlt (fun x hx => hsp x (by simp [hx]))
  · rw [hvars, hvs]; rfl
  · intro j t r hj hr
    rw [hrt] at hj hr
    match j, hj, hr with
    | 0, hj, hr =>
      simp [Value.resultList] at hj hr
      subst hj; subst hr
      exact okWide_bool_mk htb _
end
end Go.Proofs.YtgomofeidghmiaaGreat
