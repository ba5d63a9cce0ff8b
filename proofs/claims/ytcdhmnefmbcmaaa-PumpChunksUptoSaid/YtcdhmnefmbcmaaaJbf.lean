/-
  From a law's lone contract over the virtual program to its row: what every law of layer 27 needs; no condition but what each law names.
  The laws' helpers over the virtual program: two rows of bytes compared; no condition but what each law names.
  The law's copy of bytes over the virtual program; no condition but what each law names.
  slices.Clone over the virtual program; no condition but what each law names.
  Buckets over the virtual program; no condition but what each law names.
  Bucket.Take over the virtual program; no condition but what each law names.
-/
import Derived.Test.YtcdhmnefmbcmaaaJaa
import Derived.Test.YtcdhmnefmbcmaaaJbe
import Derived.Conc.LeavingOf
import Derived.Lib.SmallJoins
import Derived.Test.YtcdhmnefmbcmaaaJbb
import Derived.WalkSpells
import Derived.WalkLawsBesides
import Derived.Deep.QuietTactic
import Derived.BigQuiet
import Derived.Lib.AppendZerosOnto
import Derived.Deep.RegionLaw
import Derived.StillTailTactics
namespace Go.Proofs.Ytcdhmnefmbcmaaa.Vw
open Go Go.RowKit Go.Conc Go.ChangeShapes Go.WideShapes Go.Deep
/-- the block of a slice that comes in is a row -/
theorem okw_block {t e : TypeId} {W : World} {base : Nat} (ht : Try.prog.underlying t = some (.slice e)) {a : Addr} {n c : Nat} (h : Value.okWide Try.prog W .any base t (.slice (some a) n c)) :
    ∃ p t' f, W.heap[a.block]? = some (.cells p t' f) := by
  unfold Value.okWide at h
  rw [ht] at h
  unfold Cell.okWide Cell.ok at h
  rw [ht] at h
  obtain ⟨_, _, _, _, row, cells, hs, _⟩ := h
  unfold World.shape? at hs
  split at hs
  · exact ⟨_, _, _, by assumption⟩
  · cases hs
/-- an int that comes in -/
theorem okw_i64 {W : World} {base : Nat} {v : Value} (h : Value.okWide Try.prog W .any base 3 v) : ∃ z, v = .int .i64 z ∧ -9223372036854775808 ≤ z ∧ z ≤ 9223372036854775807 := by
  obtain ⟨z, rfl⟩ := okWide_int Try.underlying3 h
  unfold Value.okWide at h
  rw [Try.underlying3] at h
  unfold Cell.okWide Cell.ok at h
  rw [Try.underlying3] at h
  have h2 := h.2
  simp [IntKind.has, IntKind.min, IntKind.max, IntKind.signed, IntKind.bits] at h2
  exact ⟨z, rfl, h2⟩
/-- the struct of three ints -/
theorem okw_tee {H : Type} {enc : TypeId × Value → H} {W : World} {base : Nat} {sp : Nat → Bool} {held : Bool} {v : Value} {d : DataW H} {p : List MemPlace} (hv : Value.okWide Try.prog W .any base 48 v) (h : DataW.Trod enc Try.prog W 0 sp held 48 v d p) :
    ∃ z1 z2 z3, v = .agg #[.int .i64 z1, .int .i64 z2, .int .i64 z3] ∧ (-9223372036854775808 ≤ z1 ∧ z1 ≤ 9223372036854775807) ∧ (-9223372036854775808 ≤ z2 ∧ z2 ≤ 9223372036854775807) ∧ (-9223372036854775808 ≤ z3 ∧ z3 ≤ 9223372036854775807) := by
  obtain ⟨v0, v1, v2, y0, y1, y2, n, rfl, rfl, rfl, h0, h1, h2⟩ := Go.Joins.open_agg3 Try.underlying48 (by kernel_rfl) (by kernel_rfl) hv h
  obtain ⟨z0, e0, _, b0⟩ := DataW.trod_int Try.underlying3 h0
  obtain ⟨z1, e1, _, b1⟩ := DataW.trod_int Try.underlying3 h1
  obtain ⟨z2, e2, _, b2⟩ := DataW.trod_int Try.underlying3 h2
  simp at e0 e1 e2
  subst e0 e1 e2
  exact ⟨z0, z1, z2, rfl, bounds_i64 b0, bounds_i64 b1, bounds_i64 b2⟩
/-- what is flat, or a slice into rows that stand for themselves, is read alike -/
theorem cell_H {FF : Fs} {Bs : Nat → Prop} {W : World} {H : Array Obj} {ts : List Value} (hBs : ∀ b, Bs b → ∃ p t f, W.heap[b]? = some (.cells p t f))
    (hrow : ∀ b, Bs b → ∀ p t f, W.heap[b]? = some (.cells p t f) → ∃ p', H[b]? = some (.cells p' t f) ∧ RowOk FF (rid Bs) W.heap.size ts p' p)
    {a : Addr} {x : Value} (ha : Bs a.block) (hc : W.cell? a = some x) (hx : flat x = true ∨ ∃ b k c, x = .slice (some b) k c ∧ Bs b.block) (t : Nat → Question → Nat) : (({ W with heap := H } : World).taped t).cell? a = some x := by
  obtain ⟨p, ty, f, hp⟩ := hBs _ ha
  obtain ⟨p', hp', hsz, hst⟩ := hrow _ ha p ty f hp
  unfold World.cell? at hc ⊢
  rw [hp] at hc
  rw [show (({ W with heap := H } : World).taped t).heap[a.block]? = H[a.block]? from rfl, hp']
  by_cases hs : a.spot.isSome
  · simp [hs] at hc
  · simp only [hs, Bool.false_eq_true, if_false] at hc ⊢
    have hlt : a.off < p'.size := by rw [hsz]; exact (Array.getElem?_eq_some_iff.1 hc).1
    obtain ⟨v, hv⟩ : ∃ v, p'[a.off]? = some v := ⟨_, Array.getElem?_eq_getElem hlt⟩
    obtain ⟨_, h1, h2, _⟩ := hst a.off v x hv hc
    rw [hv]
    rcases hx with hx | ⟨b, k, c, rfl, hb⟩
    · rw [h1 hx]
    · rw [h2 b k c rfl ⟨rfl, hb⟩]
theorem rd_H {FF : Fs} {Bs : Nat → Prop} {W : World} {H : Array Obj} {ts : List Value} (hBs : ∀ b, Bs b → ∃ p t f, W.heap[b]? = some (.cells p t f))
    (hrow : ∀ b, Bs b → ∀ p t f, W.heap[b]? = some (.cells p t f) → ∃ p', H[b]? = some (.cells p' t f) ∧ RowOk FF (rid Bs) W.heap.size ts p' p) (hz : W.heap.size ≤ H.size)
    {sz n c : Nat} {A : Option Addr} {xs : List Value} (h : Rd W sz A n c xs) (hA : ∀ k ∈ bo A, Bs k) (hxs : ∀ x ∈ xs, flat x = true ∨ ∃ b k c, x = .slice (some b) k c ∧ Bs b.block) (t : Nat → Question → Nat) :
    Rd (({ W with heap := H } : World).taped t) sz A n c xs :=
  ⟨h.1, h.2.1, h.2.2.1, h.2.2.2.1, fun ad e => ⟨fun hp => Nat.lt_of_lt_of_le ((h.2.2.2.2 ad e).1 hp) hz, fun j u hu => by
    refine cell_H hBs hrow ?_ ((h.2.2.2.2 ad e).2 j u hu) (hxs u (List.mem_of_getElem? hu)) t
    rw [add_block]; exact hA _ (by rw [e]; simp)⟩⟩
section
variable {H : Type} {enc : TypeId × Value → H}
/-- one good run from every start, where what comes in is bounded: the row's contract -/
theorem leaving_of_cond {a : Assume} {C : Checked} {os : Os} {f : FuncId} {fn : Func} {s : OpenSpec} {k : (H : Type) → List (DataW H) → Bool} (hk : s.cond = some k) {F : Stop.Interp} {conds : List PathCond} {apart fresh handsOn again : Bool}
    (own : ownKnob C.prog.godebug = none) (started : os.Started) (hfn : C.prog.funcs[f]? = some fn)
    (witness : ∃ (w : World) (tape : Tape) (i : Input), w.os = os ∧ (w.forCall tape i).Shaped C.prog ∧ i.vars = [] ∧ Input.okWide C.prog (w.forCall tape i) .any w.heap.size f i ∧
      s.pre6 enc C.prog fn conds apart (w.forCall tape i).memory i.args ∧ a.holds C.prog (lone (Frame.enter C.prog f i.args .normal) [] (w.forCall tape i)))
    (runs : ∀ (W : World) (base : Nat) (args : Array Value) (ds gs : List (DataW H)) (before : List MemPlace),
      (∀ (j : Nat) t v, fn.params[j]? = some t → args[j]? = some v → Value.okWide C.prog W .any base t v) →
      DataW.Whole enc C.prog fn.params.toList s.vars apart W args.toList ds gs before → k H (ds ++ gs) = true →
      ∃ M last o w' t', runNT C.prog (M + 1) (solo (G (Frame.enter C.prog f args .normal) []) W) #[] = (.ended o w', t') ∧ runN C.prog M (solo (G (Frame.enter C.prog f args .normal) []) W) = .next last ∧
        step C.prog last = .ended o w' ∧ Conc.Good C.prog (fun v W' => (s.at F).post enc C.prog fn apart fresh handsOn again W args v W') last o w' t') :
    ReturnsInLeavingWide a C os f .any (s.pre6 enc C.prog fn conds apart) ((s.at F).post enc C.prog fn apart fresh handsOn again) := by
  refine returnsInLeavingWide_of_good own started witness ?_
  intro w tape i _ _ _ hok hpre _
  obtain ⟨_, _, _, fn', hfn', _, _, _, _, hval⟩ := hok
  have e : fn' = fn := Option.some.inj (hfn'.symm.trans hfn)
  subst e
  obtain ⟨ds, gs, before, hw, _, hkk⟩ := (OpenSpec.pre_some hk conds apart _ _).1 hpre.1
  have hw' := DataW.Whole.of_heap (w' := w.forCall tape i) (by rfl) hw
  obtain ⟨M, last, o, w', t', h1, h2, h3, h4⟩ := runs (w.forCall tape i) w.heap.size i.args ds gs before hval hw' hkk
  exact ⟨M, last, o, w', t', h1, h2, h3, h4.mono fun v hp => ChangeSpec.post_blind hp⟩
end
/-- .. and the row itself -/
theorem holds_cond_leaving {p : Pinned} {s : OpenSpec} {c : OpenClaim} (f : FuncId) (fn : Func)
    (hn : c.program = p.name) (hs : c.sum = p.sum) (hsp : c.spec = s.name)
    (hstart : c.start = .entering) (hout : c.outside = []) (hin : c.inits = []) (hun : c.under = none) (hi4 : c.initsInPlace = [] ∧ c.initsUnfollowed = false ∧ c.initsRecurse = false ∧ c.initsNamed = [] ∧ c.initsPassed = []) (hnb : c.noBlocks = false) (hlv : c.leaving = true) (hfo : c.followed = none) (hnar : c.narrowed = s.cond.isSome) (hstill : c.still = false)
    (hfn : p.checked.prog.funcNamed c.func = some f) (hf : p.checked.prog.funcs[f]? = some fn)
    (closed : joinedFacts p.checked.prog f fn s.bare c = true)
    (hinst : fn.isInstance p.checked.prog c.origin c.targs) (hwrap : fn.isWrapper p.checked.prog c.wrapper c.mainSum)
    (h : ∀ os : Os, os.Started → ∀ (H : Type) (enc : TypeId × Value → H), (∀ a b, enc a = enc b → a = b) → ∀ F : Stop.Interp,
      ReturnsInLeavingWide c.assume p.checked os f .any (c.pre enc p.checked.prog fn s) ((s.at F).post enc p.checked.prog fn c.apart c.fresh c.handsOn c.again)) : c.holds p s := by
  simp only [joinedFacts, Bool.and_eq_true, beq_iff_eq, Array.all_eq_true_iff_forall_mem, List.all_eq_true, decide_eq_true_eq] at closed
  obtain ⟨⟨⟨⟨⟨⟨⟨⟨⟨⟨⟨⟨⟨⟨⟨⟨⟨⟨⟨⟨⟨⟨⟨⟨⟨⟨⟨⟨⟨⟨⟨a1, a2⟩, a3⟩, a4⟩, a5⟩, a6⟩, a7⟩, a8⟩, a9⟩, b1⟩, b2⟩, b3⟩, b4⟩, b5⟩, b6⟩, b7⟩, b8⟩, b8'⟩, b9⟩, d1⟩, d2⟩, d3⟩, d4⟩, d5⟩, d5'⟩, d6⟩, d6'⟩, d6''⟩, d7⟩, d8⟩, d9⟩, d10⟩ := closed
  have quiet : ∀ os : Os, Stop.quiet p.checked.prog os := fun os k hk => by rw [a9] at hk; cases hk
  have fits : c.startFits p.checked.prog := by unfold OpenClaim.startFits; rw [hstart]; exact d6
  have told : c.startTold p.checked.prog := by unfold OpenClaim.startTold; rw [hstart]; exact ⟨hin, hun, hi4⟩
  have tie : namedTie p.checked.prog c.namedList s.vars = true := by unfold OpenClaim.namedList; rw [hfo]; exact a5
  have worded : p.checked.prog.envWorded = true := by unfold Program.envWorded; rw [a9]; rfl
  refine ⟨a1, hn, hs, hsp, a2, a3, fits, told, f, fn, hfn, hf, ⟨a4, d1⟩, (fun hb => by rw [hnb] at hb; cases hb), tie, hinst, hwrap,
    a6.trans a7.symm, ⟨a8.trans a9.symm, worded, d5'⟩, b1, b2, b3, b4, b5, ⟨b6, d9, d10⟩, ⟨b7, d2⟩, ⟨b8, d3, d7, d8⟩, ⟨d4, d6', d6'', b8'⟩, ?_, fun n hn' => varReadable_some (b9 n hn'),
    ⟨_, by unfold OpenClaim.world; rw [hout, hstart]; exact WideRow.started_initial, quiet _⟩, [], by unfold OpenClaim.lists; rw [hfo], fun os st _ H enc inj => ?_⟩
  · rw [hout, hnar]
    cases hsh : c.shortTexts with
    | none => simp
    | some _ => rw [hsh] at d5; cases d5
  have st' : os.Started := by unfold OpenClaim.world at st; rw [hout, hstart] at st; exact st
  rw [OpenClaim.post_not_still hstill]
  unfold OpenClaim.form
  rw [hstart, a6]
  intro F
  have e1 : c.okInput = Input.okWide := by unfold OpenClaim.okInput; rw [hnb]
  have e2 : c.atReturn p.checked.prog = leavingAtReturn p.checked.prog := by unfold OpenClaim.atReturn; rw [hlv]
  have e3 : c.always p.checked.prog [] = nothingAlways := by unfold OpenClaim.always; rw [hfo]
  have e4 : s.post enc p.checked.prog fn F c.outside c.apart c.fresh c.handsOn c.again = (s.at F).post enc p.checked.prog fn c.apart c.fresh c.handsOn c.again := by rw [hout]; rfl
  rw [e1, e2, e3]
  show ReturnsInOpen _ _ _ _ _ _ _ _ (s.post enc p.checked.prog fn F c.outside c.apart c.fresh c.handsOn c.again) _ _
  rw [e4]
  exact h os st' H enc inj F d6
end Go.Proofs.Ytcdhmnefmbcmaaa.Vw

namespace Go.Proofs.Ytcdhmnefmbcmaaa.Vw
open Go Go.RowKit
/-- bytes, as values -/
abbrev bv (xs : List Int) : List Value := xs.map (Value.int .u8)
theorem conv_rd {w : World} {A : Option Addr} {n c : Nat} {xs : List Int} (h : Rd w 1 A n c (bv xs)) : (convert 22 9 (.slice A n c)).run Tryv.prog w = .ok (.string (strOfNums xs)) w := by
  have hl : xs.length = n := by have := h.1; simp at this; omega
  rw [conv_any]
  cases A with
  | none =>
    have h1 := h.2.2.2.1 rfl
    have h2 := h.2.1
    have hx : xs = [] := List.eq_nil_of_length_eq_zero (by omega)
    subst hx
    rfl
  | some ad =>
    have hld : (loadCells ad n).run Tryv.prog w = .ok (bv xs).toArray w := by
      have := run_loadCells_list (P := Tryv.prog) w ad (bv xs) (fun j v hj => (h.2.2.2.2 ad rfl).2 j v hj)
      simpa [hl] using this
    rw [run_bytesToString w ad n c xs hld, foldl_push_bytes]
    simp [strOfNums, ByteArray.empty, ByteArray.emptyWithCapacity]
    rfl
theorem same_any {A B : Option Addr} {n c m d : Nat} {xs ys : List Int} {w : World} (ha : Rd w 1 A n c (bv xs)) (hb : Rd w 1 B m d (bv ys)) :
    Calls Tryv.prog 10 #[.slice A n c, .slice B m d] w fun e w' => e = .returned (.bool ((strOfNums xs).toList == (strOfNums ys).toList)) ∧ w' = w := by
  have h1 := conv_rd ha
  have h2 := conv_rd hb
  go_enter Tryv.func10, Try.ntmps10
  go_wp2
  go_ret
  exact ⟨rfl, rfl⟩
end Go.Proofs.Ytcdhmnefmbcmaaa.Vw

namespace Go.Proofs.Ytcdhmnefmbcmaaa.Vw
open Go Go.RowKit
theorem bv_one (zs : List Int) : ∀ u ∈ bv zs, u.oneCell' = true := ints_oneCell _ _

/-- a slice in new memory is told -/
def NewRow (e : TypeId) (sz : Nat) (w : World) (xs : List Value) (n : Nat) (en : Ending) (w' : World) : Prop :=
  ∃ A c, en = .returned (.slice A n c) ∧ Own w' e sz A n c xs ∧ Chg [] w w' ∧ ∀ k ∈ bo A, w.heap.size ≤ k

theorem etyBytes : Ety Tryv.prog 22 5 1 1 (.int .u8 0) := .mk' und_bytesV (by kernel_rfl) rfl (by decide)

theorem one_int (k : IntKind) (x : Int) : ∀ u ∈ (#[Value.int k x] : Array Value).toList, u.oneCell' = true := by simp [Value.oneCell']

theorem take_snoc {α : Type} (l : List α) (k : Nat) (x : α) (h : l[k]? = some x) : l.take (k + 1) = l.take k ++ [x] := by
  rw [List.take_add_one, h]; rfl

theorem rd_byte {w : World} {k : IntKind} {A : Option Addr} {n c : Nat} {zs : List Int} (h : Rd w 1 A n c (zs.map (Value.int k))) {j : Nat} (hj : j < n) :
    ∃ ad x, A = some ad ∧ zs[j]? = some x ∧ w.cell? (ad.add j) = some (.int k x) := by
  obtain ⟨ad, u, h1, h2, h3⟩ := h.at1 hj
  rw [List.getElem?_map] at h2
  cases hz : zs[j]? with
  | none => rw [hz] at h2; cases h2
  | some x => rw [hz] at h2; simp at h2; subst h2; exact ⟨ad, x, h1, rfl, h3⟩

set_option maxRecDepth 100000 in
set_option maxHeartbeats 800000 in
theorem copy_any (A : Option Addr) (n c : Nat) (zs : List Int) (w : World) (hn : n ≤ 1073741824) (hrd : Rd w 1 A n c (bv zs)) :
    Calls Tryv.prog 8 #[.slice A n c] w (NewRow 5 1 w (bv zs) n) := by
  have hl : zs.length = n := by have := hrd.1; simp at this; omega
  have HR := Lib.hid hrd
  have HL := Lib.hid hl
  clear hrd hl
  go_enter Tryv.func8, Try.ntmps8
  go_wp2
  go_loopw [3, 4] (fun v i wr => ∃ (k : Nat) (A' : Option Addr) (c' : Nat), k ≤ n ∧ i = .int .i64 k ∧ v = .slice A' k c' ∧ Own wr 5 1 A' k c' ((bv zs).take k) ∧ Chg [] w wr ∧ (∀ k ∈ bo A', w.heap.size ≤ k)) (fun _ i _ => n - (intOf i).toNat)
  case atStart =>
    exact ⟨0, _, 0, Nat.zero_le _, rfl, rfl, Own.lit w 5 1 #[] 0 (by decide) rfl, (Chg.refl _ _).alloc _, by simp⟩
  case round =>
    obtain ⟨k, A', c', hk, rfl, rfl, hown, hchg, hnew⟩ := hrel
    by_cases hlt : k < n
    · obtain ⟨ad, x, rfl, hx, hcell⟩ := rd_byte (HR.out.chg hchg (by simp)) hlt
      have HX := Lib.hid hx
      have HN := Lib.hid hnew
      clear hx hnew
      go_wp2_with (at_builtin; refine wpList_app rfl _ _ rfl etyBytes rfl (hown.chg ((Chg.refl [] wr).alloc _) (by simp)) rfl (Own.lit wr 5 1 #[.int .u8 x] 1 (by decide) rfl).rd (one_int _ _) (by unfold maxLen; omega) (by omega) ?_; intro A2 c2 w2 hown2 hchg2 hnew2 _)
      go_roundw
      case rel =>
        refine ⟨k + 1, A2, c2, by omega, by go_num, rfl, ?_, (hchg.alloc _).trans hchg2 (fun y hy => .inr (HN.out y hy)), fun y hy => ?_⟩
        · rw [take_snoc _ _ (.int .u8 x) (by simp [HX.out])]; exact hown2
        · rcases hnew2 y hy with h1 | h1
          · exact HN.out y h1
          · have h2 := hchg.size; simp at h1; omega
      case measure => simp [intOf]; omega
    · go_wp2
      go_ret
      have hkn : k = n := by omega
      subst hkn
      exact ⟨A', c', rfl, by rw [← List.take_of_length_le (l := bv zs) (i := k) (by simp [HL.out])]; exact hown, hchg, hnew⟩

end Go.Proofs.Ytcdhmnefmbcmaaa.Vw

namespace Go.Proofs.Ytcdhmnefmbcmaaa.Vw
open Go Go.RowKit
/-- slices.Clone: nil stays nil -/
theorem clone_any (A : Option Addr) (n c : Nat) (zs : List Int) (w : World) (hn : n ≤ 1073741824) (hrd : Rd w 1 A n c (bv zs)) :
    Calls Tryv.prog 21 #[.slice A n c] w (NewRow 5 1 w (bv zs) n) := by
  cases A with
  | none =>
    have hc := hrd.2.2.2.1 rfl
    have hn0 : n = 0 := by have := hrd.2.1; omega
    subst hc; subst hn0
    have hz : bv zs = [] := List.eq_nil_of_length_eq_zero (by simpa using hrd.1)
    have HZ := Lib.hid hz
    have qT := fun (w : World) => Lib.run_eql_slice_nil (P := Tryv.prog) w 22 5 none 0 0 0 0 und_bytesV
    clear hz hrd
    go_enter Tryv.func21, Try.ntmps21
    go_wp2
    go_ret
    exact ⟨none, 0, rfl, by rw [HZ.out]; exact Own.nil _ _ _, Chg.refl _ _, by simp⟩
  | some ad =>
    have HR := Lib.hid hrd
    clear hrd
    have qT := fun (w : World) => Lib.run_eql_slice_nil (P := Tryv.prog) w 22 5 (some ad) n c 0 0 und_bytesV
    go_enter Tryv.func21, Try.ntmps21
    go_wp2_with (at_builtin; refine wpList_app rfl _ _ rfl etyBytes rfl (Own.lit w 5 1 #[] 0 (by decide) rfl) rfl (HR.out.chg ((Chg.refl [] w).alloc _) (by simp)) (bv_one zs) (by unfold maxLen; omega) (by omega) ?_; intro A2 c2 w3 hown4 hchg4 hnew4 _)
    go_ret
    exact ⟨A2, c2, rfl, by simpa using hown4, ((Chg.refl [] w).alloc _).trans hchg4 (by simp), fun k hk => by
      rcases hnew4 k hk with h1 | h1
      · simp at h1; omega
      · have := h1.1; simp at this; omega⟩
end Go.Proofs.Ytcdhmnefmbcmaaa.Vw

namespace Go.Proofs.Ytcdhmnefmbcmaaa.Vw
open Go Go.RowKit
theorem Tryv.call21 (p : Array Value) (w : World) : (callFunc 21 p).run Tryv.prog w = .ok (.enter 21 p) w := by
  unfold callFunc
  simp only [Sem.run_bind]
  have : (program).run Tryv.prog w = .ok Tryv.prog w := rfl
  rw [this]
  simp only [Result.andThen_ok, Tryv.func21]
  rfl
theorem newb_any (n : Int) (w : World) : Calls Tryv.prog 13 #[.int .i64 n] w fun e w' => ∃ t, e = .returned (.pointer (some ⟨w.heap.size, 0, none⟩)) ∧ w' = w.alloc (.cells #[.int .i64 (if n > 0 then n else 0), .slice none 0 0, .int .i64 0] t) := by
  go_enter Tryv.func13, Try.ntmps13
  go_wp2
  all_goals (go_ret; exact ⟨rfl, _, rfl⟩)
theorem count_any {g : Nat} {cnt : Int} {w : World} (h : w.cell? ⟨g, 2, none⟩ = some (.int .i64 cnt)) : Calls Tryv.prog 18 #[.pointer (some ⟨g, 0, none⟩)] w fun e w' => e = .returned (.int .i64 cnt) ∧ w' = w := by
  go_enter Tryv.func18, Try.ntmps18
  go_wp2
  go_ret
  exact ⟨rfl, rfl⟩
theorem bytes_any {g : Nat} {A : Option Addr} {n c : Nat} {zs : List Int} {w : World} (h : w.cell? ⟨g, 1, none⟩ = some (.slice A n c)) (hn : n ≤ 1073741824) (hr : Rd w 1 A n c (bv zs)) : Calls Tryv.prog 17 #[.pointer (some ⟨g, 0, none⟩)] w (NewRow 5 1 w (bv zs) n) := by
  have kCLONEBY := Tryv.call21
  go_enter Tryv.func17, Try.ntmps17
  go_wp2_with (go_at_call 21; refine (clone_any A n c zs w hn hr).mono ?_; rintro e w1 ⟨A1, c1, rfl, hown, hchg, hnew⟩)
  go_ret
  exact ⟨A1, c1, rfl, hown, hchg, hnew⟩
end Go.Proofs.Ytcdhmnefmbcmaaa.Vw

namespace Go.Proofs.Ytcdhmnefmbcmaaa.Vw
open Go Go.RowKit
/-- a Bucket of the program in memory -/
def Bkt (w : World) (g : Nat) (A : Option Addr) (room : Int) (zs : List Int) (cnt : Int) : Prop :=
  ∃ t n c, Blk w g t #[.int .i64 room, .slice A n c, .int .i64 cnt] ∧ Own w 5 1 A n c (bv zs) ∧ g ∉ bo A ∧ n = zs.length
theorem Bkt.chg {w w' : World} {g : Nat} {A : Option Addr} {room : Int} {zs : List Int} {cnt : Int} {M : List Nat} (h : Bkt w g A room zs cnt) (hc : Chg M w w') (hn : ∀ k ∈ g :: bo A, k ∉ M) : Bkt w' g A room zs cnt := by
  obtain ⟨t, n, c, hb, ho, hg, e⟩ := h
  exact ⟨t, n, c, hb.chg hc (hn g (by simp)), ho.chg hc (fun k hk => hn k (by simp [hk])), hg, e⟩
/-- what Take leaves -/
def Took (w : World) (g : Nat) (A : Option Addr) (room : Int) (zs ys : List Int) (cnt : Int) (e : Ending) (w' : World) : Prop :=
  (room - zs.length < ys.length ∧ e = .returned (.int .i64 85) ∧ Chg [] w w') ∨
  (¬ room - zs.length < ys.length ∧ e = .returned (.int .i64 0) ∧ ∃ A', Bkt w' g A' room (zs ++ ys) (cnt + 1) ∧ Chg (g :: bo A) w w' ∧ ∀ k ∈ bo A', k ∈ bo A ∨ w.heap.size ≤ k)
set_option maxRecDepth 100000 in
set_option maxHeartbeats 1600000 in
theorem take_any {g : Nat} {A B : Option Addr} {m d : Nat} {room cnt : Int} {zs ys : List Int} {w : World} (h : Bkt w g A room zs cnt) (hrd : Rd w 1 B m d (bv ys))
    (hr0 : 0 ≤ room) (hr1 : room ≤ 9223372036854775807) (hz : zs.length ≤ 1073741824) (hm : m ≤ 1073741824) (hc0 : 0 ≤ cnt) (hc1 : cnt ≤ 1073741824) :
    Calls Tryv.prog 15 #[.pointer (some ⟨g, 0, none⟩), .slice B m d] w (Took w g A room zs ys cnt) := by
  obtain ⟨t, n, c, hb, ho, hg, rfl⟩ := h
  have hl : ys.length = m := by have := hrd.1; simp at this; omega
  have HR := Lib.hid hrd
  have HO := Lib.hid ho
  have HB := Lib.hid hb
  have HG := Lib.hid hg
  have HL := Lib.hid hl
  have c0 := hb.cell 0
  have c1 := hb.cell 1
  have c2 := hb.cell 2
  have f1 := hb.frozen 1
  have f2 := hb.frozen 2
  simp at c0 c1 c2
  generalize hn : zs.length = n at *
  have HN := Lib.hid hn
  have i1 : (0 : Int) ≤ n := by omega
  have i2 : (0 : Int) ≤ m := by omega
  clear hrd ho hb hg hl hn
  by_cases hfull : room - (n : Int) < (m : Int)
  · have hd : decide ((m : Int) > room - (n : Int)) = true := by simp; omega
    have HF := Lib.hid hfull
    clear hfull
    go_enter Tryv.func15, Try.ntmps15
    go_wp2
    go_quiet (fail)
    go_wp2
    go_ret
    exact .inl ⟨by rw [HN.out, HL.out]; exact HF.out, rfl, (Chg.refl _ _).drewN _⟩
  · have hd : decide ((m : Int) > room - (n : Int)) = false := by simp; omega
    have HF := Lib.hid hfull
    clear hfull
    go_enter Tryv.func15, Try.ntmps15
    go_wp2
    go_quiet (fail)
    go_wp2_with (at_builtin; refine wpList_app rfl _ _ rfl etyBytes rfl (HO.out.chg ((Chg.refl [] w).drewN _) (by simp)) rfl (HR.out.chg ((Chg.refl [] w).drewN _) (by simp)) (bv_one _) (by unfold maxLen; omega) (by omega) ?_; intro A1 cc1 w1 hown1 hchg1 hnew1 _; have ff := ((HB.out.drewN _).chg hchg1 HG.out); have d1 := ff.cell 1; have d2 := ff.cell 2; have e1 := ff.frozen 1; have e2 := ff.frozen 2; simp at d1 d2)
    go_ret
    have hgA : g ∉ bo A1 := fun hh => by
      have hlt := HB.out.lt
      rcases hnew1 g hh with h1 | h1
      · exact HG.out h1
      · have := h1.1; rw [show (w.drewN nq).heap.size = w.heap.size from rfl] at this; omega
    have hch : Chg [g] w1 ((w1.setCell ⟨g, 1, none⟩ (.slice A1 (n + m) cc1)).setCell ⟨g, 2, none⟩ (.int .i64 (cnt + 1))) := ((Chg.refl [g] w1).setCell (by simp) _).setCell (by simp) _
    refine .inr ⟨by rw [HN.out, HL.out]; have := HF.out; omega, rfl, A1, ⟨t, n + m, cc1, ?_, ?_, hgA, ?_⟩, ?_, ?_⟩
    · simpa using (ff.set_ 1 (.slice A1 (n + m) cc1)).set_ 2 (.int .i64 (cnt + 1))
    · simpa using hown1.chg hch (fun k hk hh => hgA (by simp at hh; subst hh; exact hk))
    · rw [List.length_append, HN.out, HL.out]
    · exact ((((Chg.refl (g :: bo A) w).drewN _).trans hchg1 (fun x hx => .inl (List.mem_cons_of_mem _ hx)))).trans hch (by simp)
    · intro k hk
      rcases hnew1 k hk with h1 | h1
      · exact .inl h1
      · exact .inr h1.1
/-- a Bucket of the document in memory -/
def RBkt (w : World) (g : Nat) (A : Option Addr) (room : Int) (zs : List Int) (cnt : Int) : Prop :=
  ∃ t n c, Blk w g t #[.int .i64 room, .int .i64 cnt, .slice A n c] ∧ Own w 5 1 A n c (bv zs) ∧ g ∉ bo A ∧ n = zs.length
theorem RBkt.chg {w w' : World} {g : Nat} {A : Option Addr} {room : Int} {zs : List Int} {cnt : Int} {M : List Nat} (h : RBkt w g A room zs cnt) (hc : Chg M w w') (hn : ∀ k ∈ g :: bo A, k ∉ M) : RBkt w' g A room zs cnt := by
  obtain ⟨t, n, c, hb, ho, hg, e⟩ := h
  exact ⟨t, n, c, hb.chg hc (hn g (by simp)), ho.chg hc (fun k hk => hn k (by simp [hk])), hg, e⟩
theorem rnewb_any (n : Int) (w : World) : Calls Tryv.prog 14 #[.int .i64 n] w fun e w' => ∃ t, e = .returned (.pointer (some ⟨w.heap.size, 0, none⟩)) ∧ w' = w.alloc (.cells #[.int .i64 (if n < 0 then 0 else n), .int .i64 0, .slice none 0 0] t) := by
  by_cases h : n < 0
  · have hd : decide (n < 0) = true := by simpa using h
    go_enter Tryv.func14, Try.ntmps14
    go_wp2
    all_goals (go_ret; first | exact ⟨rfl, _, rfl⟩ | (rw [if_pos h]; exact ⟨rfl, _, rfl⟩) | (rw [if_neg h]; exact ⟨rfl, _, rfl⟩) | (rw [if_neg (Int.not_lt.2 h)]; exact ⟨rfl, _, rfl⟩))
  · have hd : decide (n < 0) = false := by simpa using h
    go_enter Tryv.func14, Try.ntmps14
    go_wp2
    all_goals (go_ret; first | exact ⟨rfl, _, rfl⟩ | (rw [if_pos h]; exact ⟨rfl, _, rfl⟩) | (rw [if_neg h]; exact ⟨rfl, _, rfl⟩) | (rw [if_neg (Int.not_lt.2 h)]; exact ⟨rfl, _, rfl⟩))
/-- what the document's Take leaves -/
def RTook (w : World) (g : Nat) (A : Option Addr) (room : Int) (zs ys : List Int) (cnt : Int) (e : Ending) (w' : World) : Prop :=
  (room - zs.length < ys.length ∧ e = .returned (.int .i64 85) ∧ Chg [] w w') ∨
  (¬ room - zs.length < ys.length ∧ e = .returned (.int .i64 0) ∧ ∃ A', RBkt w' g A' room (zs ++ ys) (cnt + 1) ∧ Chg (g :: bo A) w w' ∧ ∀ k ∈ bo A', k ∈ bo A ∨ w.heap.size ≤ k)
set_option maxRecDepth 100000 in
set_option maxHeartbeats 1600000 in
theorem rtake_any {g : Nat} {A B : Option Addr} {m d : Nat} {room cnt : Int} {zs ys : List Int} {w : World} (h : RBkt w g A room zs cnt) (hrd : Rd w 1 B m d (bv ys))
    (hBg : 0 < m → ∀ k ∈ bo B, k ∉ g :: bo A) (hr0 : 0 ≤ room) (hr1 : room ≤ 9223372036854775807) (hz : zs.length ≤ 1073741824) (hm : m ≤ 1073741824) (hc0 : 0 ≤ cnt) (hc1 : cnt ≤ 1073741824) :
    Calls Tryv.prog 16 #[.pointer (some ⟨g, 0, none⟩), .slice B m d] w (RTook w g A room zs ys cnt) := by
  obtain ⟨t, n, c, hb, ho, hg, rfl⟩ := h
  have hl : ys.length = m := by have := hrd.1; simp at this; omega
  have HR := Lib.hid hrd
  have HO := Lib.hid ho
  have HB := Lib.hid hb
  have HG := Lib.hid hg
  have HL := Lib.hid hl
  have HBG := Lib.hid hBg
  have c0 := hb.cell 0
  have c1 := hb.cell 1
  have c2 := hb.cell 2
  simp at c0 c1 c2
  generalize hn : zs.length = n at *
  have HN := Lib.hid hn
  have i1 : (0 : Int) ≤ n := by omega
  have i2 : (0 : Int) ≤ m := by omega
  clear hrd ho hb hg hl hn hBg
  by_cases hfull : room - (n : Int) < (m : Int)
  · have hd : decide (room - (n : Int) < (m : Int)) = true := by simp; omega
    have HF := Lib.hid hfull
    clear hfull
    go_enter Tryv.func16, Try.ntmps16
    go_wp2
    go_quiet (fail)
    go_wp2
    go_ret
    exact .inl ⟨by rw [HN.out, HL.out]; exact HF.out, rfl, (Chg.refl _ _).drewN _⟩
  · have hd : decide (room - (n : Int) < (m : Int)) = false := by simp; omega
    have HF := Lib.hid hfull
    clear hfull
    go_enter Tryv.func16, Try.ntmps16
    go_wp2
    go_quiet (fail)
    go_wp2
    clear c0 c1 c2
    go_loopw [5] (fun i wr => ∃ (k : Nat) (A' : Option Addr) (c' : Nat), k ≤ m ∧ i = .int .i64 k ∧ Blk wr g t #[.int .i64 room, .int .i64 cnt, .slice A' (n + k) c'] ∧ Own wr 5 1 A' (n + k) c' (bv zs ++ (bv ys).take k) ∧ Chg (g :: bo A) w wr ∧ (∀ k ∈ bo A', k ∈ bo A ∨ w.heap.size ≤ k) ∧ g ∉ bo A') (fun i _ => m - (intOf i).toNat)
    case atStart => exact ⟨0, A, c, Nat.zero_le _, rfl, HB.out.drewN _, by simpa using HO.out.chg ((Chg.refl [] w).drewN _) (by simp), (Chg.refl _ _).drewN _, fun k hk => .inl hk, HG.out⟩
    case round =>
      obtain ⟨k, A', c', hk, rfl, hblk, hown, hchg, hnew, hgA⟩ := hrel
      by_cases hlt : k < m
      · have hrd' : Rd wr 1 B m d (bv ys) := HR.out.chg hchg (HBG.out (by omega))
        obtain ⟨ad, x, rfl, hx, hcell⟩ := rd_byte hrd' hlt
        have HX := Lib.hid hx
        have HNW := Lib.hid hnew
        have HBK := Lib.hid hblk
        have HGA := Lib.hid hgA
        have HOW := Lib.hid hown
        have HCH := Lib.hid hchg
        have c2 := hblk.cell 2
        have c2a := fun o => (hblk.alloc o).cell 2
        simp at c2 c2a
        clear hx hnew hblk hgA hown hchg hrd'
        go_wp2
        go_region_law (refine step_app rfl _ _ rfl etyBytes rfl (HOW.out.chg ((((Chg.refl [] wr).drewN _)).alloc _) (by simp)) rfl (Own.lit wr 5 1 #[.int .u8 x] 1 (by decide) rfl).rd (one_int _ _) (by unfold maxLen; omega) (by omega) ?_; intro A2 c3 w2 hown2 hchg2 hnew2 _; have ff := ((HBK.out.drewN _).alloc _).chg hchg2 HGA.out; have d2 := ff.cell 2; have e2 := ff.frozen 2; simp at d2)
        all_goals go_wp2
        all_goals go_roundw
        all_goals first
          | (simp [intOf]; omega; done)
          | (
              have hch : Chg [g] w2 (w2.setCell ⟨g, 2, none⟩ (.slice A2 (n + k + 1) c3)) := (Chg.refl [g] w2).setCell (by simp) _
              have hsz := HCH.out.size
              have hgA2 : g ∉ bo A2 := fun hh => by
                have hlt := HB.out.lt
                rcases hnew2 g hh with h1 | h1
                · exact HGA.out h1
                · have := h1.1; simp at this; omega
              refine ⟨k + 1, A2, c3, by omega, by go_num, ?_, ?_, ?_, ?_, hgA2⟩
              · simpa [Nat.add_assoc] using ff.set_ 2 (.slice A2 (n + k + 1) c3)
              · rw [take_snoc _ _ (.int .u8 x) (by simp [HX.out]), ← List.append_assoc]
                exact hown2.chg hch (fun k hk hh => hgA2 (by simp at hh; subst hh; exact hk))
              · exact (((HCH.out.drewN _).alloc _).trans hchg2 (fun y hy => (HNW.out y hy).imp (fun h => List.mem_cons_of_mem _ h) id)).trans hch (by simp)
              · intro y hy
                rcases hnew2 y hy with h1 | h1
                · exact HNW.out y h1
                · right; have := h1.1; simp at this; omega)
      · have hkm : k = m := by omega
        have HBK := Lib.hid hblk
        have HCH := Lib.hid hchg
        have HOW := Lib.hid hown
        have HNW := Lib.hid hnew
        have HGA := Lib.hid hgA
        have HKM := Lib.hid hkm
        have d1 := hblk.cell 1
        have e1 := hblk.frozen 1
        simp at d1
        clear hblk hchg hown hnew hgA hkm
        go_wp2
        go_ret
        have hch : Chg [g] wr (wr.setCell ⟨g, 1, none⟩ (.int .i64 (cnt + 1))) := (Chg.refl [g] wr).setCell (by simp) _
        have hk := HKM.out
        subst hk
        have hgA := HGA.out
        refine .inr ⟨by rw [HN.out, HL.out]; have := HF.out; omega, rfl, A', ⟨t, n + k, c', ?_, ?_, hgA, ?_⟩, ?_, HNW.out⟩
        · simpa using HBK.out.set_ 1 (.int .i64 (cnt + 1))
        · have := HOW.out.chg hch (fun k hk hh => hgA (by simp at hh; subst hh; exact hk))
          rwa [List.take_of_length_le (by simp [HL.out]), ← List.map_append] at this
        · rw [List.length_append, HN.out, HL.out]
        · exact HCH.out.trans hch (by simp)
end Go.Proofs.Ytcdhmnefmbcmaaa.Vw
