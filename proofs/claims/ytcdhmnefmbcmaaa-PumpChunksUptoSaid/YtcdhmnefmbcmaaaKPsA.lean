/-
  The second virtual program of layer 27: as the program, but speaks answers true; which functions may be met; no condition.
-/
import Derived.Test.YtcdhmnefmbcmaaaJbe
namespace Go.Proofs.Ytcdhmnefmbcmaaa
open Go Go.Conc
abbrev Tryw.f11 : Func := { name := "speaks", origin := "", params := #[], resultTypes := #[4], nfree := 0, ntmps := 1, results := #[.tmp 0], body := some (.seq (.region 0 #[{ dst := some 0, op := .assign (.const (.bool true)), type := 4, pos := "", after := #[], guard := none }] false) .ret), norace := false, tmpNames := #[] }
abbrev Tryw.f19 : Func := { name := "Copy", origin := "", params := #[], resultTypes := #[], nfree := 0, ntmps := 1, results := #[], body := some (.refuse ""), norace := false, tmpNames := #[] }
noncomputable def Tryw.funcs : Array Func := (Try.prog.funcs.setIfInBounds 11 Tryw.f11).setIfInBounds 19 Tryw.f19
noncomputable def Tryw.prog : Program := { Try.prog with funcs := Tryw.funcs }
theorem Tryw.func3 : Tryw.prog.funcs[(3 : Nat)]? = some Try.f3 := by kernel_rfl
theorem Tryw.func8 : Tryw.prog.funcs[(8 : Nat)]? = some Try.f8 := by kernel_rfl
theorem Tryw.func9 : Tryw.prog.funcs[(9 : Nat)]? = some Try.f9 := by kernel_rfl
theorem Tryw.func10 : Tryw.prog.funcs[(10 : Nat)]? = some Try.f10 := by kernel_rfl
theorem Tryw.func12 : Tryw.prog.funcs[(12 : Nat)]? = some Try.f12 := by kernel_rfl
theorem Tryw.func21 : Tryw.prog.funcs[(21 : Nat)]? = some Try.f21 := by kernel_rfl
theorem Tryw.func22 : Tryw.prog.funcs[(22 : Nat)]? = some Try.f22 := by kernel_rfl
theorem Tryw.func23 : Tryw.prog.funcs[(23 : Nat)]? = some Try.f23 := by kernel_rfl
theorem Tryw.func29 : Tryw.prog.funcs[(29 : Nat)]? = some Try.f29 := by kernel_rfl
theorem Tryw.func11 : Tryw.prog.funcs[(11 : Nat)]? = some Tryw.f11 := by kernel_rfl
theorem Tryw.func19 : Tryw.prog.funcs[(19 : Nat)]? = some Tryw.f19 := by kernel_rfl
@[simp] theorem Tryw.tab : Tryw.prog.toTables = Try.prog.toTables := rfl
@[simp] theorem Tryw.und (t : TypeId) : Tryw.prog.underlying t = Try.prog.underlying t := rfl
@[simp] theorem Tryw.info (t : TypeId) : Tryw.prog.info? t = Try.prog.info? t := rfl
@[simp] theorem Tryw.rInfo (t : TypeId) (w : World) : (typeInfo t).run Tryw.prog w = (typeInfo t).run Try.prog w := g_rInfo Try.prog Tryw.funcs t w
@[simp] theorem Tryw.rUnd (t : TypeId) (w : World) : (underlying t).run Tryw.prog w = (underlying t).run Try.prog w := g_rUnd Try.prog Tryw.funcs t w
@[simp] theorem Tryw.rSize (t : TypeId) (w : World) : (sizeOf t).run Tryw.prog w = (sizeOf t).run Try.prog w := g_rSize Try.prog Tryw.funcs t w
@[simp] theorem Tryw.rAgg (t : TypeId) (w : World) : (isAgg t).run Tryw.prog w = (isAgg t).run Try.prog w := g_rAgg Try.prog Tryw.funcs t w
@[simp] theorem Tryw.rZero (t : TypeId) (w : World) : (zeroValue t).run Tryw.prog w = (zeroValue t).run Try.prog w := g_rZero Try.prog Tryw.funcs t w
/-- the functions that the law of Chunks reaches -/
def SW : List Nat := [3, 8, 9, 10, 11, 12, 21, 22, 23, 29, 19]
noncomputable abbrev TW : Twin := { P := Try.prog, F := Tryw.funcs }
noncomputable abbrev KW : Kit := { P := Try.prog, fb := { c := fun f => SW.contains f, v := fun f => f == 22 || f == 29 || f == 19, l := true, d := false, m := 1, a := fun f => if f == 11 then some 0 else none }, G := 0, X := fun f => f == 11 || f == 19, z := 19 }
noncomputable abbrev TWV : Twin := { P := Tryw.prog, F := Tryw.funcs }
noncomputable abbrev KWV : Kit := { KW with X := fun _ => false }
theorem TW_v : TW.v = Tryw.prog := rfl
theorem TWV_v : TWV.v = Tryw.prog := rfl
theorem mem_SW {f : Nat} (h : SW.contains f = true) : f = 3 ∨ f = 8 ∨ f = 9 ∨ f = 10 ∨ f = 11 ∨ f = 12 ∨ f = 21 ∨ f = 22 ∨ f = 23 ∨ f = 29 ∨ f = 19 := by
  have := List.contains_iff_mem.1 h
  simpa [SW] using this
theorem okW_3 : cOk Try.prog KW.fb KW.G true (bodyOf Try.f3) = true := by kernel_rfl
theorem okW_8 : cOk Try.prog KW.fb KW.G true (bodyOf Try.f8) = true := by kernel_rfl
theorem okW_9 : cOk Try.prog KW.fb KW.G true (bodyOf Try.f9) = true := by kernel_rfl
theorem okW_10 : cOk Try.prog KW.fb KW.G true (bodyOf Try.f10) = true := by kernel_rfl
theorem okW_12 : cOk Try.prog KW.fb KW.G true (bodyOf Try.f12) = true := by kernel_rfl
theorem okW_21 : cOk Try.prog KW.fb KW.G true (bodyOf Try.f21) = true := by kernel_rfl
theorem okW_22 : cOk Try.prog KW.fb KW.G true (bodyOf Try.f22) = true := by kernel_rfl
theorem okW_23 : cOk Try.prog KW.fb KW.G true (bodyOf Try.f23) = true := by kernel_rfl
theorem okW_29 : cOk Try.prog KW.fb KW.G true (bodyOf Try.f29) = true := by kernel_rfl
theorem okWV_11 : cOk Try.prog KWV.fb KWV.G true (bodyOf Tryw.f11) = true := by kernel_rfl
theorem okWV_19 : cOk Try.prog KWV.fb KWV.G true (bodyOf Tryw.f19) = true := by kernel_rfl
theorem fitsW : Fits KW TW 0 where
  ops := fun _ => rfl
  same := fun f hf hx => by
    rcases mem_SW hf with rfl | rfl | rfl | rfl | rfl | rfl | rfl | rfl | rfl | rfl | rfl
    · exact Tryw.func3.trans Try.func3.symm
    · exact Tryw.func8.trans Try.func8.symm
    · exact Tryw.func9.trans Try.func9.symm
    · exact Tryw.func10.trans Try.func10.symm
    · exact absurd hx (by decide)
    · exact Tryw.func12.trans Try.func12.symm
    · exact Tryw.func21.trans Try.func21.symm
    · exact Tryw.func22.trans Try.func22.symm
    · exact Tryw.func23.trans Try.func23.symm
    · exact Tryw.func29.trans Try.func29.symm
    · exact absurd hx (by decide)
  N := Nat.le_refl _
  bodies := {
    z := ⟨⟨_, Tryw.func19, rfl, by decide⟩, ⟨_, Try.func19, rfl, by decide⟩⟩
    v := fun f hf => by
      rcases mem_SW hf with rfl | rfl | rfl | rfl | rfl | rfl | rfl | rfl | rfl | rfl | rfl
      · exact ⟨_, Tryw.func3, rfl, by decide⟩
      · exact ⟨_, Tryw.func8, rfl, by decide⟩
      · exact ⟨_, Tryw.func9, rfl, by decide⟩
      · exact ⟨_, Tryw.func10, rfl, by decide⟩
      · exact ⟨_, Tryw.func11, rfl, by decide⟩
      · exact ⟨_, Tryw.func12, rfl, by decide⟩
      · exact ⟨_, Tryw.func21, rfl, by decide⟩
      · exact ⟨_, Tryw.func22, rfl, by decide⟩
      · exact ⟨_, Tryw.func23, rfl, by decide⟩
      · exact ⟨_, Tryw.func29, rfl, by decide⟩
      · exact ⟨_, Tryw.func19, rfl, by decide⟩
    a := fun f hf => by
      rcases mem_SW hf with rfl | rfl | rfl | rfl | rfl | rfl | rfl | rfl | rfl | rfl | rfl
      · exact ⟨_, Try.func3, rfl, by decide⟩
      · exact ⟨_, Try.func8, rfl, by decide⟩
      · exact ⟨_, Try.func9, rfl, by decide⟩
      · exact ⟨_, Try.func10, rfl, by decide⟩
      · exact ⟨_, Try.func11, rfl, by decide⟩
      · exact ⟨_, Try.func12, rfl, by decide⟩
      · exact ⟨_, Try.func21, rfl, by decide⟩
      · exact ⟨_, Try.func22, rfl, by decide⟩
      · exact ⟨_, Try.func23, rfl, by decide⟩
      · exact ⟨_, Try.func29, rfl, by decide⟩
      · exact ⟨_, Try.func19, rfl, by decide⟩
    va := fun f h n => by
      have h : (f == 22 || f == 29 || f == 19) = true := h
      rw [Bool.or_eq_true, Bool.or_eq_true] at h
      rcases h with (h | h) | h <;> (obtain rfl := of_decide_eq_true h; rfl)
    m0 := m0 }
  body := fun f fn hf hx h c hc => by
    rcases mem_SW hf with rfl | rfl | rfl | rfl | rfl | rfl | rfl | rfl | rfl | rfl | rfl
    · obtain rfl := Option.some.inj (Try.func3.symm.trans h); have e := okW_3; rwa [body_of hc] at e
    · obtain rfl := Option.some.inj (Try.func8.symm.trans h); have e := okW_8; rwa [body_of hc] at e
    · obtain rfl := Option.some.inj (Try.func9.symm.trans h); have e := okW_9; rwa [body_of hc] at e
    · obtain rfl := Option.some.inj (Try.func10.symm.trans h); have e := okW_10; rwa [body_of hc] at e
    · exact absurd hx (by decide)
    · obtain rfl := Option.some.inj (Try.func12.symm.trans h); have e := okW_12; rwa [body_of hc] at e
    · obtain rfl := Option.some.inj (Try.func21.symm.trans h); have e := okW_21; rwa [body_of hc] at e
    · obtain rfl := Option.some.inj (Try.func22.symm.trans h); have e := okW_22; rwa [body_of hc] at e
    · obtain rfl := Option.some.inj (Try.func23.symm.trans h); have e := okW_23; rwa [body_of hc] at e
    · obtain rfl := Option.some.inj (Try.func29.symm.trans h); have e := okW_29; rwa [body_of hc] at e
    · exact absurd hx (by decide)
theorem fitsWV : Fits KWV TWV 0 where
  ops := fun op => by cases op <;> rfl
  same := fun f hf hx => rfl
  N := Nat.le_refl _
  bodies := by
    have h : ∀ f, KWV.fb f = true → ∃ fn, Tryw.prog.funcs[f]? = some fn ∧ fn.body.isNone = false ∧ (fn.name == "runtime.NumGoroutine") = false := fun f hf => by
      rcases mem_SW hf with rfl | rfl | rfl | rfl | rfl | rfl | rfl | rfl | rfl | rfl | rfl
      · exact ⟨_, Tryw.func3, rfl, by decide⟩
      · exact ⟨_, Tryw.func8, rfl, by decide⟩
      · exact ⟨_, Tryw.func9, rfl, by decide⟩
      · exact ⟨_, Tryw.func10, rfl, by decide⟩
      · exact ⟨_, Tryw.func11, rfl, by decide⟩
      · exact ⟨_, Tryw.func12, rfl, by decide⟩
      · exact ⟨_, Tryw.func21, rfl, by decide⟩
      · exact ⟨_, Tryw.func22, rfl, by decide⟩
      · exact ⟨_, Tryw.func23, rfl, by decide⟩
      · exact ⟨_, Tryw.func29, rfl, by decide⟩
      · exact ⟨_, Tryw.func19, rfl, by decide⟩
    exact { z := ⟨⟨_, Tryw.func19, rfl, by decide⟩, ⟨_, Tryw.func19, rfl, by decide⟩⟩, v := h, a := h, va := fitsW.bodies.va, m0 := m0 }
  body := fun f fn hf hx h c hc => by
    rcases mem_SW hf with rfl | rfl | rfl | rfl | rfl | rfl | rfl | rfl | rfl | rfl | rfl
    · obtain rfl := Option.some.inj (Tryw.func3.symm.trans h); have e := okW_3; rwa [body_of hc] at e
    · obtain rfl := Option.some.inj (Tryw.func8.symm.trans h); have e := okW_8; rwa [body_of hc] at e
    · obtain rfl := Option.some.inj (Tryw.func9.symm.trans h); have e := okW_9; rwa [body_of hc] at e
    · obtain rfl := Option.some.inj (Tryw.func10.symm.trans h); have e := okW_10; rwa [body_of hc] at e
    · obtain rfl := Option.some.inj (Tryw.func11.symm.trans h); have e := okWV_11; rwa [body_of hc] at e
    · obtain rfl := Option.some.inj (Tryw.func12.symm.trans h); have e := okW_12; rwa [body_of hc] at e
    · obtain rfl := Option.some.inj (Tryw.func21.symm.trans h); have e := okW_21; rwa [body_of hc] at e
    · obtain rfl := Option.some.inj (Tryw.func22.symm.trans h); have e := okW_22; rwa [body_of hc] at e
    · obtain rfl := Option.some.inj (Tryw.func23.symm.trans h); have e := okW_23; rwa [body_of hc] at e
    · obtain rfl := Option.some.inj (Tryw.func29.symm.trans h); have e := okW_29; rwa [body_of hc] at e
    · obtain rfl := Option.some.inj (Tryw.func19.symm.trans h); have e := okWV_19; rwa [body_of hc] at e
theorem leW : KW.F.le KWV.F where
  f := fun f h => h
  v := fun f h => h
  c := fun c h => h
  r := fun f h => ⟨⟨h.1.1, rfl⟩, h.2⟩
  z := rfl
  m := Nat.le_refl _
  a := fun f n h => h
  d := fun h => h
theorem hzW : KWV.F KW.F.z ∧ KWV.F.v KW.F.z ∧ ∀ n, KWV.F.a KW.F.z n := ⟨by decide, by decide, fun n => rfl⟩
/-- the held function that nobody holds -/
theorem zw_dead {Kp : Frame → List Frame → World → Prop} (hKp : ∀ f ts v, Kp f ts v → ts = []) : ∀ (p : Array Value) (k : CallKind) (f1 : Frame) (ts1 : List Frame) (v : World), ¬ Ev Tryw.prog Kp (Frame.enter Tryw.prog 19 p k) (f1 :: ts1) v := by
  intro p k f1 ts1 v hev
  have e : ∃ T, Frame.enter Tryw.prog 19 p k = { fn := 19, tmps := T, todo := [.code (.refuse "")], defers := [], mode := .run, kind := k } := by
    unfold Frame.enter
    simp [Tryw.func19]
  obtain ⟨T, e⟩ := e
  rw [e] at hev
  exact ev_ended hKp hev (by rfl)

end Go.Proofs.Ytcdhmnefmbcmaaa
