/-
  The virtual program of layer 27: as the program, but Chunks holds its data by value, and Copy goes over them alone; which functions may be met; no condition.
  A round of the worker's own loop: the chunk is offered; no condition but what each law names.
-/
import Derived.Test.YtcdhmnefmbcmaaaJak
import Derived.Test.YtcdhmnefmbcmaaaJaq
namespace Go.Proofs.Ytcdhmnefmbcmaaa
open Go Go.Conc
/-- the operations around the call of Take -/
abbrev vopsT : Array Oper := #[{ dst := some 15, op := .call { callee := .invoke (.tmp 1) "Take", args := #[(.tmp 14)], argTypes := #[22] }, type := 36, pos := "", after := #[], guard := none }]
/-- .. and what comes behind -/
abbrev vaft : Code := (.seq (.region 4 #[{ dst := some 16, op := .binOp .mul 36 (.tmp 15) (.const (.int .i64 1)) 36, type := 36, pos := "", after := #[], guard := none }, { dst := some 5, op := .assign (.tmp 15), type := 36, pos := "", after := #[], guard := none }, { dst := some 17, op := .binOp .neq 36 (.tmp 15) (.const (.int .i64 0)) 36, type := 4, pos := "", after := #[], guard := none }] false) (.seq (.cond (.tmp 17) (.exit 0) .skip) (.region 5 #[{ dst := some 18, op := .binOp .add 3 (.tmp 4) (.const (.int .i64 1)) 3, type := 3, pos := "", after := #[], guard := none }, { dst := some 4, op := .assign (.tmp 18), type := 3, pos := "", after := #[], guard := none }, { dst := some 8, op := .assign (.tmp 12), type := 3, pos := "", after := #[], guard := none }] false)))
/-- what Copy does a round long -/
abbrev Tryv.loop : Code := (.seq (.region 1 #[{ dst := some 9, op := .binOp .lss 3 (.tmp 8) (.tmp 7) 3, type := 4, pos := "", after := #[], guard := none }] false) (.seq (.cond (.tmp 9) .skip (.exit 0)) (.seq (.region 2 #[{ dst := some 10, op := .binOp .sub 3 (.tmp 7) (.tmp 8) 3, type := 3, pos := "", after := #[], guard := none }, { dst := some 11, op := .call { callee := .builtin .min, args := #[(.tmp 6), (.tmp 10)], argTypes := #[3, 3] }, type := 3, pos := "", after := #[], guard := none }, { dst := some 12, op := .binOp .add 3 (.tmp 8) (.tmp 11) 3, type := 3, pos := "", after := #[], guard := none }, { dst := some 13, op := .slice 9 (.tmp 3) (some (.tmp 8)) (some (.tmp 12)) none, type := 9, pos := "", after := #[], guard := none }, { dst := some 14, op := .call { callee := .builtin .append, args := #[(.const (.slice none 0 0)), (.tmp 13)], argTypes := #[22, 9] }, type := 22, pos := "", after := #[], guard := none }] false) (.seq (.region 3 #[{ dst := some 15, op := .call { callee := .invoke (.tmp 1) "Take", args := #[(.tmp 14)], argTypes := #[22] }, type := 36, pos := "", after := #[], guard := none }] false) (.seq (.region 4 #[{ dst := some 16, op := .binOp .mul 36 (.tmp 15) (.const (.int .i64 1)) 36, type := 36, pos := "", after := #[], guard := none }, { dst := some 5, op := .assign (.tmp 15), type := 36, pos := "", after := #[], guard := none }, { dst := some 17, op := .binOp .neq 36 (.tmp 15) (.const (.int .i64 0)) 36, type := 4, pos := "", after := #[], guard := none }] false) (.seq (.cond (.tmp 17) (.exit 0) .skip) (.region 5 #[{ dst := some 18, op := .binOp .add 3 (.tmp 4) (.const (.int .i64 1)) 3, type := 3, pos := "", after := #[], guard := none }, { dst := some 4, op := .assign (.tmp 18), type := 3, pos := "", after := #[], guard := none }, { dst := some 8, op := .assign (.tmp 12), type := 3, pos := "", after := #[], guard := none }] false)))))))
/-- what Chunks asks of each byte -/
abbrev Tryv.loop9 : Code := (.seq (.region 6 #[{ dst := some 12, op := .binOp .lss 3 (.tmp 11) (.tmp 3) 3, type := 4, pos := "", after := #[], guard := none }] false) (.seq (.cond (.tmp 12) .skip (.exit 0)) (.seq (.region 7 #[{ dst := some 13, op := .indexAddr 22 (.tmp 0) (.tmp 11), type := 0, pos := "", after := #[], guard := none }, { dst := some 14, op := .load 5 (.tmp 13), type := 5, pos := "", after := #[], guard := none }, { dst := some 15, op := .binOp .leq 5 (.const (.int .u8 0)) (.tmp 14) 5, type := 4, pos := "", after := #[], guard := none }, { dst := some 16, op := .binOp .leq 5 (.tmp 14) (.const (.int .u8 255)) 5, type := 4, pos := "", after := #[], guard := none }, { dst := some 17, op := .binOp .add 3 (.tmp 11) (.const (.int .i64 1)) 3, type := 3, pos := "", after := #[], guard := none }, { dst := some 11, op := .assign (.tmp 17), type := 3, pos := "", after := #[], guard := none }] false) (.seq (.cond (.tmp 15) .skip (.refuse "")) (.cond (.tmp 16) .skip (.refuse ""))))))
/-- .. and what comes behind -/
abbrev Tryv.post9 : Code := (.seq (.region 1 #[{ dst := some 6, op := .binOp .lss 3 (.tmp 1) (.const (.int .i64 1)) 3, type := 4, pos := "", after := #[], guard := none }, { dst := some 7, op := .call { callee := .builtin .max, args := #[(.const (.int .i64 1)), (.tmp 3)], argTypes := #[3, 3] }, type := 3, pos := "", after := #[], guard := none }] false) (.seq (.cond (.tmp 6) (.region 2 #[{ dst := some 8, op := .move (.tmp 7), type := 3, pos := "", after := #[], guard := none }] false) (.region 3 #[{ dst := some 8, op := .move (.tmp 1), type := 3, pos := "", after := #[], guard := none }] false)) (.seq (.region 4 #[{ dst := some 9, op := .binOp .leq 3 (.tmp 8) (.const (.int .i64 9223372036854775807)) 3, type := 4, pos := "", after := #[], guard := none }] false) (.seq (.cond (.tmp 9) .skip (.refuse "")) (.seq (.region 5 #[{ dst := some 10, op := .makeFunc (.func 22) #[] #[(.tmp 2), (.tmp 8)], type := 25, pos := "", after := #[], guard := none }, { dst := some 4, op := .assign (.tmp 10), type := 25, pos := "", after := #[], guard := none }] false) .ret)))))
abbrev Tryv.f9 : Func := { name := "Chunks", origin := "", params := #[22, 3], resultTypes := #[25], nfree := 0, ntmps := 20, results := #[.tmp 4], body := some (.seq (.region 0 #[{ dst := some 3, op := .call { callee := .builtin .len, args := #[(.tmp 0)], argTypes := #[22] }, type := 3, pos := "", after := #[], guard := none }, { dst := some 2, op := .convert 22 9 (.tmp 0), type := 9, pos := "", after := #[], guard := none }, { dst := some 18, op := .call { callee := .builtin .len, args := #[(.tmp 2)], argTypes := #[9] }, type := 3, pos := "", after := #[], guard := none }, { dst := some 19, op := .binOp .eql 3 (.tmp 18) (.tmp 3) 3, type := 4, pos := "", after := #[], guard := none }, { dst := some 5, op := .binOp .leq 3 (.tmp 3) (.const (.int .i64 1073741824)) 3, type := 4, pos := "", after := #[], guard := none }, { dst := some 11, op := .move (.const (.int .i64 0)), type := 3, pos := "", after := #[], guard := none }] false) (.seq (.cond (.tmp 19) .skip (.refuse "")) (.seq (.cond (.tmp 5) .skip (.refuse "")) (.seq (.block 0 (.loop Tryv.loop9)) Tryv.post9)))), norace := false, tmpNames := #[] }
abbrev Tryv.f19 : Func := { name := "Copy", origin := "", params := #[25, 50], resultTypes := #[3, 36], nfree := 0, ntmps := 19, results := #[.tmp 4, .tmp 5], body := some (.seq (.region 0 #[{ dst := some 2, op := .call { callee := .value (.tmp 0), args := #[(.const (.int .i64 0)), (.const (.int .i64 0)), (.const (.int .i64 0)), (.const (.int .i64 0)), (.const (.int .i64 0))], argTypes := #[3, 3, 3, 3, 3] }, type := 0, pos := "", after := #[], guard := none }, { dst := some 3, op := .extract (.tmp 2) 0, type := 9, pos := "", after := #[], guard := none }, { dst := some 6, op := .extract (.tmp 2) 1, type := 3, pos := "", after := #[], guard := none }, { dst := some 7, op := .call { callee := .builtin .len, args := #[(.tmp 3)], argTypes := #[9] }, type := 3, pos := "", after := #[], guard := none }, { dst := some 8, op := .move (.const (.int .i64 0)), type := 3, pos := "", after := #[], guard := none }, { dst := some 4, op := .assign (.const (.int .i64 0)), type := 3, pos := "", after := #[], guard := none }, { dst := some 5, op := .assign (.const (.int .i64 0)), type := 36, pos := "", after := #[], guard := none }] false) (.seq (.block 0 (.loop Tryv.loop)) .ret)), norace := false, tmpNames := #[] }
abbrev Tryv.f22 : Func := { name := "Chunks$1", origin := "", params := #[3, 3, 3, 3, 3], resultTypes := #[9, 3], nfree := 2, ntmps := 8, results := #[.tmp 5, .tmp 6], body := some (.seq (.region 0 #[{ dst := some 7, op := .binOp .add 3 (.tmp 6) (.const (.int .i64 0)) 3, type := 3, pos := "", after := #[], guard := none }] false) .ret), norace := false, tmpNames := #[] }
noncomputable def Tryv.funcs : Array Func := ((Try.prog.funcs.setIfInBounds 9 Tryv.f9).setIfInBounds 19 Tryv.f19).setIfInBounds 22 Tryv.f22
noncomputable def Tryv.prog : Program := { Try.prog with funcs := Tryv.funcs }
theorem Tryv.func4 : Tryv.prog.funcs[(4 : Nat)]? = some Try.f4 := by kernel_rfl
theorem Tryv.func5 : Tryv.prog.funcs[(5 : Nat)]? = some Try.f5 := by kernel_rfl
theorem Tryv.func6 : Tryv.prog.funcs[(6 : Nat)]? = some Try.f6 := by kernel_rfl
theorem Tryv.func7 : Tryv.prog.funcs[(7 : Nat)]? = some Try.f7 := by kernel_rfl
theorem Tryv.func8 : Tryv.prog.funcs[(8 : Nat)]? = some Try.f8 := by kernel_rfl
theorem Tryv.func10 : Tryv.prog.funcs[(10 : Nat)]? = some Try.f10 := by kernel_rfl
theorem Tryv.func11 : Tryv.prog.funcs[(11 : Nat)]? = some Try.f11 := by kernel_rfl
theorem Tryv.func12 : Tryv.prog.funcs[(12 : Nat)]? = some Try.f12 := by kernel_rfl
theorem Tryv.func13 : Tryv.prog.funcs[(13 : Nat)]? = some Try.f13 := by kernel_rfl
theorem Tryv.func14 : Tryv.prog.funcs[(14 : Nat)]? = some Try.f14 := by kernel_rfl
theorem Tryv.func15 : Tryv.prog.funcs[(15 : Nat)]? = some Try.f15 := by kernel_rfl
theorem Tryv.func16 : Tryv.prog.funcs[(16 : Nat)]? = some Try.f16 := by kernel_rfl
theorem Tryv.func17 : Tryv.prog.funcs[(17 : Nat)]? = some Try.f17 := by kernel_rfl
theorem Tryv.func18 : Tryv.prog.funcs[(18 : Nat)]? = some Try.f18 := by kernel_rfl
theorem Tryv.func20 : Tryv.prog.funcs[(20 : Nat)]? = some Try.f20 := by kernel_rfl
theorem Tryv.func21 : Tryv.prog.funcs[(21 : Nat)]? = some Try.f21 := by kernel_rfl
theorem Tryv.func28 : Tryv.prog.funcs[(28 : Nat)]? = some Try.f28 := by kernel_rfl
theorem Tryv.func69 : Tryv.prog.funcs[(69 : Nat)]? = some Try.f69 := by kernel_rfl
theorem Tryv.func9 : Tryv.prog.funcs[(9 : Nat)]? = some Tryv.f9 := by kernel_rfl
theorem Tryv.func19 : Tryv.prog.funcs[(19 : Nat)]? = some Tryv.f19 := by kernel_rfl
theorem Tryv.func22 : Tryv.prog.funcs[(22 : Nat)]? = some Tryv.f22 := by kernel_rfl
@[simp] theorem Tryv.tab : Tryv.prog.toTables = Try.prog.toTables := rfl
@[simp] theorem Tryv.und (t : TypeId) : Tryv.prog.underlying t = Try.prog.underlying t := rfl
@[simp] theorem Tryv.info (t : TypeId) : Tryv.prog.info? t = Try.prog.info? t := rfl
theorem g_rInfo (P : Program) (F : Array Func) (t : TypeId) (w : World) : (typeInfo t).run { P with funcs := F } w = (typeInfo t).run P w := by
  have h : ∀ Q : Program, (typeInfo t).run Q w = (match Q.toTables.info? t with | some d => pure d | none => stuck "no such type" : Sem TypeInfo).run Q w := fun Q => rfl
  rw [h, h]
  have e : ({ P with funcs := F } : Program).toTables.info? t = P.toTables.info? t := rfl
  rw [e]
  cases P.toTables.info? t <;> simp [stuck]
@[simp] theorem Tryv.rInfo (t : TypeId) (w : World) : (typeInfo t).run Tryv.prog w = (typeInfo t).run Try.prog w := g_rInfo Try.prog Tryv.funcs t w
theorem g_rUnd (P : Program) (F : Array Func) (t : TypeId) (w : World) : (underlying t).run { P with funcs := F } w = (underlying t).run P w := by
  have h : ∀ Q : Program, (underlying t).run Q w = (match Q.underlying t with | some d => pure d | none => stuck "no such type" : Sem TypeDesc).run Q w := fun Q => rfl
  rw [h, h]
  have e : Program.underlying { P with funcs := F } t = P.underlying t := rfl
  rw [e]
  cases P.underlying t <;> simp [stuck]
@[simp] theorem Tryv.rUnd (t : TypeId) (w : World) : (underlying t).run Tryv.prog w = (underlying t).run Try.prog w := g_rUnd Try.prog Tryv.funcs t w
theorem g_rSize (P : Program) (F : Array Func) (t : TypeId) (w : World) : (sizeOf t).run { P with funcs := F } w = (sizeOf t).run P w := by
  unfold sizeOf
  simp only [Sem.run_bind, g_rInfo]
  have h : ∀ {α β : Type} (r : Result α) (f g : α → World → Result β), (∀ a v, f a v = g a v) → r.andThen f = r.andThen g := fun r f g e => by cases r with | ok a v => exact e a v | halt h v => rfl
  refine h _ _ _ fun a v => ?_
  first | rfl | (cases a <;> rfl) | (cases a.zero <;> simp [unsupported]) | simp
@[simp] theorem Tryv.rSize (t : TypeId) (w : World) : (sizeOf t).run Tryv.prog w = (sizeOf t).run Try.prog w := g_rSize Try.prog Tryv.funcs t w
theorem g_rAgg (P : Program) (F : Array Func) (t : TypeId) (w : World) : (isAgg t).run { P with funcs := F } w = (isAgg t).run P w := by
  unfold isAgg
  simp only [Sem.run_bind, g_rUnd]
  have h : ∀ {α β : Type} (r : Result α) (f g : α → World → Result β), (∀ a v, f a v = g a v) → r.andThen f = r.andThen g := fun r f g e => by cases r with | ok a v => exact e a v | halt h v => rfl
  refine h _ _ _ fun a v => ?_
  first | rfl | (cases a <;> rfl) | (cases a.zero <;> simp [unsupported]) | simp
@[simp] theorem Tryv.rAgg (t : TypeId) (w : World) : (isAgg t).run Tryv.prog w = (isAgg t).run Try.prog w := g_rAgg Try.prog Tryv.funcs t w
theorem g_rZero (P : Program) (F : Array Func) (t : TypeId) (w : World) : (zeroValue t).run { P with funcs := F } w = (zeroValue t).run P w := by
  unfold zeroValue
  simp only [Sem.run_bind, g_rInfo]
  have h : ∀ {α β : Type} (r : Result α) (f g : α → World → Result β), (∀ a v, f a v = g a v) → r.andThen f = r.andThen g := fun r f g e => by cases r with | ok a v => exact e a v | halt h v => rfl
  refine h _ _ _ fun a v => ?_
  first | rfl | (cases a <;> rfl) | (cases a.zero <;> simp [unsupported]) | simp
@[simp] theorem Tryv.rZero (t : TypeId) (w : World) : (zeroValue t).run Tryv.prog w = (zeroValue t).run Try.prog w := g_rZero Try.prog Tryv.funcs t w
/-- the functions that the laws reach -/
def S1 : List Nat := [4, 5, 6, 7, 8, 9, 10, 11, 12, 13, 14, 15, 16, 17, 18, 19, 20, 21, 28, 69]
noncomputable abbrev T1 : Twin := { P := Try.prog, F := Tryv.funcs }
noncomputable abbrev K1 : Kit := { P := Try.prog, fb := { c := fun f => S1.contains f, v := fun _ => false, l := false, d := false, m := 2, a := fun f => if f == 9 || f == 19 then some 2 else none }, G := 0, X := fun f => f == 9 || f == 19, z := 22 }
noncomputable abbrev TV : Twin := { P := Tryv.prog, F := Tryv.funcs }
noncomputable abbrev KV : Kit := { P := Tryv.prog, fb := { c := fun f => S1.contains f || f == 22, v := fun f => f == 22, l := false, d := false, m := 5, a := fun _ => none }, G := 0, X := fun _ => false, z := 22 }
theorem T1_v : T1.v = Tryv.prog := rfl
theorem TV_v : TV.v = Tryv.prog := rfl
theorem m0 : ∀ i, Try.prog.info? 0 = some i → i.methods.find? (·.name == "") = none := by
  intro i h
  have : (Try.prog.info? 0).map (fun i => (i.methods.find? (·.name == "")).isNone) = some true := by kernel_rfl
  rw [h] at this
  simpa using this
theorem mem_S1 {f : Nat} (h : S1.contains f = true) : f = 4 ∨ f = 5 ∨ f = 6 ∨ f = 7 ∨ f = 8 ∨ f = 9 ∨ f = 10 ∨ f = 11 ∨ f = 12 ∨ f = 13 ∨ f = 14 ∨ f = 15 ∨ f = 16 ∨ f = 17 ∨ f = 18 ∨ f = 19 ∨ f = 20 ∨ f = 21 ∨ f = 28 ∨ f = 69 := by
  have := List.contains_iff_mem.1 h
  simpa [S1] using this
theorem ok1_4 : cOk Try.prog K1.fb K1.G true (bodyOf Try.f4) = true := by kernel_rfl
theorem ok1_5 : cOk Try.prog K1.fb K1.G true (bodyOf Try.f5) = true := by kernel_rfl
theorem ok1_6 : cOk Try.prog K1.fb K1.G true (bodyOf Try.f6) = true := by kernel_rfl
theorem ok1_7 : cOk Try.prog K1.fb K1.G true (bodyOf Try.f7) = true := by kernel_rfl
theorem ok1_8 : cOk Try.prog K1.fb K1.G true (bodyOf Try.f8) = true := by kernel_rfl
theorem ok1_10 : cOk Try.prog K1.fb K1.G true (bodyOf Try.f10) = true := by kernel_rfl
theorem ok1_11 : cOk Try.prog K1.fb K1.G true (bodyOf Try.f11) = true := by kernel_rfl
theorem ok1_12 : cOk Try.prog K1.fb K1.G true (bodyOf Try.f12) = true := by kernel_rfl
theorem ok1_13 : cOk Try.prog K1.fb K1.G true (bodyOf Try.f13) = true := by kernel_rfl
theorem ok1_14 : cOk Try.prog K1.fb K1.G true (bodyOf Try.f14) = true := by kernel_rfl
theorem ok1_15 : cOk Try.prog K1.fb K1.G true (bodyOf Try.f15) = true := by kernel_rfl
theorem ok1_16 : cOk Try.prog K1.fb K1.G true (bodyOf Try.f16) = true := by kernel_rfl
theorem ok1_17 : cOk Try.prog K1.fb K1.G true (bodyOf Try.f17) = true := by kernel_rfl
theorem ok1_18 : cOk Try.prog K1.fb K1.G true (bodyOf Try.f18) = true := by kernel_rfl
theorem ok1_20 : cOk Try.prog K1.fb K1.G true (bodyOf Try.f20) = true := by kernel_rfl
theorem ok1_21 : cOk Try.prog K1.fb K1.G true (bodyOf Try.f21) = true := by kernel_rfl
theorem ok1_28 : cOk Try.prog K1.fb K1.G true (bodyOf Try.f28) = true := by kernel_rfl
theorem ok1_69 : cOk Try.prog K1.fb K1.G true (bodyOf Try.f69) = true := by kernel_rfl
theorem okV_4 : cOk Tryv.prog KV.fb KV.G true (bodyOf Try.f4) = true := by kernel_rfl
theorem okV_5 : cOk Tryv.prog KV.fb KV.G true (bodyOf Try.f5) = true := by kernel_rfl
theorem okV_6 : cOk Tryv.prog KV.fb KV.G true (bodyOf Try.f6) = true := by kernel_rfl
theorem okV_7 : cOk Tryv.prog KV.fb KV.G true (bodyOf Try.f7) = true := by kernel_rfl
theorem okV_8 : cOk Tryv.prog KV.fb KV.G true (bodyOf Try.f8) = true := by kernel_rfl
theorem okV_10 : cOk Tryv.prog KV.fb KV.G true (bodyOf Try.f10) = true := by kernel_rfl
theorem okV_11 : cOk Tryv.prog KV.fb KV.G true (bodyOf Try.f11) = true := by kernel_rfl
theorem okV_12 : cOk Tryv.prog KV.fb KV.G true (bodyOf Try.f12) = true := by kernel_rfl
theorem okV_13 : cOk Tryv.prog KV.fb KV.G true (bodyOf Try.f13) = true := by kernel_rfl
theorem okV_14 : cOk Tryv.prog KV.fb KV.G true (bodyOf Try.f14) = true := by kernel_rfl
theorem okV_15 : cOk Tryv.prog KV.fb KV.G true (bodyOf Try.f15) = true := by kernel_rfl
theorem okV_16 : cOk Tryv.prog KV.fb KV.G true (bodyOf Try.f16) = true := by kernel_rfl
theorem okV_17 : cOk Tryv.prog KV.fb KV.G true (bodyOf Try.f17) = true := by kernel_rfl
theorem okV_18 : cOk Tryv.prog KV.fb KV.G true (bodyOf Try.f18) = true := by kernel_rfl
theorem okV_20 : cOk Tryv.prog KV.fb KV.G true (bodyOf Try.f20) = true := by kernel_rfl
theorem okV_21 : cOk Tryv.prog KV.fb KV.G true (bodyOf Try.f21) = true := by kernel_rfl
theorem okV_28 : cOk Tryv.prog KV.fb KV.G true (bodyOf Try.f28) = true := by kernel_rfl
theorem okV_69 : cOk Tryv.prog KV.fb KV.G true (bodyOf Try.f69) = true := by kernel_rfl
theorem okV_9 : cOk Tryv.prog KV.fb KV.G true (bodyOf Tryv.f9) = true := by kernel_rfl
theorem okV_19 : cOk Tryv.prog KV.fb KV.G true (bodyOf Tryv.f19) = true := by kernel_rfl
theorem okV_22 : cOk Tryv.prog KV.fb KV.G true (bodyOf Tryv.f22) = true := by kernel_rfl
theorem body_of {f : Func} {c : Code} (h : f.body = some c) : bodyOf f = c := by unfold bodyOf; rw [h]; rfl
theorem fits1 : Fits K1 T1 0 where
  ops := fun _ => rfl
  same := fun f hf hx => by
    rcases mem_S1 hf with rfl | rfl | rfl | rfl | rfl | rfl | rfl | rfl | rfl | rfl | rfl | rfl | rfl | rfl | rfl | rfl | rfl | rfl | rfl | rfl
    · exact Tryv.func4.trans Try.func4.symm
    · exact Tryv.func5.trans Try.func5.symm
    · exact Tryv.func6.trans Try.func6.symm
    · exact Tryv.func7.trans Try.func7.symm
    · exact Tryv.func8.trans Try.func8.symm
    · exact absurd hx (by decide)
    · exact Tryv.func10.trans Try.func10.symm
    · exact Tryv.func11.trans Try.func11.symm
    · exact Tryv.func12.trans Try.func12.symm
    · exact Tryv.func13.trans Try.func13.symm
    · exact Tryv.func14.trans Try.func14.symm
    · exact Tryv.func15.trans Try.func15.symm
    · exact Tryv.func16.trans Try.func16.symm
    · exact Tryv.func17.trans Try.func17.symm
    · exact Tryv.func18.trans Try.func18.symm
    · exact absurd hx (by decide)
    · exact Tryv.func20.trans Try.func20.symm
    · exact Tryv.func21.trans Try.func21.symm
    · exact Tryv.func28.trans Try.func28.symm
    · exact Tryv.func69.trans Try.func69.symm
  N := Nat.le_refl _
  bodies := {
    z := ⟨⟨_, Tryv.func22, rfl, by decide⟩, ⟨_, Try.func22, rfl, by decide⟩⟩
    v := fun f hf => by
      rcases mem_S1 hf with rfl | rfl | rfl | rfl | rfl | rfl | rfl | rfl | rfl | rfl | rfl | rfl | rfl | rfl | rfl | rfl | rfl | rfl | rfl | rfl
      · exact ⟨_, Tryv.func4, rfl, by decide⟩
      · exact ⟨_, Tryv.func5, rfl, by decide⟩
      · exact ⟨_, Tryv.func6, rfl, by decide⟩
      · exact ⟨_, Tryv.func7, rfl, by decide⟩
      · exact ⟨_, Tryv.func8, rfl, by decide⟩
      · exact ⟨_, Tryv.func9, rfl, by decide⟩
      · exact ⟨_, Tryv.func10, rfl, by decide⟩
      · exact ⟨_, Tryv.func11, rfl, by decide⟩
      · exact ⟨_, Tryv.func12, rfl, by decide⟩
      · exact ⟨_, Tryv.func13, rfl, by decide⟩
      · exact ⟨_, Tryv.func14, rfl, by decide⟩
      · exact ⟨_, Tryv.func15, rfl, by decide⟩
      · exact ⟨_, Tryv.func16, rfl, by decide⟩
      · exact ⟨_, Tryv.func17, rfl, by decide⟩
      · exact ⟨_, Tryv.func18, rfl, by decide⟩
      · exact ⟨_, Tryv.func19, rfl, by decide⟩
      · exact ⟨_, Tryv.func20, rfl, by decide⟩
      · exact ⟨_, Tryv.func21, rfl, by decide⟩
      · exact ⟨_, Tryv.func28, rfl, by decide⟩
      · exact ⟨_, Tryv.func69, rfl, by decide⟩
    a := fun f hf => by
      rcases mem_S1 hf with rfl | rfl | rfl | rfl | rfl | rfl | rfl | rfl | rfl | rfl | rfl | rfl | rfl | rfl | rfl | rfl | rfl | rfl | rfl | rfl
      · exact ⟨_, Try.func4, rfl, by decide⟩
      · exact ⟨_, Try.func5, rfl, by decide⟩
      · exact ⟨_, Try.func6, rfl, by decide⟩
      · exact ⟨_, Try.func7, rfl, by decide⟩
      · exact ⟨_, Try.func8, rfl, by decide⟩
      · exact ⟨_, Try.func9, rfl, by decide⟩
      · exact ⟨_, Try.func10, rfl, by decide⟩
      · exact ⟨_, Try.func11, rfl, by decide⟩
      · exact ⟨_, Try.func12, rfl, by decide⟩
      · exact ⟨_, Try.func13, rfl, by decide⟩
      · exact ⟨_, Try.func14, rfl, by decide⟩
      · exact ⟨_, Try.func15, rfl, by decide⟩
      · exact ⟨_, Try.func16, rfl, by decide⟩
      · exact ⟨_, Try.func17, rfl, by decide⟩
      · exact ⟨_, Try.func18, rfl, by decide⟩
      · exact ⟨_, Try.func19, rfl, by decide⟩
      · exact ⟨_, Try.func20, rfl, by decide⟩
      · exact ⟨_, Try.func21, rfl, by decide⟩
      · exact ⟨_, Try.func28, rfl, by decide⟩
      · exact ⟨_, Try.func69, rfl, by decide⟩
    va := fun f h => by cases h
    m0 := m0 }
  body := fun f fn hf hx h c hc => by
    rcases mem_S1 hf with rfl | rfl | rfl | rfl | rfl | rfl | rfl | rfl | rfl | rfl | rfl | rfl | rfl | rfl | rfl | rfl | rfl | rfl | rfl | rfl
    · obtain rfl := Option.some.inj (Try.func4.symm.trans h); have e := ok1_4; rwa [body_of hc] at e
    · obtain rfl := Option.some.inj (Try.func5.symm.trans h); have e := ok1_5; rwa [body_of hc] at e
    · obtain rfl := Option.some.inj (Try.func6.symm.trans h); have e := ok1_6; rwa [body_of hc] at e
    · obtain rfl := Option.some.inj (Try.func7.symm.trans h); have e := ok1_7; rwa [body_of hc] at e
    · obtain rfl := Option.some.inj (Try.func8.symm.trans h); have e := ok1_8; rwa [body_of hc] at e
    · exact absurd hx (by decide)
    · obtain rfl := Option.some.inj (Try.func10.symm.trans h); have e := ok1_10; rwa [body_of hc] at e
    · obtain rfl := Option.some.inj (Try.func11.symm.trans h); have e := ok1_11; rwa [body_of hc] at e
    · obtain rfl := Option.some.inj (Try.func12.symm.trans h); have e := ok1_12; rwa [body_of hc] at e
    · obtain rfl := Option.some.inj (Try.func13.symm.trans h); have e := ok1_13; rwa [body_of hc] at e
    · obtain rfl := Option.some.inj (Try.func14.symm.trans h); have e := ok1_14; rwa [body_of hc] at e
    · obtain rfl := Option.some.inj (Try.func15.symm.trans h); have e := ok1_15; rwa [body_of hc] at e
    · obtain rfl := Option.some.inj (Try.func16.symm.trans h); have e := ok1_16; rwa [body_of hc] at e
    · obtain rfl := Option.some.inj (Try.func17.symm.trans h); have e := ok1_17; rwa [body_of hc] at e
    · obtain rfl := Option.some.inj (Try.func18.symm.trans h); have e := ok1_18; rwa [body_of hc] at e
    · exact absurd hx (by decide)
    · obtain rfl := Option.some.inj (Try.func20.symm.trans h); have e := ok1_20; rwa [body_of hc] at e
    · obtain rfl := Option.some.inj (Try.func21.symm.trans h); have e := ok1_21; rwa [body_of hc] at e
    · obtain rfl := Option.some.inj (Try.func28.symm.trans h); have e := ok1_28; rwa [body_of hc] at e
    · obtain rfl := Option.some.inj (Try.func69.symm.trans h); have e := ok1_69; rwa [body_of hc] at e
theorem mem_SV {f : Nat} (h : KV.fb f = true) : S1.contains f = true ∨ f = 22 := by
  have : (S1.contains f || f == 22) = true := h
  rw [Bool.or_eq_true] at this
  exact this.imp id (by simp)
theorem fitsV : Fits KV TV 0 where
  ops := fun _ => rfl
  same := fun f hf hx => rfl
  N := Nat.le_refl _
  bodies := by
    have h : ∀ f, KV.fb f = true → ∃ fn, Tryv.prog.funcs[f]? = some fn ∧ fn.body.isNone = false ∧ (fn.name == "runtime.NumGoroutine") = false := fun f hf => by
      rcases mem_SV hf with hf | rfl
      · rcases mem_S1 hf with rfl | rfl | rfl | rfl | rfl | rfl | rfl | rfl | rfl | rfl | rfl | rfl | rfl | rfl | rfl | rfl | rfl | rfl | rfl | rfl
        · exact ⟨_, Tryv.func4, rfl, by decide⟩
        · exact ⟨_, Tryv.func5, rfl, by decide⟩
        · exact ⟨_, Tryv.func6, rfl, by decide⟩
        · exact ⟨_, Tryv.func7, rfl, by decide⟩
        · exact ⟨_, Tryv.func8, rfl, by decide⟩
        · exact ⟨_, Tryv.func9, rfl, by decide⟩
        · exact ⟨_, Tryv.func10, rfl, by decide⟩
        · exact ⟨_, Tryv.func11, rfl, by decide⟩
        · exact ⟨_, Tryv.func12, rfl, by decide⟩
        · exact ⟨_, Tryv.func13, rfl, by decide⟩
        · exact ⟨_, Tryv.func14, rfl, by decide⟩
        · exact ⟨_, Tryv.func15, rfl, by decide⟩
        · exact ⟨_, Tryv.func16, rfl, by decide⟩
        · exact ⟨_, Tryv.func17, rfl, by decide⟩
        · exact ⟨_, Tryv.func18, rfl, by decide⟩
        · exact ⟨_, Tryv.func19, rfl, by decide⟩
        · exact ⟨_, Tryv.func20, rfl, by decide⟩
        · exact ⟨_, Tryv.func21, rfl, by decide⟩
        · exact ⟨_, Tryv.func28, rfl, by decide⟩
        · exact ⟨_, Tryv.func69, rfl, by decide⟩
      · exact ⟨_, Tryv.func22, rfl, by decide⟩
    exact { z := ⟨⟨_, Tryv.func22, rfl, by decide⟩, ⟨_, Tryv.func22, rfl, by decide⟩⟩, v := h, a := h, va := fun _ _ _ => rfl, m0 := m0 }
  body := fun f fn hf hx h c hc => by
    rcases mem_SV hf with hf | rfl
    · rcases mem_S1 hf with rfl | rfl | rfl | rfl | rfl | rfl | rfl | rfl | rfl | rfl | rfl | rfl | rfl | rfl | rfl | rfl | rfl | rfl | rfl | rfl
      · obtain rfl := Option.some.inj (Tryv.func4.symm.trans h); have e := okV_4; rwa [body_of hc] at e
      · obtain rfl := Option.some.inj (Tryv.func5.symm.trans h); have e := okV_5; rwa [body_of hc] at e
      · obtain rfl := Option.some.inj (Tryv.func6.symm.trans h); have e := okV_6; rwa [body_of hc] at e
      · obtain rfl := Option.some.inj (Tryv.func7.symm.trans h); have e := okV_7; rwa [body_of hc] at e
      · obtain rfl := Option.some.inj (Tryv.func8.symm.trans h); have e := okV_8; rwa [body_of hc] at e
      · obtain rfl := Option.some.inj (Tryv.func9.symm.trans h); have e := okV_9; rwa [body_of hc] at e
      · obtain rfl := Option.some.inj (Tryv.func10.symm.trans h); have e := okV_10; rwa [body_of hc] at e
      · obtain rfl := Option.some.inj (Tryv.func11.symm.trans h); have e := okV_11; rwa [body_of hc] at e
      · obtain rfl := Option.some.inj (Tryv.func12.symm.trans h); have e := okV_12; rwa [body_of hc] at e
      · obtain rfl := Option.some.inj (Tryv.func13.symm.trans h); have e := okV_13; rwa [body_of hc] at e
      · obtain rfl := Option.some.inj (Tryv.func14.symm.trans h); have e := okV_14; rwa [body_of hc] at e
      · obtain rfl := Option.some.inj (Tryv.func15.symm.trans h); have e := okV_15; rwa [body_of hc] at e
      · obtain rfl := Option.some.inj (Tryv.func16.symm.trans h); have e := okV_16; rwa [body_of hc] at e
      · obtain rfl := Option.some.inj (Tryv.func17.symm.trans h); have e := okV_17; rwa [body_of hc] at e
      · obtain rfl := Option.some.inj (Tryv.func18.symm.trans h); have e := okV_18; rwa [body_of hc] at e
      · obtain rfl := Option.some.inj (Tryv.func19.symm.trans h); have e := okV_19; rwa [body_of hc] at e
      · obtain rfl := Option.some.inj (Tryv.func20.symm.trans h); have e := okV_20; rwa [body_of hc] at e
      · obtain rfl := Option.some.inj (Tryv.func21.symm.trans h); have e := okV_21; rwa [body_of hc] at e
      · obtain rfl := Option.some.inj (Tryv.func28.symm.trans h); have e := okV_28; rwa [body_of hc] at e
      · obtain rfl := Option.some.inj (Tryv.func69.symm.trans h); have e := okV_69; rwa [body_of hc] at e
    · obtain rfl := Option.some.inj (Tryv.func22.symm.trans h); have e := okV_22; rwa [body_of hc] at e

end Go.Proofs.Ytcdhmnefmbcmaaa

namespace Go.Proofs.Ytcdhmnefmbcmaaa
open Go Go.Conc Go.RowKit

/-- the worker's temporaries at its loop -/
noncomputable def tm25 (wg cb xb sb bc : Nat) (src c : Value) : Array Value :=
  #[.pointer (some ⟨wg, 0, none⟩), .pointer (some ⟨cb, 0, none⟩), .pointer (some ⟨xb, 0, none⟩), .pointer (some ⟨sb, 0, none⟩), undef, .chan (some bc), src, c, undef, undef, undef, undef, undef, undef, undef]
/-- boxes that nobody writes while both go on -/
structure Seen27 (C : Cx) (R : RF C.SR) (cb sb : Nat) : Prop where
  cbS : C.SR cb
  sbS : C.SR sb
  cb : ∀ w, R.R w → w.cell? ⟨cb, 0, none⟩ = some (.chan (some C.bc))
  sb : ∀ w, R.R w → w.cell? ⟨sb, 0, none⟩ = some (.chan (some C.bs))

section
variable {C : Cx} (hP : C.P = Try.prog) {k : Nat} {R : RF C.SR} (hR : R.Ok) {Gb : Nat → Prop} {W : WB} (hW : W.Ok) {x : List (Nat × Obj)} (hx : ∀ p ∈ x, isCells p.2) {s2 : LS} {wg cb xb sb : Nat} (hS : Seen27 C R cb sb) {src : Value}
  (hT : W.T1 = tm25 wg cb xb sb C.bc src undef) {c22 : Frame} {cs : List Frame}
 include hP hR hW hx hS

set_option maxRecDepth 10000 in
theorem w25 {xv : Value} {bk : Nat} {ob : Obj} (hob : isCells ob) (hcs : C.Cs k xv bk ob) (hbk : bk ∉ (Lw W x LS.ready s2).map Prod.fst ∧ ¬ Gb bk)
    (hgo : PW C (.work false) (k + 1) (G (c22.finish (.bool true)) cs) (ow R Gb (Lw W x LS.ready s2)))
    (hstop : PW C (.work true) k (G (c22.finish (.bool false)) cs) (ow R Gb (Lw W ((bk, ob) :: x) LS.left s2))) :
    PW C (.work false) k (G (fr 25 (tm25 wg cb xb sb C.bc src xv) [.code (rA Try.f25), .beginRound, .code (rB Try.f25)] [] (some W.l1)) (c22 :: cs)) (ow R Gb (Lw W ((bk, ob) :: x) LS.ready s2)) := by
  have hx' : ∀ p ∈ (bk, ob) :: x, isCells p.2 := fun p hp => by rcases List.mem_cons.1 hp with rfl | hp <;> first | exact hob | exact hx p hp
  have fc : ∀ {s1 : LS} {y : List (Nat × Obj)} (w : World), (ow R Gb (Lw W y s1 s2)).I w → w.cell? ⟨cb, 0, none⟩ = some (.chan (some C.bc)) := fun w hw => hS.cb w hw.2
  have fs : ∀ {s1 : LS} {y : List (Nat × Obj)} (w : World), (ow R Gb (Lw W y s1 s2)).I w → w.cell? ⟨sb, 0, none⟩ = some (.chan (some C.bs)) := fun w hw => hS.sb w hw.2
  simp only [tm25]
  have ea : rA Try.f25 = rA Try.f25 := rfl
  conv at ea => lhs; simp only [rA, bodyOf, rangeOf, Try.f25, Option.getD_some, Option.or, Option.map_some]
  have eb : rB Try.f25 = rB Try.f25 := rfl
  conv at eb => lhs; simp only [rB, bodyOf, rangeOf, Try.f25, Option.getD_some, Option.or, Option.map_some]
  rw [← ea, ← eb]
  clear ea eb
  refine pw_q hP (fun w => s_region) rfl ?_
  simp only [List.size_toArray, List.length_cons, List.length_nil, Nat.zero_add, List.range, List.range.loop]
  refine pw_vl hP (v := ?_) rfl rfl (by first | exact .inl rfl | exact .inr (fun c h => by cases h)) (fun w hw => ?_) (fun w hw => ?_) ?_
  rotate_left
  · unfold ev; go_simp; try exact rfl
  · unfold ev; simp [go_sem]
  simp only [put]; walk_nrm
  refine pw_q hP (fun w => s_region_end) rfl ?_
  refine pw_l1 (fn := 25) (s1 := LS.ready) (s1' := LS.busy) hP hR hW hx' (fun w h => s_begin h rfl) rfl ?_
  refine pw_q hP (fun w => s_block) rfl ?_
  refine pw_q hP (fun w => s_seq) rfl ?_
  refine pw_q hP (fun w => s_seq) rfl ?_
  refine pw_q hP (fun w => s_seq) rfl ?_
  refine pw_q hP (fun w => s_region) rfl ?_
  simp only [List.size_toArray, List.length_cons, List.length_nil, Nat.zero_add, List.range, List.range.loop]
  refine pw_vl hP (v := ?_) rfl rfl (by first | exact .inl rfl | exact .inr (fun c h => by cases h)) (fun w hw => ?_) (fun w hw => ?_) ?_
  rotate_left
  · have f0 := fc w hw; have f1 := fs w hw; unfold ev; go_simp; exact rfl
  · have f0 := fc w hw; have f1 := fs w hw; unfold ev; simp [go_sem, f0]; exact ⟨.inr hS.cbS,rfl⟩
  simp only [put]; walk_nrm
  refine pw_q hP (fun w => s_region_end) rfl ?_
  refine pw_q hP (fun w => s_region) rfl ?_
  simp only [List.size_toArray, List.length_cons, List.length_nil, Nat.zero_add, List.range, List.range.loop]
  refine pw_vl hP (v := ?_) rfl rfl (by first | exact .inl rfl | exact .inr (fun c h => by cases h)) (fun w hw => ?_) (fun w hw => ?_) ?_
  rotate_left
  · unfold ev; go_simp; try exact rfl
  · unfold ev; simp [go_sem]
  simp only [put]; walk_nrm
  refine pw_q hP (fun w => s_region_end) rfl ?_
  refine pw_q hP (fun w => s_region) rfl ?_
  simp only [List.size_toArray, List.length_cons, List.length_nil, Nat.zero_add, List.range, List.range.loop]
  refine pw_vl hP (v := ?_) rfl rfl (by first | exact .inl rfl | exact .inr (fun c h => by cases h)) (fun w hw => ?_) (fun w hw => ?_) ?_
  rotate_left
  · have f0 := fc w hw; have f1 := fs w hw; unfold ev; go_simp; exact rfl
  · have f0 := fc w hw; have f1 := fs w hw; unfold ev; simp [go_sem, f1]; exact ⟨.inr hS.sbS,rfl⟩
  simp only [put]; walk_nrm
  refine pw_q hP (fun w => s_region_end) rfl ?_
  refine pw_q hP (fun w => s_seq) rfl ?_
  refine pw_q hP (fun w => s_region) rfl ?_
  simp only [List.size_toArray, List.length_cons, List.length_nil, Nat.reduceAdd, Nat.zero_add, List.range, List.range.loop]
  refine pw_sel hP (xv := xv) (z1 := .slice none 0 0) (z2 := .agg #[]) (bk := bk) (ob := ob) (o' := ow R Gb (Lw W x LS.busy s2)) rfl rfl (.inr (fun c h => by cases h)) (fun w hw => ?_) (fun w hw => ?_) hcs (.inr (List.mem_map_of_mem (Lw_x (p := (bk, ob)) (List.mem_cons_self ..)))) (fun w hw => hw.1 (bk, ob) (Lw_x (List.mem_cons_self ..))) (fun y hy => ?_) (fun w hw => ⟨fun p hp => hw.1 p ?_, hw.2⟩) ?_ ?_
  · unfold ev; simp [go_sem, execOp, sel2, scase, rcase]
  · unfold ev; simp [go_sem]
  · rcases hy with hy | hy
    · exact ⟨.inl hy, fun e => hbk.2 (e ▸ hy)⟩
    · refine ⟨.inr ?_, fun e => hbk.1 (by rw [← e]; exact hy)⟩
      simp only [Lw, List.map_cons, List.map_append, List.mem_cons, List.mem_append] at hy ⊢
      rcases hy with h | h | h | h | h | h <;> simp [h]
  · simp only [Lw, List.mem_cons, List.mem_append] at hp ⊢
    rcases hp with h | h | h | h | h | h <;> simp [h]
  · simp only [put]; walk_nrm
    refine pw_vl hP (v := ?_) rfl rfl (by first | exact .inl rfl | exact .inr (fun c h => by cases h)) (fun w hw => ?_) (fun w hw => ?_) ?_
    rotate_left
    · unfold ev; go_simp; try exact rfl
    · unfold ev; simp [go_sem]
    simp only [put]; walk_nrm
    refine pw_vl hP (v := ?_) rfl rfl (by first | exact .inl rfl | exact .inr (fun c h => by cases h)) (fun w hw => ?_) (fun w hw => ?_) ?_
    rotate_left
    · unfold ev; go_simp; try exact rfl
    · unfold ev; simp [go_sem]
    simp only [put]; walk_nrm
    refine pw_vl hP (v := ?_) rfl rfl (by first | exact .inl rfl | exact .inr (fun c h => by cases h)) (fun w hw => ?_) (fun w hw => ?_) ?_
    rotate_left
    · unfold ev; go_simp; try exact rfl
    · unfold ev; simp [go_sem]
    simp only [put]; walk_nrm
    refine pw_q hP (fun w => s_region_end) rfl ?_
    refine pw_q hP (fun w => s_block) rfl ?_
    refine pw_q hP (fun w => s_cond (b := true) rfl) rfl ?_
    simp only [if_true, Bool.false_eq_true, ↓reduceIte]
    refine pw_q hP (fun w => s_skip) rfl ?_
    refine pw_q hP (fun w => s_inBlock) rfl ?_
    refine pw_q hP (fun w => s_inBlock) rfl ?_
    exact pw_l1 (fn := 25) (s1 := LS.busy) (s1' := LS.ready) hP hR hW hx (fun w h => s_endR (.inl ⟨rfl, rfl⟩) h) rfl hgo
  · simp only [put]; walk_nrm
    refine pw_vl hP (v := ?_) rfl rfl (by first | exact .inl rfl | exact .inr (fun c h => by cases h)) (fun w hw => ?_) (fun w hw => ?_) ?_
    rotate_left
    · unfold ev; go_simp; try exact rfl
    · unfold ev; simp [go_sem]
    simp only [put]; walk_nrm
    refine pw_vl hP (v := ?_) rfl rfl (by first | exact .inl rfl | exact .inr (fun c h => by cases h)) (fun w hw => ?_) (fun w hw => ?_) ?_
    rotate_left
    · unfold ev; go_simp; try exact rfl
    · unfold ev; simp [go_sem]
    simp only [put]; walk_nrm
    refine pw_vl hP (v := ?_) rfl rfl (by first | exact .inl rfl | exact .inr (fun c h => by cases h)) (fun w hw => ?_) (fun w hw => ?_) ?_
    rotate_left
    · unfold ev; go_simp; try exact rfl
    · unfold ev; simp [go_sem]
    simp only [put]; walk_nrm
    refine pw_q hP (fun w => s_region_end) rfl ?_
    refine pw_q hP (fun w => s_block) rfl ?_
    refine pw_q hP (fun w => s_cond (b := false) rfl) rfl ?_
    simp only [if_false, Bool.false_eq_true, ↓reduceIte]
    refine pw_q hP (fun w => s_cond (b := true) rfl) rfl ?_
    simp only [if_true, if_false, ↓reduceIte]
    exact pw_l1 (fn := 25) (s1 := LS.busy) (s1' := LS.left) hP hR hW hx' (fun w h => s_endR (.inr ⟨_, rfl, rfl⟩) h) rfl hstop
end
end Go.Proofs.Ytcdhmnefmbcmaaa
