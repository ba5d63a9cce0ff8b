/-
  Goroutine 0's join: (*WaitGroup).Wait, in company; whoever calls it; no condition but what each law names.
  A goroutine that unwinds in a panic, of code that recovers nothing, comes to no return; no condition but what each law names.
  Steps of a goroutine at frames written out, rounds of a range over a function among them; no condition but what each law names.
-/
import Derived.Test.YtcdhmnefmbcmaaaJao
import Derived.Test.YtcdhmnefmbcmaaaJak
namespace Go.Proofs.Ytcdhmnefmbcmaaa
open Go Go.Conc Go.RowKit Go.Conc.Lib Go.ConcX Go.ConcX.Gen

theorem pm_goes {C : Cx} {Fin : Nat → Goroutine → Own C.SR → Prop} {P : Program} (hP : C.P = P) {s : MS} {k : Nat} {o : Own C.SR} (hs : s.free = true) :
    ∀ {n : Nat} {g : Goroutine} {w : World}, Live C w → Goes P true (RL C) DC0 (fun g _ => g.status = .running ∧ PM C Fin s k g o) n g w → g.status = .running ∧ PM C Fin s k g o := by
  intro n
  induction n with
  | zero => intro g w hl h; exact h w hl
  | succ n ih =>
    intro g w hl h
    rcases h with h | ⟨hr, h⟩
    · exact h w hl
    refine ⟨hr, ?_⟩
    have key : ∀ w₁ : World, ∃ g', Live C w₁ → g'.status = .running ∧ stepG P true g w₁ = .go g' w₁ #[] ∧ PM C Fin s k g' o := fun w₁ => by
      by_cases hl₁ : Live C w₁
      · have h1 := h w₁ hl₁
        cases hst : stepG P true g w₁ with
        | go g' w' es =>
          rw [hst, goes_go] at h1
          obtain ⟨⟨rfl, rfl⟩, h2⟩ := h1
          have := ih hl₁ h2
          exact ⟨g', fun _ => ⟨this.1, rfl, this.2⟩⟩
        | _ => rw [hst] at h1; exact h1.elim
      · exact ⟨g, fun x => absurd x hl₁⟩
    obtain ⟨nx, hnx⟩ := Classical.axiomOfChoice key
    exact .free nx (fun _ => #[]) hs hr (fun w hw => ⟨(hnx w hw).1, by rw [hP]; exact (hnx w hw).2.1, fun e he => by simp at he⟩) fun w hw => (hnx w hw).2.2

section
variable {C : Cx} {Fin : Nat → Goroutine → Own C.SR → Prop} {P : Program} (hP : C.P = P) {k n : Nat} {a a' a1 a2 : Goroutine} {o : Own C.SR}
 include hP
theorem pm_said {s : MS} (hs : s.free = true) (h1 : ∀ w, Live C w → stepG P true a w = .go a' w #[mkS (.write (smC C.wg))]) (hr : a.status = .running) (hr' : a'.status = .running) (h : PM C Fin s k a' o) : PM C Fin s k a o := by
  subst hP; exact .free (fun _ => a') (fun _ => #[mkS (.write (smC C.wg))]) hs hr (fun w hw => ⟨hr', h1 w hw, fun e he => by simpa using he⟩) fun _ _ => h
theorem pm_kd (h1 : ∀ w, Live C w → stepG P true a w = .go a' w #[mkS .disable]) (hr : a.status = .running) (hr' : a'.status = .running) (h : PM C Fin .ws1 k a' o) : PM C Fin .ws0 k a o := by subst hP; exact .kd hr hr' h1 h
theorem pm_w1 (h1 : ∀ w, WA C w KQ 0 → stepG P true a w = .go a1 w #[rdS C]) (h2 : ∀ w, WA C w 0 0 → stepG P true a w = .go a2 w #[rdS C]) (hr : a.status = .running) (hr1 : a1.status = .running) (hr2 : a2.status = .running) (p1 : PM C Fin .ws1 k a1 o) (p2 : PM C Fin .ws4 k a2 o) : PM C Fin .ws1 k a o := by subst hP; exact .w1 hr hr1 hr2 h1 p1 h2 p2
theorem pm_w2 (h1 : ∀ w, WA C w KQ 0 → stepG P true a w = .go a1 (w.setCell (stC C.wg) (.int .u64 (KQ + 1))) #[rdS C, wrS C]) (h2 : ∀ w, WA C w 0 0 → stepG P true a w = .go a2 w #[rdS C]) (hr : a.status = .running) (hr1 : a1.status = .running) (hr2 : a2.status = .running) (p1 : PM C Fin .ws2 k a1 o) (p2 : PM C Fin .ws4 k a2 o) : PM C Fin .ws1 k a o := by subst hP; exact .w2 hr hr1 hr2 h1 p1 h2 p2
theorem pm_w1z (h2 : ∀ w, WA C w 0 0 → stepG P true a w = .go a2 w #[rdS C]) (hr : a.status = .running) (hr2 : a2.status = .running) (p2 : PM C Fin .ws4 k a2 o) : PM C Fin .ws4 k a o := by subst hP; exact .w1z hr hr2 h2 p2
theorem pm_w3 (h0 : ∀ w st, WA C w st 0 → stepG P true a w = .go { a with status := .blocked } w #[]) (h1 : ∀ w, WA C w 0 1 → stepG P true a w = .go a' (w.setCell (smC C.wg) (.int .u32 0)) (semEvents (smC C.wg))) (hr : a.status = .running) (hr' : a'.status = .running) (ho : a.offers = none) (p : PM C Fin .ws3 k a' o) : PM C Fin .ws2 k a o := by subst hP; exact .w3 hr hr' ho h0 h1 p
theorem pm_w4 (h1 : ∀ w, WA C w 0 0 → stepG P true a w = .go a' w #[rdS C]) (hr : a.status = .running) (hr' : a'.status = .running) (p : PM C Fin .ws4 k a' o) : PM C Fin .ws3 k a o := by subst hP; exact .w4 hr hr' h1 p
theorem pm_ke (h1 : ∀ w, Live C w → stepG P true a w = .go a' w #[mkS .enable]) (hr : a.status = .running) (hr' : a'.status = .running) (p : PM C Fin .ws5 k a' o) : PM C Fin .ws4 k a o := by subst hP; exact .ke hr hr' h1 p
theorem pm_acq (h1 : ∀ w, Live C w → stepG P true a w = .go a' w #[mkS (.acquire (stC C.wg))]) (hr : a.status = .running) (hr' : a'.status = .running) (p : Fin k a' o) : PM C Fin .ws5 k a o := by subst hP; exact .acq hr hr' h1 p
end

theorem Live.cell1 {C : Cx} {w : World} (h : Live C w) : ∃ v, w.cell? ⟨C.wg, 1, none⟩ = some v := by
  obtain ⟨st, sm, h⟩ := h
  exact ⟨_, WgAt.cellSm (Wg := C.wg) (ty := C.ty) h⟩

/-- goroutine 0 leaves Wait: no memory is looked at -/
def Leaves0 (P : Program) (g g' : Goroutine) : Prop := ∃ n, ∀ w, Goes P true (fun _ _ => True) DC0 (fun x _ => x = g') n g w

set_option maxRecDepth 100000 in
set_option maxHeartbeats 8000000 in
theorem wait_join {P : Program} {L : WgLink} (H : WgLib P L) {C : Cx} {Fin : Nat → Goroutine → Own C.SR → Prop} (hP : C.P = P) {k : Nat} {o : Own C.SR} {w : World} (hK : Live C w)
    {b₀ : Frame} {a₀ : Act} {ops₀ : Array Oper} {i₀ : Nat} {rest₀ : List Nat} {k₀ : List Item} {cs : List Frame}
    (hfin : ∀ g, Leaves0 P g (G (b₀.at (a₀.put ((ops₀[i₀]?).bind (·.dst)) (.tuple #[])) (.inRegion ops₀ rest₀ :: k₀)) cs) → Fin k g o) :
    PM C Fin .ws0 k (G ((base L.wait).at ⟨#[.pointer (some ⟨C.wg, 0, none⟩)] ++ Array.replicate ((waitFn L).ntmps - 1) undef, []⟩ [.code (body_wait L)]) (b₀.at a₀ (.inRegion ops₀ (i₀ :: rest₀) :: k₀) :: cs)) o := by
  have hl0 := hK
  lib_facts
  simp only [body_wait, waitFn, Option.getD_some]
  walk_nrmf waitFn
  refine (pm_goes hP rfl (n := 150) hl0 ?_).2
  u_c stepG_seq rl_live hK
  u_cond true rl_live hK
  u_reg rl_live hK
  refine Goes.stop (fun _ _ => ⟨rfl, pm_kd hP (fun _ _ => stepG_mark0 .disable (by simp) rfl rfl (by k_ne) rfl H.f_disable (x_disable_n L) (x_disable_b L) (x_disable_x L) (x_disable_f L)) rfl rfl ?_⟩)
  walk_nrm
  refine (pm_goes hP rfl (n := 150) hl0 ?_).2
  replace hK := hl0
  u_c stepG_region_end rl_live hK
  u_c stepG_block rl_live hK
  u_c stepG_loop rl_live hK
  u_c stepG_block rl_live hK
  u_c stepG_seq rl_live hK
  u_reg rl_live hK
  u_op rl_live hK
  u_op rl_live hK
  u_op rl_live hK
  u_call H.f_uLoad (nm_uLoad L) uLoadFn rl_live hK
  u_c stepG_seq rl_live hK
  u_reg rl_live hK
  u_op rl_live hK
  u_c stepG_region_end rl_live hK
  u_c stepG_seq rl_live hK
  u_reg rl_live hK
  u_op rl_live hK
  u_op rl_live hK
  u_op rl_live hK
  refine Goes.stop (fun _ _ => ⟨rfl, pm_w1 hP (fun w hw => stepG_load_atomic (v := 4294967296) rfl rfl (by k_ne) rfl H.f_loadU64 (x_loadU64_n L) (x_loadU64_b L) (x_loadU64_x L) .u64 (x_loadU64_f L) rfl (WgAt.cellSt (ty := C.ty) hw)) (fun w hw => stepG_load_atomic (v := 0) rfl rfl (by k_ne) rfl H.f_loadU64 (x_loadU64_n L) (x_loadU64_b L) (x_loadU64_x L) .u64 (x_loadU64_f L) rfl (WgAt.cellSt (ty := C.ty) hw)) rfl rfl rfl ?_ ?_⟩)
  · -- it reads 2^32
    walk_nrm
    refine (pm_goes hP rfl (n := 150) hl0 ?_).2
    replace hK := hl0
    u_op rl_live hK
    u_c stepG_region_end rl_live hK
    u_c stepG_ret' rl_live hK
    u_leave1 H.f_uLoad rl_live hK
    u_op rl_live hK
    u_c stepG_region_end rl_live hK
    u_c stepG_seq rl_live hK
    u_reg rl_live hK
    u_op rl_live hK
    u_op rl_live hK
    u_op rl_live hK
    u_op rl_live hK
    u_c stepG_region_end rl_live hK
    u_c stepG_seq rl_live hK
    u_reg rl_live hK
    u_op rl_live hK
    u_op rl_live hK
    u_op rl_live hK
    u_op rl_live hK
    u_c stepG_region_end rl_live hK
    u_c stepG_seq rl_live hK
    u_c stepG_seq rl_live hK
    u_reg rl_live hK
    u_op rl_live hK
    u_op rl_live hK
    u_c stepG_region_end rl_live hK
    u_cond false rl_live hK
    u_c stepG_skip rl_live hK
    u_c stepG_seq rl_live hK
    u_reg rl_live hK
    u_op rl_live hK
    u_op rl_live hK
    u_op rl_live hK
    u_op rl_live hK
    u_op rl_live hK
    u_op rl_live hK
    u_call H.f_uCas (nm_uCas L) uCasFn rl_live hK
    u_c stepG_seq rl_live hK
    u_reg rl_live hK
    u_op rl_live hK
    u_c stepG_region_end rl_live hK
    u_c stepG_seq rl_live hK
    u_reg rl_live hK
    u_op rl_live hK
    u_op rl_live hK
    u_op rl_live hK
    u_op rl_live hK
    u_op rl_live hK
    refine Goes.stop (fun _ _ => ⟨rfl, pm_w2 hP (fun w hw => (stepG_cas_hit (v := 4294967296) (n := 4294967297) rfl rfl (by k_ne) rfl H.f_casU64 (x_casU64_n L) (x_casU64_b L) (x_casU64_x L) .u64 (x_casU64_f L) rfl rfl rfl (WgAt.cellSt (ty := C.ty) hw) (WgAt.thaw (ty := C.ty) hw 0)).trans (by rfl)) (fun w hw => stepG_cas_miss (v := 0) (old := 4294967296) (n := 4294967297) rfl rfl (by k_ne) rfl H.f_casU64 (x_casU64_n L) (x_casU64_b L) (x_casU64_x L) .u64 (x_casU64_f L) rfl rfl rfl (WgAt.cellSt (ty := C.ty) hw) (WgAt.thaw (ty := C.ty) hw 0) (by k_ne)) rfl rfl rfl ?_ ?_⟩)
    · -- it is registered
      walk_nrm
      refine (pm_goes hP rfl (n := 150) hl0 ?_).2
      replace hK := hl0
      u_op rl_live hK
      u_c stepG_region_end rl_live hK
      u_c stepG_ret' rl_live hK
      u_leave1 H.f_uCas rl_live hK
      u_c stepG_region_end rl_live hK
      u_cond true rl_live hK
      u_c stepG_seq rl_live hK
      u_c stepG_seq rl_live hK
      u_reg rl_live hK
      u_op rl_live hK
      u_op rl_live hK
      u_op rl_live hK
      u_op rl_live hK
      u_c stepG_region_end rl_live hK
      u_cond true rl_live hK
      u_reg rl_live hK
      u_op rl_live hK
      u_op rl_live hK
      u_op rl_live hK
      u_conv H.underlying_tPU32 H.room_tU32 hK.cell1.choose_spec rl_live hK
      refine Goes.stop (fun _ _ => ⟨rfl, pm_said hP rfl (fun _ _ => stepG_markAt .write (by simp) rfl rfl (by k_ne) rfl H.f_raceWrite (x_raceWrite_n L) (x_raceWrite_b L) (x_raceWrite_x L) (x_raceWrite_f L) (ad := ⟨_, 1, none⟩) (by simp [Act.eval] <;> rfl)) rfl rfl ?_⟩)
      walk_nrm
      refine (pm_goes hP rfl (n := 150) hl0 ?_).2
      replace hK := hl0
      u_c stepG_region_end rl_live hK
      u_c stepG_seq rl_live hK
      u_reg rl_live hK
      u_op rl_live hK
      u_c stepG_region_end rl_live hK
      u_c stepG_seq rl_live hK
      u_c stepG_seq rl_live hK
      u_reg rl_live hK
      u_op rl_live hK
      u_op rl_live hK
      u_op rl_live hK
      u_op rl_live hK
      u_skip rl_live hK
      u_op rl_live hK
      u_c stepG_region_end rl_live hK
      u_cond false rl_live hK
      u_c stepG_skip rl_live hK
      u_c stepG_seq rl_live hK
      u_reg rl_live hK
      u_op rl_live hK
      u_op rl_live hK
      u_op rl_live hK
      u_op rl_live hK
      refine Goes.stop (fun _ _ => ⟨rfl, pm_w3 hP (fun w st hw => stepG_semacquire_wait rfl rfl rfl H.f_semacquire (x_semacquire_n L) (x_semacquire_b L) (x_semacquire_x L) (x_semacquire_f L) (by simp [Act.eval, smA]) (WgAt.cellSm (ty := C.ty) hw)) (fun w hw => (stepG_semacquire (n := 1) rfl rfl (by k_ne) rfl H.f_semacquire (x_semacquire_n L) (x_semacquire_b L) (x_semacquire_x L) (x_semacquire_f L) (by simp [Act.eval, smA]) (WgAt.cellSm (ty := C.ty) hw) (by k_ne) (WgAt.thaw (ty := C.ty) hw 1)).trans (by rfl)) rfl rfl rfl ?_⟩)
      walk_nrm
      refine (pm_goes hP rfl (n := 150) hl0 ?_).2
      replace hK := hl0
      u_c stepG_region_end rl_live hK
      u_c stepG_seq rl_live hK
      u_reg rl_live hK
      u_op rl_live hK
      u_op rl_live hK
      u_op rl_live hK
      u_call H.f_uLoad (nm_uLoad L) uLoadFn rl_live hK
      u_c stepG_seq rl_live hK
      u_reg rl_live hK
      u_op rl_live hK
      u_c stepG_region_end rl_live hK
      u_c stepG_seq rl_live hK
      u_reg rl_live hK
      u_op rl_live hK
      u_op rl_live hK
      u_op rl_live hK
      refine Goes.stop (fun _ _ => ⟨rfl, pm_w4 hP (fun w hw => stepG_load_atomic (v := 0) rfl rfl (by k_ne) rfl H.f_loadU64 (x_loadU64_n L) (x_loadU64_b L) (x_loadU64_x L) .u64 (x_loadU64_f L) rfl (WgAt.cellSt (ty := C.ty) hw)) rfl rfl ?_⟩)
      walk_nrm
      refine (pm_goes hP rfl (n := 150) hl0 ?_).2
      replace hK := hl0
      u_op rl_live hK
      u_c stepG_region_end rl_live hK
      u_c stepG_ret' rl_live hK
      u_leave1 H.f_uLoad rl_live hK
      u_op rl_live hK
      u_op rl_live hK
      u_c stepG_region_end rl_live hK
      u_c stepG_seq rl_live hK
      u_cond true rl_live hK
      u_c stepG_seq rl_live hK
      u_reg rl_live hK
      refine Goes.stop (fun _ _ => ⟨rfl, pm_ke hP (fun _ _ => stepG_mark0 .enable (by simp) rfl rfl (by k_ne) rfl H.f_enable (x_enable_n L) (x_enable_b L) (x_enable_x L) (x_enable_f L)) rfl rfl ?_⟩)
      walk_nrm
      refine (pm_goes hP rfl (n := 150) hl0 ?_).2
      replace hK := hl0
      u_c stepG_region_end rl_live hK
      u_reg rl_live hK
      u_op rl_live hK
      u_conv H.underlying_tWgP H.room_tWg hK.cell.choose_spec rl_live hK
      refine Goes.stop (fun _ _ => ⟨rfl, pm_acq hP (fun _ _ => stepG_markAt .acquire (by simp) rfl rfl (by k_ne) rfl H.f_acquire (x_acquire_n L) (x_acquire_b L) (x_acquire_x L) (x_acquire_f L) (by simp [Act.eval, stC])) rfl rfl (hfin _ ⟨60, fun w => ?_⟩)⟩)
      walk_nrm
      have hT : True := trivial
      u_c stepG_region_end (fun _ _ => trivial) hT
      u_c stepG_seq (fun _ _ => trivial) hT
      u_c stepG_seq (fun _ _ => trivial) hT
      u_reg (fun _ _ => trivial) hT
      u_op (fun _ _ => trivial) hT
      u_c stepG_region_end (fun _ _ => trivial) hT
      u_cond false (fun _ _ => trivial) hT
      u_c stepG_skip (fun _ _ => trivial) hT
      u_c stepG_ret' (fun _ _ => trivial) hT
      u_leave0 H.f_wait (fun _ _ => trivial) hT
      exact Goes.stop fun _ _ => rfl
    · -- it misses: the counter is nought
      walk_nrm
      refine (pm_goes hP rfl (n := 150) hl0 ?_).2
      replace hK := hl0
      u_op rl_live hK
      u_c stepG_region_end rl_live hK
      u_c stepG_ret' rl_live hK
      u_leave1 H.f_uCas rl_live hK
      u_c stepG_region_end rl_live hK
      u_cond false rl_live hK
      u_c stepG_skip rl_live hK
      u_c stepG_inBlock rl_live hK
      u_c stepG_inLoop rl_live hK
      u_c stepG_block rl_live hK
      u_c stepG_seq rl_live hK
      u_reg rl_live hK
      u_op rl_live hK
      u_op rl_live hK
      u_op rl_live hK
      u_call H.f_uLoad (nm_uLoad L) uLoadFn rl_live hK
      u_c stepG_seq rl_live hK
      u_reg rl_live hK
      u_op rl_live hK
      u_c stepG_region_end rl_live hK
      u_c stepG_seq rl_live hK
      u_reg rl_live hK
      u_op rl_live hK
      u_op rl_live hK
      u_op rl_live hK
      refine Goes.stop (fun _ _ => ⟨rfl, pm_w1z hP (fun w hw => stepG_load_atomic (v := 0) rfl rfl (by k_ne) rfl H.f_loadU64 (x_loadU64_n L) (x_loadU64_b L) (x_loadU64_x L) .u64 (x_loadU64_f L) rfl (WgAt.cellSt (ty := C.ty) hw)) rfl rfl ?_⟩)
      walk_nrm
      refine (pm_goes hP rfl (n := 150) hl0 ?_).2
      replace hK := hl0
      u_op rl_live hK
      u_c stepG_region_end rl_live hK
      u_c stepG_ret' rl_live hK
      u_leave1 H.f_uLoad rl_live hK
      u_op rl_live hK
      u_c stepG_region_end rl_live hK
      u_c stepG_seq rl_live hK
      u_reg rl_live hK
      u_op rl_live hK
      u_op rl_live hK
      u_op rl_live hK
      u_op rl_live hK
      u_c stepG_region_end rl_live hK
      u_c stepG_seq rl_live hK
      u_reg rl_live hK
      u_op rl_live hK
      u_op rl_live hK
      u_op rl_live hK
      u_op rl_live hK
      u_c stepG_region_end rl_live hK
      u_c stepG_seq rl_live hK
      u_c stepG_seq rl_live hK
      u_reg rl_live hK
      u_op rl_live hK
      u_op rl_live hK
      u_c stepG_region_end rl_live hK
      u_cond true rl_live hK
      u_c stepG_seq rl_live hK
      u_cond true rl_live hK
      u_c stepG_seq rl_live hK
      u_reg rl_live hK
      refine Goes.stop (fun _ _ => ⟨rfl, pm_ke hP (fun _ _ => stepG_mark0 .enable (by simp) rfl rfl (by k_ne) rfl H.f_enable (x_enable_n L) (x_enable_b L) (x_enable_x L) (x_enable_f L)) rfl rfl ?_⟩)
      walk_nrm
      refine (pm_goes hP rfl (n := 150) hl0 ?_).2
      replace hK := hl0
      u_c stepG_region_end rl_live hK
      u_reg rl_live hK
      u_op rl_live hK
      u_conv H.underlying_tWgP H.room_tWg hK.cell.choose_spec rl_live hK
      refine Goes.stop (fun _ _ => ⟨rfl, pm_acq hP (fun _ _ => stepG_markAt .acquire (by simp) rfl rfl (by k_ne) rfl H.f_acquire (x_acquire_n L) (x_acquire_b L) (x_acquire_x L) (x_acquire_f L) (by simp [Act.eval, stC])) rfl rfl (hfin _ ⟨60, fun w => ?_⟩)⟩)
      walk_nrm
      have hT : True := trivial
      u_c stepG_region_end (fun _ _ => trivial) hT
      u_c stepG_seq (fun _ _ => trivial) hT
      u_c stepG_seq (fun _ _ => trivial) hT
      u_reg (fun _ _ => trivial) hT
      u_op (fun _ _ => trivial) hT
      u_op (fun _ _ => trivial) hT
      u_op (fun _ _ => trivial) hT
      u_op (fun _ _ => trivial) hT
      u_op (fun _ _ => trivial) hT
      u_op (fun _ _ => trivial) hT
      u_op (fun _ _ => trivial) hT
      u_op (fun _ _ => trivial) hT
      u_skip (fun _ _ => trivial) hT
      u_skip (fun _ _ => trivial) hT
      u_op (fun _ _ => trivial) hT
      u_c stepG_region_end (fun _ _ => trivial) hT
      u_cond false (fun _ _ => trivial) hT
      u_c stepG_skip (fun _ _ => trivial) hT
      u_c stepG_ret' (fun _ _ => trivial) hT
      u_leave0 H.f_wait (fun _ _ => trivial) hT
      exact Goes.stop fun _ _ => rfl
  · -- it reads 0
    walk_nrm
    refine (pm_goes hP rfl (n := 150) hl0 ?_).2
    replace hK := hl0
    u_op rl_live hK
    u_c stepG_region_end rl_live hK
    u_c stepG_ret' rl_live hK
    u_leave1 H.f_uLoad rl_live hK
    u_op rl_live hK
    u_c stepG_region_end rl_live hK
    u_c stepG_seq rl_live hK
    u_reg rl_live hK
    u_op rl_live hK
    u_op rl_live hK
    u_op rl_live hK
    u_op rl_live hK
    u_c stepG_region_end rl_live hK
    u_c stepG_seq rl_live hK
    u_reg rl_live hK
    u_op rl_live hK
    u_op rl_live hK
    u_op rl_live hK
    u_op rl_live hK
    u_c stepG_region_end rl_live hK
    u_c stepG_seq rl_live hK
    u_c stepG_seq rl_live hK
    u_reg rl_live hK
    u_op rl_live hK
    u_op rl_live hK
    u_c stepG_region_end rl_live hK
    u_cond true rl_live hK
    u_c stepG_seq rl_live hK
    u_cond true rl_live hK
    u_c stepG_seq rl_live hK
    u_reg rl_live hK
    refine Goes.stop (fun _ _ => ⟨rfl, pm_ke hP (fun _ _ => stepG_mark0 .enable (by simp) rfl rfl (by k_ne) rfl H.f_enable (x_enable_n L) (x_enable_b L) (x_enable_x L) (x_enable_f L)) rfl rfl ?_⟩)
    walk_nrm
    refine (pm_goes hP rfl (n := 150) hl0 ?_).2
    replace hK := hl0
    u_c stepG_region_end rl_live hK
    u_reg rl_live hK
    u_op rl_live hK
    u_conv H.underlying_tWgP H.room_tWg hK.cell.choose_spec rl_live hK
    refine Goes.stop (fun _ _ => ⟨rfl, pm_acq hP (fun _ _ => stepG_markAt .acquire (by simp) rfl rfl (by k_ne) rfl H.f_acquire (x_acquire_n L) (x_acquire_b L) (x_acquire_x L) (x_acquire_f L) (by simp [Act.eval, stC])) rfl rfl (hfin _ ⟨60, fun w => ?_⟩)⟩)
    walk_nrm
    have hT : True := trivial
    u_c stepG_region_end (fun _ _ => trivial) hT
    u_c stepG_seq (fun _ _ => trivial) hT
    u_c stepG_seq (fun _ _ => trivial) hT
    u_reg (fun _ _ => trivial) hT
    u_op (fun _ _ => trivial) hT
    u_op (fun _ _ => trivial) hT
    u_op (fun _ _ => trivial) hT
    u_op (fun _ _ => trivial) hT
    u_op (fun _ _ => trivial) hT
    u_op (fun _ _ => trivial) hT
    u_op (fun _ _ => trivial) hT
    u_op (fun _ _ => trivial) hT
    u_skip (fun _ _ => trivial) hT
    u_skip (fun _ _ => trivial) hT
    u_op (fun _ _ => trivial) hT
    u_c stepG_region_end (fun _ _ => trivial) hT
    u_cond false (fun _ _ => trivial) hT
    u_c stepG_skip (fun _ _ => trivial) hT
    u_c stepG_ret' (fun _ _ => trivial) hT
    u_leave0 H.f_wait (fun _ _ => trivial) hT
    exact Goes.stop fun _ _ => rfl

end Go.Proofs.Ytcdhmnefmbcmaaa

namespace Go.Proofs.Ytcdhmnefmbcmaaa
open Go Go.Conc

/-- some frame of the stack panics -/
def Pan (l : List Frame) : Prop := ∃ S x D, l = S ++ x :: D ∧ ∃ ch, x.mode = .panicking ch ∧ Unrec ch

theorem Pan.head {f : Frame} {ts : List Frame} {ch : List PanicEntry} (h : f.mode = .panicking ch) (hu : Unrec ch) : Pan (f :: ts) := ⟨[], f, ts, rfl, ch, h, hu⟩
theorem Pan.under {f : Frame} {ts : List Frame} (h : Pan ts) : Pan (f :: ts) := by
  obtain ⟨S, x, D, e, hx⟩ := h
  exact ⟨f :: S, x, D, by rw [e]; rfl, hx⟩

section
variable {K : Kit} {T : Twin} {N : Nat} {ρ : Rn} {v : World}

theorem RelFr.unrec {f f' : Frame} (h : RelFr K T ρ f f') {ch : List PanicEntry} (e : f.mode = .panicking ch) : Unrec ch := by
  have hm := h.mode
  rw [e] at hm
  generalize f'.mode = m at hm
  cases hm with
  | panicking hc => exact unrec_of hc

theorem raise_pan' {f f' : Frame} (h : RelFr K T ρ f f') {ch : List PanicEntry} (hu : Unrec ch) : ∃ c, (f.raise ch).mode = .panicking c ∧ Unrec c := by
  cases e : f.mode with
  | panicking c => exact raise_pan f e (h.unrec e) hu
  | run => exact ⟨ch, by unfold Frame.raise; rw [e], hu⟩
  | returning => exact ⟨ch, by unfold Frame.raise; rw [e], hu⟩

theorem if_go {c : Prop} [Decidable c] {A B R : GStep} (h : (if c then A else B) = R) (hA : A ≠ R) : B = R := by
  by_cases hc : c
  · rw [if_pos hc] at h; exact absurd h hA
  · rwa [if_neg hc] at h
theorem deferred_pan (hK : Fits K T N) (hW : RelW K.F N ρ v v) {f : Frame} {ch : List PanicEntry} (hm : f.mode = .panicking ch) (hu : Unrec ch) {cs : List Frame} {d : Deferred} (hd : RelD K.F ρ d d) {g1 : Goroutine} {v1 : World} {es : Array Event}
    (h : callDeferred T.v f cs none d v = .go g1 v1 es) : Pan (g1.frame :: g1.callers) := by
  have hs := rel_invokeFn (N := N) hK.bodies hd
  have hc := hs.sort hW
  unfold callDeferred at h
  have h := if_go h (by intro x; cases x)
  rw [Sem.runT_eq] at h
  generalize (invoke d.target d.args).events T.v v #[] = eu at h
  generalize (invoke d.target d.args).run T.v v = r at hc h
  cases r with
  | ok n v' =>
    obtain ⟨ρ', b, hq⟩ := hc
    cases hq with
    | value _ => cases h; exact .head hm hu
    | skip => cases h; exact .head hm hu
    | enter _ _ => cases h; exact .under (.head hm hu)
    | round _ _ _ _ _ => cases h; exact .under (.head hm hu)
    | defer _ => cases h; exact .head hm hu
    | seq _ _ => cases h; exact .under (.head hm hu)
  | halt x v' =>
    cases x with
    | panic x =>
      cases h
      obtain ⟨c, h1, h2⟩ := raise_pan f (ch' := [{ v := x, recovered := false }]) hm hu (by intro e he; simp at he; subst he; rfl)
      exact .head h1 h2
    | unsupported u => cases u <;> first | exact hc.elim | cases h
    | _ => first | exact hc.elim | cases h

theorem all2_append {α β : Type} {R : α → β → Prop} : ∀ {a : List α} {b : List α} {l : List β}, All2 R (a ++ b) l → ∃ a' b', l = a' ++ b' ∧ All2 R a a' ∧ All2 R b b' := by
  intro a
  induction a with
  | nil => intro b l h; exact ⟨[], l, rfl, .nil, h⟩
  | cons x a ih =>
    intro b l h
    cases h with
    | cons h1 h2 =>
      obtain ⟨a', b', e, h3, h4⟩ := ih h2
      exact ⟨_ :: a', b', by rw [e]; rfl, .cons h1 h3, h4⟩
theorem All2.len {α β : Type} {R : α → β → Prop} {a : List α} {b : List β} (h : All2 R a b) : a.length = b.length := by
  induction h with
  | nil => rfl
  | cons _ _ ih => simp [ih]

/-- the next state of a panicking stack panics -/
theorem pan_step (hK : Fits K T N) (hV : T.v = T.P) (hX : ∀ f, K.X f = false) {f f1 : Frame} {ts ts1 : List Frame} {v1 : World} {e : Array Event} (hw : Well K T N f ts v) (hp : Pan (f :: ts))
    (hst : stepG T.P true (G f (ts ++ [door T.P])) v = .go (G f1 (ts1 ++ [door T.P])) v1 e) : Pan (f1 :: ts1) := by
  obtain ⟨ρ, hi, hf, hts, hW, hG⟩ := hw
  obtain ⟨S, x, D, he, ch, hx, hu⟩ := hp
  cases S with
  | cons f0 S0 =>
    simp only [List.cons_append, List.cons.injEq] at he
    obtain ⟨rfl, rfl⟩ := he
    obtain ⟨S0', D', e1, h1, h2⟩ := all2_append hts
    obtain ⟨rfl, rfl⟩ := List.append_inj e1 h1.len
    have h0 := sim_step (mn := true) (dr := x) (ds := D ++ [door T.P]) (cs' := []) hK hW hG hf h1 (fun _ _ _ _ i _ q => rfl)
    have e2 : S0 ++ (x :: (D ++ [door T.P])) = S0 ++ x :: D ++ [door T.P] := by simp
    rw [hV, e2, hst] at h0
    rcases h0 with ⟨f1', ts1', _, _, ρ1, w1, es', q1, _⟩ | ⟨X, p, p', k, g1, g2, f1', ts1', ρ1, w1, es', _, hX', _⟩ | ⟨c, q1, q2, _⟩ | ⟨p, k, _, _, ⟨_, _, _, _, hq⟩, _⟩
    · simp only [G, Goroutine.mk.injEq] at q1
      obtain ⟨r1, r2, _⟩ := q1
      have e3 : ts1' ++ (x :: (D ++ [door T.P])) = ts1' ++ x :: D ++ [door T.P] := by simp
      rw [e3] at r2
      have r2 := List.append_cancel_right r2
      subst r1 r2
      exact .under ⟨ts1', x, D, rfl, ch, hx, hu⟩
    · have hX' := hX'.1; rw [hX] at hX'; cases hX'
    · simp only [G, Goroutine.mk.injEq] at q1
      obtain ⟨r1, r2, _⟩ := q1
      subst r1
      obtain ⟨c', h3, h4⟩ := q2.pan ch hx hu
      exact .head h3 h4
    · exact absurd hq (hi.q _ _ _ _)
  | nil =>
    simp only [List.nil_append, List.cons.injEq] at he
    obtain ⟨rfl, rfl⟩ := he
    have hfn := hf.known hK
    obtain ⟨fn, hfn, hfv⟩ := hfn
    have h0 : stepG T.P true (G f (ts ++ [door T.P])) v = unwind T.P true f (ts ++ [door T.P]) none v := by
      unfold stepG G
      simp only [hx]
    rw [h0] at hst
    unfold unwind at hst
    cases ed : f.defers with
    | nil =>
      simp only [ed, hx, catches_no hfn, Bool.false_eq_true, if_false] at hst
      cases hts with
      | nil =>
        simp only [List.nil_append] at hst
        simp only [GStep.go.injEq, G, Goroutine.mk.injEq] at hst
        have := hst.1.2.1
        simp at this
      | @cons t t' ts ts' ht hts =>
        simp only [List.cons_append] at hst
        simp only [GStep.go.injEq, G, Goroutine.mk.injEq] at hst
        obtain ⟨⟨r1, r2, _⟩, _⟩ := hst
        subst r1
        obtain ⟨c, h1, h2⟩ := raise_pan' ht hu
        exact .head h1 h2
    | cons d dl =>
      have hds := hf.defers
      rw [ed] at hds
      have hd : RelD K.F ρ d d := by cases hds with | cons h1 h2 => exact h1
      obtain ⟨t, az⟩ := d
      by_cases hcol : ∃ b, t = .collected b
      · obtain ⟨b, rfl⟩ := hcol
        simp only [ed] at hst
        generalize (Instr.takeDeferred b).runT T.P v #[] = r at hst
        obtain ⟨r, eu⟩ := r
        cases r with
        | ok calls w =>
          simp only [GStep.after, GStep.go.injEq, G, Goroutine.mk.injEq] at hst
          obtain ⟨⟨r1, r2, _⟩, _⟩ := hst
          subst r1
          exact .head (f := { f with defers := calls ++ dl }) hx hu
        | halt _ _ => simp only [GStep.after] at hst; cases hst
      · have key : ∀ g1 v1 es, callDeferred T.P { f with defers := dl } (ts ++ [door T.P]) none ⟨t, az⟩ v = .go g1 v1 es → Pan (g1.frame :: g1.callers) := fun g1 v1 es h =>
          deferred_pan hK hW (f := { f with defers := dl }) hx hu hd (by rw [hV]; exact h)
        have hst' : callDeferred T.P { f with defers := dl } (ts ++ [door T.P]) none ⟨t, az⟩ v = .go (G f1 (ts1 ++ [door T.P])) v1 e := by
          cases t with
          | collected b => exact absurd ⟨_, rfl⟩ hcol
          | _ => simp only [ed] at hst; exact hst
        obtain ⟨S, y, D, e3, c, h3, h4⟩ := key _ _ _ hst'
        simp only [G] at e3
        -- the door does not panic
        rcases List.eq_nil_or_concat D with rfl | ⟨D0, z, rfl⟩
        · exfalso
          have e4 : f1 :: (ts1 ++ [door T.P]) = (f1 :: ts1) ++ [door T.P] := rfl
          rw [e4] at e3
          have e5 := List.append_inj_right' e3 rfl
          simp only [List.cons.injEq, and_true] at e5
          rw [← e5] at h3
          cases h3
        · have e4 : f1 :: (ts1 ++ [door T.P]) = (f1 :: ts1) ++ [door T.P] := rfl
          rw [e4] at e3
          have e6 : S ++ y :: (D0.concat z) = (S ++ y :: D0) ++ [z] := by simp
          rw [e6] at e3
          have e5 := List.append_inj_left' e3 rfl
          exact ⟨S, y, D0, e5, c, h3, h4⟩

/-- NO GAME IS WON THAT PANICS. -/
theorem panic_dead (hK : Fits K T N) (hV : T.v = T.P) (hX : ∀ f, K.X f = false) {Kp : Frame → List Frame → World → Prop} (hKp : ∀ f ts v, Kp f ts v → ts = [] ∧ f.mode = .returning) {f : Frame} {ts : List Frame}
    (h : Ev T.P Kp f ts v) : Well K T N f ts v → Pan (f :: ts) → False := by
  induction h with
  | @stop f ts v hk =>
    intro _ hp
    obtain ⟨rfl, hm⟩ := hKp _ _ _ hk
    obtain ⟨S, x, D, e, c, hx, _⟩ := hp
    cases S with
    | nil => simp only [List.nil_append, List.cons.injEq] at e; rw [e.1, hx] at hm; cases hm
    | cons s S => simp at e
  | @step f ts v F S W h1 h2 ih =>
    intro hw hp
    obtain ⟨es, hs⟩ := h1 v.tape (fun _ _ => rfl)
    have hvt : v.taped v.tape = v := rfl
    rcases step_taped hK hV hX hw v.tape with ⟨o, u, e, q1⟩ | ⟨c, v1, e, q1, q2⟩ | ⟨f1, ts1, v1, e, q1, hw1, _⟩
    · rw [hs] at q1; cases q1
    · rw [hs] at q1
      simp only [GStep.go.injEq, G, Goroutine.mk.injEq] at q1
      have := q1.1.2.1
      simp at this
    · rw [hs] at q1
      simp only [GStep.go.injEq, G, Goroutine.mk.injEq] at q1
      obtain ⟨⟨r1, r2, _⟩, r3, _⟩ := q1
      have r2 := List.append_cancel_right r2
      rw [hvt] at hs
      refine ih v.tape (fun _ _ => rfl) (by rw [r1, r2, r3]; exact hw1) ?_
      exact pan_step hK hV hX hw hp hs
end

end Go.Proofs.Ytcdhmnefmbcmaaa

namespace Go.Proofs.Ytcdhmnefmbcmaaa
open Go Go.Conc

/-- a frame that runs -/
def fr (fn : FuncId) (T : Array Value) (k : List Item) (D : List Deferred) (ro : Option Nat) (kd : Bool := false) : Frame := { fn, tmps := T, todo := k, defers := D, mode := .run, kind := bif kd then .deferred else .normal, roundOf := ro }
/-- what an operand is there -/
def ev (T : Array Value) : Operand → Value := Act.eval ⟨T, []⟩
def put (T : Array Value) (d : Option Tmp) (v : Value) : Array Value := match d with | some d => T.setIfInBounds d v | none => T

section
variable {P : Program} {mn : Bool} {fn : FuncId} {T : Array Value} {k : List Item} {D : List Deferred} {ro : Option Nat} {cs : List Frame} {w w' : World} {kd : Bool}

theorem fr_eval (x : Operand) : (fr fn T k D ro kd).eval x = ev T x := by cases x <;> rfl
theorem fr_eval' : (fr fn T k D ro kd).eval = ev T := funext fr_eval

theorem s_seq {x y : Code} : stepG P mn (G (fr fn T (.code (.seq x y) :: k) D ro kd) cs) w = .go (G (fr fn T (.code x :: .code y :: k) D ro kd) cs) w := rfl
theorem s_skip : stepG P mn (G (fr fn T (.code .skip :: k) D ro kd) cs) w = .go (G (fr fn T k D ro kd) cs) w := rfl
theorem s_inBlock {id : Nat} : stepG P mn (G (fr fn T (.inBlock id :: k) D ro kd) cs) w = .go (G (fr fn T k D ro kd) cs) w := rfl
theorem s_block {id : Nat} {c : Code} : stepG P mn (G (fr fn T (.code (.block id c) :: k) D ro kd) cs) w = .go (G (fr fn T (.code c :: .inBlock id :: k) D ro kd) cs) w := rfl
theorem s_loop {c : Code} : stepG P mn (G (fr fn T (.code (.loop c) :: k) D ro kd) cs) w = .go (G (fr fn T (.code c :: .inLoop c :: k) D ro kd) cs) w := rfl
theorem s_inLoop {c : Code} : stepG P mn (G (fr fn T (.inLoop c :: k) D ro kd) cs) w = .go (G (fr fn T (.code c :: .inLoop c :: k) D ro kd) cs) w := rfl
theorem s_region {id : Nat} {ops : Array Oper} : stepG P mn (G (fr fn T (.code (.region id ops false) :: k) D ro kd) cs) w = .go (G (fr fn T (.inRegion ops (List.range ops.size) :: k) D ro kd) cs) w := rfl
theorem s_region_end {ops : Array Oper} : stepG P mn (G (fr fn T (.inRegion ops [] :: k) D ro kd) cs) w = .go (G (fr fn T k D ro kd) cs) w := rfl
theorem s_cond {c : Operand} {x y : Code} {b : Bool} (h : ev T c = .bool b) : stepG P mn (G (fr fn T (.code (.cond c x y) :: k) D ro kd) cs) w = .go (G (fr fn T (.code (if b then x else y) :: k) D ro kd) cs) w := by
  have h' : (fr fn T (.code (.cond c x y) :: k) D ro kd).eval c = .bool b := by rw [fr_eval]; exact h
  show stepG.exec P mn true (fr fn T (.code (.cond c x y) :: k) D ro kd) cs none w = _
  unfold stepG.exec
  simp only [show (fr fn T (.code (.cond c x y) :: k) D ro kd).todo = .code (.cond c x y) :: k from rfl, h']
  rfl
theorem s_exit {id : Nat} {k' : List Item} (h : exitTo id k = some k') : stepG P mn (G (fr fn T (.code (.exit id) :: k) D ro kd) cs) w = .go (G (fr fn T k' D ro kd) cs) w := by
  show stepG.exec P mn true (fr fn T (.code (.exit id) :: k) D ro kd) cs none w = _
  unfold stepG.exec
  simp only [show (fr fn T (.code (.exit id) :: k) D ro kd).todo = .code (.exit id) :: k from rfl, h]
  rfl
/-- a function's end -/
theorem s_end : stepG P mn (G (fr fn T [] D none kd) cs) w = .go (G { fr fn T [] D none kd with mode := .returning } cs) w := rfl
theorem s_ret : stepG P mn (G (fr fn T (.code .ret :: k) D none kd) cs) w = .go (G { fr fn T (.code .ret :: k) D none kd with mode := .returning } cs) w := rfl

/-- an operation -/
theorem s_oper {ops : Array Oper} {i : Nat} {rest : List Nat} {o : Oper} (ho : ops[i]? = some o) (hw : Region.wanted o (yielded ops T) = true) (hd : ro = none ∨ ∀ c, o.op ≠ .defer c) :
    stepG P mn (G (fr fn T (.inRegion ops (i :: rest) :: k) D ro kd) cs) w = stepG.apply P true (fr fn T (.inRegion ops (i :: rest) :: k) D ro kd) cs none (execOp (ev T) o) w := by
  show stepG.exec P mn true (fr fn T (.inRegion ops (i :: rest) :: k) D ro kd) cs none w = _
  unfold stepG.exec
  have h1 : (((ops[i]?).map (Region.wanted · (yielded ops T))).getD false) = true := by rw [ho]; exact hw
  simp only [show (fr fn T (.inRegion ops (i :: rest) :: k) D ro kd).todo = .inRegion ops (i :: rest) :: k from rfl, show (fr fn T (.inRegion ops (i :: rest) :: k) D ro kd).tmps = T from rfl, h1, if_true]
  unfold stepG.oper
  have h2 : (fr fn T (.inRegion ops (i :: rest) :: k) D ro kd).oper? = some o := ho
  rw [h2, fr_eval']
  rcases hd with rfl | hd
  · rfl
  · cases ro with
    | none => rfl
    | some l =>
      simp only [show (fr fn T (.inRegion ops (i :: rest) :: k) D (some l) kd).roundOf = some l from rfl]
      split
      · rename_i h1 h2; exact absurd h2 (hd _)
      · rfl

theorem fr_finish {ops : Array Oper} {i : Nat} {rest : List Nat} {o : Oper} (ho : ops[i]? = some o) (v : Value) : (fr fn T (.inRegion ops (i :: rest) :: k) D ro kd).finish v = fr fn (put T o.dst v) (.inRegion ops rest :: k) D ro kd := by
  unfold Frame.finish fr put
  simp only [ho, Option.bind_some]
  cases o.dst <;> rfl

variable {ops : Array Oper} {i : Nat} {rest : List Nat} {o : Oper}
/-- .. that yields a value -/
theorem s_val {v : Value} (ho : ops[i]? = some o) (hw : Region.wanted o (yielded ops T) = true) (hd : ro = none ∨ ∀ c, o.op ≠ .defer c) (hr : (execOp (ev T) o).run P w = .ok (.value v) w') :
    stepG P mn (G (fr fn T (.inRegion ops (i :: rest) :: k) D ro kd) cs) w = .go (G (fr fn (put T o.dst v) (.inRegion ops rest :: k) D ro kd) cs) w' (seen P fn ((execOp (ev T) o).events P w #[])) := by
  rw [s_oper ho hw hd, ← fr_finish ho]
  cases kd <;> simp [stepG.apply, hr, G, GStep.after, fr]
theorem s_none (ho : ops[i]? = some o) (hw : Region.wanted o (yielded ops T) = true) (hd : ro = none ∨ ∀ c, o.op ≠ .defer c) (hr : (execOp (ev T) o).run P w = .ok .skip w') :
    stepG P mn (G (fr fn T (.inRegion ops (i :: rest) :: k) D ro kd) cs) w = .go (G (fr fn (put T o.dst undef) (.inRegion ops rest :: k) D ro kd) cs) w' (seen P fn ((execOp (ev T) o).events P w #[])) := by
  rw [s_oper ho hw hd, ← fr_finish ho]
  cases kd <;> simp [stepG.apply, hr, G, GStep.after, fr]
theorem s_call {f : FuncId} {args : Array Value} (ho : ops[i]? = some o) (hw : Region.wanted o (yielded ops T) = true) (hd : ro = none ∨ ∀ c, o.op ≠ .defer c) (hr : (execOp (ev T) o).run P w = .ok (.enter f args) w') :
    stepG P mn (G (fr fn T (.inRegion ops (i :: rest) :: k) D ro kd) cs) w = .go (G (Frame.enter P f args .normal) (fr fn T (.inRegion ops (i :: rest) :: k) D ro kd :: cs)) w' (seen P fn ((execOp (ev T) o).events P w #[])) := by
  rw [s_oper ho hw hd]
  cases kd <;> simp [stepG.apply, hr, G, GStep.after, fr]
theorem s_round {l : Nat} {f : FuncId} {tm : Array Value} {a b : Code} (ho : ops[i]? = some o) (hw : Region.wanted o (yielded ops T) = true) (hd : ro = none ∨ ∀ c, o.op ≠ .defer c) (hr : (execOp (ev T) o).run P w = .ok (.round l f tm a b) w') :
    stepG P mn (G (fr fn T (.inRegion ops (i :: rest) :: k) D ro kd) cs) w = .go (G (fr f tm [.code a, .beginRound, .code b] [] (some l)) (fr fn T (.inRegion ops (i :: rest) :: k) D ro kd :: cs)) w' (seen P fn ((execOp (ev T) o).events P w #[])) := by
  rw [s_oper ho hw hd]
  cases kd <;> simp [stepG.apply, hr, G, GStep.after, fr, Frame.round]
theorem s_defer {d : Deferred} (ho : ops[i]? = some o) (hw : Region.wanted o (yielded ops T) = true) (hr : (execOp (ev T) o).run P w = .ok (.defer d) w') :
    stepG P mn (G (fr fn T (.inRegion ops (i :: rest) :: k) D none kd) cs) w = .go (G (fr fn (put T o.dst undef) (.inRegion ops rest :: k) (d :: D) none kd) cs) w' (seen P fn ((execOp (ev T) o).events P w #[])) := by
  rw [s_oper ho hw (.inl rfl)]
  have e : ({ fr fn T (.inRegion ops (i :: rest) :: k) D none kd with defers := d :: (fr fn T (.inRegion ops (i :: rest) :: k) D none kd).defers } : Frame) = fr fn T (.inRegion ops (i :: rest) :: k) (d :: D) none kd := rfl
  simp only [stepG.apply, if_true]
  rw [Sem.runT_eq]
  simp only [hr, GStep.after, e, fr_finish ho]
  cases kd <;> simp [G, fr]
theorem s_comm {cases : Array CommCase} {bl : Bool} {sh : CommShape} (ho : ops[i]? = some o) (hw : Region.wanted o (yielded ops T) = true) (hd : ro = none ∨ ∀ c, o.op ≠ .defer c) (hr : (execOp (ev T) o).run P w = .ok (.comm cases bl sh) w') :
    stepG P mn (G (fr fn T (.inRegion ops (i :: rest) :: k) D ro kd) cs) w = .comm (G (fr fn T (.inRegion ops (i :: rest) :: k) D ro kd) cs) cases bl sh w' (seen P fn ((execOp (ev T) o).events P w #[])) := by
  rw [s_oper ho hw hd]
  cases kd <;> simp [stepG.apply, hr, G, GStep.after, fr]
/-- an operation that is passed over -/
theorem s_unwanted (ho : ops[i]? = some o) (hw : Region.wanted o (yielded ops T) = false) :
    stepG P mn (G (fr fn T (.inRegion ops (i :: rest) :: k) D ro kd) cs) w = .go (G (fr fn (put T o.dst undef) (.inRegion ops rest :: k) D ro kd) cs) w := by
  show stepG.exec P mn true (fr fn T (.inRegion ops (i :: rest) :: k) D ro kd) cs none w = _
  unfold stepG.exec
  have h1 : (((ops[i]?).map (Region.wanted · (yielded ops T))).getD false) = false := by rw [ho]; exact hw
  simp only [show (fr fn T (.inRegion ops (i :: rest) :: k) D ro kd).todo = .inRegion ops (i :: rest) :: k from rfl, show (fr fn T (.inRegion ops (i :: rest) :: k) D ro kd).tmps = T from rfl, h1, Bool.false_eq_true, if_false]
  rw [fr_finish ho]
  rfl
/-- the beginning of a round -/
theorem t_getLoop {α : Type} {l : Nat} {r : Loop} (hl : w.heap[l]? = some (.loop r)) (f : Loop → Sem α) (es : Array Event) : (Instr.getLoop l >>= f).runT P w es = (f r).runT P w (es.push ⟨.obj l, false, false⟩) := by
  show Sem.runT P (Sem.getObj l _) w es = _
  simp only [Sem.runT, hl]
  rfl
theorem t_setLoop {α : Type} {l : Nat} {r r' : Loop} (hl : w.heap[l]? = some (.loop r)) (f : Unit → Sem α) (es : Array Event) : (setObj l (.loop r') >>= f).runT P w es = (f ()).runT P { w with heap := w.heap.setIfInBounds l (.loop r') } (es.push ⟨.obj l, true, false⟩) := by
  show Sem.runT P (Sem.setObj l _ _) w es = _
  simp only [Sem.runT, hl]
  rfl
theorem s_begin {l : Nat} {r : Loop} (hl : w.heap[l]? = some (.loop r)) (hs : r.state = .ready) : stepG P mn (G (fr fn T (.beginRound :: k) D (some l)) cs) w =
    .go (G (fr fn T k D (some l)) cs) { w with heap := w.heap.setIfInBounds l (.loop { r with state := .busy }) } (seen P fn #[⟨.obj l, false, false⟩, ⟨.obj l, true, false⟩]) := by
  have h2 : (do Instr.beginRound l; pure .skip : Sem Next).runT P w #[] = (.ok .skip { w with heap := w.heap.setIfInBounds l (.loop { r with state := .busy }) }, #[⟨.obj l, false, false⟩, ⟨.obj l, true, false⟩]) := by
    have e : (do Instr.beginRound l; pure .skip : Sem Next) = (Instr.getLoop l >>= fun r => setObj l (.loop { r with state := .busy }) >>= fun _ => (match r.state with
      | .ready => pure ()
      | .done => runtimePanic (.error "range function continued iteration after function for loop body returned false")
      | .busy => runtimePanic (.error "range function continued iteration after loop body panic")
      | .exhausted => runtimePanic (.error "range function continued iteration after whole loop exit") : Sem Unit) >>= fun _ => pure .skip) := by
      unfold Instr.beginRound
      simp only [bind_assoc]
      refine congrArg (Instr.getLoop l >>= ·) (funext fun r => congrArg (setObj l _ >>= ·) (funext fun _ => ?_))
      cases r.state <;> rfl
    rw [e, t_getLoop hl, t_setLoop hl, hs]
    rfl
  show stepG.apply P true (fr fn T (.beginRound :: k) D (some l)) cs none (do Instr.beginRound l; pure .skip) w = _
  simp only [stepG.apply, if_true, h2]
  rfl
/-- the end of a round: by falling off its end, or by a jump -/
theorem s_endR {l : Nat} {r : Loop} {j : Option Code} {k : List Item} (hk : (k = [] ∧ j = none) ∨ (∃ k', k = .code .ret :: k' ∧ j = some .ret)) {c : Frame} (hl : w.heap[l]? = some (.loop r)) : stepG P mn (G (fr fn T k D (some l)) (c :: cs)) w =
    .go (G (c.finish (.bool j.isNone)) cs) { w with heap := w.heap.setIfInBounds l (.loop { r with state := if j.isNone then .ready else .done, pending := j }) } (seen P fn #[⟨.obj l, false, false⟩, ⟨.obj l, true, false⟩]) := by
  have h2 : (Instr.endRound l j).runT P w #[] = (.ok (.bool j.isNone) { w with heap := w.heap.setIfInBounds l (.loop { r with state := if j.isNone then .ready else .done, pending := j }) }, #[⟨.obj l, false, false⟩, ⟨.obj l, true, false⟩]) := by
    have e : Instr.endRound l j = (Instr.getLoop l >>= fun r => setObj l (.loop { r with state := if j.isNone then .ready else .done, pending := j }) >>= fun _ => pure (.bool j.isNone)) := rfl
    rw [e, t_getLoop hl, t_setLoop hl]
    rfl
  rcases hk with ⟨rfl, rfl⟩ | ⟨k', rfl, rfl⟩
  · show stepG.exec P mn true (fr fn T [] D (some l)) (c :: cs) none w = _
    unfold stepG.exec
    simp only [show (fr fn T [] D (some l)).todo = [] from rfl, show (fr fn T [] D (some l)).roundOf = some l from rfl, h2]
    simp only [doReturn, GStep.after, fr, G]
    simp
  · show stepG.exec P mn true (fr fn T (.code .ret :: k') D (some l)) (c :: cs) none w = _
    unfold stepG.exec
    simp only [show (fr fn T (.code .ret :: k') D (some l)).todo = .code .ret :: k' from rfl, show (fr fn T (.code .ret :: k') D (some l)).roundOf = some l from rfl, h2]
    simp only [doReturn, GStep.after, fr, G]
    simp
end

end Go.Proofs.Ytcdhmnefmbcmaaa
