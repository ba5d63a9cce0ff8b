/- Part 9 of what that rests on; no condition. -/
import Derived.Test.YtkkgcebhfghdnaaGreatDoorJh
import Derived.Conc.CompanyWords
import Derived.Conc.WalkWords
set_option maxRecDepth 100000
set_option maxHeartbeats 8000000
open Go.Goroutine.mk renaming injEq→Gf
open Go.Conc renaming stepG_load_atomic→ku, stepG_region_end→Bd, stepG_skip→Io, stepG_ret'→NI, stepG_seq→BU
open Option renaming getD_some→Dt, none→AB, some→AA
open Go.Instr renaming beginRound→YW, endRound→Tu, getLoop→Zx
open List renaming cons_append→Dj, nil_append→Dy, range→FZ
open Go.GStep.go renaming injEq→RQ
open Go.Region renaming wanted→DV
open Go renaming runtimePanic→Ql, callDeferred→Py, Goroutine→Ac, Deferred→EK, Program→BL, Operand→DT, FuncId→Bi, setObj→I5, execOp→BG, Value→AP, undef→AU, World→AL, Event→Bc, Frame→AX, stepG→Ae, Oper→BR
open Go.GStep renaming after→DW
open Go.Frame renaming enter→BV
open Go.stepG renaming apply→Ht, exec→JA
open Go.Sem renaming runT_eq→Ik, runT→GX
open Go.ConcX.WgAt renaming cellSt→P5
open Go.Conc.Goes renaming stop→Gg
namespace Go.Proofs.YtkkgcebhfghdnaaGreatDoor
open Go Go.Conc Go.RowKit Go.Conc.Lib Go.ConcX Go.ConcX.Gen
section
variable {C:Cx}{k:Nat}{P:BL}{w:AL}
def RL (C:Cx) (_ w:AL):Prop:=Live C w
theorem Un(hP:C.P=P){s:WS}{o:Own C.SR}(hs:s.free=true):
  ∀{n:Nat} {g:Ac} {w:AL},Live C w->Goes P false (RL C) DC0 (λg _=>g.status=.running/\PW C s k g o) n g w->g.status=.running/\PW C s k g o:=by
 intro n
 induction n with
 |zero=>intro g w hl h;exact h w hl
 |succ n ih=>
  intro g w hl h;rcases h with h|⟨hr,h⟩;exact h w hl;refine⟨hr,?_⟩
  have key: ∀w₁:AL,∃g',Live C w₁->g'.status=.running/\Ae P false g w₁=.go g' w₁ #[]/\PW C s k g' o:=λw₁=>by
   by_cases ZN:Live C w₁
   ·have h1:=h w₁ ZN
    cases hst:Ae P false g w₁ with
    |go g' w' es=>
     rw[hst,goes_go] at h1;obtain⟨⟨rfl,rfl⟩,h2⟩:=h1;have:=ih ZN h2;exact⟨g',λ_=>⟨this.1,rfl,this.2⟩⟩
    |_=>rw[hst] at h1;exact h1.elim
   exact⟨g,λx=>Ai x ZN⟩
  obtain⟨nx,hnx⟩:=dP key;exact .free nx hs hr (λw hw=>⟨(hnx w hw).1,by rw[hP];exact (hnx w hw).2.1⟩) λw hw=>(hnx w hw).2.2
section
variable {C:Cx} {P:BL} (hP:C.P=P) {k n:Nat} {b b' b1 b2:Ac} {o:Own C.SR}
include hP
theorem APF(h1: ∀w,Live C w->Ae P false b w=.go b' w #[mkS (.releaseMerge (F6 C.wg))])(hr:b.status=.running)(hr':b'.status=.running)(h:PW C .fin1 k b' o):PW C .fin0 k b o:=by subst hP;exact .r0 hr hr' h1 h
theorem APG(h1: ∀w,Live C w->Ae P false b w=.go b' w #[mkS .disable])(hr:b.status=.running)(hr':b'.status=.running)(h:PW C .fin2 k b' o):PW C .fin1 k b o:=by subst hP;exact .k1 hr hr' h1 h
theorem APH(h1: ∀w,WA C w KQ 0->Ae P false b w=.go b1 (w.setCell (F6 C.wg) (.int .u64 0)) #[JD C,Ui C])(h2: ∀w,WA C w (KQ+1) 0->Ae P false b w=.go b2 (w.setCell (F6 C.wg) (.int .u64 1)) #[JD C,Ui C])
  (hr:b.status=.running) (hr2:b2.status=.running) (hfw:C.FW o) (hq:QuitsD P n 1 b1) (h:PW C .Nk k b2 o):PW C .fin2 k b o:=by subst hP;exact .d1 hr hr2 h1 hq hfw h2 h
theorem API(h1: ∀w,WA C w 1 0->Ae P false b w=.go b' w #[JD C])(hr:b.status=.running)(hr':b'.status=.running)(h:PW C .Nk k b' o):PW C .Nk k b o:=by subst hP;exact .d2 hr hr' h1 h
theorem APJ(h1: ∀w,WA C w 1 0->Ae P false b w=.go b' (w.setCell (F6 C.wg) (.int .u64 0)) #[Ui C])(hr:b.status=.running)(hr':b'.status=.running)(h:PW C .Uj k b' o):PW C .Nk k b o:=by subst hP;exact .d3 hr hr' h1 h
theorem APK(h1: ∀w,WA C w 0 0->Ae P false b w=.go b' (w.setCell (OJ C.wg) (.int .u32 1)) (semEvents (OJ C.wg)))(hr:b.status=.running)(hmw:mayWake P b=true)(hfw:C.FW o)(hq:QuitsD P n 1 b'):PW C .Uj k b o:=by subst hP;exact .d4 hr hmw h1 hq hfw
end
theorem AO{w₁:AL}(_:Live C w)(h:RL C w w₁):Live C w₁:=h
theorem Live.cell{C:Cx}{w:AL}(h:Live C w): ∃v,w.cell? ⟨C.wg,0,AB⟩=AA v:=by
 obtain⟨st,sm,h⟩:=h;exact⟨_,P5 (Wg:=C.wg) (ty:=C.ty) h⟩
theorem AGk{L:WgLink}(H:WgLib P L)(hP:C.P=P){o:Own C.SR}(hfw:C.FW o){c:AX}{cs:List AX}{qt:Nat}(hK:Live C w)
  (hcm:c.mode=.returning) (hT:QuitsD P qt 0 (G c cs)):
  PW C .fin0 k (G ((baseD L.done).at ⟨#[.pointer (AA ⟨C.wg,0,AB⟩),AU,AU,AU],[]⟩ [.code (body_done L)]) (c::cs)) o:=by
 have hl0:=hK
 lib_facts
 simp only[body_done,body_add,doneFn,Dt];refine (Un hP rfl (n:=150) hl0 ?_).2;u_reg AO hK;u_op AO hK
 u_call H.f_add (nm_add L) addFn AO hK
 u_c BU AO hK
 u_cond true AO hK
 u_c BU AO hK;u_c BU AO hK;u_reg AO hK;u_op AO hK;u_op AO hK;u_c Bd AO hK
 u_cond true AO hK
 u_reg AO hK;u_op AO hK
 u_conv H.underlying_tWgP H.room_tWg hK.cell.choose_spec AO hK
 refine Gg (λ_ _=>⟨rfl,APF hP (λ_ _=>stepG_markAt .releaseMerge AV rfl rfl (by k_ne) rfl H.f_relMerge (x_relMerge_n L) (x_relMerge_b L) (x_relMerge_x L) (x_relMerge_f L) (by simp[Act.eval,F6])) rfl rfl ?_⟩);walk_nrm;refine (Un hP rfl (n:=150) hl0 ?_).2
 replace hK:=hl0
 u_c Bd AO hK;u_c BU AO hK;u_reg AO hK;refine Gg (λ_ _=>⟨rfl,APG hP (λ_ _=>stepG_mark0 .disable AV rfl rfl (by k_ne) rfl H.f_disable (x_disable_n L) (x_disable_b L) (x_disable_x L) (x_disable_f L)) rfl rfl ?_⟩);walk_nrm;refine (Un hP rfl (n:=150) hl0 ?_).2
 replace hK:=hl0
 u_c Bd AO hK;u_reg AO hK
 u_defer AO hK
 u_c Bd AO hK;u_c BU AO hK;u_reg AO hK;u_op AO hK;u_c Bd AO hK;u_c BU AO hK;u_c BU AO hK;u_reg AO hK
 u_bub AO hK
 u_c Bd AO hK
 u_cond false AO hK
 u_c Io AO hK;u_c BU AO hK;u_reg AO hK;u_op AO hK;u_op AO hK;u_op AO hK;u_op AO hK;u_op AO hK;u_op AO hK
 u_call H.f_uAdd (nm_uAdd L) uAddFn AO hK
 u_c BU AO hK;u_reg AO hK;u_op AO hK;u_c Bd AO hK;u_c BU AO hK;u_reg AO hK;u_op AO hK;u_op AO hK;u_op AO hK;u_op AO hK;(have e0:IntKind.u64.wrap (KQ+18446744069414584320)=0:=by decide);have e1:IntKind.u64.wrap (KQ+1+18446744069414584320)=1:=by decide
 refine Gg (λ_ _=>⟨rfl,APH (n:=qt+92) hP
  (λw hw=>(stepG_add_atomic rfl rfl (by k_ne) rfl H.f_addU64 (x_addU64_n L) (x_addU64_b L) (x_addU64_x L) .u64 (x_addU64_f L) rfl rfl (P5 (ty:=C.ty) hw) (WgAt.thaw (ty:=C.ty) hw 0)).trans (by rw[e0];rfl))
  (λw hw=>(stepG_add_atomic rfl rfl (by k_ne) rfl H.f_addU64 (x_addU64_n L) (x_addU64_b L) (x_addU64_x L) .u64 (x_addU64_f L) rfl rfl (P5 (ty:=C.ty) hw) (WgAt.thaw (ty:=C.ty) hw 0)).trans (by rw[e1];rfl)) rfl rfl hfw ?_ ?_⟩)
 ·
  clear hK hl0;walk_nrm
  q_val (.int .u64 0)
  q_c Bd
  q_c NI
  q_leave1 H.f_uAdd
  q_val (.int .u64 0)
  q_c Bd
  q_c BU
  q_c BU
  q_reg
  q_val (.int .u64 0)
  q_val (.int .u64 0)
  q_val (.bool false)
  q_val (.bool false)
  q_skip
  q_skip
  q_val (.bool false)
  q_c Bd
  q_cond false
  q_c Io
  q_c BU
  q_reg
  q_val (.int .u64 0)
  q_val (.int .u64 0)
  q_val (.int .i32 0)
  q_val (.int .i32 0)
  q_c Bd
  q_c BU
  q_reg
  q_val (.int .u64 0)
  q_val (.int .u64 0)
  q_val (.int .u32 0)
  q_val (.int .u32 0)
  q_c Bd
  q_c BU
  q_c BU
  q_reg
  q_val (.bool true)
  q_val (.int .i64 (-1))
  q_val (.bool false)
  q_val (.bool false)
  q_val (.bool false)
  q_skip
  q_skip
  q_skip
  q_skip
  q_val (.bool false)
  q_c Bd
  q_cond false
  q_c Io
  q_c BU
  q_c BU
  q_reg
  q_val (.int .i32 0)
  q_val (.bool false)
  q_c Bd
  q_cond false
  q_c Io
  q_c BU
  q_c BU
  q_reg
  q_val (.int .u32 0)
  q_val (.bool false)
  q_val (.bool false)
  q_skip
  q_skip
  q_val (.bool false)
  q_val (.bool false)
  q_skip
  q_skip
  q_skip
  q_skip
  q_val (.bool false)
  q_c Bd
  q_cond false
  q_c Io
  q_c BU
  q_c BU
  q_reg
  q_val (.int .i32 0)
  q_val (.bool false)
  q_val (.bool false)
  q_val (.int .u32 0)
  q_val (.bool true)
  q_val (.bool true)
  q_c Bd
  q_cond true
  q_c NI
  q_enable
  q_leave0 H.f_add
  q_c Bd
  q_c stepG_end
  exact QuitsD.leaveD rfl rfl H.f_done rfl hcm hT
 walk_nrm;refine (Un hP rfl (n:=150) hl0 ?_).2
 replace hK:=hl0
 u_op AO hK;u_c Bd AO hK;u_c NI AO hK
 u_leave1 H.f_uAdd AO hK
 u_op AO hK;u_c Bd AO hK;u_c BU AO hK;u_c BU AO hK;u_reg AO hK;u_op AO hK;u_op AO hK;u_op AO hK;u_op AO hK
 u_skip AO hK
 u_skip AO hK
 u_op AO hK;u_c Bd AO hK
 u_cond false AO hK
 u_c Io AO hK;u_c BU AO hK;u_reg AO hK;u_op AO hK;u_op AO hK;u_op AO hK;u_op AO hK;u_c Bd AO hK;u_c BU AO hK;u_reg AO hK;u_op AO hK;u_op AO hK;u_op AO hK;u_op AO hK;u_c Bd AO hK;u_c BU AO hK;u_c BU AO hK;u_reg AO hK;u_op AO hK;u_op AO hK;u_op AO hK;u_op AO hK;u_op AO hK
 u_skip AO hK
 u_skip AO hK
 u_skip AO hK
 u_skip AO hK
 u_op AO hK;u_c Bd AO hK
 u_cond false AO hK
 u_c Io AO hK;u_c BU AO hK;u_c BU AO hK;u_reg AO hK;u_op AO hK;u_op AO hK;u_c Bd AO hK
 u_cond false AO hK
 u_c Io AO hK;u_c BU AO hK;u_c BU AO hK;u_reg AO hK;u_op AO hK;u_op AO hK;u_op AO hK;u_op AO hK;u_op AO hK;u_op AO hK;u_op AO hK
 u_skip AO hK
 u_skip AO hK
 u_skip AO hK
 u_skip AO hK
 u_op AO hK;u_c Bd AO hK
 u_cond false AO hK
 u_c Io AO hK;u_c BU AO hK;u_c BU AO hK;u_reg AO hK;u_op AO hK;u_op AO hK;u_op AO hK;u_op AO hK;u_op AO hK;u_op AO hK;u_c Bd AO hK
 u_cond false AO hK
 u_c Io AO hK;u_c BU AO hK;u_c BU AO hK;u_reg AO hK;u_op AO hK;u_op AO hK;u_op AO hK
 u_call H.f_uLoad (nm_uLoad L) uLoadFn AO hK
 u_c BU AO hK;u_reg AO hK;u_op AO hK;u_c Bd AO hK;u_c BU AO hK;u_reg AO hK;u_op AO hK;u_op AO hK;u_op AO hK;refine Gg (λ_ _=>⟨rfl,API hP (λw hw=>ku rfl rfl (by k_ne) rfl H.f_loadU64 (x_loadU64_n L) (x_loadU64_b L) (x_loadU64_x L) .u64 (x_loadU64_f L) rfl (P5 (ty:=C.ty) hw)) rfl rfl ?_⟩);walk_nrm;refine (Un hP rfl (n:=150) hl0 ?_).2
 replace hK:=hl0
 u_op AO hK;u_c Bd AO hK;u_c NI AO hK
 u_leave1 H.f_uLoad AO hK
 u_op AO hK;u_op AO hK;u_c Bd AO hK
 u_cond false AO hK
 u_c Io AO hK;u_c BU AO hK;u_reg AO hK;u_op AO hK;u_op AO hK;u_op AO hK
 u_call H.f_uStore (nm_uStore L) uStoreFn AO hK
 u_reg AO hK;u_op AO hK;u_op AO hK;u_op AO hK;u_op AO hK;refine Gg (λ_ _=>⟨rfl,APJ hP (λw hw=>stepG_store_atomic rfl rfl (by k_ne) rfl H.f_storeU64 (x_storeU64_n L) (x_storeU64_b L) (x_storeU64_x L) (x_storeU64_f L) rfl rfl (P5 (ty:=C.ty) hw) (WgAt.thaw (ty:=C.ty) hw 0)) rfl rfl ?_⟩);walk_nrm;refine (Un hP rfl (n:=150) hl0 ?_).2
 replace hK:=hl0
 u_c Bd AO hK;u_c stepG_end AO hK
 u_leave0 H.f_uStore AO hK
 u_c Bd AO hK;u_c BU AO hK;u_c BU AO hK;u_reg AO hK;u_op AO hK;u_c Bd AO hK
 u_cond false AO hK
 u_c Io AO hK;u_c stepG_block AO hK;u_c stepG_loop AO hK;u_c BU AO hK;u_c BU AO hK;u_reg AO hK;u_op AO hK;u_op AO hK;u_c Bd AO hK
 u_cond true AO hK
 u_c Io AO hK;u_c BU AO hK;u_c stepG_block AO hK;u_reg AO hK;u_op AO hK;u_op AO hK;u_op AO hK;refine Gg (λ_ _=>⟨rfl,APK (n:=qt+22) hP (λw hw=>(stepG_semrelease rfl rfl (by k_ne) rfl H.f_semrelease (x_semrelease_n L) (x_semrelease_b L) (x_semrelease_x L) (x_semrelease_f L) (by simp[Act.eval,smA]) (WgAt.cellSm (ty:=C.ty) hw) (WgAt.thaw (ty:=C.ty) hw 1)).trans (by rfl)) rfl (mayWake_entry rfl rfl H.f_semrelease (x_semrelease_b L)) hfw ?_⟩);clear hK hl0;walk_nrm
 q_c Bd
 q_c stepG_inBlock
 q_reg
 q_val (.int .u32 1)
 q_val (.int .u32 0)
 q_val (.int .u32 0)
 q_c Bd
 q_c stepG_inLoop
 q_c BU
 q_c BU
 q_reg
 q_val (.int .u32 0)
 q_val (.bool false)
 q_c Bd
 q_cond false
 q_exit
 q_c stepG_end
 q_enable
 q_leave0 H.f_add
 q_c Bd
 q_c stepG_end
 exact QuitsD.leaveD rfl rfl H.f_done rfl hcm hT
end
section
variable {C:Cx}{s:MS}{k:Nat}{P:BL}{w:AL}
theorem JO{Fin:Nat->Ac->Own C.SR->Prop}(hP:C.P=P){o:Own C.SR}(hs:s.free=true):
  ∀{n:Nat} {g:Ac} {w:AL},Live C w->Goes P true (RL C) DC0 (λg _=>g.status=.running/\PM C Fin s k g o) n g w->g.status=.running/\PM C Fin s k g o:=by
 intro n
 induction n with
 |zero=>intro g w hl h;exact h w hl
 |succ n ih=>
  intro g w hl h;rcases h with h|⟨hr,h⟩;exact h w hl;refine⟨hr,?_⟩
  have key: ∀w₁:AL,∃g',Live C w₁->g'.status=.running/\Ae P true g w₁=.go g' w₁ #[]/\PM C Fin s k g' o:=λw₁=>by
   by_cases ZN:Live C w₁
   ·have h1:=h w₁ ZN
    cases hst:Ae P true g w₁ with
    |go g' w' es=>
     rw[hst,goes_go] at h1;obtain⟨⟨rfl,rfl⟩,h2⟩:=h1;have:=ih ZN h2;exact⟨g',λ_=>⟨this.1,rfl,this.2⟩⟩
    |_=>rw[hst] at h1;exact h1.elim
   exact⟨g,λx=>Ai x ZN⟩
  obtain⟨nx,hnx⟩:=dP key;exact .free nx (λ_=>#[]) hs hr (λw hw=>⟨(hnx w hw).1,by rw[hP];exact (hnx w hw).2.1,λe he=>by simp at he⟩) λw hw=>(hnx w hw).2.2
section
variable {C:Cx} {Fin:Nat->Ac->Own C.SR->Prop} {P:BL} (hP:C.P=P) {k n:Nat} {a a' a1 a2:Ac} {o:Own C.SR}
include hP
theorem AIH(hs:s.free=true)(h1: ∀w,Live C w->Ae P true a w=.go a' w #[mkS (.write (OJ C.wg))])(hr:a.status=.running)(hr':a'.status=.running)(h:PM C Fin s k a' o):PM C Fin s k a o:=by
 subst hP;exact .free (λ_=>a') (λ_=>#[mkS (.write (OJ C.wg))]) hs hr (λw hw=>⟨hr',h1 w hw,λe he=>by simpa using he⟩) λ_ _=>h
theorem APL(h1: ∀w,Live C w->Ae P true a w=.go a' w #[mkS .disable])(hr:a.status=.running)(hr':a'.status=.running)(h:PM C Fin .VJ k a' o):PM C Fin .dh k a o:=by subst hP;exact .kd hr hr' h1 h
theorem APM(h1: ∀w,WA C w KQ 0->Ae P true a w=.go a1 w #[JD C])(h2: ∀w,WA C w 0 0->Ae P true a w=.go a2 w #[JD C])(hr:a.status=.running)(hr1:a1.status=.running)(hr2:a2.status=.running)(p1:PM C Fin .VJ k a1 o)(p2:PM C Fin .Qb k a2 o):PM C Fin .VJ k a o:=by subst hP;exact .w1 hr hr1 hr2 h1 p1 h2 p2
theorem APN(h1: ∀w,WA C w KQ 0->Ae P true a w=.go a1 (w.setCell (F6 C.wg) (.int .u64 (KQ+1))) #[JD C,Ui C])(h2: ∀w,WA C w 0 0->Ae P true a w=.go a2 w #[JD C])(hr:a.status=.running)(hr1:a1.status=.running)(hr2:a2.status=.running)(p1:PM C Fin .ws2 k a1 o)(p2:PM C Fin .Qb k a2 o):PM C Fin .VJ k a o:=by subst hP;exact .w2 hr hr1 hr2 h1 p1 h2 p2
theorem ALd(h2: ∀w,WA C w 0 0->Ae P true a w=.go a2 w #[JD C])(hr:a.status=.running)(hr2:a2.status=.running)(p2:PM C Fin .Qb k a2 o):PM C Fin .Qb k a o:=by subst hP;exact .w1z hr hr2 h2 p2
theorem APO(h0: ∀w st,WA C w st 0->Ae P true a w=.go {a with status:=.blocked} w #[])(h1: ∀w,WA C w 0 1->Ae P true a w=.go a' (w.setCell (OJ C.wg) (.int .u32 0)) (semEvents (OJ C.wg)))(hr:a.status=.running)(hr':a'.status=.running)(ho:a.offers=AB)(p:PM C Fin .sZ k a' o):PM C Fin .ws2 k a o:=by subst hP;exact .w3 hr hr' ho h0 h1 p
theorem APP(h1: ∀w,WA C w 0 0->Ae P true a w=.go a' w #[JD C])(hr:a.status=.running)(hr':a'.status=.running)(p:PM C Fin .Qb k a' o):PM C Fin .sZ k a o:=by subst hP;exact .w4 hr hr' h1 p
theorem ADq(h1: ∀w,Live C w->Ae P true a w=.go a' w #[mkS .enable])(hr:a.status=.running)(hr':a'.status=.running)(p:PM C Fin .su k a' o):PM C Fin .Qb k a o:=by subst hP;exact .ke hr hr' h1 p
theorem yZ(h1: ∀w,Live C w->Ae P true a w=.go a' w #[mkS (.acquire (F6 C.wg))])(hr:a.status=.running)(hr':a'.status=.running)(p:Fin k a' o):PM C Fin .su k a o:=by subst hP;exact .acq hr hr' h1 p
end
theorem Live.cell1(h:Live C w): ∃v,w.cell? ⟨C.wg,1,AB⟩=AA v:=by
 obtain⟨st,sm,h⟩:=h;exact⟨_,WgAt.cellSm (Wg:=C.wg) (ty:=C.ty) h⟩
def ae (P:BL) (g g':Ac):Prop:=∃n,∀w,Goes P true (λ_ _=>True) DC0 (λx _=>x=g') n g w
theorem ADr{L:WgLink}(H:WgLib P L){Fin:Nat->Ac->Own C.SR->Prop}(hP:C.P=P){o:Own C.SR}(hK:Live C w)
  {b₀:AX} {a₀:Act} {ops₀:Array BR} {i₀:Nat} {rest₀:List Nat} {k₀:List Item} {cs:List AX}
  (hfin: ∀g,ae P g (G (b₀.at (a₀.put ((ops₀[i₀]?).bind (·.dst)) (.tuple #[])) (.inRegion ops₀ rest₀::k₀)) cs)->Fin k g o):
  PM C Fin .dh k (G ((base L.wait).at ⟨#[.pointer (AA ⟨C.wg,0,AB⟩)]++Array.replicate ((waitFn L).ntmps - 1) AU,[]⟩ [.code (body_wait L)]) (b₀.at a₀ (.inRegion ops₀ (i₀::rest₀)::k₀)::cs)) o:=by
 have hl0:=hK
 lib_facts
 simp only[body_wait,waitFn,Dt]
 walk_nrmf waitFn
 refine (JO hP rfl (n:=150) hl0 ?_).2;u_c BU AO hK
 u_cond true AO hK
 u_reg AO hK;refine Gg (λ_ _=>⟨rfl,APL hP (λ_ _=>stepG_mark0 .disable AV rfl rfl (by k_ne) rfl H.f_disable (x_disable_n L) (x_disable_b L) (x_disable_x L) (x_disable_f L)) rfl rfl ?_⟩);walk_nrm;refine (JO hP rfl (n:=150) hl0 ?_).2
 replace hK:=hl0
 u_c Bd AO hK;u_c stepG_block AO hK;u_c stepG_loop AO hK;u_c stepG_block AO hK;u_c BU AO hK;u_reg AO hK;u_op AO hK;u_op AO hK;u_op AO hK
 u_call H.f_uLoad (nm_uLoad L) uLoadFn AO hK
 u_c BU AO hK;u_reg AO hK;u_op AO hK;u_c Bd AO hK;u_c BU AO hK;u_reg AO hK;u_op AO hK;u_op AO hK;u_op AO hK;refine Gg (λ_ _=>⟨rfl,APM hP (λw hw=>ku (v:=4294967296) rfl rfl (by k_ne) rfl H.f_loadU64 (x_loadU64_n L) (x_loadU64_b L) (x_loadU64_x L) .u64 (x_loadU64_f L) rfl (P5 (ty:=C.ty) hw)) (λw hw=>ku (v:=0) rfl rfl (by k_ne) rfl H.f_loadU64 (x_loadU64_n L) (x_loadU64_b L) (x_loadU64_x L) .u64 (x_loadU64_f L) rfl (P5 (ty:=C.ty) hw)) rfl rfl rfl ?_ ?_⟩)
 ·
  walk_nrm;refine (JO hP rfl (n:=150) hl0 ?_).2
  replace hK:=hl0
  u_op AO hK;u_c Bd AO hK;u_c NI AO hK
  u_leave1 H.f_uLoad AO hK
  u_op AO hK;u_c Bd AO hK;u_c BU AO hK;u_reg AO hK;u_op AO hK;u_op AO hK;u_op AO hK;u_op AO hK;u_c Bd AO hK;u_c BU AO hK;u_reg AO hK;u_op AO hK;u_op AO hK;u_op AO hK;u_op AO hK;u_c Bd AO hK;u_c BU AO hK;u_c BU AO hK;u_reg AO hK;u_op AO hK;u_op AO hK;u_c Bd AO hK
  u_cond false AO hK
  u_c Io AO hK;u_c BU AO hK;u_reg AO hK;u_op AO hK;u_op AO hK;u_op AO hK;u_op AO hK;u_op AO hK;u_op AO hK
  u_call H.f_uCas (nm_uCas L) uCasFn AO hK
  u_c BU AO hK;u_reg AO hK;u_op AO hK;u_c Bd AO hK;u_c BU AO hK;u_reg AO hK;u_op AO hK;u_op AO hK;u_op AO hK;u_op AO hK;u_op AO hK;refine Gg (λ_ _=>⟨rfl,APN hP (λw hw=>(stepG_cas_hit (v:=4294967296) (n:=4294967297) rfl rfl (by k_ne) rfl H.f_casU64 (x_casU64_n L) (x_casU64_b L) (x_casU64_x L) .u64 (x_casU64_f L) rfl rfl rfl (P5 (ty:=C.ty) hw) (WgAt.thaw (ty:=C.ty) hw 0)).trans (by rfl)) (λw hw=>stepG_cas_miss (v:=0) (old:=4294967296) (n:=4294967297) rfl rfl (by k_ne) rfl H.f_casU64 (x_casU64_n L) (x_casU64_b L) (x_casU64_x L) .u64 (x_casU64_f L) rfl rfl rfl (P5 (ty:=C.ty) hw) (WgAt.thaw (ty:=C.ty) hw 0) (by k_ne)) rfl rfl rfl ?_ ?_⟩)
  ·
   walk_nrm;refine (JO hP rfl (n:=150) hl0 ?_).2
   replace hK:=hl0
   u_op AO hK;u_c Bd AO hK;u_c NI AO hK
   u_leave1 H.f_uCas AO hK
   u_c Bd AO hK
   u_cond true AO hK
   u_c BU AO hK;u_c BU AO hK;u_reg AO hK;u_op AO hK;u_op AO hK;u_op AO hK;u_op AO hK;u_c Bd AO hK
   u_cond true AO hK
   u_reg AO hK;u_op AO hK;u_op AO hK;u_op AO hK
   u_conv H.underlying_tPU32 H.room_tU32 hK.cell1.choose_spec AO hK
   refine Gg (λ_ _=>⟨rfl,AIH hP rfl (λ_ _=>stepG_markAt .write AV rfl rfl (by k_ne) rfl H.f_raceWrite (x_raceWrite_n L) (x_raceWrite_b L) (x_raceWrite_x L) (x_raceWrite_f L) (ad:=⟨_,1,AB⟩) (by simp[Act.eval]<;>rfl)) rfl rfl ?_⟩);walk_nrm;refine (JO hP rfl (n:=150) hl0 ?_).2
   replace hK:=hl0
   u_c Bd AO hK;u_c BU AO hK;u_reg AO hK;u_op AO hK;u_c Bd AO hK;u_c BU AO hK;u_c BU AO hK;u_reg AO hK;u_op AO hK;u_op AO hK;u_op AO hK;u_op AO hK
   u_skip AO hK
   u_op AO hK;u_c Bd AO hK
   u_cond false AO hK
   u_c Io AO hK;u_c BU AO hK;u_reg AO hK;u_op AO hK;u_op AO hK;u_op AO hK;u_op AO hK;refine Gg (λ_ _=>⟨rfl,APO hP (λw st hw=>stepG_semacquire_wait rfl rfl rfl H.f_semacquire (x_semacquire_n L) (x_semacquire_b L) (x_semacquire_x L) (x_semacquire_f L) (by simp[Act.eval,smA]) (WgAt.cellSm (ty:=C.ty) hw)) (λw hw=>(stepG_semacquire (n:=1) rfl rfl (by k_ne) rfl H.f_semacquire (x_semacquire_n L) (x_semacquire_b L) (x_semacquire_x L) (x_semacquire_f L) (by simp[Act.eval,smA]) (WgAt.cellSm (ty:=C.ty) hw) (by k_ne) (WgAt.thaw (ty:=C.ty) hw 1)).trans (by rfl)) rfl rfl rfl ?_⟩);walk_nrm;refine (JO hP rfl (n:=150) hl0 ?_).2
   replace hK:=hl0
   u_c Bd AO hK;u_c BU AO hK;u_reg AO hK;u_op AO hK;u_op AO hK;u_op AO hK
   u_call H.f_uLoad (nm_uLoad L) uLoadFn AO hK
   u_c BU AO hK;u_reg AO hK;u_op AO hK;u_c Bd AO hK;u_c BU AO hK;u_reg AO hK;u_op AO hK;u_op AO hK;u_op AO hK;refine Gg (λ_ _=>⟨rfl,APP hP (λw hw=>ku (v:=0) rfl rfl (by k_ne) rfl H.f_loadU64 (x_loadU64_n L) (x_loadU64_b L) (x_loadU64_x L) .u64 (x_loadU64_f L) rfl (P5 (ty:=C.ty) hw)) rfl rfl ?_⟩);walk_nrm;refine (JO hP rfl (n:=150) hl0 ?_).2
   replace hK:=hl0
   u_op AO hK;u_c Bd AO hK;u_c NI AO hK
   u_leave1 H.f_uLoad AO hK
   u_op AO hK;u_op AO hK;u_c Bd AO hK;u_c BU AO hK
   u_cond true AO hK
   u_c BU AO hK;u_reg AO hK;refine Gg (λ_ _=>⟨rfl,ADq hP (λ_ _=>stepG_mark0 .enable AV rfl rfl (by k_ne) rfl H.f_enable (x_enable_n L) (x_enable_b L) (x_enable_x L) (x_enable_f L)) rfl rfl ?_⟩);walk_nrm;refine (JO hP rfl (n:=150) hl0 ?_).2
   replace hK:=hl0
   u_c Bd AO hK;u_reg AO hK;u_op AO hK
   u_conv H.underlying_tWgP H.room_tWg hK.cell.choose_spec AO hK
   refine Gg (λ_ _=>⟨rfl,yZ hP (λ_ _=>stepG_markAt .acquire AV rfl rfl (by k_ne) rfl H.f_acquire (x_acquire_n L) (x_acquire_b L) (x_acquire_x L) (x_acquire_f L) (by simp[Act.eval,F6])) rfl rfl (hfin _ ⟨60,λw=>?_⟩)⟩);walk_nrm;have hT:True:=trivial;u_c Bd (λ_ _=>Am) hT;u_c BU (λ_ _=>Am) hT;u_c BU (λ_ _=>Am) hT;u_reg (λ_ _=>Am) hT;u_op (λ_ _=>Am) hT;u_c Bd (λ_ _=>Am) hT
   u_cond false (λ_ _=>Am) hT
   u_c Io (λ_ _=>Am) hT;u_c NI (λ_ _=>Am) hT
   u_leave0 H.f_wait (λ_ _=>Am) hT
   exact Gg λ_ _=>rfl
  ·
   walk_nrm;refine (JO hP rfl (n:=150) hl0 ?_).2
   replace hK:=hl0
   u_op AO hK;u_c Bd AO hK;u_c NI AO hK
   u_leave1 H.f_uCas AO hK
   u_c Bd AO hK
   u_cond false AO hK
   u_c Io AO hK;u_c stepG_inBlock AO hK;u_c stepG_inLoop AO hK;u_c stepG_block AO hK;u_c BU AO hK;u_reg AO hK;u_op AO hK;u_op AO hK;u_op AO hK
   u_call H.f_uLoad (nm_uLoad L) uLoadFn AO hK
   u_c BU AO hK;u_reg AO hK;u_op AO hK;u_c Bd AO hK;u_c BU AO hK;u_reg AO hK;u_op AO hK;u_op AO hK;u_op AO hK;refine Gg (λ_ _=>⟨rfl,ALd hP (λw hw=>ku (v:=0) rfl rfl (by k_ne) rfl H.f_loadU64 (x_loadU64_n L) (x_loadU64_b L) (x_loadU64_x L) .u64 (x_loadU64_f L) rfl (P5 (ty:=C.ty) hw)) rfl rfl ?_⟩);walk_nrm;refine (JO hP rfl (n:=150) hl0 ?_).2
   replace hK:=hl0
   u_op AO hK;u_c Bd AO hK;u_c NI AO hK
   u_leave1 H.f_uLoad AO hK
   u_op AO hK;u_c Bd AO hK;u_c BU AO hK;u_reg AO hK;u_op AO hK;u_op AO hK;u_op AO hK;u_op AO hK;u_c Bd AO hK;u_c BU AO hK;u_reg AO hK;u_op AO hK;u_op AO hK;u_op AO hK;u_op AO hK;u_c Bd AO hK;u_c BU AO hK;u_c BU AO hK;u_reg AO hK;u_op AO hK;u_op AO hK;u_c Bd AO hK
   u_cond true AO hK
   u_c BU AO hK
   u_cond true AO hK
   u_c BU AO hK;u_reg AO hK;refine Gg (λ_ _=>⟨rfl,ADq hP (λ_ _=>stepG_mark0 .enable AV rfl rfl (by k_ne) rfl H.f_enable (x_enable_n L) (x_enable_b L) (x_enable_x L) (x_enable_f L)) rfl rfl ?_⟩);walk_nrm;refine (JO hP rfl (n:=150) hl0 ?_).2
   replace hK:=hl0
   u_c Bd AO hK;u_reg AO hK;u_op AO hK
   u_conv H.underlying_tWgP H.room_tWg hK.cell.choose_spec AO hK
   refine Gg (λ_ _=>⟨rfl,yZ hP (λ_ _=>stepG_markAt .acquire AV rfl rfl (by k_ne) rfl H.f_acquire (x_acquire_n L) (x_acquire_b L) (x_acquire_x L) (x_acquire_f L) (by simp[Act.eval,F6])) rfl rfl (hfin _ ⟨60,λw=>?_⟩)⟩);walk_nrm;have hT:True:=trivial;u_c Bd (λ_ _=>Am) hT;u_c BU (λ_ _=>Am) hT;u_c BU (λ_ _=>Am) hT;u_reg (λ_ _=>Am) hT;u_op (λ_ _=>Am) hT;u_op (λ_ _=>Am) hT;u_op (λ_ _=>Am) hT;u_op (λ_ _=>Am) hT;u_op (λ_ _=>Am) hT;u_op (λ_ _=>Am) hT;u_op (λ_ _=>Am) hT;u_op (λ_ _=>Am) hT
   u_skip (λ_ _=>Am) hT
   u_skip (λ_ _=>Am) hT
   u_op (λ_ _=>Am) hT;u_c Bd (λ_ _=>Am) hT
   u_cond false (λ_ _=>Am) hT
   u_c Io (λ_ _=>Am) hT;u_c NI (λ_ _=>Am) hT
   u_leave0 H.f_wait (λ_ _=>Am) hT
   exact Gg λ_ _=>rfl
 ·
  walk_nrm;refine (JO hP rfl (n:=150) hl0 ?_).2
  replace hK:=hl0
  u_op AO hK;u_c Bd AO hK;u_c NI AO hK
  u_leave1 H.f_uLoad AO hK
  u_op AO hK;u_c Bd AO hK;u_c BU AO hK;u_reg AO hK;u_op AO hK;u_op AO hK;u_op AO hK;u_op AO hK;u_c Bd AO hK;u_c BU AO hK;u_reg AO hK;u_op AO hK;u_op AO hK;u_op AO hK;u_op AO hK;u_c Bd AO hK;u_c BU AO hK;u_c BU AO hK;u_reg AO hK;u_op AO hK;u_op AO hK;u_c Bd AO hK
  u_cond true AO hK
  u_c BU AO hK
  u_cond true AO hK
  u_c BU AO hK;u_reg AO hK;refine Gg (λ_ _=>⟨rfl,ADq hP (λ_ _=>stepG_mark0 .enable AV rfl rfl (by k_ne) rfl H.f_enable (x_enable_n L) (x_enable_b L) (x_enable_x L) (x_enable_f L)) rfl rfl ?_⟩);walk_nrm;refine (JO hP rfl (n:=150) hl0 ?_).2
  replace hK:=hl0
  u_c Bd AO hK;u_reg AO hK;u_op AO hK
  u_conv H.underlying_tWgP H.room_tWg hK.cell.choose_spec AO hK
  refine Gg (λ_ _=>⟨rfl,yZ hP (λ_ _=>stepG_markAt .acquire AV rfl rfl (by k_ne) rfl H.f_acquire (x_acquire_n L) (x_acquire_b L) (x_acquire_x L) (x_acquire_f L) (by simp[Act.eval,F6])) rfl rfl (hfin _ ⟨60,λw=>?_⟩)⟩);walk_nrm;have hT:True:=trivial;u_c Bd (λ_ _=>Am) hT;u_c BU (λ_ _=>Am) hT;u_c BU (λ_ _=>Am) hT;u_reg (λ_ _=>Am) hT;u_op (λ_ _=>Am) hT;u_op (λ_ _=>Am) hT;u_op (λ_ _=>Am) hT;u_op (λ_ _=>Am) hT;u_op (λ_ _=>Am) hT;u_op (λ_ _=>Am) hT;u_op (λ_ _=>Am) hT;u_op (λ_ _=>Am) hT
  u_skip (λ_ _=>Am) hT
  u_skip (λ_ _=>Am) hT
  u_op (λ_ _=>Am) hT;u_c Bd (λ_ _=>Am) hT
  u_cond false (λ_ _=>Am) hT
  u_c Io (λ_ _=>Am) hT;u_c NI (λ_ _=>Am) hT
  u_leave0 H.f_wait (λ_ _=>Am) hT
  exact Gg λ_ _=>rfl
end
section
variable {f:AX}{Kp:AX->List AX->AL->Prop}{ts:List AX}{α β:Type}{s s':VS}{v1:AL}
section
variable {K:Kit} {T:Twin} {N:Nat} {ρ:Rn} {v:AL}
theorem APQ{c:Prop}[Decidable c]{A B R:GStep}(h:(if c then A else B)=R)(hA:A≠R):B=R:=by
 by_cases hc:c;rw[BZ hc] at h;exact Ai h hA;rwa[BM hc] at h
theorem tC(hK:Fits K T N)(hW:DD K.F N ρ v v){ch:List PanicEntry}(hm:f.mode=.panicking ch)(hu:NP ch){cs:List AX}{d:EK}(hd:I7 K.F ρ d d){g1:Ac}{es:Array Bc}
  (h:Py T.v f cs AB d v=.go g1 v1 es):ja (g1.frame::g1.callers):=by
 have hs:=Yo (N:=N) hK.bodies hd;have hc:=hs.sort hW;unfold Py at h;have h:=APQ h (by intro x;cases x);rw[Ik] at h;generalize (invoke d.target d.args).events T.v v #[]=eu at h;generalize (invoke d.target d.args).run T.v v=r at hc h
 cases r with
 |ok n v'=>
  obtain⟨ρ',b,hq⟩:=hc
  cases hq with|value _=>cases h;exact .head hm hu|skip=>cases h;exact .head hm hu|enter _ _=>cases h;exact .under (.head hm hu)|round _ _ _ _ _ _=>cases h;exact .under (.head hm hu)|defer _ _ _=>cases h;exact .head hm hu|seq _ _=>cases h;exact .under (.head hm hu)
 |halt x v'=>
  cases x with
  |panic x=>
   (cases h);obtain⟨c,h1,h2⟩:=ZH f (ch':=[{v:=x,recovered:=false}]) hm hu (by intro e he;simp at he;subst he;rfl);exact .head h1 h2
  |unsupported u=>cases u<;>first|exact hc.elim|cases h
  |_=>first|exact hc.elim|cases h
theorem yc{R:α->β->Prop}: ∀{a:List α} {b:List α} {l:List β},Cc R (a++b) l->∃a' b',l=a'++b'/\Cc R a a'/\Cc R b b':=by
 intro a
 induction a with
 |nil=>intro b l h;exact⟨[],l,rfl,.nil,h⟩
 |cons x a ih=>
  intro b l h
  cases h with
  |cons h1 h2=>
   obtain⟨a',b',e,h3,h4⟩:=ih h2;exact⟨_::a',b',by rw[e];rfl,.cons h1 h3,h4⟩
theorem Cc.len{R:α->β->Prop}{a:List α}{b:List β}(h:Cc R a b):a.length=b.length:=by
 induction h with|nil=>rfl|cons _ _ ih=>simp[ih]
theorem AGl(hK:Fits K T N)(hV:T.v=T.P)(hX:(∀f,K.X f=false)/\¬T.p){f1:AX}{Di:List AX}{e:Array Bc}(hw:Qp K T N f ts v)(hp:ja (f::ts))
  (hst:Ae T.P true (G f (ts++[door T.P])) v=.go (G f1 (Di++[door T.P])) v1 e):ja (f1::Di):=by
 obtain⟨ρ,hi,hf,hts,hW,hG⟩:=hw;obtain⟨S,x,D,he,ch,hx,hu⟩:=hp
 cases S with
 |cons f0 S0=>
  simp only[Dj,IV] at he;obtain⟨rfl,rfl⟩:=he;obtain⟨S0',D',e1,h1,h2⟩:=yc hts;obtain⟨rfl,rfl⟩:=List.append_inj e1 h1.len;have h0:=Ug (mn:=true) (dr:=x) (ds:=D++[door T.P]) (cs':=[]) hK hW hG hf h1 (λ_ _ _ _ i _ q=>rfl);(have e2:S0++(x::(D++[door T.P]))=S0++x::D++[door T.P]:=by simp);rw[hV,e2,hst] at h0;rcases h0 with ⟨f1',Gy,_,_,ρ1,w1,es',q1,_⟩|⟨X,p,p',k,g1,g2,f1',Gy,ρ1,w1,es',_,hX',_⟩|⟨c,q1,q2,_⟩|⟨QZ,_⟩|⟨p,k,_,_,⟨_,_,_,_,hq⟩,_⟩
  ·simp only[G,Gf] at q1;obtain⟨r1,r2,_⟩:=q1;(have e3:Gy++(x::(D++[door T.P]))=Gy++x::D++[door T.P]:=by simp);rw[e3] at r2;have r2:=NL r2;subst r1 r2;exact .under ⟨Gy,x,D,rfl,ch,hx,hu⟩
  ·have hX':=hX'.1;rw[hX.1] at hX';cases hX'
  ·simp only[G,Gf] at q1;obtain⟨r1,r2,_⟩:=q1;subst r1;obtain⟨c',h3,h4⟩:=q2.pan ch hx hu;exact .head h3 h4
  exact Ai QZ hX.2;exact Ai hq (hi.q _ _ _ _)
 |nil=>
  simp only[Dy,IV] at he;obtain⟨rfl,rfl⟩:=he;have hfn:=hf.known hK;obtain⟨fn,hfn,hfv⟩:=hfn
  have h0:Ae T.P true (G f (ts++[door T.P])) v=unwind T.P true f (ts++[door T.P]) AB v:=by
   unfold Ae G;simp only[hx]
  rw[h0] at hst;unfold unwind at hst
  cases ed:f.defers with
  |nil=>
   simp only[ed,hx,XE hfn,C9,if_false] at hst
   cases hts with
   |nil=>
    simp only[Dy] at hst;simp only[RQ,G,Gf] at hst;have:=hst.1.2.1;simp at this
   | @cons t t' ts ts' ht hts=>
    simp only[Dj] at hst;simp only[RQ,G,Gf] at hst;obtain⟨⟨r1,r2,_⟩,_⟩:=hst;subst r1;obtain⟨c,h1,h2⟩:=TP ht.fr hu;exact .head h1 h2
  |cons d dl=>
   have hds:=hf.defers;rw[ed] at hds;(have hd:I7 K.F ρ d d:=by cases hds with|cons h1 h2=>exact h1);obtain⟨t,az⟩:=d;by_cases aW: ∃b,t=.collected b
   ·obtain⟨b,rfl⟩:=aW;simp only[ed] at hst;generalize (Instr.takeDeferred b).runT T.P v #[]=r at hst;obtain⟨r,eu⟩:=r
    cases r with
    |ok calls w=>
     simp only[DW,RQ,G,Gf] at hst;obtain⟨⟨r1,r2,_⟩,_⟩:=hst;subst r1;exact .head (f:={f with defers:=calls++dl}) hx hu
    |halt _ _=>simp only[DW] at hst;cases hst
   have key: ∀g1 v1 es,Py T.P {f with defers:=dl} (ts++[door T.P]) AB ⟨t,az⟩ v=.go g1 v1 es->ja (g1.frame::g1.callers):=λg1 v1 es h=>
    tC hK hW (f:={f with defers:=dl}) hx hu hd (by rw[hV];exact h)
   have hst':Py T.P {f with defers:=dl} (ts++[door T.P]) AB ⟨t,az⟩ v=.go (G f1 (Di++[door T.P])) v1 e:=by
    cases t with|collected b=>exact Ai ⟨_,rfl⟩ aW|_=>simp only[ed] at hst;exact hst
   obtain⟨S,y,D,e3,c,h3,h4⟩:=key _ _ _ hst';simp only[G] at e3;rcases List.eq_nil_or_concat D with rfl|⟨D0,z,rfl⟩
   ·exfalso;have e4:f1::(Di++[door T.P])=(f1::Di)++[door T.P]:=rfl;rw[e4] at e3;have e5:=List.append_inj_right' e3 rfl;simp only[IV,and_true] at e5;rw[<- e5] at h3;cases h3
   have e4:f1::(Di++[door T.P])=(f1::Di)++[door T.P]:=rfl;rw[e4] at e3;(have e6:S++y::(D0.concat z)=(S++y::D0)++[z]:=by simp);rw[e6] at e3;have e5:=List.append_inj_left' e3 rfl;exact⟨S,y,D0,e5,c,h3,h4⟩
theorem ABR(hK:Fits K T N)(hV:T.v=T.P)(hX:(∀f,K.X f=false)/\¬T.p)(Bv: ∀f ts v,Kp f ts v->ts=[]/\f.mode=.returning)
  (h:Ev T.P Kp f ts v):Qp K T N f ts v->ja (f::ts)->False:=by
 induction h with
 | @stop f ts v hk=>
  intro _ hp;obtain⟨rfl,hm⟩:=Bv _ _ _ hk;obtain⟨S,x,D,e,c,hx,_⟩:=hp
  cases S with|nil=>simp only[Dy,IV] at e;rw[e.1,hx] at hm;cases hm|cons s S=>simp at e
 | @step f ts v F S W h1 h2 ih=>
  intro hw hp;obtain⟨es,hs⟩:=h1 v.tape (λ_ _=>rfl);have hvt:v.DL v.tape=v:=rfl;rcases XG hK hV hX hw v.tape with ⟨o,u,e,q1⟩|⟨c,v1,e,q1,q2⟩|⟨f1,Di,v1,e,q1,hw1,_⟩;rw[hs] at q1;cases q1
  ·rw[hs] at q1;simp only[RQ,G,Gf] at q1;have:=q1.1.2.1;simp at this
  rw[hs] at q1;simp only[RQ,G,Gf] at q1;obtain⟨⟨r1,r2,_⟩,r3,_⟩:=q1;have r2:=NL r2;rw[hvt] at hs;refine ih v.tape (λ_ _=>rfl) (by rw[r1,r2,r3];exact hw1) ?_;exact AGl hK hV hX hw hp hs
theorem Qp.next(hK:Fits K T N)(hV:T.v=T.P)(hX:(∀f,K.X f=false)/\¬T.p)(hn:Nx T.P Kp s' s)(hw:Qp K T N s.f s.ts s.v):Qp K T N s'.f s'.ts s'.v:=by
 obtain⟨f,ts,v⟩:=s;obtain⟨f',ts',v'⟩:=s';obtain⟨hk,t,ht,es,hs⟩:=hn;rcases XG hK hV hX hw t with ⟨o,u,e,q1⟩|⟨c,v1,e,q1,q2⟩|⟨f1,Di,v1,e,q1,hw1,_⟩;rw[hs] at q1;cases q1
 ·rw[hs] at q1;simp only[RQ,G,Gf] at q1;have:=q1.1.2.1;simp at this
 rw[hs] at q1;simp only[RQ,G,Gf] at q1;obtain⟨⟨r1,r2,_⟩,r3,_⟩:=q1;have r2:=NL r2;subst r1 r2 r3;exact hw1
theorem Qp.O6(hK:Fits K T N)(hV:T.v=T.P)(hX:(∀f,K.X f=false)/\¬T.p)(hn:Jq T.P Kp s' s):Qp K T N s.f s.ts s.v->Qp K T N s'.f s'.ts s'.v:=by
 induction hn with|one x=>exact λhw=>hw.next hK hV hX x|cons x _ ih=>exact λhw=>ih (hw.next hK hV hX x)
theorem Qp.APR(hK:Fits K T N)(hV:T.v=T.P)(hX:(∀f,K.X f=false)/\¬T.p)(Bv: ∀f ts v,Kp f ts v->ts=[]/\f.mode=.returning)(hw:Qp K T N s.f s.ts s.v)(h:Ev T.P Kp s.f s.ts s.v):NQ T.P Kp s:=
 λ_ hn hp=>ABR hK hV hX Bv (h.O6 hn) (hw.O6 hK hV hX hn) hp
end
end
section
variable {ops:Array BR}{c x y:Code}{f:Bi}{rest:List Nat}{r:Loop}{i l:Nat}{o:BR}{α:Type}
def fr (fn:Bi) (T:Array AP) (k:List Item) (D:List EK) (ro:Option Nat) (kd:Bool:=false):AX:={fn,tmps:=T,todo:=k,defers:=D,mode:=.run,kind:=bif kd then .deferred else .normal,roundOf:=ro}
def ev (T:Array AP):DT->AP:=Act.eval ⟨T,[]⟩
def put (T:Array AP) (d:Option Tmp) (v:AP):Array AP:=match d with|some d=>T.setIfInBounds d v|none=>T
def Nf {α:Type} (a b:α):Prop:=a=b
section
variable {P:BL} {mn:Bool} {fn:Bi} {T:Array AP} {k:List Item} {D:List EK} {ro:Option Nat} {cs:List AX} {w w':AL} {kd:Bool}
theorem ABS(x:DT):(fr fn T k D ro kd).eval x=ev T x:=by cases x<;>rfl
theorem uh:(fr fn T k D ro kd).eval=ev T:=funext ABS
theorem J5:Ae P mn (G (fr fn T (.code (.seq x y)::k) D ro kd) cs) w=.go (G (fr fn T (.code x:: .code y::k) D ro kd) cs) w:=rfl
theorem Q5:Ae P mn (G (fr fn T (.code .skip::k) D ro kd) cs) w=.go (G (fr fn T k D ro kd) cs) w:=rfl
theorem LC{id:Nat}:Ae P mn (G (fr fn T (.inBlock id::k) D ro kd) cs) w=.go (G (fr fn T k D ro kd) cs) w:=rfl
theorem QH{id:Nat}:Ae P mn (G (fr fn T (.code (.block id c)::k) D ro kd) cs) w=.go (G (fr fn T (.code c:: .inBlock id::k) D ro kd) cs) w:=rfl
theorem kS:Ae P mn (G (fr fn T (.code (.loop c)::k) D ro kd) cs) w=.go (G (fr fn T (.code c:: .inLoop c::k) D ro kd) cs) w:=rfl
theorem Np:Ae P mn (G (fr fn T (.inLoop c::k) D ro kd) cs) w=.go (G (fr fn T (.code c:: .inLoop c::k) D ro kd) cs) w:=rfl
theorem ui{id:Nat}:Ae P mn (G (fr fn T (.code (.region id ops false)::k) D ro kd) cs) w=.go (G (fr fn T (.inRegion ops (FZ ops.size)::k) D ro kd) cs) w:=rfl
theorem s_reg{id:Nat}{l:List Nat}(h:Nf (List.range ops.size) l:=by simp only[Iq,List.length_cons,List.length_nil,Nat.reduceAdd,Ny,List.range,List.range.loop];exact rfl):stepG P mn (G (fr fn T (.code (.region id ops false)::k) D ro kd) cs) w=.go (G (fr fn T (.inRegion ops l::k) D ro kd) cs) w:=by
 have e:FZ ops.size=l:=h;rw[<- e];rfl
theorem F8:Ae P mn (G (fr fn T (.inRegion ops []::k) D ro kd) cs) w=.go (G (fr fn T k D ro kd) cs) w:=rfl
theorem s_cond{c:DT}{b:Bool}(h:ev T c=.bool b):Ae P mn (G (fr fn T (.code (.cond c x y)::k) D ro kd) cs) w=.go (G (fr fn T (.code (if b then x else y)::k) D ro kd) cs) w:=by
 (have h':(fr fn T (.code (.cond c x y)::k) D ro kd).eval c=.bool b:=by rw[ABS];exact h);show JA P mn true (fr fn T (.code (.cond c x y)::k) D ro kd) cs AB w=_;unfold JA;simp only[show (fr fn T (.code (.cond c x y)::k) D ro kd).todo=.code (.cond c x y)::k from rfl,h'];rfl
theorem QI{c:DT}(h:ev T c=.bool true):Ae P mn (G (fr fn T (.code (.cond c x y)::k) D ro kd) cs) w=.go (G (fr fn T (.code x::k) D ro kd) cs) w:=s_cond h
theorem QJ{c:DT}(h:ev T c=.bool false):Ae P mn (G (fr fn T (.code (.cond c x y)::k) D ro kd) cs) w=.go (G (fr fn T (.code y::k) D ro kd) cs) w:=s_cond h
theorem s_exit{id:Nat}{k':List Item}(h:exitTo id k=AA k'):Ae P mn (G (fr fn T (.code (.exit id)::k) D ro kd) cs) w=.go (G (fr fn T k' D ro kd) cs) w:=by
 show JA P mn true (fr fn T (.code (.exit id)::k) D ro kd) cs AB w=_;unfold JA;simp only[show (fr fn T (.code (.exit id)::k) D ro kd).todo=.code (.exit id)::k from rfl,h];rfl
theorem ADs:Ae P mn (G (fr fn T [] D AB kd) cs) w=.go (G {fr fn T [] D AB kd with mode:=.returning} cs) w:=rfl
theorem OM:Ae P mn (G (fr fn T (.code .ret::k) D AB kd) cs) w=.go (G {fr fn T (.code .ret::k) D AB kd with mode:=.returning} cs) w:=rfl
theorem Q7(ho:ops[i]? =AA o)(hw:DV o (yielded ops T)=true)(hd:ro=AB\/∀c,o.op≠ .defer c):
  Ae P mn (G (fr fn T (.inRegion ops (i::rest)::k) D ro kd) cs) w=Ht P true (fr fn T (.inRegion ops (i::rest)::k) D ro kd) cs AB (BG (ev T) o) w:=by
 show JA P mn true (fr fn T (.inRegion ops (i::rest)::k) D ro kd) cs AB w=_;unfold JA;(have h1:(((ops[i]?).map (DV · (yielded ops T))).getD false)=true:=by rw[ho];exact hw);simp only[show (fr fn T (.inRegion ops (i::rest)::k) D ro kd).todo=.inRegion ops (i::rest)::k from rfl,show (fr fn T (.inRegion ops (i::rest)::k) D ro kd).tmps=T from rfl,h1,if_true];unfold stepG.oper;have h2:(fr fn T (.inRegion ops (i::rest)::k) D ro kd).oper? =AA o:=ho;rw[h2,uh];rcases hd with rfl|hd;rfl
 cases ro with
 |none=>rfl|some l=>
  simp only[show (fr fn T (.inRegion ops (i::rest)::k) D (AA l) kd).roundOf=AA l from rfl];split
  ·rename_i h1 h2;exact Ai h2 (hd _)
  rfl
theorem EH(ho:ops[i]? =AA o)(v:AP):(fr fn T (.inRegion ops (i::rest)::k) D ro kd).finish v=fr fn (put T o.dst v) (.inRegion ops rest::k) D ro kd:=by
 unfold Frame.finish fr put;simp only[ho,Option.bind_some];cases o.dst<;>rfl
variable {ops:Array BR} {i:Nat} {rest:List Nat} {o:BR}
theorem XM{v:AP}(ho:ops[i]? =AA o)(hw:DV o (yielded ops T)=true)(hd:ro=AB\/∀c,o.op≠ .defer c)(hr:(BG (ev T) o).run P w=.ok (.value v) w'):
  Ae P mn (G (fr fn T (.inRegion ops (i::rest)::k) D ro kd) cs) w=.go (G (fr fn (put T o.dst v) (.inRegion ops rest::k) D ro kd) cs) w' (seen P fn ((BG (ev T) o).events P w #[])):=by
 rw[Q7 ho hw hd,<- EH ho];cases kd<;>simp[Ht,hr,G,DW,fr]
theorem ALe(ho:ops[i]? =AA o)(hw:DV o (yielded ops T)=true)(hd:ro=AB\/∀c,o.op≠ .defer c)(hr:(BG (ev T) o).run P w=.ok .skip w'):
  Ae P mn (G (fr fn T (.inRegion ops (i::rest)::k) D ro kd) cs) w=.go (G (fr fn (put T o.dst AU) (.inRegion ops rest::k) D ro kd) cs) w' (seen P fn ((BG (ev T) o).events P w #[])):=by
 rw[Q7 ho hw hd,<- EH ho];cases kd<;>simp[Ht,hr,G,DW,fr]
theorem s_call{args:Array AP}(ho:ops[i]? =AA o)(hw:DV o (yielded ops T)=true)(hd:ro=AB\/∀c,o.op≠ .defer c)(hr:(BG (ev T) o).run P w=.ok (.enter f args) w'):
  Ae P mn (G (fr fn T (.inRegion ops (i::rest)::k) D ro kd) cs) w=.go (G (BV P f args .normal) (fr fn T (.inRegion ops (i::rest)::k) D ro kd::cs)) w' (seen P fn ((BG (ev T) o).events P w #[])):=by
 rw[Q7 ho hw hd];cases kd<;>simp[Ht,hr,G,DW,fr]
theorem AII{tm:Array AP}{a b:Code}(ho:ops[i]? =AA o)(hw:DV o (yielded ops T)=true)(hd:ro=AB\/∀c,o.op≠ .defer c)(hr:(BG (ev T) o).run P w=.ok (.round l f tm a b) w'):
  Ae P mn (G (fr fn T (.inRegion ops (i::rest)::k) D ro kd) cs) w=.go (G (fr f tm [.code a,.beginRound,.code b] [] (AA l)) (fr fn T (.inRegion ops (i::rest)::k) D ro kd::cs)) w' (seen P fn ((BG (ev T) o).events P w #[])):=by
 rw[Q7 ho hw hd];cases kd<;>simp[Ht,hr,G,DW,fr,Frame.round]
theorem AIJ{d:EK}(ho:ops[i]? =AA o)(hw:DV o (yielded ops T)=true)(hr:(BG (ev T) o).run P w=.ok (.defer d) w'):
  Ae P mn (G (fr fn T (.inRegion ops (i::rest)::k) D AB kd) cs) w=.go (G (fr fn (put T o.dst AU) (.inRegion ops rest::k) (d::D) AB kd) cs) w' (seen P fn ((BG (ev T) o).events P w #[])):=by
 rw[Q7 ho hw (.inl rfl)];have e:({fr fn T (.inRegion ops (i::rest)::k) D AB kd with defers:=d::(fr fn T (.inRegion ops (i::rest)::k) D AB kd).defers}:AX)=fr fn T (.inRegion ops (i::rest)::k) (d::D) AB kd:=rfl;simp only[Ht,if_true];rw[Ik];simp only[hr,DW,e,EH ho];cases kd<;>simp[G,fr]
theorem AFU{cases:Array CommCase}{bl:Bool}{sh:CommShape}(ho:ops[i]? =AA o)(hw:DV o (yielded ops T)=true)(hd:ro=AB\/∀c,o.op≠ .defer c)(hr:(BG (ev T) o).run P w=.ok (.comm cases bl sh) w'):
  Ae P mn (G (fr fn T (.inRegion ops (i::rest)::k) D ro kd) cs) w=.comm (G (fr fn T (.inRegion ops (i::rest)::k) D ro kd) cs) cases bl sh w' (seen P fn ((BG (ev T) o).events P w #[])):=by
 rw[Q7 ho hw hd];cases kd<;>simp[Ht,hr,G,DW,fr]
theorem VL(hl:w.heap[l]? =AA (.loop r))(f:Loop->Sem α)(es:Array Bc):(Zx l>>=f).runT P w es=(f r).runT P w (es.push ⟨.obj l,false,false⟩):=by
 show GX P (Sem.getObj l _) w es=_;simp only[GX,hl];rfl
theorem ZO{r':Loop}(hl:w.heap[l]? =AA (.loop r))(f:Unit->Sem α)(es:Array Bc):(I5 l (.loop r')>>=f).runT P w es=(f ()).runT P {w with heap:=w.heap.setIfInBounds l (.loop r')} (es.push ⟨.obj l,true,false⟩):=by
 show GX P (Sem.setObj l _ _) w es=_;simp only[GX,hl];rfl
theorem ABT(hl:w.heap[l]? =AA (.loop r))(hs:r.state=.ready):Ae P mn (G (fr fn T (.beginRound::k) D (AA l)) cs) w=
  .go (G (fr fn T k D (AA l)) cs) {w with heap:=w.heap.setIfInBounds l (.loop {r with state:=.busy})} (seen P fn #[⟨.obj l,false,false⟩,⟨.obj l,true,false⟩]):=by
 have h2:(do YW l;pure .skip:Sem Next).runT P w #[]=(.ok .skip {w with heap:=w.heap.setIfInBounds l (.loop {r with state:=.busy})},#[⟨.obj l,false,false⟩,⟨.obj l,true,false⟩]):=by
  have e:(do YW l;pure .skip:Sem Next)=(Zx l>>=λr=>I5 l (.loop {r with state:=.busy})>>=λ_=>(match r.state with
   | .ready=>pure ()| .done=>Ql (.error "range function continued iteration after function for loop body returned false")| .busy=>Ql (.error "range function continued iteration after loop body panic")
   | .exhausted=>Ql (.error "range function continued iteration after whole loop exit"):Sem Unit)>>=λ_=>pure .skip):=by
   unfold YW;simp only[bind_assoc];refine congrArg (Zx l>>= ·) (funext λr=>congrArg (I5 l _>>= ·) (funext λ_=>?_));cases r.state<;>rfl
  rw[e,VL hl,ZO hl,hs];rfl
 show Ht P true (fr fn T (.beginRound::k) D (AA l)) cs AB (do YW l;pure .skip) w=_;simp only[Ht,if_true,h2];rfl
theorem kT{j:Option Code}{k:List Item}(hk:(k=[]/\j=AB)\/(∃k',k=.code .ret::k'/\j=AA .ret)){c:AX}(hl:w.heap[l]? =AA (.loop r)):Ae P mn (G (fr fn T k D (AA l)) (c::cs)) w=
  .go (G (c.finish (.bool j.isNone)) cs) {w with heap:=w.heap.setIfInBounds l (.loop {r with state:=if j.isNone then .ready else .done,pending:=j})} (seen P fn #[⟨.obj l,false,false⟩,⟨.obj l,true,false⟩]):=by
 have h2:(Tu l j).runT P w #[]=(.ok (.bool j.isNone) {w with heap:=w.heap.setIfInBounds l (.loop {r with state:=if j.isNone then .ready else .done,pending:=j})},#[⟨.obj l,false,false⟩,⟨.obj l,true,false⟩]):=by
  have e:Tu l j=(Zx l>>=λr=>I5 l (.loop {r with state:=if j.isNone then .ready else .done,pending:=j})>>=λ_=>pure (.bool j.isNone)):=rfl;rw[e,VL hl,ZO hl];rfl
 rcases hk with ⟨rfl,rfl⟩|⟨k',rfl,rfl⟩
 ·show JA P mn true (fr fn T [] D (AA l)) (c::cs) AB w=_;unfold JA;simp only[show (fr fn T [] D (AA l)).todo=[] from rfl,show (fr fn T [] D (AA l)).roundOf=AA l from rfl,h2];simp only[doReturn,DW,fr,G];simp
 show JA P mn true (fr fn T (.code .ret::k') D (AA l)) (c::cs) AB w=_;unfold JA;simp only[show (fr fn T (.code .ret::k') D (AA l)).todo=.code .ret::k' from rfl,show (fr fn T (.code .ret::k') D (AA l)).roundOf=AA l from rfl,h2];simp only[doReturn,DW,fr,G];simp
end
end
section
variable {f:Bi}{g g':Ac}{l:List BR}
structure RF (SR:Nat->Prop) where
 R:AL->Prop
 st: ∀w w1:AL,R w->(∀b,SR b->w1.heap[b]? =w.heap[b]?)->w.heap.size<=w1.heap.size->R w1
 lt: ∀w,R w->∀b,SR b->b<w.heap.size
def ow {SR:Nat->Prop} (R:RF SR) (Gb:Nat->Prop) (L:List (Nat×Obj)):Own SR where
 O:=λb=>Gb b\/b∈L.map Prod.fst
 I:=λw=>(∀p∈L,w.heap[p.1]? =AA p.2)/\R.R w
 st:=λw w1 h k hz _ _=>⟨λp hp=>by rw[k p.1 (.inl (.inr (Nz hp)))];exact h.1 p hp,R.st w w1 h.2 (λb hb=>k b (.inr hb)) hz⟩
def af {SR:Nat->Prop} (o:Own SR) (e:Bc):Prop:=
 match e.loc with| .cell a=>(o.O a.block\/SR a.block)/\e.write=false| .mark m=>kQ m| .obj c=>o.O c/\e.write=false|_=>False
structure tH (P:BL) (mn:Bool) {SR:Nat->Prop} (J:Ac->Own SR->Prop):Prop where
 QG: ∀{a:Ac} {o:Own SR} (nx:AL->Ac) (no:AL->Own SR),a.status=.running->(∀w,o.I w->∃w' es,Ae P mn a w=.go (nx w) w' es/\NS o (no w) w w' es)->(∀w,o.I w->J (nx w) (no w))->J a o
section
variable {P:BL} {mn:Bool} {SR:Nat->Prop} {J:Ac->Own SR->Prop} (hJ:tH P mn J) {R:RF SR} {Gb:Nat->Prop} {L:List (Nat×Obj)}
 {fn:Bi} {T:Array AP} {k:List Item} {D:List EK} {ro:Option Nat} {cs:List AX} {kd:Bool} {ops:Array BR} {i:Nat} {rest:List Nat} {op:BR} {o:Own SR}
include hJ
theorem CZ(h: ∀w,Ae P mn g w=.go g' w #[])(hr:g.status=.running)(next:J g' o):J g o:=by
 exact hJ.QG (λ_=>g') (λ_=>o) hr (λw hw=>⟨w,#[],h w,⟨hw,Ba _,λb=>⟨.inl,λx=>x.elim id λy=>by omega⟩,λ_ _ _=>rfl,⟨rfl,rfl,rfl⟩,AV⟩⟩) λ_ _=>next
theorem yf(h: ∀w,o.I w->∃es,Ae P mn g w=.go g' w es/\∀e∈es,af o e)(hr:g.status=.running)(next:J g' o):J g o:=by
 refine hJ.QG (λ_=>g') (λ_=>o) hr (λw hw=>?_) λ_ _=>next;obtain⟨es,h1,h2⟩:=h w hw;refine⟨w,es,h1,⟨hw,Ba _,λb=>⟨.inl,λx=>x.elim id λy=>by omega⟩,λ_ _ _=>rfl,⟨rfl,rfl,rfl⟩,λe he=>?_⟩⟩;have:=h2 e he;unfold af at this
 cases hl:e.loc with|cell a=>rw[hl] at this;exact this.1.imp id λx=>⟨x,this.2⟩|mark m=>rw[hl] at this;exact this|obj c=>rw[hl] at this;exact⟨this.1,λx=>by rw[this.2] at x;cases x.1⟩|_=>rw[hl] at this;exact this.elim
theorem ALf(v:AP)(ho:ops[i]? =AA op)(hw:DV op (yielded ops T)=true)(hd:ro=AB\/∀c,op.op≠ .defer c)(hr: ∀w,o.I w->(BG (ev T) op).run P w=.ok (.value v) w)
  (he: ∀w,o.I w->∀e∈(BG (ev T) op).events P w #[],af o e) (next:J (G (fr fn (put T op.dst v) (.inRegion ops rest::k) D ro kd) cs) o):
  J (G (fr fn T (.inRegion ops (i::rest)::k) D ro kd) cs) o:=
 yf hJ (λw hw'=>⟨_,XM ho hw hd (hr w hw'),λe h=>he w hw' e (Du h)⟩) rfl next
theorem RX{args:Array AP}(ho:ops[i]? =AA op)(hw:DV op (yielded ops T)=true)(hd:ro=AB\/∀c,op.op≠ .defer c)(hr: ∀w,o.I w->(BG (ev T) op).run P w=.ok (.enter f args) w)
  (he: ∀w,o.I w->∀e∈(BG (ev T) op).events P w #[],af o e) (next:J (G (BV P f args .normal) (fr fn T (.inRegion ops (i::rest)::k) D ro kd::cs)) o):
  J (G (fr fn T (.inRegion ops (i::rest)::k) D ro kd) cs) o:=
 yf hJ (λw hw'=>⟨_,s_call ho hw hd (hr w hw'),λe h=>he w hw' e (Du h)⟩) rfl next
theorem uj{l:Nat}{tm:Array AP}{a b:Code}(ho:ops[i]? =AA op)(hw:DV op (yielded ops T)=true)(hd:ro=AB\/∀c,op.op≠ .defer c)(hr: ∀w,o.I w->(BG (ev T) op).run P w=.ok (.round l f tm a b) w)
  (he: ∀w,o.I w->∀e∈(BG (ev T) op).events P w #[],af o e) (next:J (G (fr f tm [.code a,.beginRound,.code b] [] (AA l)) (fr fn T (.inRegion ops (i::rest)::k) D ro kd::cs)) o):
  J (G (fr fn T (.inRegion ops (i::rest)::k) D ro kd) cs) o:=
 yf hJ (λw hw'=>⟨_,AII ho hw hd (hr w hw'),λe h=>he w hw' e (Du h)⟩) rfl next
theorem uk{d:EK}(ho:ops[i]? =AA op)(hw:DV op (yielded ops T)=true)(hr: ∀w,o.I w->(BG (ev T) op).run P w=.ok (.defer d) w)
  (he: ∀w,o.I w->∀e∈(BG (ev T) op).events P w #[],af o e) (next:J (G (fr fn (put T op.dst AU) (.inRegion ops rest::k) (d::D) AB kd) cs) o):
  J (G (fr fn T (.inRegion ops (i::rest)::k) D AB kd) cs) o:=
 yf hJ (λw hw'=>⟨_,AIJ ho hw (hr w hw'),λe h=>he w hw' e (Du h)⟩) rfl next
theorem APS(v:AP)(ho:l[i]? =AA op)(hw:DV op (yielded l.toArray T)=true)(hd:ro=AB\/∀c,op.op≠ .defer c)(hr: ∀w,o.I w->(BG (ev T) op).run P w=.ok (.value v) w)
  (he: ∀w,o.I w->∀e∈(BG (ev T) op).events P w #[],af o e) (next:J (G (fr fn (put T op.dst v) (.inRegion l.toArray rest::k) D ro kd) cs) o):
  J (G (fr fn T (.inRegion l.toArray (i::rest)::k) D ro kd) cs) o:=ALf hJ v (by simpa using ho) hw hd hr he next
theorem EC{v:Value}{T':Array Value}(next:J (G (fr fn T' (.inRegion l.toArray rest::k) D ro kd) cs) o)(ho:l[i]? =some op:=by exact rfl)(hw:Region.wanted op (yielded l.toArray T)=true:=by rfl)(hd:ro=none\/∀c,op.op≠ .defer c:=by first|exact .inl rfl|exact .inr (λc h=>by cases h))
  (hr: ∀w,o.I w->(execOp (ev T) op).run P w=.ok (.value v) w:=by intro w hw;unfold ev;go_simp;try exact rfl) (he: ∀w,o.I w->∀e∈(execOp (ev T) op).events P w #[],af o e:=by intro w hw;unfold ev;simp[go_sem]) (hT:Nf (put T op.dst v) T':=by simp only[put];(try walk_nrm);exact rfl):
  J (G (fr fn T (.inRegion l.toArray (i::rest)::k) D ro kd) cs) o:=APS hJ v ho hw hd hr he (by have e:put T op.dst v=T':=hT;rw[e];exact next)
theorem ABU(je:Nat->List Obj)(_: ∀n m,(je n).length=(je m).length)(g':Nat->Ac)(h: ∀w,(ow R Gb L).I w->Ae P mn g w=.go (g' w.heap.size) {w with heap:=w.heap++(je w.heap.size).toArray} #[])(hr:g.status=.running)
  (next: ∀n,(∃w,(ow R Gb L).I w/\w.heap.size=n)->J (g' n) (ow R Gb ((FZ (je n).length).map (λj=>(n+j,(je n)[j]?.getD default))++L))):J g (ow R Gb L):=by
 refine hJ.QG (λw=>g' w.heap.size) (λw=>ow R Gb ((FZ (je w.heap.size).length).map (λj=>(w.heap.size+j,(je w.heap.size)[j]?.getD default))++L)) hr (λw hw=>⟨_,_,h w hw,?_⟩) λw hw=>next _ ⟨w,hw,rfl⟩;have hold: ∀b,b<w.heap.size->(w.heap++(je w.heap.size).toArray)[b]? =w.heap[b]? :=λb hb=>lU hb;refine⟨⟨λp hp=>?_,?_⟩,AV,λb=>?_,λb hb _=>hold b hb,⟨rfl,rfl,rfl⟩,AV⟩
 ·rcases Be.1 hp with hp|hp
  ·obtain⟨j,hj,rfl⟩:=Bz.1 hp;have hj:=WZ.1 hj;show (w.heap++(je w.heap.size).toArray)[w.heap.size+j]? =_;rw[Y7 Ad,show w.heap.size+j - w.heap.size=j by omega,QW,CQ hj];rfl
  have h1:=hw.1 p hp;show (w.heap++(je w.heap.size).toArray)[p.1]? =_;rw[hold _ (Df.1 h1).1];exact h1
 exact R.st w _ hw.2 (λb hb=>hold b (R.lt w hw.2 b hb)) AV;simp only[ow,Em,Eg,Be,Bz,WZ,Function.comp];constructor
 ·rintro (x|⟨j,hj,rfl⟩|x);exact .inl (.inl x)
  ·refine .inr ⟨Ad,?_⟩;show w.heap.size+j<(w.heap++(je w.heap.size).toArray).size;simp;exact hj
  exact .inl (.inr x)
 rintro ((x|x)|⟨x1,x2⟩);exact .inl x;exact .inr (.inr x);refine .inr (.inl ⟨b - w.heap.size,?_,Ad⟩);have x2:b<(w.heap++(je w.heap.size).toArray).size:=x2;simp at x2;omega
end
section
variable {C:Cx} {P:BL} (hP:C.P=P) {s:Bool} {kk:Nat} {R:RF C.SR} {Gb:Nat->Prop} {L:List (Nat×Obj)}
 {fn:Bi} {T:Array AP} {k:List Item} {D:List EK} {ro:Option Nat} {cs:List AX} {kd:Bool} {ops:Array BR} {i:Nat} {rest:List Nat} {op:BR} {o:Own C.SR}
include hP
theorem Ce:tH P false (PW C (.work s) kk):=⟨λnx no hr h hn=>by subst hP;exact .QG nx no hr h hn⟩
theorem Ot{Fin:Nat->Ac->Own C.SR->Prop}:tH P true (PM C Fin .work kk):=⟨λnx no hr h hn=>by subst hP;exact .QG nx no hr h hn⟩
theorem ALg{xv z1 z2:AP}{bk:Nat}{ob:Obj}{o':Own C.SR}(ho:ops[i]? =AA op)(hw:DV op (yielded ops T)=true)(hd:ro=AB\/∀c,op.op≠ .defer c)
  (hr: ∀w,o.I w->(BG (ev T) op).run P w=.ok (.comm (EL C.bc C.bs xv z1 z2) true .select) w) (he: ∀w,o.I w->(BG (ev T) op).events P w #[]= #[])
  (hcs:C.Cs kk xv bk ob) (hO:o.O bk) (hob: ∀w,o.I w->w.heap[bk]? =AA ob) (hO': ∀x,o'.O x->o.O x/\x≠bk) (hI': ∀w,o.I w->o'.I w)
  (n0:PW C (.work false) (kk+1) (G (fr fn (put T op.dst (.tuple #[.int .i64 0,.bool false,z2])) (.inRegion ops rest::k) D ro kd) cs) o')
  (n1:PW C (.work true) kk (G (fr fn (put T op.dst (.tuple #[.int .i64 1,.bool false,z2])) (.inRegion ops rest::k) D ro kd) cs) o):
  PW C (.work false) kk (G (fr fn T (.inRegion ops (i::rest)::k) D ro kd) cs) o:=by
 subst hP
 have e: ∀q v,((G (fr fn T (.inRegion ops (i::rest)::k) D ro kd) cs).finishComm C.P (EL C.bc C.bs xv z1 z2) .select q v false)=G (fr fn (put T op.dst (commResult (EL C.bc C.bs xv z1 z2) .select q v false)) (.inRegion ops rest::k) D ro kd) cs:=λq v=>by
  unfold Goroutine.finishComm;rw[show (G (fr fn T (.inRegion ops (i::rest)::k) D ro kd) cs).frame=fr fn T (.inRegion ops (i::rest)::k) D ro kd from rfl,EH ho];rfl
 (have r0:commResult (EL C.bc C.bs xv z1 z2) .select 0 AU false=.tuple #[.int .i64 0,.bool false,z2]:=by simp[commResult,EL,scase,rcase,goInt,Array.zipIdx]);(have r1:commResult (EL C.bc C.bs xv z1 z2) .select 1 z2 false=.tuple #[.int .i64 1,.bool false,z2]:=by simp[commResult,EL,scase,rcase,goInt,Array.zipIdx]);refine .sel (z1:=z1) (z2:=z2) rfl rfl hcs hO hob (λw hw'=>?_) hO' hI' ?_ ?_
 ·rw[AFU ho hw hd (hr w hw'),he w hw'];rfl
 rw[e,r0];exact n0;rw[e,r1];exact n1
end
theorem Fa{p q:Prop}(n:p)(h:p->q:=by intro n;first|((with_reducible refine CZ (Ce hP) (λw=>J5) ?_ n)<;>rfl)|((with_reducible refine CZ (Ce hP) (λw=>s_reg) ?_ n)<;>rfl)|((with_reducible refine CZ (Ce hP) (λw=>F8) ?_ n)<;>rfl)|((with_reducible refine CZ (Ce hP) (λw=>QH) ?_ n)<;>rfl)|((with_reducible refine CZ (Ce hP) (λw=>LC) ?_ n)<;>rfl)|((with_reducible refine CZ (Ce hP) (λw=>Np) ?_ n)<;>rfl)|((with_reducible refine CZ (Ce hP) (λw=>Q5) ?_ n)<;>rfl)|((with_reducible refine CZ (Ce hP) (λw=>QI ?_) ?_ n)<;>rfl)|((with_reducible refine CZ (Ce hP) (λw=>QJ ?_) ?_ n)<;>rfl)|exact EC (Ce hP) n|exact CZ (Ce hP) (λw=>J5) rfl n|exact CZ (Ce hP) (λw=>s_reg) rfl n|exact CZ (Ce hP) (λw=>F8) rfl n|exact CZ (Ce hP) (λw=>QH) rfl n|exact CZ (Ce hP) (λw=>LC) rfl n|exact CZ (Ce hP) (λw=>Np) rfl n|exact CZ (Ce hP) (λw=>Q5) rfl n|exact CZ (Ce hP) (λw=>QI rfl) rfl n|exact CZ (Ce hP) (λw=>QJ rfl) rfl n):q:=h n
end
end Go.Proofs.YtkkgcebhfghdnaaGreatDoor
