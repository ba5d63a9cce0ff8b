/- Part 9 of what that rests on; no condition. -/
import Derived.Test.YtkkgcebhfghdnaaGreatDoorKh
import Derived.Conc.CompanyWords
import Derived.Conc.WalkWords
set_option maxRecDepth 100000
set_option maxHeartbeats 8000000
namespace Go.Proofs.YtkkgcebhfghdnaaGreatDoor
open Go Go.Conc Go.RowKit Go.Conc.Lib Go.ConcX Go.ConcX.Gen
def RL (C:Cx) (_ w:World):Prop:=Live C w
theorem UJ{C:Cx}{P:Program}(hP:C.P=P){s:WS}{k:Nat}{o:Own C.SR}(hs:s.free=true):
  ∀{n:Nat} {g:Goroutine} {w:World},Live C w->Goes P false (RL C) DC0 (λg _=>g.status=.running/\PW C s k g o) n g w->g.status=.running/\PW C s k g o:=by
 intro n
 induction n with
 |zero=>intro g w hl h;exact h w hl
 |succ n ih=>
  intro g w hl h;rcases h with h|⟨hr,h⟩;exact h w hl;refine⟨hr,?_⟩
  have key: ∀w₁:World,∃g',Live C w₁->g'.status=.running/\stepG P false g w₁=.go g' w₁ #[]/\PW C s k g' o:=λw₁=>by
   by_cases Yi:Live C w₁
   ·have h1:=h w₁ Yi
    cases hst:stepG P false g w₁ with
    |go g' w' es=>
     rw[hst,goes_go] at h1;obtain⟨⟨rfl,rfl⟩,h2⟩:=h1;have:=ih Yi h2;exact⟨g',λ_=>⟨this.1,rfl,this.2⟩⟩
    |_=>rw[hst] at h1;exact h1.elim
   exact⟨g,λx=>absurd x Yi⟩
  obtain⟨nx,hnx⟩:=I5 key;exact .free nx hs hr (λw hw=>⟨(hnx w hw).1,by rw[hP];exact (hnx w hw).2.1⟩) λw hw=>(hnx w hw).2.2
section
variable {C:Cx} {P:Program} (hP:C.P=P) {k n:Nat} {b b' b1 b2:Goroutine} {o:Own C.SR}
include hP
theorem AMl(h1: ∀w,Live C w->stepG P false b w=.go b' w #[mkS (.releaseMerge (FU C.wg))])(hr:b.status=.running)(hr':b'.status=.running)(h:PW C .fin1 k b' o):PW C .fin0 k b o:=by subst hP;exact .r0 hr hr' h1 h
theorem AMm(h1: ∀w,Live C w->stepG P false b w=.go b' w #[mkS .disable])(hr:b.status=.running)(hr':b'.status=.running)(h:PW C .fin2 k b' o):PW C .fin1 k b o:=by subst hP;exact .k1 hr hr' h1 h
theorem AMn(h1: ∀w,WA C w KQ 0->stepG P false b w=.go b1 (w.setCell (FU C.wg) (.int .u64 0)) #[Iq C,UE C])(h2: ∀w,WA C w (KQ+1) 0->stepG P false b w=.go b2 (w.setCell (FU C.wg) (.int .u64 1)) #[Iq C,UE C])
  (hr:b.status=.running) (hr2:b2.status=.running) (hfw:C.FW o) (hq:QuitsD P n 1 b1) (h:PW C .NP k b2 o):PW C .fin2 k b o:=by subst hP;exact .d1 hr hr2 h1 hq hfw h2 h
theorem AMo(h1: ∀w,WA C w 1 0->stepG P false b w=.go b' w #[Iq C])(hr:b.status=.running)(hr':b'.status=.running)(h:PW C .NP k b' o):PW C .NP k b o:=by subst hP;exact .d2 hr hr' h1 h
theorem AMp(h1: ∀w,WA C w 1 0->stepG P false b w=.go b' (w.setCell (FU C.wg) (.int .u64 0)) #[UE C])(hr:b.status=.running)(hr':b'.status=.running)(h:PW C .UF k b' o):PW C .NP k b o:=by subst hP;exact .d3 hr hr' h1 h
theorem AMq(h1: ∀w,WA C w 0 0->stepG P false b w=.go b' (w.setCell (Nc C.wg) (.int .u32 1)) (semEvents (Nc C.wg)))(hr:b.status=.running)(hmw:mayWake P b=true)(hfw:C.FW o)(hq:QuitsD P n 1 b'):PW C .UF k b o:=by subst hP;exact .d4 hr hmw h1 hq hfw
end
theorem AO{C:Cx}{w w₁:World}(_:Live C w)(h:RL C w w₁):Live C w₁:=h
theorem Live.cell{C:Cx}{w:World}(h:Live C w): ∃v,w.cell? ⟨C.wg,0,none⟩=some v:=by
 obtain⟨st,sm,h⟩:=h;exact⟨_,WgAt.cellSt (Wg:=C.wg) (ty:=C.ty) h⟩
theorem AE1{P:Program}{L:WgLink}(H:WgLib P L){C:Cx}(hP:C.P=P){k:Nat}{o:Own C.SR}(hfw:C.FW o){c:Frame}{cs:List Frame}{qt:Nat}{w:World}(hK:Live C w)
  (hcm:c.mode=.returning) (hT:QuitsD P qt 0 (G c cs)):
  PW C .fin0 k (G ((baseD L.done).at ⟨#[.pointer (some ⟨C.wg,0,none⟩),undef,undef,undef],[]⟩ [.code (body_done L)]) (c::cs)) o:=by
 have hl0:=hK
 lib_facts
 simp only[body_done,body_add,doneFn,Option.getD_some];refine (UJ hP rfl (n:=150) hl0 ?_).2;u_reg AO hK;u_op AO hK
 u_call H.f_add (nm_add L) addFn AO hK
 u_c stepG_seq AO hK
 u_cond true AO hK
 u_c stepG_seq AO hK;u_c stepG_seq AO hK;u_reg AO hK;u_op AO hK;u_op AO hK;u_c stepG_region_end AO hK
 u_cond true AO hK
 u_reg AO hK;u_op AO hK
 u_conv H.underlying_tWgP H.room_tWg hK.cell.choose_spec AO hK
 refine Goes.stop (λ_ _=>⟨rfl,AMl hP (λ_ _=>stepG_markAt .releaseMerge AY rfl rfl (by k_ne) rfl H.f_relMerge (x_relMerge_n L) (x_relMerge_b L) (x_relMerge_x L) (x_relMerge_f L) (by simp[Act.eval,FU])) rfl rfl ?_⟩);walk_nrm;refine (UJ hP rfl (n:=150) hl0 ?_).2
 replace hK:=hl0
 u_c stepG_region_end AO hK;u_c stepG_seq AO hK;u_reg AO hK;refine Goes.stop (λ_ _=>⟨rfl,AMm hP (λ_ _=>stepG_mark0 .disable AY rfl rfl (by k_ne) rfl H.f_disable (x_disable_n L) (x_disable_b L) (x_disable_x L) (x_disable_f L)) rfl rfl ?_⟩);walk_nrm;refine (UJ hP rfl (n:=150) hl0 ?_).2
 replace hK:=hl0
 u_c stepG_region_end AO hK;u_reg AO hK
 u_defer AO hK
 u_c stepG_region_end AO hK;u_c stepG_seq AO hK;u_reg AO hK;u_op AO hK;u_c stepG_region_end AO hK;u_c stepG_seq AO hK;u_c stepG_seq AO hK;u_reg AO hK
 u_bub AO hK
 u_c stepG_region_end AO hK
 u_cond false AO hK
 u_c stepG_skip AO hK;u_c stepG_seq AO hK;u_reg AO hK;u_op AO hK;u_op AO hK;u_op AO hK;u_op AO hK;u_op AO hK;u_op AO hK
 u_call H.f_uAdd (nm_uAdd L) uAddFn AO hK
 u_c stepG_seq AO hK;u_reg AO hK;u_op AO hK;u_c stepG_region_end AO hK;u_c stepG_seq AO hK;u_reg AO hK;u_op AO hK;u_op AO hK;u_op AO hK;u_op AO hK;(have e0:IntKind.u64.wrap (KQ+18446744069414584320)=0:=by decide);have e1:IntKind.u64.wrap (KQ+1+18446744069414584320)=1:=by decide
 refine Goes.stop (λ_ _=>⟨rfl,AMn (n:=qt+92) hP
  (λw hw=>(stepG_add_atomic rfl rfl (by k_ne) rfl H.f_addU64 (x_addU64_n L) (x_addU64_b L) (x_addU64_x L) .u64 (x_addU64_f L) rfl rfl (WgAt.cellSt (ty:=C.ty) hw) (WgAt.thaw (ty:=C.ty) hw 0)).trans (by rw[e0];rfl))
  (λw hw=>(stepG_add_atomic rfl rfl (by k_ne) rfl H.f_addU64 (x_addU64_n L) (x_addU64_b L) (x_addU64_x L) .u64 (x_addU64_f L) rfl rfl (WgAt.cellSt (ty:=C.ty) hw) (WgAt.thaw (ty:=C.ty) hw 0)).trans (by rw[e1];rfl)) rfl rfl hfw ?_ ?_⟩)
 ·
  clear hK hl0;walk_nrm
  q_val (.int .u64 0)
  q_c stepG_region_end
  q_c stepG_ret'
  q_leave1 H.f_uAdd
  q_val (.int .u64 0)
  q_c stepG_region_end
  q_c stepG_seq
  q_c stepG_seq
  q_reg
  q_val (.int .u64 0)
  q_val (.int .u64 0)
  q_val (.bool false)
  q_val (.bool false)
  q_skip
  q_skip
  q_val (.bool false)
  q_c stepG_region_end
  q_cond false
  q_c stepG_skip
  q_c stepG_seq
  q_reg
  q_val (.int .u64 0)
  q_val (.int .u64 0)
  q_val (.int .i32 0)
  q_val (.int .i32 0)
  q_c stepG_region_end
  q_c stepG_seq
  q_reg
  q_val (.int .u64 0)
  q_val (.int .u64 0)
  q_val (.int .u32 0)
  q_val (.int .u32 0)
  q_c stepG_region_end
  q_c stepG_seq
  q_c stepG_seq
  q_reg
  q_val (.bool true)
  q_val (.int .i64 (-1))
  q_val (.bool false)
  q_val (.bool false)
  q_val (.bool false)
  q_skip
  q_skip
  q_skip
  q_skip
  q_val (.bool false)
  q_c stepG_region_end
  q_cond false
  q_c stepG_skip
  q_c stepG_seq
  q_c stepG_seq
  q_reg
  q_val (.int .i32 0)
  q_val (.bool false)
  q_c stepG_region_end
  q_cond false
  q_c stepG_skip
  q_c stepG_seq
  q_c stepG_seq
  q_reg
  q_val (.int .u32 0)
  q_val (.bool false)
  q_val (.bool false)
  q_skip
  q_skip
  q_val (.bool false)
  q_val (.bool false)
  q_skip
  q_skip
  q_skip
  q_skip
  q_val (.bool false)
  q_c stepG_region_end
  q_cond false
  q_c stepG_skip
  q_c stepG_seq
  q_c stepG_seq
  q_reg
  q_val (.int .i32 0)
  q_val (.bool false)
  q_val (.bool false)
  q_val (.int .u32 0)
  q_val (.bool true)
  q_val (.bool true)
  q_c stepG_region_end
  q_cond true
  q_c stepG_ret'
  q_enable
  q_leave0 H.f_add
  q_c stepG_region_end
  q_c stepG_end
  exact QuitsD.leaveD rfl rfl H.f_done rfl hcm hT
 walk_nrm;refine (UJ hP rfl (n:=150) hl0 ?_).2
 replace hK:=hl0
 u_op AO hK;u_c stepG_region_end AO hK;u_c stepG_ret' AO hK
 u_leave1 H.f_uAdd AO hK
 u_op AO hK;u_c stepG_region_end AO hK;u_c stepG_seq AO hK;u_c stepG_seq AO hK;u_reg AO hK;u_op AO hK;u_op AO hK;u_op AO hK;u_op AO hK
 u_skip AO hK
 u_skip AO hK
 u_op AO hK;u_c stepG_region_end AO hK
 u_cond false AO hK
 u_c stepG_skip AO hK;u_c stepG_seq AO hK;u_reg AO hK;u_op AO hK;u_op AO hK;u_op AO hK;u_op AO hK;u_c stepG_region_end AO hK;u_c stepG_seq AO hK;u_reg AO hK;u_op AO hK;u_op AO hK;u_op AO hK;u_op AO hK;u_c stepG_region_end AO hK;u_c stepG_seq AO hK;u_c stepG_seq AO hK;u_reg AO hK;u_op AO hK;u_op AO hK;u_op AO hK;u_op AO hK;u_op AO hK
 u_skip AO hK
 u_skip AO hK
 u_skip AO hK
 u_skip AO hK
 u_op AO hK;u_c stepG_region_end AO hK
 u_cond false AO hK
 u_c stepG_skip AO hK;u_c stepG_seq AO hK;u_c stepG_seq AO hK;u_reg AO hK;u_op AO hK;u_op AO hK;u_c stepG_region_end AO hK
 u_cond false AO hK
 u_c stepG_skip AO hK;u_c stepG_seq AO hK;u_c stepG_seq AO hK;u_reg AO hK;u_op AO hK;u_op AO hK;u_op AO hK;u_op AO hK;u_op AO hK;u_op AO hK;u_op AO hK
 u_skip AO hK
 u_skip AO hK
 u_skip AO hK
 u_skip AO hK
 u_op AO hK;u_c stepG_region_end AO hK
 u_cond false AO hK
 u_c stepG_skip AO hK;u_c stepG_seq AO hK;u_c stepG_seq AO hK;u_reg AO hK;u_op AO hK;u_op AO hK;u_op AO hK;u_op AO hK;u_op AO hK;u_op AO hK;u_c stepG_region_end AO hK
 u_cond false AO hK
 u_c stepG_skip AO hK;u_c stepG_seq AO hK;u_c stepG_seq AO hK;u_reg AO hK;u_op AO hK;u_op AO hK;u_op AO hK
 u_call H.f_uLoad (nm_uLoad L) uLoadFn AO hK
 u_c stepG_seq AO hK;u_reg AO hK;u_op AO hK;u_c stepG_region_end AO hK;u_c stepG_seq AO hK;u_reg AO hK;u_op AO hK;u_op AO hK;u_op AO hK;refine Goes.stop (λ_ _=>⟨rfl,AMo hP (λw hw=>stepG_load_atomic rfl rfl (by k_ne) rfl H.f_loadU64 (x_loadU64_n L) (x_loadU64_b L) (x_loadU64_x L) .u64 (x_loadU64_f L) rfl (WgAt.cellSt (ty:=C.ty) hw)) rfl rfl ?_⟩);walk_nrm;refine (UJ hP rfl (n:=150) hl0 ?_).2
 replace hK:=hl0
 u_op AO hK;u_c stepG_region_end AO hK;u_c stepG_ret' AO hK
 u_leave1 H.f_uLoad AO hK
 u_op AO hK;u_op AO hK;u_c stepG_region_end AO hK
 u_cond false AO hK
 u_c stepG_skip AO hK;u_c stepG_seq AO hK;u_reg AO hK;u_op AO hK;u_op AO hK;u_op AO hK
 u_call H.f_uStore (nm_uStore L) uStoreFn AO hK
 u_reg AO hK;u_op AO hK;u_op AO hK;u_op AO hK;u_op AO hK;refine Goes.stop (λ_ _=>⟨rfl,AMp hP (λw hw=>stepG_store_atomic rfl rfl (by k_ne) rfl H.f_storeU64 (x_storeU64_n L) (x_storeU64_b L) (x_storeU64_x L) (x_storeU64_f L) rfl rfl (WgAt.cellSt (ty:=C.ty) hw) (WgAt.thaw (ty:=C.ty) hw 0)) rfl rfl ?_⟩);walk_nrm;refine (UJ hP rfl (n:=150) hl0 ?_).2
 replace hK:=hl0
 u_c stepG_region_end AO hK;u_c stepG_end AO hK
 u_leave0 H.f_uStore AO hK
 u_c stepG_region_end AO hK;u_c stepG_seq AO hK;u_c stepG_seq AO hK;u_reg AO hK;u_op AO hK;u_c stepG_region_end AO hK
 u_cond false AO hK
 u_c stepG_skip AO hK;u_c stepG_block AO hK;u_c stepG_loop AO hK;u_c stepG_seq AO hK;u_c stepG_seq AO hK;u_reg AO hK;u_op AO hK;u_op AO hK;u_c stepG_region_end AO hK
 u_cond true AO hK
 u_c stepG_skip AO hK;u_c stepG_seq AO hK;u_c stepG_block AO hK;u_reg AO hK;u_op AO hK;u_op AO hK;u_op AO hK;refine Goes.stop (λ_ _=>⟨rfl,AMq (n:=qt+22) hP (λw hw=>(stepG_semrelease rfl rfl (by k_ne) rfl H.f_semrelease (x_semrelease_n L) (x_semrelease_b L) (x_semrelease_x L) (x_semrelease_f L) (by simp[Act.eval,smA]) (WgAt.cellSm (ty:=C.ty) hw) (WgAt.thaw (ty:=C.ty) hw 1)).trans (by rfl)) rfl (mayWake_entry rfl rfl H.f_semrelease (x_semrelease_b L)) hfw ?_⟩);clear hK hl0;walk_nrm
 q_c stepG_region_end
 q_c stepG_inBlock
 q_reg
 q_val (.int .u32 1)
 q_val (.int .u32 0)
 q_val (.int .u32 0)
 q_c stepG_region_end
 q_c stepG_inLoop
 q_c stepG_seq
 q_c stepG_seq
 q_reg
 q_val (.int .u32 0)
 q_val (.bool false)
 q_c stepG_region_end
 q_cond false
 q_exit
 q_c stepG_end
 q_enable
 q_leave0 H.f_add
 q_c stepG_region_end
 q_c stepG_end
 exact QuitsD.leaveD rfl rfl H.f_done rfl hcm hT
theorem I9{C:Cx}{Fin:Nat->Goroutine->Own C.SR->Prop}{P:Program}(hP:C.P=P){s:MS}{k:Nat}{o:Own C.SR}(hs:s.free=true):
  ∀{n:Nat} {g:Goroutine} {w:World},Live C w->Goes P true (RL C) DC0 (λg _=>g.status=.running/\PM C Fin s k g o) n g w->g.status=.running/\PM C Fin s k g o:=by
 intro n
 induction n with
 |zero=>intro g w hl h;exact h w hl
 |succ n ih=>
  intro g w hl h;rcases h with h|⟨hr,h⟩;exact h w hl;refine⟨hr,?_⟩
  have key: ∀w₁:World,∃g',Live C w₁->g'.status=.running/\stepG P true g w₁=.go g' w₁ #[]/\PM C Fin s k g' o:=λw₁=>by
   by_cases Yi:Live C w₁
   ·have h1:=h w₁ Yi
    cases hst:stepG P true g w₁ with
    |go g' w' es=>
     rw[hst,goes_go] at h1;obtain⟨⟨rfl,rfl⟩,h2⟩:=h1;have:=ih Yi h2;exact⟨g',λ_=>⟨this.1,rfl,this.2⟩⟩
    |_=>rw[hst] at h1;exact h1.elim
   exact⟨g,λx=>absurd x Yi⟩
  obtain⟨nx,hnx⟩:=I5 key;exact .free nx (λ_=>#[]) hs hr (λw hw=>⟨(hnx w hw).1,by rw[hP];exact (hnx w hw).2.1,λe he=>by simp at he⟩) λw hw=>(hnx w hw).2.2
section
variable {C:Cx} {Fin:Nat->Goroutine->Own C.SR->Prop} {P:Program} (hP:C.P=P) {k n:Nat} {a a' a1 a2:Goroutine} {o:Own C.SR}
include hP
theorem AGK{s:MS}(hs:s.free=true)(h1: ∀w,Live C w->stepG P true a w=.go a' w #[mkS (.write (Nc C.wg))])(hr:a.status=.running)(hr':a'.status=.running)(h:PM C Fin s k a' o):PM C Fin s k a o:=by
 subst hP;exact .free (λ_=>a') (λ_=>#[mkS (.write (Nc C.wg))]) hs hr (λw hw=>⟨hr',h1 w hw,λe he=>by simpa using he⟩) λ_ _=>h
theorem AMr(h1: ∀w,Live C w->stepG P true a w=.go a' w #[mkS .disable])(hr:a.status=.running)(hr':a'.status=.running)(h:PM C Fin .Um k a' o):PM C Fin .bD k a o:=by subst hP;exact .kd hr hr' h1 h
theorem AMs(h1: ∀w,WA C w KQ 0->stepG P true a w=.go a1 w #[Iq C])(h2: ∀w,WA C w 0 0->stepG P true a w=.go a2 w #[Iq C])(hr:a.status=.running)(hr1:a1.status=.running)(hr2:a2.status=.running)(p1:PM C Fin .Um k a1 o)(p2:PM C Fin .QC k a2 o):PM C Fin .Um k a o:=by subst hP;exact .w1 hr hr1 hr2 h1 p1 h2 p2
theorem AMt(h1: ∀w,WA C w KQ 0->stepG P true a w=.go a1 (w.setCell (FU C.wg) (.int .u64 (KQ+1))) #[Iq C,UE C])(h2: ∀w,WA C w 0 0->stepG P true a w=.go a2 w #[Iq C])(hr:a.status=.running)(hr1:a1.status=.running)(hr2:a2.status=.running)(p1:PM C Fin .ws2 k a1 o)(p2:PM C Fin .QC k a2 o):PM C Fin .Um k a o:=by subst hP;exact .w2 hr hr1 hr2 h1 p1 h2 p2
theorem AJQ(h2: ∀w,WA C w 0 0->stepG P true a w=.go a2 w #[Iq C])(hr:a.status=.running)(hr2:a2.status=.running)(p2:PM C Fin .QC k a2 o):PM C Fin .QC k a o:=by subst hP;exact .w1z hr hr2 h2 p2
theorem AMu(h0: ∀w st,WA C w st 0->stepG P true a w=.go {a with status:=.blocked} w #[])(h1: ∀w,WA C w 0 1->stepG P true a w=.go a' (w.setCell (Nc C.wg) (.int .u32 0)) (semEvents (Nc C.wg)))(hr:a.status=.running)(hr':a'.status=.running)(ho:a.offers=none)(p:PM C Fin .pX k a' o):PM C Fin .ws2 k a o:=by subst hP;exact .w3 hr hr' ho h0 h1 p
theorem AMv(h1: ∀w,WA C w 0 0->stepG P true a w=.go a' w #[Iq C])(hr:a.status=.running)(hr':a'.status=.running)(p:PM C Fin .QC k a' o):PM C Fin .pX k a o:=by subst hP;exact .w4 hr hr' h1 p
theorem ACE(h1: ∀w,Live C w->stepG P true a w=.go a' w #[mkS .enable])(hr:a.status=.running)(hr':a'.status=.running)(p:PM C Fin .pY k a' o):PM C Fin .QC k a o:=by subst hP;exact .ke hr hr' h1 p
theorem vN(h1: ∀w,Live C w->stepG P true a w=.go a' w #[mkS (.acquire (FU C.wg))])(hr:a.status=.running)(hr':a'.status=.running)(p:Fin k a' o):PM C Fin .pY k a o:=by subst hP;exact .acq hr hr' h1 p
end
theorem Live.cell1{C:Cx}{w:World}(h:Live C w): ∃v,w.cell? ⟨C.wg,1,none⟩=some v:=by
 obtain⟨st,sm,h⟩:=h;exact⟨_,WgAt.cellSm (Wg:=C.wg) (ty:=C.ty) h⟩
def Ze (P:Program) (g g':Goroutine):Prop:=∃n,∀w,Goes P true (λ_ _=>True) DC0 (λx _=>x=g') n g w
theorem ACF{P:Program}{L:WgLink}(H:WgLib P L){C:Cx}{Fin:Nat->Goroutine->Own C.SR->Prop}(hP:C.P=P){k:Nat}{o:Own C.SR}{w:World}(hK:Live C w)
  {b₀:Frame} {a₀:Act} {ops₀:Array Oper} {i₀:Nat} {rest₀:List Nat} {k₀:List Item} {cs:List Frame}
  (hfin: ∀g,Ze P g (G (b₀.at (a₀.put ((ops₀[i₀]?).bind (·.dst)) (.tuple #[])) (.inRegion ops₀ rest₀::k₀)) cs)->Fin k g o):
  PM C Fin .bD k (G ((base L.wait).at ⟨#[.pointer (some ⟨C.wg,0,none⟩)]++Array.replicate ((waitFn L).ntmps - 1) undef,[]⟩ [.code (body_wait L)]) (b₀.at a₀ (.inRegion ops₀ (i₀::rest₀)::k₀)::cs)) o:=by
 have hl0:=hK
 lib_facts
 simp only[body_wait,waitFn,Option.getD_some]
 walk_nrmf waitFn
 refine (I9 hP rfl (n:=150) hl0 ?_).2;u_c stepG_seq AO hK
 u_cond true AO hK
 u_reg AO hK;refine Goes.stop (λ_ _=>⟨rfl,AMr hP (λ_ _=>stepG_mark0 .disable AY rfl rfl (by k_ne) rfl H.f_disable (x_disable_n L) (x_disable_b L) (x_disable_x L) (x_disable_f L)) rfl rfl ?_⟩);walk_nrm;refine (I9 hP rfl (n:=150) hl0 ?_).2
 replace hK:=hl0
 u_c stepG_region_end AO hK;u_c stepG_block AO hK;u_c stepG_loop AO hK;u_c stepG_block AO hK;u_c stepG_seq AO hK;u_reg AO hK;u_op AO hK;u_op AO hK;u_op AO hK
 u_call H.f_uLoad (nm_uLoad L) uLoadFn AO hK
 u_c stepG_seq AO hK;u_reg AO hK;u_op AO hK;u_c stepG_region_end AO hK;u_c stepG_seq AO hK;u_reg AO hK;u_op AO hK;u_op AO hK;u_op AO hK;refine Goes.stop (λ_ _=>⟨rfl,AMs hP (λw hw=>stepG_load_atomic (v:=4294967296) rfl rfl (by k_ne) rfl H.f_loadU64 (x_loadU64_n L) (x_loadU64_b L) (x_loadU64_x L) .u64 (x_loadU64_f L) rfl (WgAt.cellSt (ty:=C.ty) hw)) (λw hw=>stepG_load_atomic (v:=0) rfl rfl (by k_ne) rfl H.f_loadU64 (x_loadU64_n L) (x_loadU64_b L) (x_loadU64_x L) .u64 (x_loadU64_f L) rfl (WgAt.cellSt (ty:=C.ty) hw)) rfl rfl rfl ?_ ?_⟩)
 ·
  walk_nrm;refine (I9 hP rfl (n:=150) hl0 ?_).2
  replace hK:=hl0
  u_op AO hK;u_c stepG_region_end AO hK;u_c stepG_ret' AO hK
  u_leave1 H.f_uLoad AO hK
  u_op AO hK;u_c stepG_region_end AO hK;u_c stepG_seq AO hK;u_reg AO hK;u_op AO hK;u_op AO hK;u_op AO hK;u_op AO hK;u_c stepG_region_end AO hK;u_c stepG_seq AO hK;u_reg AO hK;u_op AO hK;u_op AO hK;u_op AO hK;u_op AO hK;u_c stepG_region_end AO hK;u_c stepG_seq AO hK;u_c stepG_seq AO hK;u_reg AO hK;u_op AO hK;u_op AO hK;u_c stepG_region_end AO hK
  u_cond false AO hK
  u_c stepG_skip AO hK;u_c stepG_seq AO hK;u_reg AO hK;u_op AO hK;u_op AO hK;u_op AO hK;u_op AO hK;u_op AO hK;u_op AO hK
  u_call H.f_uCas (nm_uCas L) uCasFn AO hK
  u_c stepG_seq AO hK;u_reg AO hK;u_op AO hK;u_c stepG_region_end AO hK;u_c stepG_seq AO hK;u_reg AO hK;u_op AO hK;u_op AO hK;u_op AO hK;u_op AO hK;u_op AO hK;refine Goes.stop (λ_ _=>⟨rfl,AMt hP (λw hw=>(stepG_cas_hit (v:=4294967296) (n:=4294967297) rfl rfl (by k_ne) rfl H.f_casU64 (x_casU64_n L) (x_casU64_b L) (x_casU64_x L) .u64 (x_casU64_f L) rfl rfl rfl (WgAt.cellSt (ty:=C.ty) hw) (WgAt.thaw (ty:=C.ty) hw 0)).trans (by rfl)) (λw hw=>stepG_cas_miss (v:=0) (old:=4294967296) (n:=4294967297) rfl rfl (by k_ne) rfl H.f_casU64 (x_casU64_n L) (x_casU64_b L) (x_casU64_x L) .u64 (x_casU64_f L) rfl rfl rfl (WgAt.cellSt (ty:=C.ty) hw) (WgAt.thaw (ty:=C.ty) hw 0) (by k_ne)) rfl rfl rfl ?_ ?_⟩)
  ·
   walk_nrm;refine (I9 hP rfl (n:=150) hl0 ?_).2
   replace hK:=hl0
   u_op AO hK;u_c stepG_region_end AO hK;u_c stepG_ret' AO hK
   u_leave1 H.f_uCas AO hK
   u_c stepG_region_end AO hK
   u_cond true AO hK
   u_c stepG_seq AO hK;u_c stepG_seq AO hK;u_reg AO hK;u_op AO hK;u_op AO hK;u_op AO hK;u_op AO hK;u_c stepG_region_end AO hK
   u_cond true AO hK
   u_reg AO hK;u_op AO hK;u_op AO hK;u_op AO hK
   u_conv H.underlying_tPU32 H.room_tU32 hK.cell1.choose_spec AO hK
   refine Goes.stop (λ_ _=>⟨rfl,AGK hP rfl (λ_ _=>stepG_markAt .write AY rfl rfl (by k_ne) rfl H.f_raceWrite (x_raceWrite_n L) (x_raceWrite_b L) (x_raceWrite_x L) (x_raceWrite_f L) (ad:=⟨_,1,none⟩) (by simp[Act.eval]<;>rfl)) rfl rfl ?_⟩);walk_nrm;refine (I9 hP rfl (n:=150) hl0 ?_).2
   replace hK:=hl0
   u_c stepG_region_end AO hK;u_c stepG_seq AO hK;u_reg AO hK;u_op AO hK;u_c stepG_region_end AO hK;u_c stepG_seq AO hK;u_c stepG_seq AO hK;u_reg AO hK;u_op AO hK;u_op AO hK;u_op AO hK;u_op AO hK
   u_skip AO hK
   u_op AO hK;u_c stepG_region_end AO hK
   u_cond false AO hK
   u_c stepG_skip AO hK;u_c stepG_seq AO hK;u_reg AO hK;u_op AO hK;u_op AO hK;u_op AO hK;u_op AO hK;refine Goes.stop (λ_ _=>⟨rfl,AMu hP (λw st hw=>stepG_semacquire_wait rfl rfl rfl H.f_semacquire (x_semacquire_n L) (x_semacquire_b L) (x_semacquire_x L) (x_semacquire_f L) (by simp[Act.eval,smA]) (WgAt.cellSm (ty:=C.ty) hw)) (λw hw=>(stepG_semacquire (n:=1) rfl rfl (by k_ne) rfl H.f_semacquire (x_semacquire_n L) (x_semacquire_b L) (x_semacquire_x L) (x_semacquire_f L) (by simp[Act.eval,smA]) (WgAt.cellSm (ty:=C.ty) hw) (by k_ne) (WgAt.thaw (ty:=C.ty) hw 1)).trans (by rfl)) rfl rfl rfl ?_⟩);walk_nrm;refine (I9 hP rfl (n:=150) hl0 ?_).2
   replace hK:=hl0
   u_c stepG_region_end AO hK;u_c stepG_seq AO hK;u_reg AO hK;u_op AO hK;u_op AO hK;u_op AO hK
   u_call H.f_uLoad (nm_uLoad L) uLoadFn AO hK
   u_c stepG_seq AO hK;u_reg AO hK;u_op AO hK;u_c stepG_region_end AO hK;u_c stepG_seq AO hK;u_reg AO hK;u_op AO hK;u_op AO hK;u_op AO hK;refine Goes.stop (λ_ _=>⟨rfl,AMv hP (λw hw=>stepG_load_atomic (v:=0) rfl rfl (by k_ne) rfl H.f_loadU64 (x_loadU64_n L) (x_loadU64_b L) (x_loadU64_x L) .u64 (x_loadU64_f L) rfl (WgAt.cellSt (ty:=C.ty) hw)) rfl rfl ?_⟩);walk_nrm;refine (I9 hP rfl (n:=150) hl0 ?_).2
   replace hK:=hl0
   u_op AO hK;u_c stepG_region_end AO hK;u_c stepG_ret' AO hK
   u_leave1 H.f_uLoad AO hK
   u_op AO hK;u_op AO hK;u_c stepG_region_end AO hK;u_c stepG_seq AO hK
   u_cond true AO hK
   u_c stepG_seq AO hK;u_reg AO hK;refine Goes.stop (λ_ _=>⟨rfl,ACE hP (λ_ _=>stepG_mark0 .enable AY rfl rfl (by k_ne) rfl H.f_enable (x_enable_n L) (x_enable_b L) (x_enable_x L) (x_enable_f L)) rfl rfl ?_⟩);walk_nrm;refine (I9 hP rfl (n:=150) hl0 ?_).2
   replace hK:=hl0
   u_c stepG_region_end AO hK;u_reg AO hK;u_op AO hK
   u_conv H.underlying_tWgP H.room_tWg hK.cell.choose_spec AO hK
   refine Goes.stop (λ_ _=>⟨rfl,vN hP (λ_ _=>stepG_markAt .acquire AY rfl rfl (by k_ne) rfl H.f_acquire (x_acquire_n L) (x_acquire_b L) (x_acquire_x L) (x_acquire_f L) (by simp[Act.eval,FU])) rfl rfl (hfin _ ⟨60,λw=>?_⟩)⟩);walk_nrm;have hT:True:=trivial;u_c stepG_region_end (λ_ _=>trivial) hT;u_c stepG_seq (λ_ _=>trivial) hT;u_c stepG_seq (λ_ _=>trivial) hT;u_reg (λ_ _=>trivial) hT;u_op (λ_ _=>trivial) hT;u_c stepG_region_end (λ_ _=>trivial) hT
   u_cond false (λ_ _=>trivial) hT
   u_c stepG_skip (λ_ _=>trivial) hT;u_c stepG_ret' (λ_ _=>trivial) hT
   u_leave0 H.f_wait (λ_ _=>trivial) hT
   exact Goes.stop λ_ _=>rfl
  ·
   walk_nrm;refine (I9 hP rfl (n:=150) hl0 ?_).2
   replace hK:=hl0
   u_op AO hK;u_c stepG_region_end AO hK;u_c stepG_ret' AO hK
   u_leave1 H.f_uCas AO hK
   u_c stepG_region_end AO hK
   u_cond false AO hK
   u_c stepG_skip AO hK;u_c stepG_inBlock AO hK;u_c stepG_inLoop AO hK;u_c stepG_block AO hK;u_c stepG_seq AO hK;u_reg AO hK;u_op AO hK;u_op AO hK;u_op AO hK
   u_call H.f_uLoad (nm_uLoad L) uLoadFn AO hK
   u_c stepG_seq AO hK;u_reg AO hK;u_op AO hK;u_c stepG_region_end AO hK;u_c stepG_seq AO hK;u_reg AO hK;u_op AO hK;u_op AO hK;u_op AO hK;refine Goes.stop (λ_ _=>⟨rfl,AJQ hP (λw hw=>stepG_load_atomic (v:=0) rfl rfl (by k_ne) rfl H.f_loadU64 (x_loadU64_n L) (x_loadU64_b L) (x_loadU64_x L) .u64 (x_loadU64_f L) rfl (WgAt.cellSt (ty:=C.ty) hw)) rfl rfl ?_⟩);walk_nrm;refine (I9 hP rfl (n:=150) hl0 ?_).2
   replace hK:=hl0
   u_op AO hK;u_c stepG_region_end AO hK;u_c stepG_ret' AO hK
   u_leave1 H.f_uLoad AO hK
   u_op AO hK;u_c stepG_region_end AO hK;u_c stepG_seq AO hK;u_reg AO hK;u_op AO hK;u_op AO hK;u_op AO hK;u_op AO hK;u_c stepG_region_end AO hK;u_c stepG_seq AO hK;u_reg AO hK;u_op AO hK;u_op AO hK;u_op AO hK;u_op AO hK;u_c stepG_region_end AO hK;u_c stepG_seq AO hK;u_c stepG_seq AO hK;u_reg AO hK;u_op AO hK;u_op AO hK;u_c stepG_region_end AO hK
   u_cond true AO hK
   u_c stepG_seq AO hK
   u_cond true AO hK
   u_c stepG_seq AO hK;u_reg AO hK;refine Goes.stop (λ_ _=>⟨rfl,ACE hP (λ_ _=>stepG_mark0 .enable AY rfl rfl (by k_ne) rfl H.f_enable (x_enable_n L) (x_enable_b L) (x_enable_x L) (x_enable_f L)) rfl rfl ?_⟩);walk_nrm;refine (I9 hP rfl (n:=150) hl0 ?_).2
   replace hK:=hl0
   u_c stepG_region_end AO hK;u_reg AO hK;u_op AO hK
   u_conv H.underlying_tWgP H.room_tWg hK.cell.choose_spec AO hK
   refine Goes.stop (λ_ _=>⟨rfl,vN hP (λ_ _=>stepG_markAt .acquire AY rfl rfl (by k_ne) rfl H.f_acquire (x_acquire_n L) (x_acquire_b L) (x_acquire_x L) (x_acquire_f L) (by simp[Act.eval,FU])) rfl rfl (hfin _ ⟨60,λw=>?_⟩)⟩);walk_nrm;have hT:True:=trivial;u_c stepG_region_end (λ_ _=>trivial) hT;u_c stepG_seq (λ_ _=>trivial) hT;u_c stepG_seq (λ_ _=>trivial) hT;u_reg (λ_ _=>trivial) hT;u_op (λ_ _=>trivial) hT;u_op (λ_ _=>trivial) hT;u_op (λ_ _=>trivial) hT;u_op (λ_ _=>trivial) hT;u_op (λ_ _=>trivial) hT;u_op (λ_ _=>trivial) hT;u_op (λ_ _=>trivial) hT;u_op (λ_ _=>trivial) hT
   u_skip (λ_ _=>trivial) hT
   u_skip (λ_ _=>trivial) hT
   u_op (λ_ _=>trivial) hT;u_c stepG_region_end (λ_ _=>trivial) hT
   u_cond false (λ_ _=>trivial) hT
   u_c stepG_skip (λ_ _=>trivial) hT;u_c stepG_ret' (λ_ _=>trivial) hT
   u_leave0 H.f_wait (λ_ _=>trivial) hT
   exact Goes.stop λ_ _=>rfl
 ·
  walk_nrm;refine (I9 hP rfl (n:=150) hl0 ?_).2
  replace hK:=hl0
  u_op AO hK;u_c stepG_region_end AO hK;u_c stepG_ret' AO hK
  u_leave1 H.f_uLoad AO hK
  u_op AO hK;u_c stepG_region_end AO hK;u_c stepG_seq AO hK;u_reg AO hK;u_op AO hK;u_op AO hK;u_op AO hK;u_op AO hK;u_c stepG_region_end AO hK;u_c stepG_seq AO hK;u_reg AO hK;u_op AO hK;u_op AO hK;u_op AO hK;u_op AO hK;u_c stepG_region_end AO hK;u_c stepG_seq AO hK;u_c stepG_seq AO hK;u_reg AO hK;u_op AO hK;u_op AO hK;u_c stepG_region_end AO hK
  u_cond true AO hK
  u_c stepG_seq AO hK
  u_cond true AO hK
  u_c stepG_seq AO hK;u_reg AO hK;refine Goes.stop (λ_ _=>⟨rfl,ACE hP (λ_ _=>stepG_mark0 .enable AY rfl rfl (by k_ne) rfl H.f_enable (x_enable_n L) (x_enable_b L) (x_enable_x L) (x_enable_f L)) rfl rfl ?_⟩);walk_nrm;refine (I9 hP rfl (n:=150) hl0 ?_).2
  replace hK:=hl0
  u_c stepG_region_end AO hK;u_reg AO hK;u_op AO hK
  u_conv H.underlying_tWgP H.room_tWg hK.cell.choose_spec AO hK
  refine Goes.stop (λ_ _=>⟨rfl,vN hP (λ_ _=>stepG_markAt .acquire AY rfl rfl (by k_ne) rfl H.f_acquire (x_acquire_n L) (x_acquire_b L) (x_acquire_x L) (x_acquire_f L) (by simp[Act.eval,FU])) rfl rfl (hfin _ ⟨60,λw=>?_⟩)⟩);walk_nrm;have hT:True:=trivial;u_c stepG_region_end (λ_ _=>trivial) hT;u_c stepG_seq (λ_ _=>trivial) hT;u_c stepG_seq (λ_ _=>trivial) hT;u_reg (λ_ _=>trivial) hT;u_op (λ_ _=>trivial) hT;u_op (λ_ _=>trivial) hT;u_op (λ_ _=>trivial) hT;u_op (λ_ _=>trivial) hT;u_op (λ_ _=>trivial) hT;u_op (λ_ _=>trivial) hT;u_op (λ_ _=>trivial) hT;u_op (λ_ _=>trivial) hT
  u_skip (λ_ _=>trivial) hT
  u_skip (λ_ _=>trivial) hT
  u_op (λ_ _=>trivial) hT;u_c stepG_region_end (λ_ _=>trivial) hT
  u_cond false (λ_ _=>trivial) hT
  u_c stepG_skip (λ_ _=>trivial) hT;u_c stepG_ret' (λ_ _=>trivial) hT
  u_leave0 H.f_wait (λ_ _=>trivial) hT
  exact Goes.stop λ_ _=>rfl
section
variable {K:Kit} {T:Twin} {N:Nat} {ρ:Rn} {v:World}
theorem AMw{c:Prop}[Decidable c]{A B R:GStep}(h:(if c then A else B)=R)(hA:A≠R):B=R:=by
 by_cases hc:c;rw[if_pos hc] at h;exact absurd h hA;rwa[if_neg hc] at h
theorem pg(hK:Fits K T N)(hW:DD K.F N ρ v v){f:Frame}{ch:List PanicEntry}(hm:f.mode=.panicking ch)(hu:Me ch){cs:List Frame}{d:Deferred}(hd:Ie K.F ρ d d){g1:Goroutine}{v1:World}{es:Array Event}
  (h:callDeferred T.v f cs none d v=.go g1 v1 es):iD (g1.frame::g1.callers):=by
 have hs:=YG (N:=N) hK.bodies hd;have hc:=hs.sort hW;unfold callDeferred at h;have h:=AMw h (by intro x;cases x);rw[Sem.runT_eq] at h;generalize (invoke d.target d.args).events T.v v #[]=eu at h;generalize (invoke d.target d.args).run T.v v=r at hc h
 cases r with
 |ok n v'=>
  obtain⟨ρ',b,hq⟩:=hc
  cases hq with|value _=>cases h;exact .head hm hu|skip=>cases h;exact .head hm hu|enter _ _=>cases h;exact .under (.head hm hu)|round _ _ _ _ _ _=>cases h;exact .under (.head hm hu)|defer _ _ _=>cases h;exact .head hm hu|seq _ _=>cases h;exact .under (.head hm hu)
 |halt x v'=>
  cases x with
  |panic x=>
   (cases h);obtain⟨c,h1,h2⟩:=Yc f (ch':=[{v:=x,recovered:=false}]) hm hu (by intro e he;simp at he;subst he;rfl);exact .head h1 h2
  |unsupported u=>cases u<;>first|exact hc.elim|cases h
  |_=>first|exact hc.elim|cases h
theorem vO{α β:Type}{R:α->β->Prop}: ∀{a:List α} {b:List α} {l:List β},Ci R (a++b) l->∃a' b',l=a'++b'/\Ci R a a'/\Ci R b b':=by
 intro a
 induction a with
 |nil=>intro b l h;exact⟨[],l,rfl,.nil,h⟩
 |cons x a ih=>
  intro b l h
  cases h with
  |cons h1 h2=>
   obtain⟨a',b',e,h3,h4⟩:=ih h2;exact⟨_::a',b',by rw[e];rfl,.cons h1 h3,h4⟩
theorem Ci.len{α β:Type}{R:α->β->Prop}{a:List α}{b:List β}(h:Ci R a b):a.length=b.length:=by
 induction h with|nil=>rfl|cons _ _ ih=>simp[ih]
theorem AE2(hK:Fits K T N)(hV:T.v=T.P)(hX:(∀f,K.X f=false)/\¬T.p){f f1:Frame}{ts Dj:List Frame}{v1:World}{e:Array Event}(hw:QW K T N f ts v)(hp:iD (f::ts))
  (hst:stepG T.P true (G f (ts++[door T.P])) v=.go (G f1 (Dj++[door T.P])) v1 e):iD (f1::Dj):=by
 obtain⟨ρ,hi,hf,hts,hW,hG⟩:=hw;obtain⟨S,x,D,he,ch,hx,hu⟩:=hp
 cases S with
 |cons f0 S0=>
  simp only[List.cons_append,DJ] at he;obtain⟨rfl,rfl⟩:=he;obtain⟨S0',D',e1,h1,h2⟩:=vO hts;obtain⟨rfl,rfl⟩:=List.append_inj e1 h1.len;have h0:=UC (mn:=true) (dr:=x) (ds:=D++[door T.P]) (cs':=[]) hK hW hG hf h1 (λ_ _ _ _ i _ q=>rfl);(have e2:S0++(x::(D++[door T.P]))=S0++x::D++[door T.P]:=by simp);rw[hV,e2,hst] at h0;rcases h0 with ⟨f1',Gj,_,_,ρ1,w1,es',q1,_⟩|⟨X,p,p',k,g1,g2,f1',Gj,ρ1,w1,es',_,hX',_⟩|⟨c,q1,q2,_⟩|⟨P8,_⟩|⟨p,k,_,_,⟨_,_,_,_,hq⟩,_⟩
  ·simp only[G,Goroutine.mk.injEq] at q1;obtain⟨r1,r2,_⟩:=q1;(have e3:Gj++(x::(D++[door T.P]))=Gj++x::D++[door T.P]:=by simp);rw[e3] at r2;have r2:=Dw r2;subst r1 r2;exact .under ⟨Gj,x,D,rfl,ch,hx,hu⟩
  ·have hX':=hX'.1;rw[hX.1] at hX';cases hX'
  ·simp only[G,Goroutine.mk.injEq] at q1;obtain⟨r1,r2,_⟩:=q1;subst r1;obtain⟨c',h3,h4⟩:=q2.pan ch hx hu;exact .head h3 h4
  exact absurd P8 hX.2;exact absurd hq (hi.q _ _ _ _)
 |nil=>
  simp only[List.nil_append,DJ] at he;obtain⟨rfl,rfl⟩:=he;have hfn:=hf.known hK;obtain⟨fn,hfn,hfv⟩:=hfn
  have h0:stepG T.P true (G f (ts++[door T.P])) v=unwind T.P true f (ts++[door T.P]) none v:=by
   unfold stepG G;simp only[hx]
  rw[h0] at hst;unfold unwind at hst
  cases ed:f.defers with
  |nil=>
   simp only[ed,hx,WL hfn,Ak,if_false] at hst
   cases hts with
   |nil=>
    simp only[List.nil_append] at hst;simp only[GStep.go.injEq,G,Goroutine.mk.injEq] at hst;have:=hst.1.2.1;simp at this
   | @cons t t' ts ts' ht hts=>
    simp only[List.cons_append] at hst;simp only[GStep.go.injEq,G,Goroutine.mk.injEq] at hst;obtain⟨⟨r1,r2,_⟩,_⟩:=hst;subst r1;obtain⟨c,h1,h2⟩:=SC ht.fr hu;exact .head h1 h2
  |cons d dl=>
   have hds:=hf.defers;rw[ed] at hds;(have hd:Ie K.F ρ d d:=by cases hds with|cons h1 h2=>exact h1);obtain⟨t,az⟩:=d;by_cases Za: ∃b,t=.collected b
   ·obtain⟨b,rfl⟩:=Za;simp only[ed] at hst;generalize (Instr.takeDeferred b).runT T.P v #[]=r at hst;obtain⟨r,eu⟩:=r
    cases r with
    |ok calls w=>
     simp only[GStep.after,GStep.go.injEq,G,Goroutine.mk.injEq] at hst;obtain⟨⟨r1,r2,_⟩,_⟩:=hst;subst r1;exact .head (f:={f with defers:=calls++dl}) hx hu
    |halt _ _=>simp only[GStep.after] at hst;cases hst
   have key: ∀g1 v1 es,callDeferred T.P {f with defers:=dl} (ts++[door T.P]) none ⟨t,az⟩ v=.go g1 v1 es->iD (g1.frame::g1.callers):=λg1 v1 es h=>
    pg hK hW (f:={f with defers:=dl}) hx hu hd (by rw[hV];exact h)
   have hst':callDeferred T.P {f with defers:=dl} (ts++[door T.P]) none ⟨t,az⟩ v=.go (G f1 (Dj++[door T.P])) v1 e:=by
    cases t with|collected b=>exact absurd ⟨_,rfl⟩ Za|_=>simp only[ed] at hst;exact hst
   obtain⟨S,y,D,e3,c,h3,h4⟩:=key _ _ _ hst';simp only[G] at e3;rcases List.eq_nil_or_concat D with rfl|⟨D0,z,rfl⟩
   ·exfalso;have e4:f1::(Dj++[door T.P])=(f1::Dj)++[door T.P]:=rfl;rw[e4] at e3;have e5:=List.append_inj_right' e3 rfl;simp only[DJ,and_true] at e5;rw[<- e5] at h3;cases h3
   have e4:f1::(Dj++[door T.P])=(f1::Dj)++[door T.P]:=rfl;rw[e4] at e3;(have e6:S++y::(D0.concat z)=(S++y::D0)++[z]:=by simp);rw[e6] at e3;have e5:=List.append_inj_left' e3 rfl;exact⟨S,y,D0,e5,c,h3,h4⟩
theorem zq(hK:Fits K T N)(hV:T.v=T.P)(hX:(∀f,K.X f=false)/\¬T.p){Kp:Frame->List Frame->World->Prop}(Bz: ∀f ts v,Kp f ts v->ts=[]/\f.mode=.returning){f:Frame}{ts:List Frame}
  (h:Ev T.P Kp f ts v):QW K T N f ts v->iD (f::ts)->False:=by
 induction h with
 | @stop f ts v hk=>
  intro _ hp;obtain⟨rfl,hm⟩:=Bz _ _ _ hk;obtain⟨S,x,D,e,c,hx,_⟩:=hp
  cases S with|nil=>simp only[List.nil_append,DJ] at e;rw[e.1,hx] at hm;cases hm|cons s S=>simp at e
 | @step f ts v F S W h1 h2 ih=>
  intro hw hp;obtain⟨es,hs⟩:=h1 v.tape (λ_ _=>rfl);have hvt:v.DL v.tape=v:=rfl;rcases WN hK hV hX hw v.tape with ⟨o,u,e,q1⟩|⟨c,v1,e,q1,q2⟩|⟨f1,Dj,v1,e,q1,hw1,_⟩;rw[hs] at q1;cases q1
  ·rw[hs] at q1;simp only[GStep.go.injEq,G,Goroutine.mk.injEq] at q1;have:=q1.1.2.1;simp at this
  rw[hs] at q1;simp only[GStep.go.injEq,G,Goroutine.mk.injEq] at q1;obtain⟨⟨r1,r2,_⟩,r3,_⟩:=q1;have r2:=Dw r2;rw[hvt] at hs;refine ih v.tape (λ_ _=>rfl) (by rw[r1,r2,r3];exact hw1) ?_;exact AE2 hK hV hX hw hp hs
theorem QW.next(hK:Fits K T N)(hV:T.v=T.P)(hX:(∀f,K.X f=false)/\¬T.p){Kp:Frame->List Frame->World->Prop}{s s':VS}(hn:Nx T.P Kp s' s)(hw:QW K T N s.f s.ts s.v):QW K T N s'.f s'.ts s'.v:=by
 obtain⟨f,ts,v⟩:=s;obtain⟨f',ts',v'⟩:=s';obtain⟨hk,t,ht,es,hs⟩:=hn;rcases WN hK hV hX hw t with ⟨o,u,e,q1⟩|⟨c,v1,e,q1,q2⟩|⟨f1,Dj,v1,e,q1,hw1,_⟩;rw[hs] at q1;cases q1
 ·rw[hs] at q1;simp only[GStep.go.injEq,G,Goroutine.mk.injEq] at q1;have:=q1.1.2.1;simp at this
 rw[hs] at q1;simp only[GStep.go.injEq,G,Goroutine.mk.injEq] at q1;obtain⟨⟨r1,r2,_⟩,r3,_⟩:=q1;have r2:=Dw r2;subst r1 r2 r3;exact hw1
theorem QW.OU(hK:Fits K T N)(hV:T.v=T.P)(hX:(∀f,K.X f=false)/\¬T.p){Kp:Frame->List Frame->World->Prop}{s s':VS}(hn:Jb T.P Kp s' s):QW K T N s.f s.ts s.v->QW K T N s'.f s'.ts s'.v:=by
 induction hn with|one x=>exact λhw=>hw.next hK hV hX x|cons x _ ih=>exact λhw=>ih (hw.next hK hV hX x)
theorem QW.AMx(hK:Fits K T N)(hV:T.v=T.P)(hX:(∀f,K.X f=false)/\¬T.p){Kp:Frame->List Frame->World->Prop}(Bz: ∀f ts v,Kp f ts v->ts=[]/\f.mode=.returning){s:VS}(hw:QW K T N s.f s.ts s.v)(h:Ev T.P Kp s.f s.ts s.v):ND T.P Kp s:=
 λ_ hn hp=>zq hK hV hX Bz (h.OU hn) (hw.OU hK hV hX hn) hp
end
def fr (fn:FuncId) (T:Array Value) (k:List Item) (D:List Deferred) (ro:Option Nat) (kd:Bool:=false):Frame:={fn,tmps:=T,todo:=k,defers:=D,mode:=.run,kind:=bif kd then .deferred else .normal,roundOf:=ro}
def ev (T:Array Value):Operand->Value:=Act.eval ⟨T,[]⟩
def put (T:Array Value) (d:Option Tmp) (v:Value):Array Value:=match d with|some d=>T.setIfInBounds d v|none=>T
def Nf {α:Type} (a b:α):Prop:=a=b
section
variable {P:Program} {mn:Bool} {fn:FuncId} {T:Array Value} {k:List Item} {D:List Deferred} {ro:Option Nat} {cs:List Frame} {w w':World} {kd:Bool}
theorem zt(x:Operand):(fr fn T k D ro kd).eval x=ev T x:=by cases x<;>rfl
theorem rC:(fr fn T k D ro kd).eval=ev T:=funext zt
theorem Jk{x y:Code}:stepG P mn (G (fr fn T (.code (.seq x y)::k) D ro kd) cs) w=.go (G (fr fn T (.code x:: .code y::k) D ro kd) cs) w:=rfl
theorem Qc:stepG P mn (G (fr fn T (.code .skip::k) D ro kd) cs) w=.go (G (fr fn T k D ro kd) cs) w:=rfl
theorem KE{id:Nat}:stepG P mn (G (fr fn T (.inBlock id::k) D ro kd) cs) w=.go (G (fr fn T k D ro kd) cs) w:=rfl
theorem Pj{id:Nat}{c:Code}:stepG P mn (G (fr fn T (.code (.block id c)::k) D ro kd) cs) w=.go (G (fr fn T (.code c:: .inBlock id::k) D ro kd) cs) w:=rfl
theorem iY{c:Code}:stepG P mn (G (fr fn T (.code (.loop c)::k) D ro kd) cs) w=.go (G (fr fn T (.code c:: .inLoop c::k) D ro kd) cs) w:=rfl
theorem NR{c:Code}:stepG P mn (G (fr fn T (.inLoop c::k) D ro kd) cs) w=.go (G (fr fn T (.code c:: .inLoop c::k) D ro kd) cs) w:=rfl
theorem rD{id:Nat}{ops:Array Oper}:stepG P mn (G (fr fn T (.code (.region id ops false)::k) D ro kd) cs) w=.go (G (fr fn T (.inRegion ops (List.range ops.size)::k) D ro kd) cs) w:=rfl
theorem s_reg{id:Nat}{ops:Array Oper}{l:List Nat}(h:Nf (List.range ops.size) l:=by simp only[CG,List.length_cons,List.length_nil,Nat.reduceAdd,Dx,List.range,List.range.loop];exact rfl):stepG P mn (G (fr fn T (.code (.region id ops false)::k) D ro kd) cs) w=.go (G (fr fn T (.inRegion ops l::k) D ro kd) cs) w:=by
 have e:List.range ops.size=l:=h;rw[<- e];rfl
theorem FX{ops:Array Oper}:stepG P mn (G (fr fn T (.inRegion ops []::k) D ro kd) cs) w=.go (G (fr fn T k D ro kd) cs) w:=rfl
theorem s_cond{c:Operand}{x y:Code}{b:Bool}(h:ev T c=.bool b):stepG P mn (G (fr fn T (.code (.cond c x y)::k) D ro kd) cs) w=.go (G (fr fn T (.code (if b then x else y)::k) D ro kd) cs) w:=by
 (have h':(fr fn T (.code (.cond c x y)::k) D ro kd).eval c=.bool b:=by rw[zt];exact h);show stepG.exec P mn true (fr fn T (.code (.cond c x y)::k) D ro kd) cs none w=_;unfold stepG.exec;simp only[show (fr fn T (.code (.cond c x y)::k) D ro kd).todo=.code (.cond c x y)::k from rfl,h'];rfl
theorem Pm{c:Operand}{x y:Code}(h:ev T c=.bool true):stepG P mn (G (fr fn T (.code (.cond c x y)::k) D ro kd) cs) w=.go (G (fr fn T (.code x::k) D ro kd) cs) w:=s_cond h
theorem Pn{c:Operand}{x y:Code}(h:ev T c=.bool false):stepG P mn (G (fr fn T (.code (.cond c x y)::k) D ro kd) cs) w=.go (G (fr fn T (.code y::k) D ro kd) cs) w:=s_cond h
theorem s_exit{id:Nat}{k':List Item}(h:exitTo id k=some k'):stepG P mn (G (fr fn T (.code (.exit id)::k) D ro kd) cs) w=.go (G (fr fn T k' D ro kd) cs) w:=by
 show stepG.exec P mn true (fr fn T (.code (.exit id)::k) D ro kd) cs none w=_;unfold stepG.exec;simp only[show (fr fn T (.code (.exit id)::k) D ro kd).todo=.code (.exit id)::k from rfl,h];rfl
theorem ACG:stepG P mn (G (fr fn T [] D none kd) cs) w=.go (G {fr fn T [] D none kd with mode:=.returning} cs) w:=rfl
theorem Nj:stepG P mn (G (fr fn T (.code .ret::k) D none kd) cs) w=.go (G {fr fn T (.code .ret::k) D none kd with mode:=.returning} cs) w:=rfl
theorem Qd{ops:Array Oper}{i:Nat}{rest:List Nat}{o:Oper}(ho:ops[i]? =some o)(hw:Region.wanted o (yielded ops T)=true)(hd:ro=none\/∀c,o.op≠ .defer c):
  stepG P mn (G (fr fn T (.inRegion ops (i::rest)::k) D ro kd) cs) w=stepG.apply P true (fr fn T (.inRegion ops (i::rest)::k) D ro kd) cs none (execOp (ev T) o) w:=by
 show stepG.exec P mn true (fr fn T (.inRegion ops (i::rest)::k) D ro kd) cs none w=_;unfold stepG.exec;(have h1:(((ops[i]?).map (Region.wanted · (yielded ops T))).getD false)=true:=by rw[ho];exact hw);simp only[show (fr fn T (.inRegion ops (i::rest)::k) D ro kd).todo=.inRegion ops (i::rest)::k from rfl,show (fr fn T (.inRegion ops (i::rest)::k) D ro kd).tmps=T from rfl,h1,if_true];unfold stepG.oper;have h2:(fr fn T (.inRegion ops (i::rest)::k) D ro kd).oper? =some o:=ho;rw[h2,rC];rcases hd with rfl|hd;rfl
 cases ro with
 |none=>rfl|some l=>
  simp only[show (fr fn T (.inRegion ops (i::rest)::k) D (some l) kd).roundOf=some l from rfl];split
  ·rename_i h1 h2;exact absurd h2 (hd _)
  rfl
theorem EE{ops:Array Oper}{i:Nat}{rest:List Nat}{o:Oper}(ho:ops[i]? =some o)(v:Value):(fr fn T (.inRegion ops (i::rest)::k) D ro kd).finish v=fr fn (put T o.dst v) (.inRegion ops rest::k) D ro kd:=by
 unfold Frame.finish fr put;simp only[ho,Option.bind_some];cases o.dst<;>rfl
variable {ops:Array Oper} {i:Nat} {rest:List Nat} {o:Oper}
theorem WV{v:Value}(ho:ops[i]? =some o)(hw:Region.wanted o (yielded ops T)=true)(hd:ro=none\/∀c,o.op≠ .defer c)(hr:(execOp (ev T) o).run P w=.ok (.value v) w'):
  stepG P mn (G (fr fn T (.inRegion ops (i::rest)::k) D ro kd) cs) w=.go (G (fr fn (put T o.dst v) (.inRegion ops rest::k) D ro kd) cs) w' (seen P fn ((execOp (ev T) o).events P w #[])):=by
 rw[Qd ho hw hd,<- EE ho];cases kd<;>simp[stepG.apply,hr,G,GStep.after,fr]
theorem AJR(ho:ops[i]? =some o)(hw:Region.wanted o (yielded ops T)=true)(hd:ro=none\/∀c,o.op≠ .defer c)(hr:(execOp (ev T) o).run P w=.ok .skip w'):
  stepG P mn (G (fr fn T (.inRegion ops (i::rest)::k) D ro kd) cs) w=.go (G (fr fn (put T o.dst undef) (.inRegion ops rest::k) D ro kd) cs) w' (seen P fn ((execOp (ev T) o).events P w #[])):=by
 rw[Qd ho hw hd,<- EE ho];cases kd<;>simp[stepG.apply,hr,G,GStep.after,fr]
theorem s_call{f:FuncId}{args:Array Value}(ho:ops[i]? =some o)(hw:Region.wanted o (yielded ops T)=true)(hd:ro=none\/∀c,o.op≠ .defer c)(hr:(execOp (ev T) o).run P w=.ok (.enter f args) w'):
  stepG P mn (G (fr fn T (.inRegion ops (i::rest)::k) D ro kd) cs) w=.go (G (Frame.enter P f args .normal) (fr fn T (.inRegion ops (i::rest)::k) D ro kd::cs)) w' (seen P fn ((execOp (ev T) o).events P w #[])):=by
 rw[Qd ho hw hd];cases kd<;>simp[stepG.apply,hr,G,GStep.after,fr]
theorem AGL{l:Nat}{f:FuncId}{tm:Array Value}{a b:Code}(ho:ops[i]? =some o)(hw:Region.wanted o (yielded ops T)=true)(hd:ro=none\/∀c,o.op≠ .defer c)(hr:(execOp (ev T) o).run P w=.ok (.round l f tm a b) w'):
  stepG P mn (G (fr fn T (.inRegion ops (i::rest)::k) D ro kd) cs) w=.go (G (fr f tm [.code a,.beginRound,.code b] [] (some l)) (fr fn T (.inRegion ops (i::rest)::k) D ro kd::cs)) w' (seen P fn ((execOp (ev T) o).events P w #[])):=by
 rw[Qd ho hw hd];cases kd<;>simp[stepG.apply,hr,G,GStep.after,fr,Frame.round]
theorem AGM{d:Deferred}(ho:ops[i]? =some o)(hw:Region.wanted o (yielded ops T)=true)(hr:(execOp (ev T) o).run P w=.ok (.defer d) w'):
  stepG P mn (G (fr fn T (.inRegion ops (i::rest)::k) D none kd) cs) w=.go (G (fr fn (put T o.dst undef) (.inRegion ops rest::k) (d::D) none kd) cs) w' (seen P fn ((execOp (ev T) o).events P w #[])):=by
 rw[Qd ho hw (.inl rfl)];have e:({fr fn T (.inRegion ops (i::rest)::k) D none kd with defers:=d::(fr fn T (.inRegion ops (i::rest)::k) D none kd).defers}:Frame)=fr fn T (.inRegion ops (i::rest)::k) (d::D) none kd:=rfl;simp only[stepG.apply,if_true];rw[Sem.runT_eq];simp only[hr,GStep.after,e,EE ho];cases kd<;>simp[G,fr]
theorem ADj{cases:Array CommCase}{bl:Bool}{sh:CommShape}(ho:ops[i]? =some o)(hw:Region.wanted o (yielded ops T)=true)(hd:ro=none\/∀c,o.op≠ .defer c)(hr:(execOp (ev T) o).run P w=.ok (.comm cases bl sh) w'):
  stepG P mn (G (fr fn T (.inRegion ops (i::rest)::k) D ro kd) cs) w=.comm (G (fr fn T (.inRegion ops (i::rest)::k) D ro kd) cs) cases bl sh w' (seen P fn ((execOp (ev T) o).events P w #[])):=by
 rw[Qd ho hw hd];cases kd<;>simp[stepG.apply,hr,G,GStep.after,fr]
theorem Uo{α:Type}{l:Nat}{r:Loop}(hl:w.heap[l]? =some (.loop r))(f:Loop->Sem α)(es:Array Event):(Instr.getLoop l>>=f).runT P w es=(f r).runT P w (es.push ⟨.obj l,false,false⟩):=by
 show Sem.runT P (Sem.getObj l _) w es=_;simp only[Sem.runT,hl];rfl
theorem Yj{α:Type}{l:Nat}{r r':Loop}(hl:w.heap[l]? =some (.loop r))(f:Unit->Sem α)(es:Array Event):(setObj l (.loop r')>>=f).runT P w es=(f ()).runT P {w with heap:=w.heap.setIfInBounds l (.loop r')} (es.push ⟨.obj l,true,false⟩):=by
 show Sem.runT P (Sem.setObj l _ _) w es=_;simp only[Sem.runT,hl];rfl
theorem zu{l:Nat}{r:Loop}(hl:w.heap[l]? =some (.loop r))(hs:r.state=.ready):stepG P mn (G (fr fn T (.beginRound::k) D (some l)) cs) w=
  .go (G (fr fn T k D (some l)) cs) {w with heap:=w.heap.setIfInBounds l (.loop {r with state:=.busy})} (seen P fn #[⟨.obj l,false,false⟩,⟨.obj l,true,false⟩]):=by
 have h2:(do Instr.beginRound l;pure .skip:Sem Next).runT P w #[]=(.ok .skip {w with heap:=w.heap.setIfInBounds l (.loop {r with state:=.busy})},#[⟨.obj l,false,false⟩,⟨.obj l,true,false⟩]):=by
  have e:(do Instr.beginRound l;pure .skip:Sem Next)=(Instr.getLoop l>>=λr=>setObj l (.loop {r with state:=.busy})>>=λ_=>(match r.state with
   | .ready=>pure ()| .done=>runtimePanic (.error "range function continued iteration after function for loop body returned false")| .busy=>runtimePanic (.error "range function continued iteration after loop body panic")
   | .exhausted=>runtimePanic (.error "range function continued iteration after whole loop exit"):Sem Unit)>>=λ_=>pure .skip):=by
   unfold Instr.beginRound;simp only[bind_assoc];refine congrArg (Instr.getLoop l>>= ·) (funext λr=>congrArg (setObj l _>>= ·) (funext λ_=>?_));cases r.state<;>rfl
  rw[e,Uo hl,Yj hl,hs];rfl
 show stepG.apply P true (fr fn T (.beginRound::k) D (some l)) cs none (do Instr.beginRound l;pure .skip) w=_;simp only[stepG.apply,if_true,h2];rfl
theorem iZ{l:Nat}{r:Loop}{j:Option Code}{k:List Item}(hk:(k=[]/\j=none)\/(∃k',k=.code .ret::k'/\j=some .ret)){c:Frame}(hl:w.heap[l]? =some (.loop r)):stepG P mn (G (fr fn T k D (some l)) (c::cs)) w=
  .go (G (c.finish (.bool j.isNone)) cs) {w with heap:=w.heap.setIfInBounds l (.loop {r with state:=if j.isNone then .ready else .done,pending:=j})} (seen P fn #[⟨.obj l,false,false⟩,⟨.obj l,true,false⟩]):=by
 have h2:(Instr.endRound l j).runT P w #[]=(.ok (.bool j.isNone) {w with heap:=w.heap.setIfInBounds l (.loop {r with state:=if j.isNone then .ready else .done,pending:=j})},#[⟨.obj l,false,false⟩,⟨.obj l,true,false⟩]):=by
  have e:Instr.endRound l j=(Instr.getLoop l>>=λr=>setObj l (.loop {r with state:=if j.isNone then .ready else .done,pending:=j})>>=λ_=>pure (.bool j.isNone)):=rfl;rw[e,Uo hl,Yj hl];rfl
 rcases hk with ⟨rfl,rfl⟩|⟨k',rfl,rfl⟩
 ·show stepG.exec P mn true (fr fn T [] D (some l)) (c::cs) none w=_;unfold stepG.exec;simp only[show (fr fn T [] D (some l)).todo=[] from rfl,show (fr fn T [] D (some l)).roundOf=some l from rfl,h2];simp only[doReturn,GStep.after,fr,G];simp
 show stepG.exec P mn true (fr fn T (.code .ret::k') D (some l)) (c::cs) none w=_;unfold stepG.exec;simp only[show (fr fn T (.code .ret::k') D (some l)).todo=.code .ret::k' from rfl,show (fr fn T (.code .ret::k') D (some l)).roundOf=some l from rfl,h2];simp only[doReturn,GStep.after,fr,G];simp
end
structure RF (SR:Nat->Prop) where
 R:World->Prop
 st: ∀w w1:World,R w->(∀b,SR b->w1.heap[b]? =w.heap[b]?)->w.heap.size<=w1.heap.size->R w1
 lt: ∀w,R w->∀b,SR b->b<w.heap.size
def ow {SR:Nat->Prop} (R:RF SR) (Gb:Nat->Prop) (L:List (Nat×Obj)):Own SR where
 O:=λb=>Gb b\/b∈L.map Prod.fst
 I:=λw=>(∀p∈L,w.heap[p.1]? =some p.2)/\R.R w
 st:=λw w1 h k hz _ _=>⟨λp hp=>by rw[k p.1 (.inl (.inr (Dz hp)))];exact h.1 p hp,R.st w w1 h.2 (λb hb=>k b (.inr hb)) hz⟩
def Zf {SR:Nat->Prop} (o:Own SR) (e:Event):Prop:=
 match e.loc with| .cell a=>(o.O a.block\/SR a.block)/\e.write=false| .mark m=>iV m| .obj c=>o.O c/\e.write=false|_=>False
structure pq (P:Program) (mn:Bool) {SR:Nat->Prop} (J:Goroutine->Own SR->Prop):Prop where
 Ph: ∀{a:Goroutine} {o:Own SR} (nx:World->Goroutine) (no:World->Own SR),a.status=.running->(∀w,o.I w->∃w' es,stepG P mn a w=.go (nx w) w' es/\NG o (no w) w w' es)->(∀w,o.I w->J (nx w) (no w))->J a o
section
variable {P:Program} {mn:Bool} {SR:Nat->Prop} {J:Goroutine->Own SR->Prop} (hJ:pq P mn J) {R:RF SR} {Gb:Nat->Prop} {L:List (Nat×Obj)}
 {fn:FuncId} {T:Array Value} {k:List Item} {D:List Deferred} {ro:Option Nat} {cs:List Frame} {kd:Bool} {ops:Array Oper} {i:Nat} {rest:List Nat} {op:Oper} {o:Own SR}
include hJ
theorem Cc{g g':Goroutine}(h: ∀w,stepG P mn g w=.go g' w #[])(hr:g.status=.running)(next:J g' o):J g o:=by
 exact hJ.Ph (λ_=>g') (λ_=>o) hr (λw hw=>⟨w,#[],h w,⟨hw,AP _,λb=>⟨.inl,λx=>x.elim id λy=>by omega⟩,λ_ _ _=>rfl,⟨rfl,rfl,rfl⟩,AY⟩⟩) λ_ _=>next
theorem vP{g g':Goroutine}(h: ∀w,o.I w->∃es,stepG P mn g w=.go g' w es/\∀e∈es,Zf o e)(hr:g.status=.running)(next:J g' o):J g o:=by
 refine hJ.Ph (λ_=>g') (λ_=>o) hr (λw hw=>?_) λ_ _=>next;obtain⟨es,h1,h2⟩:=h w hw;refine⟨w,es,h1,⟨hw,AP _,λb=>⟨.inl,λx=>x.elim id λy=>by omega⟩,λ_ _ _=>rfl,⟨rfl,rfl,rfl⟩,λe he=>?_⟩⟩;have:=h2 e he;unfold Zf at this
 cases hl:e.loc with|cell a=>rw[hl] at this;exact this.1.imp id λx=>⟨x,this.2⟩|mark m=>rw[hl] at this;exact this|obj c=>rw[hl] at this;exact⟨this.1,λx=>by rw[this.2] at x;cases x.1⟩|_=>rw[hl] at this;exact this.elim
theorem AJS(v:Value)(ho:ops[i]? =some op)(hw:Region.wanted op (yielded ops T)=true)(hd:ro=none\/∀c,op.op≠ .defer c)(hr: ∀w,o.I w->(execOp (ev T) op).run P w=.ok (.value v) w)
  (he: ∀w,o.I w->∀e∈(execOp (ev T) op).events P w #[],Zf o e) (next:J (G (fr fn (put T op.dst v) (.inRegion ops rest::k) D ro kd) cs) o):
  J (G (fr fn T (.inRegion ops (i::rest)::k) D ro kd) cs) o:=
 vP hJ (λw hw'=>⟨_,WV ho hw hd (hr w hw'),λe h=>he w hw' e (Du h)⟩) rfl next
theorem Qx{f:FuncId}{args:Array Value}(ho:ops[i]? =some op)(hw:Region.wanted op (yielded ops T)=true)(hd:ro=none\/∀c,op.op≠ .defer c)(hr: ∀w,o.I w->(execOp (ev T) op).run P w=.ok (.enter f args) w)
  (he: ∀w,o.I w->∀e∈(execOp (ev T) op).events P w #[],Zf o e) (next:J (G (Frame.enter P f args .normal) (fr fn T (.inRegion ops (i::rest)::k) D ro kd::cs)) o):
  J (G (fr fn T (.inRegion ops (i::rest)::k) D ro kd) cs) o:=
 vP hJ (λw hw'=>⟨_,s_call ho hw hd (hr w hw'),λe h=>he w hw' e (Du h)⟩) rfl next
theorem rE{l:Nat}{f:FuncId}{tm:Array Value}{a b:Code}(ho:ops[i]? =some op)(hw:Region.wanted op (yielded ops T)=true)(hd:ro=none\/∀c,op.op≠ .defer c)(hr: ∀w,o.I w->(execOp (ev T) op).run P w=.ok (.round l f tm a b) w)
  (he: ∀w,o.I w->∀e∈(execOp (ev T) op).events P w #[],Zf o e) (next:J (G (fr f tm [.code a,.beginRound,.code b] [] (some l)) (fr fn T (.inRegion ops (i::rest)::k) D ro kd::cs)) o):
  J (G (fr fn T (.inRegion ops (i::rest)::k) D ro kd) cs) o:=
 vP hJ (λw hw'=>⟨_,AGL ho hw hd (hr w hw'),λe h=>he w hw' e (Du h)⟩) rfl next
theorem rF{d:Deferred}(ho:ops[i]? =some op)(hw:Region.wanted op (yielded ops T)=true)(hr: ∀w,o.I w->(execOp (ev T) op).run P w=.ok (.defer d) w)
  (he: ∀w,o.I w->∀e∈(execOp (ev T) op).events P w #[],Zf o e) (next:J (G (fr fn (put T op.dst undef) (.inRegion ops rest::k) (d::D) none kd) cs) o):
  J (G (fr fn T (.inRegion ops (i::rest)::k) D none kd) cs) o:=
 vP hJ (λw hw'=>⟨_,AGM ho hw (hr w hw'),λe h=>he w hw' e (Du h)⟩) rfl next
theorem AMy{l:List Oper}(v:Value)(ho:l[i]? =some op)(hw:Region.wanted op (yielded l.toArray T)=true)(hd:ro=none\/∀c,op.op≠ .defer c)(hr: ∀w,o.I w->(execOp (ev T) op).run P w=.ok (.value v) w)
  (he: ∀w,o.I w->∀e∈(execOp (ev T) op).events P w #[],Zf o e) (next:J (G (fr fn (put T op.dst v) (.inRegion l.toArray rest::k) D ro kd) cs) o):
  J (G (fr fn T (.inRegion l.toArray (i::rest)::k) D ro kd) cs) o:=AJS hJ v (by simpa using ho) hw hd hr he next
theorem D9{l:List Oper}{v:Value}{T':Array Value}(next:J (G (fr fn T' (.inRegion l.toArray rest::k) D ro kd) cs) o)(ho:l[i]? =some op:=by exact rfl)(hw:Region.wanted op (yielded l.toArray T)=true:=by rfl)(hd:ro=none\/∀c,op.op≠ .defer c:=by first|exact .inl rfl|exact .inr (λc h=>by cases h))
  (hr: ∀w,o.I w->(execOp (ev T) op).run P w=.ok (.value v) w:=by intro w hw;unfold ev;go_simp;try exact rfl) (he: ∀w,o.I w->∀e∈(execOp (ev T) op).events P w #[],Zf o e:=by intro w hw;unfold ev;simp[go_sem]) (hT:Nf (put T op.dst v) T':=by simp only[put];(try walk_nrm);exact rfl):
  J (G (fr fn T (.inRegion l.toArray (i::rest)::k) D ro kd) cs) o:=AMy hJ v ho hw hd hr he (by have e:put T op.dst v=T':=hT;rw[e];exact next)
theorem zx{g:Goroutine}(iH:Nat->List Obj)(_: ∀n m,(iH n).length=(iH m).length)(g':Nat->Goroutine)(h: ∀w,(ow R Gb L).I w->stepG P mn g w=.go (g' w.heap.size) {w with heap:=w.heap++(iH w.heap.size).toArray} #[])(hr:g.status=.running)
  (next: ∀n,(∃w,(ow R Gb L).I w/\w.heap.size=n)->J (g' n) (ow R Gb ((List.range (iH n).length).map (λj=>(n+j,(iH n)[j]?.getD default))++L))):J g (ow R Gb L):=by
 refine hJ.Ph (λw=>g' w.heap.size) (λw=>ow R Gb ((List.range (iH w.heap.size).length).map (λj=>(w.heap.size+j,(iH w.heap.size)[j]?.getD default))++L)) hr (λw hw=>⟨_,_,h w hw,?_⟩) λw hw=>next _ ⟨w,hw,rfl⟩;have hold: ∀b,b<w.heap.size->(w.heap++(iH w.heap.size).toArray)[b]? =w.heap[b]? :=λb hb=>LC hb;refine⟨⟨λp hp=>?_,?_⟩,AY,λb=>?_,λb hb _=>hold b hb,⟨rfl,rfl,rfl⟩,AY⟩
 ·rcases AU.1 hp with hp|hp
  ·obtain⟨j,hj,rfl⟩:=Ag.1 hp;have hj:=GG.1 hj;show (w.heap++(iH w.heap.size).toArray)[w.heap.size+j]? =_;rw[Ht Ac,show w.heap.size+j - w.heap.size=j by omega,EX,Af hj];rfl
  have h1:=hw.1 p hp;show (w.heap++(iH w.heap.size).toArray)[p.1]? =_;rw[hold _ (BK.1 h1).1];exact h1
 exact R.st w _ hw.2 (λb hb=>hold b (R.lt w hw.2 b hb)) AY;simp only[ow,Bf,Bq,AU,Ag,GG,Function.comp];constructor
 ·rintro (x|⟨j,hj,rfl⟩|x);exact .inl (.inl x)
  ·refine .inr ⟨Ac,?_⟩;show w.heap.size+j<(w.heap++(iH w.heap.size).toArray).size;simp;exact hj
  exact .inl (.inr x)
 rintro ((x|x)|⟨x1,x2⟩);exact .inl x;exact .inr (.inr x);refine .inr (.inl ⟨b - w.heap.size,?_,Ac⟩);have x2:b<(w.heap++(iH w.heap.size).toArray).size:=x2;simp at x2;omega
end
section
variable {C:Cx} {P:Program} (hP:C.P=P) {s:Bool} {kk:Nat} {R:RF C.SR} {Gb:Nat->Prop} {L:List (Nat×Obj)}
 {fn:FuncId} {T:Array Value} {k:List Item} {D:List Deferred} {ro:Option Nat} {cs:List Frame} {kd:Bool} {ops:Array Oper} {i:Nat} {rest:List Nat} {op:Oper} {o:Own C.SR}
include hP
theorem Cj:pq P false (PW C (.work s) kk):=⟨λnx no hr h hn=>by subst hP;exact .Ph nx no hr h hn⟩
theorem OH{Fin:Nat->Goroutine->Own C.SR->Prop}:pq P true (PM C Fin .work kk):=⟨λnx no hr h hn=>by subst hP;exact .Ph nx no hr h hn⟩
theorem AJT{xv z1 z2:Value}{bk:Nat}{ob:Obj}{o':Own C.SR}(ho:ops[i]? =some op)(hw:Region.wanted op (yielded ops T)=true)(hd:ro=none\/∀c,op.op≠ .defer c)
  (hr: ∀w,o.I w->(execOp (ev T) op).run P w=.ok (.comm (EG C.bc C.bs xv z1 z2) true .select) w) (he: ∀w,o.I w->(execOp (ev T) op).events P w #[]= #[])
  (hcs:C.Cs kk xv bk ob) (hO:o.O bk) (hob: ∀w,o.I w->w.heap[bk]? =some ob) (hO': ∀x,o'.O x->o.O x/\x≠bk) (hI': ∀w,o.I w->o'.I w)
  (n0:PW C (.work false) (kk+1) (G (fr fn (put T op.dst (.tuple #[.int .i64 0,.bool false,z2])) (.inRegion ops rest::k) D ro kd) cs) o')
  (n1:PW C (.work true) kk (G (fr fn (put T op.dst (.tuple #[.int .i64 1,.bool false,z2])) (.inRegion ops rest::k) D ro kd) cs) o):
  PW C (.work false) kk (G (fr fn T (.inRegion ops (i::rest)::k) D ro kd) cs) o:=by
 subst hP
 have e: ∀q v,((G (fr fn T (.inRegion ops (i::rest)::k) D ro kd) cs).finishComm C.P (EG C.bc C.bs xv z1 z2) .select q v false)=G (fr fn (put T op.dst (commResult (EG C.bc C.bs xv z1 z2) .select q v false)) (.inRegion ops rest::k) D ro kd) cs:=λq v=>by
  unfold Goroutine.finishComm;rw[show (G (fr fn T (.inRegion ops (i::rest)::k) D ro kd) cs).frame=fr fn T (.inRegion ops (i::rest)::k) D ro kd from rfl,EE ho];rfl
 (have r0:commResult (EG C.bc C.bs xv z1 z2) .select 0 undef false=.tuple #[.int .i64 0,.bool false,z2]:=by simp[commResult,EG,scase,rcase,goInt,Array.zipIdx]);(have r1:commResult (EG C.bc C.bs xv z1 z2) .select 1 z2 false=.tuple #[.int .i64 1,.bool false,z2]:=by simp[commResult,EG,scase,rcase,goInt,Array.zipIdx]);refine .sel (z1:=z1) (z2:=z2) rfl rfl hcs hO hob (λw hw'=>?_) hO' hI' ?_ ?_
 ·rw[ADj ho hw hd (hr w hw'),he w hw'];rfl
 rw[e,r0];exact n0;rw[e,r1];exact n1
end
theorem Eu{p q:Prop}(n:p)(h:p->q:=by intro n;first|((with_reducible refine Cc (Cj hP) (λw=>Jk) ?_ n)<;>rfl)|((with_reducible refine Cc (Cj hP) (λw=>s_reg) ?_ n)<;>rfl)|((with_reducible refine Cc (Cj hP) (λw=>FX) ?_ n)<;>rfl)|((with_reducible refine Cc (Cj hP) (λw=>Pj) ?_ n)<;>rfl)|((with_reducible refine Cc (Cj hP) (λw=>KE) ?_ n)<;>rfl)|((with_reducible refine Cc (Cj hP) (λw=>NR) ?_ n)<;>rfl)|((with_reducible refine Cc (Cj hP) (λw=>Qc) ?_ n)<;>rfl)|((with_reducible refine Cc (Cj hP) (λw=>Pm ?_) ?_ n)<;>rfl)|((with_reducible refine Cc (Cj hP) (λw=>Pn ?_) ?_ n)<;>rfl)|exact D9 (Cj hP) n|exact Cc (Cj hP) (λw=>Jk) rfl n|exact Cc (Cj hP) (λw=>s_reg) rfl n|exact Cc (Cj hP) (λw=>FX) rfl n|exact Cc (Cj hP) (λw=>Pj) rfl n|exact Cc (Cj hP) (λw=>KE) rfl n|exact Cc (Cj hP) (λw=>NR) rfl n|exact Cc (Cj hP) (λw=>Qc) rfl n|exact Cc (Cj hP) (λw=>Pm rfl) rfl n|exact Cc (Cj hP) (λw=>Pn rfl) rfl n):q:=h n
end Go.Proofs.YtkkgcebhfghdnaaGreatDoor
