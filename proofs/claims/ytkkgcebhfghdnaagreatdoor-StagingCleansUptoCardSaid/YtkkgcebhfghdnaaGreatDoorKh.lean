/- Part 8 of what that rests on; no condition. -/
import Derived.Test.YtkkgcebhfghdnaaGreatDoorKg
import Derived.Conc.FxGenDone
import Derived.Conc.FxGenLone
import Derived.Conc.FxGenWait
import Derived.Test.YtkkgcebhfghdnaaGreatDoorChecked
set_option maxRecDepth 100000
set_option maxHeartbeats 8000000
namespace Go.Proofs.YtkkgcebhfghdnaaGreatDoor
open Go Go.Conc
open Go.ConcN (sumTo upd sumTo_upd upd_ne upd_same)
def All (C:Cx) (Fin:Nat->Goroutine->Own C.SR->Prop) (ms:MS) (ws:WS) (k kW:Nat) (a0 b0:Goroutine) (oM oW:Own C.SR):Prop:=
 ∀{gs:Array Goroutine} {w:World} {sl:Option (Nat×Nat)} {t:Trace} {q:Nat->Nat} {a b:Goroutine} {OW:Nat->Prop} {dW:Nat},St C ms ws k kW a0 b0 oM oW gs w t q a b OW dW->Reach C Fin gs w sl t
theorem PW.run{C:Cx}{ws:WS}{k:Nat}{b:Goroutine}{o:Own C.SR}(h:PW C ws k b o)(hq:ws≠ .quit):b.status=.running:=by
 cases h<;>first|assumption|exact absurd rfl hq
section
variable {C:Cx} {Fin:Nat->Goroutine->Own C.SR->Prop} {ms:MS} {ws:WS} {k kW:Nat} {a0 b0 b0':Goroutine} {oM oW Vp:Own C.SR} {gs:Array Goroutine} {w w':World} {sl':Option (Nat×Nat)} {t:Trace} {q:Nat->Nat} {a b:Goroutine} {OW:Nat->Prop} {dW:Nat}
theorem St.Dh(h:St C ms ws k kW a0 b0 oM oW gs w t q a b OW dW){x:Nat}(hx:C.SY x):x<w.heap.size/\¬OW x/\¬oM.O x/\¬C.SR x:=
 ⟨(h.cf.sy x hx).1,λy=>(h.cf.ow x y).2.2.1 hx,λy=>(h.cf.om x y).2.2.2.1 hx,λy=>(h.cf.sr x y).2.1 hx⟩
theorem AGE{s:Bool}(h:St C ms (.work s) k kW a0 b0 oM oW gs w t q a b OW dW)(hb:b.status=.running){o':Own C.SR}{es:Array Event}(hs:stepG C.P false b0 w=.go b0' w' es)(hp:NG oW o' w w' es)(hr:b0'.status=.running)
  (ih:All C Fin ms (.work s) k kW a0 b0' oM o'):Turn C Fin gs w sl' t C.j:=by
 have hbk:=h.Rt AY;have kp: ∀x,C.SY x->w'.heap[x]? =w.heap[x]? :=λx hx=>hp.keep x (h.Dh hx).1 λy=>(h.Dh hx).2.1 (h.ow x y)
 obtain⟨gs',t',a',jw,h1,h2,h3⟩:=UH (sl':=sl') (RD:=λx=>OW x\/(w.heap.size<=x/\x<w'.heap.size)) (Vp:=o') (ws':=.work s) (QU:=kW) h (hbk.sm hb) hs (λ_=>hr) hp.sz (λx hx hO hS=>hp.keep x hx λy=>hO (h.ow x y)) hp.same
  (λ_=>Ky) (hp.evJ h.cf h.ow) (λx hx=>((hp.O' x).1 hx).imp (h.ow x) id) (λ_=>hp.I') (λe=>by rw[eQ hp];exact h.dw e) (λe=>by cases e) (h.c1.keep (kp _ (Nh C))) (h.c2.keep (kp _ (RI C))) (h.wg.keep (kp _ (IC C))) h.kk (λe=>by cases e)
  (Qw h.MB λ_ _=>h.c1.keep (kp _ (Nh C))).1 (.inr hr)
 exact⟨gs',w',t',h1,h2,ih h3⟩
theorem SH{c:Nat}(h:L8 w c false): ∃w',Pg w c w':=by obtain⟨s,hs⟩:=h;exact⟨_,s,hs,rfl⟩
theorem WT{c:Nat}(h:Pg w c w'):L8 w' c true/\w'.heap.size=w.heap.size/\(∀x,x≠c->w'.heap[x]? =w.heap[x]?)/\w'.tape=w.tape/\w'.os=w.os/\w'.output=w.output:=by
 obtain⟨s,hs,rfl⟩:=h;have hlt:=(BK.1 hs).1;exact⟨⟨s,by simp[hlt]⟩,AY,λx hx=>by simp only;rw[BO (CJ hx)],rfl,rfl,rfl⟩
theorem WU{P:Program}(h:Sm b b0):mayWake P b=mayWake P b0:=by unfold mayWake;rw[h.1]
theorem eU{c:Nat}{es:Array Event}(h:UG c es)(d:Nat):deafBehind d es=d:=deafBehind_still (λe he=>by rcases h e he with rfl|rfl<;>simp) d
theorem AJK{s:Bool}(h:St C ms (.work s) k kW a0 b0 oM oW gs w t q a b OW dW)(hb:b.status=.running){es:Array Event}(hr:b0'.status=.running)(hmw:mayWake C.P b0=true)(hk:s=true\/kW=C.N)(hce:UG C.bc es)
  (hs: ∀w w',oW.I w->Pg w C.bc w'->stepG C.P false b0 w=.go b0' w' es) (ih:All C Fin ms .fin0 k kW a0 b0' oM oW):Turn C Fin gs w sl' t C.j:=by
 have hbk:=h.Rt AY;have hsm:=hbk.sm hb;obtain⟨w',hw'⟩:=SH h.c1;obtain⟨f1,f2,f3,f4,f5,f6⟩:=WT hw'
 have hwk:woken C.P b b0' w' a=a.again w':=by
  unfold woken;rw[WU hsm,hmw,hr];rfl
 have jv:bF C ms .fin0 oM (woken C.P b b0' w' a) a0:=by
  rcases h.MB with ⟨h1,h2⟩|⟨h1,h2,z,rfl,h3⟩|⟨h1,h2,h3,h4,h5⟩;rw[woken_run h1];exact .inl ⟨h1,h2⟩
  ·rw[hwk];obtain⟨s',hs'⟩:=f1;rw[again_recv_closed hs'];exact .inl ⟨rfl,rfl,rfl,rfl⟩
  rcases Yf (P:=C.P) (g:=b) (g':=b0') (w':=w') h3 h4 with e|e;rw[e];exact .inr (.inr ⟨h1,AY,h3,h4,h5⟩);rw[e];exact .inl ⟨rfl,h5⟩
 obtain⟨gs',t',a',jw,h1,h2,h3⟩:=UH (sl':=sl') (RD:=OW) (Vp:=oW) (ws':=.fin0) (QU:=kW) h hsm (hs w w' (h.iw AY) hw') (λ_=>hr) (by rw[f2];exact AP _) (λx hx hO hS=>f3 x λe=>hS (by rw[e];exact Nh C)) ⟨f4,f5,f6⟩
  (λx=>⟨.inl,λy=>y.elim id λz=>by omega⟩) (λe he=>qp (Nh C) (h.Dh (Nh C)).2.1 (h.Dh (Nh C)).2.2.2 (by rw[f2];exact (h.Dh (Nh C)).1) ((hce e he).elim (λx=>.inr (.inl x)) (λx=>.inr (.inr x)))) h.ow
  (λ_=>oW.st w w' (h.iw AY) (λx hx=>f3 x λe=>by
   rcases hx with hx|hx;exact (h.Dh (Nh C)).2.1 (by rw[<- e];exact h.ow x hx)
   exact (h.Dh (Nh C)).2.2.2 (by rw[<- e];exact hx)) (by rw[f2];exact AP _) f4 f5)
  (λe=>by rw[eU hce];exact h.dw AY) (λe=>by cases e) f1 (h.c2.keep (f3 _ (CJ h.ne.1))) (by have:=h.wg.keep (f3 _ h.ne.2.1);exact this)
  (λe=>⟨λs e=>(by cases e),λ_=>by
   obtain⟨q1,q2⟩:=(h.kk e).1 s rfl;rcases hk with hk|hk;rw[q2] at hk;cases hk
   rw[<- q1];exact hk⟩) (λe=>by cases e) jv (.inr hr)
 exact⟨gs',w',t',h1,h2,ih h3⟩
theorem AGF(hf:ws.free=true)(h:St C ms ws k kW a0 b0 oM oW gs w t q a b OW dW)(hb:b.status=.running)(hr:b0'.status=.running)(hs:stepG C.P false b0 w=.go b0' w #[])(ih:All C Fin ms ws k kW a0 b0' oM oW):Turn C Fin gs w sl' t C.j:=by
 (have hq:ws≠ .quit:=λe=>by rw[e] at hf;cases hf);(have hnw: ∀s,ws≠ .work s:=λs e=>by rw[e] at hf;cases hf);have hsm:=(h.Rt hq).sm hb
 obtain⟨gs',t',a',jw,h1,h2,h3⟩:=UH (sl':=sl') (RD:=OW) (Vp:=oW) (ws':=ws) (QU:=kW) h hsm hs (λ_=>hr) (AP _) (λ_ _ _ _=>rfl) ⟨rfl,rfl,rfl⟩ (λx=>⟨.inl,λy=>y.elim id λz=>by omega⟩) (λe he=>by simp at he) h.ow h.iw
  (λe=>h.dw e) (λe=>absurd e hq) h.c1 h.c2 h.wg h.kk (KD h.rel λop hop=>by obtain⟨e,he,_⟩:=Go.Conc.mem_ofEvents hop;simp at he) (Qw h.MB λ_ e=>h.c1.keep rfl |>λx=>by rw[e] at x;exact x).1 (.inr hr)
 exact⟨gs',w,t',h1,h2,ih h3⟩
theorem zh{ws':WS}{m:Mark}(hf:ws.free=true)(hf':ws'.free=true)(h:St C ms ws k kW a0 b0 oM oW gs w t q a b OW dW)(hb:b.status=.running)(hr:b0'.status=.running)(hs: ∀w,Live C w->stepG C.P false b0 w=.go b0' w #[mkS m])
  (hm:(MemAct.mark m).touch? =none/\m≠ .release (FU C.wg)/\(MemAct.mark m).low w.heap.size) (hd:deafBehind ws.deaf #[mkS m]=ws'.deaf) (hw: ∀w,LZ C ms ws w->LZ C ms ws' w)
  (hrel:ws'.rel=true->∃r,KC C (t++MemOp.ofEvents C.j b.frame.fn b.frame.place #[mkS m]) r) (ih:All C Fin ms ws' k kW a0 b0' oM oW):Turn C Fin gs w sl' t C.j:=by
 (have hq:ws≠ .quit:=λe=>by rw[e] at hf;cases hf);(have hq':ws'≠ .quit:=λe=>by rw[e] at hf';cases hf');(have hw1:ws.Iy=false:=by cases ws<;>first|rfl|cases hf);(have hw2:ws'.Iy=false:=by cases ws'<;>first|rfl|cases hf');have hsm:=(h.Rt hq).sm hb
 have jv:bF C ms ws' oM (woken C.P b b0' w a) a0:=by
  rcases h.MB with ⟨h1,h2⟩|⟨_,h2,_⟩|⟨h1,h2,h3,h4,h5⟩;rw[woken_run h1];exact .inl ⟨h1,h2⟩;rw[hw1] at h2;cases h2;rcases Yf (P:=C.P) (g:=b) (g':=b0') (w':=w) h3 h4 with e|e
  ·rw[e];exact .inr (.inr ⟨h1,hq',h3,h4,h5⟩)
  rw[e];exact .inl ⟨rfl,h5⟩
 obtain⟨gs',t',a',jw,h1,h2,h3⟩:=UH (sl':=sl') (RD:=OW) (Vp:=oW) (ws':=ws') (QU:=kW) h hsm (hs w h.wg.live) (λ_=>hr) (AP _) (λ_ _ _ _=>rfl) ⟨rfl,rfl,rfl⟩ (λx=>⟨.inl,λy=>y.elim id λz=>by omega⟩)
  (λe he=>by simp at he;subst he;exact bH hm.1 hm.2.1 hm.2.2) h.ow (λ_=>h.iw (.inr trivial)) (λ_=>by rw[h.dw hq];exact hd) (λe=>absurd e hq') (by have:=h.c1;rw[hw1] at this;rw[hw2];exact this) h.c2 (hw w h.wg)
  (λe=>⟨λs e2=>(by rw[e2] at hf';cases hf'),λ_=>(h.kk e).2 hw1⟩) hrel jv (.inr hr)
 exact⟨gs',w,t',h1,h2,ih h3⟩
theorem jy{ws':WS}{es:Array Event}(hf:ws.free=true)(hf2:ws.deaf=1)(hrl:ws.rel=true)(hf':ws'.Iy=false)(_:ws'.rel=true)(h:St C ms ws k kW a0 b0 oM oW gs w t q a b OW dW)(hb:b.status=.running)(hs:stepG C.P false b0 w=.go b0' w' es)
  (hw':(∀x,x≠C.wg->w'.heap[x]? =w.heap[x]?)/\w'.heap.size=w.heap.size/\w'.tape=w.tape/\w'.os=w.os/\w'.output=w.output)
  (hes: ∀e∈es,(∃o x,e=⟨.cell ⟨C.wg,o,none⟩,x,true⟩)\/e=mkS .disable\/e=mkS .enable) (hr:ws'≠ .quit->b0'.status=.running) (hd:ws'≠ .quit->deafBehind ws.deaf es=ws'.deaf)
  (hqu:ws'=.quit->∃n,QuitsD C.P n (deafBehind 1 es) b0') (hwg:LZ C ms ws' w') (hdf: ∀m e,es[m]? =some e->(MemAct.ofEvent e).touch? ≠none->deafBehind 1 (es.extract 0 m)≠0)
  (jv:bF C ms ws' oM (woken C.P b b0' w' a) a0) (hnb:(woken C.P b b0' w' a).status=.running\/b0'.status=.running) (ih:All C Fin ms ws' k kW a0 b0' oM oW):Turn C Fin gs w sl' t C.j:=by
 (have hq:ws≠ .quit:=λe=>by rw[e] at hf;cases hf);(have hw1:ws.Iy=false:=by cases ws<;>first|rfl|cases hf);have hsm:=(h.Rt hq).sm hb;have hdw:dW=1:=(h.dw hq).trans hf2;obtain⟨f1,f2,f3,f4,f5⟩:=hw'
 obtain⟨gs',t',a',jw,h1,h2,h3⟩:=UH (sl':=sl') (RD:=OW) (Vp:=oW) (ws':=ws') (QU:=kW) h hsm hs hr (by rw[f2];exact AP _) (λx hx hO hS=>f1 x λe=>hS (by rw[e];exact IC C)) ⟨f3,f4,f5⟩ (λx=>⟨.inl,λy=>y.elim id λz=>by omega⟩)
  (λe he=>by
   rcases hes e he with h1|h1|h1;exact qp (IC C) (h.Dh (IC C)).2.1 (h.Dh (IC C)).2.2.2 (by rw[f2];exact (h.Dh (IC C)).1) (.inl h1);subst h1;exact bH rfl AY trivial
   subst h1;exact bH rfl AY trivial) h.ow
  (λ_=>oW.st w w' (h.iw (.inr trivial)) (λx hx=>f1 x λe=>by
   rcases hx with hx|hx;exact (h.Dh (IC C)).2.1 (by rw[<- e];exact h.ow x hx)
   exact (h.Dh (IC C)).2.2.2 (by rw[<- e];exact hx)) (by rw[f2];exact AP _) f3 f4)
  (λe=>by rw[h.dw hq];exact hd e) (λe=>by rw[hdw];exact hqu e) (by have:=h.c1.keep (f1 _ (CJ h.ne.2.1));rw[hw1] at this;rw[hf'];exact this) (h.c2.keep (f1 _ (CJ h.ne.2.2))) hwg
  (λe=>⟨λs e2=>(by rw[e2] at hf';cases hf'),λ_=>(h.kk e).2 hw1⟩)
  (λ_=>by
   obtain⟨r,hr⟩:=h.rel hrl;refine⟨r,hr.AGC λm e hm=>⟨λx hx hxm=>?_,λhx=>?_⟩⟩
   ·rcases hes e (Jy hm) with ⟨o,y,rfl⟩|rfl|rfl
    ·simp only[ofEvent_cell0,MemAct.touch?,BD] at hx;subst hx;exact⟨rfl,rfl⟩
    simp[mkS,MemAct.ofEvent,MemAct.touch?] at hx;simp[mkS,MemAct.ofEvent,MemAct.touch?] at hx
   rw[h.cf.dw,hdw];exact hdf m e hm hx) jv hnb
 exact⟨gs',w',t',h1,h2,ih h3⟩
theorem AEz(x y:Event)(hx:x.loc≠ .mark .disable/\x.loc≠ .mark .enable)(hy:y.loc≠ .mark .disable/\y.loc≠ .mark .enable): ∀m e,(#[x,y]:Array Event)[m]? =some e->(MemAct.ofEvent e).touch? ≠none->deafBehind 1 ((#[x,y]:Array Event).extract 0 m)≠0:=by
 intro m e _ _;rw[deafBehind_still];simp;intro z hz
 have:z∈(#[x,y]:Array Event):=by
  obtain⟨i,hi,rfl⟩:=LJ.1 hz;rw[dO];exact Array.getElem_mem _
 simp only[Bv,AA,AB,or_false] at this;rcases this with rfl|rfl;exact hx;exact hy
theorem qy(x:Event)(hx:x.loc≠ .mark .disable/\x.loc≠ .mark .enable): ∀m e,(#[x]:Array Event)[m]? =some e->(MemAct.ofEvent e).touch? ≠none->deafBehind 1 ((#[x]:Array Event).extract 0 m)≠0:=by
 intro m e _ _;rw[deafBehind_still];simp;intro z hz
 have:z∈(#[x]:Array Event):=by
  obtain⟨i,hi,rfl⟩:=LJ.1 hz;rw[dO];exact Array.getElem_mem _
 simp only[Bv,AA,AB,or_false] at this;subst this;exact hx
theorem AE0(c:Nat): ∀m e,(semEvents (Nc c))[m]? =some e->(MemAct.ofEvent e).touch? ≠none->deafBehind 1 ((semEvents (Nc c)).extract 0 m)≠0:=by
 intro m e hm ht;rcases m with _|_|_|_|m;simp[semEvents] at hm;subst hm;simp[MemAct.ofEvent,MemAct.touch?] at ht;simp[semEvents,deafBehind];simp[semEvents,deafBehind];simp[semEvents] at hm;subst hm;simp[MemAct.ofEvent,MemAct.touch?] at ht;simp[semEvents] at hm
theorem ACC(h:bF C ms ws oM a a0)(hw:ws.Iy=false)(hm:ms≠ .ws2):a.status=.running/\Sm a a0:=by
 rcases h with h|⟨_,h2,_⟩|⟨h1,_⟩;exact h;rw[hw] at h2;cases h2;exact absurd h1 hm
theorem AMb{n:Nat}{b1 b2:Goroutine}(h:St C ms .fin2 k kW a0 b0 oM oW gs w t q a b OW dW)(hb:b.status=.running)(h1: ∀w,WA C w KQ 0->stepG C.P false b0 w=.go b1 (w.setCell (FU C.wg) (.int .u64 0)) #[Iq C,UE C])(hq:QuitsD C.P n 1 b1)
  (hr2:b2.status=.running) (h2: ∀w,WA C w (KQ+1) 0->stepG C.P false b0 w=.go b2 (w.setCell (FU C.wg) (.int .u64 1)) #[Iq C,UE C]) (ih1:All C Fin ms .quit k kW a0 b1 oM oW) (ih2:All C Fin ms .NP k kW a0 b2 oM oW):Turn C Fin gs w sl' t C.j:=by
 have hes: ∀e∈(#[Iq C,UE C]:Array Event),(∃o x,e=⟨.cell ⟨C.wg,o,none⟩,x,true⟩)\/e=mkS .disable\/e=mkS .enable:=λe he=>by
  simp only[Bv,AA,AB,or_false] at he;rcases he with rfl|rfl;exact .inl ⟨0,false,rfl⟩;exact .inl ⟨0,true,rfl⟩
 have hds:deafBehind 1 #[Iq C,UE C]=1:=deafBehind_still (λe he=>by
  simp only[Bv,AA,AB,or_false] at he
  rcases he with rfl|rfl<;>simp[Iq,UE]) 1
 have hdf:=AEz (Iq C) (UE C) (by simp[Iq]) (by simp[UE]);have hwf: ∀v:Value,_:=λv=>NQ w (FU C.wg) v;rcases h.wg with ⟨hm,hw⟩|⟨hm,hw⟩
 ·(have hm2:ms≠ .ws2:=by rcases hm with e|e|e<;>rw[e]<;>simp);obtain⟨har,AJ8⟩:=ACC h.MB rfl hm2;refine jy (ws':=.quit) rfl rfl rfl rfl rfl h hb (h1 w hw) (hwf _) hes (λe=>absurd rfl e) (λe=>absurd rfl e) (λ_=>⟨n,by rw[hds];exact hq⟩) (.inr ⟨hm2,hw.setSt 0⟩) hdf (.inl ?_) ?_ ih1;rw[woken_run har];exact⟨har,AJ8⟩;rw[woken_run har];exact .inl har
 refine jy (ws':=.NP) rfl rfl rfl rfl rfl h hb (h2 w hw) (hwf _) hes (λ_=>hr2) (λ_=>hds) (λe=>by cases e) ⟨hm,hw.setSt 1⟩ hdf ?_ (.inr hr2) ih2;have:=(Qw (P:=C.P) (g:=b) (g':=b2) (w':=w.setCell (FU C.wg) (.int .u64 1)) h.MB (λ_ e=>by cases e)).1;rcases this with q1|⟨_,q2,_⟩|⟨q1,_,q3⟩;exact .inl q1;(cases q2);exact .inr (.inr ⟨q1,AY,q3⟩)
theorem AMc(h:St C ms .NP k kW a0 b0 oM oW gs w t q a b OW dW)(hb:b.status=.running)(hr:b0'.status=.running)(h1: ∀w,WA C w 1 0->stepG C.P false b0 w=.go b0' w #[Iq C])(ih:All C Fin ms .NP k kW a0 b0' oM oW):Turn C Fin gs w sl' t C.j:=by
 refine jy (ws':=.NP) rfl rfl rfl rfl rfl h hb (h1 w h.wg.2) ⟨λ_ _=>rfl,rfl,rfl,rfl,rfl⟩ (λe he=>?_) (λ_=>hr) (λ_=>deafBehind_still (λe he=>?_) 1) (λe=>by cases e) h.wg (qy _ (by simp[Iq])) ?_ (.inr hr) ih;simp at he;subst he;exact .inl ⟨0,false,rfl⟩;simp at he;subst he;simp[Iq];exact (Qw h.MB (λ_ e=>by cases e)).1
theorem AMd(h:St C ms .NP k kW a0 b0 oM oW gs w t q a b OW dW)(hb:b.status=.running)(hr:b0'.status=.running)(h1: ∀w,WA C w 1 0->stepG C.P false b0 w=.go b0' (w.setCell (FU C.wg) (.int .u64 0)) #[UE C])(ih:All C Fin ms .UF k kW a0 b0' oM oW):Turn C Fin gs w sl' t C.j:=by
 refine jy (ws':=.UF) rfl rfl rfl rfl rfl h hb (h1 w h.wg.2) (NQ w (FU C.wg) _) (λe he=>?_) (λ_=>hr) (λ_=>deafBehind_still (λe he=>?_) 1) (λe=>by cases e) ⟨h.wg.1,h.wg.2.setSt 0⟩ (qy _ (by simp[UE])) ?_ (.inr hr) ih;simp at he;subst he;exact .inl ⟨0,true,rfl⟩;simp at he;subst he;simp[UE];have:=(Qw (P:=C.P) (g:=b) (g':=b0') (w':=w.setCell (FU C.wg) (.int .u64 0)) h.MB (λ_ e=>by cases e)).1;rcases this with q1|⟨_,q2,_⟩|⟨q1,_,q3⟩;exact .inl q1;(cases q2);exact .inr (.inr ⟨q1,AY,q3⟩)
theorem AMe{n:Nat}(h:St C ms .UF k kW a0 b0 oM oW gs w t q a b OW dW)(hb:b.status=.running)(hmw:mayWake C.P b0=true)(h1: ∀w,WA C w 0 0->stepG C.P false b0 w=.go b0' (w.setCell (Nc C.wg) (.int .u32 1)) (semEvents (Nc C.wg)))(hq:QuitsD C.P n 1 b0')
  (ih:All C Fin ms .quit k kW a0 b0' oM oW):Turn C Fin gs w sl' t C.j:=by
 have hwk:woken C.P b b0' (w.setCell (Nc C.wg) (.int .u32 1)) a=a.again (w.setCell (Nc C.wg) (.int .u32 1)):=by
  unfold woken;rw[WU ((h.Rt AY).sm hb),hmw];rcases hq.status with e|e<;>rw[e]<;>rfl
 have ha:(woken C.P b b0' (w.setCell (Nc C.wg) (.int .u32 1)) a).status=.running/\Sm (woken C.P b b0' (w.setCell (Nc C.wg) (.int .u32 1)) a) a0:=by
  rcases h.MB with ⟨q1,q2⟩|⟨_,q2,_⟩|⟨_,_,q3,q4,q5⟩;rw[woken_run q1];exact⟨q1,q2⟩;(cases q2);rw[hwk];(have:a.again (w.setCell (Nc C.wg) (.int .u32 1))={a with status:=.running}:=by simp[Goroutine.again,q3,q4]);rw[this];exact⟨rfl,q5⟩
 refine jy (ws':=.quit) rfl rfl rfl rfl rfl h hb (h1 w h.wg.2) (NQ w (Nc C.wg) _) (λe he=>?_) (λe=>absurd rfl e) (λe=>absurd rfl e) (λ_=>⟨n,?_⟩) (.inl ⟨h.wg.1,h.wg.2.setSm 1⟩) (AE0 _) (.inl ha) (.inl ha.1) ih
 ·simp only[semEvents,Bv,AA,AB,or_false] at he;rcases he with rfl|rfl|rfl|rfl;exact .inr (.inl rfl);exact .inl ⟨1,false,rfl⟩;exact .inl ⟨1,true,rfl⟩;exact .inr (.inr rfl)
 (have:deafBehind 1 (semEvents (Nc C.wg))=1:=by simp[semEvents,deafBehind]);rw[this];exact hq
end
def Hand (C:Cx) (Fin:Nat->Goroutine->Own C.SR->Prop) (ms:MS) (k:Nat) (a0:Goroutine) (oM:Own C.SR):Prop:=
 ms=.work->∀z w,oM.I w->L8 w C.bs false->stepG C.P true a0 w=.comm a0 #[rcase C.bc z] true (.recv true) w #[]->∀xv bk ob,C.Cs k xv bk ob->
  ∃o':Own C.SR,(∀x,o'.O x↔oM.O x\/x=bk)/\(∀w,oM.I w->¬oM.O bk->w.heap[bk]? =some ob->o'.I w)/\
   ∀{ws kW b0 oW},PW C ws kW b0 oW->All C Fin .work ws (k+1) kW (a0.finishComm C.P #[rcase C.bc z] (.recv true) 0 xv true) b0 o' oW
section
variable {C:Cx} {Fin:Nat->Goroutine->Own C.SR->Prop} {ms:MS} {ws:WS} {k kW:Nat} {a0 b0 b0':Goroutine} {oM Rq oW Vp:Own C.SR} {gs:Array Goroutine} {w w':World} {sl':Option (Nat×Nat)} {t:Trace} {q:Nat->Nat} {a b:Goroutine} {OW:Nat->Prop} {dW:Nat}
theorem Jh(g:Nat)(fn:FuncId)(pos:String):MemOp.ofEvents g fn pos #[]= #[]:=rfl
theorem eX(h:St C ms ws k kW a0 b0 oM oW gs w t q a b OW dW){i:Nat}{g:Goroutine}(hi:gs[i]? =some g)(h0:0<i)(hj:i≠C.j)(c:Nat)(sd:Bool):offersAt g c sd=[]:=by
 refine offersAt_of_not_blocked ?_ c sd;rcases (h.cf.old i g h0 hj hi).status with e|e<;>rw[e]<;>simp
theorem ADi(h:St C ms ws k kW a0 b0 oM oW gs w t q a b OW dW)(c:Nat)(sd:Bool):partners (gs.setIfInBounds C.j ph) c sd=(offersAt a c sd).map λn=>(0,n):=by
 have hjp:=h.cf.hj;refine partners_one (j:=0) (g:=a) (by rw[BO Ac];exact h.cf.at0) λi x hi hx=>?_;rcases getElem?_stand gs C.j i x hx with ⟨_,rfl⟩|⟨h1,h2⟩;rfl;exact eX h h2 Ac h1 c sd
theorem AJL(h:St C ms ws k kW a0 b0 oM oW gs w t q a b OW dW)(c:Nat)(sd:Bool):partners (gs.setIfInBounds 0 ph) c sd=(offersAt b c sd).map λn=>(C.j,n):=by
 have hjp:=h.cf.hj;refine partners_one (j:=C.j) (g:=b) (by rw[BO Ac];exact h.cf.UD) λi x hi hx=>?_;rcases getElem?_stand gs 0 i x hx with ⟨_,rfl⟩|⟨h1,h2⟩;rfl;exact eX h h2 Ac hi c sd
theorem zi{g:Goroutine}(h:g.offers=none)(c:Nat)(sd:Bool):offersAt g c sd=[]:=by
 unfold offersAt;cases g.status<;>simp[h]
theorem zl(h:St C .work (.work false) k kW a0 b0 oM oW gs w t q a b OW dW){z xv z1 z2:Value}{bk:Nat}{ob:Obj}{s:Nat}{gs':Array Goroutine}{f0 fj:FuncId}{p0 pj:String}(hc:w.heap[C.bc]? =some (.chan 0 #[] false s s false))(hbk:oW.O bk)(hob: ∀w,oW.I w->w.heap[bk]? =some ob)
  (hO: ∀x,Rq.O x↔oM.O x\/x=bk) (hI: ∀w,oM.I w->¬oM.O bk->w.heap[bk]? =some ob->Rq.I w) (hO2: ∀x,Vp.O x->oW.O x/\x≠bk) (hI2: ∀w,oW.I w->Vp.I w)
  (hgs:gs'=(gs.setIfInBounds C.j (b0.finishComm C.P (EG C.bc C.bs xv z1 z2) .select 0 undef false)).setIfInBounds 0 (a0.finishComm C.P #[rcase C.bc z] (.recv true) 0 xv true)):
  St C .work (.work false) (k+1) (kW+1) (a0.finishComm C.P #[rcase C.bc z] (.recv true) 0 xv true) (b0.finishComm C.P (EG C.bc C.bs xv z1 z2) .select 0 undef false) Rq Vp gs' (w.setChan C.bc 0 #[] false (s+1) (s+1) false)
   (t++Ei C.j C.bc s s f0 fj p0 pj) q (a0.finishComm C.P #[rcase C.bc z] (.recv true) 0 xv true) (b0.finishComm C.P (EG C.bc C.bs xv z1 z2) .select 0 undef false) (λx=>OW x/\x≠bk) 0:=by
 have hd:dW=0:=h.dw AY;subst hd;have hcf:=AGD (f0:=f0) (fj:=fj) (p0:=p0) (pj:=pj) h.cf hc rfl (h.ow bk hbk) (hob w (h.iw AY)) hO hI hgs;have hbc:C.bc<w.heap.size:=(BK.1 hc).1
 have hheap: ∀x,x≠C.bc->(w.setChan C.bc 0 #[] false (s+1) (s+1) false).heap[x]? =w.heap[x]? :=λx hx=>by
  simp only[World.setChan];rw[BO (CJ hx)]
 have hsz:(w.setChan C.bc 0 #[] false (s+1) (s+1) false).heap.size=w.heap.size:=by simp[World.setChan]
 refine⟨hcf,h.ne,.inl ⟨rfl,.refl _⟩,λ_=>.inl ⟨rfl,.refl _⟩,λe=>(by cases e),.inl rfl,λ_=>hI2 _ (oW.st w _ (h.iw AY) (λx hx=>hheap x λe=>?_) (by rw[hsz];exact AP _) rfl rfl),λx hx=>⟨h.ow x (hO2 x hx).1,(hO2 x hx).2⟩,⟨s+1,by simp[World.setChan,hbc,WS.Iy]⟩,
  h.c2.keep (hheap _ (CJ h.ne.1)),h.wg.keep (hheap _ h.ne.2.1),λ_=>rfl,λ_=>⟨λs' e=>?_,λe=>(by simp[WS.Iy] at e)⟩,λe=>(by cases e)⟩
 ·rcases hx with hx|hx;exact (h.Dh (Nh C)).2.1 (by rw[<- e];exact h.ow x hx);exact (h.Dh (Nh C)).2.2.2 (by rw[<- e];exact hx)
 (cases e);exact⟨by rw[((h.kk rfl).1 false rfl).1],rfl⟩
theorem AJM(h:St C ms (.work false) k kW a0 b0 oM oW gs w t q a b OW dW)(hb:b.status=.running)(hsl:a.status=.running->zg C Fin ms (.work false) k kW a0 b0 oM oW gs.size q){xv z1 z2:Value}{bk:Nat}{ob:Obj}(hoff:b0.offers=none)(_:b0.status=.running)
  (hcs:C.Cs kW xv bk ob) (hbk:oW.O bk) (hob: ∀w,oW.I w->w.heap[bk]? =some ob) (hs: ∀w,oW.I w->stepG C.P false b0 w=.comm b0 (EG C.bc C.bs xv z1 z2) true .select w #[])
  (hO2: ∀x,Vp.O x->oW.O x/\x≠bk) (hI2: ∀w,oW.I w->Vp.I w) (hand:Hand C Fin ms k a0 oM) (hpw:PW C (.work false) (kW+1) (b0.finishComm C.P (EG C.bc C.bs xv z1 z2) .select 0 undef false) Vp)
  (ihs:All C Fin ms (.work true) k kW a0 (b0.finishComm C.P (EG C.bc C.bs xv z1 z2) .select 1 z2 false) oM oW):Turn C Fin gs w sl' t C.j:=by
 have hjp:=h.cf.hj;(have hj0:(C.j==0)=false:=by simp;omega);have hsm:=(h.Rt AY).sm hb;(have hst:stepG C.P (C.j==0) b w=.comm b0 (EG C.bc C.bs xv z1 z2) true .select w #[]:=by rw[hj0,hsm.step];exact hs w (h.iw AY));obtain⟨s,hc⟩:=h.c1;obtain⟨s2,hc2⟩:=h.c2;have hc:w.heap[C.bc]? =some (.chan 0 #[] false s s false):=hc;have hp1:=ADi h C.bc false;have hp2:=ADi h C.bs true;have hdw:dW=0:=h.dw AY;by_cases hm:ms=.work
 ·subst hm;(have hc2:w.heap[C.bs]? =some (.chan 0 #[] false s2 s2 false):=by simpa using hc2);rcases h.MB with ⟨ha,AJ8⟩|⟨_,_,z,rfl,hcm⟩|⟨e,_⟩
  ·
   rw[offersAt_of_not_blocked (by rw[ha];simp)] at hp1 hp2;have hr:=ACA (sl:=sl') h.ne.1 h.cf.UD hst hc hc2 hp1 hp2;rw[Jh] at hr;have hcf:=zf (b':=parked b0 (EG C.bc C.bs xv z1 z2) .select) (u:=#[]) h.cf (λop hop=>by simp at hop) (jw:=dW) (by simp;exact h.cf.dw);refine⟨_,w,#[],hr,AY,hsl ha AY ⟨hcf,h.ne,h.MB,λ_=>.inr ⟨rfl,rfl,xv,z1,z2,rfl,hs⟩,λe=>(by cases e),.inl ha,h.iw,h.ow,h.c1,h.c2,h.wg,h.dw,h.kk,λe=>(by cases e)⟩ rfl⟩
  ·
   have ho1:=offersAt_parked_recv a0 C.bc z (.recv true) C.bc;have ho2:=offersAt_parked_recv' a0 C.bc z (.recv true) C.bs;rw[ho1] at hp1;rw[ho2] at hp2;simp only[if_true,AL,BC] at hp1 hp2;have hr:=AB9 (sl:=sl') h.ne.1 h.cf.UD hst hc hc2 Ac h.cf.at0 hp1 hp2;rw[Jh] at hr;obtain⟨q1,q2⟩:=(h.kk rfl).1 false rfl;obtain⟨o',h1,h2,h3⟩:=hand rfl z w h.cf.im ⟨s2,hc2⟩ (hcm w h.cf.im) xv bk ob (by rw[<- q1];exact hcs)
   have hcomm:(gs.setIfInBounds 0 (a0.finishComm C.P #[rcase C.bc z] (.recv true) 0 xv true)).setIfInBounds C.j (b0.finishComm C.P (EG C.bc C.bs xv z1 z2) .select 0 undef false)=(gs.setIfInBounds C.j (b0.finishComm C.P (EG C.bc C.bs xv z1 z2) .select 0 undef false)).setIfInBounds 0 (a0.finishComm C.P #[rcase C.bc z] (.recv true) 0 xv true):=by
    rw[Array.setIfInBounds_comm];omega
   have hS:=zl (s:=s) (z:=z) (xv:=xv) (z1:=z1) (z2:=z2) (f0:=a0.frame.fn) (fj:=b0.frame.fn) (p0:=a0.frame.place) (pj:=b0.frame.place) h hc hbk hob h1 h2 hO2 hI2 hcomm;exact⟨_,_,_,hr,AY,h3 hpw hS⟩
  cases e
 have hc2:w.heap[C.bs]? =some (.chan 0 #[] true s2 s2 false):=by simpa[hm] using hc2
 have hao:offersAt a C.bc false=[]/\offersAt a C.bs true=[]:=by
  rcases h.MB with ⟨ha,_⟩|⟨e,_⟩|⟨_,_,_,ho,_⟩;exact⟨offersAt_of_not_blocked (by rw[ha];simp) _ _,offersAt_of_not_blocked (by rw[ha];simp) _ _⟩;exact absurd e hm;exact⟨zi ho _ _,zi ho _ _⟩
 rw[hao.1] at hp1;rw[hao.2] at hp2;have hr:=vK (sl:=sl') h.ne.1 h.cf.UD hst hc hc2 hp1 hp2;rw[Jh] at hr
 have hcf:=zf (b':=b0.finishComm C.P (EG C.bc C.bs xv z1 z2) .select 1 z2 false) (u:=#[{g:=C.j,fn:=b0.frame.fn,pos:=b0.frame.place,act:=.recvClosed C.bs}]) h.cf (λop hop=>by
  simp at hop;subst hop;exact⟨rfl,rfl,(h.Dh (RI C)).1,AY⟩) (jw:=dW) (by rw[Deaf_push];exact h.cf.dw)
 exact⟨_,w,_,by simpa using hr,AY,ihs ⟨hcf,h.ne,by
   rcases h.MB with x|⟨e,_⟩|⟨e1,e2,e3⟩;exact .inl x;exact absurd e hm
   exact .inr (.inr ⟨e1,AY,e3⟩),λ_=>.inl ⟨rfl,.refl _⟩,λe=>(by cases e),.inr rfl,λ_=>h.iw AY,h.ow,⟨s,hc⟩,⟨s2,by simpa[hm] using hc2⟩,h.wg,λ_=>hdw,λe=>absurd e hm,λe=>(by cases e)⟩⟩
end
section
variable {C:Cx} {Fin:Nat->Goroutine->Own C.SR->Prop} {ms ms':MS} {ws:WS} {k kW:Nat} {a0 a0' b0 b0':Goroutine} {oM Rq oW Vp:Own C.SR} {gs:Array Goroutine} {w w':World} {sl':Option (Nat×Nat)} {t:Trace} {q:Nat->Nat} {a b:Goroutine} {OW:Nat->Prop} {dW:Nat}
theorem AGG(h:St C .work ws k kW a0 b0 oM oW gs w t q a b OW dW)(ha:a.status=.running){o':Own C.SR}{es:Array Event}(hs:stepG C.P true a0 w=.go a0' w' es)(hp:NG oM o' w w' es)(hr:a0'.status=.running)
  (ih:All C Fin .work ws k kW a0' b0 o' oW):Turn C Fin gs w sl' t 0:=by
 have kp: ∀x,C.SY x->w'.heap[x]? =w.heap[x]? :=λx hx=>hp.keep x (h.Dh hx).1 (h.Dh hx).2.2.1
 obtain⟨gs',t',b',h1,h2,h3⟩:=bI (sl':=sl') (ms':=.work) (k':=k) (Rq:=o') h (h.MB.sm ha) hs hr hp.sz (λx hx hO _=>hp.keep x hx hO) hp.same hp.O' hp.I' (hp.ev0 h.cf) (by rw[eQ hp]) (h.c1.keep (kp _ (Nh C))) (h.c2.keep (kp _ (RI C))) (h.wg.keep (kp _ (IC C)))
  (λe=>(qm (h.Rt e) λ_ e2=>⟨by have:=h.c1.keep (kp _ (Nh C));rw[e2] at this;exact this,by have:=h.c2.keep (kp _ (RI C));simpa using this⟩).1) h.kk
 exact⟨gs',w',t',h1,h2,ih h3⟩
theorem ACD(h:PW C (.work false) kW b0 oW){w:World}(hI:oW.I w)(hc:L8 w C.bc false){xv z1 z2:Value}(hs:stepG C.P false b0 w=.comm b0 (EG C.bc C.bs xv z1 z2) true .select w #[]):
  ∃bk ob o',C.Cs kW xv bk ob/\oW.O bk/\(∀w,oW.I w->w.heap[bk]? =some ob)/\(∀x,o'.O x->oW.O x/\x≠bk)/\(∀w,oW.I w->o'.I w)/\PW C (.work false) (kW+1) (b0.finishComm C.P (EG C.bc C.bs xv z1 z2) .select 0 undef false) o':=by
 cases h with
 |Ph nx no hr hst _=>
  obtain⟨w',es,h1,_⟩:=hst w hI;rw[h1] at hs;cases hs
 | @sel _ _ _ o' xv' bk ob z1' z2' hr ho h1 h2 h3 h4 h5 h6 h7 _=>
  have h8:=h4 w hI;rw[hs] at h8;simp only[GStep.comm.injEq,EG,scase,rcase,QR,DJ,CommCase.mk.injEq,BD,and_true,true_and] at h8;obtain⟨⟨e1,e2⟩,e3⟩:=h8;subst e1 e2 e3;exact⟨bk,ob,o',h1,h2,h3,h5,h6,h7⟩
 |clo hr _ _ _ _ hst _=>
  obtain⟨w',hw'⟩:=SH hc;rw[hst w w' hI hw'] at hs;cases hs
 |free _ hf _ _ _=>cases hf
theorem AGH(hpw:PW C ws kW b0 oW)(h:St C .work ws k kW a0 b0 oM oW gs w t q a b OW dW)(ha:a.status=.running)(hsl:b.status≠ .blocked->WR C Fin .work ws k kW a0 b0 oM oW gs.size q){z:Value}{go:Value->Nat->Obj->Own C.SR}
  (hs: ∀w,oM.I w->stepG C.P true a0 w=.comm a0 #[rcase C.bc z] true (.recv true) w #[]) (hO: ∀xv bk ob,C.Cs k xv bk ob->∀x,(go xv bk ob).O x↔oM.O x\/x=bk) (hI: ∀xv bk ob,C.Cs k xv bk ob->∀w,oM.I w->¬oM.O bk->w.heap[bk]? =some ob->(go xv bk ob).I w)
  (ihg: ∀xv bk ob,C.Cs k xv bk ob->∀{ws kW b0 oW},PW C ws kW b0 oW->All C Fin .work ws (k+1) kW (a0.finishComm C.P #[rcase C.bc z] (.recv true) 0 xv true) b0 (go xv bk ob) oW)
  (ihc:k=C.N->All C Fin .work ws k kW (a0.finishComm C.P #[rcase C.bc z] (.recv true) 0 z false) b0 oM oW):Turn C Fin gs w sl' t 0:=by
 have hjp:=h.cf.hj;(have hst:stepG C.P (0==0) a w=.comm a0 #[rcase C.bc z] true (.recv true) w #[]:=by rw[show ((0:Nat)==0)=true from rfl,(h.MB.sm ha).step];exact hs w h.cf.im);obtain⟨s,hc⟩:=h.c1;have hp:=AJL h C.bc true
 cases hw:ws.Iy with
 |true=>
  (have hwq:ws≠ .quit:=λe=>by rw[e] at hw;cases hw);rw[hw] at hc;have hc:w.heap[C.bc]? =some (.chan 0 #[] false s s false):=hc;rcases h.Rt hwq with ⟨hb,AGI⟩|⟨_,e2,xv,z1,z2,rfl,hcm⟩
  ·
   rw[offersAt_of_not_blocked (by rw[hb];simp)] at hp;have hr:=zV (sl:=sl') h.cf.at0 hst hc hp;rw[Jh] at hr;have hcf:=zZ (a':=parked a0 #[rcase C.bc z] (.recv true)) (u:=#[]) h.cf (λop hop=>by simp at hop) (by simp;exact h.cf.dm);exact⟨_,w,#[],hr,AY,hsl (by rw[hb];simp) AY ⟨hcf,h.ne,.inr (.inl ⟨rfl,hw,z,rfl,hs⟩),h.Rt,h.qu,.inr hb,h.iw,h.ow,h.c1,h.c2,h.wg,h.dw,h.kk,KD (u:=#[]) h.rel λop hop=>by simp at hop⟩ rfl⟩
  ·
   subst e2;have ho:=(jq (v:=xv) (z1:=z1) (z2:=z2) h.ne.1 b0 .select).1;rw[ho] at hp;simp only[AL,BC] at hp;have hr:=iE (sl:=sl') h.ne.1 h.cf.at0 hst hc Ac h.cf.UD hp;rw[Jh] at hr;obtain⟨bk,ob,o',g1,g2,g3,g4,g5,g6⟩:=ACD hpw (h.iw AY) ⟨s,hc⟩ (hcm w (h.iw AY));obtain⟨q1,q2⟩:=(h.kk rfl).1 false rfl;(have g1':C.Cs k xv bk ob:=by rw[<- q1];exact g1);have hS:=zl (s:=s) (z:=z) (xv:=xv) (z1:=z1) (z2:=z2) (f0:=a0.frame.fn) (fj:=b0.frame.fn) (p0:=a0.frame.place) (pj:=b0.frame.place) h hc g2 g3 (hO xv bk ob g1') (hI xv bk ob g1') g4 g5 rfl;exact⟨_,_,_,hr,AY,ihg xv bk ob g1' g6 hS⟩
 |false=>
  rw[hw] at hc;have hc:w.heap[C.bc]? =some (.chan 0 #[] true s s false):=hc
  have Yh:offersAt b C.bc true=[]:=by
   by_cases hq:ws=.quit
   ·obtain⟨n,hn⟩:=h.qu hq;exact offersAt_of_not_blocked (by rcases hn.status with e|e<;>rw[e]<;>simp) _ _
   rcases h.Rt hq with ⟨hb,_⟩|⟨_,e2,_⟩;exact offersAt_of_not_blocked (by rw[hb];simp) _ _;rw[e2] at hw;cases hw
  rw[Yh] at hp;have hr:=crowd_recv_closed (sl:=sl') h.cf.at0 hst hc hp;rw[Jh] at hr
  have hcf:=zZ (a':=a0.finishComm C.P #[rcase C.bc z] (.recv true) 0 z false) (u:=#[{g:=0,fn:=a0.frame.fn,pos:=a0.frame.place,act:=.recvClosed C.bc}]) h.cf (λop hop=>by
   simp at hop;subst hop;exact⟨rfl,rfl,(h.Dh (Nh C)).1,AY⟩) (by rw[Deaf_push];exact h.cf.dm)
  exact⟨_,w,_,by simpa using hr,AY,ihc ((h.kk rfl).2 hw) ⟨hcf,h.ne,.inl ⟨rfl,.refl _⟩,h.Rt,h.qu,.inl rfl,h.iw,h.ow,h.c1,h.c2,h.wg,h.dw,h.kk,KD h.rel λop hop=>by simp at hop;subst hop;exact .inr rfl⟩⟩
theorem Zc(h:LZ C ms ws w)(hm:ms≠ .ws2):((ws≠ .quit/\ws≠ .NP/\ws≠ .UF/\(ms=.work\/ms=.bD\/ms=.Um))/\WA C w KQ 0)\/(ws=.quit/\WA C w 0 0):=by
 unfold LZ at h;cases ws<;>simp only at h
 ·rcases h with ⟨a,b⟩|⟨a,_⟩;exact .inl ⟨⟨AY,AY,AY,a⟩,b⟩;exact absurd a hm
 ·rcases h with ⟨a,b⟩|⟨a,_⟩;exact .inl ⟨⟨AY,AY,AY,a⟩,b⟩;exact absurd a hm
 ·rcases h with ⟨a,b⟩|⟨a,_⟩;exact .inl ⟨⟨AY,AY,AY,a⟩,b⟩;exact absurd a hm
 ·rcases h with ⟨a,b⟩|⟨a,_⟩;exact .inl ⟨⟨AY,AY,AY,a⟩,b⟩;exact absurd a hm
 exact absurd h.1 hm;exact absurd h.1 hm;rcases h with ⟨a,_⟩|⟨_,b⟩;exact absurd a hm;exact .inr ⟨rfl,b⟩
theorem zn{w':World}(h:(ws≠ .quit/\ws≠ .NP/\ws≠ .UF)/\WA C w' KQ 0)(hm:ms=.work\/ms=.bD\/ms=.Um):LZ C ms ws w':=by
 unfold LZ;(cases ws<;>simp only);exact .inl ⟨hm,h.2⟩;exact .inl ⟨hm,h.2⟩;exact .inl ⟨hm,h.2⟩;exact .inl ⟨hm,h.2⟩;exact absurd rfl h.1.2.1;exact absurd rfl h.1.2.2;exact absurd rfl h.1.1
theorem AJN(h:St C .work ws k kW a0 b0 oM oW gs w t q a b OW dW)(ha:a.status=.running){es:Array Event}(hr:a0'.status=.running)(hmw:mayWake C.P a0=true)(hce:UG C.bs es)
  (hs: ∀w w',oM.I w->Pg w C.bs w'->stepG C.P true a0 w=.go a0' w' es) (ih:All C Fin .bD ws k kW a0' b0 oM oW):Turn C Fin gs w sl' t 0:=by
 have hsm:=h.MB.sm ha;obtain⟨w',hw'⟩:=SH (show L8 w C.bs false from h.c2);obtain⟨f1,f2,f3,f4,f5,f6⟩:=WT hw'
 have hwk:woken C.P a a0' w' b=b.again w':=by
  unfold woken;rw[WU hsm,hmw,hr];rfl
 have hwg:LZ C .bD ws w':=by
  rcases Zc h.wg AY with ⟨h1,h2⟩|⟨rfl,h2⟩
  ·exact zn ⟨⟨h1.1,h1.2.1,h1.2.2.1⟩,h2.keep (f3 _ h.ne.2.2)⟩ (.inr (.inl rfl))
  exact .inr ⟨AY,h2.keep (f3 _ h.ne.2.2)⟩
 obtain⟨gs',t',b',h1,h2,h3⟩:=bI (sl':=sl') (ms':=.bD) (k':=k) (Rq:=oM) h hsm (hs w w' h.cf.im hw') hr (by rw[f2];exact AP _) (λx hx hO hS=>f3 x λe=>hS (by rw[e];exact RI C)) ⟨f4,f5,f6⟩ (λx=>⟨.inl,λy=>y.elim id λz=>by omega⟩)
  (oM.st w w' h.cf.im (λx hx=>f3 x λe=>by
   rcases hx with hx|hx;exact (h.Dh (RI C)).2.2.1 (by rw[<- e];exact hx)
   exact (h.Dh (RI C)).2.2.2 (by rw[<- e];exact hx)) (by rw[f2];exact AP _) f4 f5)
  (λe he=>qo (RI C) (h.Dh (RI C)).2.1 (h.Dh (RI C)).2.2.2 (by rw[f2];exact (h.Dh (RI C)).1) ((hce e he).elim (λx=>.inr (.inl x)) (λx=>.inr (.inr x)))) (by rw[eU hce];rfl)
  (h.c1.keep (f3 _ h.ne.1)) f1 hwg
  (λe=>by
   rcases h.Rt e with ⟨hb,AGI⟩|⟨_,e2,xv,z1,z2,rfl,_⟩;rw[woken_run hb];exact .inl ⟨hb,AGI⟩;rw[hwk];obtain⟨s1,hs1⟩:=f1;(have hc1:L8 w' C.bc false:=by have:=h.c1.keep (f3 _ h.ne.1);rw[e2] at this;exact this);obtain⟨s2,hs2⟩:=hc1;rw[iG hs2 hs1]
   exact .inl ⟨rfl,rfl,rfl,rfl⟩) (λe=>by cases e)
 exact⟨gs',w',t',h1,h2,ih h3⟩
theorem zo(h:St C ms ws k kW a0 b0 oM oW gs w t q a b OW dW)(hm:ms≠ .work)(hq:ws≠ .quit):b.status=.running/\Sm b b0:=by
 rcases h.Rt hq with x|⟨e,_⟩;exact x;exact absurd e hm
theorem TU{es:Array Event}(hm:ms≠ .work)(hm':ms'≠ .work)(h:St C ms ws k kW a0 b0 oM oW gs w t q a b OW dW)(ha:a.status=.running)(hs:stepG C.P true a0 w=.go a0' w' es)(hr:a0'.status=.running)
  (hw':(∀x,x≠C.wg->w'.heap[x]? =w.heap[x]?)/\w'.heap.size=w.heap.size/\w'.tape=w.tape/\w'.os=w.os/\w'.output=w.output)
  (hes: ∀e∈es,Ev0 C OW w'.heap.size e) (hd:deafBehind ms.deaf es=ms'.deaf) (hwg:LZ C ms' ws w') (ih:All C Fin ms' ws k kW a0' b0 oM oW):Turn C Fin gs w sl' t 0:=by
 obtain⟨f1,f2,f3,f4,f5⟩:=hw'
 obtain⟨gs',t',b',h1,h2,h3⟩:=bI (sl':=sl') (ms':=ms') (k':=k) (Rq:=oM) h (h.MB.sm ha) hs hr (by rw[f2];exact AP _) (λx hx hO hS=>f1 x λe=>hS (by rw[e];exact IC C)) ⟨f3,f4,f5⟩ (λx=>⟨.inl,λy=>y.elim id λz=>by omega⟩)
  (oM.st w w' h.cf.im (λx hx=>f1 x λe=>by
   rcases hx with hx|hx;exact (h.Dh (IC C)).2.2.1 (by rw[<- e];exact hx)
   exact (h.Dh (IC C)).2.2.2 (by rw[<- e];exact hx)) (by rw[f2];exact AP _) f3 f4) hes hd
  (h.c1.keep (f1 _ (CJ h.ne.2.1))) (by have:=h.c2.keep (f1 _ (CJ h.ne.2.2));simpa[hm,hm'] using this) hwg
  (λe=>by obtain⟨x,y⟩:=zo h hm e;rw[woken_run x];exact .inl ⟨x,y⟩) (λe=>absurd e hm')
 exact⟨gs',w',t',h1,h2,ih h3⟩
theorem SI(h:St C ms ws k kW a0 b0 oM oW gs w t q a b OW dW)(hsz:w'.heap.size=w.heap.size){e:Event}(he:(∃o x,e=⟨.cell ⟨C.wg,o,none⟩,x,true⟩)\/e=mkS .disable\/e=mkS .enable):Ev0 C OW w'.heap.size e:=by
 rcases he with he|rfl|rfl;exact qo (IC C) (h.Dh (IC C)).2.1 (h.Dh (IC C)).2.2.2 (by rw[hsz];exact (h.Dh (IC C)).1) (.inl he);exact bG rfl AY trivial;exact bG rfl AY trivial
theorem JK(w:World):(∀x,x≠C.wg->w.heap[x]? =w.heap[x]?)/\w.heap.size=w.heap.size/\w.tape=w.tape/\w.os=w.os/\w.output=w.output:=⟨λ_ _=>rfl,rfl,rfl,rfl,rfl⟩
theorem AGJ(hf:ms.free=true)(h:St C ms ws k kW a0 b0 oM oW gs w t q a b OW dW)(ha:a.status=.running)(hr:a0'.status=.running){es:Array Event}(hs:stepG C.P true a0 w=.go a0' w es)(hes: ∀e∈es,e=mkS (.write (Nc C.wg)))(ih:All C Fin ms ws k kW a0' b0 oM oW):Turn C Fin gs w sl' t 0:=by
 (have hm:ms≠ .work:=λe=>by rw[e] at hf;cases hf);refine TU hm hm h ha hs hr (JK w) (λe he=>?_) (deafBehind_still (λe he=>by rw[hes e he];simp[mkS]) _) h.wg ih;rw[hes e he];refine⟨λx hx=>?_,by simp[mkS],(h.Dh (IC C)).1⟩;simp only[mkS,MemAct.ofEvent,MemAct.touch?,BD] at hx;subst hx;intro b hb;simp only[Loc.blk,BD,Nc] at hb;subst hb;exact .inr (.inr ⟨IC C,(h.Dh (IC C)).2.1,(h.Dh (IC C)).2.2.2,AY⟩)
end
section
variable {C:Cx} {Fin:Nat->Goroutine->Own C.SR->Prop} {ms ms':MS} {ws:WS} {k kW:Nat} {a0 a0' b0 b0':Goroutine} {oM Rq oW Vp:Own C.SR} {gs:Array Goroutine} {w w':World} {sl':Option (Nat×Nat)} {t:Trace} {q:Nat->Nat} {a b:Goroutine} {OW:Nat->Prop} {dW:Nat}
theorem AMf(h:St C .bD ws k kW a0 b0 oM oW gs w t q a b OW dW)(ha:a.status=.running)(hr:a0'.status=.running)(hs: ∀w,Live C w->stepG C.P true a0 w=.go a0' w #[mkS .disable])(ih:All C Fin .Um ws k kW a0' b0 oM oW):Turn C Fin gs w sl' t 0:=by
 refine TU (ms':=.Um) AY AY h ha (hs w h.wg.live) hr (JK w) (λe he=>SI h rfl (by simp at he;exact .inr (.inl he))) rfl ?_ ih;rcases Zc h.wg AY with ⟨h1,h2⟩|⟨rfl,h2⟩
 ·exact zn ⟨⟨h1.1,h1.2.1,h1.2.2.1⟩,h2⟩ (.inr (.inr rfl))
 exact .inr ⟨AY,h2⟩
theorem AMg{a1 a2:Goroutine}(h:St C .Um ws k kW a0 b0 oM oW gs w t q a b OW dW)(ha:a.status=.running)(hr1:a1.status=.running)(hr2:a2.status=.running)(h1: ∀w,WA C w KQ 0->stepG C.P true a0 w=.go a1 w #[Iq C])(h2: ∀w,WA C w 0 0->stepG C.P true a0 w=.go a2 w #[Iq C])
  (ih1:All C Fin .Um ws k kW a1 b0 oM oW) (ih2:All C Fin .QC ws k kW a2 b0 oM oW):Turn C Fin gs w sl' t 0:=by
 have hev: ∀e∈(#[Iq C]:Array Event),Ev0 C OW w.heap.size e:=λe he=>SI h rfl (by simp at he;subst he;exact .inl ⟨0,false,rfl⟩);have hd:deafBehind 1 #[Iq C]=1:=deafBehind_still (λe he=>by simp at he;subst he;simp[Iq]) 1;rcases Zc h.wg AY with ⟨g1,g2⟩|⟨rfl,g2⟩
 ·exact TU (ms':=.Um) AY AY h ha (h1 w g2) hr1 (JK w) hev hd h.wg ih1
 exact TU (ms':=.QC) AY AY h ha (h2 w g2) hr2 (JK w) hev hd (.inr ⟨AY,g2⟩) ih2
theorem AMh{a1 a2:Goroutine}(h:St C .Um ws k kW a0 b0 oM oW gs w t q a b OW dW)(ha:a.status=.running)(hr1:a1.status=.running)(hr2:a2.status=.running)(h1: ∀w,WA C w KQ 0->stepG C.P true a0 w=.go a1 (w.setCell (FU C.wg) (.int .u64 (KQ+1))) #[Iq C,UE C])
  (h2: ∀w,WA C w 0 0->stepG C.P true a0 w=.go a2 w #[Iq C]) (ih1:All C Fin .ws2 ws k kW a1 b0 oM oW) (ih2:All C Fin .QC ws k kW a2 b0 oM oW):Turn C Fin gs w sl' t 0:=by
 have hev: ∀e∈(#[Iq C]:Array Event),Ev0 C OW w.heap.size e:=λe he=>SI h rfl (by simp at he;subst he;exact .inl ⟨0,false,rfl⟩);have hd:deafBehind 1 #[Iq C]=1:=deafBehind_still (λe he=>by simp at he;subst he;simp[Iq]) 1;rcases Zc h.wg AY with ⟨g1,g2⟩|⟨rfl,g2⟩
 ·have hwf:=NQ w (FU C.wg) (.int .u64 (KQ+1));refine TU (ms':=.ws2) AY AY h ha (h1 w g2) hr1 hwf (λe he=>SI h hwf.2.1 ?_) (deafBehind_still (λe he=>?_) 1) ?_ ih1
  ·simp only[Bv,AA,AB,or_false] at he;rcases he with rfl|rfl;exact .inl ⟨0,false,rfl⟩;exact .inl ⟨0,true,rfl⟩
  ·simp only[Bv,AA,AB,or_false] at he;rcases he with rfl|rfl<;>simp[Iq,UE]
  have hW:=g2.setSt (KQ+1);unfold LZ;(cases ws<;>simp only);exact .inr ⟨trivial,hW⟩;exact .inr ⟨trivial,hW⟩;exact .inr ⟨trivial,hW⟩;exact .inr ⟨trivial,hW⟩;exact absurd rfl g1.2.1;exact absurd rfl g1.2.2.1;exact absurd rfl g1.1
 exact TU (ms':=.QC) AY AY h ha (h2 w g2) hr2 (JK w) hev hd (.inr ⟨AY,g2⟩) ih2
theorem Zd(h:LZ C ms ws w)(hm:ms=.pX\/ms=.QC\/ms=.pY):ws=.quit/\WA C w 0 0:=by
 rcases Zc h (by rcases hm with e|e|e<;>rw[e]<;>simp) with ⟨⟨_,_,_,h1⟩,_⟩|h1
 ·rcases hm with rfl|rfl|rfl<;>rcases h1 with e|e|e<;>cases e
 exact h1
theorem AJO(h:St C .QC ws k kW a0 b0 oM oW gs w t q a b OW dW)(ha:a.status=.running)(hr:a0'.status=.running)(hs: ∀w,WA C w 0 0->stepG C.P true a0 w=.go a0' w #[Iq C])(ih:All C Fin .QC ws k kW a0' b0 oM oW):Turn C Fin gs w sl' t 0:=
 TU (ms':=.QC) AY AY h ha (hs w (Zd h.wg (.inr (.inl rfl))).2) hr (JK w) (λe he=>SI h rfl (by simp at he;subst he;exact .inl ⟨0,false,rfl⟩)) (deafBehind_still (λe he=>by simp at he;subst he;simp[Iq]) 1) h.wg ih
theorem AMi(h:St C .pX ws k kW a0 b0 oM oW gs w t q a b OW dW)(ha:a.status=.running)(hr:a0'.status=.running)(hs: ∀w,WA C w 0 0->stepG C.P true a0 w=.go a0' w #[Iq C])(ih:All C Fin .QC ws k kW a0' b0 oM oW):Turn C Fin gs w sl' t 0:=by
 obtain⟨rfl,hW⟩:=Zd h.wg (.inl rfl);exact TU (ms':=.QC) AY AY h ha (hs w hW) hr (JK w) (λe he=>SI h rfl (by simp at he;subst he;exact .inl ⟨0,false,rfl⟩)) (deafBehind_still (λe he=>by simp at he;subst he;simp[Iq]) 1) (.inr ⟨AY,hW⟩) ih
theorem AMj(h:St C .QC ws k kW a0 b0 oM oW gs w t q a b OW dW)(ha:a.status=.running)(hr:a0'.status=.running)(hs: ∀w,Live C w->stepG C.P true a0 w=.go a0' w #[mkS .enable])(ih:All C Fin .pY ws k kW a0' b0 oM oW):Turn C Fin gs w sl' t 0:=by
 obtain⟨rfl,hW⟩:=Zd h.wg (.inr (.inl rfl));exact TU (ms':=.pY) AY AY h ha (hs w h.wg.live) hr (JK w) (λe he=>SI h rfl (by simp at he;exact .inr (.inr he))) rfl (.inr ⟨AY,hW⟩) ih
theorem AMk(h:St C .ws2 ws k kW a0 b0 oM oW gs w t q a b OW dW)(ha:a.status=.running)(hsl:b.status≠ .blocked->WR C Fin .ws2 ws k kW a0 b0 oM oW gs.size q)(ho:a0.offers=none)(hr:a0'.status=.running)
  (h0: ∀w st,WA C w st 0->stepG C.P true a0 w=.go {a0 with status:=.blocked} w #[]) (h1: ∀w,WA C w 0 1->stepG C.P true a0 w=.go a0' (w.setCell (Nc C.wg) (.int .u32 0)) (semEvents (Nc C.wg))) (ih:All C Fin .pX ws k kW a0' b0 oM oW):Turn C Fin gs w sl' t 0:=by
 have hcase:(ws≠ .quit/\∃st,WA C w st 0)\/(ws=.quit/\WA C w 0 1):=by
  have hw:=h.wg;unfold LZ at hw;(cases ws<;>simp only at hw);exact .inl ⟨AY,hw.elim (λx=>⟨_,x.2⟩) λx=>⟨_,x.2⟩⟩;exact .inl ⟨AY,hw.elim (λx=>⟨_,x.2⟩) λx=>⟨_,x.2⟩⟩;exact .inl ⟨AY,hw.elim (λx=>⟨_,x.2⟩) λx=>⟨_,x.2⟩⟩;exact .inl ⟨AY,hw.elim (λx=>⟨_,x.2⟩) λx=>⟨_,x.2⟩⟩;exact .inl ⟨AY,_,hw.2⟩;exact .inl ⟨AY,_,hw.2⟩;exact .inr ⟨rfl,hw.elim (λx=>x.2) λx=>absurd rfl x.1⟩
 have hsm:=h.MB.sm ha;rcases hcase with ⟨hq,st,hW⟩|⟨rfl,hW⟩
 ·obtain⟨hb,AGI⟩:=zo h AY hq;obtain⟨g1,g2,g3⟩:=bC (sl':=sl') (Rq:=oM) h.cf (by rw[hsm.step];exact h0 w st hW) (AP _) (λ_ _ _ _=>rfl) ⟨rfl,rfl,rfl⟩ (λx=>⟨.inl,λy=>y.elim id λz=>by omega⟩) h.cf.im (λe he=>by simp at he);rw[woken_run hb] at g3;refine⟨_,w,_,g1,g2,hsl (by rw[hb];simp) g2 ⟨g3,h.ne,.inr (.inr ⟨rfl,hq,rfl,ho,rfl,rfl,rfl⟩),h.Rt,h.qu,.inr hb,h.iw,h.ow,h.c1,h.c2,h.wg,h.dw,h.kk,KD h.rel λop hop=>?_⟩ rfl⟩;obtain⟨e,he,_⟩:=Go.Conc.mem_ofEvents hop;simp at he
 have hwf:=NQ w (Nc C.wg) (.int .u32 0);refine TU (ms':=.pX) AY AY h ha (h1 w hW) hr hwf (λe he=>SI h hwf.2.1 ?_) ?_ (.inr ⟨AY,hW.setSm 0⟩) ih
 ·simp only[semEvents,Bv,AA,AB,or_false] at he;rcases he with rfl|rfl|rfl|rfl;exact .inr (.inl rfl);exact .inl ⟨1,false,rfl⟩;exact .inl ⟨1,true,rfl⟩;exact .inr (.inr rfl)
 simp[semEvents,deafBehind,MS.deaf]
theorem AJP(h:St C .pY ws k kW a0 b0 oM oW gs w t q a b OW dW)(ha:a.status=.running)(_:a0'.status=.running)(hs: ∀w,Live C w->stepG C.P true a0 w=.go a0' w #[mkS (.acquire (FU C.wg))])(hfin:Fin k a0' oM)(hfw:ws=.quit->C.FW oW):Turn C Fin gs w sl' t 0:=by
 obtain⟨rfl,hW⟩:=Zd h.wg (.inr (.inr rfl));obtain⟨n,hn⟩:=h.qu rfl;have AJ9:=(h.Dh (IC C)).1
 obtain⟨g1,g2,g3⟩:=bC (sl':=sl') (Rq:=oM) h.cf (by rw[(h.MB.sm ha).step];exact hs w h.wg.live) (AP _) (λ_ _ _ _=>rfl) ⟨rfl,rfl,rfl⟩ (λx=>⟨.inl,λy=>y.elim id λz=>by omega⟩) h.cf.im (λe he=>by
  simp at he;subst he;exact bG rfl AY AJ9)
 rw[woken_quitsD hn] at g3;(have hu:MemOp.ofEvents 0 a.frame.fn a.frame.place #[mkS (.acquire (FU C.wg))]= #[{g:=0,fn:=a.frame.fn,pos:=a.frame.place,act:=.mark (.acquire (FU C.wg))}]:=by simp[MemOp.ofEvents,mkS,MemAct.ofEvent]);rw[hu] at g1 g3;have hd0:deafBehind MS.pY.deaf #[mkS (.acquire (FU C.wg))]=0:=rfl;rw[hd0] at g3;obtain⟨r,hrel⟩:=h.rel rfl;generalize hT:t++ #[({g:=0,fn:=a.frame.fn,pos:=a.frame.place,act:=.mark (.acquire (FU C.wg))}:MemOp)]=T at g3⊢;(have hlast:T[t.size]? =some {g:=0,fn:=a.frame.fn,pos:=a.frame.place,act:=.mark (.acquire (FU C.wg))}:=by rw[<- hT,Ht (AP _)];simp);have vM:KC C T r:=by rw[<- hT];exact hrel.app' λop hop=>by simp at hop;subst hop;exact .inr rfl
 have hkr:Knows T 0 r:=by
  refine⟨t.size,_,hlast,rfl,.inr (.single (.inr ⟨.marked hrel.lt (.inr vM.act) (act?_of hlast) (λx _ _=>g3.norel x),vM.heard,⟨0,g?_of hlast,?_⟩⟩))⟩;rw[<- hT,deaf_old (AP _)];exact h.cf.dm
 (have hj0:C.j≠0:=by have:=h.cf.hj;omega);refine⟨_,w,_,g1,g2,⟨0,_,w,sl',T,λi=>if i=C.j then n else q i,a0',k,oM,by rw[hT];rfl,rfl,⟨g3.at0,⟨λi g hi hg=>?_,g3.above⟩,⟨g3.ti.clean,λi x hx hm=>?_,?_,g3.dm,g3.low⟩⟩,hfin,h.cf.im,λx hx=>?_,λx hx=>?_,h.cf.sz,h.cf.keep.1,h.cf.same.1,h.cf.same.2.1,h.cf.same.2.2,⟨oW,hfw rfl,h.iw (.inr trivial)⟩,λb hb=>h.cf.keep.2 b (.inl hb)⟩⟩
 ·by_cases hij:i=C.j
  ·subst hij;rw[g3.UD] at hg;obtain rfl:=BQ hg;simp only[if_true];rw[g3.dw];exact hn
  simp only[hij,if_false];exact g3.old i g hi hij hg
 ·rcases g3.ti.all i x hx hm with h1|h1|⟨h1,h2⟩;exact .inl h1
  ·rcases vM.all i x hx hm h1 with h2|⟨h2,h3,_⟩;exact .inl (Knows.of_before h2 hkr);refine .inr ⟨?_,h3⟩;cases hl:x.loc<;>rw[hl] at h2<;>simp only[Loc.blk,BD] at h2<;>first|exact .inr h2|cases h2
  refine .inr ⟨?_,h2⟩;cases hl:x.loc<;>rw[hl] at h1<;>first|exact .inl h1|exact h1.elim
 ·intro i g hg hg0 hc;by_cases hgj:g=C.j
  ·subst hgj;obtain⟨x,hx,hm,hk⟩:=hc
   have hb:Before T i r:=by
    rcases vM.all i x hx hm hg with h2|⟨_,h3,h4⟩;exact h2;rcases hk with hk|hk;exact absurd h3 hk;exact absurd hk h4
   obtain⟨y,z,hy,hz,hby⟩:=Knows.of_before hb hkr;refine⟨y,by rw[g?_of hy,hz],?_⟩;rcases hby with rfl|hby
   ·rw[g?_of hy] at hg;have:=BQ hg;rw[hz] at this;exact absurd this.symm hj0
   exact hby
  exact g3.over i g hg hg0 hgj hc
 ·have h1:=h.cf.om x hx;exact⟨h1.1,λe=>e.elim h1.2.2.2.2 λe=>h1.2.2.2.1 (by rw[e];exact IC C)⟩
 rcases hx with e|rfl;exact h.cf.z x e;exact AJ9
theorem inner(hand:Hand C Fin ms k a0 oM)
  (t0: ∀{ws kW b0 oW},PW C ws kW b0 oW->∀{gs w sl' t q a b OW dW},St C ms ws k kW a0 b0 oM oW gs w t q a b OW dW->a.status=.running->(b.status≠ .blocked->WR C Fin ms ws k kW a0 b0 oM oW gs.size q)->Turn C Fin gs w sl' t 0):
  ∀{ws kW b0 oW},PW C ws kW b0 oW->All C Fin ms ws k kW a0 b0 oM oW:=by
 intro ws kW b0 oW hW
 induction hW with
 | @Ph s kW b o nx no hr hst hpw ih=>
  intro gs w sl t q a b OW dW h;refine Jg AY (t0 (.Ph nx no hr hst hpw)) (λ{gs w sl' t q a b OW dW} h hb _=>?_) h;have hI:=h.iw AY;obtain⟨w',es,h1,h2⟩:=hst w hI;exact AGE h hb h1 h2 ((hpw w hI).run AY) (ih w hI)
 | @sel kW b o o' xv bk ob z1 z2 hr ho hcs hbk hob hst hO2 hI2 hp1 hp2 ih1 ih2=>
  intro gs w sl t q a b OW dW h;exact Jg AY (t0 (.sel hr ho hcs hbk hob hst hO2 hI2 hp1 hp2)) (λh hb hsl=>AJM h hb hsl ho hr hcs hbk hob hst hO2 hI2 hand hp1 ih2) h
 | @clo s kW b b' o es hr hr' hmw hk hce hst hp ih=>
  intro gs w sl t q a b OW dW h;exact Jg AY (t0 (.clo hr hr' hmw hk hce hst hp)) (λh hb _=>AJK h hb hr' hmw hk hce hst ih) h
 | @free s kW b o nx hf hr hst hp ih=>
  intro gs w sl t q a b OW dW h;exact Jg (λe=>by rw[e] at hf;cases hf) (t0 (.free nx hf hr hst hp)) (λh hb _=>AGF hf h hb (hst _ h.wg.live).1 (hst _ h.wg.live).2 (ih _ h.wg.live)) h
 | @r0 kW b b' o hr hr' hst hp ih=>
  intro gs w sl t q a b OW dW h;refine Jg AY (t0 (.r0 hr hr' hst hp)) (λ{gs w sl' t q a b OW dW} h hb _=>?_) h;have hdw:dW=0:=h.dw AY;refine zh (ws':=.fin1) rfl rfl h hb hr' hst ⟨rfl,AY,(h.Dh (IC C)).1⟩ rfl (λw x=>x) (λ_=>?_) ih;(have hu:MemOp.ofEvents C.j b.frame.fn b.frame.place #[mkS (.releaseMerge (FU C.wg))]= #[{g:=C.j,fn:=b.frame.fn,pos:=b.frame.place,act:=.mark (.releaseMerge (FU C.wg))}]:=by simp[MemOp.ofEvents,mkS,MemAct.ofEvent]);rw[hu];(have hlast:(t++ #[({g:=C.j,fn:=b.frame.fn,pos:=b.frame.place,act:=.mark (.releaseMerge (FU C.wg))}:MemOp)])[t.size]? =some {g:=C.j,fn:=b.frame.fn,pos:=b.frame.place,act:=.mark (.releaseMerge (FU C.wg))}:=by rw[Ht (AP _)];simp);refine⟨t.size,act?_of hlast,g?_of hlast,⟨C.j,g?_of hlast,?_⟩,λi x hx _ hg=>.inl ?_⟩
  ·rw[deaf_old (AP _)];have:=h.cf.dw;rw[hdw] at this;exact this
  rcases Eg hx with ⟨hi,h'⟩|⟨op,hop,_,hop'⟩
  ·rw[g?_old hi] at hg;exact .inr ((zU hg).hb_new (AP _) hlast rfl)
  simp at hop;subst hop;cases hop'
 | @k1 kW b b' o hr hr' hst hp ih=>
  intro gs w sl t q a b OW dW h;refine Jg AY (t0 (.k1 hr hr' hst hp)) (λ{gs w sl' t q a b OW dW} h hb _=>?_) h;refine zh (ws':=.fin2) rfl rfl h hb hr' hst ⟨rfl,AY,trivial⟩ rfl (λw x=>x) (KD (λ_=>h.rel rfl) λop hop=>?_) ih;obtain⟨e,he,rfl⟩:=Go.Conc.mem_ofEvents hop;simp at he;subst he;exact .inr rfl
 | @d1 kW n b b1 b2 o hr hr2 h1 hq hfw h2 hp ih=>
  intro gs w sl t q a b OW dW h;exact Jg AY (t0 (.d1 hr hr2 h1 hq hfw h2 hp)) (λh hb _=>AMb h hb h1 hq hr2 h2 (RJ (b0:=b1) (λh ha hsl=>t0 (.quit hfw) h ha λ_=>λ_ hS hbl=>by rw[UI hS.MB] at hbl;cases hbl)) ih) h
 | @d2 kW b b' o hr hr' hst hp ih=>
  intro gs w sl t q a b OW dW h;exact Jg AY (t0 (.d2 hr hr' hst hp)) (λh hb _=>AMc h hb hr' hst ih) h
 | @d3 kW b b' o hr hr' hst hp ih=>
  intro gs w sl t q a b OW dW h;exact Jg AY (t0 (.d3 hr hr' hst hp)) (λh hb _=>AMd h hb hr' hst ih) h
 | @d4 kW n b b' o hr hmw hst hq hfw=>
  intro gs w sl t q a b OW dW h;exact Jg AY (t0 (.d4 hr hmw hst hq hfw)) (λh hb _=>AMe h hb hmw hst hq (RJ (b0:=b') (λh ha hsl=>t0 (.quit hfw) h ha λ_=>λ_ hS hbl=>by rw[UI hS.MB] at hbl;cases hbl))) h
 | @quit kW b o hfw=>
  intro gs w sl t q a b' OW dW h;exact RJ (b0:=b) (λh ha hsl=>t0 (.quit hfw) h ha λ_=>λ_ hS hbl=>by rw[UI hS.MB] at hbl;cases hbl) h
end
theorem JR{C:Cx}{Fin:Nat->Goroutine->Own C.SR->Prop}{ms:MS}{k:Nat}{a0:Goroutine}{oM:Own C.SR}(h:ms≠ .work):Hand C Fin ms k a0 oM:=λe=>absurd e h
theorem phase{C:Cx}{Fin:Nat->Goroutine->Own C.SR->Prop}{ms:MS}{k:Nat}{a0:Goroutine}{oM:Own C.SR}(hM:PM C Fin ms k a0 oM):
  ∀{ws kW b0 oW},PW C ws kW b0 oW->All C Fin ms ws k kW a0 b0 oM oW:=by
 induction hM with
 | @Ph k a o nx no hr hst hpm ih=>
  refine inner (λ_ z w hI _ hc=>?_) λ{ws kW b0 oW} hpw {gs w sl' t q a b OW dW} h ha _=>?_
  ·obtain⟨w',es,h1,_⟩:=hst w hI;rw[h1] at hc;cases hc
  have hI:=h.cf.im;obtain⟨w',es,h1,h2⟩:=hst w hI
  have hr':(nx w).status=.running:=by
   have:=hpm w hI;cases this<;>assumption
  exact AGG h ha h1 h2 hr' (ih w hI hpw)
 | @recv k a o z go hr ho hst hO hI hgo hcl ihg ihc=>
  refine inner (λ_ z' w hI' _ hc=>?_) λ{ws kW b0 oW} hpw {gs w sl' t q a b OW dW} h ha hsl=>AGH hpw h ha hsl hst hO hI (λxv bk ob hcs {ws kW b0 oW} hp=>ihg xv bk ob hcs hp) (λe=>ihc e hpw);rw[hst w hI'] at hc;simp only[GStep.comm.injEq,rcase,QR,DJ,CommCase.mk.injEq,and_true,true_and] at hc;subst hc;intro xv bk ob hcs;exact⟨go xv bk ob,hO xv bk ob hcs,hI xv bk ob hcs,λhp=>ihg xv bk ob hcs hp⟩
 | @clo k a a' o es hr hr' hmw hce hst hpm ih=>
  refine inner (λ_ z w hI hc1 hc=>?_) λ{ws kW b0 oW} hpw {gs w sl' t q a b OW dW} h ha _=>AJN h ha hr' hmw hce hst (ih hpw);obtain⟨w',hw'⟩:=SH hc1;rw[hst w w' hI hw'] at hc;cases hc
 | @free s k a o nx es hf hr hst hpm ih=>
  exact inner (JR (λe=>by rw[e] at hf;cases hf)) λ{ws kW b0 oW} hpw {gs w sl' t q a b OW dW} h ha _=>AGJ hf h ha (hst w h.wg.live).1 (hst w h.wg.live).2.1 (hst w h.wg.live).2.2 (ih w h.wg.live hpw)
 | @kd k a a' o hr hr' hst hpm ih=>
  exact inner (JR AY) λ{ws kW b0 oW} hpw {gs w sl' t q a b OW dW} h ha _=>AMf h ha hr' hst (ih hpw)
 | @w1 k a a1 a2 o hr hr1 hr2 h1 hp1 h2 hp2 ih1 ih2=>
  exact inner (JR AY) λ{ws kW b0 oW} hpw {gs w sl' t q a b OW dW} h ha _=>AMg h ha hr1 hr2 h1 h2 (ih1 hpw) (ih2 hpw)
 | @w2 k a a1 a2 o hr hr1 hr2 h1 hp1 h2 hp2 ih1 ih2=>
  exact inner (JR AY) λ{ws kW b0 oW} hpw {gs w sl' t q a b OW dW} h ha _=>AMh h ha hr1 hr2 h1 h2 (ih1 hpw) (ih2 hpw)
 | @w1z k a a2 o hr hr2 hst hpm ih=>
  exact inner (JR AY) λ{ws kW b0 oW} hpw {gs w sl' t q a b OW dW} h ha _=>AJO h ha hr2 hst (ih hpw)
 | @w3 k a a' o hr hr' ho h0 h1 hpm ih=>
  exact inner (JR AY) λ{ws kW b0 oW} hpw {gs w sl' t q a b OW dW} h ha hsl=>AMk h ha hsl ho hr' h0 h1 (ih hpw)
 | @w4 k a a' o hr hr' hst hpm ih=>
  exact inner (JR AY) λ{ws kW b0 oW} hpw {gs w sl' t q a b OW dW} h ha _=>AMi h ha hr' hst (ih hpw)
 | @ke k a a' o hr hr' hst hpm ih=>
  exact inner (JR AY) λ{ws kW b0 oW} hpw {gs w sl' t q a b OW dW} h ha _=>AMj h ha hr' hst (ih hpw)
 | @acq k a a' o hr hr' hst hfin=>
  exact inner (JR AY) λ{ws kW b0 oW} hpw {gs w sl' t q a b OW dW} h ha _=>AJP h ha hr' hst hfin (λe=>by subst e;cases hpw with|free _ hf _ _ _=>cases hf|quit hfw=>exact hfw)
abbrev link:Go.Conc.Lib.WgLink:={add:=74,done:=76,wait:=77,relMerge:=101,disable:=102,enable:=103,inBubble:=104,associate:=105,fatal:=106,uOr:=107,uAdd:=108,raceRead:=109,uLoad:=110,uStore:=111,disassociate:=112,semrelease:=113,acquire:=114,isAssociated:=115,uCas:=116,raceWrite:=117,semacquire:=118,orU64:=131,addU64:=132,loadU64:=133,storeU64:=134,casU64:=135,tWgP:=208,tUP:=184,tAssoc:=210,tWg:=168,tAU:=165,tU64:=163,tUint:=214,tU32:=166,tPU32:=215,tPAU:=232,tPU64:=234,tNoCopy:=160,tANoCopy:=161,tAlign64:=162}
theorem wgLib:Go.Conc.Lib.WgLib Tryz.prog link:=
 ⟨Tryz.func74,Tryz.func76,Tryz.func77,Tryz.func101,Tryz.func102,Tryz.func103,Tryz.func104,Tryz.func105,Tryz.func106,Tryz.func107,Tryz.func108,Tryz.func109,Tryz.func110,Tryz.func111,Tryz.func112,Tryz.func113,Tryz.func114,Tryz.func115,Tryz.func116,Tryz.func117,Tryz.func118,Tryz.func131,Tryz.func132,Tryz.func133,Tryz.func134,Tryz.func135,Tryz.underlying208,Tryz.runUnderlying208,Tryz.sizeOf208,Tryz.isAgg208,Tryz.zeroValue208,Tryz.underlying184,Tryz.runUnderlying184,Tryz.sizeOf184,Tryz.isAgg184,Tryz.zeroValue184,Tryz.underlying210,Tryz.runUnderlying210,Tryz.sizeOf210,Tryz.isAgg210,Tryz.zeroValue210,Tryz.underlying168,Tryz.runUnderlying168,Tryz.sizeOf168,Tryz.isAgg168,Tryz.zeroValue168,Tryz.underlying165,Tryz.runUnderlying165,Tryz.sizeOf165,Tryz.isAgg165,Tryz.zeroValue165,Tryz.underlying163,Tryz.runUnderlying163,Tryz.sizeOf163,Tryz.isAgg163,Tryz.zeroValue163,Tryz.underlying214,Tryz.runUnderlying214,Tryz.sizeOf214,Tryz.isAgg214,Tryz.zeroValue214,Tryz.underlying166,Tryz.runUnderlying166,Tryz.sizeOf166,Tryz.isAgg166,Tryz.zeroValue166,Tryz.underlying215,Tryz.runUnderlying215,Tryz.sizeOf215,Tryz.isAgg215,Tryz.zeroValue215,Tryz.underlying232,Tryz.runUnderlying232,Tryz.sizeOf232,Tryz.isAgg232,Tryz.zeroValue232,Tryz.underlying234,Tryz.runUnderlying234,Tryz.sizeOf234,Tryz.isAgg234,Tryz.zeroValue234,Tryz.underlying0,Tryz.runUnderlying0,Tryz.sizeOf0,Tryz.isAgg0,Tryz.zeroValue0,Tryz.underlying3,Tryz.runUnderlying3,Tryz.sizeOf3,Tryz.isAgg3,Tryz.zeroValue3,Tryz.underlying4,Tryz.runUnderlying4,Tryz.sizeOf4,Tryz.isAgg4,Tryz.zeroValue4,Tryz.underlying9,Tryz.runUnderlying9,Tryz.sizeOf9,Tryz.isAgg9,Tryz.zeroValue9,Tryz.underlying20,Tryz.runUnderlying20,Tryz.sizeOf20,Tryz.isAgg20,Tryz.zeroValue20,Tryz.underlying21,Tryz.runUnderlying21,Tryz.sizeOf21,Tryz.isAgg21,Tryz.zeroValue21,Ap,Ap⟩
instance:Go.ConcX.Payload:=⟨3⟩
end Go.Proofs.YtkkgcebhfghdnaaGreatDoor
