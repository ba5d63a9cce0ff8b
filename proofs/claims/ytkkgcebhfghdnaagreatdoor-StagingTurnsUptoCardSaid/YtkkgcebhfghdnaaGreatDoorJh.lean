/- Part 8 of what that rests on; no condition. -/
import Derived.Test.YtkkgcebhfghdnaaGreatDoorJg
import Derived.Conc.FxGenDone
import Derived.Conc.FxGenLone
import Derived.Conc.FxGenWait
import Derived.Test.YtkkgcebhfghdnaaGreatDoorChecked
set_option maxRecDepth 100000
set_option maxHeartbeats 8000000
open Go.Conc renaming offersAt_of_not_blocked→Yc, mem_ofEvents→KP, deafBehind_still→KT, woken_run→Lm, semEvents→JB
open Go.MemAct renaming ofEvent→Cb, touch?→DK
open Go.MemOp renaming ofEvents→DX
open Go.World renaming setChan→Yb
open Go renaming deafBehind→Ee, Goroutine→Ac, Value→AP, undef→AU, World→AL, Event→Bc, stepG→Ae, Trace→CB
open Option renaming none→AB, some→AA
namespace Go.Proofs.YtkkgcebhfghdnaaGreatDoor
open Go Go.Conc
open Go.ConcN (sumTo upd sumTo_upd upd_ne upd_same)
section
variable {es:Array Bc}{s:Bool}{c n:Nat}{ws':WS}
def All (C:Cx) (Fin:Nat->Ac->Own C.SR->Prop) (ms:MS) (ws:WS) (k kW:Nat) (a0 b0:Ac) (oM oW:Own C.SR):Prop:=
 ∀{gs:Array Ac} {w:AL} {sl:Option (Nat×Nat)} {t:CB} {q:Nat->Nat} {a b:Ac} {OW:Nat->Prop} {dW:Nat},St C ms ws k kW a0 b0 oM oW gs w t q a b OW dW->Reach C Fin gs w sl t
theorem PW.run{C:Cx}{ws:WS}{k:Nat}{b:Ac}{o:Own C.SR}(h:PW C ws k b o)(hq:ws≠ .quit):b.status=.running:=by
 cases h<;>first|assumption|exact Ai rfl hq
section
variable {C:Cx} {Fin:Nat->Ac->Own C.SR->Prop} {ms:MS} {ws:WS} {k kW:Nat} {a0 b0 b0':Ac} {oM oW WN:Own C.SR} {gs:Array Ac} {w w':AL} {sl':Option (Nat×Nat)} {t:CB} {q:Nat->Nat} {a b:Ac} {OW:Nat->Prop} {dW:Nat}
theorem St.Dc(h:St C ms ws k kW a0 b0 oM oW gs w t q a b OW dW){x:Nat}(hx:C.SY x):x<w.heap.size/\¬OW x/\¬oM.O x/\¬C.SR x:=
 ⟨(h.cf.sy x hx).1,λy=>(h.cf.ow x y).2.2.1 hx,λy=>(h.cf.om x y).2.2.2.1 hx,λy=>(h.cf.sr x y).2.1 hx⟩
theorem AIA(h:St C ms (.work s) k kW a0 b0 oM oW gs w t q a b OW dW)(hb:b.status=.running){o':Own C.SR}(hs:Ae C.P false b0 w=.go b0' w' es)(hp:NS oW o' w w' es)(hr:b0'.status=.running)
  (ih:All C Fin ms (.work s) k kW a0 b0' oM o'):Turn C Fin gs w sl' t C.j:=by
 have hbk:=h.S9 AV;have kp: ∀x,C.SY x->w'.heap[x]? =w.heap[x]? :=λx hx=>hp.keep x (h.Dc hx).1 λy=>(h.Dc hx).2.1 (h.ow x y)
 obtain⟨gs',t',a',nH,h1,h2,h3⟩:=Ul (sl':=sl') (Rt:=λx=>OW x\/(w.heap.size<=x/\x<w'.heap.size)) (WN:=o') (ws':=.work s) (kW':=kW) h (hbk.sm hb) hs (λ_=>hr) hp.sz (λx hx hO hS=>hp.keep x hx λy=>hO (h.ow x y)) hp.same
  (λ_=>lS) (hp.evJ h.cf h.ow) (λx hx=>((hp.O' x).1 hx).imp (h.ow x) id) (λ_=>hp.I') (λe=>by rw[iJ hp];exact h.dw e) (λe=>by cases e) (h.c1.keep (kp _ (OL C))) (h.c2.keep (kp _ (Rw C))) (h.wg.keep (kp _ (IX C))) h.kk (λe=>by cases e)
  (RV h.MP λ_ _=>h.c1.keep (kp _ (OL C))).1 (.inr hr)
 exact⟨gs',w',t',h1,h2,ih h3⟩
theorem TR(h:MO w c false): ∃w',QF w c w':=by obtain⟨s,hs⟩:=h;exact⟨_,s,hs,rfl⟩
theorem XK(h:QF w c w'):MO w' c true/\w'.heap.size=w.heap.size/\(∀x,x≠c->w'.heap[x]? =w.heap[x]?)/\w'.tape=w.tape/\w'.os=w.os/\w'.output=w.output:=by
 obtain⟨s,hs,rfl⟩:=h;have hlt:=(Df.1 hs).1;exact⟨⟨s,by simp[hlt]⟩,AV,λx hx=>by simp only;rw[Dw (Ir hx)],rfl,rfl,rfl⟩
theorem XL{P:Program}(h:Sm b b0):mayWake P b=mayWake P b0:=by unfold mayWake;rw[h.1]
theorem iK(h:Uk c es)(d:Nat):Ee d es=d:=KT (λe he=>by rcases h e he with rfl|rfl<;>simp) d
theorem ALX(h:St C ms (.work s) k kW a0 b0 oM oW gs w t q a b OW dW)(hb:b.status=.running)(hr:b0'.status=.running)(hmw:mayWake C.P b0=true)(hk:s=true\/kW=C.N)(hce:Uk C.bc es)
  (hs: ∀w w',oW.I w->QF w C.bc w'->Ae C.P false b0 w=.go b0' w' es) (ih:All C Fin ms .fin0 k kW a0 b0' oM oW):Turn C Fin gs w sl' t C.j:=by
 have hbk:=h.S9 AV;have hsm:=hbk.sm hb;obtain⟨w',hw'⟩:=TR h.c1;obtain⟨f1,f2,f3,f4,f5,f6⟩:=XK hw'
 have hwk:woken C.P b b0' w' a=a.again w':=by
  unfold woken;rw[XL hsm,hmw,hr];rfl
 have nG:di C ms .fin0 oM (woken C.P b b0' w' a) a0:=by
  rcases h.MP with ⟨h1,h2⟩|⟨h1,h2,z,rfl,h3⟩|⟨h1,h2,h3,h4,h5⟩;rw[Lm h1];exact .inl ⟨h1,h2⟩
  ·rw[hwk];obtain⟨s',hs'⟩:=f1;rw[again_recv_closed hs'];exact .inl ⟨rfl,rfl,rfl,rfl⟩
  rcases ZK (P:=C.P) (g:=b) (g':=b0') (w':=w') h3 h4 with e|e;rw[e];exact .inr (.inr ⟨h1,AV,h3,h4,h5⟩);rw[e];exact .inl ⟨rfl,h5⟩
 obtain⟨gs',t',a',nH,h1,h2,h3⟩:=Ul (sl':=sl') (Rt:=OW) (WN:=oW) (ws':=.fin0) (kW':=kW) h hsm (hs w w' (h.iw AV) hw') (λ_=>hr) (by rw[f2];exact Ba _) (λx hx hO hS=>f3 x λe=>hS (by rw[e];exact OL C)) ⟨f4,f5,f6⟩
  (λx=>⟨.inl,λy=>y.elim id λz=>by omega⟩) (λe he=>uZ (OL C) (h.Dc (OL C)).2.1 (h.Dc (OL C)).2.2.2 (by rw[f2];exact (h.Dc (OL C)).1) ((hce e he).elim (λx=>.inr (.inl x)) (λx=>.inr (.inr x)))) h.ow
  (λ_=>oW.st w w' (h.iw AV) (λx hx=>f3 x λe=>by
   rcases hx with hx|hx;exact (h.Dc (OL C)).2.1 (by rw[<- e];exact h.ow x hx)
   exact (h.Dc (OL C)).2.2.2 (by rw[<- e];exact hx)) (by rw[f2];exact Ba _) f4 f5)
  (λe=>by rw[iK hce];exact h.dw AV) (λe=>by cases e) f1 (h.c2.keep (f3 _ (Ir h.ne.1))) (by have:=h.wg.keep (f3 _ h.ne.2.1);exact this)
  (λe=>⟨λs e=>(by cases e),λ_=>by
   obtain⟨q1,q2⟩:=(h.kk e).1 s rfl;rcases hk with hk|hk;rw[q2] at hk;cases hk
   rw[<- q1];exact hk⟩) (λe=>by cases e) nG (.inr hr)
 exact⟨gs',w',t',h1,h2,ih h3⟩
theorem AIB(hf:ws.free=true)(h:St C ms ws k kW a0 b0 oM oW gs w t q a b OW dW)(hb:b.status=.running)(hr:b0'.status=.running)(hs:Ae C.P false b0 w=.go b0' w #[])(ih:All C Fin ms ws k kW a0 b0' oM oW):Turn C Fin gs w sl' t C.j:=by
 (have hq:ws≠ .quit:=λe=>by rw[e] at hf;cases hf);(have hnw: ∀s,ws≠ .work s:=λs e=>by rw[e] at hf;cases hf);have hsm:=(h.S9 hq).sm hb
 obtain⟨gs',t',a',nH,h1,h2,h3⟩:=Ul (sl':=sl') (Rt:=OW) (WN:=oW) (ws':=ws) (kW':=kW) h hsm hs (λ_=>hr) (Ba _) (λ_ _ _ _=>rfl) ⟨rfl,rfl,rfl⟩ (λx=>⟨.inl,λy=>y.elim id λz=>by omega⟩) (λe he=>by simp at he) h.ow h.iw
  (λe=>h.dw e) (λe=>Ai e hq) h.c1 h.c2 h.wg h.kk (Kz h.rel λop hop=>by obtain⟨e,he,_⟩:=KP hop;simp at he) (RV h.MP λ_ e=>h.c1.keep rfl |>λx=>by rw[e] at x;exact x).1 (.inr hr)
 exact⟨gs',w,t',h1,h2,ih h3⟩
theorem ABM{m:Mark}(hf:ws.free=true)(hf':ws'.free=true)(h:St C ms ws k kW a0 b0 oM oW gs w t q a b OW dW)(hb:b.status=.running)(hr:b0'.status=.running)(hs: ∀w,Live C w->Ae C.P false b0 w=.go b0' w #[mkS m])
  (hm:(MemAct.mark m).touch? =AB/\m≠ .release (F6 C.wg)/\(MemAct.mark m).low w.heap.size) (hd:Ee ws.deaf #[mkS m]=ws'.deaf) (hw: ∀w,MB C ms ws w->MB C ms ws' w)
  (hrel:ws'.rel=true->∃r,Ky C (t++DX C.j b.frame.fn b.frame.place #[mkS m]) r) (ih:All C Fin ms ws' k kW a0 b0' oM oW):Turn C Fin gs w sl' t C.j:=by
 (have hq:ws≠ .quit:=λe=>by rw[e] at hf;cases hf);(have hq':ws'≠ .quit:=λe=>by rw[e] at hf';cases hf');(have hw1:ws.JG=false:=by cases ws<;>first|rfl|cases hf);(have hw2:ws'.JG=false:=by cases ws'<;>first|rfl|cases hf');have hsm:=(h.S9 hq).sm hb
 have nG:di C ms ws' oM (woken C.P b b0' w a) a0:=by
  rcases h.MP with ⟨h1,h2⟩|⟨_,h2,_⟩|⟨h1,h2,h3,h4,h5⟩;rw[Lm h1];exact .inl ⟨h1,h2⟩;rw[hw1] at h2;cases h2;rcases ZK (P:=C.P) (g:=b) (g':=b0') (w':=w) h3 h4 with e|e
  ·rw[e];exact .inr (.inr ⟨h1,hq',h3,h4,h5⟩)
  rw[e];exact .inl ⟨rfl,h5⟩
 obtain⟨gs',t',a',nH,h1,h2,h3⟩:=Ul (sl':=sl') (Rt:=OW) (WN:=oW) (ws':=ws') (kW':=kW) h hsm (hs w h.wg.live) (λ_=>hr) (Ba _) (λ_ _ _ _=>rfl) ⟨rfl,rfl,rfl⟩ (λx=>⟨.inl,λy=>y.elim id λz=>by omega⟩)
  (λe he=>by simp at he;subst he;exact eG hm.1 hm.2.1 hm.2.2) h.ow (λ_=>h.iw (.inr trivial)) (λ_=>by rw[h.dw hq];exact hd) (λe=>Ai e hq') (by have:=h.c1;rw[hw1] at this;rw[hw2];exact this) h.c2 (hw w h.wg)
  (λe=>⟨λs e2=>(by rw[e2] at hf';cases hf'),λ_=>(h.kk e).2 hw1⟩) hrel nG (.inr hr)
 exact⟨gs',w,t',h1,h2,ih h3⟩
theorem nI(hf:ws.free=true)(hf2:ws.deaf=1)(hrl:ws.rel=true)(hf':ws'.JG=false)(_:ws'.rel=true)(h:St C ms ws k kW a0 b0 oM oW gs w t q a b OW dW)(hb:b.status=.running)(hs:Ae C.P false b0 w=.go b0' w' es)
  (hw':(∀x,x≠C.wg->w'.heap[x]? =w.heap[x]?)/\w'.heap.size=w.heap.size/\w'.tape=w.tape/\w'.os=w.os/\w'.output=w.output)
  (hes: ∀e∈es,(∃o x,e=⟨.cell ⟨C.wg,o,AB⟩,x,true⟩)\/e=mkS .disable\/e=mkS .enable) (hr:ws'≠ .quit->b0'.status=.running) (hd:ws'≠ .quit->Ee ws.deaf es=ws'.deaf)
  (hqu:ws'=.quit->∃n,QuitsD C.P n (Ee 1 es) b0') (hwg:MB C ms ws' w') (hdf: ∀m e,es[m]? =AA e->(Cb e).touch? ≠AB->Ee 1 (es.extract 0 m)≠0)
  (nG:di C ms ws' oM (woken C.P b b0' w' a) a0) (hnb:(woken C.P b b0' w' a).status=.running\/b0'.status=.running) (ih:All C Fin ms ws' k kW a0 b0' oM oW):Turn C Fin gs w sl' t C.j:=by
 (have hq:ws≠ .quit:=λe=>by rw[e] at hf;cases hf);(have hw1:ws.JG=false:=by cases ws<;>first|rfl|cases hf);have hsm:=(h.S9 hq).sm hb;have hdw:dW=1:=(h.dw hq).trans hf2;obtain⟨f1,f2,f3,f4,f5⟩:=hw'
 obtain⟨gs',t',a',nH,h1,h2,h3⟩:=Ul (sl':=sl') (Rt:=OW) (WN:=oW) (ws':=ws') (kW':=kW) h hsm hs hr (by rw[f2];exact Ba _) (λx hx hO hS=>f1 x λe=>hS (by rw[e];exact IX C)) ⟨f3,f4,f5⟩ (λx=>⟨.inl,λy=>y.elim id λz=>by omega⟩)
  (λe he=>by
   rcases hes e he with h1|h1|h1;exact uZ (IX C) (h.Dc (IX C)).2.1 (h.Dc (IX C)).2.2.2 (by rw[f2];exact (h.Dc (IX C)).1) (.inl h1);subst h1;exact eG rfl AV trivial
   subst h1;exact eG rfl AV trivial) h.ow
  (λ_=>oW.st w w' (h.iw (.inr trivial)) (λx hx=>f1 x λe=>by
   rcases hx with hx|hx;exact (h.Dc (IX C)).2.1 (by rw[<- e];exact h.ow x hx)
   exact (h.Dc (IX C)).2.2.2 (by rw[<- e];exact hx)) (by rw[f2];exact Ba _) f3 f4)
  (λe=>by rw[h.dw hq];exact hd e) (λe=>by rw[hdw];exact hqu e) (by have:=h.c1.keep (f1 _ (Ir h.ne.2.1));rw[hw1] at this;rw[hf'];exact this) (h.c2.keep (f1 _ (Ir h.ne.2.2))) hwg
  (λe=>⟨λs e2=>(by rw[e2] at hf';cases hf'),λ_=>(h.kk e).2 hw1⟩)
  (λ_=>by
   obtain⟨r,hr⟩:=h.rel hrl;refine⟨r,hr.AH8 λm e hm=>⟨λx hx hxm=>?_,λhx=>?_⟩⟩
   ·rcases hes e (lK hm) with ⟨o,y,rfl⟩|rfl|rfl
    ·simp only[ofEvent_cell0,DK,DN] at hx;subst hx;exact⟨rfl,rfl⟩
    simp[mkS,Cb,DK] at hx;simp[mkS,Cb,DK] at hx
   rw[h.cf.dw,hdw];exact hdf m e hm hx) nG hnb
 exact⟨gs',w',t',h1,h2,ih h3⟩
theorem AGi(x y:Bc)(hx:x.loc≠ .mark .disable/\x.loc≠ .mark .enable)(hy:y.loc≠ .mark .disable/\y.loc≠ .mark .enable): ∀m e,(#[x,y]:Array Bc)[m]? =AA e->(Cb e).touch? ≠AB->Ee 1 ((#[x,y]:Array Bc).extract 0 m)≠0:=by
 intro m e _ _;rw[KT];simp;intro z hz
 have:z∈(#[x,y]:Array Bc):=by
  obtain⟨i,hi,rfl⟩:=lY.1 hz;rw[AHz];exact Array.getElem_mem _
 simp only[IU,BB,BC,or_false] at this;rcases this with rfl|rfl;exact hx;exact hy
theorem ug(x:Bc)(hx:x.loc≠ .mark .disable/\x.loc≠ .mark .enable): ∀m e,(#[x]:Array Bc)[m]? =AA e->(Cb e).touch? ≠AB->Ee 1 ((#[x]:Array Bc).extract 0 m)≠0:=by
 intro m e _ _;rw[KT];simp;intro z hz
 have:z∈(#[x]:Array Bc):=by
  obtain⟨i,hi,rfl⟩:=lY.1 hz;rw[AHz];exact Array.getElem_mem _
 simp only[IU,BB,BC,or_false] at this;subst this;exact hx
theorem AGj(c:Nat): ∀m e,(JB (OJ c))[m]? =AA e->(Cb e).touch? ≠AB->Ee 1 ((JB (OJ c)).extract 0 m)≠0:=by
 intro m e hm ht;rcases m with _|_|_|_|m;simp[JB] at hm;subst hm;simp[Cb,DK] at ht;simp[JB,Ee];simp[JB,Ee];simp[JB] at hm;subst hm;simp[Cb,DK] at ht;simp[JB] at hm
theorem ADo(h:di C ms ws oM a a0)(hw:ws.JG=false)(hm:ms≠ .ws2):a.status=.running/\Sm a a0:=by
 rcases h with h|⟨_,h2,_⟩|⟨h1,_⟩;exact h;rw[hw] at h2;cases h2;exact Ai h1 hm
theorem AO5{b1 b2:Ac}(h:St C ms .fin2 k kW a0 b0 oM oW gs w t q a b OW dW)(hb:b.status=.running)(h1: ∀w,WA C w KQ 0->Ae C.P false b0 w=.go b1 (w.setCell (F6 C.wg) (.int .u64 0)) #[JD C,Ui C])(hq:QuitsD C.P n 1 b1)
  (hr2:b2.status=.running) (h2: ∀w,WA C w (KQ+1) 0->Ae C.P false b0 w=.go b2 (w.setCell (F6 C.wg) (.int .u64 1)) #[JD C,Ui C]) (ih1:All C Fin ms .quit k kW a0 b1 oM oW) (ih2:All C Fin ms .Nk k kW a0 b2 oM oW):Turn C Fin gs w sl' t C.j:=by
 have hes: ∀e∈(#[JD C,Ui C]:Array Bc),(∃o x,e=⟨.cell ⟨C.wg,o,AB⟩,x,true⟩)\/e=mkS .disable\/e=mkS .enable:=λe he=>by
  simp only[IU,BB,BC,or_false] at he;rcases he with rfl|rfl;exact .inl ⟨0,false,rfl⟩;exact .inl ⟨0,true,rfl⟩
 have hds:Ee 1 #[JD C,Ui C]=1:=KT (λe he=>by
  simp only[IU,BB,BC,or_false] at he
  rcases he with rfl|rfl<;>simp[JD,Ui]) 1
 have hdf:=AGi (JD C) (Ui C) (by simp[JD]) (by simp[Ui]);have hwf: ∀v:AP,_:=λv=>Nl w (F6 C.wg) v;rcases h.wg with ⟨hm,hw⟩|⟨hm,hw⟩
 ·(have hm2:ms≠ .ws2:=by rcases hm with e|e|e<;>rw[e]<;>simp);obtain⟨har,AMO⟩:=ADo h.MP rfl hm2;refine nI (ws':=.quit) rfl rfl rfl rfl rfl h hb (h1 w hw) (hwf _) hes (λe=>Ai rfl e) (λe=>Ai rfl e) (λ_=>⟨n,by rw[hds];exact hq⟩) (.inr ⟨hm2,hw.setSt 0⟩) hdf (.inl ?_) ?_ ih1;rw[Lm har];exact⟨har,AMO⟩;rw[Lm har];exact .inl har
 refine nI (ws':=.Nk) rfl rfl rfl rfl rfl h hb (h2 w hw) (hwf _) hes (λ_=>hr2) (λ_=>hds) (λe=>by cases e) ⟨hm,hw.setSt 1⟩ hdf ?_ (.inr hr2) ih2;have:=(RV (P:=C.P) (g:=b) (g':=b2) (w':=w.setCell (F6 C.wg) (.int .u64 1)) h.MP (λ_ e=>by cases e)).1;rcases this with q1|⟨_,q2,_⟩|⟨q1,_,q3⟩;exact .inl q1;(cases q2);exact .inr (.inr ⟨q1,AV,q3⟩)
theorem AO6(h:St C ms .Nk k kW a0 b0 oM oW gs w t q a b OW dW)(hb:b.status=.running)(hr:b0'.status=.running)(h1: ∀w,WA C w 1 0->Ae C.P false b0 w=.go b0' w #[JD C])(ih:All C Fin ms .Nk k kW a0 b0' oM oW):Turn C Fin gs w sl' t C.j:=by
 refine nI (ws':=.Nk) rfl rfl rfl rfl rfl h hb (h1 w h.wg.2) ⟨λ_ _=>rfl,rfl,rfl,rfl,rfl⟩ (λe he=>?_) (λ_=>hr) (λ_=>KT (λe he=>?_) 1) (λe=>by cases e) h.wg (ug _ (by simp[JD])) ?_ (.inr hr) ih;simp at he;subst he;exact .inl ⟨0,false,rfl⟩;simp at he;subst he;simp[JD];exact (RV h.MP (λ_ e=>by cases e)).1
theorem AO7(h:St C ms .Nk k kW a0 b0 oM oW gs w t q a b OW dW)(hb:b.status=.running)(hr:b0'.status=.running)(h1: ∀w,WA C w 1 0->Ae C.P false b0 w=.go b0' (w.setCell (F6 C.wg) (.int .u64 0)) #[Ui C])(ih:All C Fin ms .Uj k kW a0 b0' oM oW):Turn C Fin gs w sl' t C.j:=by
 refine nI (ws':=.Uj) rfl rfl rfl rfl rfl h hb (h1 w h.wg.2) (Nl w (F6 C.wg) _) (λe he=>?_) (λ_=>hr) (λ_=>KT (λe he=>?_) 1) (λe=>by cases e) ⟨h.wg.1,h.wg.2.setSt 0⟩ (ug _ (by simp[Ui])) ?_ (.inr hr) ih;simp at he;subst he;exact .inl ⟨0,true,rfl⟩;simp at he;subst he;simp[Ui];have:=(RV (P:=C.P) (g:=b) (g':=b0') (w':=w.setCell (F6 C.wg) (.int .u64 0)) h.MP (λ_ e=>by cases e)).1;rcases this with q1|⟨_,q2,_⟩|⟨q1,_,q3⟩;exact .inl q1;(cases q2);exact .inr (.inr ⟨q1,AV,q3⟩)
theorem AO8(h:St C ms .Uj k kW a0 b0 oM oW gs w t q a b OW dW)(hb:b.status=.running)(hmw:mayWake C.P b0=true)(h1: ∀w,WA C w 0 0->Ae C.P false b0 w=.go b0' (w.setCell (OJ C.wg) (.int .u32 1)) (JB (OJ C.wg)))(hq:QuitsD C.P n 1 b0')
  (ih:All C Fin ms .quit k kW a0 b0' oM oW):Turn C Fin gs w sl' t C.j:=by
 have hwk:woken C.P b b0' (w.setCell (OJ C.wg) (.int .u32 1)) a=a.again (w.setCell (OJ C.wg) (.int .u32 1)):=by
  unfold woken;rw[XL ((h.S9 AV).sm hb),hmw];rcases hq.status with e|e<;>rw[e]<;>rfl
 have ha:(woken C.P b b0' (w.setCell (OJ C.wg) (.int .u32 1)) a).status=.running/\Sm (woken C.P b b0' (w.setCell (OJ C.wg) (.int .u32 1)) a) a0:=by
  rcases h.MP with ⟨q1,q2⟩|⟨_,q2,_⟩|⟨_,_,q3,q4,q5⟩;rw[Lm q1];exact⟨q1,q2⟩;(cases q2);rw[hwk];(have:a.again (w.setCell (OJ C.wg) (.int .u32 1))={a with status:=.running}:=by simp[Goroutine.again,q3,q4]);rw[this];exact⟨rfl,q5⟩
 refine nI (ws':=.quit) rfl rfl rfl rfl rfl h hb (h1 w h.wg.2) (Nl w (OJ C.wg) _) (λe he=>?_) (λe=>Ai rfl e) (λe=>Ai rfl e) (λ_=>⟨n,?_⟩) (.inl ⟨h.wg.1,h.wg.2.setSm 1⟩) (AGj _) (.inl ha) (.inl ha.1) ih
 ·simp only[JB,IU,BB,BC,or_false] at he;rcases he with rfl|rfl|rfl|rfl;exact .inr (.inl rfl);exact .inl ⟨1,false,rfl⟩;exact .inl ⟨1,true,rfl⟩;exact .inr (.inr rfl)
 (have:Ee 1 (JB (OJ C.wg))=1:=by simp[JB,Ee]);rw[this];exact hq
end
end
section
variable {g:Ac}{bk:Nat}{ob:Obj}{xv:AP}
def Hand (C:Cx) (Fin:Nat->Ac->Own C.SR->Prop) (ms:MS) (k:Nat) (a0:Ac) (oM:Own C.SR):Prop:=
 ms=.work->∀z w,oM.I w->MO w C.bs false->Ae C.P true a0 w=.comm a0 #[rcase C.bc z] true (.recv true) w #[]->∀xv bk ob,C.Cs k xv bk ob->
  ∃o':Own C.SR,(∀x,o'.O x↔oM.O x\/x=bk)/\(∀w,oM.I w->¬oM.O bk->w.heap[bk]? =AA ob->o'.I w)/\
   ∀{ws kW b0 oW},PW C ws kW b0 oW->All C Fin .work ws (k+1) kW (a0.finishComm C.P #[rcase C.bc z] (.recv true) 0 xv true) b0 o' oW
section
variable {C:Cx} {Fin:Nat->Ac->Own C.SR->Prop} {ms:MS} {ws:WS} {k kW:Nat} {a0 b0 b0':Ac} {oM Sz oW WN:Own C.SR} {gs:Array Ac} {w w':AL} {sl':Option (Nat×Nat)} {t:CB} {q:Nat->Nat} {a b:Ac} {OW:Nat->Prop} {dW:Nat}
theorem Ju(g:Nat)(fn:FuncId)(pos:String):DX g fn pos #[]= #[]:=rfl
theorem iL(h:St C ms ws k kW a0 b0 oM oW gs w t q a b OW dW){i:Nat}(hi:gs[i]? =AA g)(h0:0<i)(hj:i≠C.j)(c:Nat)(sd:Bool):offersAt g c sd=[]:=by
 refine Yc ?_ c sd;rcases (h.cf.old i g h0 hj hi).status with e|e<;>rw[e]<;>simp
theorem AFT(h:St C ms ws k kW a0 b0 oM oW gs w t q a b OW dW)(c:Nat)(sd:Bool):partners (gs.setIfInBounds C.j ph) c sd=(offersAt a c sd).map λn=>(0,n):=by
 have hjp:=h.cf.hj;refine partners_one (j:=0) (g:=a) (by rw[Dw Ad];exact h.cf.at0) λi x hi hx=>?_;rcases getElem?_stand gs C.j i x hx with ⟨_,rfl⟩|⟨h1,h2⟩;rfl;exact iL h h2 Ad h1 c sd
theorem ALY(h:St C ms ws k kW a0 b0 oM oW gs w t q a b OW dW)(c:Nat)(sd:Bool):partners (gs.setIfInBounds 0 ph) c sd=(offersAt b c sd).map λn=>(C.j,n):=by
 have hjp:=h.cf.hj;refine partners_one (j:=C.j) (g:=b) (by rw[Dw Ad];exact h.cf.Uh) λi x hi hx=>?_;rcases getElem?_stand gs 0 i x hx with ⟨_,rfl⟩|⟨h1,h2⟩;rfl;exact iL h h2 Ad hi c sd
theorem ABN(h:g.offers=AB)(c:Nat)(sd:Bool):offersAt g c sd=[]:=by
 unfold offersAt;cases g.status<;>simp[h]
theorem ABO(h:St C .work (.work false) k kW a0 b0 oM oW gs w t q a b OW dW){z z1 z2:AP}{s:Nat}{gs':Array Ac}{f0 fj:FuncId}{p0 pj:String}(hc:w.heap[C.bc]? =AA (.chan 0 #[] false s s false))(hbk:oW.O bk)(hob: ∀w,oW.I w->w.heap[bk]? =AA ob)
  (hO: ∀x,Sz.O x↔oM.O x\/x=bk) (hI: ∀w,oM.I w->¬oM.O bk->w.heap[bk]? =AA ob->Sz.I w) (hO2: ∀x,WN.O x->oW.O x/\x≠bk) (hI2: ∀w,oW.I w->WN.I w)
  (hgs:gs'=(gs.setIfInBounds C.j (b0.finishComm C.P (EL C.bc C.bs xv z1 z2) .select 0 AU false)).setIfInBounds 0 (a0.finishComm C.P #[rcase C.bc z] (.recv true) 0 xv true)):
  St C .work (.work false) (k+1) (kW+1) (a0.finishComm C.P #[rcase C.bc z] (.recv true) 0 xv true) (b0.finishComm C.P (EL C.bc C.bs xv z1 z2) .select 0 AU false) Sz WN gs' (w.setChan C.bc 0 #[] false (s+1) (s+1) false)
   (t++E8 C.j C.bc s s f0 fj p0 pj) q (a0.finishComm C.P #[rcase C.bc z] (.recv true) 0 xv true) (b0.finishComm C.P (EL C.bc C.bs xv z1 z2) .select 0 AU false) (λx=>OW x/\x≠bk) 0:=by
 have hd:dW=0:=h.dw AV;subst hd;have hcf:=AH9 (f0:=f0) (fj:=fj) (p0:=p0) (pj:=pj) h.cf hc rfl (h.ow bk hbk) (hob w (h.iw AV)) hO hI hgs;have hbc:C.bc<w.heap.size:=(Df.1 hc).1
 have hheap: ∀x,x≠C.bc->(w.setChan C.bc 0 #[] false (s+1) (s+1) false).heap[x]? =w.heap[x]? :=λx hx=>by
  simp only[Yb];rw[Dw (Ir hx)]
 have hsz:(w.setChan C.bc 0 #[] false (s+1) (s+1) false).heap.size=w.heap.size:=by simp[Yb]
 refine⟨hcf,h.ne,.inl ⟨rfl,.refl _⟩,λ_=>.inl ⟨rfl,.refl _⟩,λe=>(by cases e),.inl rfl,λ_=>hI2 _ (oW.st w _ (h.iw AV) (λx hx=>hheap x λe=>?_) (by rw[hsz];exact Ba _) rfl rfl),λx hx=>⟨h.ow x (hO2 x hx).1,(hO2 x hx).2⟩,⟨s+1,by simp[Yb,hbc,WS.JG]⟩,
  h.c2.keep (hheap _ (Ir h.ne.1)),h.wg.keep (hheap _ h.ne.2.1),λ_=>rfl,λ_=>⟨λs' e=>?_,λe=>(by simp[WS.JG] at e)⟩,λe=>(by cases e)⟩
 ·rcases hx with hx|hx;exact (h.Dc (OL C)).2.1 (by rw[<- e];exact h.ow x hx);exact (h.Dc (OL C)).2.2.2 (by rw[<- e];exact hx)
 (cases e);exact⟨by rw[((h.kk rfl).1 false rfl).1],rfl⟩
theorem ALZ(h:St C ms (.work false) k kW a0 b0 oM oW gs w t q a b OW dW)(hb:b.status=.running)(hsl:a.status=.running->ABL C Fin ms (.work false) k kW a0 b0 oM oW gs.size q){z1 z2:AP}(hoff:b0.offers=AB)(_:b0.status=.running)
  (hcs:C.Cs kW xv bk ob) (hbk:oW.O bk) (hob: ∀w,oW.I w->w.heap[bk]? =AA ob) (hs: ∀w,oW.I w->Ae C.P false b0 w=.comm b0 (EL C.bc C.bs xv z1 z2) true .select w #[])
  (hO2: ∀x,WN.O x->oW.O x/\x≠bk) (hI2: ∀w,oW.I w->WN.I w) (hand:Hand C Fin ms k a0 oM) (hpw:PW C (.work false) (kW+1) (b0.finishComm C.P (EL C.bc C.bs xv z1 z2) .select 0 AU false) WN)
  (ihs:All C Fin ms (.work true) k kW a0 (b0.finishComm C.P (EL C.bc C.bs xv z1 z2) .select 1 z2 false) oM oW):Turn C Fin gs w sl' t C.j:=by
 have hjp:=h.cf.hj;(have hj0:(C.j==0)=false:=by simp;omega);have hsm:=(h.S9 AV).sm hb;(have hst:Ae C.P (C.j==0) b w=.comm b0 (EL C.bc C.bs xv z1 z2) true .select w #[]:=by rw[hj0,hsm.step];exact hs w (h.iw AV));obtain⟨s,hc⟩:=h.c1;obtain⟨s2,hc2⟩:=h.c2;have hc:w.heap[C.bc]? =AA (.chan 0 #[] false s s false):=hc;have hp1:=AFT h C.bc false;have hp2:=AFT h C.bs true;have hdw:dW=0:=h.dw AV;by_cases hm:ms=.work
 ·subst hm;(have hc2:w.heap[C.bs]? =AA (.chan 0 #[] false s2 s2 false):=by simpa using hc2);rcases h.MP with ⟨ha,AMO⟩|⟨_,_,z,rfl,hcm⟩|⟨e,_⟩
  ·
   rw[Yc (by rw[ha];simp)] at hp1 hp2;have hr:=ADm (sl:=sl') h.ne.1 h.cf.Uh hst hc hc2 hp1 hp2;rw[Ju] at hr;have hcf:=ABK (b':=parked b0 (EL C.bc C.bs xv z1 z2) .select) (u:=#[]) h.cf (λop hop=>by simp at hop) (nH:=dW) (by simp;exact h.cf.dw);refine⟨_,w,#[],hr,AV,hsl ha AV ⟨hcf,h.ne,h.MP,λ_=>.inr ⟨rfl,rfl,xv,z1,z2,rfl,hs⟩,λe=>(by cases e),.inl ha,h.iw,h.ow,h.c1,h.c2,h.wg,h.dw,h.kk,λe=>(by cases e)⟩ rfl⟩
  ·
   have ho1:=offersAt_parked_recv a0 C.bc z (.recv true) C.bc;have ho2:=offersAt_parked_recv' a0 C.bc z (.recv true) C.bs;rw[ho1] at hp1;rw[ho2] at hp2;simp only[if_true,BK,EG] at hp1 hp2;have hr:=ADl (sl:=sl') h.ne.1 h.cf.Uh hst hc hc2 Ad h.cf.at0 hp1 hp2;rw[Ju] at hr;obtain⟨q1,q2⟩:=(h.kk rfl).1 false rfl;obtain⟨o',h1,h2,h3⟩:=hand rfl z w h.cf.im ⟨s2,hc2⟩ (hcm w h.cf.im) xv bk ob (by rw[<- q1];exact hcs)
   have hcomm:(gs.setIfInBounds 0 (a0.finishComm C.P #[rcase C.bc z] (.recv true) 0 xv true)).setIfInBounds C.j (b0.finishComm C.P (EL C.bc C.bs xv z1 z2) .select 0 AU false)=(gs.setIfInBounds C.j (b0.finishComm C.P (EL C.bc C.bs xv z1 z2) .select 0 AU false)).setIfInBounds 0 (a0.finishComm C.P #[rcase C.bc z] (.recv true) 0 xv true):=by
    rw[Array.setIfInBounds_comm];omega
   have hS:=ABO (s:=s) (z:=z) (xv:=xv) (z1:=z1) (z2:=z2) (f0:=a0.frame.fn) (fj:=b0.frame.fn) (p0:=a0.frame.place) (pj:=b0.frame.place) h hc hbk hob h1 h2 hO2 hI2 hcomm;exact⟨_,_,_,hr,AV,h3 hpw hS⟩
  cases e
 have hc2:w.heap[C.bs]? =AA (.chan 0 #[] true s2 s2 false):=by simpa[hm] using hc2
 have hao:offersAt a C.bc false=[]/\offersAt a C.bs true=[]:=by
  rcases h.MP with ⟨ha,_⟩|⟨e,_⟩|⟨_,_,_,ho,_⟩;exact⟨Yc (by rw[ha];simp) _ _,Yc (by rw[ha];simp) _ _⟩;exact Ai e hm;exact⟨ABN ho _ _,ABN ho _ _⟩
 rw[hao.1] at hp1;rw[hao.2] at hp2;have hr:=yX (sl:=sl') h.ne.1 h.cf.Uh hst hc hc2 hp1 hp2;rw[Ju] at hr
 have hcf:=ABK (b':=b0.finishComm C.P (EL C.bc C.bs xv z1 z2) .select 1 z2 false) (u:=#[{g:=C.j,fn:=b0.frame.fn,pos:=b0.frame.place,act:=.recvClosed C.bs}]) h.cf (λop hop=>by
  simp at hop;subst hop;exact⟨rfl,rfl,(h.Dc (Rw C)).1,AV⟩) (nH:=dW) (by rw[Deaf_push];exact h.cf.dw)
 exact⟨_,w,_,by simpa using hr,AV,ihs ⟨hcf,h.ne,by
   rcases h.MP with x|⟨e,_⟩|⟨e1,e2,e3⟩;exact .inl x;exact Ai e hm
   exact .inr (.inr ⟨e1,AV,e3⟩),λ_=>.inl ⟨rfl,.refl _⟩,λe=>(by cases e),.inr rfl,λ_=>h.iw AV,h.ow,⟨s,hc⟩,⟨s2,by simpa[hm] using hc2⟩,h.wg,λ_=>hdw,λe=>Ai e hm,λe=>(by cases e)⟩⟩
end
end
section
variable {es:Array Bc}
section
variable {C:Cx} {Fin:Nat->Ac->Own C.SR->Prop} {ms ms':MS} {ws:WS} {k kW:Nat} {a0 a0' b0 b0':Ac} {oM Sz oW WN:Own C.SR} {gs:Array Ac} {w w':AL} {sl':Option (Nat×Nat)} {t:CB} {q:Nat->Nat} {a b:Ac} {OW:Nat->Prop} {dW:Nat}
theorem AIC(h:St C .work ws k kW a0 b0 oM oW gs w t q a b OW dW)(ha:a.status=.running){o':Own C.SR}(hs:Ae C.P true a0 w=.go a0' w' es)(hp:NS oM o' w w' es)(hr:a0'.status=.running)
  (ih:All C Fin .work ws k kW a0' b0 o' oW):Turn C Fin gs w sl' t 0:=by
 have kp: ∀x,C.SY x->w'.heap[x]? =w.heap[x]? :=λx hx=>hp.keep x (h.Dc hx).1 (h.Dc hx).2.2.1
 obtain⟨gs',t',b',h1,h2,h3⟩:=eH (sl':=sl') (ms':=.work) (k':=k) (Sz:=o') h (h.MP.sm ha) hs hr hp.sz (λx hx hO _=>hp.keep x hx hO) hp.same hp.O' hp.I' (hp.ev0 h.cf) (by rw[iJ hp]) (h.c1.keep (kp _ (OL C))) (h.c2.keep (kp _ (Rw C))) (h.wg.keep (kp _ (IX C)))
  (λe=>(uX (h.S9 e) λ_ e2=>⟨by have:=h.c1.keep (kp _ (OL C));rw[e2] at this;exact this,by have:=h.c2.keep (kp _ (Rw C));simpa using this⟩).1) h.kk
 exact⟨gs',w',t',h1,h2,ih h3⟩
theorem ADp(h:PW C (.work false) kW b0 oW){w:AL}(hI:oW.I w)(hc:MO w C.bc false){xv z1 z2:AP}(hs:Ae C.P false b0 w=.comm b0 (EL C.bc C.bs xv z1 z2) true .select w #[]):
  ∃bk ob o',C.Cs kW xv bk ob/\oW.O bk/\(∀w,oW.I w->w.heap[bk]? =AA ob)/\(∀x,o'.O x->oW.O x/\x≠bk)/\(∀w,oW.I w->o'.I w)/\PW C (.work false) (kW+1) (b0.finishComm C.P (EL C.bc C.bs xv z1 z2) .select 0 AU false) o':=by
 cases h with
 |QG nx no hr hst _=>
  obtain⟨w',es,h1,_⟩:=hst w hI;rw[h1] at hs;cases hs
 | @sel _ _ _ o' xv' bk ob z1' z2' hr ho h1 h2 h3 h4 h5 h6 h7 _=>
  have h8:=h4 w hI;rw[hs] at h8;simp only[GStep.comm.injEq,EL,scase,rcase,ADI,IV,CommCase.mk.injEq,DN,and_true,true_and] at h8;obtain⟨⟨e1,e2⟩,e3⟩:=h8;subst e1 e2 e3;exact⟨bk,ob,o',h1,h2,h3,h5,h6,h7⟩
 |clo hr _ _ _ _ hst _=>
  obtain⟨w',hw'⟩:=TR hc;rw[hst w w' hI hw'] at hs;cases hs
 |free _ hf _ _ _=>cases hf
theorem AID(hpw:PW C ws kW b0 oW)(h:St C .work ws k kW a0 b0 oM oW gs w t q a b OW dW)(ha:a.status=.running)(hsl:b.status≠ .blocked->XJ C Fin .work ws k kW a0 b0 oM oW gs.size q){z:AP}{go:AP->Nat->Obj->Own C.SR}
  (hs: ∀w,oM.I w->Ae C.P true a0 w=.comm a0 #[rcase C.bc z] true (.recv true) w #[]) (hO: ∀xv bk ob,C.Cs k xv bk ob->∀x,(go xv bk ob).O x↔oM.O x\/x=bk) (hI: ∀xv bk ob,C.Cs k xv bk ob->∀w,oM.I w->¬oM.O bk->w.heap[bk]? =AA ob->(go xv bk ob).I w)
  (ihg: ∀xv bk ob,C.Cs k xv bk ob->∀{ws kW b0 oW},PW C ws kW b0 oW->All C Fin .work ws (k+1) kW (a0.finishComm C.P #[rcase C.bc z] (.recv true) 0 xv true) b0 (go xv bk ob) oW)
  (ihc:k=C.N->All C Fin .work ws k kW (a0.finishComm C.P #[rcase C.bc z] (.recv true) 0 z false) b0 oM oW):Turn C Fin gs w sl' t 0:=by
 have hjp:=h.cf.hj;(have hst:Ae C.P (0==0) a w=.comm a0 #[rcase C.bc z] true (.recv true) w #[]:=by rw[show ((0:Nat)==0)=true from rfl,(h.MP.sm ha).step];exact hs w h.cf.im);obtain⟨s,hc⟩:=h.c1;have hp:=ALY h C.bc true
 cases hw:ws.JG with
 |true=>
  (have hwq:ws≠ .quit:=λe=>by rw[e] at hw;cases hw);rw[hw] at hc;have hc:w.heap[C.bc]? =AA (.chan 0 #[] false s s false):=hc;rcases h.S9 hwq with ⟨hb,AIE⟩|⟨_,e2,xv,z1,z2,rfl,hcm⟩
  ·
   rw[Yc (by rw[hb];simp)] at hp;have hr:=ABF (sl:=sl') h.cf.at0 hst hc hp;rw[Ju] at hr;have hcf:=ABJ (a':=parked a0 #[rcase C.bc z] (.recv true)) (u:=#[]) h.cf (λop hop=>by simp at hop) (by simp;exact h.cf.dm);exact⟨_,w,#[],hr,AV,hsl (by rw[hb];simp) AV ⟨hcf,h.ne,.inr (.inl ⟨rfl,hw,z,rfl,hs⟩),h.S9,h.qu,.inr hb,h.iw,h.ow,h.c1,h.c2,h.wg,h.dw,h.kk,Kz (u:=#[]) h.rel λop hop=>by simp at hop⟩ rfl⟩
  ·
   subst e2;have ho:=(mi (v:=xv) (z1:=z1) (z2:=z2) h.ne.1 b0 .select).1;rw[ho] at hp;simp only[BK,EG] at hp;have hr:=jb (sl:=sl') h.ne.1 h.cf.at0 hst hc Ad h.cf.Uh hp;rw[Ju] at hr;obtain⟨bk,ob,o',g1,g2,g3,g4,g5,g6⟩:=ADp hpw (h.iw AV) ⟨s,hc⟩ (hcm w (h.iw AV));obtain⟨q1,q2⟩:=(h.kk rfl).1 false rfl;(have g1':C.Cs k xv bk ob:=by rw[<- q1];exact g1);have hS:=ABO (s:=s) (z:=z) (xv:=xv) (z1:=z1) (z2:=z2) (f0:=a0.frame.fn) (fj:=b0.frame.fn) (p0:=a0.frame.place) (pj:=b0.frame.place) h hc g2 g3 (hO xv bk ob g1') (hI xv bk ob g1') g4 g5 rfl;exact⟨_,_,_,hr,AV,ihg xv bk ob g1' g6 hS⟩
 |false=>
  rw[hw] at hc;have hc:w.heap[C.bc]? =AA (.chan 0 #[] true s s false):=hc
  have ZM:offersAt b C.bc true=[]:=by
   by_cases hq:ws=.quit
   ·obtain⟨n,hn⟩:=h.qu hq;exact Yc (by rcases hn.status with e|e<;>rw[e]<;>simp) _ _
   rcases h.S9 hq with ⟨hb,_⟩|⟨_,e2,_⟩;exact Yc (by rw[hb];simp) _ _;rw[e2] at hw;cases hw
  rw[ZM] at hp;have hr:=crowd_recv_closed (sl:=sl') h.cf.at0 hst hc hp;rw[Ju] at hr
  have hcf:=ABJ (a':=a0.finishComm C.P #[rcase C.bc z] (.recv true) 0 z false) (u:=#[{g:=0,fn:=a0.frame.fn,pos:=a0.frame.place,act:=.recvClosed C.bc}]) h.cf (λop hop=>by
   simp at hop;subst hop;exact⟨rfl,rfl,(h.Dc (OL C)).1,AV⟩) (by rw[Deaf_push];exact h.cf.dm)
  exact⟨_,w,_,by simpa using hr,AV,ihc ((h.kk rfl).2 hw) ⟨hcf,h.ne,.inl ⟨rfl,.refl _⟩,h.S9,h.qu,.inl rfl,h.iw,h.ow,h.c1,h.c2,h.wg,h.dw,h.kk,Kz h.rel λop hop=>by simp at hop;subst hop;exact .inr rfl⟩⟩
theorem aY(h:MB C ms ws w)(hm:ms≠ .ws2):((ws≠ .quit/\ws≠ .Nk/\ws≠ .Uj/\(ms=.work\/ms=.dh\/ms=.VJ))/\WA C w KQ 0)\/(ws=.quit/\WA C w 0 0):=by
 unfold MB at h;cases ws<;>simp only at h
 ·rcases h with ⟨a,b⟩|⟨a,_⟩;exact .inl ⟨⟨AV,AV,AV,a⟩,b⟩;exact Ai a hm
 ·rcases h with ⟨a,b⟩|⟨a,_⟩;exact .inl ⟨⟨AV,AV,AV,a⟩,b⟩;exact Ai a hm
 ·rcases h with ⟨a,b⟩|⟨a,_⟩;exact .inl ⟨⟨AV,AV,AV,a⟩,b⟩;exact Ai a hm
 ·rcases h with ⟨a,b⟩|⟨a,_⟩;exact .inl ⟨⟨AV,AV,AV,a⟩,b⟩;exact Ai a hm
 exact Ai h.1 hm;exact Ai h.1 hm;rcases h with ⟨a,_⟩|⟨_,b⟩;exact Ai a hm;exact .inr ⟨rfl,b⟩
theorem ABP{w':AL}(h:(ws≠ .quit/\ws≠ .Nk/\ws≠ .Uj)/\WA C w' KQ 0)(hm:ms=.work\/ms=.dh\/ms=.VJ):MB C ms ws w':=by
 unfold MB;(cases ws<;>simp only);exact .inl ⟨hm,h.2⟩;exact .inl ⟨hm,h.2⟩;exact .inl ⟨hm,h.2⟩;exact .inl ⟨hm,h.2⟩;exact Ai rfl h.1.2.1;exact Ai rfl h.1.2.2;exact Ai rfl h.1.1
theorem ALa(h:St C .work ws k kW a0 b0 oM oW gs w t q a b OW dW)(ha:a.status=.running)(hr:a0'.status=.running)(hmw:mayWake C.P a0=true)(hce:Uk C.bs es)
  (hs: ∀w w',oM.I w->QF w C.bs w'->Ae C.P true a0 w=.go a0' w' es) (ih:All C Fin .dh ws k kW a0' b0 oM oW):Turn C Fin gs w sl' t 0:=by
 have hsm:=h.MP.sm ha;obtain⟨w',hw'⟩:=TR (show MO w C.bs false from h.c2);obtain⟨f1,f2,f3,f4,f5,f6⟩:=XK hw'
 have hwk:woken C.P a a0' w' b=b.again w':=by
  unfold woken;rw[XL hsm,hmw,hr];rfl
 have hwg:MB C .dh ws w':=by
  rcases aY h.wg AV with ⟨h1,h2⟩|⟨rfl,h2⟩
  ·exact ABP ⟨⟨h1.1,h1.2.1,h1.2.2.1⟩,h2.keep (f3 _ h.ne.2.2)⟩ (.inr (.inl rfl))
  exact .inr ⟨AV,h2.keep (f3 _ h.ne.2.2)⟩
 obtain⟨gs',t',b',h1,h2,h3⟩:=eH (sl':=sl') (ms':=.dh) (k':=k) (Sz:=oM) h hsm (hs w w' h.cf.im hw') hr (by rw[f2];exact Ba _) (λx hx hO hS=>f3 x λe=>hS (by rw[e];exact Rw C)) ⟨f4,f5,f6⟩ (λx=>⟨.inl,λy=>y.elim id λz=>by omega⟩)
  (oM.st w w' h.cf.im (λx hx=>f3 x λe=>by
   rcases hx with hx|hx;exact (h.Dc (Rw C)).2.2.1 (by rw[<- e];exact hx)
   exact (h.Dc (Rw C)).2.2.2 (by rw[<- e];exact hx)) (by rw[f2];exact Ba _) f4 f5)
  (λe he=>uY (Rw C) (h.Dc (Rw C)).2.1 (h.Dc (Rw C)).2.2.2 (by rw[f2];exact (h.Dc (Rw C)).1) ((hce e he).elim (λx=>.inr (.inl x)) (λx=>.inr (.inr x)))) (by rw[iK hce];rfl)
  (h.c1.keep (f3 _ h.ne.1)) f1 hwg
  (λe=>by
   rcases h.S9 e with ⟨hb,AIE⟩|⟨_,e2,xv,z1,z2,rfl,_⟩;rw[Lm hb];exact .inl ⟨hb,AIE⟩;rw[hwk];obtain⟨s1,hs1⟩:=f1;(have hc1:MO w' C.bc false:=by have:=h.c1.keep (f3 _ h.ne.1);rw[e2] at this;exact this);obtain⟨s2,hs2⟩:=hc1;rw[jd hs2 hs1]
   exact .inl ⟨rfl,rfl,rfl,rfl⟩) (λe=>by cases e)
 exact⟨gs',w',t',h1,h2,ih h3⟩
theorem ABQ(h:St C ms ws k kW a0 b0 oM oW gs w t q a b OW dW)(hm:ms≠ .work)(hq:ws≠ .quit):b.status=.running/\Sm b b0:=by
 rcases h.S9 hq with x|⟨e,_⟩;exact x;exact Ai e hm
theorem UK(hm:ms≠ .work)(hm':ms'≠ .work)(h:St C ms ws k kW a0 b0 oM oW gs w t q a b OW dW)(ha:a.status=.running)(hs:Ae C.P true a0 w=.go a0' w' es)(hr:a0'.status=.running)
  (hw':(∀x,x≠C.wg->w'.heap[x]? =w.heap[x]?)/\w'.heap.size=w.heap.size/\w'.tape=w.tape/\w'.os=w.os/\w'.output=w.output)
  (hes: ∀e∈es,Ev0 C OW w'.heap.size e) (hd:Ee ms.deaf es=ms'.deaf) (hwg:MB C ms' ws w') (ih:All C Fin ms' ws k kW a0' b0 oM oW):Turn C Fin gs w sl' t 0:=by
 obtain⟨f1,f2,f3,f4,f5⟩:=hw'
 obtain⟨gs',t',b',h1,h2,h3⟩:=eH (sl':=sl') (ms':=ms') (k':=k) (Sz:=oM) h (h.MP.sm ha) hs hr (by rw[f2];exact Ba _) (λx hx hO hS=>f1 x λe=>hS (by rw[e];exact IX C)) ⟨f3,f4,f5⟩ (λx=>⟨.inl,λy=>y.elim id λz=>by omega⟩)
  (oM.st w w' h.cf.im (λx hx=>f1 x λe=>by
   rcases hx with hx|hx;exact (h.Dc (IX C)).2.2.1 (by rw[<- e];exact hx)
   exact (h.Dc (IX C)).2.2.2 (by rw[<- e];exact hx)) (by rw[f2];exact Ba _) f3 f4) hes hd
  (h.c1.keep (f1 _ (Ir h.ne.2.1))) (by have:=h.c2.keep (f1 _ (Ir h.ne.2.2));simpa[hm,hm'] using this) hwg
  (λe=>by obtain⟨x,y⟩:=ABQ h hm e;rw[Lm x];exact .inl ⟨x,y⟩) (λe=>Ai e hm')
 exact⟨gs',w',t',h1,h2,ih h3⟩
theorem TS(h:St C ms ws k kW a0 b0 oM oW gs w t q a b OW dW)(hsz:w'.heap.size=w.heap.size){e:Bc}(he:(∃o x,e=⟨.cell ⟨C.wg,o,AB⟩,x,true⟩)\/e=mkS .disable\/e=mkS .enable):Ev0 C OW w'.heap.size e:=by
 rcases he with he|rfl|rfl;exact uY (IX C) (h.Dc (IX C)).2.1 (h.Dc (IX C)).2.2.2 (by rw[hsz];exact (h.Dc (IX C)).1) (.inl he);exact eF rfl AV trivial;exact eF rfl AV trivial
theorem Jb(w:AL):(∀x,x≠C.wg->w.heap[x]? =w.heap[x]?)/\w.heap.size=w.heap.size/\w.tape=w.tape/\w.os=w.os/\w.output=w.output:=⟨λ_ _=>rfl,rfl,rfl,rfl,rfl⟩
theorem AIF(hf:ms.free=true)(h:St C ms ws k kW a0 b0 oM oW gs w t q a b OW dW)(ha:a.status=.running)(hr:a0'.status=.running)(hs:Ae C.P true a0 w=.go a0' w es)(hes: ∀e∈es,e=mkS (.write (OJ C.wg)))(ih:All C Fin ms ws k kW a0' b0 oM oW):Turn C Fin gs w sl' t 0:=by
 (have hm:ms≠ .work:=λe=>by rw[e] at hf;cases hf);refine UK hm hm h ha hs hr (Jb w) (λe he=>?_) (KT (λe he=>by rw[hes e he];simp[mkS]) _) h.wg ih;rw[hes e he];refine⟨λx hx=>?_,by simp[mkS],(h.Dc (IX C)).1⟩;simp only[mkS,Cb,DK,DN] at hx;subst hx;intro b hb;simp only[Loc.blk,DN,OJ] at hb;subst hb;exact .inr (.inr ⟨IX C,(h.Dc (IX C)).2.1,(h.Dc (IX C)).2.2.2,AV⟩)
end
end
section
variable {C:Cx} {Fin:Nat->Ac->Own C.SR->Prop} {ms ms':MS} {ws:WS} {k kW:Nat} {a0 a0' b0 b0':Ac} {oM Sz oW WN:Own C.SR} {gs:Array Ac} {w w':AL} {sl':Option (Nat×Nat)} {t:CB} {q:Nat->Nat} {a b:Ac} {OW:Nat->Prop} {dW:Nat}
theorem AO9(h:St C .dh ws k kW a0 b0 oM oW gs w t q a b OW dW)(ha:a.status=.running)(hr:a0'.status=.running)(hs: ∀w,Live C w->Ae C.P true a0 w=.go a0' w #[mkS .disable])(ih:All C Fin .VJ ws k kW a0' b0 oM oW):Turn C Fin gs w sl' t 0:=by
 refine UK (ms':=.VJ) AV AV h ha (hs w h.wg.live) hr (Jb w) (λe he=>TS h rfl (by simp at he;exact .inr (.inl he))) rfl ?_ ih;rcases aY h.wg AV with ⟨h1,h2⟩|⟨rfl,h2⟩
 ·exact ABP ⟨⟨h1.1,h1.2.1,h1.2.2.1⟩,h2⟩ (.inr (.inr rfl))
 exact .inr ⟨AV,h2⟩
theorem APA{a1 a2:Ac}(h:St C .VJ ws k kW a0 b0 oM oW gs w t q a b OW dW)(ha:a.status=.running)(hr1:a1.status=.running)(hr2:a2.status=.running)(h1: ∀w,WA C w KQ 0->Ae C.P true a0 w=.go a1 w #[JD C])(h2: ∀w,WA C w 0 0->Ae C.P true a0 w=.go a2 w #[JD C])
  (ih1:All C Fin .VJ ws k kW a1 b0 oM oW) (ih2:All C Fin .Qb ws k kW a2 b0 oM oW):Turn C Fin gs w sl' t 0:=by
 have hev: ∀e∈(#[JD C]:Array Bc),Ev0 C OW w.heap.size e:=λe he=>TS h rfl (by simp at he;subst he;exact .inl ⟨0,false,rfl⟩);have hd:Ee 1 #[JD C]=1:=KT (λe he=>by simp at he;subst he;simp[JD]) 1;rcases aY h.wg AV with ⟨g1,g2⟩|⟨rfl,g2⟩
 ·exact UK (ms':=.VJ) AV AV h ha (h1 w g2) hr1 (Jb w) hev hd h.wg ih1
 exact UK (ms':=.Qb) AV AV h ha (h2 w g2) hr2 (Jb w) hev hd (.inr ⟨AV,g2⟩) ih2
theorem APB{a1 a2:Ac}(h:St C .VJ ws k kW a0 b0 oM oW gs w t q a b OW dW)(ha:a.status=.running)(hr1:a1.status=.running)(hr2:a2.status=.running)(h1: ∀w,WA C w KQ 0->Ae C.P true a0 w=.go a1 (w.setCell (F6 C.wg) (.int .u64 (KQ+1))) #[JD C,Ui C])
  (h2: ∀w,WA C w 0 0->Ae C.P true a0 w=.go a2 w #[JD C]) (ih1:All C Fin .ws2 ws k kW a1 b0 oM oW) (ih2:All C Fin .Qb ws k kW a2 b0 oM oW):Turn C Fin gs w sl' t 0:=by
 have hev: ∀e∈(#[JD C]:Array Bc),Ev0 C OW w.heap.size e:=λe he=>TS h rfl (by simp at he;subst he;exact .inl ⟨0,false,rfl⟩);have hd:Ee 1 #[JD C]=1:=KT (λe he=>by simp at he;subst he;simp[JD]) 1;rcases aY h.wg AV with ⟨g1,g2⟩|⟨rfl,g2⟩
 ·have hwf:=Nl w (F6 C.wg) (.int .u64 (KQ+1));refine UK (ms':=.ws2) AV AV h ha (h1 w g2) hr1 hwf (λe he=>TS h hwf.2.1 ?_) (KT (λe he=>?_) 1) ?_ ih1
  ·simp only[IU,BB,BC,or_false] at he;rcases he with rfl|rfl;exact .inl ⟨0,false,rfl⟩;exact .inl ⟨0,true,rfl⟩
  ·simp only[IU,BB,BC,or_false] at he;rcases he with rfl|rfl<;>simp[JD,Ui]
  have hW:=g2.setSt (KQ+1);unfold MB;(cases ws<;>simp only);exact .inr ⟨Am,hW⟩;exact .inr ⟨Am,hW⟩;exact .inr ⟨Am,hW⟩;exact .inr ⟨Am,hW⟩;exact Ai rfl g1.2.1;exact Ai rfl g1.2.2.1;exact Ai rfl g1.1
 exact UK (ms':=.Qb) AV AV h ha (h2 w g2) hr2 (Jb w) hev hd (.inr ⟨AV,g2⟩) ih2
theorem aZ(h:MB C ms ws w)(hm:ms=.sZ\/ms=.Qb\/ms=.su):ws=.quit/\WA C w 0 0:=by
 rcases aY h (by rcases hm with e|e|e<;>rw[e]<;>simp) with ⟨⟨_,_,_,h1⟩,_⟩|h1
 ·rcases hm with rfl|rfl|rfl<;>rcases h1 with e|e|e<;>cases e
 exact h1
theorem ALb(h:St C .Qb ws k kW a0 b0 oM oW gs w t q a b OW dW)(ha:a.status=.running)(hr:a0'.status=.running)(hs: ∀w,WA C w 0 0->Ae C.P true a0 w=.go a0' w #[JD C])(ih:All C Fin .Qb ws k kW a0' b0 oM oW):Turn C Fin gs w sl' t 0:=
 UK (ms':=.Qb) AV AV h ha (hs w (aZ h.wg (.inr (.inl rfl))).2) hr (Jb w) (λe he=>TS h rfl (by simp at he;subst he;exact .inl ⟨0,false,rfl⟩)) (KT (λe he=>by simp at he;subst he;simp[JD]) 1) h.wg ih
theorem APC(h:St C .sZ ws k kW a0 b0 oM oW gs w t q a b OW dW)(ha:a.status=.running)(hr:a0'.status=.running)(hs: ∀w,WA C w 0 0->Ae C.P true a0 w=.go a0' w #[JD C])(ih:All C Fin .Qb ws k kW a0' b0 oM oW):Turn C Fin gs w sl' t 0:=by
 obtain⟨rfl,hW⟩:=aZ h.wg (.inl rfl);exact UK (ms':=.Qb) AV AV h ha (hs w hW) hr (Jb w) (λe he=>TS h rfl (by simp at he;subst he;exact .inl ⟨0,false,rfl⟩)) (KT (λe he=>by simp at he;subst he;simp[JD]) 1) (.inr ⟨AV,hW⟩) ih
theorem APD(h:St C .Qb ws k kW a0 b0 oM oW gs w t q a b OW dW)(ha:a.status=.running)(hr:a0'.status=.running)(hs: ∀w,Live C w->Ae C.P true a0 w=.go a0' w #[mkS .enable])(ih:All C Fin .su ws k kW a0' b0 oM oW):Turn C Fin gs w sl' t 0:=by
 obtain⟨rfl,hW⟩:=aZ h.wg (.inr (.inl rfl));exact UK (ms':=.su) AV AV h ha (hs w h.wg.live) hr (Jb w) (λe he=>TS h rfl (by simp at he;exact .inr (.inr he))) rfl (.inr ⟨AV,hW⟩) ih
theorem APE(h:St C .ws2 ws k kW a0 b0 oM oW gs w t q a b OW dW)(ha:a.status=.running)(hsl:b.status≠ .blocked->XJ C Fin .ws2 ws k kW a0 b0 oM oW gs.size q)(ho:a0.offers=AB)(hr:a0'.status=.running)
  (h0: ∀w st,WA C w st 0->Ae C.P true a0 w=.go {a0 with status:=.blocked} w #[]) (h1: ∀w,WA C w 0 1->Ae C.P true a0 w=.go a0' (w.setCell (OJ C.wg) (.int .u32 0)) (JB (OJ C.wg))) (ih:All C Fin .sZ ws k kW a0' b0 oM oW):Turn C Fin gs w sl' t 0:=by
 have hcase:(ws≠ .quit/\∃st,WA C w st 0)\/(ws=.quit/\WA C w 0 1):=by
  have hw:=h.wg;unfold MB at hw;(cases ws<;>simp only at hw);exact .inl ⟨AV,hw.elim (λx=>⟨_,x.2⟩) λx=>⟨_,x.2⟩⟩;exact .inl ⟨AV,hw.elim (λx=>⟨_,x.2⟩) λx=>⟨_,x.2⟩⟩;exact .inl ⟨AV,hw.elim (λx=>⟨_,x.2⟩) λx=>⟨_,x.2⟩⟩;exact .inl ⟨AV,hw.elim (λx=>⟨_,x.2⟩) λx=>⟨_,x.2⟩⟩;exact .inl ⟨AV,_,hw.2⟩;exact .inl ⟨AV,_,hw.2⟩;exact .inr ⟨rfl,hw.elim (λx=>x.2) λx=>Ai rfl x.1⟩
 have hsm:=h.MP.sm ha;rcases hcase with ⟨hq,st,hW⟩|⟨rfl,hW⟩
 ·obtain⟨hb,AIE⟩:=ABQ h AV hq;obtain⟨g1,g2,g3⟩:=df (sl':=sl') (Sz:=oM) h.cf (by rw[hsm.step];exact h0 w st hW) (Ba _) (λ_ _ _ _=>rfl) ⟨rfl,rfl,rfl⟩ (λx=>⟨.inl,λy=>y.elim id λz=>by omega⟩) h.cf.im (λe he=>by simp at he);rw[Lm hb] at g3;refine⟨_,w,_,g1,g2,hsl (by rw[hb];simp) g2 ⟨g3,h.ne,.inr (.inr ⟨rfl,hq,rfl,ho,rfl,rfl,rfl⟩),h.S9,h.qu,.inr hb,h.iw,h.ow,h.c1,h.c2,h.wg,h.dw,h.kk,Kz h.rel λop hop=>?_⟩ rfl⟩;obtain⟨e,he,_⟩:=KP hop;simp at he
 have hwf:=Nl w (OJ C.wg) (.int .u32 0);refine UK (ms':=.sZ) AV AV h ha (h1 w hW) hr hwf (λe he=>TS h hwf.2.1 ?_) ?_ (.inr ⟨AV,hW.setSm 0⟩) ih
 ·simp only[JB,IU,BB,BC,or_false] at he;rcases he with rfl|rfl|rfl|rfl;exact .inr (.inl rfl);exact .inl ⟨1,false,rfl⟩;exact .inl ⟨1,true,rfl⟩;exact .inr (.inr rfl)
 simp[JB,Ee,MS.deaf]
theorem ALc(h:St C .su ws k kW a0 b0 oM oW gs w t q a b OW dW)(ha:a.status=.running)(_:a0'.status=.running)(hs: ∀w,Live C w->Ae C.P true a0 w=.go a0' w #[mkS (.acquire (F6 C.wg))])(hfin:Fin k a0' oM)(hfw:ws=.quit->C.FW oW):Turn C Fin gs w sl' t 0:=by
 obtain⟨rfl,hW⟩:=aZ h.wg (.inr (.inr rfl));obtain⟨n,hn⟩:=h.qu rfl;have AMP:=(h.Dc (IX C)).1
 obtain⟨g1,g2,g3⟩:=df (sl':=sl') (Sz:=oM) h.cf (by rw[(h.MP.sm ha).step];exact hs w h.wg.live) (Ba _) (λ_ _ _ _=>rfl) ⟨rfl,rfl,rfl⟩ (λx=>⟨.inl,λy=>y.elim id λz=>by omega⟩) h.cf.im (λe he=>by
  simp at he;subst he;exact eF rfl AV AMP)
 rw[woken_quitsD hn] at g3;(have hu:DX 0 a.frame.fn a.frame.place #[mkS (.acquire (F6 C.wg))]= #[{g:=0,fn:=a.frame.fn,pos:=a.frame.place,act:=.mark (.acquire (F6 C.wg))}]:=by simp[DX,mkS,Cb]);rw[hu] at g1 g3;have hd0:Ee MS.su.deaf #[mkS (.acquire (F6 C.wg))]=0:=rfl;rw[hd0] at g3;obtain⟨r,hrel⟩:=h.rel rfl;generalize hT:t++ #[({g:=0,fn:=a.frame.fn,pos:=a.frame.place,act:=.mark (.acquire (F6 C.wg))}:MemOp)]=T at g3⊢;(have hlast:T[t.size]? =AA {g:=0,fn:=a.frame.fn,pos:=a.frame.place,act:=.mark (.acquire (F6 C.wg))}:=by rw[<- hT,Y7 (Ba _)];simp);have yY:Ky C T r:=by rw[<- hT];exact hrel.app' λop hop=>by simp at hop;subst hop;exact .inr rfl
 have hkr:Knows T 0 r:=by
  refine⟨t.size,_,hlast,rfl,.inr (.single (.inr ⟨.marked hrel.lt (.inr yY.act) (act?_of hlast) (λx _ _=>g3.norel x),yY.heard,⟨0,g?_of hlast,?_⟩⟩))⟩;rw[<- hT,deaf_old (Ba _)];exact h.cf.dm
 (have hj0:C.j≠0:=by have:=h.cf.hj;omega);refine⟨_,w,_,g1,g2,⟨0,_,w,sl',T,λi=>if i=C.j then n else q i,a0',k,oM,by rw[hT];rfl,rfl,⟨g3.at0,⟨λi g hi hg=>?_,g3.above⟩,⟨g3.ti.clean,λi x hx hm=>?_,?_,g3.dm,g3.low⟩⟩,hfin,h.cf.im,λx hx=>?_,λx hx=>?_,h.cf.sz,h.cf.keep.1,h.cf.same.1,h.cf.same.2.1,h.cf.same.2.2,⟨oW,hfw rfl,h.iw (.inr trivial)⟩,λb hb=>h.cf.keep.2 b (.inl hb)⟩⟩
 ·by_cases hij:i=C.j
  ·subst hij;rw[g3.Uh] at hg;obtain rfl:=EF hg;simp only[if_true];rw[g3.dw];exact hn
  simp only[hij,if_false];exact g3.old i g hi hij hg
 ·rcases g3.ti.all i x hx hm with h1|h1|⟨h1,h2⟩;exact .inl h1
  ·rcases yY.all i x hx hm h1 with h2|⟨h2,h3,_⟩;exact .inl (Knows.of_before h2 hkr);refine .inr ⟨?_,h3⟩;cases hl:x.loc<;>rw[hl] at h2<;>simp only[Loc.blk,DN] at h2<;>first|exact .inr h2|cases h2
  refine .inr ⟨?_,h2⟩;cases hl:x.loc<;>rw[hl] at h1<;>first|exact .inl h1|exact h1.elim
 ·intro i g hg hg0 hc;by_cases hgj:g=C.j
  ·subst hgj;obtain⟨x,hx,hm,hk⟩:=hc
   have hb:Before T i r:=by
    rcases yY.all i x hx hm hg with h2|⟨_,h3,h4⟩;exact h2;rcases hk with hk|hk;exact Ai h3 hk;exact Ai hk h4
   obtain⟨y,z,hy,hz,hby⟩:=Knows.of_before hb hkr;refine⟨y,by rw[g?_of hy,hz],?_⟩;rcases hby with rfl|hby
   ·rw[g?_of hy] at hg;have:=EF hg;rw[hz] at this;exact Ai this.symm hj0
   exact hby
  exact g3.over i g hg hg0 hgj hc
 ·have h1:=h.cf.om x hx;exact⟨h1.1,λe=>e.elim h1.2.2.2.2 λe=>h1.2.2.2.1 (by rw[e];exact IX C)⟩
 rcases hx with e|rfl;exact h.cf.z x e;exact AMP
theorem inner(hand:Hand C Fin ms k a0 oM)
  (t0: ∀{ws kW b0 oW},PW C ws kW b0 oW->∀{gs w sl' t q a b OW dW},St C ms ws k kW a0 b0 oM oW gs w t q a b OW dW->a.status=.running->(b.status≠ .blocked->XJ C Fin ms ws k kW a0 b0 oM oW gs.size q)->Turn C Fin gs w sl' t 0):
  ∀{ws kW b0 oW},PW C ws kW b0 oW->All C Fin ms ws k kW a0 b0 oM oW:=by
 intro ws kW b0 oW hW
 induction hW with
 | @QG s kW b o nx no hr hst hpw ih=>
  intro gs w sl t q a b OW dW h;refine Jt AV (t0 (.QG nx no hr hst hpw)) (λ{gs w sl' t q a b OW dW} h hb _=>?_) h;have hI:=h.iw AV;obtain⟨w',es,h1,h2⟩:=hst w hI;exact AIA h hb h1 h2 ((hpw w hI).run AV) (ih w hI)
 | @sel kW b o o' xv bk ob z1 z2 hr ho hcs hbk hob hst hO2 hI2 hp1 hp2 ih1 ih2=>
  intro gs w sl t q a b OW dW h;exact Jt AV (t0 (.sel hr ho hcs hbk hob hst hO2 hI2 hp1 hp2)) (λh hb hsl=>ALZ h hb hsl ho hr hcs hbk hob hst hO2 hI2 hand hp1 ih2) h
 | @clo s kW b b' o es hr hr' hmw hk hce hst hp ih=>
  intro gs w sl t q a b OW dW h;exact Jt AV (t0 (.clo hr hr' hmw hk hce hst hp)) (λh hb _=>ALX h hb hr' hmw hk hce hst ih) h
 | @free s kW b o nx hf hr hst hp ih=>
  intro gs w sl t q a b OW dW h;exact Jt (λe=>by rw[e] at hf;cases hf) (t0 (.free nx hf hr hst hp)) (λh hb _=>AIB hf h hb (hst _ h.wg.live).1 (hst _ h.wg.live).2 (ih _ h.wg.live)) h
 | @r0 kW b b' o hr hr' hst hp ih=>
  intro gs w sl t q a b OW dW h;refine Jt AV (t0 (.r0 hr hr' hst hp)) (λ{gs w sl' t q a b OW dW} h hb _=>?_) h;have hdw:dW=0:=h.dw AV;refine ABM (ws':=.fin1) rfl rfl h hb hr' hst ⟨rfl,AV,(h.Dc (IX C)).1⟩ rfl (λw x=>x) (λ_=>?_) ih;(have hu:DX C.j b.frame.fn b.frame.place #[mkS (.releaseMerge (F6 C.wg))]= #[{g:=C.j,fn:=b.frame.fn,pos:=b.frame.place,act:=.mark (.releaseMerge (F6 C.wg))}]:=by simp[DX,mkS,Cb]);rw[hu];(have hlast:(t++ #[({g:=C.j,fn:=b.frame.fn,pos:=b.frame.place,act:=.mark (.releaseMerge (F6 C.wg))}:MemOp)])[t.size]? =AA {g:=C.j,fn:=b.frame.fn,pos:=b.frame.place,act:=.mark (.releaseMerge (F6 C.wg))}:=by rw[Y7 (Ba _)];simp);refine⟨t.size,act?_of hlast,g?_of hlast,⟨C.j,g?_of hlast,?_⟩,λi x hx _ hg=>.inl ?_⟩
  ·rw[deaf_old (Ba _)];have:=h.cf.dw;rw[hdw] at this;exact this
  rcases Ew hx with ⟨hi,h'⟩|⟨op,hop,_,hop'⟩
  ·rw[g?_old hi] at hg;exact .inr ((ABE hg).hb_new (Ba _) hlast rfl)
  simp at hop;subst hop;cases hop'
 | @k1 kW b b' o hr hr' hst hp ih=>
  intro gs w sl t q a b OW dW h;refine Jt AV (t0 (.k1 hr hr' hst hp)) (λ{gs w sl' t q a b OW dW} h hb _=>?_) h;refine ABM (ws':=.fin2) rfl rfl h hb hr' hst ⟨rfl,AV,Am⟩ rfl (λw x=>x) (Kz (λ_=>h.rel rfl) λop hop=>?_) ih;obtain⟨e,he,rfl⟩:=KP hop;simp at he;subst he;exact .inr rfl
 | @d1 kW n b b1 b2 o hr hr2 h1 hq hfw h2 hp ih=>
  intro gs w sl t q a b OW dW h;exact Jt AV (t0 (.d1 hr hr2 h1 hq hfw h2 hp)) (λh hb _=>AO5 h hb h1 hq hr2 h2 (Rx (b0:=b1) (λh ha hsl=>t0 (.quit hfw) h ha λ_=>λ_ hS hbl=>by rw[Um hS.MP] at hbl;cases hbl)) ih) h
 | @d2 kW b b' o hr hr' hst hp ih=>
  intro gs w sl t q a b OW dW h;exact Jt AV (t0 (.d2 hr hr' hst hp)) (λh hb _=>AO6 h hb hr' hst ih) h
 | @d3 kW b b' o hr hr' hst hp ih=>
  intro gs w sl t q a b OW dW h;exact Jt AV (t0 (.d3 hr hr' hst hp)) (λh hb _=>AO7 h hb hr' hst ih) h
 | @d4 kW n b b' o hr hmw hst hq hfw=>
  intro gs w sl t q a b OW dW h;exact Jt AV (t0 (.d4 hr hmw hst hq hfw)) (λh hb _=>AO8 h hb hmw hst hq (Rx (b0:=b') (λh ha hsl=>t0 (.quit hfw) h ha λ_=>λ_ hS hbl=>by rw[Um hS.MP] at hbl;cases hbl))) h
 | @quit kW b o hfw=>
  intro gs w sl t q a b' OW dW h;exact Rx (b0:=b) (λh ha hsl=>t0 (.quit hfw) h ha λ_=>λ_ hS hbl=>by rw[Um hS.MP] at hbl;cases hbl) h
end
section
variable {C:Cx}{a0:Ac}{ms:MS}{k:Nat}
theorem Jh{Fin:Nat->Ac->Own C.SR->Prop}{oM:Own C.SR}(h:ms≠ .work):Hand C Fin ms k a0 oM:=λe=>Ai e h
theorem phase{Fin:Nat->Ac->Own C.SR->Prop}{oM:Own C.SR}(hM:PM C Fin ms k a0 oM):
  ∀{ws kW b0 oW},PW C ws kW b0 oW->All C Fin ms ws k kW a0 b0 oM oW:=by
 induction hM with
 | @QG k a o nx no hr hst hpm ih=>
  refine inner (λ_ z w hI _ hc=>?_) λ{ws kW b0 oW} hpw {gs w sl' t q a b OW dW} h ha _=>?_
  ·obtain⟨w',es,h1,_⟩:=hst w hI;rw[h1] at hc;cases hc
  have hI:=h.cf.im;obtain⟨w',es,h1,h2⟩:=hst w hI
  have hr':(nx w).status=.running:=by
   have:=hpm w hI;cases this<;>assumption
  exact AIC h ha h1 h2 hr' (ih w hI hpw)
 | @recv k a o z go hr ho hst hO hI hgo hcl ihg ihc=>
  refine inner (λ_ z' w hI' _ hc=>?_) λ{ws kW b0 oW} hpw {gs w sl' t q a b OW dW} h ha hsl=>AID hpw h ha hsl hst hO hI (λxv bk ob hcs {ws kW b0 oW} hp=>ihg xv bk ob hcs hp) (λe=>ihc e hpw);rw[hst w hI'] at hc;simp only[GStep.comm.injEq,rcase,ADI,IV,CommCase.mk.injEq,and_true,true_and] at hc;subst hc;intro xv bk ob hcs;exact⟨go xv bk ob,hO xv bk ob hcs,hI xv bk ob hcs,λhp=>ihg xv bk ob hcs hp⟩
 | @clo k a a' o es hr hr' hmw hce hst hpm ih=>
  refine inner (λ_ z w hI hc1 hc=>?_) λ{ws kW b0 oW} hpw {gs w sl' t q a b OW dW} h ha _=>ALa h ha hr' hmw hce hst (ih hpw);obtain⟨w',hw'⟩:=TR hc1;rw[hst w w' hI hw'] at hc;cases hc
 | @free s k a o nx es hf hr hst hpm ih=>
  exact inner (Jh (λe=>by rw[e] at hf;cases hf)) λ{ws kW b0 oW} hpw {gs w sl' t q a b OW dW} h ha _=>AIF hf h ha (hst w h.wg.live).1 (hst w h.wg.live).2.1 (hst w h.wg.live).2.2 (ih w h.wg.live hpw)
 | @kd k a a' o hr hr' hst hpm ih=>
  exact inner (Jh AV) λ{ws kW b0 oW} hpw {gs w sl' t q a b OW dW} h ha _=>AO9 h ha hr' hst (ih hpw)
 | @w1 k a a1 a2 o hr hr1 hr2 h1 hp1 h2 hp2 ih1 ih2=>
  exact inner (Jh AV) λ{ws kW b0 oW} hpw {gs w sl' t q a b OW dW} h ha _=>APA h ha hr1 hr2 h1 h2 (ih1 hpw) (ih2 hpw)
 | @w2 k a a1 a2 o hr hr1 hr2 h1 hp1 h2 hp2 ih1 ih2=>
  exact inner (Jh AV) λ{ws kW b0 oW} hpw {gs w sl' t q a b OW dW} h ha _=>APB h ha hr1 hr2 h1 h2 (ih1 hpw) (ih2 hpw)
 | @w1z k a a2 o hr hr2 hst hpm ih=>
  exact inner (Jh AV) λ{ws kW b0 oW} hpw {gs w sl' t q a b OW dW} h ha _=>ALb h ha hr2 hst (ih hpw)
 | @w3 k a a' o hr hr' ho h0 h1 hpm ih=>
  exact inner (Jh AV) λ{ws kW b0 oW} hpw {gs w sl' t q a b OW dW} h ha hsl=>APE h ha hsl ho hr' h0 h1 (ih hpw)
 | @w4 k a a' o hr hr' hst hpm ih=>
  exact inner (Jh AV) λ{ws kW b0 oW} hpw {gs w sl' t q a b OW dW} h ha _=>APC h ha hr' hst (ih hpw)
 | @ke k a a' o hr hr' hst hpm ih=>
  exact inner (Jh AV) λ{ws kW b0 oW} hpw {gs w sl' t q a b OW dW} h ha _=>APD h ha hr' hst (ih hpw)
 | @acq k a a' o hr hr' hst hfin=>
  exact inner (Jh AV) λ{ws kW b0 oW} hpw {gs w sl' t q a b OW dW} h ha _=>ALc h ha hr' hst hfin (λe=>by subst e;cases hpw with|free _ hf _ _ _=>cases hf|quit hfw=>exact hfw)
end
abbrev link:Go.Conc.Lib.WgLink:={add:=74,done:=76,wait:=77,relMerge:=101,disable:=102,enable:=103,inBubble:=104,associate:=105,fatal:=106,uOr:=107,uAdd:=108,raceRead:=109,uLoad:=110,uStore:=111,disassociate:=112,semrelease:=113,acquire:=114,isAssociated:=115,uCas:=116,raceWrite:=117,semacquire:=118,orU64:=131,addU64:=132,loadU64:=133,storeU64:=134,casU64:=135,tWgP:=208,tUP:=184,tAssoc:=210,tWg:=168,tAU:=165,tU64:=163,tUint:=214,tU32:=166,tPU32:=215,tPAU:=232,tPU64:=234,tNoCopy:=160,tANoCopy:=161,tAlign64:=162}
theorem wgLib:Go.Conc.Lib.WgLib Tryz.prog link:=
 ⟨Tryz.func74,Tryz.func76,Tryz.func77,Tryz.func101,Tryz.func102,Tryz.func103,Tryz.func104,Tryz.func105,Tryz.func106,Tryz.func107,Tryz.func108,Tryz.func109,Tryz.func110,Tryz.func111,Tryz.func112,Tryz.func113,Tryz.func114,Tryz.func115,Tryz.func116,Tryz.func117,Tryz.func118,Tryz.func131,Tryz.func132,Tryz.func133,Tryz.func134,Tryz.func135,Tryz.underlying208,Tryz.runUnderlying208,Tryz.sizeOf208,Tryz.isAgg208,Tryz.zeroValue208,Tryz.underlying184,Tryz.runUnderlying184,Tryz.sizeOf184,Tryz.isAgg184,Tryz.zeroValue184,Tryz.underlying210,Tryz.runUnderlying210,Tryz.sizeOf210,Tryz.isAgg210,Tryz.zeroValue210,Tryz.underlying168,Tryz.runUnderlying168,Tryz.sizeOf168,Tryz.isAgg168,Tryz.zeroValue168,Tryz.underlying165,Tryz.runUnderlying165,Tryz.sizeOf165,Tryz.isAgg165,Tryz.zeroValue165,Tryz.underlying163,Tryz.runUnderlying163,Tryz.sizeOf163,Tryz.isAgg163,Tryz.zeroValue163,Tryz.underlying214,Tryz.runUnderlying214,Tryz.sizeOf214,Tryz.isAgg214,Tryz.zeroValue214,Tryz.underlying166,Tryz.runUnderlying166,Tryz.sizeOf166,Tryz.isAgg166,Tryz.zeroValue166,Tryz.underlying215,Tryz.runUnderlying215,Tryz.sizeOf215,Tryz.isAgg215,Tryz.zeroValue215,Tryz.underlying232,Tryz.runUnderlying232,Tryz.sizeOf232,Tryz.isAgg232,Tryz.zeroValue232,Tryz.underlying234,Tryz.runUnderlying234,Tryz.sizeOf234,Tryz.isAgg234,Tryz.zeroValue234,Tryz.underlying0,Tryz.runUnderlying0,Tryz.sizeOf0,Tryz.isAgg0,Tryz.zeroValue0,Tryz.underlying3,Tryz.runUnderlying3,Tryz.sizeOf3,Tryz.isAgg3,Tryz.zeroValue3,Tryz.underlying4,Tryz.runUnderlying4,Tryz.sizeOf4,Tryz.isAgg4,Tryz.zeroValue4,Tryz.underlying9,Tryz.runUnderlying9,Tryz.sizeOf9,Tryz.isAgg9,Tryz.zeroValue9,Tryz.underlying20,Tryz.runUnderlying20,Tryz.sizeOf20,Tryz.isAgg20,Tryz.zeroValue20,Tryz.underlying21,Tryz.runUnderlying21,Tryz.sizeOf21,Tryz.isAgg21,Tryz.zeroValue21,Aq,Aq⟩
instance:Go.ConcX.Payload:=⟨3⟩
end Go.Proofs.YtkkgcebhfghdnaaGreatDoor
