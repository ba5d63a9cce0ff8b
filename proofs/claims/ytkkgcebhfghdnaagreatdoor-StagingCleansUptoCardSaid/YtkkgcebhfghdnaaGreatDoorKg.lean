/- Part 7 of what that rests on; no condition. -/
import Derived.Test.YtkkgcebhfghdnaaGreatDoorKf
set_option maxRecDepth 100000
set_option maxHeartbeats 8000000
namespace Go.Proofs.YtkkgcebhfghdnaaGreatDoor
open Go Go.Conc
open Go.ConcN (sumTo upd sumTo_upd upd_ne upd_same)
structure Own (SR:Nat->Prop) where
 O:Nat->Prop
 I:World->Prop
 st: ∀w w1:World,I w->(∀b,O b\/SR b->w1.heap[b]? =w.heap[b]?)->w.heap.size<=w1.heap.size->w1.tape=w.tape->w1.os=w.os->I w1
structure Cx where
 P:Program
 j:Nat
 bc:Nat
 bs:Nat
 wg:Nat
 ty:TypeId
 N:Nat
 Cs:Nat->Value->Nat->Obj->Prop
 SR:Nat->Prop
 Z:Nat->Prop
 w0:World
 T0:Nat->Prop
 FW:Own SR->Prop
def Cx.SY (C:Cx) (b:Nat):Prop:=b=C.wg\/b=C.bc\/b=C.bs
def FU (wg:Nat):Addr:=⟨wg,0,none⟩
def Nc (wg:Nat):Addr:=⟨wg,1,none⟩
structure Cf (C:Cx) (gs:Array Goroutine) (w:World) (t:Trace) (q:Nat->Nat) (a b:Goroutine) (dM dW:Nat) (oM:Own C.SR) (OW:Nat->Prop):Prop where
 hj:0<C.j
 at0:gs[0]? =some a
 UD:gs[C.j]? =some b
 old: ∀i g,0<i->i≠C.j->gs[i]? =some g->QuitsD C.P (q i) (Deaf t i) g
 above: ∀i,gs.size<=i->Deaf t i=0
 dm:Deaf t 0=dM
 dw:Deaf t C.j=dW
 ti:TI C.j C.SY C.SR OW C.Z t
 low: ∀op∈t,op.act.low w.heap.size
 norel: ∀i,t.act? i≠some (.mark (.release (FU C.wg)))
 om: ∀b,oM.O b->b<w.heap.size/\¬OW b/\¬C.SR b/\¬C.SY b/\¬C.Z b
 ow: ∀b,OW b->b<w.heap.size/\¬C.SR b/\¬C.SY b/\¬C.Z b
 sr: ∀b,C.SR b->b<w.heap.size/\¬C.SY b/\¬C.Z b
 sy: ∀b,C.SY b->b<w.heap.size/\¬C.Z b
 z: ∀b,C.Z b->b<w.heap.size
 im:oM.I w
 keep:(∀b,b<C.w0.heap.size->¬C.T0 b->w.heap[b]? =C.w0.heap[b]?)/\(∀b,(oM.O b\/OW b\/C.SY b)->b<C.w0.heap.size->C.T0 b)
 sz:C.w0.heap.size<=w.heap.size
 same:w.tape=C.w0.tape/\w.os=C.w0.os/\w.output=C.w0.output
 over: ∀i g,t.g? i=some g->g≠0->g≠C.j->t.counts i->∃x,t.g? x=some 0/\HappensBefore t i x
theorem OY{j:Nat}{t u:Trace}(h: ∀i g,t.g? i=some g->g≠0->g≠j->t.counts i->∃x,t.g? x=some 0/\HappensBefore t i x)(hu: ∀op∈u,op.g=0\/op.g=j\/op.act.touch? =none):
  ∀i g,(t++u).g? i=some g->g≠0->g≠j->(t++u).counts i->∃x,(t++u).g? x=some 0/\HappensBefore (t++u) i x:=by
 intro i g hg h0 hj hc;obtain⟨x,hx,_⟩:=hc;obtain⟨op,hop,hox⟩:=touch_of hx;rcases getElem?_append_cases hop with ⟨hi,hop'⟩|⟨_,hopu⟩
 ·obtain⟨y,hy,hb⟩:=h i g (by rw[<- g?_old (u:=u) hi];exact hg) h0 hj ((counts_old hi).1 ⟨x,hx,‹_›⟩)
  have hyl:y<t.size:=by
   unfold Trace.g? at hy;obtain⟨z,hz,_⟩:=DV.1 hy;exact lt_size_of_getElem? hz
  exact⟨y,by rw[g?_old hyl];exact hy,hb_app u hb⟩
 (have hgg:op.g=g:=by simpa[Trace.g?,hop] using hg);rcases hu op hopu with h1|h1|h1;exact absurd (hgg.symm.trans h1) h0;exact absurd (hgg.symm.trans h1) hj;rw[h1] at hox;cases hox
def Ev0 (C:Cx) (OW:Nat->Prop) (B:Nat) (e:Event):Prop:=
 (∀x,(MemAct.ofEvent e).touch? =some x->Ok0 C.SY C.SR OW C.Z x)/\e.loc≠ .mark (.release (FU C.wg))/\(MemAct.ofEvent e).low B
def EvJ (C:Cx) (OW:Nat->Prop) (B:Nat) (e:Event):Prop:=
 (∀x,(MemAct.ofEvent e).touch? =some x->x.loc.isMemory=true->OkJ C.SY C.SR OW x)/\e.loc≠ .mark (.release (FU C.wg))/\(MemAct.ofEvent e).low B
theorem NF{C:Cx}{t u:Trace}(h: ∀i,t.act? i≠some (.mark (.release (FU C.wg))))(hu: ∀op∈u,op.act≠ .mark (.release (FU C.wg))): ∀i,(t++u).act? i≠some (.mark (.release (FU C.wg))):=by
 intro i hi;obtain⟨op,ho,hoa⟩:=DV.1 hi;rcases getElem?_append_cases ho with ⟨_,ho'⟩|⟨_,hou⟩
 ·exact h i (by rw[act?_of ho',hoa])
 exact hu op hou hoa
theorem WQ{e:Event}{a:Addr}(h:e.loc≠ .mark (.release a)):MemAct.ofEvent e≠ .mark (.release a):=by
 obtain⟨l,x,s⟩:=e;simp only at h;intro hh
 cases l with|mark m=>simp only[MemAct.ofEvent,MemAct.mark.injEq] at hh;exact h (by rw[hh])|obj c=>cases x<;>cases s<;>simp[MemAct.ofEvent] at hh|_=>simp[MemAct.ofEvent] at hh
section
variable {C:Cx} {gs:Array Goroutine} {w w':World} {t:Trace} {q:Nat->Nat} {a b a' b':Goroutine} {dM dW d:Nat} {oM Rq:Own C.SR} {OW RD:Nat->Prop} {sl':Option (Nat×Nat)} {es:Array Event}
theorem Cf.at(h:Cf C gs w t q a b dM dW oM OW)(d:Nat):Cf C gs (w.at d) t q a b dM dW oM OW:=
 ⟨h.hj,h.at0,h.UD,h.old,h.above,h.dm,h.dw,h.ti,h.low,h.norel,h.om,h.ow,h.sr,h.sy,h.z,oM.st w (w.at d) h.im (λ_ _=>rfl) (AP _) rfl rfl,h.keep,h.sz,h.same,h.over⟩
theorem bC(h:Cf C gs w t q a b dM dW oM OW)(hs:stepG C.P true a w=.go a' w' es)(hsz:w.heap.size<=w'.heap.size)
  (hkeep: ∀b,b<w.heap.size->¬oM.O b->¬C.SY b->w'.heap[b]? =w.heap[b]?) (hsame:w'.tape=w.tape/\w'.os=w.os/\w'.output=w.output)
  (hown: ∀b,Rq.O b↔oM.O b\/(w.heap.size<=b/\b<w'.heap.size)) (hI:Rq.I w') (hev: ∀e∈es,Ev0 C OW w'.heap.size e):
  runT C.P (crowd gs w sl') 0=(.next (crowd ((gs.map (woken C.P a a' w')).setIfInBounds 0 a') w' sl'),MemOp.ofEvents 0 a.frame.fn a.frame.place es)/\
  ((gs.map (woken C.P a a' w')).setIfInBounds 0 a').size=gs.size/\
  Cf C ((gs.map (woken C.P a a' w')).setIfInBounds 0 a') w' (t++MemOp.ofEvents 0 a.frame.fn a.frame.place es) q a' (woken C.P a a' w' b) (deafBehind dM es) dW Rq OW:=by
 have h0:0<gs.size:=(BK.1 h.at0).1;have hother: ∀{i:Nat},0≠i->Deaf (t++MemOp.ofEvents 0 a.frame.fn a.frame.place es) i=Deaf t i:=λhi=>Deaf_other t hi _ (λop hop=>ofEvents_g hop);refine⟨runT_crowd_go (P:=C.P) (sl:=sl') (i:=0) h.at0 (show stepG C.P (0==0) a w=_ from hs),AY,⟨h.hj,by simp[h0],?_,λi g hi hij hg=>?_,λi hi=>?_,by rw[Deaf_own,h.dm],by rw[hother (by have:=h.hj;omega),h.dw],?_,?_,?_,λb hb=>?_,λb hb=>?_,λb hb=>?_,λb hb=>?_,λb hb=>?_,hI,⟨λb hb ht=>?_,λb hb hl=>?_⟩,Ah h.sz hsz,?_,OY h.over λop hop=>.inl (ofEvents_g hop)⟩⟩
 ·have:=h.hj;rw[BO Ac,Dl,h.UD];rfl
 ·rw[BO Ac,Dl] at hg;obtain⟨y,hy,rfl⟩:=DV.1 hg;have hq:=h.old i y hi hij hy;rw[woken_quitsD hq,hother Ac];exact hq
 rw[hother (by simp at hi;omega)];exact h.above i (by simpa using hi)
 ·refine h.ti.app0 (λop hop=>ofEvents_g hop) λop hop x hx=>?_;obtain⟨e,he,rfl⟩:=Go.Conc.mem_ofEvents hop;exact (hev e he).1 x hx
 ·intro op hop;rcases Ce.1 hop with h1|h1;exact MemAct.low_mono hsz (h.low op h1);obtain⟨e,he,rfl⟩:=Go.Conc.mem_ofEvents h1;exact (hev e he).2.2
 ·refine NF h.norel λop hop=>?_;obtain⟨e,he,rfl⟩:=Go.Conc.mem_ofEvents hop;exact WQ (hev e he).2.1
 ·rcases (hown b).1 hb with h1|h1;have:=h.om b h1;exact⟨Ac,this.2⟩;refine⟨h1.2,λx=>?_,λx=>?_,λx=>?_,λx=>?_⟩;have:=(h.ow b x).1;omega;have:=(h.sr b x).1;omega;have:=(h.sy b x).1;omega;have:=h.z b x;omega
 have:=h.ow b hb;exact⟨Ac,this.2⟩;have:=h.sr b hb;exact⟨Ac,this.2⟩;have:=h.sy b hb;exact⟨Ac,this.2⟩;have:=h.z b hb;omega
 ·have hl:=h.sz;rw[<- h.keep.1 b hb ht];exact hkeep b Ac (λx=>ht (h.keep.2 b (.inl x) hb)) (λx=>ht (h.keep.2 b (.inr (.inr x)) hb))
 ·rcases hb with h1|h1|h1
  ·rcases (hown b).1 h1 with h2|h2;exact h.keep.2 b (.inl h2) hl;have:=h.sz;omega
  exact h.keep.2 b (.inr (.inl h1)) hl;exact h.keep.2 b (.inr (.inr h1)) hl
 exact⟨hsame.1.trans h.same.1,hsame.2.1.trans h.same.2.1,hsame.2.2.trans h.same.2.2⟩
theorem ql(h:Cf C gs w t q a b dM dW oM OW)(hs:stepG C.P false b w=.go b' w' es)(hsz:w.heap.size<=w'.heap.size)
  (hkeep: ∀b,b<w.heap.size->¬OW b->¬C.SY b->w'.heap[b]? =w.heap[b]?) (hsame:w'.tape=w.tape/\w'.os=w.os/\w'.output=w.output)
  (hown: ∀b,RD b↔OW b\/(w.heap.size<=b/\b<w'.heap.size)) (hev: ∀e∈es,EvJ C RD w'.heap.size e):
  runT C.P (crowd gs w sl') C.j=(.next (crowd ((gs.map (woken C.P b b' w')).setIfInBounds C.j b') w' sl'),MemOp.ofEvents C.j b.frame.fn b.frame.place es)/\
  ((gs.map (woken C.P b b' w')).setIfInBounds C.j b').size=gs.size/\
  Cf C ((gs.map (woken C.P b b' w')).setIfInBounds C.j b') w' (t++MemOp.ofEvents C.j b.frame.fn b.frame.place es) q (woken C.P b b' w' a) b' dM (deafBehind dW es) oM RD:=by
 have hjp:=h.hj;have hjl:C.j<gs.size:=(BK.1 h.UD).1;(have hj0:(C.j==0)=false:=by simp;omega);have hother: ∀{i:Nat},C.j≠i->Deaf (t++MemOp.ofEvents C.j b.frame.fn b.frame.place es) i=Deaf t i:=λhi=>Deaf_other t hi _ (λop hop=>ofEvents_g hop);have hnew:TI C.j C.SY C.SR RD C.Z t:=h.ti.new h.low λb=>⟨λx=>((hown b).1 x).imp id λy=>⟨y.1,x⟩,λx=>x.elim (λy=>(hown b).2 (.inl y)) (λy=>y.2)⟩
 have how: ∀b,RD b->b<w'.heap.size/\¬C.SR b/\¬C.SY b/\¬C.Z b:=λb hb=>by
  rcases (hown b).1 hb with h1|h1;have:=h.ow b h1;exact⟨Ac,this.2⟩;refine⟨h1.2,λx=>?_,λx=>?_,λx=>?_⟩;have:=(h.sr b x).1;omega;have:=(h.sy b x).1;omega;have:=h.z b x;omega
 refine⟨runT_crowd_go (P:=C.P) (sl:=sl') (i:=C.j) h.UD (by rw[hj0];exact hs),AY,⟨h.hj,?_,by simp[hjl],λi g hi hij hg=>?_,λi hi=>?_,by rw[hother Ac,h.dm],by rw[Deaf_own,h.dw],?_,?_,?_,λb hb=>?_,how,λb hb=>?_,λb hb=>?_,λb hb=>?_,?_,⟨λb hb ht=>?_,λb hb hl=>?_⟩,Ah h.sz hsz,?_,OY h.over λop hop=>.inr (.inl (ofEvents_g hop))⟩⟩;rw[BO Ac,Dl,h.at0];rfl
 ·rw[BO (CJ hij),Dl] at hg;obtain⟨y,hy,rfl⟩:=DV.1 hg;have hq:=h.old i y hi hij hy;rw[woken_quitsD hq,hother (CJ hij)];exact hq
 rw[hother (by simp at hi;omega)];exact h.above i (by simpa using hi)
 ·refine hnew.appJ (λop hop=>ofEvents_g hop) (λop hop x hx hm=>?_) λb hb=>(how b hb).2.2.2;obtain⟨e,he,rfl⟩:=Go.Conc.mem_ofEvents hop;exact (hev e he).1 x hx hm
 ·intro op hop;rcases Ce.1 hop with h1|h1;exact MemAct.low_mono hsz (h.low op h1);obtain⟨e,he,rfl⟩:=Go.Conc.mem_ofEvents h1;exact (hev e he).2.2
 ·refine NF h.norel λop hop=>?_;obtain⟨e,he,rfl⟩:=Go.Conc.mem_ofEvents hop;exact WQ (hev e he).2.1
 ·have h1:=h.om b hb;refine⟨Ac,λx=>?_,h1.2.2⟩;rcases (hown b).1 x with y|y;exact h1.2.1 y;omega
 have:=h.sr b hb;exact⟨Ac,this.2⟩;have:=h.sy b hb;exact⟨Ac,this.2⟩;have:=h.z b hb;omega
 ·refine oM.st w w' h.im (λb hb=>?_) hsz hsame.1 hsame.2.1;rcases hb with hb|hb;have h1:=h.om b hb;exact hkeep b h1.1 h1.2.1 h1.2.2.2.1;have h1:=h.sr b hb;exact hkeep b h1.1 (λx=>(h.ow b x).2.1 hb) h1.2.1
 ·have hl:=h.sz;rw[<- h.keep.1 b hb ht];exact hkeep b Ac (λx=>ht (h.keep.2 b (.inr (.inl x)) hb)) (λx=>ht (h.keep.2 b (.inr (.inr x)) hb))
 ·rcases hb with h1|h1|h1;exact h.keep.2 b (.inl h1) hl
  ·rcases (hown b).1 h1 with h2|h2;exact h.keep.2 b (.inr (.inl h2)) hl;have:=h.sz;omega
  exact h.keep.2 b (.inr (.inr h1)) hl
 exact⟨hsame.1.trans h.same.1,hsame.2.1.trans h.same.2.1,hsame.2.2.trans h.same.2.2⟩
theorem ACB(h:Cf C gs w t q a b dM dW oM OW){i:Nat}{g:Goroutine}(hpos:0<i)(hij:i≠C.j)(hi:gs[i]? =some g)(hg:g.status=.running):
  ∃k g' es,q i=k+1/\runT C.P (crowd gs (w.at d) sl') i=(.next (crowd ((gs.map (woken C.P g g' (w.at d))).setIfInBounds i g') (w.at d) sl'),MemOp.ofEvents i g.frame.fn g.frame.place es)/\
   ((gs.map (woken C.P g g' (w.at d))).setIfInBounds i g').size=gs.size/\
   Cf C ((gs.map (woken C.P g g' (w.at d))).setIfInBounds i g') (w.at d) (t++MemOp.ofEvents i g.frame.fn g.frame.place es) (upd q i k) (woken C.P g g' (w.at d) a) (woken C.P g g' (w.at d) b) dM dW oM OW/\
   sumTo gs.size (upd q i k)<sumTo gs.size q:=by
 have hq:=h.old i g hpos hij hi;(have hi0:(i==0)=false:=by simp;omega);have hlt:i<gs.size:=(BK.1 hi).1;have hjp:=h.hj
 cases hqi:q i with
 |zero=>rw[hqi] at hq;rw[hq.1] at hg;cases hg|succ k=>
  rw[hqi] at hq;rcases hq with ⟨hf,_⟩|⟨_,g',es,hm,hstp,hq'⟩;rw[hf] at hg;cases hg;have hother: ∀{x:Nat},i≠x->Deaf (t++MemOp.ofEvents i g.frame.fn g.frame.place es) x=Deaf t x:=λhi=>Deaf_other t hi _ (λop hop=>ofEvents_g hop);have hd:=h.at d;refine⟨k,g',es,rfl,runT_crowd_go (P:=C.P) (sl:=sl') (i:=i) hi (by rw[hi0];exact hstp (w.at d)),AY,⟨h.hj,?_,?_,λx y hx hxj hy=>?_,λx hx=>?_,by rw[hother Ac,h.dm],by rw[hother hij,h.dw],?_,?_,?_,h.om,h.ow,h.sr,h.sy,h.z,hd.im,h.keep,h.sz,h.same,OY h.over λop hop=>.inr (.inr (by obtain⟨e,he,rfl⟩:=Go.Conc.mem_ofEvents hop;exact touch_mute (hm e he)))⟩,?_⟩;rw[BO Ac,Dl,h.at0];rfl;rw[BO hij,Dl,h.UD];rfl
  ·by_cases hji:i=x
   ·subst hji;rw[F9 (by simpa using hlt)] at hy;obtain rfl:=BQ hy;rw[upd_same,Deaf_own];exact hq'
   rw[BO hji,Dl] at hy;obtain⟨z,hz,rfl⟩:=DV.1 hy;have hqj:=h.old x z hx hxj hz;rw[woken_quitsD hqj,upd_ne q k (CJ hji),hother hji];exact hqj
  rw[hother (by simp at hx;omega)];exact h.above x (by simpa using hx)
  ·refine h.ti.mute (λop hop=>ofEvents_g hop) λop hop=>?_;obtain⟨e,he,rfl⟩:=Go.Conc.mem_ofEvents hop;exact touch_mute (hm e he)
  ·intro op hop;rcases Ce.1 hop with h1|h1;exact h.low op h1;obtain⟨e,he,rfl⟩:=Go.Conc.mem_ofEvents h1;exact low_mute (hm e he) _
  ·refine NF h.norel λop hop=>?_;obtain⟨e,he,rfl⟩:=Go.Conc.mem_ofEvents hop;have hme:=hm e he;obtain⟨l,x,s⟩:=e;intro hh
   cases l with|mark m=>simp only[MemAct.ofEvent,MemAct.mark.injEq] at hh;subst hh;simp[Event.mute] at hme|obj c=>cases x<;>cases s<;>simp[MemAct.ofEvent] at hh|_=>simp[MemAct.ofEvent] at hh
  have hsum:sumTo gs.size (upd q i k)+(k+1)=sumTo gs.size q+k:=by
   have:=sumTo_upd q k id hlt;simpa[hqi] using this
  omega
theorem Zb(h:Cf C gs w t q a b dM dW oM OW)(ha:a.status=.running\/a.status=.blocked)(hb:b.status=.running\/b.status=.blocked\/b.status=.finished)(hr:a.status=.running\/b.status=.running)(sl:Option (Nat×Nat)):
  ∃i g d sl',gs[i]? =some g/\g.status=.running/\stepT C.P (crowd gs w sl)=runT C.P (crowd gs (w.at d) sl') i:=by
 refine crowd_pick (P:=C.P) (w:=w) (sl:=sl) (λg hg=>?_) (hr.elim (λx=>⟨0,a,h.at0,x⟩) (λx=>⟨C.j,b,h.UD,x⟩));obtain⟨i,hi,rfl⟩:=LJ.1 hg;have hgi:gs[i]? =some gs[i]:=Ba hi;rcases EM i with rfl|hpos
 ·have h0:=h.at0;rw[hgi] at h0;rw[BQ h0];exact awake_of (ha.imp id .inl)
 by_cases hij:i=C.j
 ·subst hij;have h0:=h.UD;rw[hgi] at h0;rw[BQ h0];exact awake_of hb
 exact awake_of ((h.old i _ hpos hij hgi).status.elim .inl λx=>.inr (.inr x))
end
def KQ:Int:=4294967296
def WA (C:Cx) (w:World) (st sm:Int):Prop:=w.heap[C.wg]? =some (.cells #[.int .u64 st,.int .u32 sm] C.ty)
def Live (C:Cx) (w:World):Prop:=∃st sm,WA C w st sm
def Iq (C:Cx):Event:=⟨.cell (FU C.wg),false,true⟩
def UE (C:Cx):Event:=⟨.cell (FU C.wg),true,true⟩
def mkS (m:Mark):Event:=⟨.mark m,false,true⟩
structure NG {SR:Nat->Prop} (o o':Own SR) (w w':World) (es:Array Event):Prop where
 I':o'.I w'
 sz:w.heap.size<=w'.heap.size
 O': ∀b,o'.O b↔o.O b\/(w.heap.size<=b/\b<w'.heap.size)
 keep: ∀b,b<w.heap.size->¬o.O b->w'.heap[b]? =w.heap[b]?
 same:w'.tape=w.tape/\w'.os=w.os/\w'.output=w.output
 evs: ∀e∈es,match e.loc with
  | .cell a=>o'.O a.block\/(SR a.block/\e.write=false)| .obj c=>o'.O c/\¬(e.write=true/\e.sync=true)| .mark m=>iV m| .output=>True|_=>False
inductive WS where
 |work (stp:Bool)|fin0|fin1|fin2|NP|UF|quit
inductive MS where
 |work|bD|Um|ws2|pX|QC|pY|done
 deriving DecidableEq
def WS.Iy:WS->Bool| .work _=>true|_=>false
def WS.free:WS->Bool| .fin0| .fin1| .fin2| .NP| .UF=>true|_=>false
def MS.free:MS->Bool| .bD| .Um| .ws2| .pX| .QC| .pY=>true|_=>false
def WS.deaf:WS->Nat| .fin2| .NP| .UF=>1|_=>0
def MS.deaf:MS->Nat| .Um| .ws2| .pX| .QC=>1|_=>0
def L8 (w:World) (c:Nat) (closed:Bool):Prop:=∃s,w.heap[c]? =some (.chan 0 #[] closed s s false)
def Pg (w:World) (c:Nat) (w':World):Prop:=∃s,w.heap[c]? =some (.chan 0 #[] false s s false)/\w'={w with heap:=w.heap.setIfInBounds c (.chan 0 #[] true s s false)}
def UG (c:Nat) (es:Array Event):Prop:=∀e∈es,e=⟨.obj c,false,true⟩\/e=⟨.obj c,true,true⟩
inductive PW (C:Cx):WS->Nat->Goroutine->Own C.SR->Prop
 |Ph {s:Bool} {k:Nat} {b:Goroutine} {o:Own C.SR} (nx:World->Goroutine) (no:World->Own C.SR):b.status=.running->
   (∀w,o.I w->∃w' es,stepG C.P false b w=.go (nx w) w' es/\NG o (no w) w w' es)->(∀w,o.I w->PW C (.work s) k (nx w) (no w))->PW C (.work s) k b o
 |sel {k:Nat} {b:Goroutine} {o o':Own C.SR} {xv:Value} {bk:Nat} {ob:Obj} {z1 z2:Value}:b.status=.running->b.offers=none->C.Cs k xv bk ob->o.O bk->(∀w,o.I w->w.heap[bk]? =some ob)->
   (∀w,o.I w->stepG C.P false b w=.comm b (EG C.bc C.bs xv z1 z2) true .select w #[])->(∀x,o'.O x->o.O x/\x≠bk)->(∀w,o.I w->o'.I w)->
   PW C (.work false) (k+1) (b.finishComm C.P (EG C.bc C.bs xv z1 z2) .select 0 undef false) o'->PW C (.work true) k (b.finishComm C.P (EG C.bc C.bs xv z1 z2) .select 1 z2 false) o->PW C (.work false) k b o
 |clo {s:Bool} {k:Nat} {b b':Goroutine} {o:Own C.SR} {es:Array Event}:b.status=.running->b'.status=.running->mayWake C.P b=true->(s=true\/k=C.N)->UG C.bc es->
   (∀w w',o.I w->Pg w C.bc w'->stepG C.P false b w=.go b' w' es)->PW C .fin0 k b' o->PW C (.work s) k b o
 |free {s:WS} {k:Nat} {b:Goroutine} {o:Own C.SR} (nx:World->Goroutine):s.free=true->b.status=.running->(∀w,Live C w->(nx w).status=.running/\stepG C.P false b w=.go (nx w) w #[])->(∀w,Live C w->PW C s k (nx w) o)->PW C s k b o|r0 {k:Nat} {b b':Goroutine} {o:Own C.SR}:b.status=.running->b'.status=.running->(∀w,Live C w->stepG C.P false b w=.go b' w #[mkS (.releaseMerge (FU C.wg))])->PW C .fin1 k b' o->PW C .fin0 k b o|k1 {k:Nat} {b b':Goroutine} {o:Own C.SR}:b.status=.running->b'.status=.running->(∀w,Live C w->stepG C.P false b w=.go b' w #[mkS .disable])->PW C .fin2 k b' o->PW C .fin1 k b o
 |d1 {k n:Nat} {b b1 b2:Goroutine} {o:Own C.SR}:b.status=.running->b2.status=.running->(∀w,WA C w KQ 0->stepG C.P false b w=.go b1 (w.setCell (FU C.wg) (.int .u64 0)) #[Iq C,UE C])->QuitsD C.P n 1 b1->C.FW o->
   (∀w,WA C w (KQ+1) 0->stepG C.P false b w=.go b2 (w.setCell (FU C.wg) (.int .u64 1)) #[Iq C,UE C])->PW C .NP k b2 o->PW C .fin2 k b o
 |d2 {k:Nat} {b b':Goroutine} {o:Own C.SR}:b.status=.running->b'.status=.running->(∀w,WA C w 1 0->stepG C.P false b w=.go b' w #[Iq C])->PW C .NP k b' o->PW C .NP k b o|d3 {k:Nat} {b b':Goroutine} {o:Own C.SR}:b.status=.running->b'.status=.running->(∀w,WA C w 1 0->stepG C.P false b w=.go b' (w.setCell (FU C.wg) (.int .u64 0)) #[UE C])->PW C .UF k b' o->PW C .NP k b o|d4 {k n:Nat} {b b':Goroutine} {o:Own C.SR}:b.status=.running->mayWake C.P b=true->(∀w,WA C w 0 0->stepG C.P false b w=.go b' (w.setCell (Nc C.wg) (.int .u32 1)) (semEvents (Nc C.wg)))->QuitsD C.P n 1 b'->C.FW o->PW C .UF k b o|quit {k:Nat} {b:Goroutine} {o:Own C.SR}:C.FW o->PW C .quit k b o
inductive PM (C:Cx) (Fin:Nat->Goroutine->Own C.SR->Prop):MS->Nat->Goroutine->Own C.SR->Prop
 |Ph {k:Nat} {a:Goroutine} {o:Own C.SR} (nx:World->Goroutine) (no:World->Own C.SR):a.status=.running->
   (∀w,o.I w->∃w' es,stepG C.P true a w=.go (nx w) w' es/\NG o (no w) w w' es)->(∀w,o.I w->PM C Fin .work k (nx w) (no w))->PM C Fin .work k a o
 |recv {k:Nat} {a:Goroutine} {o:Own C.SR} {z:Value} (go:Value->Nat->Obj->Own C.SR):a.status=.running->a.offers=none->(∀w,o.I w->stepG C.P true a w=.comm a #[rcase C.bc z] true (.recv true) w #[])->
   (∀xv bk ob,C.Cs k xv bk ob->∀x,(go xv bk ob).O x↔o.O x\/x=bk)->(∀xv bk ob,C.Cs k xv bk ob->∀w,o.I w->¬o.O bk->w.heap[bk]? =some ob->(go xv bk ob).I w)->
   (∀xv bk ob,C.Cs k xv bk ob->PM C Fin .work (k+1) (a.finishComm C.P #[rcase C.bc z] (.recv true) 0 xv true) (go xv bk ob))->
   (k=C.N->PM C Fin .work k (a.finishComm C.P #[rcase C.bc z] (.recv true) 0 z false) o)->PM C Fin .work k a o
 |clo {k:Nat} {a a':Goroutine} {o:Own C.SR} {es:Array Event}:a.status=.running->a'.status=.running->mayWake C.P a=true->UG C.bs es->(∀w w',o.I w->Pg w C.bs w'->stepG C.P true a w=.go a' w' es)->
   PM C Fin .bD k a' o->PM C Fin .work k a o
 |free {s:MS} {k:Nat} {a:Goroutine} {o:Own C.SR} (nx:World->Goroutine) (es:World->Array Event):s.free=true->a.status=.running->(∀w,Live C w->(nx w).status=.running/\stepG C.P true a w=.go (nx w) w (es w)/\∀e∈es w,e=mkS (.write (Nc C.wg)))->(∀w,Live C w->PM C Fin s k (nx w) o)->PM C Fin s k a o|kd {k:Nat} {a a':Goroutine} {o:Own C.SR}:a.status=.running->a'.status=.running->(∀w,Live C w->stepG C.P true a w=.go a' w #[mkS .disable])->PM C Fin .Um k a' o->PM C Fin .bD k a o
 |w1 {k:Nat} {a a1 a2:Goroutine} {o:Own C.SR}:a.status=.running->a1.status=.running->a2.status=.running->(∀w,WA C w KQ 0->stepG C.P true a w=.go a1 w #[Iq C])->PM C Fin .Um k a1 o->
   (∀w,WA C w 0 0->stepG C.P true a w=.go a2 w #[Iq C])->PM C Fin .QC k a2 o->PM C Fin .Um k a o
 |w2 {k:Nat} {a a1 a2:Goroutine} {o:Own C.SR}:a.status=.running->a1.status=.running->a2.status=.running->(∀w,WA C w KQ 0->stepG C.P true a w=.go a1 (w.setCell (FU C.wg) (.int .u64 (KQ+1))) #[Iq C,UE C])->PM C Fin .ws2 k a1 o->
   (∀w,WA C w 0 0->stepG C.P true a w=.go a2 w #[Iq C])->PM C Fin .QC k a2 o->PM C Fin .Um k a o
 |w1z {k:Nat} {a a2:Goroutine} {o:Own C.SR}:a.status=.running->a2.status=.running->(∀w,WA C w 0 0->stepG C.P true a w=.go a2 w #[Iq C])->PM C Fin .QC k a2 o->PM C Fin .QC k a o
 |w3 {k:Nat} {a a':Goroutine} {o:Own C.SR}:a.status=.running->a'.status=.running->a.offers=none->(∀w st,WA C w st 0->stepG C.P true a w=.go {a with status:=.blocked} w #[])->
   (∀w,WA C w 0 1->stepG C.P true a w=.go a' (w.setCell (Nc C.wg) (.int .u32 0)) (semEvents (Nc C.wg)))->PM C Fin .pX k a' o->PM C Fin .ws2 k a o
 |w4 {k:Nat} {a a':Goroutine} {o:Own C.SR}:a.status=.running->a'.status=.running->(∀w,WA C w 0 0->stepG C.P true a w=.go a' w #[Iq C])->PM C Fin .QC k a' o->PM C Fin .pX k a o|ke {k:Nat} {a a':Goroutine} {o:Own C.SR}:a.status=.running->a'.status=.running->(∀w,Live C w->stepG C.P true a w=.go a' w #[mkS .enable])->PM C Fin .pY k a' o->PM C Fin .QC k a o|acq {k:Nat} {a a':Goroutine} {o:Own C.SR}:a.status=.running->a'.status=.running->(∀w,Live C w->stepG C.P true a w=.go a' w #[mkS (.acquire (FU C.wg))])->Fin k a' o->PM C Fin .pY k a o
def LZ (C:Cx) (ms:MS) (ws:WS) (w:World):Prop:=
 match ws with| .work _| .fin0| .fin1| .fin2=>((ms=.work\/ms=.bD\/ms=.Um)/\WA C w KQ 0)\/(ms=.ws2/\WA C w (KQ+1) 0)| .NP=>ms=.ws2/\WA C w 1 0| .UF=>ms=.ws2/\WA C w 0 0| .quit=>(ms=.ws2/\WA C w 0 1)\/(ms≠ .ws2/\WA C w 0 0)
structure KC (C:Cx) (t:Trace) (r:Nat):Prop where
 act:t.act? r=some (.mark (.releaseMerge (FU C.wg)))
 g:t.g? r=some C.j
 heard:t.heard r
 all: ∀i x,touchAt t i=some x->x.loc.isMemory=true->t.g? i=some C.j->Before t i r\/(x.loc.blk=some C.wg/\x.kind=.atomic/\¬t.heard i)
def WS.rel:WS->Bool| .fin1| .fin2| .NP| .UF| .quit=>true|_=>false
def Sm (a a0:Goroutine):Prop:=a.frame=a0.frame/\a.callers=a0.callers/\a.dying=a0.dying
def bF (C:Cx) (ms:MS) (ws:WS) (oM:Own C.SR) (a a0:Goroutine):Prop:=
 (a.status=.running/\Sm a a0)\/
 (ms=.work/\ws.Iy=true/\∃z,a=parked a0 #[rcase C.bc z] (.recv true)/\∀w,oM.I w->stepG C.P true a0 w=.comm a0 #[rcase C.bc z] true (.recv true) w #[])\/
 (ms=.ws2/\ws≠ .quit/\a.status=.blocked/\a.offers=none/\Sm a a0)
def zW (C:Cx) (ms:MS) (ws:WS) (oW:Own C.SR) (b b0:Goroutine):Prop:=
 (b.status=.running/\Sm b b0)\/
 (ms=.work/\ws=.work false/\∃xv z1 z2,b=parked b0 (EG C.bc C.bs xv z1 z2) .select/\∀w,oW.I w->stepG C.P false b0 w=.comm b0 (EG C.bc C.bs xv z1 z2) true .select w #[])
structure St (C:Cx) (ms:MS) (ws:WS) (k kW:Nat) (a0 b0:Goroutine) (oM oW:Own C.SR) (gs:Array Goroutine) (w:World) (t:Trace) (q:Nat->Nat) (a b:Goroutine) (OW:Nat->Prop) (dW:Nat):Prop where
 cf:Cf C gs w t q a b ms.deaf dW oM OW
 ne:C.bc≠C.bs/\C.wg≠C.bc/\C.wg≠C.bs
 MB:bF C ms ws oM a a0
 Rt:ws≠ .quit->zW C ms ws oW b b0
 qu:ws=.quit->∃n,QuitsD C.P n dW b
 nb:a.status=.running\/b.status=.running
 iw:(ws≠ .quit\/True)->oW.I w
 ow: ∀x,oW.O x->OW x
 c1:L8 w C.bc (!ws.Iy)
 c2:L8 w C.bs (decide (ms≠ .work))
 wg:LZ C ms ws w
 dw:ws≠ .quit->dW=ws.deaf
 kk:ms=.work->(∀s,ws=.work s->kW=k/\s=false)/\(ws.Iy=false->k=C.N)
 rel:ws.rel=true->∃r,KC C t r
section
variable {C:Cx} {P:Program} {ms:MS} {ws:WS} {oM oW:Own C.SR} {a a0 b b0 g g' x:Goroutine} {w w':World}
theorem Yf(h:x.status=.blocked)(ho:x.offers=none):woken P g g' w' x=x\/woken P g g' w' x={x with status:=.running}:=by
 unfold woken;split;right;simp[Goroutine.again,h,ho];exact .inl rfl
theorem Yg{c:Nat}{z:Value}{sh:CommShape}(hc:L8 w' c false):woken P g g' w' (parked x #[rcase c z] sh)=parked x #[rcase c z] sh:=by
 obtain⟨s,hc⟩:=hc;exact woken_recv_open _ _ hc
theorem SG{bc bs:Nat}{xv z1 z2:Value}{sh:CommShape}(hc:L8 w' bc false)(hs:L8 w' bs false):woken P g g' w' (parked x (EG bc bs xv z1 z2) sh)=parked x (EG bc bs xv z1 z2) sh:=by
 obtain⟨s,hc⟩:=hc;obtain⟨s2,hs⟩:=hs;unfold woken;split;exact iF hc hs sh;rfl
theorem Qw(h:bF C ms ws oM a a0)(hc:ms=.work->ws.Iy=true->L8 w' C.bc false):bF C ms ws oM (woken P g g' w' a) a0/\(a.status=.running->(woken P g g' w' a).status=.running):=by
 rcases h with ⟨h1,h2⟩|⟨h1,h2,z,rfl,h3⟩|⟨h1,h2,h3,h4,h5⟩;rw[woken_run h1];exact⟨.inl ⟨h1,h2⟩,id⟩;rw[Yg (hc h1 h2)];exact⟨.inr (.inl ⟨h1,h2,z,rfl,h3⟩),id⟩;refine⟨?_,λe=>by rw[h3] at e;cases e⟩;rcases Yf (P:=P) (g:=g) (g':=g') (w':=w') h3 h4 with e|e;rw[e];exact .inr (.inr ⟨h1,h2,h3,h4,h5⟩);rw[e];exact .inl ⟨rfl,h5⟩
theorem qm(h:zW C ms ws oW b b0)(hc:ms=.work->ws=.work false->L8 w' C.bc false/\L8 w' C.bs false):zW C ms ws oW (woken P g g' w' b) b0/\(b.status=.running->(woken P g g' w' b).status=.running):=by
 rcases h with ⟨h1,h2⟩|⟨h1,h2,xv,z1,z2,rfl,h3⟩;rw[woken_run h1];exact⟨.inl ⟨h1,h2⟩,id⟩;rw[SG (hc h1 h2).1 (hc h1 h2).2];exact⟨.inr ⟨h1,h2,xv,z1,z2,rfl,h3⟩,id⟩
theorem Sm.step{mn:Bool}(h:Sm a a0)(w:World):stepG P mn a w=stepG P mn a0 w:=stepG_same h.1 h.2.1 h.2.2 w
theorem Sm.refl(a:Goroutine):Sm a a:=⟨rfl,rfl,rfl⟩
end
section
variable {C:Cx} {OW:Nat->Prop} {B:Nat}
theorem qo{e:Event}{c:Nat}(hS:C.SY c)(h1: ¬OW c)(h2: ¬C.SR c)(hB:c<B)(he:(∃o x,e=⟨.cell ⟨c,o,none⟩,x,true⟩)\/e=⟨.obj c,false,true⟩\/e=⟨.obj c,true,true⟩):Ev0 C OW B e:=by
 rcases he with ⟨o,x,rfl⟩|rfl|rfl
 ·refine⟨λy hy b hb=>?_,AY,?_⟩
  ·simp only[ofEvent_cell0,MemAct.touch?,BD] at hy;subst hy;simp only[Loc.blk,BD] at hb;subst hb;exact .inr (.inr ⟨hS,h1,h2,AY⟩)
  rw[ofEvent_cell0];exact hB
 ·refine⟨λy hy b hb=>?_,AY,hB⟩;simp only[MemAct.ofEvent,MemAct.touch?,BD] at hy;subst hy;simp only[Loc.blk,BD] at hb;subst hb;exact .inr (.inr ⟨hS,h1,h2,AY⟩)
 exact⟨λy hy=>by simp[MemAct.ofEvent,MemAct.touch?] at hy,AY,hB⟩
theorem qp{e:Event}{c:Nat}(hS:C.SY c)(h1: ¬OW c)(h2: ¬C.SR c)(hB:c<B)(he:(∃o x,e=⟨.cell ⟨c,o,none⟩,x,true⟩)\/e=⟨.obj c,false,true⟩\/e=⟨.obj c,true,true⟩):EvJ C OW B e:=by
 rcases he with ⟨o,x,rfl⟩|rfl|rfl
 ·refine⟨λy hy _=>?_,AY,?_⟩
  ·simp only[ofEvent_cell0,MemAct.touch?,BD] at hy;subst hy;exact⟨c,rfl,.inr (.inr ⟨hS,h1,h2,rfl⟩)⟩
  rw[ofEvent_cell0];exact hB
 ·refine⟨λy hy _=>?_,AY,hB⟩;simp only[MemAct.ofEvent,MemAct.touch?,BD] at hy;subst hy;exact⟨c,rfl,.inr (.inr ⟨hS,h1,h2,rfl⟩)⟩
 exact⟨λy hy=>by simp[MemAct.ofEvent,MemAct.touch?] at hy,AY,hB⟩
theorem bG{m:Mark}(h:(MemAct.mark m).touch? =none)(hr:m≠ .release (FU C.wg))(hl:(MemAct.mark m).low B):Ev0 C OW B (mkS m):=
 ⟨λy hy=>(by simp only[mkS,MemAct.ofEvent] at hy;rw[h] at hy;cases hy),by simpa[mkS] using hr,hl⟩
theorem bH{m:Mark}(h:(MemAct.mark m).touch? =none)(hr:m≠ .release (FU C.wg))(hl:(MemAct.mark m).low B):EvJ C OW B (mkS m):=
 ⟨λy hy=>(by simp only[mkS,MemAct.ofEvent] at hy;rw[h] at hy;cases hy),by simpa[mkS] using hr,hl⟩
theorem NG.ev0{o o':Own C.SR}{w w':World}{es:Array Event}(h:NG o o' w w' es){q:Nat->Nat}{gs:Array Goroutine}{t:Trace}{a b:Goroutine}{dM dW:Nat}(hc:Cf C gs w t q a b dM dW o OW): ∀e∈es,Ev0 C OW w'.heap.size e:=by
 intro e he;have hev:=h.evs e he
 have hown: ∀x,o'.O x->x<w'.heap.size/\¬OW x/\¬C.SR x/\¬C.SY x/\¬C.Z x:=λx hx=>by
  rcases (h.O' x).1 hx with h1|h1;have:=hc.om x h1;have:=h.sz;exact⟨Ac,(hc.om x h1).2⟩;refine⟨h1.2,λy=>?_,λy=>?_,λy=>?_,λy=>?_⟩;have:=(hc.ow x y).1;omega;have:=(hc.sr x y).1;omega;have:=(hc.sy x y).1;omega;have:=hc.z x y;omega
 obtain⟨loc,wr,sy⟩:=e
 cases loc with
 |cell ad=>
  simp only at hev;refine⟨λy hy b hb=>?_,AY,?_⟩
  ·simp only[ofEvent_cell0,MemAct.touch?,BD] at hy;subst hy;simp only[Loc.blk,BD] at hb;subst hb;rcases hev with h1|⟨h1,h2⟩;have:=hown _ h1;exact .inl ⟨this.2.1,this.2.2.1,this.2.2.2.1,this.2.2.2.2⟩;exact .inr (.inl ⟨h1,λy=>(hc.ow _ y).2.1 h1,(hc.sr _ h1).2.1,h2⟩)
  rw[ofEvent_cell0];rcases hev with h1|⟨h1,_⟩;exact (hown _ h1).1;exact BU (hc.sr _ h1).1 h.sz
 |obj c=>
  simp only at hev;(have e2:MemAct.ofEvent ⟨.obj c,wr,sy⟩=.access ⟨.obj c,wr,sy⟩:=by cases wr<;>cases sy<;>first|rfl|exact absurd ⟨rfl,rfl⟩ hev.2);refine⟨λy hy b hb=>?_,AY,?_⟩
  ·rw[e2] at hy;simp only[MemAct.touch?,BD] at hy;subst hy;simp only[Loc.blk,BD] at hb;subst hb;have:=hown _ hev.1;exact .inl ⟨this.2.1,this.2.2.1,this.2.2.2.1,this.2.2.2.2⟩
  rw[e2];exact (hown _ hev.1).1
 |mark m=>
  simp only at hev
  cases m with|extern f=>exact⟨λy hy=>by simp[MemAct.ofEvent,MemAct.touch?] at hy,AY,trivial⟩|noRoom=>exact⟨λy hy=>by simp[MemAct.ofEvent,MemAct.touch?] at hy,AY,trivial⟩|_=>exact hev.elim
 |output=>
  refine⟨λy hy b hb=>?_,AY,trivial⟩;simp only[MemAct.ofEvent,MemAct.touch?,BD] at hy;subst hy;cases hb
 |goroutines=>exact hev.elim
theorem NG.evJ{oM:Own C.SR}{o o':Own C.SR}{w w':World}{es:Array Event}(h:NG o o' w w' es){q:Nat->Nat}{gs:Array Goroutine}{t:Trace}{a b:Goroutine}{dM dW:Nat}(hc:Cf C gs w t q a b dM dW oM OW)(ho: ∀x,o.O x->OW x):
  ∀e∈es,EvJ C (λx=>OW x\/(w.heap.size<=x/\x<w'.heap.size)) w'.heap.size e:=by
 intro e he;have hev:=h.evs e he;have hown: ∀x,o'.O x->(OW x\/(w.heap.size<=x/\x<w'.heap.size)):=λx hx=>((h.O' x).1 hx).imp (ho x) id
 have hall: ∀x,(OW x\/(w.heap.size<=x/\x<w'.heap.size))->x<w'.heap.size/\¬C.SR x/\¬C.SY x:=λx hx=>by
  rcases hx with h1|h1;have:=h.sz;have h2:=hc.ow x h1;exact⟨Ac,h2.2.1,h2.2.2.1⟩;refine⟨h1.2,λy=>?_,λy=>?_⟩;have:=(hc.sr x y).1;omega;have:=(hc.sy x y).1;omega
 have dQ: ∀x,C.SR x->¬(OW x\/(w.heap.size<=x/\x<w'.heap.size)):=λx hx hy=>(hall x hy).2.1 hx;obtain⟨loc,wr,sy⟩:=e
 cases loc with
 |cell ad=>
  simp only at hev;refine⟨λy hy _=>?_,AY,?_⟩
  ·simp only[ofEvent_cell0,MemAct.touch?,BD] at hy;subst hy;refine⟨ad.block,rfl,?_⟩;rcases hev with h1|⟨h1,h2⟩;have:=hall _ (hown _ h1);exact .inl ⟨hown _ h1,this.2.1,this.2.2⟩;exact .inr (.inl ⟨h1,dQ _ h1,(hc.sr _ h1).2.1,h2⟩)
  rw[ofEvent_cell0];rcases hev with h1|⟨h1,_⟩;exact (hall _ (hown _ h1)).1;exact BU (hc.sr _ h1).1 h.sz
 |obj c=>
  simp only at hev;(have e2:MemAct.ofEvent ⟨.obj c,wr,sy⟩=.access ⟨.obj c,wr,sy⟩:=by cases wr<;>cases sy<;>first|rfl|exact absurd ⟨rfl,rfl⟩ hev.2);refine⟨λy hy _=>?_,AY,?_⟩
  ·rw[e2] at hy;simp only[MemAct.touch?,BD] at hy;subst hy;have:=hall _ (hown _ hev.1);exact⟨c,rfl,.inl ⟨hown _ hev.1,this.2.1,this.2.2⟩⟩
  rw[e2];exact (hall _ (hown _ hev.1)).1
 |mark m=>
  simp only at hev
  cases m with|extern f=>exact⟨λy hy=>by simp[MemAct.ofEvent,MemAct.touch?] at hy,AY,trivial⟩|noRoom=>exact⟨λy hy=>by simp[MemAct.ofEvent,MemAct.touch?] at hy,AY,trivial⟩|_=>exact hev.elim
 |output=>
  refine⟨λy hy hm=>?_,AY,trivial⟩;simp only[MemAct.ofEvent,MemAct.touch?,BD] at hy;subst hy;cases hm
 |goroutines=>exact hev.elim
theorem eQ{SR:Nat->Prop}{o o':Own SR}{w w':World}{es:Array Event}(h:NG o o' w w' es)(d:Nat):deafBehind d es=d:=
 deafBehind_still (λe he=>by
  have:=h.evs e he;constructor;intro hl;rw[hl] at this;exact this
  intro hl;rw[hl] at this;exact this) d
end
section
variable {C:Cx} {t u:Trace} {r:Nat}
theorem KC.app(h:KC C t r)(hr:r<t.size)(hu: ∀i op x,(t++u)[i]? =some op->t.size<=i->op.g=C.j->op.act.touch? =some x->x.loc.isMemory=true->x.loc.blk=some C.wg/\x.kind=.atomic/\¬(t++u).heard i):KC C (t++u) r:=by
 refine⟨by rw[act?_old hr];exact h.act,by rw[g?_old hr];exact h.g,(heard_old hr).2 h.heard,λi x hx hm hg=>?_⟩;obtain⟨op,hop,hox⟩:=touch_of hx;by_cases hi:i<t.size
 ·rw[touchAt_old hi] at hx;rw[g?_old hi] at hg;rcases h.all i x hx hm hg with h1|⟨h1,h2,h3⟩;exact .inl (h1.app u);exact .inr ⟨h1,h2,λhh=>h3 ((heard_old hi).1 hh)⟩
 (have hgo:op.g=C.j:=by simpa[Trace.g?,hop] using hg);exact .inr (hu i op x hop Ac hgo hox hm)
theorem KC.lt(h:KC C t r):r<t.size:=lt_of_act? h.act
theorem KC.app'(h:KC C t r)(hu: ∀op∈u,op.g≠C.j\/op.act.touch? =none):KC C (t++u) r:=
 h.app h.lt λi op x hop hi hg hx _=>by
  rcases getElem?_append_cases hop with ⟨h1,_⟩|⟨_,h1⟩;omega;rcases hu op h1 with h2|h2;exact absurd hg h2;rw[h2] at hx;cases hx
theorem KC.AGC(h:KC C t r){fn:FuncId}{pos:String}{es:Array Event}(hd: ∀m e,es[m]? =some e->(∀x,(MemAct.ofEvent e).touch? =some x->x.loc.isMemory=true->x.loc.blk=some C.wg/\x.kind=.atomic)/\((MemAct.ofEvent e).touch? ≠none->deafBehind (Deaf t C.j) (es.extract 0 m)≠0)):
  KC C (t++MemOp.ofEvents C.j fn pos es) r:=by
 refine h.app h.lt λi op x hop hi hg hx hm=>?_;(have zX:(MemOp.ofEvents C.j fn pos es)[i - t.size]? =some op:=by rw[Ht hi] at hop;exact hop);rw[ofEvents_eq,Dl] at zX;obtain⟨e,he,rfl⟩:=DV.1 zX;obtain⟨h1,h2⟩:=hd _ _ he;refine⟨(h1 x hx hm).1,(h1 x hx hm).2,?_⟩;rintro⟨g,hgg,hdf⟩;(have:g=C.j:=by simp[Trace.g?,hop] at hgg;exact hgg.symm);subst this;refine h2 (by simp only at hx;rw[hx];simp) ?_
 have hsplit:t++MemOp.ofEvents C.j fn pos es=(t++MemOp.ofEvents C.j fn pos (es.extract 0 (i - t.size)))++MemOp.ofEvents C.j fn pos (es.extract (i - t.size) es.size):=by
  rw[PQ,ofEvents_eq,ofEvents_eq,ofEvents_eq,<- Array.map_append];congr 2;have hlt:=(BK.1 he).1;apply G7;intro y;simp only[aT,aU,Array.size_extract];by_cases hy:y<i - t.size;rw[if_pos Ac,if_pos Ac];simp;rw[if_neg Ac];by_cases hy2:y<es.size
  ·rw[if_pos Ac];congr 1;omega
  rw[if_neg Ac,GI Ac]
 have hlt:=(BK.1 he).1
 have hsz:(t++MemOp.ofEvents C.j fn pos (es.extract 0 (i - t.size))).size=i:=by
  rw[LD,ofEvents_eq];simp;omega
 rw[hsplit,deaf_old (by rw[hsz];exact AP _)] at hdf;have hD:=Deaf_own t C.j fn pos (es.extract 0 (i - t.size));unfold Deaf at hD;rw[hsz] at hD;rw[hD] at hdf;exact hdf
end
def Ei (j c s r:Nat) (f0 fj:FuncId) (p0 pj:String):Array MemOp:=
 #[{g:=j,fn:=fj,pos:=pj,act:=.send c s},{g:=0,fn:=f0,pos:=p0,act:=.recv c r 0},{g:=j,fn:=fj,pos:=pj,act:=.sendDone c s},{g:=0,fn:=f0,pos:=p0,act:=.recvDone c r}]
section
variable {j c s r:Nat} {f0 fj:FuncId} {p0 pj:String} {t:Trace}
theorem jr: ∀op∈Ei j c s r f0 fj p0 pj,op.act.touch? =none:=by
 intro op h;simp only[Ei,Bv,AA,AB,or_false] at h;rcases h with rfl|rfl|rfl|rfl<;>rfl
theorem qw:(t++Ei j c s r f0 fj p0 pj)[t.size]? =some {g:=j,fn:=fj,pos:=pj,act:=.send c s}/\(t++Ei j c s r f0 fj p0 pj)[t.size+1]? =some {g:=0,fn:=f0,pos:=p0,act:=.recv c r 0}/\
  (t++Ei j c s r f0 fj p0 pj)[t.size+2]? =some {g:=j,fn:=fj,pos:=pj,act:=.sendDone c s}/\(t++Ei j c s r f0 fj p0 pj)[t.size+3]? =some {g:=0,fn:=f0,pos:=p0,act:=.recvDone c r}:=by
 refine⟨?_,?_,?_,?_⟩<;>(rw[Ht Ac];simp[Ei])
theorem RH(g:Nat):(t++Ei j c s r f0 fj p0 pj).deaf g (t.size+3)=Deaf t g/\Deaf (t++Ei j c s r f0 fj p0 pj) g=Deaf t g:=by
 obtain⟨h0,h1,h2,h3⟩:=qw (j:=j) (c:=c) (s:=s) (r:=r) (f0:=f0) (fj:=fj) (p0:=p0) (pj:=pj) (t:=t);have e0:(t++Ei j c s r f0 fj p0 pj).deaf g t.size=Deaf t g:=deaf_old (AP _);have e1:=deaf_succ (g:=g) h0;have e2:=deaf_succ (g:=g) h1;have e3:=deaf_succ (g:=g) h2;have e4:=deaf_succ (g:=g) h3;simp only[deafStep] at e1 e2 e3 e4;(have hsz:(t++Ei j c s r f0 fj p0 pj).size=t.size+3+1:=by simp[Ei]);refine⟨by rw[e3,e2,e1,e0],?_⟩;unfold Deaf;rw[hsz,e4,e3,e2,e1,e0];rfl
theorem zY(h0:Deaf t 0=0)(hj:Deaf t j=0)(dQ:s=r){i:Nat}(hk:Knows t j i):Knows (t++Ei j c s r f0 fj p0 pj) 0 i:=by
 obtain⟨g0,g1,g2,g3⟩:=qw (j:=j) (c:=c) (s:=s) (r:=r) (f0:=f0) (fj:=fj) (p0:=p0) (pj:=pj) (t:=t);subst dQ;refine⟨t.size+3,_,g3,rfl,.inr ?_⟩;have e1:=hk.hb_new (u:=Ei j c s s f0 fj p0 pj) (AP _) g0 rfl;refine e1.trans (.single (.inr ⟨.handOver (c:=c) (k:=s) (act?_of g0) (act?_of g3),⟨j,by simp[Trace.g?,g0],?_⟩,⟨0,by simp[Trace.g?,g3],?_⟩⟩));rw[deaf_old (AP _)];exact hj;rw[(RH 0).1];exact h0
end
section
variable {C:Cx} {gs gs':Array Goroutine} {w:World} {t:Trace} {q:Nat->Nat} {a b a' b':Goroutine} {oM Rq oW:Own C.SR} {OW:Nat->Prop} {s r bk:Nat} {ob:Obj} {f0 fj:FuncId} {p0 pj:String}
theorem AGD(h:Cf C gs w t q a b 0 0 oM OW)(hc:w.heap[C.bc]? =some (.chan 0 #[] false s r false))(dQ:s=r)(hbk:OW bk)(hob:w.heap[bk]? =some ob)(hO: ∀x,Rq.O x↔oM.O x\/x=bk)
  (hI: ∀w,oM.I w->¬oM.O bk->w.heap[bk]? =some ob->Rq.I w) (hgs:gs'=(gs.setIfInBounds C.j b').setIfInBounds 0 a'):
  Cf C gs' (w.setChan C.bc 0 #[] false (s+1) (r+1) false) (t++Ei C.j C.bc s r f0 fj p0 pj) q a' b' 0 0 Rq (λx=>OW x/\x≠bk):=by
 have hjp:=h.hj;have hjl:C.j<gs.size:=(BK.1 h.UD).1;(have h0l:0<gs.size:=by omega);have hbc:C.bc<w.heap.size:=(BK.1 hc).1;have hsz:(w.setChan C.bc 0 #[] false (s+1) (r+1) false).heap.size=w.heap.size:=by simp[World.setChan]
 have hheap: ∀x,x≠C.bc->(w.setChan C.bc 0 #[] false (s+1) (r+1) false).heap[x]? =w.heap[x]? :=λx hx=>by
  simp only[World.setChan];rw[BO (CJ hx)]
 have hbkf:=h.ow bk hbk;have AMa:bk≠C.bc:=λe=>hbkf.2.2.1 (by rw[e];exact .inr (.inl rfl));have APF: ¬oM.O bk:=λx=>(h.om bk x).2.1 hbk;have hnt:=jr (j:=C.j) (c:=C.bc) (s:=s) (r:=r) (f0:=f0) (fj:=fj) (p0:=p0) (pj:=pj)
 have hold: ∀{i x},touchAt (t++Ei C.j C.bc s r f0 fj p0 pj) i=some x->touchAt t i=some x:=λ{i x} ht=>by
  rcases Eg ht with h'|⟨op,hop,_,hop'⟩
  ·exact h'.2
  rw[hnt op hop] at hop';cases hop'
 have hti:TI C.j C.SY C.SR OW C.Z (t++Ei C.j C.bc s r f0 fj p0 pj):=by
  have e:t++Ei C.j C.bc s r f0 fj p0 pj=(((t++ #[{g:=C.j,fn:=fj,pos:=pj,act:=.send C.bc s}])++ #[{g:=0,fn:=f0,pos:=p0,act:=.recv C.bc r 0}])++ #[{g:=C.j,fn:=fj,pos:=pj,act:=.sendDone C.bc s}])++ #[{g:=0,fn:=f0,pos:=p0,act:=.recvDone C.bc r}]:=by
   apply Array.ext';simp[Ei]
  rw[e]
  refine TI.mute (TI.mute (TI.mute (TI.mute h.ti (g:=C.j) ?_ ?_) (g:=0) ?_ ?_) (g:=C.j) ?_ ?_) (g:=0) ?_ ?_<;>
   (intro op hop;simp only[Bv,AA,AB,or_false] at hop;subst hop;rfl)
 subst hgs;refine⟨h.hj,?_,?_,λi g hi hij hg=>?_,λi hi=>?_,by rw[(RH 0).2,h.dm],by rw[(RH C.j).2,h.dw],?_,?_,?_,λx hx=>?_,λx hx=>?_,λx hx=>?_,λx hx=>?_,λx hx=>?_,?_,⟨λx hx ht=>?_,λx hx hl=>?_⟩,?_,?_,?_⟩;simp[h0l];rw[BO Ac];simp[hjl]
 ·rw[BO Ac,BO (CJ hij)] at hg;rw[(RH i).2];exact h.old i g hi hij hg
 rw[(RH i).2];exact h.above i (by simpa using hi);exact hti.pass (λi x b ht hb ho=>zY h.dm h.dw dQ (h.ti.ow i x b (hold ht) hb ho)) λb hb=>hb.1
 ·intro op hop;rw[hsz];rcases Ce.1 hop with h1|h1;exact h.low op h1;simp only[Ei,Bv,AA,AB,or_false] at h1;rcases h1 with rfl|rfl|rfl|rfl<;>exact hbc
 ·refine NF h.norel λop hop=>?_;simp only[Ei,Bv,AA,AB,or_false] at hop;rcases hop with rfl|rfl|rfl|rfl<;>simp
 ·rw[hsz];rcases (hO x).1 hx with h1|rfl;have:=h.om x h1;exact⟨this.1,λy=>this.2.1 y.1,this.2.2⟩;exact⟨hbkf.1,λy=>y.2 rfl,hbkf.2⟩
 rw[hsz];exact h.ow x hx.1;rw[hsz];exact h.sr x hx;rw[hsz];exact h.sy x hx;rw[hsz];exact h.z x hx
 ·refine hI _ (oM.st w _ h.im (λx hx=>hheap x λe=>?_) (by rw[hsz];exact AP _) rfl rfl) APF (by rw[hheap bk AMa];exact hob);rcases hx with hx|hx;exact (h.om x hx).2.2.2.1 (by rw[e];exact .inr (.inl rfl));exact (h.sr x hx).2.1 (by rw[e];exact .inr (.inl rfl))
 ·rw[hheap x λe=>ht (h.keep.2 x (.inr (.inr (by rw[e];exact .inr (.inl rfl)))) hx)];exact h.keep.1 x hx ht
 ·rcases hx with h1|h1|h1
  ·rcases (hO x).1 h1 with h2|rfl;exact h.keep.2 x (.inl h2) hl;exact h.keep.2 _ (.inr (.inl hbk)) hl
  exact h.keep.2 x (.inr (.inl h1.1)) hl;exact h.keep.2 x (.inr (.inr h1)) hl
 rw[hsz];exact h.sz;exact h.same;exact OY h.over λop hop=>.inr (.inr (hnt op hop))
end
section
variable {C:Cx} {w:World} {st sm:Int}
theorem NQ(w:World)(a:Addr)(x:Value):(∀b,b≠a.block->(w.setCell a x).heap[b]? =w.heap[b]?)/\(w.setCell a x).heap.size=w.heap.size/\(w.setCell a x).tape=w.tape/\(w.setCell a x).os=w.os/\(w.setCell a x).output=w.output:=by
 refine⟨λb hb=>?_,by simp[World.setCell],rfl,rfl,rfl⟩;simp only[World.setCell];rw[KP,if_neg (CJ hb)]
theorem WA.setSt(h:WA C w st sm)(x:Int):WA C (w.setCell (FU C.wg) (.int .u64 x)) x sm:=by
 unfold WA at h⊢;simp only[World.setCell,FU];rw[KP,if_pos rfl,h];simp
theorem WA.setSm(h:WA C w st sm)(x:Int):WA C (w.setCell (Nc C.wg) (.int .u32 x)) st x:=by
 unfold WA at h⊢;simp only[World.setCell,Nc];rw[KP,if_pos rfl,h];simp
theorem WA.keep{w':World}(h:WA C w st sm)(e:w'.heap[C.wg]? =w.heap[C.wg]?):WA C w' st sm:=by unfold WA;rw[e];exact h
theorem LZ.keep{ms:MS}{ws:WS}{w':World}(h:LZ C ms ws w)(e:w'.heap[C.wg]? =w.heap[C.wg]?):LZ C ms ws w':=by
 unfold LZ at h⊢;(cases ws<;>simp only at h⊢);exact h.imp (λx=>⟨x.1,x.2.keep e⟩) (λx=>⟨x.1,x.2.keep e⟩);exact h.imp (λx=>⟨x.1,x.2.keep e⟩) (λx=>⟨x.1,x.2.keep e⟩);exact h.imp (λx=>⟨x.1,x.2.keep e⟩) (λx=>⟨x.1,x.2.keep e⟩);exact h.imp (λx=>⟨x.1,x.2.keep e⟩) (λx=>⟨x.1,x.2.keep e⟩);exact⟨h.1,h.2.keep e⟩;exact⟨h.1,h.2.keep e⟩;exact h.imp (λx=>⟨x.1,x.2.keep e⟩) (λx=>⟨x.1,x.2.keep e⟩)
theorem L8.keep{w':World}{c:Nat}{cl:Bool}(h:L8 w c cl)(e:w'.heap[c]? =w.heap[c]?):L8 w' c cl:=by obtain⟨s,h⟩:=h;exact⟨s,by rw[e];exact h⟩
theorem LZ.live{ms:MS}{ws:WS}(h:LZ C ms ws w):Live C w:=by
 unfold LZ at h
 cases ws<;>simp only at h<;>first
  |exact⟨_,_,h.2⟩|(rcases h with ⟨_,h⟩|⟨_,h⟩<;>exact⟨_,_,h⟩)
end
section
variable {C:Cx} {ms ms':MS} {ws ws':WS} {k k' kW QU:Nat} {a0 a0' b0 b0':Goroutine} {oM Rq oW Vp:Own C.SR} {gs:Array Goroutine} {w w':World} {t:Trace} {q:Nat->Nat} {a b:Goroutine} {OW RD:Nat->Prop} {dW d:Nat} {es:Array Event} {sl':Option (Nat×Nat)}
theorem Own.at{SR:Nat->Prop}(o:Own SR){w:World}(h:o.I w)(d:Nat):o.I (w.at d):=o.st w (w.at d) h (λ_ _=>rfl) (AP _) rfl rfl
theorem St.at(h:St C ms ws k kW a0 b0 oM oW gs w t q a b OW dW)(d:Nat):St C ms ws k kW a0 b0 oM oW gs (w.at d) t q a b OW dW:=
 ⟨h.cf.at d,h.ne,h.MB,h.Rt,h.qu,h.nb,λx=>oW.at (h.iw x) d,h.ow,h.c1,h.c2,h.wg,h.dw,h.kk,h.rel⟩
theorem Nh(C:Cx):C.SY C.bc:=.inr (.inl rfl)
theorem RI(C:Cx):C.SY C.bs:=.inr (.inr rfl)
theorem IC(C:Cx):C.SY C.wg:=.inl rfl
theorem KD{u:Trace}(h:ws.rel=true->∃r,KC C t r)(hu: ∀op∈u,op.g≠C.j\/op.act.touch? =none):ws.rel=true->∃r,KC C (t++u) r:=λx=>let ⟨r,hr⟩:=h x;⟨r,hr.app' hu⟩
theorem bI(h:St C ms ws k kW a0 b0 oM oW gs w t q a b OW dW)(hsm:Sm a a0)(hs:stepG C.P true a0 w=.go a0' w' es)(hr:a0'.status=.running)(hsz:w.heap.size<=w'.heap.size)
  (hkeep: ∀x,x<w.heap.size->¬oM.O x->¬C.SY x->w'.heap[x]? =w.heap[x]?) (hsame:w'.tape=w.tape/\w'.os=w.os/\w'.output=w.output)
  (hown: ∀x,Rq.O x↔oM.O x\/(w.heap.size<=x/\x<w'.heap.size)) (hI:Rq.I w') (hev: ∀e∈es,Ev0 C OW w'.heap.size e) (hd:deafBehind ms.deaf es=ms'.deaf)
  (c1:L8 w' C.bc (!ws.Iy)) (c2:L8 w' C.bs (decide (ms'≠ .work))) (wg:LZ C ms' ws w') (APG:ws≠ .quit->zW C ms' ws oW (woken C.P a a0' w' b) b0)
  (kk:ms'=.work->(∀s,ws=.work s->kW=k'/\s=false)/\(ws.Iy=false->k'=C.N)):
  ∃gs' t' b',runT C.P (crowd gs w sl') 0=(.next (crowd gs' w' sl'),t')/\gs'.size=gs.size/\St C ms' ws k' kW a0' b0 Rq oW gs' w' (t++t') q a0' b' OW dW:=by
 obtain⟨h1,h2,h3⟩:=bC (sl':=sl') h.cf (by rw[hsm.step];exact hs) hsz hkeep hsame hown hI hev;rw[hd] at h3;refine⟨_,_,_,h1,h2,⟨h3,h.ne,.inl ⟨hr,.refl _⟩,APG,λe=>?_,.inl hr,λe=>?_,h.ow,c1,c2,wg,h.dw,kk,KD h.rel λop hop=>.inl ?_⟩⟩
 ·obtain⟨n,hn⟩:=h.qu e;exact⟨n,by rw[woken_quitsD hn];exact hn⟩
 ·refine oW.st w w' (h.iw e) (λx hx=>?_) hsz hsame.1 hsame.2.1;rcases hx with hx|hx;have h4:=h.cf.ow x (h.ow x hx);exact hkeep x h4.1 (λy=>(h.cf.om x y).2.1 (h.ow x hx)) h4.2.2.1;have h4:=h.cf.sr x hx;exact hkeep x h4.1 (λy=>(h.cf.om x y).2.2.1 hx) h4.2.1
 rw[ofEvents_g hop];have:=h.cf.hj;omega
theorem UH(h:St C ms ws k kW a0 b0 oM oW gs w t q a b OW dW)(hsm:Sm b b0)(hs:stepG C.P false b0 w=.go b0' w' es)(hr:ws'≠ .quit->b0'.status=.running)(hsz:w.heap.size<=w'.heap.size)
  (hkeep: ∀x,x<w.heap.size->¬OW x->¬C.SY x->w'.heap[x]? =w.heap[x]?) (hsame:w'.tape=w.tape/\w'.os=w.os/\w'.output=w.output)
  (hown: ∀x,RD x↔OW x\/(w.heap.size<=x/\x<w'.heap.size)) (hev: ∀e∈es,EvJ C RD w'.heap.size e) (hoW: ∀x,Vp.O x->RD x) (hI:(ws'≠ .quit\/True)->Vp.I w')
  (hd:ws'≠ .quit->deafBehind dW es=ws'.deaf) (hqu:ws'=.quit->∃n,QuitsD C.P n (deafBehind dW es) b0') (c1:L8 w' C.bc (!ws'.Iy)) (c2:L8 w' C.bs (decide (ms≠ .work))) (wg:LZ C ms ws' w')
  (kk:ms=.work->(∀s,ws'=.work s->QU=k/\s=false)/\(ws'.Iy=false->k=C.N)) (hrel:ws'.rel=true->∃r,KC C (t++MemOp.ofEvents C.j b.frame.fn b.frame.place es) r)
  (jv:bF C ms ws' oM (woken C.P b b0' w' a) a0) (hnb:(woken C.P b b0' w' a).status=.running\/b0'.status=.running):
  ∃gs' t' a' jw,runT C.P (crowd gs w sl') C.j=(.next (crowd gs' w' sl'),t')/\gs'.size=gs.size/\St C ms ws' k QU a0 b0' oM Vp gs' w' (t++t') q a' b0' RD jw:=by
 obtain⟨h1,h2,h3⟩:=ql (sl':=sl') h.cf (by rw[hsm.step];exact hs) hsz hkeep hsame hown hev;exact⟨_,_,_,_,h1,h2,⟨h3,h.ne,jv,λe=>.inl ⟨hr e,.refl _⟩,hqu,hnb,hI,hoW,c1,c2,wg,hd,kk,hrel⟩⟩
theorem Un(h:St C ms ws k kW a0 b0 oM oW gs w t q a b OW dW){i:Nat}{g:Goroutine}(hpos:0<i)(hij:i≠C.j)(hi:gs[i]? =some g)(hg:g.status=.running):
  ∃gs' t' a' b' q',runT C.P (crowd gs (w.at d) sl') i=(.next (crowd gs' (w.at d) sl'),t')/\gs'.size=gs.size/\St C ms ws k kW a0 b0 oM oW gs' (w.at d) (t++t') q' a' b' OW dW/\sumTo gs'.size q'<sumTo gs.size q/\(∀n,QuitsD C.P n dW b->b'=b)/\(ws≠ .quit->b.status=.blocked->b'=b):=by
 obtain⟨n,g',es,h1,h2,h3,h4,h5⟩:=ACB (d:=d) (sl':=sl') h.cf hpos hij hi hg;have ha:=Qw (P:=C.P) (g:=g) (g':=g') (w':=w.at d) h.MB (λe1 e2=>by have:=h.c1;rw[e2] at this;exact this);have hb:=λe=>qm (P:=C.P) (g:=g) (g':=g') (w':=w.at d) (h.Rt e) (λe1 e2=>by have h6:=h.c1;have h7:=h.c2;rw[e2] at h6;simp only[e1,ne_eq,not_true,decide_false] at h7;exact⟨h6,h7⟩);refine⟨_,_,_,_,_,h2,h3,⟨h4,h.ne,ha.1,λe=>(hb e).1,λe=>?_,?_,λx=>oW.at (h.iw x) d,h.ow,h.c1,h.c2,h.wg,h.dw,h.kk,KD h.rel λop hop=>.inl ?_⟩,by rw[h3];exact h5,λn hn=>woken_quitsD hn,λhq hbl=>?_⟩
 ·obtain⟨n,hn⟩:=h.qu e;exact⟨n,by rw[woken_quitsD hn];exact hn⟩
 ·rcases h.nb with e|e;exact .inl (ha.2 e);right;rw[woken_run e];exact e
 rw[ofEvents_g hop];exact hij;rcases h.Rt hq with ⟨e,_⟩|⟨e1,e2,xv,z1,z2,rfl,_⟩;rw[e] at hbl;cases hbl;have h6:=h.c1;have h7:=h.c2;rw[e2] at h6;simp only[e1,ne_eq,not_true,decide_false] at h7;exact SG h6 h7
theorem zZ{dM:Nat}{a':Goroutine}{u:Trace}(h:Cf C gs w t q a b dM dW oM OW)(hu: ∀op∈u,op.g=0/\op.act.touch? =none/\op.act.low w.heap.size/\op.act≠ .mark (.release (FU C.wg)))(hd:Deaf (t++u) 0=dM):
  Cf C (gs.setIfInBounds 0 a') w (t++u) q a' b dM dW oM OW:=by
 have hjp:=h.hj;have h0l:0<gs.size:=(BK.1 h.at0).1;have hother: ∀{i:Nat},0≠i->Deaf (t++u) i=Deaf t i:=λhi=>Deaf_other t hi _ (λop hop=>(hu op hop).1)
 refine⟨h.hj,by simp[h0l],by rw[BO Ac];exact h.UD,λi g hi hij hg=>?_,λi hi=>?_,hd,by rw[hother Ac];exact h.dw,h.ti.mute (λop hop=>(hu op hop).1) (λop hop=>(hu op hop).2.1),λop hop=>?_,NF h.norel λop hop=>(hu op hop).2.2.2,
  h.om,h.ow,h.sr,h.sy,h.z,h.im,h.keep,h.sz,h.same,OY h.over λop hop=>.inl (hu op hop).1⟩
 ·rw[BO Ac] at hg;rw[hother Ac];exact h.old i g hi hij hg
 rw[hother (by simp at hi;omega)];exact h.above i (by simpa using hi);rcases Ce.1 hop with h1|h1;exact h.low op h1;exact (hu op h1).2.2.1
theorem zf{dM jw:Nat}{b':Goroutine}{u:Trace}(h:Cf C gs w t q a b dM dW oM OW)(hu: ∀op∈u,op.g=C.j/\op.act.touch? =none/\op.act.low w.heap.size/\op.act≠ .mark (.release (FU C.wg)))(hd:Deaf (t++u) C.j=jw):
  Cf C (gs.setIfInBounds C.j b') w (t++u) q a b' dM jw oM OW:=by
 have hjp:=h.hj;have hjl:C.j<gs.size:=(BK.1 h.UD).1;have hother: ∀{i:Nat},C.j≠i->Deaf (t++u) i=Deaf t i:=λhi=>Deaf_other t hi _ (λop hop=>(hu op hop).1)
 refine⟨h.hj,by rw[BO Ac];exact h.at0,by simp[hjl],λi g hi hij hg=>?_,λi hi=>?_,by rw[hother Ac];exact h.dm,hd,h.ti.mute (λop hop=>(hu op hop).1) (λop hop=>(hu op hop).2.1),λop hop=>?_,NF h.norel λop hop=>(hu op hop).2.2.2,
  h.om,h.ow,h.sr,h.sy,h.z,h.im,h.keep,h.sz,h.same,OY h.over λop hop=>.inr (.inl (hu op hop).1)⟩
 ·rw[BO (CJ hij)] at hg;rw[hother (CJ hij)];exact h.old i g hi hij hg
 rw[hother (by simp at hi;omega)];exact h.above i (by simpa using hi);rcases Ce.1 hop with h1|h1;exact h.low op h1;exact (hu op h1).2.2.1
end
def Cx.Z' (C:Cx) (b:Nat):Prop:=C.Z b\/b=C.wg
def Reach (C:Cx) (Fin:Nat->Goroutine->Own C.SR->Prop) (gs:Array Goroutine) (w:World) (sl:Option (Nat×Nat)) (t:Trace):Prop:=
 ∃n gs' w' sl' t' q' a' k oM,runNT C.P n (crowd gs w sl) t=(.next (crowd gs' w' sl'),t')/\gs'.size=gs.size/\Sit C.P C.Z' gs' w' t' a' q'/\Fin k a' oM/\oM.I w'/\
  (∀b,oM.O b->b<w'.heap.size/\¬C.Z' b)/\(∀b,C.Z' b->b<w'.heap.size)/\C.w0.heap.size<=w'.heap.size/\(∀b,b<C.w0.heap.size->¬C.T0 b->w'.heap[b]? =C.w0.heap[b]?)/\w'.tape=C.w0.tape/\w'.os=C.w0.os/\w'.output=C.w0.output/\(∃oW,C.FW oW/\oW.I w')/\∀b,oM.O b->b<C.w0.heap.size->C.T0 b
section
variable {C:Cx} {Fin:Nat->Goroutine->Own C.SR->Prop}
theorem Reach.step{gs gs':Array Goroutine}{w w' wd:World}{sl sl':Option (Nat×Nat)}{t ops:Trace}{i:Nat}(hst:stepT C.P (crowd gs w sl)=runT C.P (crowd gs wd sl') i)(hr:runT C.P (crowd gs wd sl') i=(.next (crowd gs' w' sl'),ops))(hz:gs'.size=gs.size)(h:Reach C Fin gs' w' sl' (t++ops)):Reach C Fin gs w sl t:=by
 obtain⟨n,gs1,w1,sl1,t1,q1,a1,k,oM,h1,h2,h3⟩:=h;exact⟨n+1,gs1,w1,sl1,t1,q1,a1,k,oM,by simp only[runNT,hst,hr];exact h1,h2.trans hz,h3⟩
def Turn (C:Cx) (Fin:Nat->Goroutine->Own C.SR->Prop) (gs:Array Goroutine) (w:World) (sl':Option (Nat×Nat)) (t:Trace) (i:Nat):Prop:=
 ∃gs' w' ops,runT C.P (crowd gs w sl') i=(.next (crowd gs' w' sl'),ops)/\gs'.size=gs.size/\Reach C Fin gs' w' sl' (t++ops)
variable {ms:MS} {ws:WS} {k kW:Nat} {a0 b0:Goroutine} {oM oW:Own C.SR}
theorem bF.status{a:Goroutine}(h:bF C ms ws oM a a0):a.status=.running\/a.status=.blocked:=by
 rcases h with ⟨h,_⟩|⟨_,_,z,rfl,_⟩|⟨_,_,h,_⟩;exact .inl h;exact .inr rfl;exact .inr h
theorem zW.status{b:Goroutine}(h:zW C ms ws oW b b0):b.status=.running\/b.status=.blocked:=by
 rcases h with ⟨h,_⟩|⟨_,_,xv,z1,z2,rfl,_⟩;exact .inl h;exact .inr rfl
theorem bF.sm{a:Goroutine}(h:bF C ms ws oM a a0)(hr:a.status=.running):Sm a a0:=by
 rcases h with ⟨_,h⟩|⟨_,_,z,rfl,_⟩|⟨_,_,h,_⟩;exact h;(cases hr);rw[h] at hr;cases hr
theorem zW.sm{b:Goroutine}(h:zW C ms ws oW b b0)(hr:b.status=.running):Sm b b0:=by
 rcases h with ⟨_,h⟩|⟨_,_,xv,z1,z2,rfl,_⟩;exact h;cases hr
def WR (C:Cx) (Fin:Nat->Goroutine->Own C.SR->Prop) (ms:MS) (ws:WS) (k kW:Nat) (a0 b0:Goroutine) (oM oW:Own C.SR) (sz:Nat) (q:Nat->Nat):Prop:=
 ∀{gs:Array Goroutine} {w:World} {sl:Option (Nat×Nat)} {t:Trace} {a b:Goroutine} {OW:Nat->Prop} {dW:Nat},gs.size=sz->St C ms ws k kW a0 b0 oM oW gs w t q a b OW dW->a.status=.blocked->Reach C Fin gs w sl t
def zg (C:Cx) (Fin:Nat->Goroutine->Own C.SR->Prop) (ms:MS) (ws:WS) (k kW:Nat) (a0 b0:Goroutine) (oM oW:Own C.SR) (sz:Nat) (q:Nat->Nat):Prop:=
 ∀{gs:Array Goroutine} {w:World} {sl:Option (Nat×Nat)} {t:Trace} {a b:Goroutine} {OW:Nat->Prop} {dW:Nat},gs.size=sz->St C ms ws k kW a0 b0 oM oW gs w t q a b OW dW->b.status=.blocked->Reach C Fin gs w sl t
theorem Jg(hq:ws≠ .quit)
  (t0: ∀{gs w sl' t q a b OW dW},St C ms ws k kW a0 b0 oM oW gs w t q a b OW dW->a.status=.running->(b.status≠ .blocked->WR C Fin ms ws k kW a0 b0 oM oW gs.size q)->Turn C Fin gs w sl' t 0)
  (tJ: ∀{gs w sl' t q a b OW dW},St C ms ws k kW a0 b0 oM oW gs w t q a b OW dW->b.status=.running->(a.status=.running->zg C Fin ms ws k kW a0 b0 oM oW gs.size q)->Turn C Fin gs w sl' t C.j):
  ∀{gs w sl t q a b OW dW},St C ms ws k kW a0 b0 oM oW gs w t q a b OW dW->Reach C Fin gs w sl t:=by
 have key: ∀(M:Nat) {gs w sl t q a b OW dW},sumTo gs.size q=M->St C ms ws k kW a0 b0 oM oW gs w t q a b OW dW->Reach C Fin gs w sl t:=by
  intro M
  induction M using Nat.strongRecOn with
  |_ M ih=>
   have RA: ∀{gs w sl t q a b OW dW},sumTo gs.size q=M->St C ms ws k kW a0 b0 oM oW gs w t q a b OW dW->a.status=.blocked->Reach C Fin gs w sl t:=by
    intro gs w sl t q a b OW dW hM h ha;obtain⟨i,g,d,sl',hi,hg,hst⟩:=Zb h.cf h.MB.status ((h.Rt hq).status.imp id .inl) h.nb sl;rcases EM i with rfl|hpos
    ·(have e:g=a:=by have:=h.cf.at0;rw[this] at hi;exact (BQ hi).symm);rw[e,ha] at hg;cases hg
    by_cases hij:i=C.j
    ·subst hij;(have e:g=b:=by have:=h.cf.UD;rw[this] at hi;exact (BQ hi).symm);subst e;obtain⟨gs',w',ops,h1,h2,h3⟩:=tJ (sl':=sl') (h.at d) hg (λe=>by rw[ha] at e;cases e);exact .step hst h1 h2 h3
    obtain⟨gs',t',a',b',q',h1,h2,h3,h4,_⟩:=Un (d:=d) (sl':=sl') h hpos hij hi hg;exact .step hst h1 h2 (ih _ (by rw[<- hM];exact h4) rfl h3)
   have RB: ∀{gs w sl t q a b OW dW},sumTo gs.size q=M->St C ms ws k kW a0 b0 oM oW gs w t q a b OW dW->b.status=.blocked->Reach C Fin gs w sl t:=by
    intro gs w sl t q a b OW dW hM h hb;obtain⟨i,g,d,sl',hi,hg,hst⟩:=Zb h.cf h.MB.status ((h.Rt hq).status.imp id .inl) h.nb sl;rcases EM i with rfl|hpos
    ·(have e:g=a:=by have:=h.cf.at0;rw[this] at hi;exact (BQ hi).symm);subst e;obtain⟨gs',w',ops,h1,h2,h3⟩:=t0 (sl':=sl') (h.at d) hg (λe=>absurd hb e);exact .step hst h1 h2 h3
    by_cases hij:i=C.j
    ·subst hij;(have e:g=b:=by have:=h.cf.UD;rw[this] at hi;exact (BQ hi).symm);rw[e,hb] at hg;cases hg
    obtain⟨gs',t',a',b',q',h1,h2,h3,h4,_⟩:=Un (d:=d) (sl':=sl') h hpos hij hi hg;exact .step hst h1 h2 (ih _ (by rw[<- hM];exact h4) rfl h3)
   intro gs w sl t q a b OW dW hM h;obtain⟨i,g,d,sl',hi,hg,hst⟩:=Zb h.cf h.MB.status ((h.Rt hq).status.imp id .inl) h.nb sl;rcases EM i with rfl|hpos
   ·(have e:g=a:=by have:=h.cf.at0;rw[this] at hi;exact (BQ hi).symm);subst e;obtain⟨gs',w',ops,h1,h2,h3⟩:=t0 (sl':=sl') (h.at d) hg (λ_=>λhz hS hbl=>RA (by rw[hz];exact hM) hS hbl);exact .step hst h1 h2 h3
   by_cases hij:i=C.j
   ·subst hij;(have e:g=b:=by have:=h.cf.UD;rw[this] at hi;exact (BQ hi).symm);subst e;obtain⟨gs',w',ops,h1,h2,h3⟩:=tJ (sl':=sl') (h.at d) hg (λ_=>λhz hS hbl=>RB (by rw[hz];exact hM) hS hbl);exact .step hst h1 h2 h3
   obtain⟨gs',t',a',b',q',h1,h2,h3,h4,_⟩:=Un (d:=d) (sl':=sl') h hpos hij hi hg;exact .step hst h1 h2 (ih _ (by rw[<- hM];exact h4) rfl h3)
 intro gs w sl t q a b OW dW h;exact key _ rfl h
theorem UI{a:Goroutine}(h:bF C ms .quit oM a a0):a.status=.running:=by
 rcases h with ⟨e,_⟩|⟨_,e,_⟩|⟨_,e,_⟩;exact e;(cases e);exact absurd rfl e
theorem RJ(t0: ∀{gs w sl' t q a b OW dW},St C ms .quit k kW a0 b0 oM oW gs w t q a b OW dW->a.status=.running->(b.status≠ .blocked->WR C Fin ms .quit k kW a0 b0 oM oW gs.size q)->Turn C Fin gs w sl' t 0):
  ∀{gs w sl t q a b OW dW},St C ms .quit k kW a0 b0 oM oW gs w t q a b OW dW->Reach C Fin gs w sl t:=by
 have key: ∀(M:Nat) {gs w sl t q a b OW dW n},sumTo gs.size q+n=M->QuitsD C.P n dW b->St C ms .quit k kW a0 b0 oM oW gs w t q a b OW dW->Reach C Fin gs w sl t:=by
  intro M
  induction M using Nat.strongRecOn with
  |_ M ih=>
   intro gs w sl t q a b OW dW n hM hn h;have har:=UI h.MB;obtain⟨i,g,d,sl',hi,hg,hst⟩:=Zb h.cf h.MB.status (hn.status.imp id .inr) (.inl har) sl;rcases EM i with rfl|hpos
   ·(have e:g=a:=by have:=h.cf.at0;rw[this] at hi;exact (BQ hi).symm);subst e;obtain⟨gs',w',ops,h1,h2,h3⟩:=t0 (sl':=sl') (h.at d) hg (λ_=>λ_ hS hbl=>by rw[UI hS.MB] at hbl;cases hbl);exact .step hst h1 h2 h3
   by_cases hij:i=C.j
   ·subst hij;(have e:g=b:=by have:=h.cf.UD;rw[this] at hi;exact (BQ hi).symm);subst e
    cases n with
    |zero=>rw[hn.1] at hg;cases hg|succ n=>
     rcases hn with ⟨hf,_⟩|⟨_,g',es,hm,hstp,hq'⟩;rw[hf] at hg;cases hg;have hd:=h.at d
     obtain⟨h1,h2,h3⟩:=ql (sl':=sl') (RD:=OW) hd.cf (hstp (w.at d)) (AP _) (λ_ _ _ _=>rfl) ⟨rfl,rfl,rfl⟩ (λx=>⟨.inl,λy=>y.elim id λz=>by omega⟩)
      (λe he=>⟨λx hx _=>(by rw[touch_mute (hm e he)] at hx;cases hx),λhl=>by
       have:=hm e he;obtain⟨l,x,s⟩:=e;simp only at hl;subst hl
       simp[Event.mute] at this,low_mute (hm e he) _⟩)
     have hw:woken C.P g g' (w.at d) a=a:=woken_run har;rw[hw] at h3;refine .step hst h1 h2 (ih (sumTo gs.size q+n) Ac (by rw[h2]) hq' ⟨h3,h.ne,h.MB,λe=>absurd rfl e,λ_=>⟨n,hq'⟩,.inl har,hd.iw,h.ow,h.c1,h.c2,h.wg,λe=>absurd rfl e,h.kk,KD h.rel λop hop=>by obtain⟨e,he,rfl⟩:=Go.Conc.mem_ofEvents hop;exact .inr (touch_mute (hm e he))⟩)
   obtain⟨gs',t',a',b',q',h1,h2,h3,h4,h5,_⟩:=Un (d:=d) (sl':=sl') h hpos hij hi hg;exact .step hst h1 h2 (ih (sumTo gs'.size q'+n) Ac rfl (by rw[h5 n hn];exact hn) h3)
 intro gs w sl t q a b OW dW h;obtain⟨n,hn⟩:=h.qu rfl;exact key _ rfl hn h
end
end Go.Proofs.YtkkgcebhfghdnaaGreatDoor
