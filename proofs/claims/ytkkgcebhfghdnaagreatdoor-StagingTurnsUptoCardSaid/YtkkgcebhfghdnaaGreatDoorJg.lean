/- Part 7 of what that rests on; no condition. -/
import Derived.Test.YtkkgcebhfghdnaaGreatDoorJf
set_option maxRecDepth 100000
set_option maxHeartbeats 8000000
open Go.Conc renaming getElem?_append_cases→Ya, mem_ofEvents→KP, ofEvent_cell0→NH, runT_crowd_go→YZ, woken_quitsD→Pz, Deaf_other→Ll, woken_run→Lm
open Nat renaming strongRecOn→dJ
open Go.MemAct renaming ofEvent→Cb, touch?→DK
open Go.MemOp renaming ofEvents→DX
open Go.World renaming setCell→Xw, setChan→Yb
open Go renaming deafBehind→Ee, Goroutine→Ac, FuncId→Bi, Value→AP, World→AL, Event→Bc, stepG→Ae, Trace→CB
open Go.ConcN renaming sumTo→Dz
open Option renaming none→AB, some→AA
namespace Go.Proofs.YtkkgcebhfghdnaaGreatDoor
open Go Go.Conc
open Go.ConcN (sumTo upd sumTo_upd upd_ne upd_same)
structure Own (SR:Nat->Prop) where
 O:Nat->Prop
 I:AL->Prop
 st: ∀w w1:AL,I w->(∀b,O b\/SR b->w1.heap[b]? =w.heap[b]?)->w.heap.size<=w1.heap.size->w1.tape=w.tape->w1.os=w.os->I w1
structure Cx where
 P:Program
 j:Nat
 bc:Nat
 bs:Nat
 wg:Nat
 ty:TypeId
 N:Nat
 Cs:Nat->AP->Nat->Obj->Prop
 SR:Nat->Prop
 Z:Nat->Prop
 w0:AL
 T0:Nat->Prop
 FW:Own SR->Prop
def Cx.SY (C:Cx) (b:Nat):Prop:=b=C.wg\/b=C.bc\/b=C.bs
def F6 (wg:Nat):Addr:=⟨wg,0,AB⟩
def OJ (wg:Nat):Addr:=⟨wg,1,AB⟩
structure Cf (C:Cx) (gs:Array Ac) (w:AL) (t:CB) (q:Nat->Nat) (a b:Ac) (dM dW:Nat) (oM:Own C.SR) (OW:Nat->Prop):Prop where
 hj:0<C.j
 at0:gs[0]? =AA a
 Uh:gs[C.j]? =AA b
 old: ∀i g,0<i->i≠C.j->gs[i]? =AA g->QuitsD C.P (q i) (Deaf t i) g
 above: ∀i,gs.size<=i->Deaf t i=0
 dm:Deaf t 0=dM
 dw:Deaf t C.j=dW
 ti:TI C.j C.SY C.SR OW C.Z t
 low: ∀op∈t,op.act.low w.heap.size
 norel: ∀i,t.act? i≠AA (.mark (.release (F6 C.wg)))
 om: ∀b,oM.O b->b<w.heap.size/\¬OW b/\¬C.SR b/\¬C.SY b/\¬C.Z b
 ow: ∀b,OW b->b<w.heap.size/\¬C.SR b/\¬C.SY b/\¬C.Z b
 sr: ∀b,C.SR b->b<w.heap.size/\¬C.SY b/\¬C.Z b
 sy: ∀b,C.SY b->b<w.heap.size/\¬C.Z b
 z: ∀b,C.Z b->b<w.heap.size
 im:oM.I w
 keep:(∀b,b<C.w0.heap.size->¬C.T0 b->w.heap[b]? =C.w0.heap[b]?)/\(∀b,(oM.O b\/OW b\/C.SY b)->b<C.w0.heap.size->C.T0 b)
 sz:C.w0.heap.size<=w.heap.size
 same:w.tape=C.w0.tape/\w.os=C.w0.os/\w.output=C.w0.output
 over: ∀i g,t.g? i=AA g->g≠0->g≠C.j->t.counts i->∃x,t.g? x=AA 0/\HappensBefore t i x
theorem O9{j:Nat}{t u:CB}(h: ∀i g,t.g? i=AA g->g≠0->g≠j->t.counts i->∃x,t.g? x=AA 0/\HappensBefore t i x)(hu: ∀op∈u,op.g=0\/op.g=j\/op.act.touch? =AB):
  ∀i g,(t++u).g? i=AA g->g≠0->g≠j->(t++u).counts i->∃x,(t++u).g? x=AA 0/\HappensBefore (t++u) i x:=by
 intro i g hg h0 hj hc;obtain⟨x,hx,_⟩:=hc;obtain⟨op,hop,hox⟩:=touch_of hx;rcases Ya hop with ⟨hi,hop'⟩|⟨_,hopu⟩
 ·obtain⟨y,hy,hb⟩:=h i g (by rw[<- g?_old (u:=u) hi];exact hg) h0 hj ((counts_old hi).1 ⟨x,hx,‹_›⟩)
  have hyl:y<t.size:=by
   unfold Trace.g? at hy;obtain⟨z,hz,_⟩:=Jz.1 hy;exact lt_size_of_getElem? hz
  exact⟨y,by rw[g?_old hyl];exact hy,hb_app u hb⟩
 (have hgg:op.g=g:=by simpa[Trace.g?,hop] using hg);rcases hu op hopu with h1|h1|h1;exact Ai (hgg.symm.trans h1) h0;exact Ai (hgg.symm.trans h1) hj;rw[h1] at hox;cases hox
def Ev0 (C:Cx) (OW:Nat->Prop) (B:Nat) (e:Bc):Prop:=
 (∀x,(Cb e).touch? =AA x->Ok0 C.SY C.SR OW C.Z x)/\e.loc≠ .mark (.release (F6 C.wg))/\(Cb e).low B
def EvJ (C:Cx) (OW:Nat->Prop) (B:Nat) (e:Bc):Prop:=
 (∀x,(Cb e).touch? =AA x->x.loc.isMemory=true->OkJ C.SY C.SR OW x)/\e.loc≠ .mark (.release (F6 C.wg))/\(Cb e).low B
theorem NR{C:Cx}{t u:CB}(h: ∀i,t.act? i≠AA (.mark (.release (F6 C.wg))))(hu: ∀op∈u,op.act≠ .mark (.release (F6 C.wg))): ∀i,(t++u).act? i≠AA (.mark (.release (F6 C.wg))):=by
 intro i hi;obtain⟨op,ho,hoa⟩:=Jz.1 hi;rcases Ya ho with ⟨_,ho'⟩|⟨_,hou⟩
 ·exact h i (by rw[act?_of ho',hoa])
 exact hu op hou hoa
theorem XI{e:Bc}{a:Addr}(h:e.loc≠ .mark (.release a)):Cb e≠ .mark (.release a):=by
 obtain⟨l,x,s⟩:=e;simp only at h;intro hh
 cases l with|mark m=>simp only[Cb,MemAct.mark.injEq] at hh;exact h (by rw[hh])|obj c=>cases x<;>cases s<;>simp[Cb] at hh|_=>simp[Cb] at hh
section
variable {C:Cx} {gs:Array Ac} {w w':AL} {t:CB} {q:Nat->Nat} {a b a' b':Ac} {dM dW d:Nat} {oM Sz:Own C.SR} {OW Rt:Nat->Prop} {sl':Option (Nat×Nat)} {es:Array Bc}
theorem Cf.at(h:Cf C gs w t q a b dM dW oM OW)(d:Nat):Cf C gs (w.at d) t q a b dM dW oM OW:=
 ⟨h.hj,h.at0,h.Uh,h.old,h.above,h.dm,h.dw,h.ti,h.low,h.norel,h.om,h.ow,h.sr,h.sy,h.z,oM.st w (w.at d) h.im (λ_ _=>rfl) (Ba _) rfl rfl,h.keep,h.sz,h.same,h.over⟩
theorem df(h:Cf C gs w t q a b dM dW oM OW)(hs:Ae C.P true a w=.go a' w' es)(hsz:w.heap.size<=w'.heap.size)
  (hkeep: ∀b,b<w.heap.size->¬oM.O b->¬C.SY b->w'.heap[b]? =w.heap[b]?) (hsame:w'.tape=w.tape/\w'.os=w.os/\w'.output=w.output)
  (hown: ∀b,Sz.O b↔oM.O b\/(w.heap.size<=b/\b<w'.heap.size)) (hI:Sz.I w') (hev: ∀e∈es,Ev0 C OW w'.heap.size e):
  runT C.P (crowd gs w sl') 0=(.next (crowd ((gs.map (woken C.P a a' w')).setIfInBounds 0 a') w' sl'),DX 0 a.frame.fn a.frame.place es)/\
  ((gs.map (woken C.P a a' w')).setIfInBounds 0 a').size=gs.size/\
  Cf C ((gs.map (woken C.P a a' w')).setIfInBounds 0 a') w' (t++DX 0 a.frame.fn a.frame.place es) q a' (woken C.P a a' w' b) (Ee dM es) dW Sz OW:=by
 have h0:0<gs.size:=(Df.1 h.at0).1;have hother: ∀{i:Nat},0≠i->Deaf (t++DX 0 a.frame.fn a.frame.place es) i=Deaf t i:=λhi=>Ll t hi _ (λop hop=>ofEvents_g hop);refine⟨YZ (P:=C.P) (sl:=sl') (i:=0) h.at0 (show Ae C.P (0==0) a w=_ from hs),AV,⟨h.hj,by simp[h0],?_,λi g hi hij hg=>?_,λi hi=>?_,by rw[Deaf_own,h.dm],by rw[hother (by have:=h.hj;omega),h.dw],?_,?_,?_,λb hb=>?_,λb hb=>?_,λb hb=>?_,λb hb=>?_,λb hb=>?_,hI,⟨λb hb ht=>?_,λb hb hl=>?_⟩,Ci h.sz hsz,?_,O9 h.over λop hop=>.inl (ofEvents_g hop)⟩⟩
 ·have:=h.hj;rw[Dw Ad,Kr,h.Uh];rfl
 ·rw[Dw Ad,Kr] at hg;obtain⟨y,hy,rfl⟩:=Jz.1 hg;have hq:=h.old i y hi hij hy;rw[Pz hq,hother Ad];exact hq
 rw[hother (by simp at hi;omega)];exact h.above i (by simpa using hi)
 ·refine h.ti.app0 (λop hop=>ofEvents_g hop) λop hop x hx=>?_;obtain⟨e,he,rfl⟩:=KP hop;exact (hev e he).1 x hx
 ·intro op hop;rcases JL.1 hop with h1|h1;exact MemAct.low_mono hsz (h.low op h1);obtain⟨e,he,rfl⟩:=KP h1;exact (hev e he).2.2
 ·refine NR h.norel λop hop=>?_;obtain⟨e,he,rfl⟩:=KP hop;exact XI (hev e he).2.1
 ·rcases (hown b).1 hb with h1|h1;have:=h.om b h1;exact⟨Ad,this.2⟩;refine⟨h1.2,λx=>?_,λx=>?_,λx=>?_,λx=>?_⟩;have:=(h.ow b x).1;omega;have:=(h.sr b x).1;omega;have:=(h.sy b x).1;omega;have:=h.z b x;omega
 have:=h.ow b hb;exact⟨Ad,this.2⟩;have:=h.sr b hb;exact⟨Ad,this.2⟩;have:=h.sy b hb;exact⟨Ad,this.2⟩;have:=h.z b hb;omega
 ·have hl:=h.sz;rw[<- h.keep.1 b hb ht];exact hkeep b Ad (λx=>ht (h.keep.2 b (.inl x) hb)) (λx=>ht (h.keep.2 b (.inr (.inr x)) hb))
 ·rcases hb with h1|h1|h1
  ·rcases (hown b).1 h1 with h2|h2;exact h.keep.2 b (.inl h2) hl;have:=h.sz;omega
  exact h.keep.2 b (.inr (.inl h1)) hl;exact h.keep.2 b (.inr (.inr h1)) hl
 exact⟨hsame.1.trans h.same.1,hsame.2.1.trans h.same.2.1,hsame.2.2.trans h.same.2.2⟩
theorem uV(h:Cf C gs w t q a b dM dW oM OW)(hs:Ae C.P false b w=.go b' w' es)(hsz:w.heap.size<=w'.heap.size)
  (hkeep: ∀b,b<w.heap.size->¬OW b->¬C.SY b->w'.heap[b]? =w.heap[b]?) (hsame:w'.tape=w.tape/\w'.os=w.os/\w'.output=w.output)
  (hown: ∀b,Rt b↔OW b\/(w.heap.size<=b/\b<w'.heap.size)) (hev: ∀e∈es,EvJ C Rt w'.heap.size e):
  runT C.P (crowd gs w sl') C.j=(.next (crowd ((gs.map (woken C.P b b' w')).setIfInBounds C.j b') w' sl'),DX C.j b.frame.fn b.frame.place es)/\
  ((gs.map (woken C.P b b' w')).setIfInBounds C.j b').size=gs.size/\
  Cf C ((gs.map (woken C.P b b' w')).setIfInBounds C.j b') w' (t++DX C.j b.frame.fn b.frame.place es) q (woken C.P b b' w' a) b' dM (Ee dW es) oM Rt:=by
 have hjp:=h.hj;have hjl:C.j<gs.size:=(Df.1 h.Uh).1;(have hj0:(C.j==0)=false:=by simp;omega);have hother: ∀{i:Nat},C.j≠i->Deaf (t++DX C.j b.frame.fn b.frame.place es) i=Deaf t i:=λhi=>Ll t hi _ (λop hop=>ofEvents_g hop);have hnew:TI C.j C.SY C.SR Rt C.Z t:=h.ti.new h.low λb=>⟨λx=>((hown b).1 x).imp id λy=>⟨y.1,x⟩,λx=>x.elim (λy=>(hown b).2 (.inl y)) (λy=>y.2)⟩
 have how: ∀b,Rt b->b<w'.heap.size/\¬C.SR b/\¬C.SY b/\¬C.Z b:=λb hb=>by
  rcases (hown b).1 hb with h1|h1;have:=h.ow b h1;exact⟨Ad,this.2⟩;refine⟨h1.2,λx=>?_,λx=>?_,λx=>?_⟩;have:=(h.sr b x).1;omega;have:=(h.sy b x).1;omega;have:=h.z b x;omega
 refine⟨YZ (P:=C.P) (sl:=sl') (i:=C.j) h.Uh (by rw[hj0];exact hs),AV,⟨h.hj,?_,by simp[hjl],λi g hi hij hg=>?_,λi hi=>?_,by rw[hother Ad,h.dm],by rw[Deaf_own,h.dw],?_,?_,?_,λb hb=>?_,how,λb hb=>?_,λb hb=>?_,λb hb=>?_,?_,⟨λb hb ht=>?_,λb hb hl=>?_⟩,Ci h.sz hsz,?_,O9 h.over λop hop=>.inr (.inl (ofEvents_g hop))⟩⟩;rw[Dw Ad,Kr,h.at0];rfl
 ·rw[Dw (Ir hij),Kr] at hg;obtain⟨y,hy,rfl⟩:=Jz.1 hg;have hq:=h.old i y hi hij hy;rw[Pz hq,hother (Ir hij)];exact hq
 rw[hother (by simp at hi;omega)];exact h.above i (by simpa using hi)
 ·refine hnew.appJ (λop hop=>ofEvents_g hop) (λop hop x hx hm=>?_) λb hb=>(how b hb).2.2.2;obtain⟨e,he,rfl⟩:=KP hop;exact (hev e he).1 x hx hm
 ·intro op hop;rcases JL.1 hop with h1|h1;exact MemAct.low_mono hsz (h.low op h1);obtain⟨e,he,rfl⟩:=KP h1;exact (hev e he).2.2
 ·refine NR h.norel λop hop=>?_;obtain⟨e,he,rfl⟩:=KP hop;exact XI (hev e he).2.1
 ·have h1:=h.om b hb;refine⟨Ad,λx=>?_,h1.2.2⟩;rcases (hown b).1 x with y|y;exact h1.2.1 y;omega
 have:=h.sr b hb;exact⟨Ad,this.2⟩;have:=h.sy b hb;exact⟨Ad,this.2⟩;have:=h.z b hb;omega
 ·refine oM.st w w' h.im (λb hb=>?_) hsz hsame.1 hsame.2.1;rcases hb with hb|hb;have h1:=h.om b hb;exact hkeep b h1.1 h1.2.1 h1.2.2.2.1;have h1:=h.sr b hb;exact hkeep b h1.1 (λx=>(h.ow b x).2.1 hb) h1.2.1
 ·have hl:=h.sz;rw[<- h.keep.1 b hb ht];exact hkeep b Ad (λx=>ht (h.keep.2 b (.inr (.inl x)) hb)) (λx=>ht (h.keep.2 b (.inr (.inr x)) hb))
 ·rcases hb with h1|h1|h1;exact h.keep.2 b (.inl h1) hl
  ·rcases (hown b).1 h1 with h2|h2;exact h.keep.2 b (.inr (.inl h2)) hl;have:=h.sz;omega
  exact h.keep.2 b (.inr (.inr h1)) hl
 exact⟨hsame.1.trans h.same.1,hsame.2.1.trans h.same.2.1,hsame.2.2.trans h.same.2.2⟩
theorem ADn(h:Cf C gs w t q a b dM dW oM OW){i:Nat}{g:Ac}(hpos:0<i)(hij:i≠C.j)(hi:gs[i]? =AA g)(hg:g.status=.running):
  ∃k g' es,q i=k+1/\runT C.P (crowd gs (w.at d) sl') i=(.next (crowd ((gs.map (woken C.P g g' (w.at d))).setIfInBounds i g') (w.at d) sl'),DX i g.frame.fn g.frame.place es)/\
   ((gs.map (woken C.P g g' (w.at d))).setIfInBounds i g').size=gs.size/\
   Cf C ((gs.map (woken C.P g g' (w.at d))).setIfInBounds i g') (w.at d) (t++DX i g.frame.fn g.frame.place es) (upd q i k) (woken C.P g g' (w.at d) a) (woken C.P g g' (w.at d) b) dM dW oM OW/\
   Dz gs.size (upd q i k)<Dz gs.size q:=by
 have hq:=h.old i g hpos hij hi;(have hi0:(i==0)=false:=by simp;omega);have hlt:i<gs.size:=(Df.1 hi).1;have hjp:=h.hj
 cases hqi:q i with
 |zero=>rw[hqi] at hq;rw[hq.1] at hg;cases hg|succ k=>
  rw[hqi] at hq;rcases hq with ⟨hf,_⟩|⟨_,g',es,hm,hstp,hq'⟩;rw[hf] at hg;cases hg;have hother: ∀{x:Nat},i≠x->Deaf (t++DX i g.frame.fn g.frame.place es) x=Deaf t x:=λhi=>Ll t hi _ (λop hop=>ofEvents_g hop);have hd:=h.at d;refine⟨k,g',es,rfl,YZ (P:=C.P) (sl:=sl') (i:=i) hi (by rw[hi0];exact hstp (w.at d)),AV,⟨h.hj,?_,?_,λx y hx hxj hy=>?_,λx hx=>?_,by rw[hother Ad,h.dm],by rw[hother hij,h.dw],?_,?_,?_,h.om,h.ow,h.sr,h.sy,h.z,hd.im,h.keep,h.sz,h.same,O9 h.over λop hop=>.inr (.inr (by obtain⟨e,he,rfl⟩:=KP hop;exact touch_mute (hm e he)))⟩,?_⟩;rw[Dw Ad,Kr,h.at0];rfl;rw[Dw hij,Kr,h.Uh];rfl
  ·by_cases hji:i=x
   ·subst hji;rw[WY (by simpa using hlt)] at hy;obtain rfl:=EF hy;rw[upd_same,Deaf_own];exact hq'
   rw[Dw hji,Kr] at hy;obtain⟨z,hz,rfl⟩:=Jz.1 hy;have hqj:=h.old x z hx hxj hz;rw[Pz hqj,upd_ne q k (Ir hji),hother hji];exact hqj
  rw[hother (by simp at hx;omega)];exact h.above x (by simpa using hx)
  ·refine h.ti.mute (λop hop=>ofEvents_g hop) λop hop=>?_;obtain⟨e,he,rfl⟩:=KP hop;exact touch_mute (hm e he)
  ·intro op hop;rcases JL.1 hop with h1|h1;exact h.low op h1;obtain⟨e,he,rfl⟩:=KP h1;exact low_mute (hm e he) _
  ·refine NR h.norel λop hop=>?_;obtain⟨e,he,rfl⟩:=KP hop;have hme:=hm e he;obtain⟨l,x,s⟩:=e;intro hh
   cases l with|mark m=>simp only[Cb,MemAct.mark.injEq] at hh;subst hh;simp[Event.mute] at hme|obj c=>cases x<;>cases s<;>simp[Cb] at hh|_=>simp[Cb] at hh
  have hsum:Dz gs.size (upd q i k)+(k+1)=Dz gs.size q+k:=by
   have:=sumTo_upd q k id hlt;simpa[hqi] using this
  omega
theorem aX(h:Cf C gs w t q a b dM dW oM OW)(ha:a.status=.running\/a.status=.blocked)(hb:b.status=.running\/b.status=.blocked\/b.status=.finished)(hr:a.status=.running\/b.status=.running)(sl:Option (Nat×Nat)):
  ∃i g d sl',gs[i]? =AA g/\g.status=.running/\stepT C.P (crowd gs w sl)=runT C.P (crowd gs (w.at d) sl') i:=by
 refine crowd_pick (P:=C.P) (w:=w) (sl:=sl) (λg hg=>?_) (hr.elim (λx=>⟨0,a,h.at0,x⟩) (λx=>⟨C.j,b,h.Uh,x⟩));obtain⟨i,hi,rfl⟩:=lY.1 hg;have hgi:gs[i]? =AA gs[i]:=FD hi;rcases O1 i with rfl|hpos
 ·have h0:=h.at0;rw[hgi] at h0;rw[EF h0];exact awake_of (ha.imp id .inl)
 by_cases hij:i=C.j
 ·subst hij;have h0:=h.Uh;rw[hgi] at h0;rw[EF h0];exact awake_of hb
 exact awake_of ((h.old i _ hpos hij hgi).status.elim .inl λx=>.inr (.inr x))
end
def KQ:Int:=4294967296
def WA (C:Cx) (w:AL) (st sm:Int):Prop:=w.heap[C.wg]? =AA (.cells #[.int .u64 st,.int .u32 sm] C.ty)
def Live (C:Cx) (w:AL):Prop:=∃st sm,WA C w st sm
def JD (C:Cx):Bc:=⟨.cell (F6 C.wg),false,true⟩
def Ui (C:Cx):Bc:=⟨.cell (F6 C.wg),true,true⟩
def mkS (m:Mark):Bc:=⟨.mark m,false,true⟩
structure NS {SR:Nat->Prop} (o o':Own SR) (w w':AL) (es:Array Bc):Prop where
 I':o'.I w'
 sz:w.heap.size<=w'.heap.size
 O': ∀b,o'.O b↔o.O b\/(w.heap.size<=b/\b<w'.heap.size)
 keep: ∀b,b<w.heap.size->¬o.O b->w'.heap[b]? =w.heap[b]?
 same:w'.tape=w.tape/\w'.os=w.os/\w'.output=w.output
 evs: ∀e∈es,match e.loc with
  | .cell a=>o'.O a.block\/(SR a.block/\e.write=false)| .obj c=>o'.O c/\¬(e.write=true/\e.sync=true)| .mark m=>kQ m| .output=>True|_=>False
inductive WS where
 |work (stp:Bool)|fin0|fin1|fin2|Nk|Uj|quit
inductive MS where
 |work|dh|VJ|ws2|sZ|Qb|su|done
 deriving DecidableEq
def WS.JG:WS->Bool| .work _=>true|_=>false
def WS.free:WS->Bool| .fin0| .fin1| .fin2| .Nk| .Uj=>true|_=>false
def MS.free:MS->Bool| .dh| .VJ| .ws2| .sZ| .Qb| .su=>true|_=>false
def WS.deaf:WS->Nat| .fin2| .Nk| .Uj=>1|_=>0
def MS.deaf:MS->Nat| .VJ| .ws2| .sZ| .Qb=>1|_=>0
def MO (w:AL) (c:Nat) (closed:Bool):Prop:=∃s,w.heap[c]? =AA (.chan 0 #[] closed s s false)
def QF (w:AL) (c:Nat) (w':AL):Prop:=∃s,w.heap[c]? =AA (.chan 0 #[] false s s false)/\w'={w with heap:=w.heap.setIfInBounds c (.chan 0 #[] true s s false)}
def Uk (c:Nat) (es:Array Bc):Prop:=∀e∈es,e=⟨.obj c,false,true⟩\/e=⟨.obj c,true,true⟩
inductive PW (C:Cx):WS->Nat->Ac->Own C.SR->Prop
 |QG {s:Bool} {k:Nat} {b:Ac} {o:Own C.SR} (nx:AL->Ac) (no:AL->Own C.SR):b.status=.running->
   (∀w,o.I w->∃w' es,Ae C.P false b w=.go (nx w) w' es/\NS o (no w) w w' es)->(∀w,o.I w->PW C (.work s) k (nx w) (no w))->PW C (.work s) k b o
 |sel {k:Nat} {b:Ac} {o o':Own C.SR} {xv:AP} {bk:Nat} {ob:Obj} {z1 z2:AP}:b.status=.running->b.offers=AB->C.Cs k xv bk ob->o.O bk->(∀w,o.I w->w.heap[bk]? =AA ob)->
   (∀w,o.I w->Ae C.P false b w=.comm b (EL C.bc C.bs xv z1 z2) true .select w #[])->(∀x,o'.O x->o.O x/\x≠bk)->(∀w,o.I w->o'.I w)->
   PW C (.work false) (k+1) (b.finishComm C.P (EL C.bc C.bs xv z1 z2) .select 0 undef false) o'->PW C (.work true) k (b.finishComm C.P (EL C.bc C.bs xv z1 z2) .select 1 z2 false) o->PW C (.work false) k b o
 |clo {s:Bool} {k:Nat} {b b':Ac} {o:Own C.SR} {es:Array Bc}:b.status=.running->b'.status=.running->mayWake C.P b=true->(s=true\/k=C.N)->Uk C.bc es->
   (∀w w',o.I w->QF w C.bc w'->Ae C.P false b w=.go b' w' es)->PW C .fin0 k b' o->PW C (.work s) k b o
 |free {s:WS} {k:Nat} {b:Ac} {o:Own C.SR} (nx:AL->Ac):s.free=true->b.status=.running->(∀w,Live C w->(nx w).status=.running/\Ae C.P false b w=.go (nx w) w #[])->(∀w,Live C w->PW C s k (nx w) o)->PW C s k b o|r0 {k:Nat} {b b':Ac} {o:Own C.SR}:b.status=.running->b'.status=.running->(∀w,Live C w->Ae C.P false b w=.go b' w #[mkS (.releaseMerge (F6 C.wg))])->PW C .fin1 k b' o->PW C .fin0 k b o|k1 {k:Nat} {b b':Ac} {o:Own C.SR}:b.status=.running->b'.status=.running->(∀w,Live C w->Ae C.P false b w=.go b' w #[mkS .disable])->PW C .fin2 k b' o->PW C .fin1 k b o
 |d1 {k n:Nat} {b b1 b2:Ac} {o:Own C.SR}:b.status=.running->b2.status=.running->(∀w,WA C w KQ 0->Ae C.P false b w=.go b1 (w.setCell (F6 C.wg) (.int .u64 0)) #[JD C,Ui C])->QuitsD C.P n 1 b1->C.FW o->
   (∀w,WA C w (KQ+1) 0->Ae C.P false b w=.go b2 (w.setCell (F6 C.wg) (.int .u64 1)) #[JD C,Ui C])->PW C .Nk k b2 o->PW C .fin2 k b o
 |d2 {k:Nat} {b b':Ac} {o:Own C.SR}:b.status=.running->b'.status=.running->(∀w,WA C w 1 0->Ae C.P false b w=.go b' w #[JD C])->PW C .Nk k b' o->PW C .Nk k b o|d3 {k:Nat} {b b':Ac} {o:Own C.SR}:b.status=.running->b'.status=.running->(∀w,WA C w 1 0->Ae C.P false b w=.go b' (w.setCell (F6 C.wg) (.int .u64 0)) #[Ui C])->PW C .Uj k b' o->PW C .Nk k b o|d4 {k n:Nat} {b b':Ac} {o:Own C.SR}:b.status=.running->mayWake C.P b=true->(∀w,WA C w 0 0->Ae C.P false b w=.go b' (w.setCell (OJ C.wg) (.int .u32 1)) (semEvents (OJ C.wg)))->QuitsD C.P n 1 b'->C.FW o->PW C .Uj k b o|quit {k:Nat} {b:Ac} {o:Own C.SR}:C.FW o->PW C .quit k b o
inductive PM (C:Cx) (Fin:Nat->Ac->Own C.SR->Prop):MS->Nat->Ac->Own C.SR->Prop
 |QG {k:Nat} {a:Ac} {o:Own C.SR} (nx:AL->Ac) (no:AL->Own C.SR):a.status=.running->
   (∀w,o.I w->∃w' es,Ae C.P true a w=.go (nx w) w' es/\NS o (no w) w w' es)->(∀w,o.I w->PM C Fin .work k (nx w) (no w))->PM C Fin .work k a o
 |recv {k:Nat} {a:Ac} {o:Own C.SR} {z:AP} (go:AP->Nat->Obj->Own C.SR):a.status=.running->a.offers=AB->(∀w,o.I w->Ae C.P true a w=.comm a #[rcase C.bc z] true (.recv true) w #[])->
   (∀xv bk ob,C.Cs k xv bk ob->∀x,(go xv bk ob).O x↔o.O x\/x=bk)->(∀xv bk ob,C.Cs k xv bk ob->∀w,o.I w->¬o.O bk->w.heap[bk]? =AA ob->(go xv bk ob).I w)->
   (∀xv bk ob,C.Cs k xv bk ob->PM C Fin .work (k+1) (a.finishComm C.P #[rcase C.bc z] (.recv true) 0 xv true) (go xv bk ob))->
   (k=C.N->PM C Fin .work k (a.finishComm C.P #[rcase C.bc z] (.recv true) 0 z false) o)->PM C Fin .work k a o
 |clo {k:Nat} {a a':Ac} {o:Own C.SR} {es:Array Bc}:a.status=.running->a'.status=.running->mayWake C.P a=true->Uk C.bs es->(∀w w',o.I w->QF w C.bs w'->Ae C.P true a w=.go a' w' es)->
   PM C Fin .dh k a' o->PM C Fin .work k a o
 |free {s:MS} {k:Nat} {a:Ac} {o:Own C.SR} (nx:AL->Ac) (es:AL->Array Bc):s.free=true->a.status=.running->(∀w,Live C w->(nx w).status=.running/\Ae C.P true a w=.go (nx w) w (es w)/\∀e∈es w,e=mkS (.write (OJ C.wg)))->(∀w,Live C w->PM C Fin s k (nx w) o)->PM C Fin s k a o|kd {k:Nat} {a a':Ac} {o:Own C.SR}:a.status=.running->a'.status=.running->(∀w,Live C w->Ae C.P true a w=.go a' w #[mkS .disable])->PM C Fin .VJ k a' o->PM C Fin .dh k a o
 |w1 {k:Nat} {a a1 a2:Ac} {o:Own C.SR}:a.status=.running->a1.status=.running->a2.status=.running->(∀w,WA C w KQ 0->Ae C.P true a w=.go a1 w #[JD C])->PM C Fin .VJ k a1 o->
   (∀w,WA C w 0 0->Ae C.P true a w=.go a2 w #[JD C])->PM C Fin .Qb k a2 o->PM C Fin .VJ k a o
 |w2 {k:Nat} {a a1 a2:Ac} {o:Own C.SR}:a.status=.running->a1.status=.running->a2.status=.running->(∀w,WA C w KQ 0->Ae C.P true a w=.go a1 (w.setCell (F6 C.wg) (.int .u64 (KQ+1))) #[JD C,Ui C])->PM C Fin .ws2 k a1 o->
   (∀w,WA C w 0 0->Ae C.P true a w=.go a2 w #[JD C])->PM C Fin .Qb k a2 o->PM C Fin .VJ k a o
 |w1z {k:Nat} {a a2:Ac} {o:Own C.SR}:a.status=.running->a2.status=.running->(∀w,WA C w 0 0->Ae C.P true a w=.go a2 w #[JD C])->PM C Fin .Qb k a2 o->PM C Fin .Qb k a o
 |w3 {k:Nat} {a a':Ac} {o:Own C.SR}:a.status=.running->a'.status=.running->a.offers=AB->(∀w st,WA C w st 0->Ae C.P true a w=.go {a with status:=.blocked} w #[])->
   (∀w,WA C w 0 1->Ae C.P true a w=.go a' (w.setCell (OJ C.wg) (.int .u32 0)) (semEvents (OJ C.wg)))->PM C Fin .sZ k a' o->PM C Fin .ws2 k a o
 |w4 {k:Nat} {a a':Ac} {o:Own C.SR}:a.status=.running->a'.status=.running->(∀w,WA C w 0 0->Ae C.P true a w=.go a' w #[JD C])->PM C Fin .Qb k a' o->PM C Fin .sZ k a o|ke {k:Nat} {a a':Ac} {o:Own C.SR}:a.status=.running->a'.status=.running->(∀w,Live C w->Ae C.P true a w=.go a' w #[mkS .enable])->PM C Fin .su k a' o->PM C Fin .Qb k a o|acq {k:Nat} {a a':Ac} {o:Own C.SR}:a.status=.running->a'.status=.running->(∀w,Live C w->Ae C.P true a w=.go a' w #[mkS (.acquire (F6 C.wg))])->Fin k a' o->PM C Fin .su k a o
def MB (C:Cx) (ms:MS) (ws:WS) (w:AL):Prop:=
 match ws with| .work _| .fin0| .fin1| .fin2=>((ms=.work\/ms=.dh\/ms=.VJ)/\WA C w KQ 0)\/(ms=.ws2/\WA C w (KQ+1) 0)| .Nk=>ms=.ws2/\WA C w 1 0| .Uj=>ms=.ws2/\WA C w 0 0| .quit=>(ms=.ws2/\WA C w 0 1)\/(ms≠ .ws2/\WA C w 0 0)
structure Ky (C:Cx) (t:CB) (r:Nat):Prop where
 act:t.act? r=AA (.mark (.releaseMerge (F6 C.wg)))
 g:t.g? r=AA C.j
 heard:t.heard r
 all: ∀i x,touchAt t i=AA x->x.loc.isMemory=true->t.g? i=AA C.j->Before t i r\/(x.loc.blk=AA C.wg/\x.kind=.atomic/\¬t.heard i)
def WS.rel:WS->Bool| .fin1| .fin2| .Nk| .Uj| .quit=>true|_=>false
def Sm (a a0:Ac):Prop:=a.frame=a0.frame/\a.callers=a0.callers/\a.dying=a0.dying
def di (C:Cx) (ms:MS) (ws:WS) (oM:Own C.SR) (a a0:Ac):Prop:=
 (a.status=.running/\Sm a a0)\/
 (ms=.work/\ws.JG=true/\∃z,a=parked a0 #[rcase C.bc z] (.recv true)/\∀w,oM.I w->Ae C.P true a0 w=.comm a0 #[rcase C.bc z] true (.recv true) w #[])\/
 (ms=.ws2/\ws≠ .quit/\a.status=.blocked/\a.offers=AB/\Sm a a0)
def BOk (C:Cx) (ms:MS) (ws:WS) (oW:Own C.SR) (b b0:Ac):Prop:=
 (b.status=.running/\Sm b b0)\/
 (ms=.work/\ws=.work false/\∃xv z1 z2,b=parked b0 (EL C.bc C.bs xv z1 z2) .select/\∀w,oW.I w->Ae C.P false b0 w=.comm b0 (EL C.bc C.bs xv z1 z2) true .select w #[])
structure St (C:Cx) (ms:MS) (ws:WS) (k kW:Nat) (a0 b0:Ac) (oM oW:Own C.SR) (gs:Array Ac) (w:AL) (t:CB) (q:Nat->Nat) (a b:Ac) (OW:Nat->Prop) (dW:Nat):Prop where
 cf:Cf C gs w t q a b ms.deaf dW oM OW
 ne:C.bc≠C.bs/\C.wg≠C.bc/\C.wg≠C.bs
 MP:di C ms ws oM a a0
 S9:ws≠ .quit->BOk C ms ws oW b b0
 qu:ws=.quit->∃n,QuitsD C.P n dW b
 nb:a.status=.running\/b.status=.running
 iw:(ws≠ .quit\/True)->oW.I w
 ow: ∀x,oW.O x->OW x
 c1:MO w C.bc (!ws.JG)
 c2:MO w C.bs (decide (ms≠ .work))
 wg:MB C ms ws w
 dw:ws≠ .quit->dW=ws.deaf
 kk:ms=.work->(∀s,ws=.work s->kW=k/\s=false)/\(ws.JG=false->k=C.N)
 rel:ws.rel=true->∃r,Ky C t r
section
variable {es:Array Bc}{gs:Array Ac}{sh:CommShape}{e:Bc}{a b:Ac}{m:Mark}{c dM dW:Nat}{q:Nat->Nat}{t:CB}{w w':AL}
section
variable {C:Cx} {P:Program} {ms:MS} {ws:WS} {oM oW:Own C.SR} {a a0 b b0 g g' x:Ac} {w w':AL}
theorem ZK(h:x.status=.blocked)(ho:x.offers=AB):woken P g g' w' x=x\/woken P g g' w' x={x with status:=.running}:=by
 unfold woken;split;right;simp[Goroutine.again,h,ho];exact .inl rfl
theorem ZL{z:AP}(hc:MO w' c false):woken P g g' w' (parked x #[rcase c z] sh)=parked x #[rcase c z] sh:=by
 obtain⟨s,hc⟩:=hc;exact woken_recv_open _ _ hc
theorem TQ{bc bs:Nat}{xv z1 z2:AP}(hc:MO w' bc false)(hs:MO w' bs false):woken P g g' w' (parked x (EL bc bs xv z1 z2) sh)=parked x (EL bc bs xv z1 z2) sh:=by
 obtain⟨s,hc⟩:=hc;obtain⟨s2,hs⟩:=hs;unfold woken;split;exact jc hc hs sh;rfl
theorem RV(h:di C ms ws oM a a0)(hc:ms=.work->ws.JG=true->MO w' C.bc false):di C ms ws oM (woken P g g' w' a) a0/\(a.status=.running->(woken P g g' w' a).status=.running):=by
 rcases h with ⟨h1,h2⟩|⟨h1,h2,z,rfl,h3⟩|⟨h1,h2,h3,h4,h5⟩;rw[Lm h1];exact⟨.inl ⟨h1,h2⟩,id⟩;rw[ZL (hc h1 h2)];exact⟨.inr (.inl ⟨h1,h2,z,rfl,h3⟩),id⟩;refine⟨?_,λe=>by rw[h3] at e;cases e⟩;rcases ZK (P:=P) (g:=g) (g':=g') (w':=w') h3 h4 with e|e;rw[e];exact .inr (.inr ⟨h1,h2,h3,h4,h5⟩);rw[e];exact .inl ⟨rfl,h5⟩
theorem uX(h:BOk C ms ws oW b b0)(hc:ms=.work->ws=.work false->MO w' C.bc false/\MO w' C.bs false):BOk C ms ws oW (woken P g g' w' b) b0/\(b.status=.running->(woken P g g' w' b).status=.running):=by
 rcases h with ⟨h1,h2⟩|⟨h1,h2,xv,z1,z2,rfl,h3⟩;rw[Lm h1];exact⟨.inl ⟨h1,h2⟩,id⟩;rw[TQ (hc h1 h2).1 (hc h1 h2).2];exact⟨.inr ⟨h1,h2,xv,z1,z2,rfl,h3⟩,id⟩
theorem Sm.step{mn:Bool}(h:Sm a a0)(w:AL):Ae P mn a w=Ae P mn a0 w:=stepG_same h.1 h.2.1 h.2.2 w
theorem Sm.refl(a:Ac):Sm a a:=⟨rfl,rfl,rfl⟩
end
section
variable {C:Cx} {OW:Nat->Prop} {B:Nat}
theorem uY(hS:C.SY c)(h1: ¬OW c)(h2: ¬C.SR c)(hB:c<B)(he:(∃o x,e=⟨.cell ⟨c,o,AB⟩,x,true⟩)\/e=⟨.obj c,false,true⟩\/e=⟨.obj c,true,true⟩):Ev0 C OW B e:=by
 rcases he with ⟨o,x,rfl⟩|rfl|rfl
 ·refine⟨λy hy b hb=>?_,AV,?_⟩
  ·simp only[NH,DK,DN] at hy;subst hy;simp only[Loc.blk,DN] at hb;subst hb;exact .inr (.inr ⟨hS,h1,h2,AV⟩)
  rw[NH];exact hB
 ·refine⟨λy hy b hb=>?_,AV,hB⟩;simp only[Cb,DK,DN] at hy;subst hy;simp only[Loc.blk,DN] at hb;subst hb;exact .inr (.inr ⟨hS,h1,h2,AV⟩)
 exact⟨λy hy=>by simp[Cb,DK] at hy,AV,hB⟩
theorem uZ(hS:C.SY c)(h1: ¬OW c)(h2: ¬C.SR c)(hB:c<B)(he:(∃o x,e=⟨.cell ⟨c,o,AB⟩,x,true⟩)\/e=⟨.obj c,false,true⟩\/e=⟨.obj c,true,true⟩):EvJ C OW B e:=by
 rcases he with ⟨o,x,rfl⟩|rfl|rfl
 ·refine⟨λy hy _=>?_,AV,?_⟩
  ·simp only[NH,DK,DN] at hy;subst hy;exact⟨c,rfl,.inr (.inr ⟨hS,h1,h2,rfl⟩)⟩
  rw[NH];exact hB
 ·refine⟨λy hy _=>?_,AV,hB⟩;simp only[Cb,DK,DN] at hy;subst hy;exact⟨c,rfl,.inr (.inr ⟨hS,h1,h2,rfl⟩)⟩
 exact⟨λy hy=>by simp[Cb,DK] at hy,AV,hB⟩
theorem eF(h:(MemAct.mark m).touch? =AB)(hr:m≠ .release (F6 C.wg))(hl:(MemAct.mark m).low B):Ev0 C OW B (mkS m):=
 ⟨λy hy=>(by simp only[mkS,Cb] at hy;rw[h] at hy;cases hy),by simpa[mkS] using hr,hl⟩
theorem eG(h:(MemAct.mark m).touch? =AB)(hr:m≠ .release (F6 C.wg))(hl:(MemAct.mark m).low B):EvJ C OW B (mkS m):=
 ⟨λy hy=>(by simp only[mkS,Cb] at hy;rw[h] at hy;cases hy),by simpa[mkS] using hr,hl⟩
theorem NS.ev0{o o':Own C.SR}(h:NS o o' w w' es)(hc:Cf C gs w t q a b dM dW o OW): ∀e∈es,Ev0 C OW w'.heap.size e:=by
 intro e he;have hev:=h.evs e he
 have hown: ∀x,o'.O x->x<w'.heap.size/\¬OW x/\¬C.SR x/\¬C.SY x/\¬C.Z x:=λx hx=>by
  rcases (h.O' x).1 hx with h1|h1;have:=hc.om x h1;have:=h.sz;exact⟨Ad,(hc.om x h1).2⟩;refine⟨h1.2,λy=>?_,λy=>?_,λy=>?_,λy=>?_⟩;have:=(hc.ow x y).1;omega;have:=(hc.sr x y).1;omega;have:=(hc.sy x y).1;omega;have:=hc.z x y;omega
 obtain⟨loc,wr,sy⟩:=e
 cases loc with
 |cell ad=>
  simp only at hev;refine⟨λy hy b hb=>?_,AV,?_⟩
  ·simp only[NH,DK,DN] at hy;subst hy;simp only[Loc.blk,DN] at hb;subst hb;rcases hev with h1|⟨h1,h2⟩;have:=hown _ h1;exact .inl ⟨this.2.1,this.2.2.1,this.2.2.2.1,this.2.2.2.2⟩;exact .inr (.inl ⟨h1,λy=>(hc.ow _ y).2.1 h1,(hc.sr _ h1).2.1,h2⟩)
  rw[NH];rcases hev with h1|⟨h1,_⟩;exact (hown _ h1).1;exact ER (hc.sr _ h1).1 h.sz
 |obj c=>
  simp only at hev;(have e2:Cb ⟨.obj c,wr,sy⟩=.access ⟨.obj c,wr,sy⟩:=by cases wr<;>cases sy<;>first|rfl|exact Ai ⟨rfl,rfl⟩ hev.2);refine⟨λy hy b hb=>?_,AV,?_⟩
  ·rw[e2] at hy;simp only[DK,DN] at hy;subst hy;simp only[Loc.blk,DN] at hb;subst hb;have:=hown _ hev.1;exact .inl ⟨this.2.1,this.2.2.1,this.2.2.2.1,this.2.2.2.2⟩
  rw[e2];exact (hown _ hev.1).1
 |mark m=>
  simp only at hev
  cases m with|extern f=>exact⟨λy hy=>by simp[Cb,DK] at hy,AV,Am⟩|noRoom=>exact⟨λy hy=>by simp[Cb,DK] at hy,AV,Am⟩|_=>exact hev.elim
 |output=>
  refine⟨λy hy b hb=>?_,AV,Am⟩;simp only[Cb,DK,DN] at hy;subst hy;cases hb
 |goroutines=>exact hev.elim
theorem NS.evJ{oM:Own C.SR}{o o':Own C.SR}(h:NS o o' w w' es)(hc:Cf C gs w t q a b dM dW oM OW)(ho: ∀x,o.O x->OW x):
  ∀e∈es,EvJ C (λx=>OW x\/(w.heap.size<=x/\x<w'.heap.size)) w'.heap.size e:=by
 intro e he;have hev:=h.evs e he;have hown: ∀x,o'.O x->(OW x\/(w.heap.size<=x/\x<w'.heap.size)):=λx hx=>((h.O' x).1 hx).imp (ho x) id
 have hall: ∀x,(OW x\/(w.heap.size<=x/\x<w'.heap.size))->x<w'.heap.size/\¬C.SR x/\¬C.SY x:=λx hx=>by
  rcases hx with h1|h1;have:=h.sz;have h2:=hc.ow x h1;exact⟨Ad,h2.2.1,h2.2.2.1⟩;refine⟨h1.2,λy=>?_,λy=>?_⟩;have:=(hc.sr x y).1;omega;have:=(hc.sy x y).1;omega
 have hsr: ∀x,C.SR x->¬(OW x\/(w.heap.size<=x/\x<w'.heap.size)):=λx hx hy=>(hall x hy).2.1 hx;obtain⟨loc,wr,sy⟩:=e
 cases loc with
 |cell ad=>
  simp only at hev;refine⟨λy hy _=>?_,AV,?_⟩
  ·simp only[NH,DK,DN] at hy;subst hy;refine⟨ad.block,rfl,?_⟩;rcases hev with h1|⟨h1,h2⟩;have:=hall _ (hown _ h1);exact .inl ⟨hown _ h1,this.2.1,this.2.2⟩;exact .inr (.inl ⟨h1,hsr _ h1,(hc.sr _ h1).2.1,h2⟩)
  rw[NH];rcases hev with h1|⟨h1,_⟩;exact (hall _ (hown _ h1)).1;exact ER (hc.sr _ h1).1 h.sz
 |obj c=>
  simp only at hev;(have e2:Cb ⟨.obj c,wr,sy⟩=.access ⟨.obj c,wr,sy⟩:=by cases wr<;>cases sy<;>first|rfl|exact Ai ⟨rfl,rfl⟩ hev.2);refine⟨λy hy _=>?_,AV,?_⟩
  ·rw[e2] at hy;simp only[DK,DN] at hy;subst hy;have:=hall _ (hown _ hev.1);exact⟨c,rfl,.inl ⟨hown _ hev.1,this.2.1,this.2.2⟩⟩
  rw[e2];exact (hall _ (hown _ hev.1)).1
 |mark m=>
  simp only at hev
  cases m with|extern f=>exact⟨λy hy=>by simp[Cb,DK] at hy,AV,Am⟩|noRoom=>exact⟨λy hy=>by simp[Cb,DK] at hy,AV,Am⟩|_=>exact hev.elim
 |output=>
  refine⟨λy hy hm=>?_,AV,Am⟩;simp only[Cb,DK,DN] at hy;subst hy;cases hm
 |goroutines=>exact hev.elim
theorem iJ{SR:Nat->Prop}{o o':Own SR}(h:NS o o' w w' es)(d:Nat):Ee d es=d:=
 deafBehind_still (λe he=>by
  have:=h.evs e he;constructor;intro hl;rw[hl] at this;exact this
  intro hl;rw[hl] at this;exact this) d
end
section
variable {C:Cx} {t u:CB} {r:Nat}
theorem Ky.app(h:Ky C t r)(hr:r<t.size)(hu: ∀i op x,(t++u)[i]? =AA op->t.size<=i->op.g=C.j->op.act.touch? =AA x->x.loc.isMemory=true->x.loc.blk=AA C.wg/\x.kind=.atomic/\¬(t++u).heard i):Ky C (t++u) r:=by
 refine⟨by rw[act?_old hr];exact h.act,by rw[g?_old hr];exact h.g,(heard_old hr).2 h.heard,λi x hx hm hg=>?_⟩;obtain⟨op,hop,hox⟩:=touch_of hx;by_cases hi:i<t.size
 ·rw[touchAt_old hi] at hx;rw[g?_old hi] at hg;rcases h.all i x hx hm hg with h1|⟨h1,h2,h3⟩;exact .inl (h1.app u);exact .inr ⟨h1,h2,λhh=>h3 ((heard_old hi).1 hh)⟩
 (have hgo:op.g=C.j:=by simpa[Trace.g?,hop] using hg);exact .inr (hu i op x hop Ad hgo hox hm)
theorem Ky.lt(h:Ky C t r):r<t.size:=lt_of_act? h.act
theorem Ky.app'(h:Ky C t r)(hu: ∀op∈u,op.g≠C.j\/op.act.touch? =AB):Ky C (t++u) r:=
 h.app h.lt λi op x hop hi hg hx _=>by
  rcases Ya hop with ⟨h1,_⟩|⟨_,h1⟩;omega;rcases hu op h1 with h2|h2;exact Ai hg h2;rw[h2] at hx;cases hx
theorem Ky.AH8(h:Ky C t r){fn:Bi}{pos:String}(hd: ∀m e,es[m]? =AA e->(∀x,(Cb e).touch? =AA x->x.loc.isMemory=true->x.loc.blk=AA C.wg/\x.kind=.atomic)/\((Cb e).touch? ≠AB->Ee (Deaf t C.j) (es.extract 0 m)≠0)):
  Ky C (t++DX C.j fn pos es) r:=by
 refine h.app h.lt λi op x hop hi hg hx hm=>?_;(have ABG:(DX C.j fn pos es)[i - t.size]? =AA op:=by rw[Y7 hi] at hop;exact hop);rw[ofEvents_eq,Kr] at ABG;obtain⟨e,he,rfl⟩:=Jz.1 ABG;obtain⟨h1,h2⟩:=hd _ _ he;refine⟨(h1 x hx hm).1,(h1 x hx hm).2,?_⟩;rintro⟨g,hgg,hdf⟩;(have:g=C.j:=by simp[Trace.g?,hop] at hgg;exact hgg.symm);subst this;refine h2 (by simp only at hx;rw[hx];simp) ?_
 have hsplit:t++DX C.j fn pos es=(t++DX C.j fn pos (es.extract 0 (i - t.size)))++DX C.j fn pos (es.extract (i - t.size) es.size):=by
  rw[ADA,ofEvents_eq,ofEvents_eq,ofEvents_eq,<- Array.map_append];congr 2;have hlt:=(Df.1 he).1;apply Y4;intro y;simp only[AHq,AHr,Array.size_extract];by_cases hy:y<i - t.size;rw[BZ Ad,BZ Ad];simp;rw[BM Ad];by_cases hy2:y<es.size
  ·rw[BZ Ad];congr 1;omega
  rw[BM Ad,Wi Ad]
 have hlt:=(Df.1 he).1
 have hsz:(t++DX C.j fn pos (es.extract 0 (i - t.size))).size=i:=by
  rw[lV,ofEvents_eq];simp;omega
 rw[hsplit,deaf_old (by rw[hsz];exact Ba _)] at hdf;have hD:=Deaf_own t C.j fn pos (es.extract 0 (i - t.size));unfold Deaf at hD;rw[hsz] at hD;rw[hD] at hdf;exact hdf
end
end
def E8 (j c s r:Nat) (f0 fj:Bi) (p0 pj:String):Array MemOp:=
 #[{g:=j,fn:=fj,pos:=pj,act:=.send c s},{g:=0,fn:=f0,pos:=p0,act:=.recv c r 0},{g:=j,fn:=fj,pos:=pj,act:=.sendDone c s},{g:=0,fn:=f0,pos:=p0,act:=.recvDone c r}]
section
variable {j c s r:Nat} {f0 fj:Bi} {p0 pj:String} {t:CB}
theorem mr: ∀op∈E8 j c s r f0 fj p0 pj,op.act.touch? =AB:=by
 intro op h;simp only[E8,IU,BB,BC,or_false] at h;rcases h with rfl|rfl|rfl|rfl<;>rfl
theorem uf:(t++E8 j c s r f0 fj p0 pj)[t.size]? =AA {g:=j,fn:=fj,pos:=pj,act:=.send c s}/\(t++E8 j c s r f0 fj p0 pj)[t.size+1]? =AA {g:=0,fn:=f0,pos:=p0,act:=.recv c r 0}/\
  (t++E8 j c s r f0 fj p0 pj)[t.size+2]? =AA {g:=j,fn:=fj,pos:=pj,act:=.sendDone c s}/\(t++E8 j c s r f0 fj p0 pj)[t.size+3]? =AA {g:=0,fn:=f0,pos:=p0,act:=.recvDone c r}:=by
 refine⟨?_,?_,?_,?_⟩<;>(rw[Y7 Ad];simp[E8])
theorem Ru(g:Nat):(t++E8 j c s r f0 fj p0 pj).deaf g (t.size+3)=Deaf t g/\Deaf (t++E8 j c s r f0 fj p0 pj) g=Deaf t g:=by
 obtain⟨h0,h1,h2,h3⟩:=uf (j:=j) (c:=c) (s:=s) (r:=r) (f0:=f0) (fj:=fj) (p0:=p0) (pj:=pj) (t:=t);have e0:(t++E8 j c s r f0 fj p0 pj).deaf g t.size=Deaf t g:=deaf_old (Ba _);have e1:=deaf_succ (g:=g) h0;have e2:=deaf_succ (g:=g) h1;have e3:=deaf_succ (g:=g) h2;have e4:=deaf_succ (g:=g) h3;simp only[deafStep] at e1 e2 e3 e4;(have hsz:(t++E8 j c s r f0 fj p0 pj).size=t.size+3+1:=by simp[E8]);refine⟨by rw[e3,e2,e1,e0],?_⟩;unfold Deaf;rw[hsz,e4,e3,e2,e1,e0];rfl
theorem ABH(h0:Deaf t 0=0)(hj:Deaf t j=0)(hsr:s=r){i:Nat}(hk:Knows t j i):Knows (t++E8 j c s r f0 fj p0 pj) 0 i:=by
 obtain⟨g0,g1,g2,g3⟩:=uf (j:=j) (c:=c) (s:=s) (r:=r) (f0:=f0) (fj:=fj) (p0:=p0) (pj:=pj) (t:=t);subst hsr;refine⟨t.size+3,_,g3,rfl,.inr ?_⟩;have e1:=hk.hb_new (u:=E8 j c s s f0 fj p0 pj) (Ba _) g0 rfl;refine e1.trans (.single (.inr ⟨.handOver (c:=c) (k:=s) (act?_of g0) (act?_of g3),⟨j,by simp[Trace.g?,g0],?_⟩,⟨0,by simp[Trace.g?,g3],?_⟩⟩));rw[deaf_old (Ba _)];exact hj;rw[(Ru 0).1];exact h0
end
section
variable {C:Cx} {gs gs':Array Ac} {w:AL} {t:CB} {q:Nat->Nat} {a b a' b':Ac} {oM Sz oW:Own C.SR} {OW:Nat->Prop} {s r bk:Nat} {ob:Obj} {f0 fj:Bi} {p0 pj:String}
theorem AH9(h:Cf C gs w t q a b 0 0 oM OW)(hc:w.heap[C.bc]? =AA (.chan 0 #[] false s r false))(hsr:s=r)(hbk:OW bk)(hob:w.heap[bk]? =AA ob)(hO: ∀x,Sz.O x↔oM.O x\/x=bk)
  (hI: ∀w,oM.I w->¬oM.O bk->w.heap[bk]? =AA ob->Sz.I w) (hgs:gs'=(gs.setIfInBounds C.j b').setIfInBounds 0 a'):
  Cf C gs' (w.setChan C.bc 0 #[] false (s+1) (r+1) false) (t++E8 C.j C.bc s r f0 fj p0 pj) q a' b' 0 0 Sz (λx=>OW x/\x≠bk):=by
 have hjp:=h.hj;have hjl:C.j<gs.size:=(Df.1 h.Uh).1;(have h0l:0<gs.size:=by omega);have hbc:C.bc<w.heap.size:=(Df.1 hc).1;have hsz:(w.setChan C.bc 0 #[] false (s+1) (r+1) false).heap.size=w.heap.size:=by simp[Yb]
 have hheap: ∀x,x≠C.bc->(w.setChan C.bc 0 #[] false (s+1) (r+1) false).heap[x]? =w.heap[x]? :=λx hx=>by
  simp only[Yb];rw[Dw (Ir hx)]
 have hbkf:=h.ow bk hbk;have AO4:bk≠C.bc:=λe=>hbkf.2.2.1 (by rw[e];exact .inr (.inl rfl));have ARk: ¬oM.O bk:=λx=>(h.om bk x).2.1 hbk;have hnt:=mr (j:=C.j) (c:=C.bc) (s:=s) (r:=r) (f0:=f0) (fj:=fj) (p0:=p0) (pj:=pj)
 have hold: ∀{i x},touchAt (t++E8 C.j C.bc s r f0 fj p0 pj) i=AA x->touchAt t i=AA x:=λ{i x} ht=>by
  rcases Ew ht with h'|⟨op,hop,_,hop'⟩
  ·exact h'.2
  rw[hnt op hop] at hop';cases hop'
 have hti:TI C.j C.SY C.SR OW C.Z (t++E8 C.j C.bc s r f0 fj p0 pj):=by
  have e:t++E8 C.j C.bc s r f0 fj p0 pj=(((t++ #[{g:=C.j,fn:=fj,pos:=pj,act:=.send C.bc s}])++ #[{g:=0,fn:=f0,pos:=p0,act:=.recv C.bc r 0}])++ #[{g:=C.j,fn:=fj,pos:=pj,act:=.sendDone C.bc s}])++ #[{g:=0,fn:=f0,pos:=p0,act:=.recvDone C.bc r}]:=by
   apply Array.ext';simp[E8]
  rw[e]
  refine TI.mute (TI.mute (TI.mute (TI.mute h.ti (g:=C.j) ?_ ?_) (g:=0) ?_ ?_) (g:=C.j) ?_ ?_) (g:=0) ?_ ?_<;>
   (intro op hop;simp only[IU,BB,BC,or_false] at hop;subst hop;rfl)
 subst hgs;refine⟨h.hj,?_,?_,λi g hi hij hg=>?_,λi hi=>?_,by rw[(Ru 0).2,h.dm],by rw[(Ru C.j).2,h.dw],?_,?_,?_,λx hx=>?_,λx hx=>?_,λx hx=>?_,λx hx=>?_,λx hx=>?_,?_,⟨λx hx ht=>?_,λx hx hl=>?_⟩,?_,?_,?_⟩;simp[h0l];rw[Dw Ad];simp[hjl]
 ·rw[Dw Ad,Dw (Ir hij)] at hg;rw[(Ru i).2];exact h.old i g hi hij hg
 rw[(Ru i).2];exact h.above i (by simpa using hi);exact hti.pass (λi x b ht hb ho=>ABH h.dm h.dw hsr (h.ti.ow i x b (hold ht) hb ho)) λb hb=>hb.1
 ·intro op hop;rw[hsz];rcases JL.1 hop with h1|h1;exact h.low op h1;simp only[E8,IU,BB,BC,or_false] at h1;rcases h1 with rfl|rfl|rfl|rfl<;>exact hbc
 ·refine NR h.norel λop hop=>?_;simp only[E8,IU,BB,BC,or_false] at hop;rcases hop with rfl|rfl|rfl|rfl<;>simp
 ·rw[hsz];rcases (hO x).1 hx with h1|rfl;have:=h.om x h1;exact⟨this.1,λy=>this.2.1 y.1,this.2.2⟩;exact⟨hbkf.1,λy=>y.2 rfl,hbkf.2⟩
 rw[hsz];exact h.ow x hx.1;rw[hsz];exact h.sr x hx;rw[hsz];exact h.sy x hx;rw[hsz];exact h.z x hx
 ·refine hI _ (oM.st w _ h.im (λx hx=>hheap x λe=>?_) (by rw[hsz];exact Ba _) rfl rfl) ARk (by rw[hheap bk AO4];exact hob);rcases hx with hx|hx;exact (h.om x hx).2.2.2.1 (by rw[e];exact .inr (.inl rfl));exact (h.sr x hx).2.1 (by rw[e];exact .inr (.inl rfl))
 ·rw[hheap x λe=>ht (h.keep.2 x (.inr (.inr (by rw[e];exact .inr (.inl rfl)))) hx)];exact h.keep.1 x hx ht
 ·rcases hx with h1|h1|h1
  ·rcases (hO x).1 h1 with h2|rfl;exact h.keep.2 x (.inl h2) hl;exact h.keep.2 _ (.inr (.inl hbk)) hl
  exact h.keep.2 x (.inr (.inl h1.1)) hl;exact h.keep.2 x (.inr (.inr h1)) hl
 rw[hsz];exact h.sz;exact h.same;exact O9 h.over λop hop=>.inr (.inr (hnt op hop))
end
section
variable {dM:Nat}{u:CB}{w':AL}
section
variable {C:Cx} {w:AL} {st sm:Int}
theorem Nl(w:AL)(a:Addr)(x:AP):(∀b,b≠a.block->(w.setCell a x).heap[b]? =w.heap[b]?)/\(w.setCell a x).heap.size=w.heap.size/\(w.setCell a x).tape=w.tape/\(w.setCell a x).os=w.os/\(w.setCell a x).output=w.output:=by
 refine⟨λb hb=>?_,by simp[Xw],rfl,rfl,rfl⟩;simp only[Xw];rw[LV,BM (Ir hb)]
theorem WA.setSt(h:WA C w st sm)(x:Int):WA C (w.setCell (F6 C.wg) (.int .u64 x)) x sm:=by
 unfold WA at h⊢;simp only[Xw,F6];rw[LV,BZ rfl,h];simp
theorem WA.setSm(h:WA C w st sm)(x:Int):WA C (w.setCell (OJ C.wg) (.int .u32 x)) st x:=by
 unfold WA at h⊢;simp only[Xw,OJ];rw[LV,BZ rfl,h];simp
theorem WA.keep(h:WA C w st sm)(e:w'.heap[C.wg]? =w.heap[C.wg]?):WA C w' st sm:=by unfold WA;rw[e];exact h
theorem MB.keep{ms:MS}{ws:WS}{w':AL}(h:MB C ms ws w)(e:w'.heap[C.wg]? =w.heap[C.wg]?):MB C ms ws w':=by
 unfold MB at h⊢;(cases ws<;>simp only at h⊢);exact h.imp (λx=>⟨x.1,x.2.keep e⟩) (λx=>⟨x.1,x.2.keep e⟩);exact h.imp (λx=>⟨x.1,x.2.keep e⟩) (λx=>⟨x.1,x.2.keep e⟩);exact h.imp (λx=>⟨x.1,x.2.keep e⟩) (λx=>⟨x.1,x.2.keep e⟩);exact h.imp (λx=>⟨x.1,x.2.keep e⟩) (λx=>⟨x.1,x.2.keep e⟩);exact⟨h.1,h.2.keep e⟩;exact⟨h.1,h.2.keep e⟩;exact h.imp (λx=>⟨x.1,x.2.keep e⟩) (λx=>⟨x.1,x.2.keep e⟩)
theorem MO.keep{c:Nat}{cl:Bool}(h:MO w c cl)(e:w'.heap[c]? =w.heap[c]?):MO w' c cl:=by obtain⟨s,h⟩:=h;exact⟨s,by rw[e];exact h⟩
theorem MB.live{ms:MS}{ws:WS}(h:MB C ms ws w):Live C w:=by
 unfold MB at h
 cases ws<;>simp only at h<;>first
  |exact⟨_,_,h.2⟩|(rcases h with ⟨_,h⟩|⟨_,h⟩<;>exact⟨_,_,h⟩)
end
section
variable {C:Cx} {ms ms':MS} {ws ws':WS} {k k' kW kW':Nat} {a0 a0' b0 b0':Ac} {oM Sz oW WN:Own C.SR} {gs:Array Ac} {w w':AL} {t:CB} {q:Nat->Nat} {a b:Ac} {OW Rt:Nat->Prop} {dW d:Nat} {es:Array Bc} {sl':Option (Nat×Nat)}
theorem Own.at{SR:Nat->Prop}(o:Own SR){w:AL}(h:o.I w)(d:Nat):o.I (w.at d):=o.st w (w.at d) h (λ_ _=>rfl) (Ba _) rfl rfl
theorem St.at(h:St C ms ws k kW a0 b0 oM oW gs w t q a b OW dW)(d:Nat):St C ms ws k kW a0 b0 oM oW gs (w.at d) t q a b OW dW:=
 ⟨h.cf.at d,h.ne,h.MP,h.S9,h.qu,h.nb,λx=>oW.at (h.iw x) d,h.ow,h.c1,h.c2,h.wg,h.dw,h.kk,h.rel⟩
theorem OL(C:Cx):C.SY C.bc:=.inr (.inl rfl)
theorem Rw(C:Cx):C.SY C.bs:=.inr (.inr rfl)
theorem IX(C:Cx):C.SY C.wg:=.inl rfl
theorem Kz(h:ws.rel=true->∃r,Ky C t r)(hu: ∀op∈u,op.g≠C.j\/op.act.touch? =AB):ws.rel=true->∃r,Ky C (t++u) r:=λx=>let ⟨r,hr⟩:=h x;⟨r,hr.app' hu⟩
theorem eH(h:St C ms ws k kW a0 b0 oM oW gs w t q a b OW dW)(hsm:Sm a a0)(hs:Ae C.P true a0 w=.go a0' w' es)(hr:a0'.status=.running)(hsz:w.heap.size<=w'.heap.size)
  (hkeep: ∀x,x<w.heap.size->¬oM.O x->¬C.SY x->w'.heap[x]? =w.heap[x]?) (hsame:w'.tape=w.tape/\w'.os=w.os/\w'.output=w.output)
  (hown: ∀x,Sz.O x↔oM.O x\/(w.heap.size<=x/\x<w'.heap.size)) (hI:Sz.I w') (hev: ∀e∈es,Ev0 C OW w'.heap.size e) (hd:Ee ms.deaf es=ms'.deaf)
  (c1:MO w' C.bc (!ws.JG)) (c2:MO w' C.bs (decide (ms'≠ .work))) (wg:MB C ms' ws w') (ARl:ws≠ .quit->BOk C ms' ws oW (woken C.P a a0' w' b) b0)
  (kk:ms'=.work->(∀s,ws=.work s->kW=k'/\s=false)/\(ws.JG=false->k'=C.N)):
  ∃gs' t' b',runT C.P (crowd gs w sl') 0=(.next (crowd gs' w' sl'),t')/\gs'.size=gs.size/\St C ms' ws k' kW a0' b0 Sz oW gs' w' (t++t') q a0' b' OW dW:=by
 obtain⟨h1,h2,h3⟩:=df (sl':=sl') h.cf (by rw[hsm.step];exact hs) hsz hkeep hsame hown hI hev;rw[hd] at h3;refine⟨_,_,_,h1,h2,⟨h3,h.ne,.inl ⟨hr,.refl _⟩,ARl,λe=>?_,.inl hr,λe=>?_,h.ow,c1,c2,wg,h.dw,kk,Kz h.rel λop hop=>.inl ?_⟩⟩
 ·obtain⟨n,hn⟩:=h.qu e;exact⟨n,by rw[Pz hn];exact hn⟩
 ·refine oW.st w w' (h.iw e) (λx hx=>?_) hsz hsame.1 hsame.2.1;rcases hx with hx|hx;have h4:=h.cf.ow x (h.ow x hx);exact hkeep x h4.1 (λy=>(h.cf.om x y).2.1 (h.ow x hx)) h4.2.2.1;have h4:=h.cf.sr x hx;exact hkeep x h4.1 (λy=>(h.cf.om x y).2.2.1 hx) h4.2.1
 rw[ofEvents_g hop];have:=h.cf.hj;omega
theorem Ul(h:St C ms ws k kW a0 b0 oM oW gs w t q a b OW dW)(hsm:Sm b b0)(hs:Ae C.P false b0 w=.go b0' w' es)(hr:ws'≠ .quit->b0'.status=.running)(hsz:w.heap.size<=w'.heap.size)
  (hkeep: ∀x,x<w.heap.size->¬OW x->¬C.SY x->w'.heap[x]? =w.heap[x]?) (hsame:w'.tape=w.tape/\w'.os=w.os/\w'.output=w.output)
  (hown: ∀x,Rt x↔OW x\/(w.heap.size<=x/\x<w'.heap.size)) (hev: ∀e∈es,EvJ C Rt w'.heap.size e) (hoW: ∀x,WN.O x->Rt x) (hI:(ws'≠ .quit\/True)->WN.I w')
  (hd:ws'≠ .quit->Ee dW es=ws'.deaf) (hqu:ws'=.quit->∃n,QuitsD C.P n (Ee dW es) b0') (c1:MO w' C.bc (!ws'.JG)) (c2:MO w' C.bs (decide (ms≠ .work))) (wg:MB C ms ws' w')
  (kk:ms=.work->(∀s,ws'=.work s->kW'=k/\s=false)/\(ws'.JG=false->k=C.N)) (hrel:ws'.rel=true->∃r,Ky C (t++DX C.j b.frame.fn b.frame.place es) r)
  (nG:di C ms ws' oM (woken C.P b b0' w' a) a0) (hnb:(woken C.P b b0' w' a).status=.running\/b0'.status=.running):
  ∃gs' t' a' nH,runT C.P (crowd gs w sl') C.j=(.next (crowd gs' w' sl'),t')/\gs'.size=gs.size/\St C ms ws' k kW' a0 b0' oM WN gs' w' (t++t') q a' b0' Rt nH:=by
 obtain⟨h1,h2,h3⟩:=uV (sl':=sl') h.cf (by rw[hsm.step];exact hs) hsz hkeep hsame hown hev;exact⟨_,_,_,_,h1,h2,⟨h3,h.ne,nG,λe=>.inl ⟨hr e,.refl _⟩,hqu,hnb,hI,hoW,c1,c2,wg,hd,kk,hrel⟩⟩
theorem VK(h:St C ms ws k kW a0 b0 oM oW gs w t q a b OW dW){i:Nat}{g:Ac}(hpos:0<i)(hij:i≠C.j)(hi:gs[i]? =AA g)(hg:g.status=.running):
  ∃gs' t' a' b' q',runT C.P (crowd gs (w.at d) sl') i=(.next (crowd gs' (w.at d) sl'),t')/\gs'.size=gs.size/\St C ms ws k kW a0 b0 oM oW gs' (w.at d) (t++t') q' a' b' OW dW/\Dz gs'.size q'<Dz gs.size q/\(∀n,QuitsD C.P n dW b->b'=b)/\(ws≠ .quit->b.status=.blocked->b'=b):=by
 obtain⟨n,g',es,h1,h2,h3,h4,h5⟩:=ADn (d:=d) (sl':=sl') h.cf hpos hij hi hg;have ha:=RV (P:=C.P) (g:=g) (g':=g') (w':=w.at d) h.MP (λe1 e2=>by have:=h.c1;rw[e2] at this;exact this);have hb:=λe=>uX (P:=C.P) (g:=g) (g':=g') (w':=w.at d) (h.S9 e) (λe1 e2=>by have h6:=h.c1;have h7:=h.c2;rw[e2] at h6;simp only[e1,ne_eq,not_true,decide_false] at h7;exact⟨h6,h7⟩);refine⟨_,_,_,_,_,h2,h3,⟨h4,h.ne,ha.1,λe=>(hb e).1,λe=>?_,?_,λx=>oW.at (h.iw x) d,h.ow,h.c1,h.c2,h.wg,h.dw,h.kk,Kz h.rel λop hop=>.inl ?_⟩,by rw[h3];exact h5,λn hn=>Pz hn,λhq hbl=>?_⟩
 ·obtain⟨n,hn⟩:=h.qu e;exact⟨n,by rw[Pz hn];exact hn⟩
 ·rcases h.nb with e|e;exact .inl (ha.2 e);right;rw[Lm e];exact e
 rw[ofEvents_g hop];exact hij;rcases h.S9 hq with ⟨e,_⟩|⟨e1,e2,xv,z1,z2,rfl,_⟩;rw[e] at hbl;cases hbl;have h6:=h.c1;have h7:=h.c2;rw[e2] at h6;simp only[e1,ne_eq,not_true,decide_false] at h7;exact TQ h6 h7
theorem ABJ{a':Ac}(h:Cf C gs w t q a b dM dW oM OW)(hu: ∀op∈u,op.g=0/\op.act.touch? =AB/\op.act.low w.heap.size/\op.act≠ .mark (.release (F6 C.wg)))(hd:Deaf (t++u) 0=dM):
  Cf C (gs.setIfInBounds 0 a') w (t++u) q a' b dM dW oM OW:=by
 have hjp:=h.hj;have h0l:0<gs.size:=(Df.1 h.at0).1;have hother: ∀{i:Nat},0≠i->Deaf (t++u) i=Deaf t i:=λhi=>Ll t hi _ (λop hop=>(hu op hop).1)
 refine⟨h.hj,by simp[h0l],by rw[Dw Ad];exact h.Uh,λi g hi hij hg=>?_,λi hi=>?_,hd,by rw[hother Ad];exact h.dw,h.ti.mute (λop hop=>(hu op hop).1) (λop hop=>(hu op hop).2.1),λop hop=>?_,NR h.norel λop hop=>(hu op hop).2.2.2,
  h.om,h.ow,h.sr,h.sy,h.z,h.im,h.keep,h.sz,h.same,O9 h.over λop hop=>.inl (hu op hop).1⟩
 ·rw[Dw Ad] at hg;rw[hother Ad];exact h.old i g hi hij hg
 rw[hother (by simp at hi;omega)];exact h.above i (by simpa using hi);rcases JL.1 hop with h1|h1;exact h.low op h1;exact (hu op h1).2.2.1
theorem ABK{nH:Nat}{b':Ac}(h:Cf C gs w t q a b dM dW oM OW)(hu: ∀op∈u,op.g=C.j/\op.act.touch? =AB/\op.act.low w.heap.size/\op.act≠ .mark (.release (F6 C.wg)))(hd:Deaf (t++u) C.j=nH):
  Cf C (gs.setIfInBounds C.j b') w (t++u) q a b' dM nH oM OW:=by
 have hjp:=h.hj;have hjl:C.j<gs.size:=(Df.1 h.Uh).1;have hother: ∀{i:Nat},C.j≠i->Deaf (t++u) i=Deaf t i:=λhi=>Ll t hi _ (λop hop=>(hu op hop).1)
 refine⟨h.hj,by rw[Dw Ad];exact h.at0,by simp[hjl],λi g hi hij hg=>?_,λi hi=>?_,by rw[hother Ad];exact h.dm,hd,h.ti.mute (λop hop=>(hu op hop).1) (λop hop=>(hu op hop).2.1),λop hop=>?_,NR h.norel λop hop=>(hu op hop).2.2.2,
  h.om,h.ow,h.sr,h.sy,h.z,h.im,h.keep,h.sz,h.same,O9 h.over λop hop=>.inr (.inl (hu op hop).1)⟩
 ·rw[Dw (Ir hij)] at hg;rw[hother (Ir hij)];exact h.old i g hi hij hg
 rw[hother (by simp at hi;omega)];exact h.above i (by simpa using hi);rcases JL.1 hop with h1|h1;exact h.low op h1;exact (hu op h1).2.2.1
end
end
def Cx.Z' (C:Cx) (b:Nat):Prop:=C.Z b\/b=C.wg
def Reach (C:Cx) (Fin:Nat->Ac->Own C.SR->Prop) (gs:Array Ac) (w:AL) (sl:Option (Nat×Nat)) (t:CB):Prop:=
 ∃n gs' w' sl' t' q' a' k oM,runNT C.P n (crowd gs w sl) t=(.next (crowd gs' w' sl'),t')/\gs'.size=gs.size/\Sit C.P C.Z' gs' w' t' a' q'/\Fin k a' oM/\oM.I w'/\
  (∀b,oM.O b->b<w'.heap.size/\¬C.Z' b)/\(∀b,C.Z' b->b<w'.heap.size)/\C.w0.heap.size<=w'.heap.size/\(∀b,b<C.w0.heap.size->¬C.T0 b->w'.heap[b]? =C.w0.heap[b]?)/\w'.tape=C.w0.tape/\w'.os=C.w0.os/\w'.output=C.w0.output/\(∃oW,C.FW oW/\oW.I w')/\∀b,oM.O b->b<C.w0.heap.size->C.T0 b
section
variable {C:Cx} {Fin:Nat->Ac->Own C.SR->Prop}
theorem Reach.step{gs gs':Array Ac}{w w' wd:AL}{sl sl':Option (Nat×Nat)}{t ops:CB}{i:Nat}(hst:stepT C.P (crowd gs w sl)=runT C.P (crowd gs wd sl') i)(hr:runT C.P (crowd gs wd sl') i=(.next (crowd gs' w' sl'),ops))(hz:gs'.size=gs.size)(h:Reach C Fin gs' w' sl' (t++ops)):Reach C Fin gs w sl t:=by
 obtain⟨n,gs1,w1,sl1,t1,q1,a1,k,oM,h1,h2,h3⟩:=h;exact⟨n+1,gs1,w1,sl1,t1,q1,a1,k,oM,by simp only[runNT,hst,hr];exact h1,h2.trans hz,h3⟩
def Turn (C:Cx) (Fin:Nat->Ac->Own C.SR->Prop) (gs:Array Ac) (w:AL) (sl':Option (Nat×Nat)) (t:CB) (i:Nat):Prop:=
 ∃gs' w' ops,runT C.P (crowd gs w sl') i=(.next (crowd gs' w' sl'),ops)/\gs'.size=gs.size/\Reach C Fin gs' w' sl' (t++ops)
variable {ms:MS} {ws:WS} {k kW:Nat} {a0 b0:Ac} {oM oW:Own C.SR}
theorem di.status{a:Ac}(h:di C ms ws oM a a0):a.status=.running\/a.status=.blocked:=by
 rcases h with ⟨h,_⟩|⟨_,_,z,rfl,_⟩|⟨_,_,h,_⟩;exact .inl h;exact .inr rfl;exact .inr h
theorem BOk.status{b:Ac}(h:BOk C ms ws oW b b0):b.status=.running\/b.status=.blocked:=by
 rcases h with ⟨h,_⟩|⟨_,_,xv,z1,z2,rfl,_⟩;exact .inl h;exact .inr rfl
theorem di.sm{a:Ac}(h:di C ms ws oM a a0)(hr:a.status=.running):Sm a a0:=by
 rcases h with ⟨_,h⟩|⟨_,_,z,rfl,_⟩|⟨_,_,h,_⟩;exact h;(cases hr);rw[h] at hr;cases hr
theorem BOk.sm{b:Ac}(h:BOk C ms ws oW b b0)(hr:b.status=.running):Sm b b0:=by
 rcases h with ⟨_,h⟩|⟨_,_,xv,z1,z2,rfl,_⟩;exact h;cases hr
def XJ (C:Cx) (Fin:Nat->Ac->Own C.SR->Prop) (ms:MS) (ws:WS) (k kW:Nat) (a0 b0:Ac) (oM oW:Own C.SR) (sz:Nat) (q:Nat->Nat):Prop:=
 ∀{gs:Array Ac} {w:AL} {sl:Option (Nat×Nat)} {t:CB} {a b:Ac} {OW:Nat->Prop} {dW:Nat},gs.size=sz->St C ms ws k kW a0 b0 oM oW gs w t q a b OW dW->a.status=.blocked->Reach C Fin gs w sl t
def ABL (C:Cx) (Fin:Nat->Ac->Own C.SR->Prop) (ms:MS) (ws:WS) (k kW:Nat) (a0 b0:Ac) (oM oW:Own C.SR) (sz:Nat) (q:Nat->Nat):Prop:=
 ∀{gs:Array Ac} {w:AL} {sl:Option (Nat×Nat)} {t:CB} {a b:Ac} {OW:Nat->Prop} {dW:Nat},gs.size=sz->St C ms ws k kW a0 b0 oM oW gs w t q a b OW dW->b.status=.blocked->Reach C Fin gs w sl t
theorem Jt(hq:ws≠ .quit)
  (t0: ∀{gs w sl' t q a b OW dW},St C ms ws k kW a0 b0 oM oW gs w t q a b OW dW->a.status=.running->(b.status≠ .blocked->XJ C Fin ms ws k kW a0 b0 oM oW gs.size q)->Turn C Fin gs w sl' t 0)
  (tJ: ∀{gs w sl' t q a b OW dW},St C ms ws k kW a0 b0 oM oW gs w t q a b OW dW->b.status=.running->(a.status=.running->ABL C Fin ms ws k kW a0 b0 oM oW gs.size q)->Turn C Fin gs w sl' t C.j):
  ∀{gs w sl t q a b OW dW},St C ms ws k kW a0 b0 oM oW gs w t q a b OW dW->Reach C Fin gs w sl t:=by
 have key: ∀(M:Nat) {gs w sl t q a b OW dW},Dz gs.size q=M->St C ms ws k kW a0 b0 oM oW gs w t q a b OW dW->Reach C Fin gs w sl t:=by
  intro M
  induction M using dJ with
  |_ M ih=>
   have RA: ∀{gs w sl t q a b OW dW},Dz gs.size q=M->St C ms ws k kW a0 b0 oM oW gs w t q a b OW dW->a.status=.blocked->Reach C Fin gs w sl t:=by
    intro gs w sl t q a b OW dW hM h ha;obtain⟨i,g,d,sl',hi,hg,hst⟩:=aX h.cf h.MP.status ((h.S9 hq).status.imp id .inl) h.nb sl;rcases O1 i with rfl|hpos
    ·(have e:g=a:=by have:=h.cf.at0;rw[this] at hi;exact (EF hi).symm);rw[e,ha] at hg;cases hg
    by_cases hij:i=C.j
    ·subst hij;(have e:g=b:=by have:=h.cf.Uh;rw[this] at hi;exact (EF hi).symm);subst e;obtain⟨gs',w',ops,h1,h2,h3⟩:=tJ (sl':=sl') (h.at d) hg (λe=>by rw[ha] at e;cases e);exact .step hst h1 h2 h3
    obtain⟨gs',t',a',b',q',h1,h2,h3,h4,_⟩:=VK (d:=d) (sl':=sl') h hpos hij hi hg;exact .step hst h1 h2 (ih _ (by rw[<- hM];exact h4) rfl h3)
   have RB: ∀{gs w sl t q a b OW dW},Dz gs.size q=M->St C ms ws k kW a0 b0 oM oW gs w t q a b OW dW->b.status=.blocked->Reach C Fin gs w sl t:=by
    intro gs w sl t q a b OW dW hM h hb;obtain⟨i,g,d,sl',hi,hg,hst⟩:=aX h.cf h.MP.status ((h.S9 hq).status.imp id .inl) h.nb sl;rcases O1 i with rfl|hpos
    ·(have e:g=a:=by have:=h.cf.at0;rw[this] at hi;exact (EF hi).symm);subst e;obtain⟨gs',w',ops,h1,h2,h3⟩:=t0 (sl':=sl') (h.at d) hg (λe=>Ai hb e);exact .step hst h1 h2 h3
    by_cases hij:i=C.j
    ·subst hij;(have e:g=b:=by have:=h.cf.Uh;rw[this] at hi;exact (EF hi).symm);rw[e,hb] at hg;cases hg
    obtain⟨gs',t',a',b',q',h1,h2,h3,h4,_⟩:=VK (d:=d) (sl':=sl') h hpos hij hi hg;exact .step hst h1 h2 (ih _ (by rw[<- hM];exact h4) rfl h3)
   intro gs w sl t q a b OW dW hM h;obtain⟨i,g,d,sl',hi,hg,hst⟩:=aX h.cf h.MP.status ((h.S9 hq).status.imp id .inl) h.nb sl;rcases O1 i with rfl|hpos
   ·(have e:g=a:=by have:=h.cf.at0;rw[this] at hi;exact (EF hi).symm);subst e;obtain⟨gs',w',ops,h1,h2,h3⟩:=t0 (sl':=sl') (h.at d) hg (λ_=>λhz hS hbl=>RA (by rw[hz];exact hM) hS hbl);exact .step hst h1 h2 h3
   by_cases hij:i=C.j
   ·subst hij;(have e:g=b:=by have:=h.cf.Uh;rw[this] at hi;exact (EF hi).symm);subst e;obtain⟨gs',w',ops,h1,h2,h3⟩:=tJ (sl':=sl') (h.at d) hg (λ_=>λhz hS hbl=>RB (by rw[hz];exact hM) hS hbl);exact .step hst h1 h2 h3
   obtain⟨gs',t',a',b',q',h1,h2,h3,h4,_⟩:=VK (d:=d) (sl':=sl') h hpos hij hi hg;exact .step hst h1 h2 (ih _ (by rw[<- hM];exact h4) rfl h3)
 intro gs w sl t q a b OW dW h;exact key _ rfl h
theorem Um{a:Ac}(h:di C ms .quit oM a a0):a.status=.running:=by
 rcases h with ⟨e,_⟩|⟨_,e,_⟩|⟨_,e,_⟩;exact e;(cases e);exact Ai rfl e
theorem Rx(t0: ∀{gs w sl' t q a b OW dW},St C ms .quit k kW a0 b0 oM oW gs w t q a b OW dW->a.status=.running->(b.status≠ .blocked->XJ C Fin ms .quit k kW a0 b0 oM oW gs.size q)->Turn C Fin gs w sl' t 0):
  ∀{gs w sl t q a b OW dW},St C ms .quit k kW a0 b0 oM oW gs w t q a b OW dW->Reach C Fin gs w sl t:=by
 have key: ∀(M:Nat) {gs w sl t q a b OW dW n},Dz gs.size q+n=M->QuitsD C.P n dW b->St C ms .quit k kW a0 b0 oM oW gs w t q a b OW dW->Reach C Fin gs w sl t:=by
  intro M
  induction M using dJ with
  |_ M ih=>
   intro gs w sl t q a b OW dW n hM hn h;have har:=Um h.MP;obtain⟨i,g,d,sl',hi,hg,hst⟩:=aX h.cf h.MP.status (hn.status.imp id .inr) (.inl har) sl;rcases O1 i with rfl|hpos
   ·(have e:g=a:=by have:=h.cf.at0;rw[this] at hi;exact (EF hi).symm);subst e;obtain⟨gs',w',ops,h1,h2,h3⟩:=t0 (sl':=sl') (h.at d) hg (λ_=>λ_ hS hbl=>by rw[Um hS.MP] at hbl;cases hbl);exact .step hst h1 h2 h3
   by_cases hij:i=C.j
   ·subst hij;(have e:g=b:=by have:=h.cf.Uh;rw[this] at hi;exact (EF hi).symm);subst e
    cases n with
    |zero=>rw[hn.1] at hg;cases hg|succ n=>
     rcases hn with ⟨hf,_⟩|⟨_,g',es,hm,hstp,hq'⟩;rw[hf] at hg;cases hg;have hd:=h.at d
     obtain⟨h1,h2,h3⟩:=uV (sl':=sl') (Rt:=OW) hd.cf (hstp (w.at d)) (Ba _) (λ_ _ _ _=>rfl) ⟨rfl,rfl,rfl⟩ (λx=>⟨.inl,λy=>y.elim id λz=>by omega⟩)
      (λe he=>⟨λx hx _=>(by rw[touch_mute (hm e he)] at hx;cases hx),λhl=>by
       have:=hm e he;obtain⟨l,x,s⟩:=e;simp only at hl;subst hl
       simp[Event.mute] at this,low_mute (hm e he) _⟩)
     have hw:woken C.P g g' (w.at d) a=a:=Lm har;rw[hw] at h3;refine .step hst h1 h2 (ih (Dz gs.size q+n) Ad (by rw[h2]) hq' ⟨h3,h.ne,h.MP,λe=>Ai rfl e,λ_=>⟨n,hq'⟩,.inl har,hd.iw,h.ow,h.c1,h.c2,h.wg,λe=>Ai rfl e,h.kk,Kz h.rel λop hop=>by obtain⟨e,he,rfl⟩:=KP hop;exact .inr (touch_mute (hm e he))⟩)
   obtain⟨gs',t',a',b',q',h1,h2,h3,h4,h5,_⟩:=VK (d:=d) (sl':=sl') h hpos hij hi hg;exact .step hst h1 h2 (ih (Dz gs'.size q'+n) Ad rfl (by rw[h5 n hn];exact hn) h3)
 intro gs w sl t q a b OW dW h;obtain⟨n,hn⟩:=h.qu rfl;exact key _ rfl hn h
end
end Go.Proofs.YtkkgcebhfghdnaaGreatDoor
