/- Part 6 of what that rests on; no condition. -/
import Derived.Test.YtkkgcebhfghdnaaGreatDoorJe
import Derived.Conc.CrowdComm
import Derived.Conc.FxTrace
import Derived.Conc.MarkLaws
set_option maxRecDepth 100000
set_option maxHeartbeats 8000000
open Go.Goroutine.mk renaming injEq→Gf
open List renaming cons_append→Dj
open Go.GStep.go renaming injEq→RQ
open Go.MemAct renaming ofEvent→Cb, touch?→DK
open Go.MemOp renaming ofEvents→DX
open Go.Conc renaming ofEvent_cell0→NH, runT_crowd_go→YZ, Deaf_other→Ll, touchAt→Il
open Go.World renaming setChan→Yb
open Go.Frame renaming enter→BV
open Go renaming Goroutine→Ac, Question→Fj, Program→BL, Value→AP, World→AL, Event→Bc, Frame→AX, stepG→Ae, Trace→CB, runNT→D8
open Go.Sem renaming bind→JY, run→Dq
open Go.ConcN renaming sumTo→Dz
open Option renaming none→AB, some→AA
namespace Go.Proofs.YtkkgcebhfghdnaaGreatDoor
open Go Go.Conc
structure Rn.Id (ρ:Rn):Prop where
 r: ∀a b,ρ.r a b->a=b
 c: ∀a x,ρ.c a x->x=.chan (AA a)\/x=lg a\/x=.slice (AA ⟨a,0,AB⟩) 0 0
 q: ∀s n a b,¬ρ.q s n a b
section
variable {F:Fs} {ρ:Rn}
theorem RelA.eq(h:ρ.Id){a a':Addr}(k:RelA ρ a a'):a'=a:=by
 obtain⟨b,o,s⟩:=a;obtain⟨b',o',s'⟩:=a';obtain⟨h1,h2,h3⟩:=k;simp only at h1 h2 h3;rw[h.r _ _ h1,h2,h3]
theorem YA{α:Type}{p p':Array α}(h1:p.size=p'.size)(h2: ∀(i:Nat) (v v':α),p[i]? =AA v->p'[i]? =AA v'->v'=v):p'=p:=by
 apply Y4;intro i;by_cases hi:i<p.size
 ·rw[FD hi,FD (h1▸hi)];exact congrArg AA (h2 i _ _ (FD hi) (FD (h1▸hi)))
 rw[Wi Ad,Wi Ad]
theorem Az.eq(h:ρ.Id){v v':AP}(k:Az F ρ v v'):v'=v:=by
 induction k with
 |flat _=>rfl|ptr ha=>rw[ha.eq h]|slice ha=>rw[ha.eq h]|map hb=>rw[h.r _ _ hb]|chan hb=>rw[h.r _ _ hb]|tok hc ht=>
  rcases h.c _ _ hc with e|e|e;exact e;rw[e] at ht;cases ht;rw[e] at ht;cases ht
 |mf hc hm=>
  rcases h.c _ _ hc with e|e|e;rw[e] at hm;cases hm;exact e;rw[e] at hm;cases hm
 |emp hc=>
  rcases h.c _ _ hc with e|e|e;(cases e);(cases e);exact e
 |func _ _ h1 _ h2 _ i1 i2=>rw[YA h1 i1,YA h2 i2]|yield hl=>rw[h.r _ _ hl]|seq hq=>exact Ai hq (h.q _ _ _ _)|iface _ i=>rw[i]|agg h1 _ i=>rw[YA h1 i]|tuple h1 _ i=>rw[YA h1 i]
theorem Au.eq(h:ρ.Id){p p':Array AP}(k:Au F ρ p p'):p'=p:=YA k.1 λi v v' h1 h2=>(k.2 i v v' h1 h2).eq h
theorem XF{α:Type}{R:α->α->Prop}(h: ∀a b,R a b->b=a){l l':List α}(k:Cc R l l'):l'=l:=by
 induction k with|nil=>rfl|cons x _ ih=>rw[h _ _ x,ih]
theorem I7.eq(h:ρ.Id){d d':Deferred}(k:I7 F ρ d d'):d'=d:=by
 cases k with
 |dead hc hm hp=>
  rw[hp.eq h];rcases h.c _ _ hc with e|e|e;rw[e] at hm;cases hm;rw[e];rw[e] at hm;cases hm
 |mk h1 h2=>
 obtain⟨t,p⟩:=d;obtain⟨t',p'⟩:=d';simp only at h1 h2;rw[h2.eq h]
 cases h1 with|fn _ _ hq=>rw[hq.eq h]|nil=>rfl|yield _ hl=>rw[h.r _ _ hl]|seq _ hq=>exact Ai hq (h.q _ _ _ _)|collected hb=>rw[h.r _ _ hb]
theorem Gs.eq(h:ρ.Id){o o':Obj}(k:Gs F ρ o o'):o'=o:=by
 cases k with
 |cells hp=>rw[hp.eq h]|map hs he=>
  refine congrArg (λx=>Obj.map x _) (YA hs λi e e' h1 h2=>?_);have:=he i e e' h1 h2;obtain⟨k,v,b⟩:=e;obtain⟨k',v',b'⟩:=e';obtain⟨e1,e2,e3⟩:=this;simp only at e1 e2 e3;rw[e1.eq h,e2.eq h,e3]
 |mapIter hb=>rw[h.r _ _ hb]|LQ=>rfl|stringIter=>rfl| @loop l l' hl=>
  obtain⟨a1,a2,a3,a4,a5,a6,a7,a8⟩:=l;obtain⟨b1,b2,b3,b4,b5,b6,b7,b8⟩:=l';obtain⟨e1,e2,e3,e4,e5,_,e6,e7,_,_,_,_,e8⟩:=hl;simp only at e1 e2 e3 e4 e5 e6 e7 e8;subst e1 e2 e3 e5 e6 e7;rw[e4.eq h,h.r _ _ e8]
 |deferred=>rfl|Kt=>rfl|number ha=>rw[ha.eq h]|chan=>rfl
theorem DF.eq{K:Kit}{T:Twin}(h:ρ.Id){f f':AX}(k:DF K T ρ f f'):f'=f:=by
 obtain⟨a1,a2,a3,a4,a5,a6,a7⟩:=f;obtain⟨b1,b2,b3,b4,b5,b6,b7⟩:=f';obtain⟨e1,_,e2,e3,e4,e5,e6,e7⟩:=k;simp only at e1 e2 e3 e4 e5 e6 e7;have h3:b3=a3:=XF (λi i' x=>by cases x<;>first|rfl|(rename_i hr;rw[h.r _ _ hr])) e3
 have h5:b5=a5:=by
  cases e5 with
  |run=>rfl|returning=>rfl|panicking hc=>
   refine congrArg FrameMode.panicking (XF (λi i' x=>?_) hc);obtain⟨v,r,g⟩:=i;obtain⟨v',r',g'⟩:=i';obtain⟨q1,q2,⟨q3,q4⟩,_⟩:=x;simp only at q1 q2 q3 q4;rw[q1.eq h,q2,q3,q4]
 have h7:b7=a7:=by
  (cases a7<;>cases b7<;>first|exact e7.elim|rfl|skip);exact congrArg AA (h.r _ _ e7).symm
 rw[e1,e2.eq h,h3,XF (λ_ _ x=>I7.eq h x) e4,h5,e6.1,h7]
end
def _root_.Go.World.DL (w:AL) (t:Nat->Fj->Nat):AL:={w with tape:=t}
theorem Stp.id{F:Fs}{N:Nat}{ρ ρ1:Rn}{v v1 w1:AL}{t:Nat->Fj->Nat}{u:Array Bc}(h:Stp F N ρ ρ1 v (v.DL t) v1 w1 u)(hi:ρ.Id):ρ1.Id/\w1=v1.DL t:=by
 have hi1:ρ1.Id:=⟨λa b hab=>by
  rcases (h.new a b).1 hab with x|⟨x1,x2,x3⟩;exact hi.r _ _ x;have:(v.DL t).heap.size=v.heap.size:=rfl
  omega,λa x hx=>hi.c a x (by rw[<- h.tok.1];exact hx),λs n a b hx=>hi.q s n a b (by rw[<- h.tok.2];exact hx)⟩
 refine⟨hi1,?_⟩;have hsz:w1.heap.size=v1.heap.size:=by have:=h.sw;have e:(v.DL t).heap.size=v.heap.size:=rfl;omega
 have hheap:w1.heap=v1.heap:=by
  apply Y4;intro a;by_cases hr: ∃b,ρ1.r a b
  ·obtain⟨b,hb⟩:=hr;obtain rfl:=hi1.r _ _ hb;obtain⟨o,o',h1,h2,h3⟩:=h.rel.obj _ _ hb;rw[h1,h2,h3.eq hi1]
  by_cases ha:a<v.heap.size
  ·rw[h.ZA a ha (λb hb=>hr ⟨b,h.le.r _ _ hb⟩)];exact h.Rl a ha (λb hb=>hr ⟨a,by have e:=hi.r _ _ hb;subst e;exact h.le.r _ _ hb⟩)
  by_cases ha1:a<v1.heap.size;exact Ai ⟨a,(h.new a a).2 (.inr ⟨Ad,ha1,by show a+v.heap.size=a+v.heap.size;rfl⟩)⟩ hr;rw[Wi Ad,Wi Ad]
 obtain⟨a1,a2,a3,a4,a5⟩:=w1;obtain⟨t1,t2,t3⟩:=h.tv;obtain⟨t4,t5,t6⟩:=h.tw;have hd:=h.drawn.2;simp only at hheap t4 t5 t6;have e1:(v.DL t).drawn=v.drawn:=rfl;have e3:(v.DL t).os=v.os:=rfl;have e4:(v.DL t).output=v.output:=rfl;have e2:(v.DL t).tape=t:=rfl;rw[e1] at hd;simp only at hd;(have hd':a3=v1.drawn:=by omega);rw[hheap,t4,t5,t6,hd',e2,e3,e4,<- t2,<- t3];rfl
def Rn.left (ρ:Rn):Rn:={r:=λa b=>a=b/\∃c,ρ.r a c,c:=λa x=>∃y,ρ.c a y/\((lZ y=true/\x=.chan (AA a))\/(X7 y=true/\x=lg a)\/(ADK y=true/\x=.slice (AA ⟨a,0,AB⟩) 0 0)),q:=λ_ _ _ _=>False}
theorem Rn.left_id(ρ:Rn):ρ.left.Id:=⟨λ_ _ h=>h.1,λ_ _ h=>by obtain⟨_,_,h⟩:=h;exact h.imp And.right (Or.imp And.right And.right),λ_ _ _ _ h=>h⟩
section
variable {F F':Fs} {ρ:Rn} (hF:F.le0 F') (hz:F' F.z/\F'.v F.z/\∀n,F'.a F.z n)
include hF hz
theorem Az.left{v v':AP}(k:Az F ρ v v'):Az F' ρ.left v v:=by
 induction k with
 |flat hf=>exact .flat hf|ptr ha=>exact .ptr ⟨⟨rfl,_,ha.1⟩,rfl,rfl⟩|slice ha=>exact .slice ⟨⟨rfl,_,ha.1⟩,rfl,rfl⟩|emp hc=>exact .emp ⟨_,hc,.inr (.inr ⟨rfl,rfl⟩)⟩|map hb=>exact .map ⟨rfl,_,hb⟩|chan hb=>exact .chan ⟨rfl,_,hb⟩|tok hc ht=>exact .tok ⟨_,hc,.inl ⟨ht,rfl⟩⟩ rfl (.inr rfl)|mf hx hm=>exact .mf ⟨_,hx,.inr (.inl ⟨hm,rfl⟩)⟩ rfl|func hf hv h1 h1' h2 h2' i1 i2=>
  refine .func (hF.f _ hf) (hF.v _ hv) rfl (λi v v' a b=>?_) rfl (λi v v' a b=>?_)
  ·rw[a] at b;cases b;have hlt:=(Df.1 a).1;exact i1 i v _ a (FD (h1▸hlt))
  rw[a] at b;cases b;have hlt:=(Df.1 a).1;exact i2 i v _ a (FD (h2▸hlt))
 |yield hl=>exact .yield ⟨rfl,_,hl⟩|seq _=>exact .func hz.1 hz.2.1 rfl (λi v v' a b=>by simp at a) rfl (Au.VA (F:=F') (ρ:=ρ.left) (by intro x hx;simp at hx;rcases hx with rfl|rfl<;>rfl)).2
 |iface _ i=>exact .iface i|agg h1 h1' i1=>
  refine .agg rfl λi v v' a b=>?_;rw[a] at b;cases b;have hlt:=(Df.1 a).1;exact i1 i v _ a (FD (h1▸hlt))
 |tuple h1 h1' i1=>
  refine .tuple rfl λi v v' a b=>?_;rw[a] at b;cases b;have hlt:=(Df.1 a).1;exact i1 i v _ a (FD (h1▸hlt))
theorem Au.left{p p':Array AP}(k:Au F ρ p p'):Au F' ρ.left p p:=⟨rfl,λi v v' a b=>by
 rw[a] at b;cases b;have hlt:=(Df.1 a).1
 exact (k.2 i v _ a (FD (k.1▸hlt))).left hF hz⟩
theorem Gs.left{o o':Obj}(k:Gs F ρ o o'):Gs F' ρ.left o o:=by
 cases k with
 |cells hp=>exact .cells (hp.left hF hz)|map hs he=>
  refine .map rfl λi e e' a b=>?_;rw[a] at b;cases b;have hlt:=(Df.1 a).1;have:=he i e _ a (FD (hs▸hlt));exact⟨this.key.left hF hz,this.val.left hF hz,rfl⟩
 |mapIter hb=>exact .mapIter ⟨rfl,_,hb⟩|LQ=>exact .LQ|stringIter=>exact .stringIter|loop hl=>exact .loop ⟨rfl,rfl,rfl,hl.tmps.left hF hz,rfl,hl.few,rfl,rfl,hF.r _ hl.okF,hF.c _ hl.okA,hF.c _ hl.okB,λj hj=>hF.c _ (hl.okJ j hj),⟨rfl,_,hl.defers⟩⟩|deferred=>exact .deferred|Kt=>exact .Kt|number ha=>exact .number ⟨⟨rfl,_,ha.1⟩,rfl,rfl⟩|chan=>exact .chan
theorem DD.left{N:Nat}{v w:AL}(k:DD F N ρ v w):DD F' N ρ.left v v:=
 ⟨⟨λa b b' h h'=>h.1.symm.trans h'.1,λa a' b h h'=>h.1.trans h'.1.symm,λa x y h h'=>by
   obtain⟨y1,h1,h2⟩:=h;obtain⟨y2,h3,h4⟩:=h';obtain rfl:=k.ok.cfn _ _ _ h1 h3
   have hno:lZ y1=true->X7 y1=true->False:=by
    intro t m;cases y1<;>first|(cases m;done)|(rename_i fn p q;cases fn<;>first|(cases t;done)|(cases m;done))
   have hne:lZ y1=true->ADK y1=true->False:=by
    intro t m;(cases y1<;>first|(cases m;done)|skip);rename_i a n k
    cases a with
    |none=>cases m|some a=>
     cases n with
     |zero=>cases k with
      |zero=>cases t|succ k=>cases m
     |succ n=>cases m
   have hnm:X7 y1=true->ADK y1=true->False:=by
    intro t m;cases y1<;>first|(cases m;done)|(cases t;done)
   rcases h2 with ⟨t,rfl⟩|⟨t,rfl⟩|⟨t,rfl⟩<;>rcases h4 with ⟨t',rfl⟩|⟨t',rfl⟩|⟨t',rfl⟩<;>first|rfl|exact (hno t t').elim|exact (hno t' t).elim|exact (hne t t').elim|exact (hne t' t).elim|exact (hnm t t').elim|exact (hnm t' t).elim,λa b x h h'=>by
   obtain⟨_,c,hc⟩:=h;obtain⟨y,hy,_⟩:=h';exact k.ok.apart _ _ _ hc hy,λa b h _=>h.1,λa ha=>⟨rfl,a,k.ok.hd a ha⟩⟩,
  λa b h=>by
   obtain⟨rfl,c,hc⟩:=h;obtain⟨o,o',h1,h2,h3⟩:=k.obj _ _ hc
   exact⟨o,o,h1,h1,h3.left hF hz⟩,
  λa x h=>by obtain⟨y,hy,_⟩:=h;exact k.tok _ _ hy,k.nv,k.nv,rfl,λ_ _ _ _ h=>h.elim⟩
end
section
variable {e:Array Bc}{f:AX}{Kp:AX->List AX->AL->Prop}{cs ts:List AX}{P V:BL}{v:AL}
def door (V:BL):AX:={fn:=V.funcs.size,tmps:=#[undef],todo:=[.code (.refuse "")],defers:=[{target:=.fn (.method "") #[],args:=#[]}],mode:=.run,kind:=.normal}
theorem ADj(V:BL){c:AX}(h:Gone (door V) c)(v:AL): ∃o u,step V (lone c [] v)=.ended o u:=by
 have key:c=door V\/∃ch,c=(door V).raise ch:=by
  rcases h.run rfl with rfl|⟨x,rfl⟩|⟨ch,rfl⟩;exact .inl rfl;exact .inl rfl;exact .inr ⟨ch,rfl⟩
 rcases key with rfl|⟨ch,rfl⟩
 ·exact⟨_,_,step_lone_ended (w':=v) rfl⟩
 refine⟨_,_,step_lone_ended (o:=.stuck "call: a method without a receiver" (Frame.pos V {door V with mode:=.panicking ch,defers:=[]})) (w':=v) ?_⟩;have e2:(door V).raise ch={door V with mode:=.panicking ch}:=rfl;rw[e2]
 have:Ae V true {frame:={door V with mode:=.panicking ch},callers:=[],status:=.running,dying:=AB} v=
   callDeferred V {door V with mode:=.panicking ch,defers:=[]} [] AB {target:=.fn (.method "") #[],args:=#[]} v:=rfl
 rw[this];rfl
inductive Ev (V:BL) (Kp:AX->List AX->AL->Prop):AX->List AX->AL->Prop
 |stop {f:AX} {ts:List AX} {v:AL}:Kp f ts v->Ev V Kp f ts v
 |step {f:AX} {ts:List AX} {v:AL} (F:(Nat->Fj->Nat)->AX) (S:(Nat->Fj->Nat)->List AX) (W:(Nat->Fj->Nat)->AL):
   (∀t:Nat->Fj->Nat,(∀j,j<v.drawn->t j=v.tape j)->∃es,Ae V true (G f (ts++[door V])) (v.DL t)=.go (G (F t) (S t++[door V])) (W t) es)->
   (∀t:Nat->Fj->Nat,(∀j,j<v.drawn->t j=v.tape j)->Ev V Kp (F t) (S t) (W t))->Ev V Kp f ts v
theorem Ev.step' (h: ∀t:Nat->Fj->Nat,(∀j,j<v.drawn->t j=v.tape j)->∃f1 Di v1 es,
   Ae V true (G f (ts++[door V])) (v.DL t)=.go (G f1 (Di++[door V])) v1 es/\Ev V Kp f1 Di v1):Ev V Kp f ts v:=by
 have h': ∀t:Nat->Fj->Nat,∃q:AX×List AX×AL,(∀j,j<v.drawn->t j=v.tape j)->(∃es,Ae V true (G f (ts++[door V])) (v.DL t)=.go (G q.1 (q.2.1++[door V])) q.2.2 es)/\Ev V Kp q.1 q.2.1 q.2.2:=by
  intro t;by_cases ht: ∀j,j<v.drawn->t j=v.tape j
  ·obtain⟨f1,Di,v1,es,h1,h2⟩:=h t ht;exact⟨(f1,Di,v1),λ_=>⟨⟨es,h1⟩,h2⟩⟩
  exact⟨(f,ts,v),λx=>Ai x ht⟩
 obtain⟨q,hq⟩:=dP h';exact .step (λt=>(q t).1) (λt=>(q t).2.1) (λt=>(q t).2.2) (λt ht=>(hq t ht).1) (λt ht=>(hq t ht).2)
structure VS where
 f:AX
 ts:List AX
 v:AL
def Nx (V:BL) (Kp:AX->List AX->AL->Prop) (s' s:VS):Prop:=
 ¬Kp s.f s.ts s.v/\∃t:Nat->Fj->Nat,(∀j,j<s.v.drawn->t j=s.v.tape j)/\∃es,Ae V true (G s.f (s.ts++[door V])) (s.v.DL t)=.go (G s'.f (s'.ts++[door V])) s'.v es
inductive Jq (V:BL) (Kp:AX->List AX->AL->Prop):VS->VS->Prop
 |one {s' s:VS}:Nx V Kp s' s->Jq V Kp s' s|cons {s' s'' s:VS}:Nx V Kp s'' s->Jq V Kp s' s''->Jq V Kp s' s
theorem Jq.trans{s1 s2 s3:VS}(h:Jq V Kp s1 s2)(k:Jq V Kp s2 s3):Jq V Kp s1 s3:=by
 induction k with|one x=>exact .cons x h|cons x _ ih=>exact .cons x ih
theorem Ev.next{s s':VS}(h:Ev V Kp s.f s.ts s.v)(hn:Nx V Kp s' s):Ev V Kp s'.f s'.ts s'.v:=by
 obtain⟨f,ts,v⟩:=s;obtain⟨f',ts',v'⟩:=s';obtain⟨hk,t,ht,es,hs⟩:=hn
 cases h with
 |stop h=>exact Ai h hk|step F S W h1 h2=>
  obtain⟨e2,h3⟩:=h1 t ht;have h4:=hs.symm.trans h3;simp only[RQ,G,Gf] at h4;obtain⟨⟨r1,r2,_⟩,r3,_⟩:=h4;have r2:=NL r2;subst r1 r2 r3;exact h2 t ht
theorem Ev.O6{s s':VS}(h:Ev V Kp s.f s.ts s.v)(hn:Jq V Kp s' s):Ev V Kp s'.f s'.ts s'.v:=by
 induction hn with|one x=>exact h.next x|cons x _ ih=>exact ih (h.next x)
theorem Ev.acc(h:Ev V Kp f ts v):Acc (Nx V Kp) ⟨f,ts,v⟩:=by
 induction h with
 |stop hk=>exact .intro _ λs' hn=>Ai hk hn.1
 | @step f ts v F S W h1 h2 ih=>
  refine .intro _ λs' hn=>?_;obtain⟨f',ts',v'⟩:=s';obtain⟨hk,t,ht,es,hs⟩:=hn;obtain⟨e2,h3⟩:=h1 t ht;have h4:=hs.symm.trans h3;simp only[RQ,G,Gf] at h4;obtain⟨⟨r1,r2,_⟩,r3,_⟩:=h4;have r2:=NL r2;subst r1 r2 r3;exact ih t ht
theorem Jq.acc{s:VS}(h:Acc (Nx V Kp) s):Acc (Jq V Kp) s:=by
 induction h with
 |intro s _ ih=>
  refine .intro _ λs' hn=>?_
  cases hn with|one x=>exact ih _ x|cons x k=>exact (ih _ x).inv k
theorem Ev.strong{M:VS->Prop}(H: ∀s:VS,Ev V Kp s.f s.ts s.v->(∀s',Jq V Kp s' s->M s')->M s){s:VS}(h:Ev V Kp s.f s.ts s.v):M s:=by
 have ha:=Jq.acc h.acc;revert h
 have key: ∀s:VS,Acc (Jq V Kp) s->Ev V Kp s.f s.ts s.v->M s:=by
  intro s ha
  induction ha with|intro s _ ih=>exact λh=>H s h λs' hn=>ih s' hn (h.O6 hn)
 exact key s ha
def Qp (K:Kit) (T:Twin) (N:Nat) (f:AX) (ts:List AX) (v:AL):Prop:=
 ∃ρ:Rn,ρ.Id/\DF K T ρ f f/\Cc (IW K T ρ) ts ts/\DD K.F N ρ v v/\∀g,g<K.G->ρ.r g g
theorem XG{K:Kit}{T:Twin}{N:Nat}(hK:Fits K T N)(hV:T.v=T.P)(hX:(∀f,K.X f=false)/\¬T.p)(hw:Qp K T N f ts v)(s:Nat->Fj->Nat):
  (∃o u e,Ae T.P true (G f (ts++[door T.P])) (v.DL s)=.ended o u e)\/
  (∃c v1 e,Ae T.P true (G f (ts++[door T.P])) (v.DL s)=.go (G c []) v1 e/\Gone (door T.P) c)\/
  ∃f1 Di v1 e,Ae T.P true (G f (ts++[door T.P])) (v.DL s)=.go (G f1 (Di++[door T.P])) v1 e/\Qp K T N f1 Di v1/\v.drawn<=v1.drawn/\v1.tape=s/\
   ∀t:Nat->Fj->Nat,(∀j,v.drawn<=j->j<v1.drawn->t j=s j)->∃e',Ae T.P true (G f (ts++[door T.P])) (v.DL t)=.go (G f1 (Di++[door T.P])) (v1.DL t) e':=by
 obtain⟨ρ,hi,hf,hts,hW,hG⟩:=hw;have hWt: ∀t:Nat->Fj->Nat,DD K.F N ρ (v.DL s) (v.DL t):=λt=>⟨hW.ok,hW.obj,hW.tok,hW.nv,hW.nw,hW.os,λ_ _ _ _ h=>Ai h (hi.q _ _ _ _)⟩;have h0:=Ug (mn:=true) (dr:=door T.P) (ds:=[]) (cs':=[door T.P]) hK (hWt s) hG hf hts (λ_ _ _ _ i _ q=>rfl);rw[hV] at h0
 cases hst:Ae T.P true (G f (ts++[door T.P])) (v.DL s) with
 |ended o u e=>exact .inl ⟨_,_,_,rfl⟩|go g1 v1 e=>
  rw[hst] at h0;rcases h0 with ⟨f1,Di,f1',Gy,ρ1,w1,es',h1,h2,h3,h4,h5⟩|⟨X,p,p',k,f1,Di,f1',Gy,ρ1,w1,es',_,hX',_⟩|⟨c,h1,h2,_⟩|⟨QZ,_⟩|⟨p,k,f1,Di,⟨_,_,_,_,hq⟩,_⟩
  ·refine .inr (.inr ⟨f1,Di,v1,e,by rw[h1],?_,h5.drawn.1,h5.tv.1,λt ht=>?_⟩)
   ·have hid:=(Stp.id (t:=s) (v:=v.DL s) h5 hi);have e1:f1'=f1:=h3.eq hid.1;have e2:Gy=Di:=XF (λ_ _ x=>DF.eq hid.1 x.fr) h4
    have e3:w1=v1:=by
     rw[hid.2];have:v1.tape=s:=h5.tv.1;rw[<- this];rfl
    subst e1 e2 e3;exact⟨ρ1,hid.1,h3,h4,h5.rel,λg hg=>h5.le.r _ _ (hG g hg)⟩
   have hs:=Ug (mn:=true) (dr:=door T.P) (ds:=[]) (cs':=[door T.P]) hK (hWt t) hG hf hts (λg2 v2 e2 h i hi q=>by
    rw[hV,hst] at h;(cases h);have hd:(v.DL s).drawn=v.drawn:=rfl;rw[hd] at hi;show s (v.drawn+i) q=t (v.drawn+i) q
    rw[ht _ Ad Ad])
   rw[hV,hst] at hs;rcases hs with ⟨g1f,tsg,AUL,AUC,ρ2,w2,es2,q1,q2,q3,q4,q5⟩|⟨X,p,p',k,f1,Di,f1',Gy,ρ1,w1,es',_,hX',_⟩|⟨c,q1,_⟩|⟨QZ,_⟩|⟨p,k,f1,Di,⟨_,_,_,_,hq⟩,_⟩
   ·rw[h1] at q1;simp only[G,Gf] at q1;obtain⟨r1,r2,_⟩:=q1;have r2:=NL r2;subst r1 r2;have hid:=Stp.id (t:=t) (v:=v.DL s) q5 hi;rw[q3.eq hid.1,XF (λ_ _ x=>DF.eq hid.1 x.fr) q4,hid.2] at q2;exact⟨_,q2⟩
   ·have hX':=hX'.1;rw[hX.1] at hX';cases hX'
   ·rw[h1] at q1;simp[G] at q1
   exact Ai QZ hX.2;exact Ai hq (hi.q _ _ _ _)
  ·have hX':=hX'.1;rw[hX.1] at hX';cases hX'
  exact .inr (.inl ⟨c,v1,e,by rw[h1],h2⟩);exact Ai QZ hX.2;exact Ai hq (hi.q _ _ _ _)
 |_=>rw[hst] at h0;exact h0.elim
structure Stg (K:Kit) (T:Twin) (N:Nat) (Kp:AX->List AX->AL->Prop) (f0:AX) (XH:List AX) (v0:AL) where
 i:Nat
 f:AX
 ts:List AX
 v:AL
 ne: ¬Ev T.P Kp f ts v
 well:Qp K T N f ts v
 past:v0.drawn<=v.drawn/\∀j,j<v0.drawn->v.tape j=v0.tape j
 run: ∀t:Nat->Fj->Nat,(∀j,j<v.drawn->t j=v.tape j)->runN T.P i (lone f0 (XH++[door T.P]) (v0.DL t))=.next (lone f (ts++[door T.P]) (v.DL t))
 nok: ∀t:Nat->Fj->Nat,(∀j,j<v.drawn->t j=v.tape j)->∀n,n<=i->∀f' ts' v',runN T.P n (lone f0 (XH++[door T.P]) (v0.DL t))=.next (lone f' (ts'++[door T.P]) v')->¬Kp f' ts' v'
theorem dZ{f':AX}{cs':List AX}{v':AL}(h:lone f cs v=lone f' cs' v'):f=f'/\cs=cs'/\v=v':=by
 simp only[lone,Machine.mk.injEq,ADI,IV,Gf] at h;exact⟨h.2.1.1.1,h.2.1.1.2.1,h.1⟩
theorem ZJ{f1:AX}{cs1:List AX}{v1:AL}(h:Ae P true (G f cs) v=.go (G f1 cs1) v1 e):step P (lone f cs v)=.next (lone f1 cs1 v1):=
 step_lone_go (by
  have:Ae P true {frame:=f,callers:=cs,status:=.running,dying:=AB} v=.go (G f1 cs1) v1 e:=h
  rw[this];rfl)
theorem AGf{u:AL}{o:Outcome}(h:Ae P true (G f cs) v=.ended o u e):step P (lone f cs v)=.ended o u:=
 step_lone_ended (by
  have:Ae P true {frame:=f,callers:=cs,status:=.running,dying:=AB} v=.ended o u e:=h
  rw[this];rfl)
theorem runN_succ_next{m m1 m2:Machine}{n:Nat}(h:step P m=.next m1)(h2:runN P (n+1) m=.next m2):runN P n m1=.next m2:=by
 simp only[runN,h] at h2;exact h2
section
variable {K:Kit} {T:Twin} {N:Nat} {Kp:AX->List AX->AL->Prop} {f0:AX} {XH:List AX} {v0:AL}
theorem AGg(hK:Fits K T N)(hV:T.v=T.P)(hX:(∀f,K.X f=false)/\¬T.p)(Bv: ∀f ts v t,Kp f ts (v.DL t)->Kp f ts v)
  (H: ∀t:Nat->Fj->Nat,(∀j,j<v0.drawn->t j=v0.tape j)->∃n f' ts' v',runN T.P n (lone f0 (XH++[door T.P]) (v0.DL t))=.next (lone f' (ts'++[door T.P]) v')/\Kp f' ts' v')
  (s:Stg K T N Kp f0 XH v0): ∃s':Stg K T N Kp f0 XH v0,s'.i=s.i+1/\s.v.drawn<=s'.v.drawn/\∀j,j<s.v.drawn->s'.v.tape j=s.v.tape j:=by
 have hbad: ∃t:Nat->Fj->Nat,(∀j,j<s.v.drawn->t j=s.v.tape j)/\∀f1 Di v1 es,Ae T.P true (G s.f (s.ts++[door T.P])) (s.v.DL t)=.go (G f1 (Di++[door T.P])) v1 es->¬Ev T.P Kp f1 Di v1:=by
  refine lX λhc=>s.ne (Ev.step' λt ht=>?_);refine lX λhd=>hc ⟨t,ht,λf1 Di v1 es h1 h2=>hd ⟨f1,Di,v1,es,h1,h2⟩⟩
 obtain⟨t,ht,hn⟩:=hbad;have ht0: ∀j,j<v0.drawn->t j=v0.tape j:=λj hj=>(ht j (by have:=s.past.1;omega)).trans (s.past.2 j hj);obtain⟨n,f',ts',v',hr,hk⟩:=H t ht0;have hlt:s.i<n:=Nat.lt_of_not_le λh=>s.nok t ht n h f' ts' v' hr hk;obtain⟨d,rfl⟩: ∃d,n=s.i+(d+1):=⟨n - s.i - 1,Ad⟩;rw[runN_add,s.run t ht] at hr;simp only at hr;rcases XG hK hV hX s.well t with ⟨o,u,e,h1⟩|⟨c,v1,e,h1,h2⟩|⟨f1,Di,v1,e,h1,hw1,hd1,htp,hall⟩;simp only[runN,AGf h1] at hr;cases hr
 ·have hr2:=runN_succ_next (ZJ h1) hr
  cases d with
  |zero=>
   simp only[runN,Stepped.next.injEq] at hr2;have:=(dZ hr2).2.1;simp at this
  |succ d=>
   obtain⟨o,u,h3⟩:=ADj T.P h2 v1;simp only[runN,h3] at hr2;cases hr2
 have hne1:=hn f1 Di v1 e h1;refine⟨⟨s.i+1,f1,Di,v1,hne1,hw1,⟨by have:=s.past.1;omega,λj hj=>by rw[htp];exact ht0 j hj⟩,λt2 ht2=>?_,λt2 ht2 m hm f2 ts2 v2 hr2=>?_⟩,rfl,hd1,λj hj=>by rw[htp];exact ht j hj⟩
 ·have hag: ∀j,j<s.v.drawn->t2 j=s.v.tape j:=λj hj=>(ht2 j Ad).trans (by rw[htp];exact ht j hj);(obtain⟨e2,h2⟩:=hall t2 λj _ hj=>by rw[ht2 j hj,htp]);rw[runN_add,s.run t2 hag];simp only[runN,ZJ h2]
 have hag: ∀j,j<s.v.drawn->t2 j=s.v.tape j:=λj hj=>(ht2 j Ad).trans (by rw[htp];exact ht j hj);rcases Wj s.i m with hlt|hge
 ·(obtain rfl:m=s.i+1:=by omega);(obtain⟨e2,h2⟩:=hall t2 λj _ hj=>by rw[ht2 j hj,htp]);rw[runN_add,s.run t2 hag] at hr2;simp only[runN,ZJ h2,Stepped.next.injEq] at hr2;obtain⟨e3,e4,e5⟩:=dZ hr2;have e4:=NL e4;subst e3 e4;intro hkp;rw[<- e5] at hkp;exact hne1 (.stop (Bv _ _ _ _ hkp))
 exact s.nok t2 hag m hge f2 ts2 v2 hr2
theorem bar(hK:Fits K T N)(hV:T.v=T.P)(hX:(∀f,K.X f=false)/\¬T.p)(Bv: ∀f ts v t,Kp f ts (v.DL t)->Kp f ts v)(hw:Qp K T N f0 XH v0)
  (H: ∀t:Nat->Fj->Nat,(∀j,j<v0.drawn->t j=v0.tape j)->∃n f' ts' v',runN T.P n (lone f0 (XH++[door T.P]) (v0.DL t))=.next (lone f' (ts'++[door T.P]) v')/\Kp f' ts' v'):
  Ev T.P Kp f0 XH v0:=by
 refine lX λhne=>?_
 have h0: ∃s0:Stg K T N Kp f0 XH v0,s0.i=0:=⟨⟨0,f0,XH,v0,hne,hw,⟨Ba _,λ_ _=>rfl⟩,λt _=>rfl,λt _ n hn f' ts' v' hr hk=>by
  (obtain rfl:n=0:=by omega);simp only[runN,Stepped.next.injEq] at hr;obtain⟨e3,e4,e5⟩:=dZ hr;have e4:=NL e4;subst e3 e4;rw[<- e5] at hk
  exact hne (.stop (Bv _ _ _ _ hk))⟩,rfl⟩
 obtain⟨s0,hs0⟩:=h0;obtain⟨nx,hnx⟩:=dP (AGg hK hV hX Bv H);let p:Nat->Stg K T N Kp f0 XH v0:=λn=>Nat.rec s0 (λ_ s=>nx s) n;have hp: ∀n,p (n+1)=nx (p n):=λ_=>rfl
 have hi: ∀n,(p n).i=n:=λn=>by
  induction n with|zero=>exact hs0|succ n ih=>rw[hp,(hnx (p n)).1,ih]
 have hmono: ∀n k,(p n).v.drawn<=(p (n+k)).v.drawn/\∀j,j<(p n).v.drawn->(p (n+k)).v.tape j=(p n).v.tape j:=λn k=>by
  induction k with
  |zero=>exact⟨Ba _,λ_ _=>rfl⟩|succ k ih=>
   obtain⟨_,h2,h3⟩:=hnx (p (n+k));exact⟨Ci ih.1 h2,λj hj=>(h3 j (ER hj ih.1)).trans (ih.2 j hj)⟩
 have ARj: ∀n m j,j<(p n).v.drawn->j<(p m).v.drawn->(p n).v.tape j=(p m).v.tape j:=λn m j h1 h2=>by
  rcases ADJ n m with h|h
  ·obtain⟨k,rfl⟩:=AHy h;exact ((hmono n k).2 j h1).symm
  obtain⟨k,rfl⟩:=AHy h;exact (hmono m k).2 j h2
 have hall: ∀j,∃q:Fj->Nat,∀n,j<(p n).v.drawn->q=(p n).v.tape j:=λj=>by
  by_cases h: ∃n,j<(p n).v.drawn
  ·obtain⟨n,hn⟩:=h;exact⟨(p n).v.tape j,λm hm=>ARj n m j hn hm⟩
  exact⟨λ_=>0,λn hn=>Ai ⟨n,hn⟩ h⟩
 obtain⟨τ,hτ⟩:=dP hall
 obtain⟨n,f',ts',v',hr,hk⟩:=H τ λj hj=>by
  have h1:=(p 0).past;rw[hτ j 0 Ad,h1.2 j hj]
 exact (p n).nok τ (λj hj=>hτ j n hj) n (by rw[hi];exact Ba _) f' ts' v' hr hk
end
def ja (l:List AX):Prop:=∃S x D,l=S++x::D/\∃ch,x.mode=.panicking ch/\NP ch
theorem ja.head{ch:List PanicEntry}(h:f.mode=.panicking ch)(hu:NP ch):ja (f::ts):=⟨[],f,ts,rfl,ch,h,hu⟩
theorem ja.under(h:ja ts):ja (f::ts):=by
 obtain⟨S,x,D,e,hx⟩:=h;exact⟨f::S,x,D,by rw[e];rfl,hx⟩
def NQ (V:BL) (Kp:AX->List AX->AL->Prop) (s:VS):Prop:=∀s',Jq V Kp s' s->¬ja (s'.f::s'.ts)
theorem NQ.next{s s':VS}(h:NQ V Kp s)(hn:Nx V Kp s' s):NQ V Kp s':=λ_ hm=>h _ (.cons hn hm)
end
open Go.ConcN (sumTo upd sumTo_upd upd_ne upd_same)
section
variable {es:Array Bc}{gs:Array Ac}{a:Ac}{d:Nat}{q:Nat->Nat}{Z:Nat->Prop}{sl':Option (Nat×Nat)}{P:BL}{t:CB}{v0 w w0:AL}
structure Mv (F:Fs) (N:Nat) (ρ ρ':Rn) (v w v' w':AL):Prop where
 le:ρ.le ρ'
 rel:DD F N ρ' v' w'
 sv:v.heap.size<=v'.heap.size
 sw:v'.heap.size+w.heap.size=v.heap.size+w'.heap.size
 new: ∀a b,ρ'.r a b↔ρ.r a b\/(v.heap.size<=a/\a<v'.heap.size/\a+w.heap.size=b+v.heap.size)
 tok:ρ'.c=ρ.c/\ρ'.q=ρ.q
 ZA: ∀a,a<v.heap.size->(∀b,¬ρ.r a b)->v'.heap[a]? =v.heap[a]?
 Rl: ∀b,b<w.heap.size->(∀a,¬ρ.r a b)->w'.heap[b]? =w.heap[b]?
 tv:v'.os=v.os/\v'.output=v.output
 tw:w'.tape=w.tape/\w'.os=w.os/\w'.output=w.output
section
variable {F:Fs} {N:Nat} {ρ ρ' lu:Rn} {v w v' w' v'' w'':AL} {u:Array Bc}
theorem Mv.refl(h:DD F N ρ v w):Mv F N ρ ρ v w v w:=
 ⟨.refl _,h,Ba _,rfl,λa b=>⟨.inl,λx=>x.elim id λy=>by omega⟩,⟨rfl,rfl⟩,λ_ _ _=>rfl,λ_ _ _=>rfl,⟨rfl,rfl⟩,⟨rfl,rfl,rfl⟩⟩
theorem Stp.mv(h:Stp F N ρ ρ' v w v' w' u):Mv F N ρ ρ' v w v' w':=⟨h.le,h.rel,h.sv,h.sw,h.new,h.tok,h.ZA,h.Rl,h.tv.2,h.tw⟩
theorem Mv.trans(h:Mv F N ρ ρ' v w v' w')(k:Mv F N ρ' lu v' w' v'' w''):Mv F N ρ lu v w v'' w'':=by
 refine⟨h.le.trans k.le,k.rel,Ci h.sv k.sv,?_,λa b=>?_,⟨k.tok.1.trans h.tok.1,k.tok.2.trans h.tok.2⟩,λa ha hn=>?_,λb hb hn=>?_,⟨k.tv.1.trans h.tv.1,k.tv.2.trans h.tv.2⟩,⟨k.tw.1.trans h.tw.1,k.tw.2.1.trans h.tw.2.1,k.tw.2.2.trans h.tw.2.2⟩⟩;have:=h.sw;have:=k.sw;omega
 ·rw[k.new,h.new];have h1:=h.sw;have h2:=h.sv;have h3:=k.sv;constructor
  ·rintro ((x|x)|x);exact .inl x;exact .inr Ad;exact .inr Ad
  rintro (x|x);exact .inl (.inl x);by_cases hlt:a<v'.heap.size;exact .inl (.inr Ad);exact .inr Ad
 ·rw[k.ZA a (ER ha h.sv) λb hb=>?_,h.ZA a ha hn];rw[h.new] at hb;rcases hb with hb|hb;exact hn b hb;omega
 have h1:=h.sw;have h2:=h.sv;rw[k.Rl b Ad λa ha=>?_,h.Rl b hb hn];rw[h.new] at ha;rcases ha with ha|ha;exact hn a ha;omega
theorem Mv.pre(h:Mv F N ρ ρ' v w v' w')(hv:v.heap=v0.heap/\v.os=v0.os/\v.output=v0.output)(hw:w.heap=w0.heap/\w.tape=w0.tape/\w.os=w0.os/\w.output=w0.output):Mv F N ρ ρ' v0 w0 v' w':=by
 obtain⟨h1,h2,h3,h4,h5,h6,h7,h8,h9,h10⟩:=h;rw[hv.1] at h3 h4 h5 h7;rw[hw.1] at h4 h5 h8;rw[hv.2.1,hv.2.2] at h9;rw[hw.2.1,hw.2.2.1,hw.2.2.2] at h10;exact⟨h1,h2,h3,h4,h5,h6,h7,h8,h9,h10⟩
theorem DD.pre(h:DD F N ρ v w)(hv:v.heap=v0.heap/\v.os=v0.os)(hw:w.heap=w0.heap/\w.os=w0.os):DD F N ρ v0 w0:=by
 have h7:=Ud (ρ':=ρ) (w₁:=w0) h.seq (by rw[hw.1];exact Ba _) (λ_ _ _=>by rw[hw.1]) (λ_ _=>.inl) rfl;obtain⟨h1,h2,h3,h4,h5,h6,_⟩:=h;rw[hv.1] at h2 h3 h4;rw[hw.1] at h2 h5;rw[hw.2,hv.2] at h6;exact⟨h1,h2,h3,h4,h5,h6,h7⟩
end
def O7 (Z:Nat->Prop):Loc->Prop
 | .cell a=>Z a.block| .obj b=>Z b|_=>False
theorem AFR{ρ:Rn}{B:Nat}(hZ: ∀a b,ρ.r a b->¬Z b/\b<B){e:Bc}(h:aF ρ e):EvL (O7 Z) B e:=by
 obtain⟨loc,wr,sy⟩:=e
 cases loc with
 |cell a=>
  obtain⟨b,hb⟩:=h;obtain⟨h1,h2⟩:=hZ _ _ hb;refine⟨λx hx hs=>?_,AV,AV,?_⟩
  ·simp only[NH,DK,DN] at hx;subst hx;exact Ai hs h1
  rw[NH];exact h2
 |obj c=>
  obtain⟨⟨b,hb⟩,h3⟩:=h;obtain⟨h1,h2⟩:=hZ _ _ hb;simp only at h3
  have e:Cb ⟨.obj c,wr,sy⟩=.access ⟨.obj c,wr,sy⟩:=by
   cases wr<;>cases sy<;>first|rfl|exact Ai ⟨rfl,rfl⟩ h3
  refine⟨λx hx hs=>?_,AV,AV,?_⟩
  ·rw[e] at hx;simp only[DK,DN] at hx;subst hx;exact Ai hs h1
  rw[e];exact h2
 |mark m=>
  cases m with|extern f=>exact⟨λx hx hs=>(by simp[Cb,DK] at hx),AV,AV,Am⟩|noRoom=>exact⟨λx hx hs=>(by simp[Cb,DK] at hx),AV,AV,Am⟩|_=>exact h.elim
 |output=>
  refine⟨λx hx hs=>?_,AV,AV,Am⟩;simp only[Cb,DK,DN] at hx;subst hx;exact hs.elim
 |goroutines=>exact h.elim
structure Sit (P:BL) (Z:Nat->Prop) (gs:Array Ac) (w:AL) (t:CB) (a:Ac) (q:Nat->Nat):Prop where
 at0:gs[0]? =AA a
 leavers:Leavers P t gs q
 past:Past (O7 Z) w.heap.size t
structure Apart (Z:Nat->Prop) (ρ:Rn) (w:AL):Prop where
 r: ∀a b,ρ.r a b->¬Z b
 z: ∀b,Z b->b<w.heap.size
def AFS (K:Kit) (T:Twin) (Kp:AX->List AX->AL->Prop) (cs':List AX) (s:VS) (ρ1:Rn) (v1:AL) (a1:Ac):Prop:=
 (∃f1 Di f1' Gy,Kp f1 Di v1/\a1=G f1' (Gy++cs')/\DF K T ρ1 f1 f1'/\Cc (IW K T ρ1) Di Gy)\/
 (∃X p p' k f1 Di f1' Gy,K.fb X=true/\(K.X X=true/\KL K.fb X p.size=true/\K.F.dk X p/\(K.fb.ch=AA X\/NC K f1))/\k=.normal/\Jq T.v Kp ⟨BV T.v X p k,f1::Di,v1⟩ s/\a1=G (BV T.P X p' k) (f1'::(Gy++cs'))/\Au K.F ρ1 p p'/\DF K T ρ1 f1 f1'/\Cc (IW K T ρ1) Di Gy)
theorem ofEvents_g{g:Nat}{fn:FuncId}{pos:String}{op:MemOp}(h:op∈DX g fn pos es):op.g=g:=by
 obtain⟨e,_,rfl⟩:=Go.Conc.mem_ofEvents h;rfl
theorem uU{w':AL}{a':Ac}(h:Sit P Z gs (w.at d) t a q)
  (hs:Ae P true a (w.at d)=.go a' w' es) (hw:w.heap.size<=w'.heap.size) (he: ∀e∈es,EvL (O7 Z) w'.heap.size e):
  runT P (crowd gs (w.at d) sl') 0=(.next (crowd ((gs.map (woken P a a' w')).setIfInBounds 0 a') w' sl'),DX 0 a.frame.fn a.frame.place es)/\
  ((gs.map (woken P a a' w')).setIfInBounds 0 a').size=gs.size/\Sit P Z ((gs.map (woken P a a' w')).setIfInBounds 0 a') w' (t++DX 0 a.frame.fn a.frame.place es) a' q:=by
 refine⟨YZ (P:=P) (sl:=sl') (i:=0) h.at0 (show Ae P (0==0) a (w.at d)=_ from hs),AV,?_,?_,?_⟩
 ·have hlt:0<gs.size:=(Df.1 h.at0).1;simp[hlt]
 ·refine⟨λj x hj hx=>?_,λj hj=>?_⟩
  ·(have hne:0≠j:=by omega);rw[Dw hne,Kr] at hx;obtain⟨y,hy,rfl⟩:=Jz.1 hx;have hq:=h.leavers.old j y hj hy;rw[woken_quitsD hq,Ll t Ad _ (λop hop=>ofEvents_g hop)];exact hq
  have hlt:0<gs.size:=(Df.1 h.at0).1;rw[Ll t (g':=0) (by simp at hj;omega) _ (λop hop=>ofEvents_g hop)];exact h.leavers.above j (by simpa using hj)
 exact (h.past.mono (by exact hw)).own he
theorem ABC{g:Ac}{i:Nat}(h:Sit P Z gs w t a q)(ha:a.status=.running)(hpos:0<i)(hi:gs[i]? =AA g)(hg:g.status=.running):
  ∃k g' es,q i=k+1/\runT P (crowd gs (w.at d) sl') i=(.next (crowd ((gs.map (woken P g g' (w.at d))).setIfInBounds i g') (w.at d) sl'),DX i g.frame.fn g.frame.place es)/\
   ((gs.map (woken P g g' (w.at d))).setIfInBounds i g').size=gs.size/\Sit P Z ((gs.map (woken P g g' (w.at d))).setIfInBounds i g') (w.at d) (t++DX i g.frame.fn g.frame.place es) a (upd q i k)/\
   Dz gs.size (upd q i k)<Dz gs.size q:=by
 have hq:=h.leavers.old i g hpos hi;(have hi0:(i==0)=false:=by simp;omega);have hlt:i<gs.size:=(Df.1 hi).1
 cases hqi:q i with
 |zero=>rw[hqi] at hq;rw[hq.1] at hg;cases hg|succ k=>
  rw[hqi] at hq;rcases hq with ⟨hf,_⟩|⟨_,g',es,hm,hstp,hq'⟩;rw[hf] at hg;cases hg;refine⟨k,g',es,rfl,YZ (P:=P) (sl:=sl') (i:=i) hi (by rw[hi0];exact hstp (w.at d)),AV,⟨?_,⟨λj x hj hx=>?_,λj hj=>?_⟩,h.past.mute Ad hm⟩,?_⟩
  ·(have hne:i≠0:=by omega);rw[Dw hne,Kr,h.at0];simp[woken_run ha]
  ·by_cases hji:i=j
   ·subst hji;rw[WY (by simpa using hlt)] at hx;obtain rfl:=EF hx;rw[upd_same,Deaf_own];exact hq'
   rw[Dw hji,Kr] at hx;obtain⟨y,hy,rfl⟩:=Jz.1 hx;have hqj:=h.leavers.old j y hj hy;rw[woken_quitsD hqj,upd_ne q k (Ir hji),Ll t hji _ (λop hop=>ofEvents_g hop)];exact hqj
  ·rw[Ll t (g':=i) (by simp at hj;omega) _ (λop hop=>ofEvents_g hop)];exact h.leavers.above j (by simpa using hj)
  have hsum:Dz gs.size (upd q i k)+(k+1)=Dz gs.size q+k:=by
   have:=sumTo_upd q k id hlt;simpa[hqi] using this
  omega
theorem AGh(h:Sit P Z gs w t a q)(ha:a.status=.running)(sl:Option (Nat×Nat)):
  ∃i g d sl',gs[i]? =AA g/\g.status=.running/\stepT P (crowd gs w sl)=runT P (crowd gs (w.at d) sl') i:=by
 refine crowd_pick (P:=P) (w:=w) (sl:=sl) (λg hg=>?_) ⟨0,a,h.at0,ha⟩;obtain⟨i,hi,rfl⟩:=lY.1 hg;rcases O1 i with rfl|hpos
 ·have h0:=h.at0;(have:gs[0]=a:=by simpa[FD hi] using h0);rw[this];exact awake_of (.inl ha)
 exact awake_of ((h.leavers.old i _ hpos (FD hi)).status.elim .inl λx=>.inr (.inr x))
theorem lift{K:Kit}{T:Twin}{N:Nat}{Kp:AX->List AX->AL->Prop}(hK:Fits K T N)(hzz: ∀p k f1 Di v,p.size<=K.fb.m+2->¬Ev T.v Kp (BV T.v K.z p k) (f1::Di) v){f:AX}{ts:List AX}{v:AL}(hev:Ev T.v Kp f ts v):
  NQ T.v Kp ⟨f,ts,v⟩->∀{ρ:Rn} {f':AX} {ts' cs':List AX} {w:AL} {gs:Array Ac} {sl:Option (Nat×Nat)} {t:CB} {q:Nat->Nat},DF K T ρ f f'->Cc (IW K T ρ) ts ts'->DD K.F N ρ v w->(∀g,g<K.G->ρ.r g g)->Apart Z ρ w->
   Sit T.P Z gs w t (G f' (ts'++cs')) q->
   ∃n gs1 w1 sl1 t1 q1 a1 ρ1 v1,D8 T.P n (crowd gs w sl) t=(.next (crowd gs1 w1 sl1),t1)/\gs1.size=gs.size/\Sit T.P Z gs1 w1 t1 a1 q1/\Mv K.F N ρ ρ1 v w v1 w1/\AFS K T Kp cs' ⟨f,ts,v⟩ ρ1 v1 a1:=by
 induction hev with
 | @stop f ts v hk=>
  intro _ ρ f' ts' cs' w gs sl t q hf hts hW hG hA hS;exact⟨0,gs,w,sl,t,q,_,ρ,v,rfl,rfl,hS,.refl hW,.inl ⟨f,ts,f',ts',hk,rfl,hf,hts⟩⟩
 | @step f ts v Fx Sx Wx hstep hev ih=>
  intro O8 ρ f' ts' cs' w gs sl t q;by_cases hkp:Kp f ts v
  ·intro hf hts hW hG hA hS;exact⟨0,gs,w,sl,t,q,_,ρ,v,rfl,rfl,hS,.refl hW,.inl ⟨f,ts,f',ts',hkp,rfl,hf,hts⟩⟩
  have key: ∀(M:Nat) (w:AL) (gs:Array Ac) (sl:Option (Nat×Nat)) (t:CB) (q:Nat->Nat),Dz gs.size q=M->DF K T ρ f f'->Cc (IW K T ρ) ts ts'->DD K.F N ρ v w->(∀g,g<K.G->ρ.r g g)->Apart Z ρ w->
    Sit T.P Z gs w t (G f' (ts'++cs')) q->
    ∃n gs1 w1 sl1 t1 q1 a1 ρ1 v1,D8 T.P n (crowd gs w sl) t=(.next (crowd gs1 w1 sl1),t1)/\gs1.size=gs.size/\Sit T.P Z gs1 w1 t1 a1 q1/\Mv K.F N ρ ρ1 v w v1 w1/\AFS K T Kp cs' ⟨f,ts,v⟩ ρ1 v1 a1:=by
   intro M
   induction M using Nat.strongRecOn with
   |_ M ihM=>
    intro w gs sl t q hM hf hts hW hG hA hS;obtain⟨i,g,d,sl',hi,hg,hst⟩:=AGh hS (by rfl) sl;rcases O1 i with rfl|hpos
    ·
     (have hg0:g=G f' (ts'++cs'):=by have:=hS.at0;rw[this] at hi;exact (EF hi).symm);subst hg0;have hSd:Sit T.P Z gs (w.at d) t (G f' (ts'++cs')) q:=⟨hS.at0,hS.leavers,hS.past⟩;have hWd: ∀τ:Nat->Fj->Nat,DD K.F N ρ (v.DL τ) (w.at d):=λτ=>hW.pre ⟨rfl,rfl⟩ ⟨rfl,rfl⟩;(let τ:Nat->Fj->Nat:=λj=>if j<v.drawn then v.tape j else w.tape (d+(j - v.drawn)));(have hτ: ∀j,j<v.drawn->τ j=v.tape j:=λj hj=>by simp only[τ,hj,if_true]);obtain⟨es,hs⟩:=hstep τ hτ
     have ABD:=Ug (mn:=true) (dr:=door T.v) (ds:=[]) (cs':=cs') hK (hWd τ) hG hf hts (λg1 v1 es _ i _ q=>by
      show τ (v.drawn+i) q=w.tape (d+i) q;(have h1: ¬v.drawn+i<v.drawn:=by omega);simp only[τ,h1,if_false]
      congr 2;omega)
     rw[hs] at ABD;rcases ABD with ⟨f1,Di,f1',Gy,ρ1,w1,es',h1,h2,h3,h4,h5⟩|⟨X,p,p',k,f1,Di,f1',Gy,ρ1,w1,es',hX,hX',h1,h2,h3,h4,h5,h6,hk⟩|⟨c,h1,_⟩|⟨_,_,f1,Di,h1,ch,hm1,hu1⟩|⟨p,k,f1,Di,_,hp,_,h1⟩
     ·simp only[G,Gf] at h1;obtain⟨r1,r2,_⟩:=h1;have r2:=NL r2;(have hsz:w.heap.size<=w1.heap.size:=by have a1:=h5.sv;have a2:=h5.sw;have e1:(v.DL τ).heap.size=v.heap.size:=rfl;have e2:(w.at d).heap.size=w.heap.size:=rfl;omega);have hmv:Mv K.F N ρ ρ1 v w (Wx τ) w1:=h5.mv.pre ⟨rfl,rfl,rfl⟩ ⟨rfl,rfl,rfl,rfl⟩
      have hr1: ∀a b,ρ1.r a b->¬Z b/\b<w1.heap.size:=λa b hab=>⟨λhz=>by
       rcases (hmv.new a b).1 hab with h|h;exact hA.r _ _ h hz
       have:=hA.z _ hz;have:=hmv.sw;omega,(h5.rel.dom hab).2⟩
      obtain⟨hr,hz,hS'⟩:=uU (sl':=sl') hSd h2 hsz (λe he=>AFR hr1 (h5.evs e he));have hA':Apart Z ρ1 w1:=⟨λa b h=>(hr1 a b h).1,λb hb=>ER (hA.z b hb) hsz⟩;obtain⟨n,gs1,w2,sl1,t1,q1,a1,ρ2,v2,g1,g2,g3,g4,g5⟩:=ih τ hτ (O8.next ⟨hkp,τ,hτ,_,hs⟩) (sl:=sl') (by rw[r1];exact h3) (by rw[r2];exact h4) h5.rel (λg hg=>h5.le.r _ _ (hG g hg)) hA' hS';have hnx:Nx T.v Kp ⟨Fx τ,Sx τ,Wx τ⟩ ⟨f,ts,v⟩:=⟨hkp,τ,hτ,_,hs⟩;refine⟨n+1,gs1,w2,sl1,t1,q1,a1,ρ2,v2,by simp only[D8,hst,hr];exact g1,g2.trans hz,g3,hmv.trans g4,?_⟩;rcases g5 with g5|⟨X,p,p',k,f1,Di,f1',Gy,u1,u2,u3,u4,u5⟩;exact .inl g5;exact .inr ⟨X,p,p',k,f1,Di,f1',Gy,u1,u2,u3,.cons hnx u4,u5⟩
     ·simp only[G,Gf] at h1;obtain⟨r1,r2,_⟩:=h1;rw[<- Dj] at r2;have r2:=NL r2;(have hsz:w.heap.size<=w1.heap.size:=by have a1:=h6.sv;have a2:=h6.sw;have e1:(v.DL τ).heap.size=v.heap.size:=rfl;have e2:(w.at d).heap.size=w.heap.size:=rfl;omega);have hmv:Mv K.F N ρ ρ1 v w (Wx τ) w1:=h6.mv.pre ⟨rfl,rfl,rfl⟩ ⟨rfl,rfl,rfl,rfl⟩
      have hr1: ∀a b,ρ1.r a b->¬Z b/\b<w1.heap.size:=λa b hab=>⟨λhz=>by
       rcases (hmv.new a b).1 hab with h|h;exact hA.r _ _ h hz
       have:=hA.z _ hz;have:=hmv.sw;omega,(h6.rel.dom hab).2⟩
      obtain⟨hr,hz,hS'⟩:=uU (sl':=sl') hSd h2 hsz (λe he=>AFR hr1 (h6.evs e he));refine⟨1,_,w1,sl',_,q,_,ρ1,Wx τ,by simp only[D8,hst,hr],hz,hS',hmv,.inr ⟨X,p,p',k,f1,Di,f1',Gy,hX,hX',hk,.one ⟨hkp,τ,hτ,es,?_⟩,rfl,h3,h4,h5⟩⟩;show Ae T.v true (G f (ts++[door T.v])) (v.DL τ)=_;rw[hs,r1,r2]
     ·simp only[G,Gf] at h1;have:=h1.2.1;simp at this
     ·exfalso;simp only[G,Gf] at h1;obtain⟨r1,r2,_⟩:=h1;subst r1;exact O8 ⟨Fx τ,Sx τ,Wx τ⟩ (.one ⟨hkp,τ,hτ,_,hs⟩) (.head hm1 hu1)
     exfalso;simp only[G,Gf] at h1;obtain⟨r1,r2,_⟩:=h1;rw[<- Dj] at r2;have r2:=NL r2;have:=hev τ hτ;rw[r1,r2] at this;exact hzz _ _ _ _ _ hp this
    obtain⟨k,g',es,hq,hr,hz,hS',hlt⟩:=ABC (d:=d) (sl':=sl') hS (by rfl) hpos hi hg;obtain⟨n,gs1,w2,sl1,t1,q1,a1,ρ2,v2,g1,g2,g3,g4,g5⟩:=ihM _ (by rw[hz,<- hM];exact hlt) (w.at d) _ sl' _ _ rfl hf hts (hW.pre ⟨rfl,rfl⟩ ⟨rfl,rfl⟩) hG ⟨hA.r,hA.z⟩ hS';exact⟨n+1,gs1,w2,sl1,t1,q1,a1,ρ2,v2,by simp only[D8,hst,hr];exact g1,g2.trans hz,g3,g4.pre ⟨rfl,rfl,rfl⟩ ⟨rfl,rfl,rfl,rfl⟩,g5⟩
  intro hf hts hW hG hA hS;exact key _ w gs sl t q rfl hf hts hW hG hA hS
end
section
variable {g i:Nat}{Rt:Nat->Prop}
def _root_.Go.Loc.blk:Loc->Option Nat
 | .cell a=>AA a.block| .obj b=>AA b|_=>AB
theorem AH7{l:Loc}(h:l.isMemory=true): ∃b,l.blk=AA b:=by
 cases l<;>first|exact⟨_,rfl⟩|cases h
structure TI (j:Nat) (SY SR OW Z:Nat->Prop) (t:CB):Prop where
 clean: ∀said,¬Race said t
 ow: ∀i x b,Il t i=AA x->x.loc.blk=AA b->OW b->Knows t j i
 sr: ∀i x b,Il t i=AA x->x.loc.blk=AA b->SR b->x.write=true->Knows t 0 i/\Knows t j i
 sy: ∀i x b,Il t i=AA x->x.loc.blk=AA b->SY b->(x.kind≠ .plain/\(x.kind=.said->t.g? i=AA 0))\/(Knows t 0 i/\Knows t j i)
 main: ∀i x b,Il t i=AA x->x.loc.blk=AA b->¬OW b->¬SR b->¬SY b->¬Z b->Knows t 0 i
 all: ∀i x,Il t i=AA x->x.loc.isMemory=true->Knows t 0 i\/t.g? i=AA j\/(O7 Z x.loc/\x.kind=.atomic)
def Ok0 (SY SR OW Z:Nat->Prop) (x:Touch):Prop:=
 ∀b,x.loc.blk=AA b->(¬OW b/\¬SR b/\¬SY b/\¬Z b)\/(SR b/\¬OW b/\¬SY b/\x.write=false)\/(SY b/\¬OW b/\¬SR b/\x.kind≠ .plain)
def OkJ (SY SR OW:Nat->Prop) (x:Touch):Prop:=
 ∃b,x.loc.blk=AA b/\((OW b/\¬SR b/\¬SY b)\/(SR b/\¬OW b/\¬SY b/\x.write=false)\/(SY b/\¬OW b/\¬SR b/\x.kind=.atomic))
section
variable {j:Nat} {SY SR OW Z:Nat->Prop} {t u:CB}
theorem g?_of{op:MemOp}(h:t[i]? =AA op):t.g? i=AA op.g:=by simp[Trace.g?,h]
theorem ABE(h:t.g? i=AA g):Knows t g i:=by
 unfold Trace.g? at h;obtain⟨z,hz,rfl⟩:=Jz.1 h;exact knows_own hz
theorem Ew{x:Touch}(h:Il (t++u) i=AA x):(i<t.size/\Il t i=AA x)\/∃op∈u,(t++u)[i]? =AA op/\op.act.touch? =AA x:=by
 obtain⟨op,hop,hx⟩:=touch_of h;rcases getElem?_append_cases hop with ⟨hi,h'⟩|⟨_,hu⟩
 ·exact .inl ⟨hi,by rw[touchAt_of h'];exact hx⟩
 exact .inr ⟨op,hu,hop,hx⟩
theorem TI.app0(h:TI j SY SR OW Z t)(hu: ∀op∈u,op.g=0)(hx: ∀op∈u,∀x,op.act.touch? =AA x->Ok0 SY SR OW Z x):TI j SY SR OW Z (t++u):=by
 have own: ∀{i:Nat} {op:MemOp},op∈u->(t++u)[i]? =AA op->Knows (t++u) 0 i:=λ{i op} h1 h2=>by
  have:=knows_own h2;rwa[hu op h1] at this
 refine⟨λsaid=>noRace_append (h.clean said) hu λi a ha op hop b hb hc=>?_,λi x b ht hb ho=>?_,λi x b ht hb ho hw=>?_,λi x b ht hb ho=>?_,λi x b ht hb h1 h2 h3 h4=>?_,λi x ht hm=>?_⟩
 ·obtain⟨hl,hm,hw,hk⟩:=hc;obtain⟨bb,hbb⟩:=AH7 hm;rcases hx op hop b hb bb (by rw[<- hl];exact hbb) with ⟨h1,h2,h3,h4⟩|⟨h1,_,_,h2⟩|⟨h1,_,_,h2⟩;exact h.main i a bb ha hbb h1 h2 h3 h4;rw[h2] at hw;simp at hw;exact (h.sr i a bb ha hbb h1 hw).1;rcases h.sy i a bb ha hbb h1 with ⟨h3,h4⟩|h5;rotate_left;exact h5.1;rcases hk with hk|hk|⟨_,hk,_⟩;exact Ai hk h3;exact Ai hk h2;exact ABE (h4 hk)
 ·rcases Ew ht with ⟨_,h'⟩|⟨op,hop,hg,hop'⟩
  ·exact (h.ow i x b h' hb ho).app u
  rcases hx op hop x hop' b hb with ⟨h1,_⟩|⟨_,h1,_⟩|⟨_,h1,_⟩<;>exact Ai ho h1
 ·rcases Ew ht with ⟨_,h'⟩|⟨op,hop,hg,hop'⟩
  ·exact⟨(h.sr i x b h' hb ho hw).1.app u,(h.sr i x b h' hb ho hw).2.app u⟩
  rcases hx op hop x hop' b hb with ⟨_,h1,_⟩|⟨_,_,_,h1⟩|⟨_,_,h1,_⟩;exact Ai ho h1;rw[hw] at h1;cases h1;exact Ai ho h1
 ·rcases Ew ht with ⟨hi,h'⟩|⟨op,hop,hg,hop'⟩
  ·rw[g?_old hi];exact (h.sy i x b h' hb ho).imp id λy=>⟨y.1.app u,y.2.app u⟩
  rcases hx op hop x hop' b hb with ⟨_,_,h1,_⟩|⟨_,_,h1,_⟩|⟨_,_,_,h1⟩;exact Ai ho h1;exact Ai ho h1;exact .inl ⟨h1,λ_=>by rw[g?_of hg,hu op hop]⟩
 ·rcases Ew ht with ⟨_,h'⟩|⟨op,hop,hg,hop'⟩
  ·exact (h.main i x b h' hb h1 h2 h3 h4).app u
  exact own hop hg
 rcases Ew ht with ⟨hi,h'⟩|⟨op,hop,hg,hop'⟩
 ·rw[g?_old hi];exact (h.all i x h' hm).imp (·.app u) id
 exact .inl (own hop hg)
theorem TI.appJ(h:TI j SY SR OW Z t)(hu: ∀op∈u,op.g=j)(hx: ∀op∈u,∀x,op.act.touch? =AA x->x.loc.isMemory=true->OkJ SY SR OW x)(_: ∀b,OW b->¬Z b):TI j SY SR OW Z (t++u):=by
 have own: ∀{i:Nat} {op:MemOp},op∈u->(t++u)[i]? =AA op->Knows (t++u) j i:=λ{i op} h1 h2=>by
  have:=knows_own h2;rwa[hu op h1] at this
 have ADk: ∀{x:Touch} {b:Nat},x.loc.blk=AA b->x.loc.isMemory=true:=λ{x b} hb=>by
  cases hl:x.loc<;>rw[hl] at hb<;>first|rfl|cases hb
 refine⟨λsaid=>noRace_append (h.clean said) hu λi a ha op hop b hb hc=>?_,λi x b ht hb ho=>?_,λi x b ht hb ho hw=>?_,λi x b ht hb ho=>?_,λi x b ht hb h1 h2 h3 h4=>?_,λi x ht hm=>?_⟩
 ·obtain⟨hl,hm,hw,hk⟩:=hc;obtain⟨bb,hbb,hcase⟩:=hx op hop b hb (by rw[<- hl];exact hm);rw[<- hl] at hbb;rcases hcase with ⟨h1,h2,h3⟩|⟨h1,_,_,h2⟩|⟨h1,_,_,h2⟩;exact h.ow i a bb ha hbb h1;rw[h2] at hw;simp at hw;exact (h.sr i a bb ha hbb h1 hw).2;rcases h.sy i a bb ha hbb h1 with ⟨h3,h4⟩|h5;rotate_left;exact h5.2;rcases hk with hk|hk|⟨_,_,hk⟩;exact Ai hk h3;rw[h2] at hk;cases hk;rw[h2] at hk;cases hk
 ·rcases Ew ht with ⟨_,h'⟩|⟨op,hop,hg,hop'⟩
  ·exact (h.ow i x b h' hb ho).app u
  exact own hop hg
 ·rcases Ew ht with ⟨_,h'⟩|⟨op,hop,hg,hop'⟩
  ·exact⟨(h.sr i x b h' hb ho hw).1.app u,(h.sr i x b h' hb ho hw).2.app u⟩
  obtain⟨bb,hbb,hcase⟩:=hx op hop x hop' (ADk hb);rw[hb] at hbb;cases hbb;rcases hcase with ⟨_,h1,_⟩|⟨_,_,_,h1⟩|⟨_,_,h1,_⟩;exact Ai ho h1;rw[hw] at h1;cases h1;exact Ai ho h1
 ·rcases Ew ht with ⟨hi,h'⟩|⟨op,hop,hg,hop'⟩
  ·rw[g?_old hi];exact (h.sy i x b h' hb ho).imp id λy=>⟨y.1.app u,y.2.app u⟩
  obtain⟨bb,hbb,hcase⟩:=hx op hop x hop' (ADk hb);rw[hb] at hbb;cases hbb;rcases hcase with ⟨_,_,h1⟩|⟨_,_,h1,_⟩|⟨_,_,_,h1⟩;exact Ai ho h1;exact Ai ho h1;rw[h1];exact .inl ⟨AV,AV⟩
 ·rcases Ew ht with ⟨_,h'⟩|⟨op,hop,hg,hop'⟩
  ·exact (h.main i x b h' hb h1 h2 h3 h4).app u
  obtain⟨bb,hbb,hcase⟩:=hx op hop x hop' (ADk hb);rw[hb] at hbb;cases hbb;rcases hcase with ⟨q,_⟩|⟨q,_⟩|⟨q,_⟩;exact Ai q h1;exact Ai q h2;exact Ai q h3
 rcases Ew ht with ⟨hi,h'⟩|⟨op,hop,hg,hop'⟩
 ·rw[g?_old hi];exact (h.all i x h' hm).imp (·.app u) id
 exact .inr (.inl (by rw[g?_of hg,hu op hop]))
theorem TI.mute(h:TI j SY SR OW Z t)(hu: ∀op∈u,op.g=g)(hn: ∀op∈u,op.act.touch? =AB):TI j SY SR OW Z (t++u):=by
 have old: ∀{i:Nat} {x:Touch},Il (t++u) i=AA x->i<t.size/\Il t i=AA x:=λ{i x} ht=>by
  rcases Ew ht with h'|⟨op,hop,_,hop'⟩
  ·exact h'
  rw[hn op hop] at hop';cases hop'
 refine⟨λsaid=>noRace_append (h.clean said) hu λi a ha op hop b hb hc=>(by rw[hn op hop] at hb;cases hb),λi x b ht hb ho=>(h.ow i x b (old ht).2 hb ho).app u,λi x b ht hb ho hw=>?_,λi x b ht hb ho=>?_,λi x b ht hb h1 h2 h3 h4=>(h.main i x b (old ht).2 hb h1 h2 h3 h4).app u,λi x ht hm=>?_⟩;have:=h.sr i x b (old ht).2 hb ho hw;exact⟨this.1.app u,this.2.app u⟩;rw[g?_old (old ht).1];exact (h.sy i x b (old ht).2 hb ho).imp id λy=>⟨y.1.app u,y.2.app u⟩;rw[g?_old (old ht).1];exact (h.all i x (old ht).2 hm).imp (·.app u) id
theorem TI.pass(h:TI j SY SR OW Z t)(hk: ∀i x b,Il t i=AA x->x.loc.blk=AA b->OW b->Knows t 0 i)(hs: ∀b,Rt b->OW b):TI j SY SR Rt Z t:=
 ⟨h.clean,λi x b ht hb ho=>h.ow i x b ht hb (hs b ho),h.sr,h.sy,λi x b ht hb _ h2 h3 h4=>by
  by_cases ho:OW b;exact hk i x b ht hb ho
  exact h.main i x b ht hb ho h2 h3 h4,h.all⟩
theorem TI.new{B:Nat}(h:TI j SY SR OW Z t)(hl: ∀op∈t,op.act.low B)(hs: ∀b,Rt b↔OW b\/(B<=b/\Rt b)):TI j SY SR Rt Z t:=by
 have low: ∀{i:Nat} {x:Touch} {b:Nat},Il t i=AA x->x.loc.blk=AA b->b<B:=λ{i x b} ht hb=>by
  obtain⟨op,hop,hx⟩:=touch_of ht;have h1:=hl op (mem_of_getElem? hop)
  cases ha:op.act with
  |access e=>
   rw[ha] at h1 hx;simp only[DK,DN] at hx;subst hx;obtain⟨l,w,s⟩:=e;cases l<;>simp_all [Loc.blk,MemAct.low,Loc.low]
  |mark m=>
   rw[ha] at h1 hx;(cases m<;>simp[DK] at hx);subst hx;simp only[Loc.blk,DN] at hb;subst hb;exact h1;subst hx;simp only[Loc.blk,DN] at hb;subst hb;exact h1
  |_=>rw[ha] at hx;simp[DK] at hx
 refine⟨h.clean,λi x b ht hb ho=>?_,h.sr,h.sy,λi x b ht hb h1=>h.main i x b ht hb λho=>h1 ((hs b).2 (.inl ho)),h.all⟩;rcases (hs b).1 ho with h1|h1;exact h.ow i x b ht hb h1;have:=low ht hb;omega
end
end
def EL (bc bs:Nat) (v z1 z2:AP):Array CommCase:=#[scase bc v z1,rcase bs z2]
section
variable {P:BL} {gs:Array Ac} {w w₁:AL} {sl:Option (Nat×Nat)} {i j:Nat} {g g₂ gj:Ac} {es:Array Bc} {shj:CommShape}
 {bc bs s r s2 r2:Nat} {v z z1 z2:AP} {tm:Bool}
theorem mi(h:bc≠bs)(g:Ac)(sh:CommShape):offersAt (parked g (EL bc bs v z1 z2) sh) bc true=[0]/\offersAt (parked g (EL bc bs v z1 z2) sh) bc false=[]/\offersAt (parked g (EL bc bs v z1 z2) sh) bs true=[]:=by
 refine⟨?_,?_,?_⟩<;>simp[offersAt,parked,EL,scase,rcase,h,Ir h]
theorem ADl(_:bc≠bs)(hi:gs[i]? =AA g)(h:Ae P (i==0) g w=.comm g₂ (EL bc bs v z1 z2) true .select w₁ es)(hc:w₁.heap[bc]? =AA (.chan 0 #[] false s r tm))(hs:w₁.heap[bs]? =AA (.chan 0 #[] false s2 r2 tm))
  (hij:j≠i) (hj:gs[j]? =AA (parked gj #[rcase bc z] shj)) (hp:partners (gs.setIfInBounds i ph) bc false=[(j,0)]) (hp2:partners (gs.setIfInBounds i ph) bs true=[]):
  runT P (crowd gs w sl) i=(.next (crowd ((gs.setIfInBounds j (gj.finishComm P #[rcase bc z] shj 0 v true)).setIfInBounds i (g₂.finishComm P (EL bc bs v z1 z2) .select 0 undef false)) (w₁.setChan bc 0 #[] false (s+1) (r+1) tm) sl),
   DX i g.frame.fn g.frame.place es++ #[{g:=i,fn:=g₂.frame.fn,pos:=g₂.frame.place,act:=.send bc s},{g:=j,fn:=gj.frame.fn,pos:=gj.frame.place,act:=.recv bc r 0},
    {g:=i,fn:=g₂.frame.fn,pos:=g₂.frame.place,act:=.sendDone bc s},{g:=j,fn:=gj.frame.fn,pos:=gj.frame.place,act:=.recvDone bc r}]):=by
 rw[runT_crowd_comm hi h];have hj':=stand_get (i:=i) hij hj;have hfp:=finishPartner_at P (gs.setIfInBounds i ph) hj' (cs:=#[rcase bc z]) (sh:=shj) rfl 0 v;(have hgd:(gs.setIfInBounds i ph).getD j default=parked gj #[rcase bc z] shj:=by rw[Qo,hj'];rfl);simp[communicate,ways,EL,scase,rcase,hc,hs,hp,hp2,choose,Dq,Question.forced,bind,JY,pure,Yb,crowd,set_stand2,parked] at hfp hgd⊢;simp[hfp,hgd,set_stand2];rfl
theorem jb(_:bc≠bs)(hi:gs[i]? =AA g)(h:Ae P (i==0) g w=.comm g₂ #[rcase bc z] true (.recv true) w₁ es)(hc:w₁.heap[bc]? =AA (.chan 0 #[] false s r tm))
  (hij:j≠i) (hj:gs[j]? =AA (parked gj (EL bc bs v z1 z2) .select)) (hp:partners (gs.setIfInBounds i ph) bc true=[(j,0)]):
  runT P (crowd gs w sl) i=(.next (crowd ((gs.setIfInBounds j (gj.finishComm P (EL bc bs v z1 z2) .select 0 undef false)).setIfInBounds i (g₂.finishComm P #[rcase bc z] (.recv true) 0 v true)) (w₁.setChan bc 0 #[] false (s+1) (r+1) tm) sl),
   DX i g.frame.fn g.frame.place es++ #[{g:=j,fn:=gj.frame.fn,pos:=gj.frame.place,act:=.send bc s},{g:=i,fn:=g₂.frame.fn,pos:=g₂.frame.place,act:=.recv bc r 0},
    {g:=j,fn:=gj.frame.fn,pos:=gj.frame.place,act:=.sendDone bc s},{g:=i,fn:=g₂.frame.fn,pos:=g₂.frame.place,act:=.recvDone bc r}]):=by
 rw[runT_crowd_comm hi h];have hj':=stand_get (i:=i) hij hj;have hfp:=finishPartner_at P (gs.setIfInBounds i ph) hj' (cs:=EL bc bs v z1 z2) (sh:=.select) rfl 0 undef;(have hgd:(gs.setIfInBounds i ph).getD j default=parked gj (EL bc bs v z1 z2) .select:=by rw[Qo,hj'];rfl);(have hov:offeredValue (gs.setIfInBounds i ph) j 0=v:=by simp[offeredValue,hj',parked,EL,scase]);simp[communicate,ways,EL,scase,rcase,hc,hp,choose,Dq,Question.forced,bind,JY,pure,Yb,crowd,set_stand2,parked] at hfp hgd hov⊢;simp[hfp,hgd,hov,set_stand2];rfl
theorem yX(_:bc≠bs)(hi:gs[i]? =AA g)(h:Ae P (i==0) g w=.comm g₂ (EL bc bs v z1 z2) true .select w₁ es)(hc:w₁.heap[bc]? =AA (.chan 0 #[] false s r tm))(hs:w₁.heap[bs]? =AA (.chan 0 #[] true s2 r2 tm))
  (hp:partners (gs.setIfInBounds i ph) bc false=[]) (hp2:partners (gs.setIfInBounds i ph) bs true=[]):
  runT P (crowd gs w sl) i=(.next (crowd (gs.setIfInBounds i (g₂.finishComm P (EL bc bs v z1 z2) .select 1 z2 false)) w₁ sl),
   DX i g.frame.fn g.frame.place es++ #[{g:=i,fn:=g₂.frame.fn,pos:=g₂.frame.place,act:=.recvClosed bs}]):=by
 rw[runT_crowd_comm hi h];simp[communicate,ways,EL,scase,rcase,hc,hs,hp,hp2,choose,Dq,Question.forced,bind,JY,pure,crowd]
theorem ADm(_:bc≠bs)(hi:gs[i]? =AA g)(h:Ae P (i==0) g w=.comm g₂ (EL bc bs v z1 z2) true .select w₁ es)(hc:w₁.heap[bc]? =AA (.chan 0 #[] false s r tm))(hs:w₁.heap[bs]? =AA (.chan 0 #[] false s2 r2 tm))
  (hp:partners (gs.setIfInBounds i ph) bc false=[]) (hp2:partners (gs.setIfInBounds i ph) bs true=[]):
  runT P (crowd gs w sl) i=(.next (crowd (gs.setIfInBounds i (parked g₂ (EL bc bs v z1 z2) .select)) w₁ sl),DX i g.frame.fn g.frame.place es):=by
 refine crowd_waits hi h λcc hcc=>?_;simp only[EL,IU,BB,BC,or_false] at hcc;rcases hcc with rfl|rfl;exact⟨made_send v z1 hc,by simp[ways,scase,hc,hp]⟩;exact⟨made_recv z2 hs,by simp[ways,rcase,hs,hp2]⟩
theorem ABF(hi:gs[i]? =AA g)(h:Ae P (i==0) g w=.comm g₂ #[rcase bc z] true (.recv true) w₁ es)(hc:w₁.heap[bc]? =AA (.chan 0 #[] false s r tm))(hp:partners (gs.setIfInBounds i ph) bc true=[]):
  runT P (crowd gs w sl) i=(.next (crowd (gs.setIfInBounds i (parked g₂ #[rcase bc z] (.recv true))) w₁ sl),DX i g.frame.fn g.frame.place es):=by
 refine crowd_waits hi h λcc hcc=>?_;simp only[IU,BB,BC,or_false] at hcc;subst hcc;exact⟨made_recv z hc,by simp[ways,rcase,hc,hp]⟩
theorem jc(hc:w.heap[bc]? =AA (.chan 0 #[] false s r tm))(hs:w.heap[bs]? =AA (.chan 0 #[] false s2 r2 tm))(sh:CommShape):(parked g (EL bc bs v z1 z2) sh).again w=parked g (EL bc bs v z1 z2) sh:=by
 simp[Goroutine.again,parked,EL,scase,rcase,hc,hs]
theorem jd(hc:w.heap[bc]? =AA (.chan 0 #[] false s r tm))(hs:w.heap[bs]? =AA (.chan 0 #[] true s2 r2 tm))(sh:CommShape):(parked g (EL bc bs v z1 z2) sh).again w={parked g (EL bc bs v z1 z2) sh with status:=.running}:=by
 simp[Goroutine.again,parked,EL,scase,rcase,hc,hs]
end
end Go.Proofs.YtkkgcebhfghdnaaGreatDoor
