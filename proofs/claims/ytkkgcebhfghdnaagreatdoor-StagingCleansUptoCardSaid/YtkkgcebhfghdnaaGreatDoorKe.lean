/- Part 5 of what that rests on; no condition. -/
import Derived.Test.YtkkgcebhfghdnaaGreatDoorKd
set_option maxRecDepth 100000
set_option maxHeartbeats 8000000
namespace Go.Proofs.YtkkgcebhfghdnaaGreatDoor
open Go Go.Conc
section
variable {T:Twin} {F:Fs} {N:Nat} {ρ:Rn} {α β:Type} {v w:World}
def zL (p:Prop) (F:Fs) (N:Nat) (Q:Rn->α->β->Prop) (ρ:Rn) (v w:World) (r:Result α) (r':Result β×Array Event):Prop:=
 match r with| .ok a v'=>∃ρ' b w' u,r'=(.ok b w',u)/\Q ρ' a b/\Stp F N ρ ρ' v w v' w' u| .halt (.panic x) v'=>p\/∃ρ' x' w' u,r'=(.halt (.panic x') w',u)/\Au F ρ' x x'/\Stp F N ρ ρ' v w v' w' u| .halt h _=>Halt.still h
theorem AX.sound{Q:Rn->α->β->Prop}{s:Sem α}{s':Sem β}(h:AX T F N Q s ρ s')(hW:DD F N ρ v w)(ht:Tp v w ((KO (s.run T.v v)).drawn - v.drawn)):
  zL T.p F N Q ρ v w (s.run T.v v) (s'.runT T.P w #[]):=by
 have:=(DN.sound (h hW.ok) hW).2 ht;unfold Out at this;unfold zL;generalize s.run T.v v=r at this⊢
 cases r with
 |ok a v'=>
  obtain⟨ρ',b,w',u,h1,h2,h3⟩:=this;exact⟨ρ',b,w',u,by have:=h1 #[];simpa using this,h2,h3⟩
 |halt x v'=>
  cases x with
  |panic x=>
   rcases this with this|⟨ρ',b,w',u,h1,h2,h3⟩;exact .inl this;exact .inr ⟨ρ',b,w',u,by have:=h1 #[];simpa using this,h2,h3⟩
  |_=>exact this
theorem AX.drawn{Q:Rn->α->β->Prop}{s:Sem α}{s':Sem β}(h:AX T F N Q s ρ s')(hW:DD F N ρ v w):v.drawn<=(KO (s.run T.v v)).drawn:=(DN.sound (h hW.ok) hW).1
def tied (v w:World):World:={w with tape:=λi q=>v.tape (v.drawn+(i - w.drawn)) q}
theorem DD.tied(hW:DD F N ρ v w):DD F N ρ v (tied v w):=⟨hW.ok,hW.obj,hW.tok,hW.nv,hW.nw,hW.os,Tz hW.seq (AP _) (λ_ _ _=>rfl) (λ_ _=>.inl) rfl⟩
theorem AX.sort{Q:Rn->α->β->Prop}{s:Sem α}{s':Sem β}(h:AX T F N Q s ρ s')(hW:DD F N ρ v w):
  match s.run T.v v with| .ok a _=>∃ρ' b,Q ρ' a b| .halt (.panic _) _=>True| .halt h _=>Halt.still h:=by
 have:=h.sound hW.tied (λi _ q=>by simp[Go.Proofs.YtkkgcebhfghdnaaGreatDoor.tied]);unfold zL at this;generalize s.run T.v v=r at this
 cases r with
 |ok a v'=>obtain⟨ρ',b,_,_,_,hq,_⟩:=this;exact⟨ρ',b,hq⟩
 |halt x v'=>cases x<;>first|trivial|exact this
theorem Du{p:Program}{fn:FuncId}{es:Array Event}{e:Event}(h:e∈seen p fn es):e∈es:=by
 unfold seen at h;obtain⟨l⟩:=es;simp only[CG,List.foldl_toArray'] at h
 have key: ∀(l:List Event) (q:Bool) (kept:Array Event),e∈(l.foldl (λ(x:Bool×Array Event) e=>match e.loc with
   | .mark (.extern f)=>((p.funcs[f]?).any (·.norace),x.2)
   |_=>(x.1,if x.1 && !e.sync then x.2 else x.2.push e)) (q,kept)).2->e∈kept\/e∈l:=by
  intro l
  induction l with
  |nil=>intro q kept h;exact .inl h
  |cons a l ih=>
   intro q kept h;rw[List.foldl_cons] at h;rcases ih _ _ h with h1|h1
   ·split at h1;exact .inl h1;split at h1;exact .inl h1;rcases Array.mem_push.1 h1 with h2|h2;exact .inl h2;exact .inr (by simp[h2])
   exact .inr (by simp[h1])
 rcases key l _ #[] h with h1|h1;simp at h1;simpa using h1
theorem Stp.sub{ρ':Rn}{v' w':World}{u u':Array Event}(h:Stp F N ρ ρ' v w v' w' u)(k: ∀e∈u',e∈u):Stp F N ρ ρ' v w v' w' u':=
 {h with evs:=λe he=>h.evs e (k e he)}
end
section
variable {K:Kit} {T:Twin} {ρ:Rn}
theorem DF.finish{f f':Frame}(k:DF K T ρ f f'){x x':Value}(hx:Au K.F ρ x x')(hs:NC K f\/qf K.z x):DF K T ρ (f.finish x) (f'.finish x'):=by
 have ht:=k.todo;unfold Frame.finish
 cases e:f.todo with
 |nil=>rw[e] at ht;cases e':f'.todo with
  |nil=>exact k|cons _ _=>rw[e'] at ht;cases ht
 |cons i l=>
  rw[e] at ht;have hnl:I8 l:=by have:=k.rg.1;rw[e] at this;exact this
  cases e':f'.todo with
  |nil=>rw[e'] at ht;cases ht|cons i' l'=>
   rw[e'] at ht
   cases ht with
   |cons hi hl=>
    cases hi with
    | @inRegion ops todo ho=>
     cases todo with
     |nil=>exact k|cons j rest=>
      simp only;refine⟨k.fn,k.ok,?_,.cons (.inRegion ho) hl,k.defers,k.mode,k.kind,k.round,k.nd,hnl,λhm ops' rest' k' e2=>?_⟩
      ·cases (ops[j]?).bind (·.dst) with
       |none=>exact k.tmps|some d=>exact k.tmps.set hx d
      simp only[DJ,Item.inRegion.injEq] at e2;obtain⟨⟨rfl,rfl⟩,rfl⟩:=e2;have h1:=(k.rg.2 hm _ _ _ e).step (x:=x) (by have ho:=ho;simp only[JI,BF] at ho;exact ho.2) (hs.imp (λh=>h hm _ _ _ _ e) id)
      cases hd:(ops[j]?).bind (·.dst) with|none=>rw[hd] at h1;exact h1|some d=>rw[hd] at h1;exact h1
    |inRangeFunc h=>exact⟨k.fn,k.ok,k.tmps,.cons (.endRangeFunc h) hl,k.defers,k.mode,k.kind,k.round,k.nd,.plain (.cons (λ_ _ e=>by cases e) hnl)⟩|beginRound=>exact⟨k.fn,k.ok,k.tmps,hl,k.defers,k.mode,k.kind,k.round,k.nd,.plain hnl⟩|_=>exact k
theorem DF.WJ{f f':Frame}(k:DF K T ρ f f'){m m':FrameMode}(h:eH K.F ρ m m')(hm:m=.run->f.mode=.run:=by intro h;cases h):DF K T ρ {f with mode:=m} {f' with mode:=m'}:=
 ⟨k.fn,k.ok,k.tmps,k.todo,k.defers,h,k.kind,k.round,k.nd,k.rg.1,λh1=>k.rg.2 (hm h1)⟩
theorem DF.raise{f f':Frame}(k:DF K T ρ f f'){c c':List PanicEntry}(h:Ci (eG K.F ρ) c c'):DF K T ρ (f.raise c) (f'.raise c'):=by
 have app: ∀{a a' b b':List PanicEntry},Ci (eG K.F ρ) a a'->Ci (eG K.F ρ) b b'->Ci (eG K.F ρ) (a++b) (a'++b'):=by
  intro a a' b b' ha hb
  induction ha with|nil=>exact hb|cons x _ ih=>exact .cons x ih
 have hm:=k.mode;unfold Frame.raise;generalize f.mode=m at hm;generalize f'.mode=m' at hm
 cases hm with|run=>exact k.WJ (.panicking h)|returning=>exact k.WJ (.panicking h)|panicking hc=>exact k.WJ (.panicking (app h hc))
theorem DF.ZX{f f':Frame}(k:DF K T ρ f f'){l l':List Item}(h:Ci (J9 K f.roundOf.isNone (K.fb.lr f.fn) ρ) l l')(hr:RGf K {f with todo:=l}):DF K T ρ {f with todo:=l} {f' with todo:=l'}:=
 ⟨k.fn,k.ok,k.tmps,h,k.defers,k.mode,k.kind,k.round,k.nd,hr⟩
end
def Me (ch:List PanicEntry):Prop:=∀e∈ch,e.recovered=false
theorem ax{F:Fs}{ρ:Rn}{c c':List PanicEntry}(h:Ci (eG F ρ) c c'):Me c:=by
 induction h with
 |nil=>intro e he;cases he
 |cons hp _ ih=>
  intro e he;rcases AA.1 he with rfl|he;exact hp.u;exact ih e he
structure Gone (dr c:Frame):Prop where
 run:dr.mode=.run->c=dr\/(∃x,c=dr.finish x)\/∃ch,c=dr.raise ch
 pan: ∀ch,dr.mode=.panicking ch->Me ch->∃ch',c.mode=.panicking ch'/\Me ch'
def iW (K:Kit) (N:Nat) (ρ:Rn) (v w:World) (dr c:Frame) (v1:World) (cs':List Frame) (r':GStep):Prop:=
 ∀c0' zM,cs'=c0'::zM->dr.mode=.run->c0'.mode=.run->
  (∃x x' ρ1 w1 es',c=dr.finish x/\r'=.go (G (c0'.finish x') zM) w1 es'/\Au K.F ρ1 x x'/\Stp K.F N ρ ρ1 v w v1 w1 es')\/
  (∃ρ1 w1 es',c=dr/\r'=.go (G c0' zM) w1 es'/\Stp K.F N ρ ρ1 v w v1 w1 es')\/∃ch,c=dr.raise ch/\Me ch
theorem iW.after{K:Kit}{N:Nat}{ρ ρ':Rn}{v w v' w' v1:World}{dr c:Frame}{cs':List Frame}{r':GStep}{u es:Array Event}(h:iW K N ρ' v' w' dr c v1 cs' r')(hst:Stp K.F N ρ ρ' v w v' w' u)(hW:DD K.F N ρ v w)(hs: ∀e∈es,e∈u):
  iW K N ρ v w dr c v1 cs' (GStep.after es r'):=by
 intro c0 cs0 e h1 h2
 have key: ∀{ρ1:Rn} {w1:World} {es':Array Event},Stp K.F N ρ' ρ1 v' w' v1 w1 es'->Stp K.F N ρ ρ1 v w v1 w1 (es++es'):=λk=>
  {hst.trans k hW with evs:=λx hx=>(hst.trans k hW).evs x ((Ce.1 hx).elim (λh=>Ce.2 (.inl (hs _ h))) λh=>Ce.2 (.inr h))}
 rcases h c0 cs0 e h1 h2 with ⟨x,x',ρ1,w1,es',a,b,c,d⟩|⟨ρ1,w1,es',a,b,c⟩|k
 ·exact .inl ⟨x,x',ρ1,w1,es++es',a,by rw[b];rfl,c,key d⟩
 ·exact .inr (.inl ⟨ρ1,w1,es++es',a,by rw[b];rfl,key c⟩)
 exact .inr (.inr k)
theorem vG(f:Frame)(x:Value):(f.finish x).mode=f.mode:=by
 unfold Frame.finish;split<;>rfl
theorem Yc(f:Frame){ch ch':List PanicEntry}(h:f.mode=.panicking ch)(h1:Me ch)(h2:Me ch'): ∃c,(f.raise ch').mode=.panicking c/\Me c:=by
 refine⟨ch'++ch,by unfold Frame.raise;rw[h],λe he=>?_⟩;rcases AU.1 he with he|he;exact h2 e he;exact h1 e he
section
variable {K:Kit} {T:Twin} {ρ:Rn}
theorem DF.AMZ{f f':Frame}(h:DF K T ρ f f'){ch:List PanicEntry}(e:f.mode=.panicking ch):Me ch:=by
 have hm:=h.mode;rw[e] at hm;generalize f'.mode=m at hm
 cases hm with|panicking hc=>exact ax hc
theorem SC{f f':Frame}(h:DF K T ρ f f'){ch:List PanicEntry}(hu:Me ch): ∃c,(f.raise ch).mode=.panicking c/\Me c:=by
 cases e:f.mode with|panicking c=>exact Yc f e (h.AMZ e) hu|run=>exact⟨ch,by unfold Frame.raise;rw[e],hu⟩|returning=>exact⟨ch,by unfold Frame.raise;rw[e],hu⟩
end
def Ro (K:Kit) (T:Twin) (N:Nat) (ρ:Rn) (v w:World) (dr:Frame) (ds:List Frame) (cs':List Frame) (r r':GStep):Prop:=
 match r with
 | .go g1 v1 _=>
  (∃f1 Dj f1' Gj ρ1 w1 es',g1=G f1 (Dj++(dr::ds))/\r'=.go (G f1' (Gj++cs')) w1 es'/\DF K T ρ1 f1 f1'/\Ci (IB K T ρ1) Dj Gj/\Stp K.F N ρ ρ1 v w v1 w1 es')\/
  (∃X p p' k f1 Dj f1' Gj ρ1 w1 es',K.fb X=true/\(K.X X=true/\Jp K.fb X p.size=true/\K.F.dk X p/\(K.fb.ch=some X\/NC K f1))/\g1=G (Frame.enter T.v X p k) (f1::(Dj++(dr::ds)))/\r'=.go (G (Frame.enter T.P X p' k) (f1'::(Gj++cs'))) w1 es'/\Ar K.F ρ1 p p'/\
    DF K T ρ1 f1 f1'/\Ci (IB K T ρ1) Dj Gj/\Stp K.F N ρ ρ1 v w v1 w1 es'/\k=.normal)\/
  (∃c,g1=G c ds/\Gone dr c/\iW K N ρ v w dr c v1 cs' r'/\v.drawn<=v1.drawn)\/
  (T.p/\v.drawn<=v1.drawn/\∃f1 Dj,g1=G f1 (Dj++(dr::ds))/\∃ch,f1.mode=.panicking ch/\Me ch)\/
  (∃p k f1 Dj,(∃s n a b,ρ.q s n a b)/\p.size<=K.fb.m+2/\v.drawn<=v1.drawn/\g1=G (Frame.enter T.v K.z p k) (f1::(Dj++(dr::ds))))
 | .ended _ _ _=>True|_=>False
structure Fits (K:Kit) (T:Twin) (N:Nat):Prop where
 ops: ∀op,Va K.P K.fb K.G op=Va T.P K.fb K.G op
 same: ∀f,K.fb f=true->K.X f=false->T.F[f]? =T.P.funcs[f]?
 bodies:GM T K.F N
 N:T.P.globals.size<N
 body: ∀f fn,K.fb f=true->K.X f=false->T.P.funcs[f]? =some fn->∀c,fn.body=some c->JI K.P K.fb K.G true (K.fb.lr f) c=true
 lr:K.fb.h=true->∀f,K.fb.lr f=true->K.fb f=true/\K.X f=false
 xa: ∀f,K.X f=true->¬ ∀n,K.F.a f n
 ch: ∀f,K.fb.ch=some f->K.fb f=true/\K.X f=true
section
variable {K:Kit} {T:Twin} {N:Nat} {ρ:Rn} {v w:World} {dr:Frame} {ds cs':List Frame}
theorem ADf(hK:Fits K T N){f:FuncId}(h:K.fb f=true)(h':K.X f=false):T.v.funcs[f]? =T.P.funcs[f]? :=hK.same f h h'
theorem Na(hK:Fits K T N){f:FuncId}(hf:K.fb f=true)(hX:K.X f=false){p p':Array Value}(hp:Ar K.F ρ p p'){k:CallKind}(hk:k=.normal\/k=.deferred):
  DF K T ρ (Frame.enter T.v f p k) (Frame.enter T.P f p' k):=by
 obtain⟨fn,h1,h2,_⟩:=hK.bodies.a f hf;have h1':T.v.funcs[f]? =some fn:=(ADf hK hf hX).trans h1
 obtain⟨c,hc⟩: ∃c,fn.body=some c:=by
  cases h:fn.body with|none=>rw[h] at h2;cases h2|some c=>exact⟨c,rfl⟩
 have e: ∀(P:Program) (q:Array Value),P.funcs[f]? =some fn->Frame.enter P f q k={fn:=f,tmps:=q++Array.replicate (fn.ntmps - q.size) undef,todo:=[.code c],defers:=[],mode:=.run,kind:=k}:=by
  intro P q h;unfold Frame.enter;simp[h,hc]
 rw[e T.v p h1',e T.P p' h1];exact⟨rfl,⟨hf,hX⟩,by rw[<- hp.1];exact hp.append (Ar.replicate .undef _),.cons (.code (hK.body f fn hf hX h1 c hc)) .nil,.nil,.run,⟨rfl,hk⟩,trivial,λ_ h=>(by cases h),.plain (.cons (λ_ _ e=>by cases e) .nil)⟩
theorem zN{P:Program}{fb:Fb}{G:Nat}{op:Op}(h:Va P Fb.small G op=true):Va P fb G op=true:=by
 have hd: ∀x,Hl Fb.small G x=true->Hl fb G x=true:=λx hx=>by cases x<;>first|exact hx|cases hx
 have hm: ∀{name:String},Qb P Fb.small name=true->Qb P fb name=true:=λ{name} hx=>by
  unfold Qb at hx⊢;rw[CO] at hx⊢;intro t ht;have h1:=hx t ht;split at h1
  ·split at h1
   ·exfalso;simp only[BF] at h1;obtain⟨_,h2⟩:=h1;split at h2;simp only[BF] at h2;cases h2.1;cases h2
   rfl
  rfl
 have hf: ∀{x:Operand} {n:Nat},TR Fb.small.m x n=true->TR fb.m x n=true:=λ{x n} hx=>by
  cases x<;>first|rfl|(simp only[TR,decide_eq_true_eq] at hx⊢;exact Ah hx (BP _))
 have key: ∀{c:Call},GL P Fb.small G c.callee c.argTypes c.args=true->GL P fb G c.callee c.argTypes c.args=true:=λ{c} h2=>by
  generalize c.callee=q at h2⊢
  cases q with
  |value f=>
   cases f with|func g=>simp[GL,Fb.small] at h2|_=>simp[GL,Fb.small] at h2
  |invoke r name=>
   simp only[GL,BF] at h2⊢;exact⟨hd _ h2.1,hm h2.2⟩
  |builtin b=>cases b<;>exact h2
 unfold Va at h⊢;rw[BF] at h⊢;refine⟨?_,?_⟩
 ·rw[F6] at h⊢;exact λx hx=>hd x (h.1 x hx)
 have h2:=h.2;clear h;cases op<;>first|exact h2|skip
 case unOp op t x=>cases op<;>first|exact h2|cases h2
 case makeFunc f _ _=>cases f<;>first|exact h2|cases h2
 case defer c=>simp[Fb.small] at h2
 case call c=>exact key h2
theorem Yd{P:Program}{fb:Fb}{G:Nat}{d r:Bool}: ∀{c:Code},JI P Fb.small G false false c=true->JI P fb G d r c=true:=by
 intro c
 induction c with
 |region n ops dr=>
  intro h;simp only[JI,F6,BF,GH] at h⊢;refine⟨λo ho=>⟨zN (h.1 o ho).1,.inr ((h.1 o ho).2.resolve_left AY)⟩,?_⟩;refine CO.2 λi _=>?_
  have:O9 fb ops i=none:=by
   unfold O9
   cases e:ops[i]? with
   |none=>rfl|some o=>
    simp only;have ho:=(h.1 o (Jy e)).1
    have:Uj fb.cp o.op=none:=by
     unfold Uj;split
     ·rename_i c hc;rw[hc] at ho;split
      ·rename_i f hf;exfalso;unfold Va at ho;simp only[hf,BF] at ho;have h2:=ho.2;simp[GL,Fb.small] at h2
      rfl
     rfl
    rw[this]
  rw[this]
 |seq a b ia ib=>intro h;simp only[JI,BF] at h⊢;exact⟨ia h.1,ib h.2⟩
 |cond c a b ia ib=>intro h;simp only[JI,BF] at h⊢;exact⟨⟨(by have:=h.1.1;cases c<;>first|exact this|(cases this)),ia h.1.2⟩,ib h.2⟩
 |block n c ih=>exact ih|loop c ih=>exact ih|scope c ih=>exact ih|rangeFunc f ps a b _ _=>intro h;simp[JI,Fb.small] at h
 |_=>intro _;rfl
theorem ZY(hK:Fits K T N)(hh:K.F.h){l l':Nat}{g:FuncId}{p p':Array Value}{ca cb:Code}(hl:ρ.r l l')(hp:Ar K.F ρ p p')(hg:K.F.r g)(ha:K.F.c ca)(hb:K.F.c cb){k:CallKind}(hk:k=.normal\/k=.deferred):
  DF K T ρ (Frame.round l g p ca cb k) (Frame.round l' g p' ca cb k):=
 ⟨rfl,hK.lr hh _ hg.1,hp,.cons (.code (Yd ha.1)) (.cons .beginRound (.cons (.code (Yd hb.1)) .nil)),.nil,.run,⟨rfl,hk⟩,hl,λ_ h=>(by cases h),.plain (.cons (λ_ _ e=>by cases e) (.cons (λ_ _ e=>by cases e) (.cons (λ_ _ e=>by cases e) .nil)))⟩
theorem AEs{f f':Frame}(h:DF K T ρ f f'):(f.kind== .early)=false/\(f'.kind== .early)=false:=by
 rw[h.kind.1];rcases h.kind.2 with e|e<;>rw[e]<;>exact⟨rfl,rfl⟩
theorem Uk(hK:Fits K T N)(hW:DD K.F N ρ v w){f f':Frame}(hf:DF K T ρ f f'){ts ts':List Frame}(hts:Ci (IB K T ρ) ts ts'){s s':Sem Next}(hs:AX T K.F N (ji K.F) s ρ s')
  (hq:NC K f\/∃g p v',K.fb.ch=some g/\s.run T.v v=.ok (.enter g p) v')
  (ht: ∀g1 v1 es,stepG.apply T.v true f (ts++(dr::ds)) none s v=.go g1 v1 es->Tp v w (v1.drawn - v.drawn)):
  Ro K T N ρ v w dr ds cs' (stepG.apply T.v true f (ts++(dr::ds)) none s v) (stepG.apply T.P true f' (ts'++cs') none s' w):=by
 have hc:=hs.sort hW;have hr:Tp v w ((KO (s.run T.v v)).drawn - v.drawn)->zL T.p K.F N (ji K.F) ρ v w (s.run T.v v) (s'.runT T.P w #[]):=λh=>hs.sound hW h;have k1:=AEs hf;unfold stepG.apply at ht⊢;simp only[if_true,k1.1,k1.2,Ak,if_false] at ht⊢;rw[Sem.runT_eq] at ht⊢;have hdr:=hs.drawn hW;generalize s.events T.v v #[]=eu at ht⊢;generalize s.run T.v v=r at hr hc ht hdr hq⊢;generalize s'.runT T.P w #[]=r' at hr⊢;have mono: ∀{ρ'},ρ.le ρ'->Ci (IB K T ρ') ts ts':=λl=>CY (λ_ _ x=>x.mono l) hts
 cases r with
 |ok n v'=>
  have hT:Tp v w (v'.drawn - v.drawn):=by
   obtain⟨ρ',b,hq⟩:=hc
   cases hq with|value _=>exact ht _ _ _ rfl|skip=>exact ht _ _ _ rfl|enter _ _ _ _=>exact ht _ _ _ rfl|round _ _ _ _ _ _=>exact ht _ _ _ rfl|defer _ _ _=>exact ht _ _ _ rfl|seq _ _=>exact ht _ _ _ rfl
  obtain⟨ρ',b,w',u,rfl,jo,hst⟩:=hr hT;clear hr hc ht hT;have hsub:Stp K.F N ρ ρ' v w v' w' (seen T.P f'.fn u++ #[]):=hst.sub λe he=>by simp at he;exact Du he
  have hnc:(∀g p,n=.enter g p->K.X g=false)->NC K f:=λh=>hq.elim id λ⟨g,p,u,h1,h2⟩=>by
   (cases h2);have:=h g p rfl;rw[(hK.ch g h1).2] at this;cases this
  have hcx: ∀g p,n=.enter g p->K.fb.ch=some g\/NC K f:=λg p e=>hq.elim .inr λ⟨g',p',u,h1,h2⟩=>by
   rw[e] at h2;(cases h2);exact .inl h1
  clear hq
  cases jo with
  |value hv=>exact .inl ⟨_,_,_,_,ρ',w',_,rfl,rfl,(hf.mono hst.le).finish hv (.inl (hnc λg p e=>by cases e)),mono hst.le,hsub⟩|skip=>exact .inl ⟨_,_,_,_,ρ',w',_,rfl,rfl,(hf.mono hst.le).finish .undef (.inr (.inl rfl)),mono hst.le,hsub⟩| @enter g p p' hg ha APA hp=>
   by_cases hX:K.X g=true
   ·have fin:Ro K T N ρ v w dr ds cs' (GStep.after (seen T.v f.fn eu) (.go {frame:=Frame.enter T.v g p .normal,callers:=f::(ts++(dr::ds)),status:=.running,dying:=none} v'))
      (GStep.after (seen T.P f'.fn u) (.go {frame:=Frame.enter T.P g p' .normal,callers:=f'::(ts'++cs'),status:=.running,dying:=none} w')):=
     .inr (.inl ⟨g,_,_,.normal,_,_,_,_,ρ',w',_,hg,⟨hX,ha,APA,hcx g p rfl⟩,rfl,rfl,hp,hf.mono hst.le,mono hst.le,hsub,rfl⟩)
    have ht:=hf.todo;generalize f.todo=A at ht⊢;generalize f'.todo=B at ht⊢
    cases ht with|nil=>exact fin|cons hi _=>cases hi<;>exact fin
   have fin:Ro K T N ρ v w dr ds cs' (GStep.after (seen T.v f.fn eu) (.go {frame:=Frame.enter T.v g p .normal,callers:=f::(ts++(dr::ds)),status:=.running,dying:=none} v'))
     (GStep.after (seen T.P f'.fn u) (.go {frame:=Frame.enter T.P g p' .normal,callers:=f'::(ts'++cs'),status:=.running,dying:=none} w')):=
    .inl ⟨_,f::ts,_,f'::ts',ρ',w',_,rfl,rfl,Na hK hg (by simpa using hX) hp (.inl rfl),.cons ⟨hf.mono hst.le,hnc λg' p' e=>by cases e;simpa using hX⟩ (mono hst.le),hsub⟩
   have ht:=hf.todo;generalize f.todo=A at ht⊢;generalize f'.todo=B at ht⊢
   cases ht with|nil=>exact fin|cons hi _=>cases hi<;>exact fin
  | @round l l' g p p' ca cb hh hl hp hg ha hb=>
   have fin:Ro K T N ρ v w dr ds cs' (GStep.after (seen T.v f.fn eu) (.go {frame:=Frame.round l g p ca cb .normal,callers:=f::(ts++(dr::ds)),status:=.running,dying:=none} v'))
     (GStep.after (seen T.P f'.fn u) (.go {frame:=Frame.round l' g p' ca cb .normal,callers:=f'::(ts'++cs'),status:=.running,dying:=none} w')):=
    .inl ⟨_,f::ts,_,f'::ts',ρ',w',_,rfl,rfl,ZY hK hh hl hp hg ha hb (.inl rfl),.cons ⟨hf.mono hst.le,hnc λg p e=>by cases e⟩ (mono hst.le),hsub⟩
   exact fin
  |defer hlx hnx hd=>
   refine .inl ⟨_,_,_,_,ρ',w',_,rfl,rfl,DF.finish (f:={f with defers:=_::f.defers}) (f':={f' with defers:=_::f'.defers}) ?_ .undef (.inr (.inl rfl)),mono hst.le,hsub⟩;have hf:=hf.mono hst.le;exact⟨hf.fn,hf.ok,hf.tmps,hf.todo,.cons hd hf.defers,hf.mode,hf.kind,hf.round,λd hd=>(AA.1 hd).elim (λe=>.inr ⟨hlx,by rw[e];exact hnx⟩) (hf.nd d),hf.rg⟩
  | @seq p _ hp hq=>
   rw[hst.tok.2] at hq;have fin: ∀r2,Ro K T N ρ v w dr ds cs' (GStep.after (seen T.v f.fn eu) (.go {frame:=Frame.enter T.v K.z p .normal,callers:=f::(ts++(dr::ds)),status:=.running,dying:=none} v')) r2:=λ_=>.inr (.inr (.inr (.inr ⟨_,.normal,_,_,hq,hp,hst.drawn.1,rfl⟩)));have ht:=hf.todo;generalize f.todo=A at ht⊢;generalize f'.todo=B at ht⊢
   cases ht with|nil=>exact fin _|cons hi _=>cases hi<;>exact fin _
 |halt x v'=>
  cases x with
  |panic x=>
   rcases hr (ht _ _ _ rfl) with P8|⟨ρ',x',w',u,rfl,hx,hst⟩
   ·refine .inr (.inr (.inr (.inl ⟨P8,?_,_,_,rfl,SC hf (by intro e he;simp at he;subst he;rfl)⟩)));exact hdr
   (have hsub:Stp K.F N ρ ρ' v w v' w' (seen T.P f'.fn u++ #[]):=hst.sub λe he=>by simp at he;exact Du he);exact .inl ⟨_,_,_,_,ρ',w',_,rfl,rfl,(hf.mono hst.le).raise (.cons ⟨hx,rfl,⟨rfl,rfl⟩,rfl⟩ .nil),mono hst.le,hsub⟩
  |unsupported u=>cases u<;>first|exact hc.elim|trivial
  |_=>first|exact hc.elim|trivial
end
section
variable {K:Kit} {T:Twin} {N:Nat} {ρ ρ':Rn} {v w v' w':World} {dr:Frame} {ds cs':List Frame} {mn:Bool}
theorem Nb{f f':Frame}{ts ts':List Frame}{eu es es0:Array Event}(hf:DF K T ρ' f f')(hts:Ci (IB K T ρ') ts ts')(hst:Stp K.F N ρ ρ' v w v' w' es)(he: ∀e∈es0,e∈es):
  Ro K T N ρ v w dr ds cs' (.go (G f (ts++(dr::ds))) v' eu) (.go (G f' (ts'++cs')) w' es0):=
 .inl ⟨_,_,_,_,ρ',w',_,rfl,rfl,hf,hts,hst.sub he⟩
theorem qi{F:Fs}{c c':List PanicEntry}(h:Ci (eG F ρ) c c'):c.dropWhile (!·.goexit)=[]/\c'.dropWhile (!·.goexit)=[]:=by
 induction h with|nil=>exact⟨rfl,rfl⟩|cons hp _ ih=>simp[hp.g.1,hp.g.2,ih.1,ih.2]
theorem zO{f f':Frame}{ts ts':List Frame}{eu es es0:Array Event}(hf:DF K T ρ' f f')(hts:Ci (IB K T ρ') ts ts')(hst:Stp K.F N ρ ρ' v w v' w' es)(he: ∀e∈es0,e∈es){x x':Value}(hx:Au K.F ρ' x x'):
  Ro K T N ρ v w dr ds cs' (GStep.after eu (doReturn T.v true f (ts++(dr::ds)) none x v')) (GStep.after es0 (doReturn T.P mn f' (ts'++cs') none x' w')):=by
 have he': ∀e∈es0++ #[],e∈es:=λe h=>he e (by simpa using h);obtain⟨hk1,hk2⟩:=hf.kind
 cases hts with
 |nil=>
  unfold doReturn;simp only[List.nil_append];rcases hk2 with e|e<;>rw[e]
  ·refine .inr (.inr (.inl ⟨_,rfl,⟨λ_=>.inr (.inl ⟨_,rfl⟩),λch h hu=>⟨ch,by rw[vG];exact h,hu⟩⟩,λc0' zM ec hm hm'=>.inl ⟨x,x',ρ',w',es0++ #[],rfl,?_,hx,hst.sub he'⟩,hst.drawn.1⟩));subst ec;simp only[hk1,e];rfl
  refine .inr (.inr (.inl ⟨_,rfl,⟨λhm=>.inl (by rw[hm]),λch h hu=>⟨ch,?_,hu⟩⟩,λc0' zM ec hm hm'=>.inr (.inl ⟨ρ',w',es0++ #[],by rw[hm],?_,hst.sub he'⟩),hst.drawn.1⟩))
  ·rw[h]
   cases ch with
   |nil=>exact h|cons a ch=>
    obtain⟨av,ar,ag⟩:=a;have:ar=false:=hu ⟨av,ar,ag⟩ AY;subst this;exact h
  subst ec;simp only[hk1,e,hm'];rfl
 | @cons t t' ts ts' ht hts=>
  unfold doReturn;simp only[List.cons_append,hk1];rcases hk2 with e|e<;>rw[e]
  ·exact Nb (ht.fr.finish hx (.inl ht.nc)) hts hst he'
  simp only;have hm:=ht.fr.mode
  have fin: ∀(a b:Frame),DF K T ρ' a b->Ro K T N ρ v w dr ds cs' (GStep.after eu (.go {frame:=a,callers:=ts++(dr::ds),status:=.running,dying:=none} v'))
    (GStep.after es0 (.go {frame:=b,callers:=ts'++cs',status:=.running,dying:=none} w')):=λa b h=>Nb h hts hst he'
  refine fin _ _ ?_;generalize t.mode=m at hm⊢;generalize t'.mode=m' at hm⊢
  cases hm with
  |run=>exact ht.fr|returning=>exact ht.fr|panicking hc=>
   cases hc with
   |nil=>exact ht.fr| @cons a b c c' hp hc=>
    obtain⟨av,ar,ag⟩:=a;obtain⟨bv,br,bg⟩:=b;obtain⟨_,h2,_⟩:=hp;simp only at h2;subst h2;(cases br);exact ht.fr;simp only[(qi hc).1,(qi hc).2];exact ht.fr.WJ .returning
theorem DF.AEt{f f':Frame}(h:DF K T ρ f f')(e:f.todo=[]):f'.todo=[]:=by
 have ht:=h.todo;rw[e] at ht;generalize f'.todo=b at ht;cases ht;rfl
theorem DF.AB4{f f':Frame}(h:DF K T ρ f f'){i:Item}{l:List Item}(e:f.todo=i::l): ∃i' l',f'.todo=i'::l'/\J9 K f.roundOf.isNone (K.fb.lr f.fn) ρ i i'/\Ci (J9 K f.roundOf.isNone (K.fb.lr f.fn) ρ) l l':=by
 have ht:=h.todo;rw[e] at ht;generalize f'.todo=b at ht
 cases ht with|cons h1 h2=>exact⟨_,_,rfl,h1,h2⟩
theorem ZZ{α β:Type}{Q:Rn->α->β->Prop}{s:Sem α}{s':Sem β}(hs:AX T K.F N Q s ρ s')(hW:DD K.F N ρ v w){cont:Result α->GStep}{P9:Result β->GStep}{es:Array Event}{fn':FuncId}
  (AB5: ∀h v',Halt.still h->∃o u e,cont (.halt h v')=.ended o u e)
  (APB: ∀x v',(∃o u e,cont (.halt (.panic x) v')=.ended o u e)\/((∃f1 Dj e,cont (.halt (.panic x) v')=.go (G f1 (Dj++(dr::ds))) v' e/\∃ch,f1.mode=.panicking ch/\Me ch)/\
   ∀ρ' x' w' u eu,Au K.F ρ' x x'->Stp K.F N ρ ρ' v w v' w' u->Ro K T N ρ v w dr ds cs' (GStep.after eu (cont (.halt (.panic x) v'))) (GStep.after (seen T.P fn' u) (P9 (.halt (.panic x') w')))))
  (hgo: ∀a v' ρ₁ b₁,Q ρ₁ a b₁->(Tp v w (v'.drawn - v.drawn)\/True)->((∃g e,cont (.ok a v')=.go g v' e)\/∃o u e,cont (.ok a v')=.ended o u e)/\
   ∀ρ' b w' u eu,Q ρ' a b->Stp K.F N ρ ρ' v w v' w' u->Ro K T N ρ v w dr ds cs' (GStep.after eu (cont (.ok a v'))) (GStep.after (seen T.P fn' u) (P9 (.ok b w'))))
  (ht: ∀g1 v1 e,GStep.after es (cont (s.run T.v v))=.go g1 v1 e->Tp v w (v1.drawn - v.drawn)):
  Ro K T N ρ v w dr ds cs' (GStep.after es (cont (s.run T.v v))) (GStep.after (seen T.P fn' (s'.runT T.P w #[]).2) (P9 (s'.runT T.P w #[]).1)):=by
 have hc:=hs.sort hW;have hr:Tp v w ((KO (s.run T.v v)).drawn - v.drawn)->zL T.p K.F N Q ρ v w (s.run T.v v) (s'.runT T.P w #[]):=λh=>hs.sound hW h;have hd:=hs.drawn hW;generalize s.run T.v v=r at hr hc ht hd⊢;generalize s'.runT T.P w #[]=r' at hr⊢
 cases r with
 |ok a v'=>
  obtain⟨ρ₁,b₁,hq⟩:=hc;obtain⟨h1,h2⟩:=hgo a v' ρ₁ b₁ hq (.inr trivial);rcases h1 with ⟨g,e,h1⟩|⟨o,u,e,h1⟩
  ·have hT:Tp v w (v'.drawn - v.drawn):=ht g v' (es++e) (by rw[h1];rfl);obtain⟨ρ',b,w',u,rfl,hq',hst⟩:=hr hT;exact h2 ρ' b w' u es hq' hst
  rw[h1];trivial
 |halt x v'=>
  have still:Halt.still x->Ro K T N ρ v w dr ds cs' (GStep.after es (cont (.halt x v'))) (GStep.after (seen T.P fn' r'.2) (P9 r'.1)):=λh=>by
   obtain⟨o,u,e,h1⟩:=AB5 x v' h;rw[h1];trivial
  cases x with
  |panic x=>
   rcases APB x v' with ⟨o,u,e,h1⟩|⟨⟨f1,Dj,e,h1,h3⟩,h2⟩;rw[h1];trivial;have hT:Tp v w (v'.drawn - v.drawn):=ht _ v' (es++e) (by rw[h1];rfl);rcases hr hT with P8|⟨ρ',x',w',u,rfl,hx,hst⟩
   ·rw[h1];exact .inr (.inr (.inr (.inl ⟨P8,hd,f1,Dj,rfl,h3⟩)))
   exact h2 ρ' x' w' u es hx hst
  |_=>exact still hc
end
section
variable {K:Kit} {T:Twin} {N:Nat} {ρ ρ':Rn} {v w v' w':World} {dr:Frame} {ds cs':List Frame} {mn:Bool}
theorem Ul(hW:DD K.F N ρ v w){f f':Frame}(hf:DF K T ρ f f'){ts ts':List Frame}(hts:Ci (IB K T ρ) ts ts'){j:Option Code}(hj: ∀c,j=some c->JI K.P Fb.small K.G false false c=true){lost lost':GStep}(hl: ∃o u e,lost=.ended o u e)
  {cnd:Prop} [Decidable cnd]
  {R R':GStep} (hR:R=match f.roundOf with
   |none=>if cnd then GStep.go {frame:={f with mode:=.returning},callers:=ts++(dr::ds),status:=.running,dying:=none} v else lost
   |some l=>GStep.after (seen T.v f.fn ((Instr.endRound l j).runT T.v v #[]).2) (match ((Instr.endRound l j).runT T.v v #[]).1 with
    | .ok x w=>doReturn T.v true f (ts++(dr::ds)) none x w
    | .halt _ w=>.ended (.stuck "range over a function: no such loop" (f.pos T.v)) w))
  (hR':R'=match f'.roundOf with
   |none=>if cnd then GStep.go {frame:={f' with mode:=.returning},callers:=ts'++cs',status:=.running,dying:=none} w else lost'
   |some l=>GStep.after (seen T.P f'.fn ((Instr.endRound l j).runT T.P w #[]).2) (match ((Instr.endRound l j).runT T.P w #[]).1 with
    | .ok x w=>doReturn T.P mn f' (ts'++cs') none x w
    | .halt _ w=>.ended (.stuck "range over a function: no such loop" (f'.pos T.P)) w))
  (ht: ∀g1 v1 es,R=.go g1 v1 es->Tp v w (v1.drawn - v.drawn)):Ro K T N ρ v w dr ds cs' R R':=by
 have hro:=hf.round
 cases h1:f.roundOf with
 |none=>
  have h2:f'.roundOf=none:=by
   rw[h1] at hro
   cases h2:f'.roundOf with|none=>rfl|some _=>rw[h2] at hro;exact hro.elim
  have h3:=hf.WJ (m:=.returning) (m':=.returning) .returning;simp only[h1,h2] at h3;simp only[h1] at hR;simp only[h2] at hR';subst hR hR';split;exact Nb h3 hts (Stp.refl hW) AY;obtain⟨o,u,e,rfl⟩:=hl;trivial
 |some l=>
  obtain⟨l',h2,hl2⟩: ∃l',f'.roundOf=some l'/\ρ.r l l':=by
   rw[h1] at hro
   cases h2:f'.roundOf with|none=>rw[h2] at hro;exact hro.elim|some l'=>rw[h2] at hro;exact⟨l',rfl,hro⟩
  rw[h1] at hR;rw[h2] at hR';simp only at hR hR';rw[Sem.runT_eq] at hR;subst hR hR'
  refine ZZ (Q:=QV K.F) (cont:=λr=>match r with
    | .ok x w=>doReturn T.v true f (ts++(dr::ds)) none x w
    | .halt _ w=>.ended (.stuck "range over a function: no such loop" (f.pos T.v)) w)
   (P9:=λr=>match r with
    | .ok x w=>doReturn T.P mn f' (ts'++cs') none x w
    | .halt _ w=>.ended (.stuck "range over a function: no such loop" (f'.pos T.P)) w) (pU hl2 (j:=j) (λhx c hcj=>⟨hj c hcj,hx.choose_spec.2⟩)) hW (λh v' _=>⟨_,_,_,rfl⟩) (λx v'=>.inl ⟨_,_,_,rfl⟩) (λa v' ρ₁ b₁ _ _=>⟨?_,?_⟩) ht
  ·cases hts with
   |nil=>
    rcases hf.kind.2 with e|e;exact .inl ⟨_,_,by simp only[doReturn,e,List.nil_append];rfl⟩;exact .inl ⟨_,_,by simp only[doReturn,e,List.nil_append];rfl⟩
   |cons _ _=>
    rcases hf.kind.2 with e|e;exact .inl ⟨_,_,by simp only[doReturn,e,List.cons_append];rfl⟩;exact .inl ⟨_,_,by simp only[doReturn,e,List.cons_append];rfl⟩
  intro ρ' b w' u eu hq hst;exact zO (hf.mono hst.le) (CY (λ_ _ x=>x.mono hst.le) hts) hst (λe he=>Du he) hq
theorem Tp.shift{v w v1 w1:World}{n:Nat}(h:Tp v w n)(hv:v1.tape=v.tape)(hw:w1.tape=w.tape)(hd:v.drawn<=v1.drawn/\v1.drawn+w.drawn=v.drawn+w1.drawn):Tp v1 w1 (n - (v1.drawn - v.drawn)):=by
 intro i hi q;rw[hv,hw];have:=h (v1.drawn - v.drawn+i) Ac q;(have e1:v.drawn+(v1.drawn - v.drawn+i)=v1.drawn+i:=by omega);(have e2:w.drawn+(v1.drawn - v.drawn+i)=w1.drawn+i:=by omega);rw[e1,e2] at this;exact this
theorem AEu{α β:Type}{Q:Rn->α->β->Prop}{s:Sem α}{s':Sem β}(hs:AX T K.F N Q s ρ s')(hW:DD K.F N ρ v w){cont:Result α->GStep}{P9:Result β->GStep}{es:Array Event}{fn':FuncId}
  (AB5: ∀h v',∃o u e,cont (.halt h v')=.ended o u e)
  (hgo: ∀a v' ρ' b w',Q ρ' a b->DD K.F N ρ' v' w'->ρ.le ρ'->(∀g1 v1 e,cont (.ok a v')=.go g1 v1 e->Tp v' w' (v1.drawn - v'.drawn))->Ro K T N ρ' v' w' dr ds cs' (cont (.ok a v')) (P9 (.ok b w')))
  (ht: ∀g1 v1 e,GStep.after es (cont (s.run T.v v))=.go g1 v1 e->Tp v w (v1.drawn - v.drawn)):
  Ro K T N ρ v w dr ds cs' (GStep.after es (cont (s.run T.v v))) (GStep.after (seen T.P fn' (s'.runT T.P w #[]).2) (P9 (s'.runT T.P w #[]).1)):=by
 have h0:=hs.sound hW.tied (λi _ q=>by simp[tied]);have hr:Tp v w ((KO (s.run T.v v)).drawn - v.drawn)->zL T.p K.F N Q ρ v w (s.run T.v v) (s'.runT T.P w #[]):=λh=>hs.sound hW h;generalize s.run T.v v=r at hr h0 ht⊢;generalize s'.runT T.P (tied v w) #[]=r0 at h0;generalize s'.runT T.P w #[]=r' at hr⊢
 cases r with
 |halt x v'=>obtain⟨o,u,e,h1⟩:=AB5 x v';rw[h1];trivial
 |ok a v'=>
  obtain⟨ρ0,b0,w0,u0,rfl,hq0,YH⟩:=h0
  have hfull: ∀n,Tp v' w0 n:=λn i _ q=>by
   rw[YH.tv.1,YH.tw.1];have:=YH.drawn;simp only[tied] at this⊢;congr 1;omega
  have hs0:=hgo a v' ρ0 b0 w0 hq0 YH.rel YH.le (λ_ v1 _ _=>hfull _)
  cases hc:cont (.ok a v') with
  |go g1 v1 e=>
   rw[hc] at hs0
   have hmono:v'.drawn<=v1.drawn:=by
    rcases hs0 with ⟨_,_,_,_,_,_,_,_,_,_,_,h⟩|⟨_,_,_,_,_,_,_,_,_,_,_,_,_,_,_,_,_,_,h,_⟩|⟨_,_,_,_,h⟩|⟨_,h,_⟩|⟨_,_,_,_,_,_,h,_⟩;exact h.drawn.1;exact h.drawn.1;exact h;exact h;exact h
   have hT:Tp v w (v1.drawn - v.drawn):=ht g1 v1 (es++e) (by rw[hc];rfl);have hd:=YH.drawn.1;obtain⟨ρ',b,w',u,rfl,hq,hst⟩:=hr (λi hi q=>hT i (by simp only[KO] at hi;omega) q)
   have h2:=hgo a v' ρ' b w' hq hst.rel hst.le (λg2 v2 e2 h=>by
    rw[hc] at h;(cases h);have:=hT.shift hst.tv.1 hst.tw.1 hst.drawn;have e3:v1.drawn - v.drawn - (v'.drawn - v.drawn)=v1.drawn - v'.drawn:=by omega
    rwa[e3] at this)
   rw[hc] at h2;rcases h2 with ⟨f1,Dj,f1',Gj,ρ1,w1,es',h3,h4,h5,h6,h7⟩|⟨X,p,p',k,f1,Dj,f1',Gj,ρ1,w1,es',hX,hX',h3,h4,h5,h6,h7,h8,h9⟩|⟨c,h3,h4,h5,h6⟩|⟨P8,h3,h4⟩|⟨p,k,f1,Dj,h0,h3,h4,h5⟩
   ·refine .inl ⟨f1,Dj,f1',Gj,ρ1,w1,seen T.P fn' u++es',h3,by simp only[h4];rfl,h5,h6,?_⟩;exact (hst.trans h7 hW).sub λx hx=>(Ce.1 hx).elim (λh=>Ce.2 (.inl (Du h))) λh=>Ce.2 (.inr h)
   ·refine .inr (.inl ⟨X,p,p',k,f1,Dj,f1',Gj,ρ1,w1,seen T.P fn' u++es',hX,hX',h3,by simp only[h4];rfl,h5,h6,h7,?_,h9⟩);exact (hst.trans h8 hW).sub λx hx=>(Ce.1 hx).elim (λh=>Ce.2 (.inl (Du h))) λh=>Ce.2 (.inr h)
   exact .inr (.inr (.inl ⟨c,h3,h4,h5.after hst hW λ_ he=>Du he,Ac⟩));exact .inr (.inr (.inr (.inl ⟨P8,Ac,h4⟩)));exact .inr (.inr (.inr (.inr ⟨p,k,f1,Dj,by rw[<- hst.tok.2];exact h0,h3,Ac,h5⟩)))
  |ended o u e=>trivial|_=>rw[hc] at hs0;exact hs0.elim
theorem vH{F:Fs}{p p':Array Value}(h:Ar F ρ p p')(ops:Array Oper):yielded ops p=yielded ops p':=by
 funext j;unfold yielded
 cases (ops[j]?).bind (·.dst) with
 |none=>rfl|some d=>
  simp only[Option.bind_some]
  cases hv:p[d]? with
  |none=>rw[h.none hv]|some x=>
   obtain⟨x',hx',hr⟩:=h.get hv;rw[hx']
   cases hr with
   |flat _=>rfl|tok hc ht=>cases x'<;>first|rfl|exact CU ht
   |mf _ hm=>cases x'<;>first|rfl|exact CU hm
   |_=>rfl
theorem vI{fb:Fb}{ops:Array Oper}{j:Nat}{t:Tmp}(h:Ja fb ops j=some t){o:Oper}(ho:ops[j]? =some o): ∃c g,o.op=.call c/\c.callee=.value (.func g)/\fb.ch=some g:=by
 unfold Ja at h;rw[ho] at h;simp only at h;split at h
 ·rename_i c hc;unfold Uj at hc;split at hc
  ·rename_i c' hop;split at hc
   ·rename_i f hf;split at hc
    ·rename_i hg;exact⟨c',f,hop,hf,by simpa using hg⟩
    cases hc
   cases hc
  cases hc
 cases h
theorem zQ{F:Fs}(hB:GM T F N){g:FuncId}(hg:F g){o:Oper}{c:Call}(h1:o.op=.call c)(h2:c.callee=.value (.func g)){ev:Operand->Value}(hev: ∀g,ev (.func g)=.func (.func g) #[] #[]){v:World}:
  (execOp ev o).run T.v v=.ok (.enter g (#[]++c.args.map ev++ #[])) v:=by
 obtain⟨fn,e1,e2,e3⟩:=hB.v g hg;unfold execOp;simp only[h1,resolve,h2,hev];show (callFunc g (#[]++c.args.map ev++ #[])).run T.v v=_;unfold callFunc
 show (match T.v.funcs[g]? with
  |none=>stuck "call: no such function"
  |some fn=>_:Sem Next).run T.v v=_
 simp only[e1,e2,e3,Ak,if_false];rfl
theorem AGA{f f':Frame}(hf:DF K T ρ f f')(hm:f.mode=.run){ops:Array Oper}{j:Nat}{rest:List Nat}{l:List Item}(e:f.todo=.inRegion ops (j::rest)::l){o:Oper}(ho:ops[j]? =some o)(c:Call)(g:FuncId)(h1:o.op=.call c)(h2:c.callee=.value (.func g)):K.F.dk g (c.args.map f.eval):=by
 intro hcp x hx;have ht:=hf.todo;rw[e] at ht
 have APC:au K.fb ops=true:=by
  generalize f'.todo=b at ht
  cases ht with|cons hi _=>cases hi with|inRegion hc=>simp only[JI,BF] at hc;exact hc.2
 have hct:Uj K.fb.cp o.op=some c:=by
  unfold Uj;simp only[h1,h2,hcp,beq_self_eq_true,if_true]
 have hlt:j<ops.size:=(BK.1 ho).1;have h3:=CO.1 APC j (GG.2 hlt);rw[Dl] at hx;obtain⟨a,ha,rfl⟩:=DV.1 hx
 cases a with
 |tmp t=>
  have hco:O9 K.fb ops j=some (some t):=by
   unfold O9;simp only[ho,hct,ha]
  rcases hf.rg.2 hm _ _ _ e j t hco with h4|h4;exact h4;obtain⟨i,hi,_⟩:=h4 [] rest rfl;cases hi
 |_=>
  have hco:O9 K.fb ops j=some none:=by
   unfold O9;simp only[ho,hct,ha]
  rw[hco] at h3;cases h3
theorem AEv(hK:Fits K T N)(hW:DD K.F N ρ v w)(hG: ∀g,g<K.G->ρ.r g g){f f':Frame}(hf:DF K T ρ f f')(hmr:f.mode=.run){ts ts':List Frame}(hts:Ci (IB K T ρ) ts ts')
  (ht: ∀g1 v1 es,stepG.exec T.v true true f (ts++(dr::ds)) none v=.go g1 v1 es->Tp v w (v1.drawn - v.drawn)):
  Ro K T N ρ v w dr ds cs' (stepG.exec T.v true true f (ts++(dr::ds)) none v) (stepG.exec T.P mn true f' (ts'++cs') none w):=by
 have YH:=Stp.refl hW
 have hgo: ∀{l l':List Item},Ci (J9 K f.roundOf.isNone (K.fb.lr f.fn) ρ) l l'->I8 l->Ro K T N ρ v w dr ds cs' (.go {frame:={f with todo:=l},callers:=ts++(dr::ds),status:=.running,dying:=none} v)
   (.go {frame:={f' with todo:=l'},callers:=ts'++cs',status:=.running,dying:=none} w):=λh hn=>Nb (hf.ZX h (.plain hn)) hts YH AY
 have hev:=hf.ev hG;unfold stepG.exec at ht⊢
 cases e:f.todo with
 |nil=>
  have e':=hf.AEt e;simp only[e,e'] at ht⊢;exact Ul hW hf hts (j:=none) AY (cnd:=True) (lost:=.ended (.stuck "exit, goto: no such block or label" (f.pos T.v)) v) (lost':=.ended (.stuck "exit, goto: no such block or label" (f'.pos T.P)) w) ⟨_,_,_,rfl⟩ (by simp only[e];rfl) (by simp only[e'];rfl) ht
 |cons i l=>
  obtain⟨i',l',e',hi,hl⟩:=hf.AB4 e;(have hnl:I8 l:=by have:=hf.rg.1;rw[e] at this;exact this);have vJ: ∀{c:Code} {l:List Item},I8 l->I8 (.code c::l):=λh=>.cons (λ_ _ e=>by cases e) h
  cases hi with
  | @code c hc=>
   cases c<;>simp only[e,e'] at ht⊢
   case ret=>exact Ul hW hf hts (j:=some .ret) (λc h=>by cases h;rfl) (cnd:=True) (lost:=.ended (.stuck "exit, goto: no such block or label" (f.pos T.v)) v) (lost':=.ended (.stuck "exit, goto: no such block or label" (f'.pos T.P)) w) ⟨_,_,_,rfl⟩ (by simp only[e];rfl) (by simp only[e'];rfl) ht
   case skip=>exact hgo hl hnl
   case label n=>exact hgo hl hnl
   case seq a b=>
    simp only[JI,BF] at hc;exact hgo (.cons (.code hc.1) (.cons (.code hc.2) hl)) (vJ (vJ hnl))
   case cond c a b=>
    simp only[JI,BF] at hc;have hv:=hev c hc.1.1;generalize f.eval c=x at hv⊢;generalize f'.eval c=x' at hv⊢
    cases hv with
    |flat hfl=>
     (cases x<;>first|trivial|skip);rename_i t;(cases t);exact hgo (.cons (.code hc.2) hl) (vJ hnl);exact hgo (.cons (.code hc.1.2) hl) (vJ hnl)
    |_=>trivial
   case block n c=>exact hgo (.cons (.code hc) (.cons .inBlock hl)) (vJ (.cons (λ_ _ e=>by cases e) hnl))
   case loop c=>exact hgo (.cons (.code hc) (.cons (.inLoop hc) hl)) (vJ (.cons (λ_ _ e=>by cases e) hnl))
   case scope c=>exact hgo (.cons (.code hc) (.cons (.inScope hc) hl)) (vJ (.cons (λ_ _ e=>by cases e) hnl))
   case exit n=>
    have hx:=vC (id:=n) hl;have XP: ∀q,exitTo n l=some q->I8 q:=λq e=>pV hnl e;generalize exitTo n l=x at hx XP ht⊢;generalize exitTo n l'=x' at hx⊢;cases x<;>cases x'<;>first|exact hx.elim|skip
    ·exact Ul hW hf hts (j:=some (.exit n)) (λc h=>by cases h;rfl) (cnd:=False) (lost:=.ended (.stuck "exit, goto: no such block or label" (f.pos T.v)) v) (lost':=.ended (.stuck "exit, goto: no such block or label" (f'.pos T.P)) w) ⟨_,_,_,rfl⟩ (by simp;rfl) (by simp;rfl) ht
    exact hgo hx (XP _ rfl)
   case goto n=>
    have hx:=vF (id:=n) hl;have XP: ∀q,gotoIn n l=some q->I8 q:=λq e=>pW hnl e;generalize gotoIn n l=x at hx XP ht⊢;generalize gotoIn n l'=x' at hx⊢;cases x<;>cases x'<;>first|exact hx.elim|skip
    ·exact Ul hW hf hts (j:=some (.goto n)) (λc h=>by cases h;rfl) (cnd:=False) (lost:=.ended (.stuck "exit, goto: no such block or label" (f.pos T.v)) v) (lost':=.ended (.stuck "exit, goto: no such block or label" (f'.pos T.P)) w) ⟨_,_,_,rfl⟩ (by simp;rfl) (by simp;rfl) ht
    exact hgo hx (XP _ rfl)
   case rangeFunc g ps a b=>
    simp only[JI,BF] at hc;rw[Sem.runT_eq] at ht⊢
    have hE:AX T K.F N (λρ (x y:Nat×List Deferred)=>ρ.r x.1 y.1/\Ci (Ie K.F ρ) x.2 y.2/\∀d∈x.2,∃b,d.target=.collected b) (Instr.enterLoop f.fn f.tmps ps a b f.roundOf) ρ (Instr.enterLoop f'.fn f'.tmps ps a b f'.roundOf):=by
     rw[hf.fn];exact jm (F:=K.F) f.fn (show K.F.r f.fn from ⟨hc.1.1.1.1.1.2,hc.1.1.1.1.1.1⟩) hf.tmps ps (by simpa using hc.1.1.2) ⟨hc.1.2,hc.1.1.1.1.1.1⟩ ⟨hc.2,hc.1.1.1.1.1.1⟩ hf.round
    refine AEu (cont:=λr=>match r with
      | .ok (l0,mark) w=>stepG.apply T.v true {f with todo:=.inRangeFunc l0::l,defers:=mark++f.defers} (ts++(dr::ds)) none
        (do let d <- resolve (Frame.eval {f with todo:=.inRangeFunc l0::l,defers:=mark++f.defers}) {callee:=.value g,args:=#[.const (.func (.yield l0) #[] #[])],argTypes:=#[]} 0;invoke d.target d.args) w
      | .halt _ w=>.ended (.stuck "range over a function: no such loop" (f.pos T.v)) w)
     (P9:=λr=>match r with
      | .ok (l0,mark) w=>stepG.apply T.P true {f' with todo:=.inRangeFunc l0::l',defers:=mark++f'.defers} (ts'++cs') none
        (do let d <- resolve (Frame.eval {f' with todo:=.inRangeFunc l0::l',defers:=mark++f'.defers}) {callee:=.value g,args:=#[.const (.func (.yield l0) #[] #[])],argTypes:=#[]} 0;invoke d.target d.args) w
      | .halt _ w=>.ended (.stuck "range over a function: no such loop" (f'.pos T.P)) w)
     (hs:=hE) hW (λh v'=>⟨_,_,_,rfl⟩) ?_ ht
    rintro⟨l0,mark⟩ v' ρ' ⟨l0',mark'⟩ w' ⟨hq1,hq2,hq3⟩ hW' hle ht'
    have app: ∀{a a' b b':List Deferred},Ci (Ie K.F ρ') a a'->Ci (Ie K.F ρ') b b'->Ci (Ie K.F ρ') (a++b) (a'++b'):=by
     intro a a' b b' ha hb
     induction ha with|nil=>exact hb|cons x _ ih=>exact .cons x ih
    have hf1:=hf.mono hle
    have hf2:DF K T ρ' {f with todo:=.inRangeFunc l0::l,defers:=mark++f.defers} {f' with todo:=.inRangeFunc l0'::l',defers:=mark'++f'.defers}:=
     ⟨hf1.fn,hf1.ok,hf1.tmps,.cons (.inRangeFunc hq1) (CY (λ_ _ x=>x.mono hle) hl),app hq2 hf1.defers,hf1.mode,hf1.kind,hf1.round,λd hd=>(AU.1 hd).elim (λh=>.inl ⟨hc.1.1.1.1.1.1,hq3 d h⟩) (hf1.nd d),.plain (.cons (λ_ _ e=>by cases e) hnl)⟩
    refine Uk hK hW' hf2 (CY (λ_ _ x=>x.mono hle) hts) ?_ (.inl λ_ ops a rest k e=>by cases e) ht'
    have hg: ∀x:Frame,∀l0,(do let d <- resolve x.eval {callee:=.value g,args:=#[.const (.func (.yield l0) #[] #[])],argTypes:=#[]} 0;invoke d.target d.args:Sem Next)=
      (do let d <- Deferred.ofValue (x.eval g) #[.func (.yield l0) #[] #[]];invoke d.target d.args):=λx l0=>by
     unfold resolve;simp only[BX,AL,BC,Frame.eval]
    rw[hg,hg];exact UB hK.bodies hc.1.1.1.1.2 (hf2.ev (λg hg=>hle.r _ _ (hG g hg)) g hc.1.1.1.2.1) (Ar.one (.yield hq1)) (λ_=>by simpa using hc.1.1.1.2.2)
   case refuse s=>trivial
   case region n ops d=>
    have hc':JI K.P K.fb K.G f.roundOf.isNone (K.fb.lr f.fn) (.region 0 ops false)=true:=hc
    cases d with
    |false=>exact Nb (hf.ZX (.cons (.inRegion hc') hl) ⟨hnl,λ_ ops' rest' k' e2=>by
     simp only[DJ,Item.inRegion.injEq] at e2;obtain⟨⟨rfl,rfl⟩,rfl⟩:=e2
     exact qh (by have h:=hc';simp only[JI,BF] at h;exact h.2) λpre i post e3 _ _ e4 _ _ h5=>range_split e3 _ h5⟩) hts YH AY
    |true=>
     simp only[Kz,Ak,if_false] at ht⊢;(have hch:AX T K.F N ET (choose (.order f.fn n)) ρ (choose (.order f'.fn n)):=by rw[hf.fn];exact JJ _);have e4:T.v.follows .mixedOrders=T.P.follows .mixedOrders:=rfl;rw[e4] at ht⊢;have hr:Tp v w ((KO ((choose (.order f.fn n)).run T.v v)).drawn - v.drawn)->_:=λh=>hch.sound hW h;have hv: ∃x v',(choose (.order f.fn n)).run T.v v=.ok x v':=⟨_,_,by simp[choose,Sem.run,Question.forced];exact⟨rfl,rfl⟩⟩;obtain⟨x,v',hv⟩:=hv;rw[hv] at hr ht⊢;simp only at ht⊢;obtain⟨ρ',b,w',u,h1,h2,hst⟩:=hr (ht _ _ _ rfl);obtain rfl:x=b:=h2;(have h3:(choose (.order f'.fn n)).run T.P w=.ok x w':=by rw[<- Sem.runT_fst _ _ _ #[],h1]);rw[h3]
     exact Nb ((hf.mono hst.le).ZX (.cons (.inRegion hc') (CY (λ_ _ x=>x.mono hst.le) hl)) ⟨hnl,λ_ ops' rest' k' e2=>by
      simp only[DJ,Item.inRegion.injEq] at e2;obtain⟨⟨rfl,rfl⟩,rfl⟩:=e2
      exact uy (by have h:=hc';simp only[JI,BF] at h;exact h.2) _ _⟩) (CY (λ_ _ x=>x.mono hst.le) hts) hst AY
  |inBlock=>simp only[e,e'] at ht⊢;exact hgo hl hnl|inLoop hc=>simp only[e,e'] at ht⊢;exact hgo (.cons (.code hc) (.cons (.inLoop hc) hl)) (vJ (.cons (λ_ _ e=>by cases e) hnl))|inScope hc=>simp only[e,e'] at ht⊢;exact hgo hl hnl| @inRegion ops todo hc=>
   cases todo with
   |nil=>simp only[e,e'] at ht⊢;exact hgo hl hnl|cons j rest=>
    simp only[e,e'] at ht⊢;rw[<- vH hf.tmps];split
    ·rename_i hwd;simp only[hwd,if_true] at ht;unfold stepG.oper at ht⊢;(have o1:f.oper? =ops[j]? :=by unfold Frame.oper?;rw[e]);(have o2:f'.oper? =ops[j]? :=by unfold Frame.oper?;rw[e']);rw[o1] at ht⊢;rw[o2]
     cases ho:ops[j]? with
     |none=>trivial|some o=>
      rw[ho] at ht;simp only at ht⊢;have hok:=F6.1 (show (ops.all λo=>Va K.P K.fb K.G o.op && (f.roundOf.isNone || !(match o.op with| .defer _=>true|_=>false)))=true from (aZ.1 hc).1) o (Jy ho);rw[BF] at hok
      have hnc:NC K f\/∃g p v',K.fb.ch=some g/\(execOp f.eval o).run T.v v=.ok (.enter g p) v':=by
       cases hch:Ja K.fb ops j with
       |none=>
        refine .inl λ_ ops' a rest' k' e2=>?_;rw[e] at e2;simp only[DJ,Item.inRegion.injEq] at e2;obtain⟨⟨rfl,rfl,rfl⟩,rfl⟩:=e2;exact hch
       |some t=>
        right;obtain⟨c,g,h1,h2,h3⟩:=vI hch ho;exact⟨g,_,v,h3,zQ hK.bodies (hK.ch g h3).1 h1 h2 (λg=>rfl)⟩
      have hrel:AX T K.F N (ji K.F) (execOp f.eval o) ρ (execOp f'.eval o):=zK hK.bodies hK.N (λf h=>h) (λf n h=>h) (λf h=>h) (λh=>h) (AP _) (λf h=>h) (λh=>h) hev (λ_=>rfl) (λ_=>rfl) (λ_=>rfl) (AGA hf hmr e ho) (by rw[<- hK.ops];exact hok.1);have hro:=hf.round
      cases r1:f.roundOf with
      |none=>
       have r2:f'.roundOf=none:=by
        rw[r1] at hro
        cases r2:f'.roundOf with|none=>rfl|some _=>rw[r2] at hro;exact hro.elim
       simp only[r1,r2] at ht⊢;exact Uk hK hW hf hts hrel hnc ht
      |some l1=>
       obtain⟨l2,r2⟩: ∃l2,f'.roundOf=some l2:=by
        rw[r1] at hro
        cases r2:f'.roundOf with|none=>rw[r2] at hro;exact hro.elim|some l2=>exact⟨l2,rfl⟩
       simp only[r1,r2] at ht⊢;have hnd:=hok.2;rw[r1] at hnd;generalize hop:o.op=op at hnd ht⊢;cases op<;>first|exact CU hnd|exact Uk hK hW hf hts hrel hnc ht
    rename_i hwd;simp only[hwd,Ak,if_false] at ht⊢;exact Nb (hf.finish .undef (.inr (.inl rfl))) hts YH AY
  |inRangeFunc hr=>simp only[e,e'] at ht⊢;trivial|endRangeFunc hr=>
   simp only[e,e'] at ht⊢;rw[Sem.runT_eq] at ht⊢
   refine ZZ (cont:=λr=>match r with
     | .ok jump w=>.go {frame:={f with todo:=(jump.map Item.code).toList++l},callers:=ts++(dr::ds),status:=.running,dying:=none} w
     | .halt (.panic x) w=>.go {frame:=f.raise [{v:=x,recovered:=false}],callers:=ts++(dr::ds),status:=.running,dying:=none} w
     | .halt _ w=>.ended (.stuck "range over a function: no such loop" (f.pos T.v)) w)
    (P9:=λr=>match r with
     | .ok jump w=>.go {frame:={f' with todo:=(jump.map Item.code).toList++l'},callers:=ts'++cs',status:=.running,dying:=none} w
     | .halt (.panic x) w=>.go {frame:=f'.raise [{v:=x,recovered:=false}],callers:=ts'++cs',status:=.running,dying:=none} w
     | .halt _ w=>.ended (.stuck "range over a function: no such loop" (f'.pos T.P)) w) (uu hr) hW ?_ ?_ ?_ ht
   ·intro h v' hs;cases h<;>first|exact⟨_,_,_,rfl⟩|exact hs.elim
   ·intro x v';refine .inr ⟨⟨_,_,_,rfl,SC hf (by intro e he;simp at he;subst he;rfl)⟩,λρ' x' w' u eu hx hst=>?_⟩;exact Nb ((hf.mono hst.le).raise (.cons ⟨hx,rfl,⟨rfl,rfl⟩,rfl⟩ .nil)) (CY (λ_ _ x=>x.mono hst.le) hts) hst (λe he=>by simp at he;exact Du he)
   intro a v' ρ₁ b₁ _ _;refine⟨.inl ⟨_,_,rfl⟩,λρ' b w' u eu hq hst=>?_⟩;obtain⟨rfl,hj⟩:=hq;have hl':=CY (λ_ _ (x:J9 K f.roundOf.isNone (K.fb.lr f.fn) ρ _ _)=>x.mono hst.le) hl;refine Nb ((hf.mono hst.le).ZX ?_ (.plain ?_)) (CY (λ_ _ x=>x.mono hst.le) hts) hst (λe he=>by simp at he;exact Du he)
   ·cases a with
    |none=>exact hl'|some c=>exact .cons (.code (Yd (hj c rfl).1)) hl'
   cases a with|none=>exact hnl|some c=>exact vJ hnl
  |beginRound=>
   simp only[e,e'] at ht⊢;refine Uk hK hW hf hts ?_ (.inl λ_ ops a rest k e2=>by rw[e] at e2;cases e2) ht;have hro:=hf.round
   cases r1:f.roundOf with
   |none=>exact AX.bind (Q:=λ_ _ _=>False) (λ_=>trivial) λ_ _ _ _ h=>h.elim|some l1=>
    rw[r1] at hro
    cases r2:f'.roundOf with
    |none=>rw[r2] at hro;exact hro.elim|some l2=>
     rw[r2] at hro;exact ABz (iC hro)
end
section
variable {K:Kit} {T:Twin} {N:Nat} {ρ ρ':Rn} {v w v' w':World} {dr:Frame} {ds cs':List Frame} {mn:Bool}
theorem AJJ{c c':Prop}[Decidable c][Decidable c'](h:c↔c'){o:Outcome}{u:World}{e:Array Event}{B A' B':GStep}(hB: ¬c->Ro K T N ρ v w dr ds cs' B B'):
  Ro K T N ρ v w dr ds cs' (if c then .ended o u e else B) (if c' then A' else B'):=by
 by_cases hc:c;rw[if_pos hc];trivial;rw[if_neg hc,if_neg (λx=>hc (h.2 x))];exact hB hc
theorem Lu(hK:Fits K T N)(hW:DD K.F N ρ v w){f f':Frame}(hf:DF K T ρ f f')(hmd:f.mode≠ .run){ts ts':List Frame}(hts:Ci (IB K T ρ) ts ts'){d d':Deferred}(hlt: ∀g q,d.target=.fn (.func g) q->∀n,K.F.a g n)(hd:Ie K.F ρ d d')
  (ht: ∀g1 v1 es,callDeferred T.v f (ts++(dr::ds)) none d v=.go g1 v1 es->Tp v w (v1.drawn - v.drawn)):
  Ro K T N ρ v w dr ds cs' (callDeferred T.v f (ts++(dr::ds)) none d v) (callDeferred T.P f' (ts'++cs') none d' w):=by
 have hs:=WI (N:=N) hK.bodies hd;have hc:=hs.sort hW;have hr:Tp v w ((KO ((invoke d.target d.args).run T.v v)).drawn - v.drawn)->zL T.p K.F N _ ρ v w ((invoke d.target d.args).run T.v v) ((invoke d'.target d'.args).runT T.P w #[]):=λh=>hs.sound hW h;unfold callDeferred at ht⊢
 have hn:((match d.target with| .nil=>true|_=>false) && (match f.mode with| .panicking _=>true|_=>false))=((match d'.target with| .nil=>true|_=>false) && (match f'.mode with| .panicking _=>true|_=>false)):=by
  have h2:=hf.mode;generalize f.mode=b at h2⊢;generalize f'.mode=b' at h2⊢
  cases hd with
  |mk h1 _=>
   generalize d.target=a at h1⊢;generalize d'.target=a' at h1⊢;cases h1<;>cases h2<;>rfl
  | @dead _ x _ _ _ hm _=>cases x<;>first|exact CU hm|(cases h2<;>rfl)
 refine AJJ ⟨λh=>hn.symm.trans h,λh=>hn.trans h⟩ λhb=>?_
 replace ht:=λg1 v1 es h=>ht g1 v1 es ((if_neg hb).trans h)
 rw[Sem.runT_eq] at ht⊢;generalize (invoke d.target d.args).events T.v v #[]=eu at ht⊢;have hdr:=hs.drawn hW;generalize (invoke d.target d.args).run T.v v=r at hr hc ht hdr⊢;generalize (invoke d'.target d'.args).runT T.P w #[]=r' at hr⊢;have mono: ∀{ρ'},ρ.le ρ'->Ci (IB K T ρ') ts ts':=λl=>CY (λ_ _ x=>x.mono l) hts
 cases r with
 |ok n v'=>
  have hT:Tp v w (v'.drawn - v.drawn):=by
   obtain⟨ρ',b,hq,_⟩:=hc
   cases hq with|value _=>exact ht _ _ _ rfl|skip=>exact ht _ _ _ rfl|enter _ _ _ _=>exact ht _ _ _ rfl|round _ _ _ _ _ _=>exact ht _ _ _ rfl|defer _ _ _=>exact ht _ _ _ rfl|seq _ _=>exact ht _ _ _ rfl
  obtain⟨ρ',b,w',u,rfl,⟨hq,hent⟩,hst⟩:=hr hT;clear hr hc ht hT;have hsub:Stp K.F N ρ ρ' v w v' w' (seen T.P f'.fn u++ #[]):=hst.sub λe he=>by simp at he;exact Du he
  cases hq with
  |value hv=>exact .inl ⟨_,_,_,_,ρ',w',_,rfl,rfl,hf.mono hst.le,mono hst.le,hsub⟩|skip=>exact .inl ⟨_,_,_,_,ρ',w',_,rfl,rfl,hf.mono hst.le,mono hst.le,hsub⟩| @enter g p p' hg ha _ hp=>
   by_cases hX:K.X g=true
   ·obtain⟨q,hq⟩:=hent g p rfl;exact absurd (hlt g q hq) (hK.xa g hX)
   exact .inl ⟨_,f::ts,_,f'::ts',ρ',w',_,rfl,rfl,Na hK hg (by simpa using hX) hp (.inr rfl),.cons ⟨hf.mono hst.le,λh=>absurd h hmd⟩ (mono hst.le),hsub⟩
  | @round l l' g p p' ca cb hh hl hp hg ha hb=>
   exact .inl ⟨_,f::ts,_,f'::ts',ρ',w',_,rfl,rfl,ZY hK hh hl hp hg ha hb (.inr rfl),.cons ⟨hf.mono hst.le,λh=>absurd h hmd⟩ (mono hst.le),hsub⟩
  |defer _ _ hd=>exact .inl ⟨_,_,_,_,ρ',w',_,rfl,rfl,hf.mono hst.le,mono hst.le,hsub⟩|seq hp hq=>exact .inr (.inr (.inr (.inr ⟨_,.deferred,_,_,by rw[<- hst.tok.2];exact hq,hp,hst.drawn.1,rfl⟩)))
 |halt x v'=>
  cases x with
  |panic x=>
   rcases hr (ht _ _ _ rfl) with P8|⟨ρ',x',w',u,rfl,hx,hst⟩
   ·exact .inr (.inr (.inr (.inl ⟨P8,hdr,_,_,rfl,SC hf (by intro e he;simp at he;subst he;rfl)⟩)))
   (have hsub:Stp K.F N ρ ρ' v w v' w' (seen T.P f'.fn u++ #[]):=hst.sub λe he=>by simp at he;exact Du he);exact .inl ⟨_,_,_,_,ρ',w',_,rfl,rfl,(hf.mono hst.le).raise (.cons ⟨hx,rfl,⟨rfl,rfl⟩,rfl⟩ .nil),mono hst.le,hsub⟩
  |unsupported u=>cases u<;>first|exact hc.elim|trivial
  |_=>first|exact hc.elim|trivial
theorem DF.known(hK:Fits K T N){f f':Frame}(hf:DF K T ρ f f'): ∃fn,T.P.funcs[f.fn]? =some fn/\T.v.funcs[f.fn]? =some fn:=by
 obtain⟨fn,h,_⟩:=hK.bodies.a f.fn hf.ok.1;exact⟨fn,h,(ADf hK hf.ok.1 hf.ok.2).trans h⟩
theorem WL{P:Program}{f:Frame}{fn:Func}(h:P.funcs[f.fn]? =some fn):f.catches P=false:=by
 unfold Frame.catches;rw[h]
theorem AB6(P:Program){f:Frame}(hk:f.kind=.normal\/f.kind=.deferred)(ts:List Frame)(x:Value)(v:World): ∃g e,doReturn P true f (ts++(dr::ds)) none x v=.go g v e:=by
 cases ts with
 |nil=>rcases hk with e|e<;>exact⟨_,_,by simp only[doReturn,e,List.nil_append];rfl⟩
 |cons _ _=>rcases hk with e|e<;>exact⟨_,_,by simp only[doReturn,e,List.cons_append];rfl⟩
theorem eP(hK:Fits K T N)(hW:DD K.F N ρ v w){f f':Frame}(hf:DF K T ρ f f')(hmd:f.mode≠ .run){ts ts':List Frame}(hts:Ci (IB K T ρ) ts ts')
  (ht: ∀g1 v1 es,unwind T.v true f (ts++(dr::ds)) none v=.go g1 v1 es->Tp v w (v1.drawn - v.drawn)):
  Ro K T N ρ v w dr ds cs' (unwind T.v true f (ts++(dr::ds)) none v) (unwind T.P mn f' (ts'++cs') none w):=by
 have hds:=hf.defers;obtain⟨fn,hfn,hfv⟩:=hf.known hK;unfold unwind at ht⊢
 cases e:f.defers with
 |nil=>
  (have e':f'.defers=[]:=by rw[e] at hds;cases e':f'.defers with|nil=>rfl|cons _ _=>rw[e'] at hds;cases hds);simp only[e,e'] at ht⊢;have hm:=hf.mode
  cases m:f.mode with
  |run=>trivial|panicking c=>
   obtain⟨c',m',hc⟩: ∃c',f'.mode=.panicking c'/\Ci (eG K.F ρ) c c':=by
    rw[m] at hm
    cases m':f'.mode with
    |panicking c'=>rw[m'] at hm;cases hm with|panicking h=>exact⟨c',rfl,h⟩
    |run=>rw[m'] at hm;cases hm|returning=>rw[m'] at hm;cases hm
   simp only[m,m',WL hfv,WL (f:=f') (by rw[hf.fn];exact hfn),Ak,if_false] at ht⊢
   cases hts with|nil=>exact .inr (.inr (.inl ⟨_,rfl,⟨λ_=>.inr (.inr ⟨_,rfl⟩),λch h hu=>Yc dr h hu (ax hc)⟩,λ_ _ _ _ _=>.inr (.inr ⟨_,rfl,ax hc⟩),AP _⟩))|cons h1 h2=>exact Nb (h1.fr.raise hc) h2 (Stp.refl hW) AY
  |returning=>
   have m':f'.mode=.returning:=by
    rw[m] at hm
    cases m':f'.mode with|panicking c'=>rw[m'] at hm;cases hm|run=>rw[m'] at hm;cases hm|returning=>rfl
   (have hfn':T.P.funcs[f'.fn]? =some fn:=by rw[hf.fn];exact hfn);simp only[m,m',hfv,hfn'] at ht⊢;rw[Sem.runT_eq] at ht⊢
   refine ZZ (cont:=λr=>match r with
     | .ok x w=>doReturn T.v true f (ts++(dr::ds)) none x w| .halt (.stuck s) w=>.ended (.stuck s (f.pos T.v)) w
     | .halt _ w=>.ended (.stuck "return: the result variables cannot be read" (f.pos T.v)) w)
    (P9:=λr=>match r with
     | .ok x w=>doReturn T.P mn f' (ts'++cs') none x w| .halt (.stuck s) w=>.ended (.stuck s (f'.pos T.P)) w
     | .halt _ w=>.ended (.stuck "return: the result variables cannot be read" (f'.pos T.P)) w)
    (uw fn hf.tmps) hW ?_ ?_ ?_ ht
   ·intro h v' _;cases h<;>exact⟨_,_,_,rfl⟩
   ·intro x v';exact .inl ⟨_,_,_,rfl⟩
   intro a v' ρ₁ b₁ _ _;refine⟨.inl (AB6 T.v hf.kind.2 ts a v'),λρ' b w' u eu hq hst=>?_⟩;exact zO (hf.mono hst.le) (CY (λ_ _ x=>x.mono hst.le) hts) hst (λe he=>Du he) hq
 |cons d dl=>
  obtain⟨d',dl',e',hd,APD⟩: ∃d' dl',f'.defers=d'::dl'/\Ie K.F ρ d d'/\Ci (Ie K.F ρ) dl dl':=by
   rw[e] at hds
   cases e':f'.defers with|nil=>rw[e'] at hds;cases hds|cons d' dl'=>rw[e'] at hds;cases hds with|cons h1 h2=>exact⟨d',dl',rfl,h1,h2⟩
  (have hnd: ∀x∈d::dl,(K.fb.l=true/\∃b,x.target=.collected b)\/(K.fb.d=true/\∀g q,x.target=.fn (.func g) q->∀n,K.F.a g n):=by rw[<- e];exact hf.nd);have hlt:(¬ ∃b,d.target=.collected b)->∀g q,d.target=.fn (.func g) q->∀n,K.F.a g n:=λh=>(hnd d (BZ ..)).elim (λx=>absurd x.2 h) λx=>x.2;have hf2:DF K T ρ {f with defers:=dl} {f' with defers:=dl'}:=⟨hf.fn,hf.ok,hf.tmps,hf.todo,APD,hf.mode,hf.kind,hf.round,λx hx=>hnd x (Aj _ hx),hf.rg⟩
  cases hd with
  | @dead b x p p' h1 h2 h3=>
   (cases x<;>first|exact CU h2|skip);rename_i fx qx rx;have hdd:Ie K.F ρ (YV (jV b) p) (YV (.func fx qx rx) p'):=.dead h1 h2 h3;(cases fx<;>first|exact CU h2|skip);simp only[e,e',YV,jV] at ht hdd⊢;exact Lu hK hW hf2 hmd hts (hlt (λ⟨b,x⟩=>by cases x)) hdd ht
  |mk htg hargs=>
  have hd:Ie K.F ρ d d':=.mk htg hargs;obtain⟨t,as⟩:=d;obtain⟨t',as'⟩:=d';simp only at htg;by_cases Za: ∃b,t=.collected b
  ·obtain⟨b,rfl⟩:=Za;(obtain⟨b',rfl,hb⟩: ∃b',t'=.collected b'/\ρ.r b b':=by cases htg with|collected h=>exact⟨_,rfl,h⟩);simp only[e,e'] at ht⊢;rw[Sem.runT_eq] at ht⊢
   refine ZZ (cont:=λr=>match r with
     | .ok calls w=>.go {frame:={f with defers:=calls++dl},callers:=ts++(dr::ds),status:=.running,dying:=none} w
     | .halt _ w=>.ended (.stuck "the deferred calls of a range-over-func loop have been taken" (f.pos T.v)) w)
    (P9:=λr=>match r with
     | .ok calls w=>.go {frame:={f' with defers:=calls++dl'},callers:=ts'++cs',status:=.running,dying:=none} w
     | .halt _ w=>.ended (.stuck "the deferred calls of a range-over-func loop have been taken" (f'.pos T.P)) w)
    (ZW hb) hW ?_ ?_ ?_ ht
   ·intro h v' _;exact⟨_,_,_,rfl⟩
   ·intro x v';exact .inl ⟨_,_,_,rfl⟩
   intro a v' ρ₁ b₁ _ _;refine⟨.inl ⟨_,_,rfl⟩,λρ' b w' u eu hq hst=>?_⟩;obtain⟨rfl,rfl⟩:=hq;exact Nb (hf2.mono hst.le) (CY (λ_ _ x=>x.mono hst.le) hts) hst (λe he=>by simp at he;exact Du he)
  have h1: ∀(P:Program) (g:Frame) (cs:List Frame) (w:World) (dl:List Deferred),g.defers={target:=t,args:=as}::dl->True:=λ_ _ _ _ _ _=>trivial
  cases htg with|collected h=>exact absurd ⟨_,rfl⟩ Za|fn h2 h3=>simp only[e,e'] at ht⊢;exact Lu hK hW hf2 hmd hts (hlt Za) hd ht|nil=>simp only[e,e'] at ht⊢;exact Lu hK hW hf2 hmd hts (hlt Za) hd ht|yield h2=>simp only[e,e'] at ht⊢;exact Lu hK hW hf2 hmd hts (hlt Za) hd ht|seq h2 h3=>simp only[e,e'] at ht⊢;exact Lu hK hW hf2 hmd hts (hlt Za) hd ht
theorem UC(hK:Fits K T N)(hW:DD K.F N ρ v w)(hG: ∀g,g<K.G->ρ.r g g){f f':Frame}(hf:DF K T ρ f f'){ts ts':List Frame}(hts:Ci (IB K T ρ) ts ts')
  (ht: ∀g1 v1 es,stepG T.v true (G f (ts++(dr::ds))) v=.go g1 v1 es->Tp v w (v1.drawn - v.drawn)):
  Ro K T N ρ v w dr ds cs' (stepG T.v true (G f (ts++(dr::ds))) v) (stepG T.P mn (G f' (ts'++cs')) w):=by
 unfold stepG G at ht⊢;have hm:=hf.mode
 cases m:f.mode with
 |run=>
  have m':f'.mode=.run:=by
   rw[m] at hm
   cases m':f'.mode with|panicking c'=>rw[m'] at hm;cases hm|run=>rfl|returning=>rw[m'] at hm;cases hm
  simp only[m,m'] at ht⊢;exact AEv hK hW hG hf m hts ht
 |returning=>
  have m':f'.mode=.returning:=by
   rw[m] at hm
   cases m':f'.mode with|panicking c'=>rw[m'] at hm;cases hm|run=>rw[m'] at hm;cases hm|returning=>rfl
  simp only[m,m'] at ht⊢;exact eP hK hW hf (by rw[m];intro h;cases h) hts ht
 |panicking c=>
  obtain⟨c',m'⟩: ∃c',f'.mode=.panicking c':=by
   rw[m] at hm
   cases m':f'.mode with|panicking c'=>exact⟨c',rfl⟩|run=>rw[m'] at hm;cases hm|returning=>rw[m'] at hm;cases hm
  simp only[m,m'] at ht⊢;exact eP hK hW hf (by rw[m];intro h;cases h) hts ht
end
end Go.Proofs.YtkkgcebhfghdnaaGreatDoor
