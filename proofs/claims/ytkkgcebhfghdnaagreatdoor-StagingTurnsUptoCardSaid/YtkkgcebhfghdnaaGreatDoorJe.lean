/- Part 5 of what that rests on; no condition. -/
import Derived.Test.YtkkgcebhfghdnaaGreatDoorJd
set_option maxRecDepth 100000
set_option maxHeartbeats 8000000
open Go.Item.inRegion renaming injEq→AAf
open List renaming cons_append→Dj, nil_append→Dy
open Go.Instr renaming enterLoop→Vu, endRound→Tu
open Go renaming callDeferred→Py, PanicEntry→NG, Deferred→EK, doReturn→Gw, Program→BL, FuncId→Bi, execOp→BG, Value→AP, World→AL, Event→Bc, Frame→AX
open Go.GStep renaming after→DW
open Go.Frame renaming enter→BV
open Go.stepG renaming apply→Ht, exec→JA
open Go.Sem renaming runT_eq→Ik
open Option renaming none→AB, some→AA
namespace Go.Proofs.YtkkgcebhfghdnaaGreatDoor
open Go Go.Conc
section
variable {p p':Array AP}{k:CallKind}{fb:Fb}{f f':AX}{ch:List NG}{P:BL}
section
variable {T:Twin} {F:Fs} {N:Nat} {ρ:Rn} {α β:Type} {v w:AL}
def Res (p:Prop) (F:Fs) (N:Nat) (Q:Rn->α->β->Prop) (ρ:Rn) (v w:AL) (r:Result α) (r':Result β×Array Bc):Prop:=
 match r with| .ok a v'=>∃ρ' b w' u,r'=(.ok b w',u)/\Q ρ' a b/\Stp F N ρ ρ' v w v' w' u| .halt (.panic x) v'=>p\/∃ρ' x' w' u,r'=(.halt (.panic x') w',u)/\Az F ρ' x x'/\Stp F N ρ ρ' v w v' w' u| .halt h _=>Halt.still h
theorem AY.sound{Q:Rn->α->β->Prop}{s:Sem α}{s':Sem β}(h:AY T F N Q s ρ s')(hW:DD F N ρ v w)(ht:Tp v w ((LU (s.run T.v v)).drawn - v.drawn)):
  Res T.p F N Q ρ v w (s.run T.v v) (s'.runT T.P w #[]):=by
 have:=(DR.sound (h hW.ok) hW).2 ht;unfold Out at this;unfold Res;generalize s.run T.v v=r at this⊢
 cases r with
 |ok a v'=>
  obtain⟨ρ',b,w',u,h1,h2,h3⟩:=this;exact⟨ρ',b,w',u,by have:=h1 #[];simpa using this,h2,h3⟩
 |halt x v'=>
  cases x with
  |panic x=>
   rcases this with this|⟨ρ',b,w',u,h1,h2,h3⟩;exact .inl this;exact .inr ⟨ρ',b,w',u,by have:=h1 #[];simpa using this,h2,h3⟩
  |_=>exact this
theorem AY.drawn{Q:Rn->α->β->Prop}{s:Sem α}{s':Sem β}(h:AY T F N Q s ρ s')(hW:DD F N ρ v w):v.drawn<=(LU (s.run T.v v)).drawn:=(DR.sound (h hW.ok) hW).1
def tied (v w:AL):AL:={w with tape:=λi q=>v.tape (v.drawn+(i - w.drawn)) q}
theorem DD.tied(hW:DD F N ρ v w):DD F N ρ v (tied v w):=⟨hW.ok,hW.obj,hW.tok,hW.nv,hW.nw,hW.os,Ud hW.seq (Ba _) (λ_ _ _=>rfl) (λ_ _=>.inl) rfl⟩
theorem AY.sort{Q:Rn->α->β->Prop}{s:Sem α}{s':Sem β}(h:AY T F N Q s ρ s')(hW:DD F N ρ v w):
  match s.run T.v v with| .ok a _=>∃ρ' b,Q ρ' a b| .halt (.panic _) _=>True| .halt h _=>Halt.still h:=by
 have:=h.sound hW.tied (λi _ q=>by simp[Go.Proofs.YtkkgcebhfghdnaaGreatDoor.tied]);unfold Res at this;generalize s.run T.v v=r at this
 cases r with
 |ok a v'=>obtain⟨ρ',b,_,_,_,hq,_⟩:=this;exact⟨ρ',b,hq⟩
 |halt x v'=>cases x<;>first|trivial|exact this
theorem Du{p:BL}{fn:Bi}{es:Array Bc}{e:Bc}(h:e∈seen p fn es):e∈es:=by
 unfold seen at h;obtain⟨l⟩:=es;simp only[Iq,List.foldl_toArray'] at h
 have key: ∀(l:List Bc) (q:Bool) (kept:Array Bc),e∈(l.foldl (λ(x:Bool×Array Bc) e=>match e.loc with
   | .mark (.extern f)=>((p.funcs[f]?).any (·.norace),x.2)
   |_=>(x.1,if x.1 && !e.sync then x.2 else x.2.push e)) (q,kept)).2->e∈kept\/e∈l:=by
  intro l
  induction l with
  |nil=>intro q kept h;exact .inl h
  |cons a l ih=>
   intro q kept h;rw[List.foldl_cons] at h;rcases ih _ _ h with h1|h1
   ·split at h1;exact .inl h1;split at h1;exact .inl h1;rcases Array.mem_push.1 h1 with h2|h2;exact .inl h2;exact .inr (by simp[h2])
   exact .inr (by simp[h1])
 rcases key l _ #[] h with h1|h1;simp at h1;simpa using h1
theorem Stp.sub{ρ':Rn}{v' w':AL}{u u':Array Bc}(h:Stp F N ρ ρ' v w v' w' u)(k: ∀e∈u',e∈u):Stp F N ρ ρ' v w v' w' u':=
 {h with evs:=λe he=>h.evs e (k e he)}
end
section
variable {K:Kit} {T:Twin} {ρ:Rn}
theorem DF.finish{f f':AX}(k:DF K T ρ f f'){x x':AP}(hx:Az K.F ρ x x')(hs:NC K f\/uP K.z x):DF K T ρ (f.finish x) (f'.finish x'):=by
 have ht:=k.todo;unfold Frame.finish
 cases e:f.todo with
 |nil=>rw[e] at ht;cases e':f'.todo with
  |nil=>exact k|cons _ _=>rw[e'] at ht;cases ht
 |cons i l=>
  rw[e] at ht;have hnl:JM l:=by have:=k.rg.1;rw[e] at this;exact this
  cases e':f'.todo with
  |nil=>rw[e'] at ht;cases ht|cons i' l'=>
   rw[e'] at ht
   cases ht with
   |cons hi hl=>
    cases hi with
    | @inRegion ops todo ho=>
     cases todo with
     |nil=>exact k|cons j rest=>
      simp only;refine⟨k.fn,k.ok,?_,.cons (.inRegion ho) hl,k.defers,k.mode,k.kind,k.round,k.nd,hnl,λhm ops' rest' k' e2=>?_⟩
      ·cases (ops[j]?).bind (·.dst) with
       |none=>exact k.tmps|some d=>exact k.tmps.set hx d
      simp only[IV,AAf] at e2;obtain⟨⟨rfl,rfl⟩,rfl⟩:=e2;have h1:=(k.rg.2 hm _ _ _ e).step (x:=x) (by have ho:=ho;simp only[JZ,DU] at ho;exact ho.2) (hs.imp (λh=>h hm _ _ _ _ e) id)
      cases hd:(ops[j]?).bind (·.dst) with|none=>rw[hd] at h1;exact h1|some d=>rw[hd] at h1;exact h1
    |inRangeFunc h=>exact⟨k.fn,k.ok,k.tmps,.cons (.endRangeFunc h) hl,k.defers,k.mode,k.kind,k.round,k.nd,.plain (.cons (λ_ _ e=>by cases e) hnl)⟩|beginRound=>exact⟨k.fn,k.ok,k.tmps,hl,k.defers,k.mode,k.kind,k.round,k.nd,.plain hnl⟩|_=>exact k
theorem DF.XD(k:DF K T ρ f f'){m m':FrameMode}(h:iH K.F ρ m m')(hm:m=.run->f.mode=.run:=by intro h;cases h):DF K T ρ {f with mode:=m} {f' with mode:=m'}:=
 ⟨k.fn,k.ok,k.tmps,k.todo,k.defers,h,k.kind,k.round,k.nd,k.rg.1,λh1=>k.rg.2 (hm h1)⟩
theorem DF.raise{f f':AX}(k:DF K T ρ f f'){c c':List NG}(h:Cc (iG K.F ρ) c c'):DF K T ρ (f.raise c) (f'.raise c'):=by
 have app: ∀{a a' b b':List NG},Cc (iG K.F ρ) a a'->Cc (iG K.F ρ) b b'->Cc (iG K.F ρ) (a++b) (a'++b'):=by
  intro a a' b b' ha hb
  induction ha with|nil=>exact hb|cons x _ ih=>exact .cons x ih
 have hm:=k.mode;unfold Frame.raise;generalize f.mode=m at hm;generalize f'.mode=m' at hm
 cases hm with|run=>exact k.XD (.panicking h)|returning=>exact k.XD (.panicking h)|panicking hc=>exact k.XD (.panicking (app h hc))
theorem DF.aT(k:DF K T ρ f f'){l l':List Item}(h:Cc (Kw K f.roundOf.isNone (K.fb.lr f.fn) ρ) l l')(hr:RGf K {f with todo:=l}):DF K T ρ {f with todo:=l} {f' with todo:=l'}:=
 ⟨k.fn,k.ok,k.tmps,h,k.defers,k.mode,k.kind,k.round,k.nd,hr⟩
end
def NP (ch:List NG):Prop:=∀e∈ch,e.recovered=false
theorem dY{F:Fs}{ρ:Rn}{c c':List NG}(h:Cc (iG F ρ) c c'):NP c:=by
 induction h with
 |nil=>intro e he;cases he
 |cons hp _ ih=>
  intro e he;rcases BB.1 he with rfl|he;exact hp.u;exact ih e he
structure Gone (dr c:AX):Prop where
 run:dr.mode=.run->c=dr\/(∃x,c=dr.finish x)\/∃ch,c=dr.raise ch
 pan: ∀ch,dr.mode=.panicking ch->NP ch->∃ch',c.mode=.panicking ch'/\NP ch'
def kR (K:Kit) (N:Nat) (ρ:Rn) (v w:AL) (dr c:AX) (v1:AL) (cs':List AX) (r':GStep):Prop:=
 ∀c0' AA8,cs'=c0'::AA8->dr.mode=.run->c0'.mode=.run->
  (∃x x' ρ1 w1 es',c=dr.finish x/\r'=.go (G (c0'.finish x') AA8) w1 es'/\Az K.F ρ1 x x'/\Stp K.F N ρ ρ1 v w v1 w1 es')\/
  (∃ρ1 w1 es',c=dr/\r'=.go (G c0' AA8) w1 es'/\Stp K.F N ρ ρ1 v w v1 w1 es')\/∃ch,c=dr.raise ch/\NP ch
theorem kR.after{K:Kit}{N:Nat}{ρ ρ':Rn}{v w v' w' v1:AL}{dr c:AX}{cs':List AX}{r':GStep}{u es:Array Bc}(h:kR K N ρ' v' w' dr c v1 cs' r')(hst:Stp K.F N ρ ρ' v w v' w' u)(hW:DD K.F N ρ v w)(hs: ∀e∈es,e∈u):
  kR K N ρ v w dr c v1 cs' (DW es r'):=by
 intro c0 cs0 e h1 h2
 have key: ∀{ρ1:Rn} {w1:AL} {es':Array Bc},Stp K.F N ρ' ρ1 v' w' v1 w1 es'->Stp K.F N ρ ρ1 v w v1 w1 (es++es'):=λk=>
  {hst.trans k hW with evs:=λx hx=>(hst.trans k hW).evs x ((JL.1 hx).elim (λh=>JL.2 (.inl (hs _ h))) λh=>JL.2 (.inr h))}
 rcases h c0 cs0 e h1 h2 with ⟨x,x',ρ1,w1,es',a,b,c,d⟩|⟨ρ1,w1,es',a,b,c⟩|k
 ·exact .inl ⟨x,x',ρ1,w1,es++es',a,by rw[b];rfl,c,key d⟩
 ·exact .inr (.inl ⟨ρ1,w1,es++es',a,by rw[b];rfl,key c⟩)
 exact .inr (.inr k)
theorem yS(f:AX)(x:AP):(f.finish x).mode=f.mode:=by
 unfold Frame.finish;split<;>rfl
theorem ZH(f:AX){ch':List NG}(h:f.mode=.panicking ch)(h1:NP ch)(h2:NP ch'): ∃c,(f.raise ch').mode=.panicking c/\NP c:=by
 refine⟨ch'++ch,by unfold Frame.raise;rw[h],λe he=>?_⟩;rcases Be.1 he with he|he;exact h2 e he;exact h1 e he
section
variable {K:Kit} {T:Twin} {ρ:Rn}
theorem DF.AO3(h:DF K T ρ f f')(e:f.mode=.panicking ch):NP ch:=by
 have hm:=h.mode;rw[e] at hm;generalize f'.mode=m at hm
 cases hm with|panicking hc=>exact dY hc
theorem TP(h:DF K T ρ f f')(hu:NP ch): ∃c,(f.raise ch).mode=.panicking c/\NP c:=by
 cases e:f.mode with|panicking c=>exact ZH f e (h.AO3 e) hu|run=>exact⟨ch,by unfold Frame.raise;rw[e],hu⟩|returning=>exact⟨ch,by unfold Frame.raise;rw[e],hu⟩
end
def Sv (K:Kit) (T:Twin) (N:Nat) (ρ:Rn) (v w:AL) (dr:AX) (ds:List AX) (cs':List AX) (r r':GStep):Prop:=
 match r with
 | .go g1 v1 _=>
  (∃f1 Di f1' Gy ρ1 w1 es',g1=G f1 (Di++(dr::ds))/\r'=.go (G f1' (Gy++cs')) w1 es'/\DF K T ρ1 f1 f1'/\Cc (IW K T ρ1) Di Gy/\Stp K.F N ρ ρ1 v w v1 w1 es')\/
  (∃X p p' k f1 Di f1' Gy ρ1 w1 es',K.fb X=true/\(K.X X=true/\KL K.fb X p.size=true/\K.F.dk X p/\(K.fb.ch=AA X\/NC K f1))/\g1=G (BV T.v X p k) (f1::(Di++(dr::ds)))/\r'=.go (G (BV T.P X p' k) (f1'::(Gy++cs'))) w1 es'/\Au K.F ρ1 p p'/\
    DF K T ρ1 f1 f1'/\Cc (IW K T ρ1) Di Gy/\Stp K.F N ρ ρ1 v w v1 w1 es'/\k=.normal)\/
  (∃c,g1=G c ds/\Gone dr c/\kR K N ρ v w dr c v1 cs' r'/\v.drawn<=v1.drawn)\/
  (T.p/\v.drawn<=v1.drawn/\∃f1 Di,g1=G f1 (Di++(dr::ds))/\∃ch,f1.mode=.panicking ch/\NP ch)\/
  (∃p k f1 Di,(∃s n a b,ρ.q s n a b)/\p.size<=K.fb.m+2/\v.drawn<=v1.drawn/\g1=G (BV T.v K.z p k) (f1::(Di++(dr::ds))))
 | .ended _ _ _=>True|_=>False
structure Fits (K:Kit) (T:Twin) (N:Nat):Prop where
 ops: ∀op,V6 K.P K.fb K.G op=V6 T.P K.fb K.G op
 same: ∀f,K.fb f=true->K.X f=false->T.F[f]? =T.P.funcs[f]?
 bodies:Gp T K.F N
 N:T.P.globals.size<N
 body: ∀f fn,K.fb f=true->K.X f=false->T.P.funcs[f]? =AA fn->∀c,fn.body=AA c->JZ K.P K.fb K.G true (K.fb.lr f) c=true
 lr:K.fb.h=true->∀f,K.fb.lr f=true->K.fb f=true/\K.X f=false
 xa: ∀f,K.X f=true->¬ ∀n,K.F.a f n
 ch: ∀f,K.fb.ch=AA f->K.fb f=true/\K.X f=true
section
variable {K:Kit} {T:Twin} {N:Nat} {ρ:Rn} {v w:AL} {dr:AX} {ds cs':List AX}
theorem AFQ(hK:Fits K T N){f:Bi}(h:K.fb f=true)(h':K.X f=false):T.v.funcs[f]? =T.P.funcs[f]? :=hK.same f h h'
theorem OH(hK:Fits K T N){f:Bi}(hf:K.fb f=true)(hX:K.X f=false)(hp:Au K.F ρ p p')(hk:k=.normal\/k=.deferred):
  DF K T ρ (BV T.v f p k) (BV T.P f p' k):=by
 obtain⟨fn,h1,h2,_⟩:=hK.bodies.a f hf;have h1':T.v.funcs[f]? =AA fn:=(AFQ hK hf hX).trans h1
 obtain⟨c,hc⟩: ∃c,fn.body=AA c:=by
  cases h:fn.body with|none=>rw[h] at h2;cases h2|some c=>exact⟨c,rfl⟩
 have e: ∀(P:BL) (q:Array AP),P.funcs[f]? =AA fn->BV P f q k={fn:=f,tmps:=q++Array.replicate (fn.ntmps - q.size) undef,todo:=[.code c],defers:=[],mode:=.run,kind:=k}:=by
  intro P q h;unfold BV;simp[h,hc]
 rw[e T.v p h1',e T.P p' h1];exact⟨rfl,⟨hf,hX⟩,by rw[<- hp.1];exact hp.append (Au.replicate .undef _),.cons (.code (hK.body f fn hf hX h1 c hc)) .nil,.nil,.run,⟨rfl,hk⟩,Am,λ_ h=>(by cases h),.plain (.cons (λ_ _ e=>by cases e) .nil)⟩
theorem AA9{G:Nat}{op:Op}(h:V6 P Fb.small G op=true):V6 P fb G op=true:=by
 have hd: ∀x,H9 Fb.small G x=true->H9 fb G x=true:=λx hx=>by cases x<;>first|exact hx|cases hx
 have hm: ∀{name:String},Q4 P Fb.small name=true->Q4 P fb name=true:=λ{name} hx=>by
  unfold Q4 at hx⊢;rw[JC] at hx⊢;intro t ht;have h1:=hx t ht;split at h1
  ·split at h1
   ·exfalso;simp only[DU] at h1;obtain⟨_,h2⟩:=h1;split at h2;simp only[DU] at h2;cases h2.1;cases h2
   rfl
  rfl
 have hf: ∀{x:Operand} {n:Nat},UI Fb.small.m x n=true->UI fb.m x n=true:=λ{x n} hx=>by
  cases x<;>first|rfl|(simp only[UI,decide_eq_true_eq] at hx⊢;exact Ci hx (D5 _))
 have key: ∀{c:Call},Gn P Fb.small G c.callee c.argTypes c.args=true->Gn P fb G c.callee c.argTypes c.args=true:=λ{c} h2=>by
  generalize c.callee=q at h2⊢
  cases q with
  |value f=>
   cases f with|func g=>simp[Gn,Fb.small] at h2|_=>simp[Gn,Fb.small] at h2
  |invoke r name=>
   simp only[Gn,DU] at h2⊢;exact⟨hd _ h2.1,hm h2.2⟩
  |builtin b=>cases b<;>exact h2
 unfold V6 at h⊢;rw[DU] at h⊢;refine⟨?_,?_⟩
 ·rw[U5] at h⊢;exact λx hx=>hd x (h.1 x hx)
 have h2:=h.2;clear h;cases op<;>first|exact h2|skip
 case unOp op t x=>cases op<;>first|exact h2|cases h2
 case makeFunc f _ _=>cases f<;>first|exact h2|cases h2
 case defer c=>simp[Fb.small] at h2
 case call c=>exact key h2
theorem ZI{G:Nat}{d r:Bool}: ∀{c:Code},JZ P Fb.small G false false c=true->JZ P fb G d r c=true:=by
 intro c
 induction c with
 |region n ops dr=>
  intro h;simp only[JZ,U5,DU,We] at h⊢;refine⟨λo ho=>⟨AA9 (h.1 o ho).1,.inr ((h.1 o ho).2.resolve_left AV)⟩,?_⟩;refine JC.2 λi _=>?_
  have:Pq fb ops i=AB:=by
   unfold Pq
   cases e:ops[i]? with
   |none=>rfl|some o=>
    simp only;have ho:=(h.1 o (lK e)).1
    have:VG fb.cp o.op=AB:=by
     unfold VG;split
     ·rename_i c hc;rw[hc] at ho;split
      ·rename_i f hf;exfalso;unfold V6 at ho;simp only[hf,DU] at ho;have h2:=ho.2;simp[Gn,Fb.small] at h2
      rfl
     rfl
    rw[this]
  rw[this]
 |seq a b ia ib=>intro h;simp only[JZ,DU] at h⊢;exact⟨ia h.1,ib h.2⟩
 |cond c a b ia ib=>intro h;simp only[JZ,DU] at h⊢;exact⟨⟨(by have:=h.1.1;cases c<;>first|exact this|(cases this)),ia h.1.2⟩,ib h.2⟩
 |block n c ih=>exact ih|loop c ih=>exact ih|scope c ih=>exact ih|rangeFunc f ps a b _ _=>intro h;simp[JZ,Fb.small] at h
 |_=>intro _;rfl
theorem aU(hK:Fits K T N)(hh:K.F.h){l l':Nat}{g:Bi}{ca cb:Code}(hl:ρ.r l l')(hp:Au K.F ρ p p')(hg:K.F.r g)(ha:K.F.c ca)(hb:K.F.c cb)(hk:k=.normal\/k=.deferred):
  DF K T ρ (Frame.round l g p ca cb k) (Frame.round l' g p' ca cb k):=
 ⟨rfl,hK.lr hh _ hg.1,hp,.cons (.code (ZI ha.1)) (.cons .beginRound (.cons (.code (ZI hb.1)) .nil)),.nil,.run,⟨rfl,hk⟩,hl,λ_ h=>(by cases h),.plain (.cons (λ_ _ e=>by cases e) (.cons (λ_ _ e=>by cases e) (.cons (λ_ _ e=>by cases e) .nil)))⟩
theorem AGb(h:DF K T ρ f f'):(f.kind== .early)=false/\(f'.kind== .early)=false:=by
 rw[h.kind.1];rcases h.kind.2 with e|e<;>rw[e]<;>exact⟨rfl,rfl⟩
theorem VH(hK:Fits K T N)(hW:DD K.F N ρ v w)(hf:DF K T ρ f f'){ts ts':List AX}(hts:Cc (IW K T ρ) ts ts'){s s':Sem Next}(hs:AY T K.F N (mW K.F) s ρ s')
  (hq:NC K f\/∃g p v',K.fb.ch=AA g/\s.run T.v v=.ok (.enter g p) v')
  (ht: ∀g1 v1 es,Ht T.v true f (ts++(dr::ds)) AB s v=.go g1 v1 es->Tp v w (v1.drawn - v.drawn)):
  Sv K T N ρ v w dr ds cs' (Ht T.v true f (ts++(dr::ds)) AB s v) (Ht T.P true f' (ts'++cs') AB s' w):=by
 have hc:=hs.sort hW;have hr:Tp v w ((LU (s.run T.v v)).drawn - v.drawn)->Res T.p K.F N (mW K.F) ρ v w (s.run T.v v) (s'.runT T.P w #[]):=λh=>hs.sound hW h;have k1:=AGb hf;unfold Ht at ht⊢;simp only[if_true,k1.1,k1.2,C9,if_false] at ht⊢;rw[Ik] at ht⊢;have hdr:=hs.drawn hW;generalize s.events T.v v #[]=eu at ht⊢;generalize s.run T.v v=r at hr hc ht hdr hq⊢;generalize s'.runT T.P w #[]=r' at hr⊢;have mono: ∀{ρ'},ρ.le ρ'->Cc (IW K T ρ') ts ts':=λl=>CV (λ_ _ x=>x.mono l) hts
 cases r with
 |ok n v'=>
  have hT:Tp v w (v'.drawn - v.drawn):=by
   obtain⟨ρ',b,hq⟩:=hc
   cases hq with|value _=>exact ht _ _ _ rfl|skip=>exact ht _ _ _ rfl|enter _ _ _ _=>exact ht _ _ _ rfl|round _ _ _ _ _ _=>exact ht _ _ _ rfl|defer _ _ _=>exact ht _ _ _ rfl|seq _ _=>exact ht _ _ _ rfl
  obtain⟨ρ',b,w',u,rfl,mg,hst⟩:=hr hT;clear hr hc ht hT;have hsub:Stp K.F N ρ ρ' v w v' w' (seen T.P f'.fn u++ #[]):=hst.sub λe he=>by simp at he;exact Du he
  have hnc:(∀g p,n=.enter g p->K.X g=false)->NC K f:=λh=>hq.elim id λ⟨g,p,u,h1,h2⟩=>by
   (cases h2);have:=h g p rfl;rw[(hK.ch g h1).2] at this;cases this
  have hcx: ∀g p,n=.enter g p->K.fb.ch=AA g\/NC K f:=λg p e=>hq.elim .inr λ⟨g',p',u,h1,h2⟩=>by
   rw[e] at h2;(cases h2);exact .inl h1
  clear hq
  cases mg with
  |value hv=>exact .inl ⟨_,_,_,_,ρ',w',_,rfl,rfl,(hf.mono hst.le).finish hv (.inl (hnc λg p e=>by cases e)),mono hst.le,hsub⟩|skip=>exact .inl ⟨_,_,_,_,ρ',w',_,rfl,rfl,(hf.mono hst.le).finish .undef (.inr (.inl rfl)),mono hst.le,hsub⟩| @enter g p p' hg ha ARf hp=>
   by_cases hX:K.X g=true
   ·have fin:Sv K T N ρ v w dr ds cs' (DW (seen T.v f.fn eu) (.go {frame:=BV T.v g p .normal,callers:=f::(ts++(dr::ds)),status:=.running,dying:=AB} v'))
      (DW (seen T.P f'.fn u) (.go {frame:=BV T.P g p' .normal,callers:=f'::(ts'++cs'),status:=.running,dying:=AB} w')):=
     .inr (.inl ⟨g,_,_,.normal,_,_,_,_,ρ',w',_,hg,⟨hX,ha,ARf,hcx g p rfl⟩,rfl,rfl,hp,hf.mono hst.le,mono hst.le,hsub,rfl⟩)
    have ht:=hf.todo;generalize f.todo=A at ht⊢;generalize f'.todo=B at ht⊢
    cases ht with|nil=>exact fin|cons hi _=>cases hi<;>exact fin
   have fin:Sv K T N ρ v w dr ds cs' (DW (seen T.v f.fn eu) (.go {frame:=BV T.v g p .normal,callers:=f::(ts++(dr::ds)),status:=.running,dying:=AB} v'))
     (DW (seen T.P f'.fn u) (.go {frame:=BV T.P g p' .normal,callers:=f'::(ts'++cs'),status:=.running,dying:=AB} w')):=
    .inl ⟨_,f::ts,_,f'::ts',ρ',w',_,rfl,rfl,OH hK hg (by simpa using hX) hp (.inl rfl),.cons ⟨hf.mono hst.le,hnc λg' p' e=>by cases e;simpa using hX⟩ (mono hst.le),hsub⟩
   have ht:=hf.todo;generalize f.todo=A at ht⊢;generalize f'.todo=B at ht⊢
   cases ht with|nil=>exact fin|cons hi _=>cases hi<;>exact fin
  | @round l l' g p p' ca cb hh hl hp hg ha hb=>
   have fin:Sv K T N ρ v w dr ds cs' (DW (seen T.v f.fn eu) (.go {frame:=Frame.round l g p ca cb .normal,callers:=f::(ts++(dr::ds)),status:=.running,dying:=AB} v'))
     (DW (seen T.P f'.fn u) (.go {frame:=Frame.round l' g p' ca cb .normal,callers:=f'::(ts'++cs'),status:=.running,dying:=AB} w')):=
    .inl ⟨_,f::ts,_,f'::ts',ρ',w',_,rfl,rfl,aU hK hh hl hp hg ha hb (.inl rfl),.cons ⟨hf.mono hst.le,hnc λg p e=>by cases e⟩ (mono hst.le),hsub⟩
   exact fin
  |defer hlx hnx hd=>
   refine .inl ⟨_,_,_,_,ρ',w',_,rfl,rfl,DF.finish (f:={f with defers:=_::f.defers}) (f':={f' with defers:=_::f'.defers}) ?_ .undef (.inr (.inl rfl)),mono hst.le,hsub⟩;have hf:=hf.mono hst.le;exact⟨hf.fn,hf.ok,hf.tmps,hf.todo,.cons hd hf.defers,hf.mode,hf.kind,hf.round,λd hd=>(BB.1 hd).elim (λe=>.inr ⟨hlx,by rw[e];exact hnx⟩) (hf.nd d),hf.rg⟩
  | @seq p _ hp hq=>
   rw[hst.tok.2] at hq;have fin: ∀r2,Sv K T N ρ v w dr ds cs' (DW (seen T.v f.fn eu) (.go {frame:=BV T.v K.z p .normal,callers:=f::(ts++(dr::ds)),status:=.running,dying:=AB} v')) r2:=λ_=>.inr (.inr (.inr (.inr ⟨_,.normal,_,_,hq,hp,hst.drawn.1,rfl⟩)));have ht:=hf.todo;generalize f.todo=A at ht⊢;generalize f'.todo=B at ht⊢
   cases ht with|nil=>exact fin _|cons hi _=>cases hi<;>exact fin _
 |halt x v'=>
  cases x with
  |panic x=>
   rcases hr (ht _ _ _ rfl) with QZ|⟨ρ',x',w',u,rfl,hx,hst⟩
   ·refine .inr (.inr (.inr (.inl ⟨QZ,?_,_,_,rfl,TP hf (by intro e he;simp at he;subst he;rfl)⟩)));exact hdr
   (have hsub:Stp K.F N ρ ρ' v w v' w' (seen T.P f'.fn u++ #[]):=hst.sub λe he=>by simp at he;exact Du he);exact .inl ⟨_,_,_,_,ρ',w',_,rfl,rfl,(hf.mono hst.le).raise (.cons ⟨hx,rfl,⟨rfl,rfl⟩,rfl⟩ .nil),mono hst.le,hsub⟩
  |unsupported u=>cases u<;>first|exact hc.elim|trivial
  |_=>first|exact hc.elim|trivial
end
end
section
variable {es es0 eu:Array Bc}{f f':AX}{ts ts':List AX}
section
variable {K:Kit} {T:Twin} {N:Nat} {ρ ρ':Rn} {v w v' w':AL} {dr:AX} {ds cs':List AX} {mn:Bool}
theorem OI(hf:DF K T ρ' f f')(hts:Cc (IW K T ρ') ts ts')(hst:Stp K.F N ρ ρ' v w v' w' es)(he: ∀e∈es0,e∈es):
  Sv K T N ρ v w dr ds cs' (.go (G f (ts++(dr::ds))) v' eu) (.go (G f' (ts'++cs')) w' es0):=
 .inl ⟨_,_,_,_,ρ',w',_,rfl,rfl,hf,hts,hst.sub he⟩
theorem uT{F:Fs}{c c':List NG}(h:Cc (iG F ρ) c c'):c.dropWhile (!·.goexit)=[]/\c'.dropWhile (!·.goexit)=[]:=by
 induction h with|nil=>exact⟨rfl,rfl⟩|cons hp _ ih=>simp[hp.g.1,hp.g.2,ih.1,ih.2]
theorem ABA(hf:DF K T ρ' f f')(hts:Cc (IW K T ρ') ts ts')(hst:Stp K.F N ρ ρ' v w v' w' es)(he: ∀e∈es0,e∈es){x x':AP}(hx:Az K.F ρ' x x'):
  Sv K T N ρ v w dr ds cs' (DW eu (Gw T.v true f (ts++(dr::ds)) AB x v')) (DW es0 (Gw T.P mn f' (ts'++cs') AB x' w')):=by
 have he': ∀e∈es0++ #[],e∈es:=λe h=>he e (by simpa using h);obtain⟨hk1,hk2⟩:=hf.kind
 cases hts with
 |nil=>
  unfold Gw;simp only[Dy];rcases hk2 with e|e<;>rw[e]
  ·refine .inr (.inr (.inl ⟨_,rfl,⟨λ_=>.inr (.inl ⟨_,rfl⟩),λch h hu=>⟨ch,by rw[yS];exact h,hu⟩⟩,λc0' AA8 ec hm hm'=>.inl ⟨x,x',ρ',w',es0++ #[],rfl,?_,hx,hst.sub he'⟩,hst.drawn.1⟩));subst ec;simp only[hk1,e];rfl
  refine .inr (.inr (.inl ⟨_,rfl,⟨λhm=>.inl (by rw[hm]),λch h hu=>⟨ch,?_,hu⟩⟩,λc0' AA8 ec hm hm'=>.inr (.inl ⟨ρ',w',es0++ #[],by rw[hm],?_,hst.sub he'⟩),hst.drawn.1⟩))
  ·rw[h]
   cases ch with
   |nil=>exact h|cons a ch=>
    obtain⟨av,ar,ag⟩:=a;have:ar=false:=hu ⟨av,ar,ag⟩ AV;subst this;exact h
  subst ec;simp only[hk1,e,hm'];rfl
 | @cons t t' ts ts' ht hts=>
  unfold Gw;simp only[Dj,hk1];rcases hk2 with e|e<;>rw[e]
  ·exact OI (ht.fr.finish hx (.inl ht.nc)) hts hst he'
  simp only;have hm:=ht.fr.mode
  have fin: ∀(a b:AX),DF K T ρ' a b->Sv K T N ρ v w dr ds cs' (DW eu (.go {frame:=a,callers:=ts++(dr::ds),status:=.running,dying:=AB} v'))
    (DW es0 (.go {frame:=b,callers:=ts'++cs',status:=.running,dying:=AB} w')):=λa b h=>OI h hts hst he'
  refine fin _ _ ?_;generalize t.mode=m at hm⊢;generalize t'.mode=m' at hm⊢
  cases hm with
  |run=>exact ht.fr|returning=>exact ht.fr|panicking hc=>
   cases hc with
   |nil=>exact ht.fr| @cons a b c c' hp hc=>
    obtain⟨av,ar,ag⟩:=a;obtain⟨bv,br,bg⟩:=b;obtain⟨_,h2,_⟩:=hp;simp only at h2;subst h2;(cases br);exact ht.fr;simp only[(uT hc).1,(uT hc).2];exact ht.fr.XD .returning
theorem DF.AGc(h:DF K T ρ f f')(e:f.todo=[]):f'.todo=[]:=by
 have ht:=h.todo;rw[e] at ht;generalize f'.todo=b at ht;cases ht;rfl
theorem DF.ADg(h:DF K T ρ f f'){i:Item}{l:List Item}(e:f.todo=i::l): ∃i' l',f'.todo=i'::l'/\Kw K f.roundOf.isNone (K.fb.lr f.fn) ρ i i'/\Cc (Kw K f.roundOf.isNone (K.fb.lr f.fn) ρ) l l':=by
 have ht:=h.todo;rw[e] at ht;generalize f'.todo=b at ht
 cases ht with|cons h1 h2=>exact⟨_,_,rfl,h1,h2⟩
theorem aV{α β:Type}{Q:Rn->α->β->Prop}{s:Sem α}{s':Sem β}(hs:AY T K.F N Q s ρ s')(hW:DD K.F N ρ v w){cont:Result α->GStep}{Qa:Result β->GStep}{fn':Bi}
  (ADh: ∀h v',Halt.still h->∃o u e,cont (.halt h v')=.ended o u e)
  (ARg: ∀x v',(∃o u e,cont (.halt (.panic x) v')=.ended o u e)\/((∃f1 Di e,cont (.halt (.panic x) v')=.go (G f1 (Di++(dr::ds))) v' e/\∃ch,f1.mode=.panicking ch/\NP ch)/\
   ∀ρ' x' w' u eu,Az K.F ρ' x x'->Stp K.F N ρ ρ' v w v' w' u->Sv K T N ρ v w dr ds cs' (DW eu (cont (.halt (.panic x) v'))) (DW (seen T.P fn' u) (Qa (.halt (.panic x') w')))))
  (hgo: ∀a v' ρ₁ b₁,Q ρ₁ a b₁->(Tp v w (v'.drawn - v.drawn)\/True)->((∃g e,cont (.ok a v')=.go g v' e)\/∃o u e,cont (.ok a v')=.ended o u e)/\
   ∀ρ' b w' u eu,Q ρ' a b->Stp K.F N ρ ρ' v w v' w' u->Sv K T N ρ v w dr ds cs' (DW eu (cont (.ok a v'))) (DW (seen T.P fn' u) (Qa (.ok b w'))))
  (ht: ∀g1 v1 e,DW es (cont (s.run T.v v))=.go g1 v1 e->Tp v w (v1.drawn - v.drawn)):
  Sv K T N ρ v w dr ds cs' (DW es (cont (s.run T.v v))) (DW (seen T.P fn' (s'.runT T.P w #[]).2) (Qa (s'.runT T.P w #[]).1)):=by
 have hc:=hs.sort hW;have hr:Tp v w ((LU (s.run T.v v)).drawn - v.drawn)->Res T.p K.F N Q ρ v w (s.run T.v v) (s'.runT T.P w #[]):=λh=>hs.sound hW h;have hd:=hs.drawn hW;generalize s.run T.v v=r at hr hc ht hd⊢;generalize s'.runT T.P w #[]=r' at hr⊢
 cases r with
 |ok a v'=>
  obtain⟨ρ₁,b₁,hq⟩:=hc;obtain⟨h1,h2⟩:=hgo a v' ρ₁ b₁ hq (.inr trivial);rcases h1 with ⟨g,e,h1⟩|⟨o,u,e,h1⟩
  ·have hT:Tp v w (v'.drawn - v.drawn):=ht g v' (es++e) (by rw[h1];rfl);obtain⟨ρ',b,w',u,rfl,hq',hst⟩:=hr hT;exact h2 ρ' b w' u es hq' hst
  rw[h1];trivial
 |halt x v'=>
  have still:Halt.still x->Sv K T N ρ v w dr ds cs' (DW es (cont (.halt x v'))) (DW (seen T.P fn' r'.2) (Qa r'.1)):=λh=>by
   obtain⟨o,u,e,h1⟩:=ADh x v' h;rw[h1];trivial
  cases x with
  |panic x=>
   rcases ARg x v' with ⟨o,u,e,h1⟩|⟨⟨f1,Di,e,h1,h3⟩,h2⟩;rw[h1];trivial;have hT:Tp v w (v'.drawn - v.drawn):=ht _ v' (es++e) (by rw[h1];rfl);rcases hr hT with QZ|⟨ρ',x',w',u,rfl,hx,hst⟩
   ·rw[h1];exact .inr (.inr (.inr (.inl ⟨QZ,hd,f1,Di,rfl,h3⟩)))
   exact h2 ρ' x' w' u es hx hst
  |_=>exact still hc
end
end
section
variable {ops:Array Oper}{f f':AX}{F:Fs}{ts ts':List AX}{j:Nat}{o:Oper}{v:AL}
section
variable {K:Kit} {T:Twin} {N:Nat} {ρ ρ':Rn} {v w v' w':AL} {dr:AX} {ds cs':List AX} {mn:Bool}
theorem VI(hW:DD K.F N ρ v w)(hf:DF K T ρ f f')(hts:Cc (IW K T ρ) ts ts'){j:Option Code}(hj: ∀c,j=AA c->JZ K.P Fb.small K.G false false c=true){lost lost':GStep}(hl: ∃o u e,lost=.ended o u e)
  {cnd:Prop} [Decidable cnd]
  {R R':GStep} (hR:R=match f.roundOf with
   |none=>if cnd then GStep.go {frame:={f with mode:=.returning},callers:=ts++(dr::ds),status:=.running,dying:=AB} v else lost
   |some l=>DW (seen T.v f.fn ((Tu l j).runT T.v v #[]).2) (match ((Tu l j).runT T.v v #[]).1 with
    | .ok x w=>Gw T.v true f (ts++(dr::ds)) AB x w
    | .halt _ w=>.ended (.stuck "range over a function: no such loop" (f.pos T.v)) w))
  (hR':R'=match f'.roundOf with
   |none=>if cnd then GStep.go {frame:={f' with mode:=.returning},callers:=ts'++cs',status:=.running,dying:=AB} w else lost'
   |some l=>DW (seen T.P f'.fn ((Tu l j).runT T.P w #[]).2) (match ((Tu l j).runT T.P w #[]).1 with
    | .ok x w=>Gw T.P mn f' (ts'++cs') AB x w
    | .halt _ w=>.ended (.stuck "range over a function: no such loop" (f'.pos T.P)) w))
  (ht: ∀g1 v1 es,R=.go g1 v1 es->Tp v w (v1.drawn - v.drawn)):Sv K T N ρ v w dr ds cs' R R':=by
 have hro:=hf.round
 cases h1:f.roundOf with
 |none=>
  have h2:f'.roundOf=AB:=by
   rw[h1] at hro
   cases h2:f'.roundOf with|none=>rfl|some _=>rw[h2] at hro;exact hro.elim
  have h3:=hf.XD (m:=.returning) (m':=.returning) .returning;simp only[h1,h2] at h3;simp only[h1] at hR;simp only[h2] at hR';subst hR hR';split;exact OI h3 hts (Stp.refl hW) AV;obtain⟨o,u,e,rfl⟩:=hl;trivial
 |some l=>
  obtain⟨l',h2,hl2⟩: ∃l',f'.roundOf=AA l'/\ρ.r l l':=by
   rw[h1] at hro
   cases h2:f'.roundOf with|none=>rw[h2] at hro;exact hro.elim|some l'=>rw[h2] at hro;exact⟨l',rfl,hro⟩
  rw[h1] at hR;rw[h2] at hR';simp only at hR hR';rw[Ik] at hR;subst hR hR'
  refine aV (Q:=QV K.F) (cont:=λr=>match r with
    | .ok x w=>Gw T.v true f (ts++(dr::ds)) AB x w
    | .halt _ w=>.ended (.stuck "range over a function: no such loop" (f.pos T.v)) w)
   (Qa:=λr=>match r with
    | .ok x w=>Gw T.P mn f' (ts'++cs') AB x w
    | .halt _ w=>.ended (.stuck "range over a function: no such loop" (f'.pos T.P)) w) (sU hl2 (j:=j) (λhx c hcj=>⟨hj c hcj,hx.choose_spec.2⟩)) hW (λh v' _=>⟨_,_,_,rfl⟩) (λx v'=>.inl ⟨_,_,_,rfl⟩) (λa v' ρ₁ b₁ _ _=>⟨?_,?_⟩) ht
  ·cases hts with
   |nil=>
    rcases hf.kind.2 with e|e;exact .inl ⟨_,_,by simp only[Gw,e,Dy];rfl⟩;exact .inl ⟨_,_,by simp only[Gw,e,Dy];rfl⟩
   |cons _ _=>
    rcases hf.kind.2 with e|e;exact .inl ⟨_,_,by simp only[Gw,e,Dj];rfl⟩;exact .inl ⟨_,_,by simp only[Gw,e,Dj];rfl⟩
  intro ρ' b w' u eu hq hst;exact ABA (hf.mono hst.le) (CV (λ_ _ x=>x.mono hst.le) hts) hst (λe he=>Du he) hq
theorem Tp.shift{w v1 w1:AL}{n:Nat}(h:Tp v w n)(hv:v1.tape=v.tape)(hw:w1.tape=w.tape)(hd:v.drawn<=v1.drawn/\v1.drawn+w.drawn=v.drawn+w1.drawn):Tp v1 w1 (n - (v1.drawn - v.drawn)):=by
 intro i hi q;rw[hv,hw];have:=h (v1.drawn - v.drawn+i) Ad q;(have e1:v.drawn+(v1.drawn - v.drawn+i)=v1.drawn+i:=by omega);(have e2:w.drawn+(v1.drawn - v.drawn+i)=w1.drawn+i:=by omega);rw[e1,e2] at this;exact this
theorem AGd{α β:Type}{Q:Rn->α->β->Prop}{s:Sem α}{s':Sem β}(hs:AY T K.F N Q s ρ s')(hW:DD K.F N ρ v w){cont:Result α->GStep}{Qa:Result β->GStep}{es:Array Bc}{fn':Bi}
  (ADh: ∀h v',∃o u e,cont (.halt h v')=.ended o u e)
  (hgo: ∀a v' ρ' b w',Q ρ' a b->DD K.F N ρ' v' w'->ρ.le ρ'->(∀g1 v1 e,cont (.ok a v')=.go g1 v1 e->Tp v' w' (v1.drawn - v'.drawn))->Sv K T N ρ' v' w' dr ds cs' (cont (.ok a v')) (Qa (.ok b w')))
  (ht: ∀g1 v1 e,DW es (cont (s.run T.v v))=.go g1 v1 e->Tp v w (v1.drawn - v.drawn)):
  Sv K T N ρ v w dr ds cs' (DW es (cont (s.run T.v v))) (DW (seen T.P fn' (s'.runT T.P w #[]).2) (Qa (s'.runT T.P w #[]).1)):=by
 have h0:=hs.sound hW.tied (λi _ q=>by simp[tied]);have hr:Tp v w ((LU (s.run T.v v)).drawn - v.drawn)->Res T.p K.F N Q ρ v w (s.run T.v v) (s'.runT T.P w #[]):=λh=>hs.sound hW h;generalize s.run T.v v=r at hr h0 ht⊢;generalize s'.runT T.P (tied v w) #[]=r0 at h0;generalize s'.runT T.P w #[]=r' at hr⊢
 cases r with
 |halt x v'=>obtain⟨o,u,e,h1⟩:=ADh x v';rw[h1];trivial
 |ok a v'=>
  obtain⟨ρ0,b0,w0,u0,rfl,hq0,Yp⟩:=h0
  have hfull: ∀n,Tp v' w0 n:=λn i _ q=>by
   rw[Yp.tv.1,Yp.tw.1];have:=Yp.drawn;simp only[tied] at this⊢;congr 1;omega
  have hs0:=hgo a v' ρ0 b0 w0 hq0 Yp.rel Yp.le (λ_ v1 _ _=>hfull _)
  cases hc:cont (.ok a v') with
  |go g1 v1 e=>
   rw[hc] at hs0
   have hmono:v'.drawn<=v1.drawn:=by
    rcases hs0 with ⟨_,_,_,_,_,_,_,_,_,_,_,h⟩|⟨_,_,_,_,_,_,_,_,_,_,_,_,_,_,_,_,_,_,h,_⟩|⟨_,_,_,_,h⟩|⟨_,h,_⟩|⟨_,_,_,_,_,_,h,_⟩;exact h.drawn.1;exact h.drawn.1;exact h;exact h;exact h
   have hT:Tp v w (v1.drawn - v.drawn):=ht g1 v1 (es++e) (by rw[hc];rfl);have hd:=Yp.drawn.1;obtain⟨ρ',b,w',u,rfl,hq,hst⟩:=hr (λi hi q=>hT i (by simp only[LU] at hi;omega) q)
   have h2:=hgo a v' ρ' b w' hq hst.rel hst.le (λg2 v2 e2 h=>by
    rw[hc] at h;(cases h);have:=hT.shift hst.tv.1 hst.tw.1 hst.drawn;have e3:v1.drawn - v.drawn - (v'.drawn - v.drawn)=v1.drawn - v'.drawn:=by omega
    rwa[e3] at this)
   rw[hc] at h2;rcases h2 with ⟨f1,Di,f1',Gy,ρ1,w1,es',h3,h4,h5,h6,h7⟩|⟨X,p,p',k,f1,Di,f1',Gy,ρ1,w1,es',hX,hX',h3,h4,h5,h6,h7,h8,h9⟩|⟨c,h3,h4,h5,h6⟩|⟨QZ,h3,h4⟩|⟨p,k,f1,Di,h0,h3,h4,h5⟩
   ·refine .inl ⟨f1,Di,f1',Gy,ρ1,w1,seen T.P fn' u++es',h3,by simp only[h4];rfl,h5,h6,?_⟩;exact (hst.trans h7 hW).sub λx hx=>(JL.1 hx).elim (λh=>JL.2 (.inl (Du h))) λh=>JL.2 (.inr h)
   ·refine .inr (.inl ⟨X,p,p',k,f1,Di,f1',Gy,ρ1,w1,seen T.P fn' u++es',hX,hX',h3,by simp only[h4];rfl,h5,h6,h7,?_,h9⟩);exact (hst.trans h8 hW).sub λx hx=>(JL.1 hx).elim (λh=>JL.2 (.inl (Du h))) λh=>JL.2 (.inr h)
   exact .inr (.inr (.inl ⟨c,h3,h4,h5.after hst hW λ_ he=>Du he,Ad⟩));exact .inr (.inr (.inr (.inl ⟨QZ,Ad,h4⟩)));exact .inr (.inr (.inr (.inr ⟨p,k,f1,Di,by rw[<- hst.tok.2];exact h0,h3,Ad,h5⟩)))
  |ended o u e=>trivial|_=>rw[hc] at hs0;exact hs0.elim
theorem yT{p p':Array AP}(h:Au F ρ p p')(ops:Array Oper):yielded ops p=yielded ops p':=by
 funext j;unfold yielded
 cases (ops[j]?).bind (·.dst) with
 |none=>rfl|some d=>
  simp only[Option.bind_some]
  cases hv:p[d]? with
  |none=>rw[h.none hv]|some x=>
   obtain⟨x',hx',hr⟩:=h.get hv;rw[hx']
   cases hr with
   |flat _=>rfl|tok hc ht=>cases x'<;>first|rfl|exact Ai (show false=true from ht) AV
   |mf _ hm=>cases x'<;>first|rfl|exact Ai (show false=true from hm) AV
   |_=>rfl
theorem yU{fb:Fb}{t:Tmp}(h:Jp fb ops j=AA t)(ho:ops[j]? =AA o): ∃c g,o.op=.call c/\c.callee=.value (.func g)/\fb.ch=AA g:=by
 unfold Jp at h;rw[ho] at h;simp only at h;split at h
 ·rename_i c hc;unfold VG at hc;split at hc
  ·rename_i c' hop;split at hc
   ·rename_i f hf;split at hc
    ·rename_i hg;exact⟨c',f,hop,hf,by simpa using hg⟩
    cases hc
   cases hc
  cases hc
 cases h
theorem ABB(hB:Gp T F N){g:Bi}(hg:F g){c:Call}(h1:o.op=.call c)(h2:c.callee=.value (.func g)){ev:Operand->AP}(hev: ∀g,ev (.func g)=.func (.func g) #[] #[]):
  (BG ev o).run T.v v=.ok (.enter g (#[]++c.args.map ev++ #[])) v:=by
 obtain⟨fn,e1,e2,e3⟩:=hB.v g hg;unfold BG;simp only[h1,resolve,h2,hev];show (callFunc g (#[]++c.args.map ev++ #[])).run T.v v=_;unfold callFunc
 show (match T.v.funcs[g]? with
  |none=>stuck "call: no such function"
  |some fn=>_:Sem Next).run T.v v=_
 simp only[e1,e2,e3,C9,if_false];rfl
theorem AH6(hf:DF K T ρ f f')(hm:f.mode=.run){rest:List Nat}{l:List Item}(e:f.todo=.inRegion ops (j::rest)::l)(ho:ops[j]? =AA o)(c:Call)(g:Bi)(h1:o.op=.call c)(h2:c.callee=.value (.func g)):K.F.dk g (c.args.map f.eval):=by
 intro hcp x hx;have ht:=hf.todo;rw[e] at ht
 have ARh:dX K.fb ops=true:=by
  generalize f'.todo=b at ht
  cases ht with|cons hi _=>cases hi with|inRegion hc=>simp only[JZ,DU] at hc;exact hc.2
 have hct:VG K.fb.cp o.op=AA c:=by
  unfold VG;simp only[h1,h2,hcp,beq_self_eq_true,if_true]
 have hlt:j<ops.size:=(Df.1 ho).1;have h3:=JC.1 ARh j (WZ.2 hlt);rw[Kr] at hx;obtain⟨a,ha,rfl⟩:=Jz.1 hx
 cases a with
 |tmp t=>
  have hco:Pq K.fb ops j=AA (AA t):=by
   unfold Pq;simp only[ho,hct,ha]
  rcases hf.rg.2 hm _ _ _ e j t hco with h4|h4;exact h4;obtain⟨i,hi,_⟩:=h4 [] rest rfl;cases hi
 |_=>
  have hco:Pq K.fb ops j=AA AB:=by
   unfold Pq;simp only[ho,hct,ha]
  rw[hco] at h3;cases h3
theorem AGe(hK:Fits K T N)(hW:DD K.F N ρ v w)(hG: ∀g,g<K.G->ρ.r g g)(hf:DF K T ρ f f')(hmr:f.mode=.run)(hts:Cc (IW K T ρ) ts ts')
  (ht: ∀g1 v1 es,JA T.v true true f (ts++(dr::ds)) AB v=.go g1 v1 es->Tp v w (v1.drawn - v.drawn)):
  Sv K T N ρ v w dr ds cs' (JA T.v true true f (ts++(dr::ds)) AB v) (JA T.P mn true f' (ts'++cs') AB w):=by
 have Yp:=Stp.refl hW
 have hgo: ∀{l l':List Item},Cc (Kw K f.roundOf.isNone (K.fb.lr f.fn) ρ) l l'->JM l->Sv K T N ρ v w dr ds cs' (.go {frame:={f with todo:=l},callers:=ts++(dr::ds),status:=.running,dying:=AB} v)
   (.go {frame:={f' with todo:=l'},callers:=ts'++cs',status:=.running,dying:=AB} w):=λh hn=>OI (hf.aT h (.plain hn)) hts Yp AV
 have hev:=hf.ev hG;unfold JA at ht⊢
 cases e:f.todo with
 |nil=>
  have e':=hf.AGc e;simp only[e,e'] at ht⊢;exact VI hW hf hts (j:=AB) AV (cnd:=True) (lost:=.ended (.stuck "exit, goto: no such block or label" (f.pos T.v)) v) (lost':=.ended (.stuck "exit, goto: no such block or label" (f'.pos T.P)) w) ⟨_,_,_,rfl⟩ (by simp only[e];rfl) (by simp only[e'];rfl) ht
 |cons i l=>
  obtain⟨i',l',e',hi,hl⟩:=hf.ADg e;(have hnl:JM l:=by have:=hf.rg.1;rw[e] at this;exact this);have yV: ∀{c:Code} {l:List Item},JM l->JM (.code c::l):=λh=>.cons (λ_ _ e=>by cases e) h
  cases hi with
  | @code c hc=>
   cases c<;>simp only[e,e'] at ht⊢
   case ret=>exact VI hW hf hts (j:=AA .ret) (λc h=>by cases h;rfl) (cnd:=True) (lost:=.ended (.stuck "exit, goto: no such block or label" (f.pos T.v)) v) (lost':=.ended (.stuck "exit, goto: no such block or label" (f'.pos T.P)) w) ⟨_,_,_,rfl⟩ (by simp only[e];rfl) (by simp only[e'];rfl) ht
   case skip=>exact hgo hl hnl
   case label n=>exact hgo hl hnl
   case seq a b=>
    simp only[JZ,DU] at hc;exact hgo (.cons (.code hc.1) (.cons (.code hc.2) hl)) (yV (yV hnl))
   case cond c a b=>
    simp only[JZ,DU] at hc;have hv:=hev c hc.1.1;generalize f.eval c=x at hv⊢;generalize f'.eval c=x' at hv⊢
    cases hv with
    |flat hfl=>
     (cases x<;>first|trivial|skip);rename_i t;(cases t);exact hgo (.cons (.code hc.2) hl) (yV hnl);exact hgo (.cons (.code hc.1.2) hl) (yV hnl)
    |_=>trivial
   case block n c=>exact hgo (.cons (.code hc) (.cons .inBlock hl)) (yV (.cons (λ_ _ e=>by cases e) hnl))
   case loop c=>exact hgo (.cons (.code hc) (.cons (.inLoop hc) hl)) (yV (.cons (λ_ _ e=>by cases e) hnl))
   case scope c=>exact hgo (.cons (.code hc) (.cons (.inScope hc) hl)) (yV (.cons (λ_ _ e=>by cases e) hnl))
   case exit n=>
    have hx:=yQ (id:=n) hl;have hxn: ∀q,exitTo n l=AA q->JM q:=λq e=>sV hnl e;generalize exitTo n l=x at hx hxn ht⊢;generalize exitTo n l'=x' at hx⊢;cases x<;>cases x'<;>first|exact hx.elim|skip
    ·exact VI hW hf hts (j:=AA (.exit n)) (λc h=>by cases h;rfl) (cnd:=False) (lost:=.ended (.stuck "exit, goto: no such block or label" (f.pos T.v)) v) (lost':=.ended (.stuck "exit, goto: no such block or label" (f'.pos T.P)) w) ⟨_,_,_,rfl⟩ (by simp;rfl) (by simp;rfl) ht
    exact hgo hx (hxn _ rfl)
   case goto n=>
    have hx:=yR (id:=n) hl;have hxn: ∀q,gotoIn n l=AA q->JM q:=λq e=>sW hnl e;generalize gotoIn n l=x at hx hxn ht⊢;generalize gotoIn n l'=x' at hx⊢;cases x<;>cases x'<;>first|exact hx.elim|skip
    ·exact VI hW hf hts (j:=AA (.goto n)) (λc h=>by cases h;rfl) (cnd:=False) (lost:=.ended (.stuck "exit, goto: no such block or label" (f.pos T.v)) v) (lost':=.ended (.stuck "exit, goto: no such block or label" (f'.pos T.P)) w) ⟨_,_,_,rfl⟩ (by simp;rfl) (by simp;rfl) ht
    exact hgo hx (hxn _ rfl)
   case rangeFunc g ps a b=>
    simp only[JZ,DU] at hc;rw[Ik] at ht⊢
    have hE:AY T K.F N (λρ (x y:Nat×List EK)=>ρ.r x.1 y.1/\Cc (I7 K.F ρ) x.2 y.2/\∀d∈x.2,∃b,d.target=.collected b) (Vu f.fn f.tmps ps a b f.roundOf) ρ (Vu f'.fn f'.tmps ps a b f'.roundOf):=by
     rw[hf.fn];exact mZ (F:=K.F) f.fn (show K.F.r f.fn from ⟨hc.1.1.1.1.1.2,hc.1.1.1.1.1.1⟩) hf.tmps ps (by simpa using hc.1.1.2) ⟨hc.1.2,hc.1.1.1.1.1.1⟩ ⟨hc.2,hc.1.1.1.1.1.1⟩ hf.round
    refine AGd (cont:=λr=>match r with
      | .ok (l0,mark) w=>Ht T.v true {f with todo:=.inRangeFunc l0::l,defers:=mark++f.defers} (ts++(dr::ds)) AB
        (do let d <- resolve (Frame.eval {f with todo:=.inRangeFunc l0::l,defers:=mark++f.defers}) {callee:=.value g,args:=#[.const (.func (.yield l0) #[] #[])],argTypes:=#[]} 0;invoke d.target d.args) w
      | .halt _ w=>.ended (.stuck "range over a function: no such loop" (f.pos T.v)) w)
     (Qa:=λr=>match r with
      | .ok (l0,mark) w=>Ht T.P true {f' with todo:=.inRangeFunc l0::l',defers:=mark++f'.defers} (ts'++cs') AB
        (do let d <- resolve (Frame.eval {f' with todo:=.inRangeFunc l0::l',defers:=mark++f'.defers}) {callee:=.value g,args:=#[.const (.func (.yield l0) #[] #[])],argTypes:=#[]} 0;invoke d.target d.args) w
      | .halt _ w=>.ended (.stuck "range over a function: no such loop" (f'.pos T.P)) w)
     (hs:=hE) hW (λh v'=>⟨_,_,_,rfl⟩) ?_ ht
    rintro⟨l0,mark⟩ v' ρ' ⟨l0',mark'⟩ w' ⟨hq1,hq2,hq3⟩ hW' hle ht'
    have app: ∀{a a' b b':List EK},Cc (I7 K.F ρ') a a'->Cc (I7 K.F ρ') b b'->Cc (I7 K.F ρ') (a++b) (a'++b'):=by
     intro a a' b b' ha hb
     induction ha with|nil=>exact hb|cons x _ ih=>exact .cons x ih
    have hf1:=hf.mono hle
    have hf2:DF K T ρ' {f with todo:=.inRangeFunc l0::l,defers:=mark++f.defers} {f' with todo:=.inRangeFunc l0'::l',defers:=mark'++f'.defers}:=
     ⟨hf1.fn,hf1.ok,hf1.tmps,.cons (.inRangeFunc hq1) (CV (λ_ _ x=>x.mono hle) hl),app hq2 hf1.defers,hf1.mode,hf1.kind,hf1.round,λd hd=>(Be.1 hd).elim (λh=>.inl ⟨hc.1.1.1.1.1.1,hq3 d h⟩) (hf1.nd d),.plain (.cons (λ_ _ e=>by cases e) hnl)⟩
    refine VH hK hW' hf2 (CV (λ_ _ x=>x.mono hle) hts) ?_ (.inl λ_ ops a rest k e=>by cases e) ht'
    have hg: ∀x:AX,∀l0,(do let d <- resolve x.eval {callee:=.value g,args:=#[.const (.func (.yield l0) #[] #[])],argTypes:=#[]} 0;invoke d.target d.args:Sem Next)=
      (do let d <- Deferred.ofValue (x.eval g) #[.func (.yield l0) #[] #[]];invoke d.target d.args):=λx l0=>by
     unfold resolve;simp only[J3,BK,EG,Frame.eval]
    rw[hg,hg];exact Uf hK.bodies hc.1.1.1.1.2 (hf2.ev (λg hg=>hle.r _ _ (hG g hg)) g hc.1.1.1.2.1) (Au.one (.yield hq1)) (λ_=>by simpa using hc.1.1.1.2.2)
   case refuse s=>trivial
   case region n ops d=>
    have hc':JZ K.P K.fb K.G f.roundOf.isNone (K.fb.lr f.fn) (.region 0 ops false)=true:=hc
    cases d with
    |false=>exact OI (hf.aT (.cons (.inRegion hc') hl) ⟨hnl,λ_ ops' rest' k' e2=>by
     simp only[IV,AAf] at e2;obtain⟨⟨rfl,rfl⟩,rfl⟩:=e2
     exact uS (by have h:=hc';simp only[JZ,DU] at h;exact h.2) λpre i post e3 _ _ e4 _ _ h5=>range_split e3 _ h5⟩) hts Yp AV
    |true=>
     simp only[lT,C9,if_false] at ht⊢;(have hch:AY T K.F N Ec (choose (.order f.fn n)) ρ (choose (.order f'.fn n)):=by rw[hf.fn];exact Ja _);have e4:T.v.follows .mixedOrders=T.P.follows .mixedOrders:=rfl;rw[e4] at ht⊢;have hr:Tp v w ((LU ((choose (.order f.fn n)).run T.v v)).drawn - v.drawn)->_:=λh=>hch.sound hW h;have hv: ∃x v',(choose (.order f.fn n)).run T.v v=.ok x v':=⟨_,_,by simp[choose,Sem.run,Question.forced];exact⟨rfl,rfl⟩⟩;obtain⟨x,v',hv⟩:=hv;rw[hv] at hr ht⊢;simp only at ht⊢;obtain⟨ρ',b,w',u,h1,h2,hst⟩:=hr (ht _ _ _ rfl);obtain rfl:x=b:=h2;(have h3:(choose (.order f'.fn n)).run T.P w=.ok x w':=by rw[<- Sem.runT_fst _ _ _ #[],h1]);rw[h3]
     exact OI ((hf.mono hst.le).aT (.cons (.inRegion hc') (CV (λ_ _ x=>x.mono hst.le) hl)) ⟨hnl,λ_ ops' rest' k' e2=>by
      simp only[IV,AAf] at e2;obtain⟨⟨rfl,rfl⟩,rfl⟩:=e2
      exact yO (by have h:=hc';simp only[JZ,DU] at h;exact h.2) _ _⟩) (CV (λ_ _ x=>x.mono hst.le) hts) hst AV
  |inBlock=>simp only[e,e'] at ht⊢;exact hgo hl hnl|inLoop hc=>simp only[e,e'] at ht⊢;exact hgo (.cons (.code hc) (.cons (.inLoop hc) hl)) (yV (.cons (λ_ _ e=>by cases e) hnl))|inScope hc=>simp only[e,e'] at ht⊢;exact hgo hl hnl| @inRegion ops todo hc=>
   cases todo with
   |nil=>simp only[e,e'] at ht⊢;exact hgo hl hnl|cons j rest=>
    simp only[e,e'] at ht⊢;rw[<- yT hf.tmps];split
    ·rename_i hwd;simp only[hwd,if_true] at ht;unfold stepG.oper at ht⊢;(have o1:f.oper? =ops[j]? :=by unfold Frame.oper?;rw[e]);(have o2:f'.oper? =ops[j]? :=by unfold Frame.oper?;rw[e']);rw[o1] at ht⊢;rw[o2]
     cases ho:ops[j]? with
     |none=>trivial|some o=>
      rw[ho] at ht;simp only at ht⊢;have hok:=U5.1 (show (ops.all λo=>V6 K.P K.fb K.G o.op && (f.roundOf.isNone || !(match o.op with| .defer _=>true|_=>false)))=true from (AHw.1 hc).1) o (lK ho);rw[DU] at hok
      have hnc:NC K f\/∃g p v',K.fb.ch=AA g/\(BG f.eval o).run T.v v=.ok (.enter g p) v':=by
       cases hch:Jp K.fb ops j with
       |none=>
        refine .inl λ_ ops' a rest' k' e2=>?_;rw[e] at e2;simp only[IV,AAf] at e2;obtain⟨⟨rfl,rfl,rfl⟩,rfl⟩:=e2;exact hch
       |some t=>
        right;obtain⟨c,g,h1,h2,h3⟩:=yU hch ho;exact⟨g,_,v,h3,ABB hK.bodies (hK.ch g h3).1 h1 h2 (λg=>rfl)⟩
      have hrel:AY T K.F N (mW K.F) (BG f.eval o) ρ (BG f'.eval o):=AA7 hK.bodies hK.N (λf h=>h) (λf n h=>h) (λf h=>h) (λh=>h) (Ba _) (λf h=>h) (λh=>h) hev (λ_=>rfl) (λ_=>rfl) (λ_=>rfl) (AH6 hf hmr e ho) (by rw[<- hK.ops];exact hok.1);have hro:=hf.round
      cases r1:f.roundOf with
      |none=>
       have r2:f'.roundOf=AB:=by
        rw[r1] at hro
        cases r2:f'.roundOf with|none=>rfl|some _=>rw[r2] at hro;exact hro.elim
       simp only[r1,r2] at ht⊢;exact VH hK hW hf hts hrel hnc ht
      |some l1=>
       obtain⟨l2,r2⟩: ∃l2,f'.roundOf=AA l2:=by
        rw[r1] at hro
        cases r2:f'.roundOf with|none=>rw[r2] at hro;exact hro.elim|some l2=>exact⟨l2,rfl⟩
       simp only[r1,r2] at ht⊢;have hnd:=hok.2;rw[r1] at hnd;generalize hop:o.op=op at hnd ht⊢;cases op<;>first|exact Ai (show false=true from hnd) AV|exact VH hK hW hf hts hrel hnc ht
    rename_i hwd;simp only[hwd,C9,if_false] at ht⊢;exact OI (hf.finish .undef (.inr (.inl rfl))) hts Yp AV
  |inRangeFunc hr=>simp only[e,e'] at ht⊢;trivial|endRangeFunc hr=>
   simp only[e,e'] at ht⊢;rw[Ik] at ht⊢
   refine aV (cont:=λr=>match r with
     | .ok jump w=>.go {frame:={f with todo:=(jump.map Item.code).toList++l},callers:=ts++(dr::ds),status:=.running,dying:=AB} w
     | .halt (.panic x) w=>.go {frame:=f.raise [{v:=x,recovered:=false}],callers:=ts++(dr::ds),status:=.running,dying:=AB} w
     | .halt _ w=>.ended (.stuck "range over a function: no such loop" (f.pos T.v)) w)
    (Qa:=λr=>match r with
     | .ok jump w=>.go {frame:={f' with todo:=(jump.map Item.code).toList++l'},callers:=ts'++cs',status:=.running,dying:=AB} w
     | .halt (.panic x) w=>.go {frame:=f'.raise [{v:=x,recovered:=false}],callers:=ts'++cs',status:=.running,dying:=AB} w
     | .halt _ w=>.ended (.stuck "range over a function: no such loop" (f'.pos T.P)) w) (yM hr) hW ?_ ?_ ?_ ht
   ·intro h v' hs;cases h<;>first|exact⟨_,_,_,rfl⟩|exact hs.elim
   ·intro x v';refine .inr ⟨⟨_,_,_,rfl,TP hf (by intro e he;simp at he;subst he;rfl)⟩,λρ' x' w' u eu hx hst=>?_⟩;exact OI ((hf.mono hst.le).raise (.cons ⟨hx,rfl,⟨rfl,rfl⟩,rfl⟩ .nil)) (CV (λ_ _ x=>x.mono hst.le) hts) hst (λe he=>by simp at he;exact Du he)
   intro a v' ρ₁ b₁ _ _;refine⟨.inl ⟨_,_,rfl⟩,λρ' b w' u eu hq hst=>?_⟩;obtain⟨rfl,hj⟩:=hq;have hl':=CV (λ_ _ (x:Kw K f.roundOf.isNone (K.fb.lr f.fn) ρ _ _)=>x.mono hst.le) hl;refine OI ((hf.mono hst.le).aT ?_ (.plain ?_)) (CV (λ_ _ x=>x.mono hst.le) hts) hst (λe he=>by simp at he;exact Du he)
   ·cases a with
    |none=>exact hl'|some c=>exact .cons (.code (ZI (hj c rfl).1)) hl'
   cases a with|none=>exact hnl|some c=>exact yV hnl
  |beginRound=>
   simp only[e,e'] at ht⊢;refine VH hK hW hf hts ?_ (.inl λ_ ops a rest k e2=>by rw[e] at e2;cases e2) ht;have hro:=hf.round
   cases r1:f.roundOf with
   |none=>exact AY.bind (Q:=λ_ _ _=>False) (λ_=>Am) λ_ _ _ _ h=>h.elim|some l1=>
    rw[r1] at hro
    cases r2:f'.roundOf with
    |none=>rw[r2] at hro;exact hro.elim|some l2=>
     rw[r2] at hro;exact ADb (jZ hro)
end
end
section
variable {f f':AX}{ts ts':List AX}
section
variable {K:Kit} {T:Twin} {N:Nat} {ρ ρ':Rn} {v w v' w':AL} {dr:AX} {ds cs':List AX} {mn:Bool}
theorem ALW{c c':Prop}[Decidable c][Decidable c'](h:c↔c'){o:Outcome}{u:AL}{e:Array Bc}{B A' B':GStep}(hB: ¬c->Sv K T N ρ v w dr ds cs' B B'):
  Sv K T N ρ v w dr ds cs' (if c then .ended o u e else B) (if c' then A' else B'):=by
 by_cases hc:c;rw[BZ hc];trivial;rw[BM hc,BM (λx=>hc (h.2 x))];exact hB hc
theorem MN(hK:Fits K T N)(hW:DD K.F N ρ v w)(hf:DF K T ρ f f')(hmd:f.mode≠ .run)(hts:Cc (IW K T ρ) ts ts'){d d':EK}(hlt: ∀g q,d.target=.fn (.func g) q->∀n,K.F.a g n)(hd:I7 K.F ρ d d')
  (ht: ∀g1 v1 es,Py T.v f (ts++(dr::ds)) AB d v=.go g1 v1 es->Tp v w (v1.drawn - v.drawn)):
  Sv K T N ρ v w dr ds cs' (Py T.v f (ts++(dr::ds)) AB d v) (Py T.P f' (ts'++cs') AB d' w):=by
 have hs:=XC (N:=N) hK.bodies hd;have hc:=hs.sort hW;have hr:Tp v w ((LU ((invoke d.target d.args).run T.v v)).drawn - v.drawn)->Res T.p K.F N _ ρ v w ((invoke d.target d.args).run T.v v) ((invoke d'.target d'.args).runT T.P w #[]):=λh=>hs.sound hW h;unfold Py at ht⊢
 have hn:((match d.target with| .nil=>true|_=>false) && (match f.mode with| .panicking _=>true|_=>false))=((match d'.target with| .nil=>true|_=>false) && (match f'.mode with| .panicking _=>true|_=>false)):=by
  have h2:=hf.mode;generalize f.mode=b at h2⊢;generalize f'.mode=b' at h2⊢
  cases hd with
  |mk h1 _=>
   generalize d.target=a at h1⊢;generalize d'.target=a' at h1⊢;cases h1<;>cases h2<;>rfl
  | @dead _ x _ _ _ hm _=>cases x<;>first|exact Ai (show false=true from hm) AV|(cases h2<;>rfl)
 refine ALW ⟨λh=>hn.symm.trans h,λh=>hn.trans h⟩ λhb=>?_
 replace ht:=λg1 v1 es h=>ht g1 v1 es ((BM hb).trans h)
 rw[Ik] at ht⊢;generalize (invoke d.target d.args).events T.v v #[]=eu at ht⊢;have hdr:=hs.drawn hW;generalize (invoke d.target d.args).run T.v v=r at hr hc ht hdr⊢;generalize (invoke d'.target d'.args).runT T.P w #[]=r' at hr⊢;have mono: ∀{ρ'},ρ.le ρ'->Cc (IW K T ρ') ts ts':=λl=>CV (λ_ _ x=>x.mono l) hts
 cases r with
 |ok n v'=>
  have hT:Tp v w (v'.drawn - v.drawn):=by
   obtain⟨ρ',b,hq,_⟩:=hc
   cases hq with|value _=>exact ht _ _ _ rfl|skip=>exact ht _ _ _ rfl|enter _ _ _ _=>exact ht _ _ _ rfl|round _ _ _ _ _ _=>exact ht _ _ _ rfl|defer _ _ _=>exact ht _ _ _ rfl|seq _ _=>exact ht _ _ _ rfl
  obtain⟨ρ',b,w',u,rfl,⟨hq,hent⟩,hst⟩:=hr hT;clear hr hc ht hT;have hsub:Stp K.F N ρ ρ' v w v' w' (seen T.P f'.fn u++ #[]):=hst.sub λe he=>by simp at he;exact Du he
  cases hq with
  |value hv=>exact .inl ⟨_,_,_,_,ρ',w',_,rfl,rfl,hf.mono hst.le,mono hst.le,hsub⟩|skip=>exact .inl ⟨_,_,_,_,ρ',w',_,rfl,rfl,hf.mono hst.le,mono hst.le,hsub⟩| @enter g p p' hg ha _ hp=>
   by_cases hX:K.X g=true
   ·obtain⟨q,hq⟩:=hent g p rfl;exact Ai (hlt g q hq) (hK.xa g hX)
   exact .inl ⟨_,f::ts,_,f'::ts',ρ',w',_,rfl,rfl,OH hK hg (by simpa using hX) hp (.inr rfl),.cons ⟨hf.mono hst.le,λh=>Ai h hmd⟩ (mono hst.le),hsub⟩
  | @round l l' g p p' ca cb hh hl hp hg ha hb=>
   exact .inl ⟨_,f::ts,_,f'::ts',ρ',w',_,rfl,rfl,aU hK hh hl hp hg ha hb (.inr rfl),.cons ⟨hf.mono hst.le,λh=>Ai h hmd⟩ (mono hst.le),hsub⟩
  |defer _ _ hd=>exact .inl ⟨_,_,_,_,ρ',w',_,rfl,rfl,hf.mono hst.le,mono hst.le,hsub⟩|seq hp hq=>exact .inr (.inr (.inr (.inr ⟨_,.deferred,_,_,by rw[<- hst.tok.2];exact hq,hp,hst.drawn.1,rfl⟩)))
 |halt x v'=>
  cases x with
  |panic x=>
   rcases hr (ht _ _ _ rfl) with QZ|⟨ρ',x',w',u,rfl,hx,hst⟩
   ·exact .inr (.inr (.inr (.inl ⟨QZ,hdr,_,_,rfl,TP hf (by intro e he;simp at he;subst he;rfl)⟩)))
   (have hsub:Stp K.F N ρ ρ' v w v' w' (seen T.P f'.fn u++ #[]):=hst.sub λe he=>by simp at he;exact Du he);exact .inl ⟨_,_,_,_,ρ',w',_,rfl,rfl,(hf.mono hst.le).raise (.cons ⟨hx,rfl,⟨rfl,rfl⟩,rfl⟩ .nil),mono hst.le,hsub⟩
  |unsupported u=>cases u<;>first|exact hc.elim|trivial
  |_=>first|exact hc.elim|trivial
theorem DF.known(hK:Fits K T N)(hf:DF K T ρ f f'): ∃fn,T.P.funcs[f.fn]? =AA fn/\T.v.funcs[f.fn]? =AA fn:=by
 obtain⟨fn,h,_⟩:=hK.bodies.a f.fn hf.ok.1;exact⟨fn,h,(AFQ hK hf.ok.1 hf.ok.2).trans h⟩
theorem XE{P:BL}{fn:Func}(h:P.funcs[f.fn]? =AA fn):f.catches P=false:=by
 unfold Frame.catches;rw[h]
theorem ADi(P:BL)(hk:f.kind=.normal\/f.kind=.deferred)(ts:List AX)(x:AP)(v:AL): ∃g e,Gw P true f (ts++(dr::ds)) AB x v=.go g v e:=by
 cases ts with
 |nil=>rcases hk with e|e<;>exact⟨_,_,by simp only[Gw,e,Dy];rfl⟩
 |cons _ _=>rcases hk with e|e<;>exact⟨_,_,by simp only[Gw,e,Dj];rfl⟩
theorem iI(hK:Fits K T N)(hW:DD K.F N ρ v w)(hf:DF K T ρ f f')(hmd:f.mode≠ .run)(hts:Cc (IW K T ρ) ts ts')
  (ht: ∀g1 v1 es,unwind T.v true f (ts++(dr::ds)) AB v=.go g1 v1 es->Tp v w (v1.drawn - v.drawn)):
  Sv K T N ρ v w dr ds cs' (unwind T.v true f (ts++(dr::ds)) AB v) (unwind T.P mn f' (ts'++cs') AB w):=by
 have hds:=hf.defers;obtain⟨fn,hfn,hfv⟩:=hf.known hK;unfold unwind at ht⊢
 cases e:f.defers with
 |nil=>
  (have e':f'.defers=[]:=by rw[e] at hds;cases e':f'.defers with|nil=>rfl|cons _ _=>rw[e'] at hds;cases hds);simp only[e,e'] at ht⊢;have hm:=hf.mode
  cases m:f.mode with
  |run=>trivial|panicking c=>
   obtain⟨c',m',hc⟩: ∃c',f'.mode=.panicking c'/\Cc (iG K.F ρ) c c':=by
    rw[m] at hm
    cases m':f'.mode with
    |panicking c'=>rw[m'] at hm;cases hm with|panicking h=>exact⟨c',rfl,h⟩
    |run=>rw[m'] at hm;cases hm|returning=>rw[m'] at hm;cases hm
   simp only[m,m',XE hfv,XE (f:=f') (by rw[hf.fn];exact hfn),C9,if_false] at ht⊢
   cases hts with|nil=>exact .inr (.inr (.inl ⟨_,rfl,⟨λ_=>.inr (.inr ⟨_,rfl⟩),λch h hu=>ZH dr h hu (dY hc)⟩,λ_ _ _ _ _=>.inr (.inr ⟨_,rfl,dY hc⟩),Ba _⟩))|cons h1 h2=>exact OI (h1.fr.raise hc) h2 (Stp.refl hW) AV
  |returning=>
   have m':f'.mode=.returning:=by
    rw[m] at hm
    cases m':f'.mode with|panicking c'=>rw[m'] at hm;cases hm|run=>rw[m'] at hm;cases hm|returning=>rfl
   (have hfn':T.P.funcs[f'.fn]? =AA fn:=by rw[hf.fn];exact hfn);simp only[m,m',hfv,hfn'] at ht⊢;rw[Ik] at ht⊢
   refine aV (cont:=λr=>match r with
     | .ok x w=>Gw T.v true f (ts++(dr::ds)) AB x w| .halt (.stuck s) w=>.ended (.stuck s (f.pos T.v)) w
     | .halt _ w=>.ended (.stuck "return: the result variables cannot be read" (f.pos T.v)) w)
    (Qa:=λr=>match r with
     | .ok x w=>Gw T.P mn f' (ts'++cs') AB x w| .halt (.stuck s) w=>.ended (.stuck s (f'.pos T.P)) w
     | .halt _ w=>.ended (.stuck "return: the result variables cannot be read" (f'.pos T.P)) w)
    (yN fn hf.tmps) hW ?_ ?_ ?_ ht
   ·intro h v' _;cases h<;>exact⟨_,_,_,rfl⟩
   ·intro x v';exact .inl ⟨_,_,_,rfl⟩
   intro a v' ρ₁ b₁ _ _;refine⟨.inl (ADi T.v hf.kind.2 ts a v'),λρ' b w' u eu hq hst=>?_⟩;exact ABA (hf.mono hst.le) (CV (λ_ _ x=>x.mono hst.le) hts) hst (λe he=>Du he) hq
 |cons d dl=>
  obtain⟨d',dl',e',hd,ARi⟩: ∃d' dl',f'.defers=d'::dl'/\I7 K.F ρ d d'/\Cc (I7 K.F ρ) dl dl':=by
   rw[e] at hds
   cases e':f'.defers with|nil=>rw[e'] at hds;cases hds|cons d' dl'=>rw[e'] at hds;cases hds with|cons h1 h2=>exact⟨d',dl',rfl,h1,h2⟩
  (have hnd: ∀x∈d::dl,(K.fb.l=true/\∃b,x.target=.collected b)\/(K.fb.d=true/\∀g q,x.target=.fn (.func g) q->∀n,K.F.a g n):=by rw[<- e];exact hf.nd);have hlt:(¬ ∃b,d.target=.collected b)->∀g q,d.target=.fn (.func g) q->∀n,K.F.a g n:=λh=>(hnd d (D9 ..)).elim (λx=>Ai x.2 h) λx=>x.2;have hf2:DF K T ρ {f with defers:=dl} {f' with defers:=dl'}:=⟨hf.fn,hf.ok,hf.tmps,hf.todo,ARi,hf.mode,hf.kind,hf.round,λx hx=>hnd x (CO _ hx),hf.rg⟩
  cases hd with
  | @dead b x p p' h1 h2 h3=>
   (cases x<;>first|exact Ai (show false=true from h2) AV|skip);rename_i fx qx rx;have hdd:I7 K.F ρ (Y9 (lg b) p) (Y9 (.func fx qx rx) p'):=.dead h1 h2 h3;(cases fx<;>first|exact Ai (show false=true from h2) AV|skip);simp only[e,e',Y9,lg] at ht hdd⊢;exact MN hK hW hf2 hmd hts (hlt (λ⟨b,x⟩=>by cases x)) hdd ht
  |mk htg hargs=>
  have hd:I7 K.F ρ d d':=.mk htg hargs;obtain⟨t,as⟩:=d;obtain⟨t',as'⟩:=d';simp only at htg;by_cases aW: ∃b,t=.collected b
  ·obtain⟨b,rfl⟩:=aW;(obtain⟨b',rfl,hb⟩: ∃b',t'=.collected b'/\ρ.r b b':=by cases htg with|collected h=>exact⟨_,rfl,h⟩);simp only[e,e'] at ht⊢;rw[Ik] at ht⊢
   refine aV (cont:=λr=>match r with
     | .ok calls w=>.go {frame:={f with defers:=calls++dl},callers:=ts++(dr::ds),status:=.running,dying:=AB} w
     | .halt _ w=>.ended (.stuck "the deferred calls of a range-over-func loop have been taken" (f.pos T.v)) w)
    (Qa:=λr=>match r with
     | .ok calls w=>.go {frame:={f' with defers:=calls++dl'},callers:=ts'++cs',status:=.running,dying:=AB} w
     | .halt _ w=>.ended (.stuck "the deferred calls of a range-over-func loop have been taken" (f'.pos T.P)) w)
    (aS hb) hW ?_ ?_ ?_ ht
   ·intro h v' _;exact⟨_,_,_,rfl⟩
   ·intro x v';exact .inl ⟨_,_,_,rfl⟩
   intro a v' ρ₁ b₁ _ _;refine⟨.inl ⟨_,_,rfl⟩,λρ' b w' u eu hq hst=>?_⟩;obtain⟨rfl,rfl⟩:=hq;exact OI (hf2.mono hst.le) (CV (λ_ _ x=>x.mono hst.le) hts) hst (λe he=>by simp at he;exact Du he)
  have h1: ∀(P:BL) (g:AX) (cs:List AX) (w:AL) (dl:List EK),g.defers={target:=t,args:=as}::dl->True:=λ_ _ _ _ _ _=>Am
  cases htg with|collected h=>exact Ai ⟨_,rfl⟩ aW|fn h2 h3=>simp only[e,e'] at ht⊢;exact MN hK hW hf2 hmd hts (hlt aW) hd ht|nil=>simp only[e,e'] at ht⊢;exact MN hK hW hf2 hmd hts (hlt aW) hd ht|yield h2=>simp only[e,e'] at ht⊢;exact MN hK hW hf2 hmd hts (hlt aW) hd ht|seq h2 h3=>simp only[e,e'] at ht⊢;exact MN hK hW hf2 hmd hts (hlt aW) hd ht
theorem Ug(hK:Fits K T N)(hW:DD K.F N ρ v w)(hG: ∀g,g<K.G->ρ.r g g)(hf:DF K T ρ f f')(hts:Cc (IW K T ρ) ts ts')
  (ht: ∀g1 v1 es,stepG T.v true (G f (ts++(dr::ds))) v=.go g1 v1 es->Tp v w (v1.drawn - v.drawn)):
  Sv K T N ρ v w dr ds cs' (stepG T.v true (G f (ts++(dr::ds))) v) (stepG T.P mn (G f' (ts'++cs')) w):=by
 unfold stepG G at ht⊢;have hm:=hf.mode
 cases m:f.mode with
 |run=>
  have m':f'.mode=.run:=by
   rw[m] at hm
   cases m':f'.mode with|panicking c'=>rw[m'] at hm;cases hm|run=>rfl|returning=>rw[m'] at hm;cases hm
  simp only[m,m'] at ht⊢;exact AGe hK hW hG hf m hts ht
 |returning=>
  have m':f'.mode=.returning:=by
   rw[m] at hm
   cases m':f'.mode with|panicking c'=>rw[m'] at hm;cases hm|run=>rw[m'] at hm;cases hm|returning=>rfl
  simp only[m,m'] at ht⊢;exact iI hK hW hf (by rw[m];intro h;cases h) hts ht
 |panicking c=>
  obtain⟨c',m'⟩: ∃c',f'.mode=.panicking c':=by
   rw[m] at hm
   cases m':f'.mode with|panicking c'=>exact⟨c',rfl⟩|run=>rw[m'] at hm;cases hm|returning=>rw[m'] at hm;cases hm
  simp only[m,m'] at ht⊢;exact iI hK hW hf (by rw[m];intro h;cases h) hts ht
end
end
end Go.Proofs.YtkkgcebhfghdnaaGreatDoor
