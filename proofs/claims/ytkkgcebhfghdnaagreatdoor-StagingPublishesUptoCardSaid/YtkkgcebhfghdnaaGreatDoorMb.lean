/- Part 2 of what that rests on; no condition. -/
import Derived.Test.YtkkgcebhfghdnaaGreatDoorMa
import Derived.Conc.CompanyWords
import Derived.Conc.CrowdComm
import Derived.Conc.FxGenDone
import Derived.Conc.FxGenLone
import Derived.Conc.FxGenWait
import Derived.Conc.FxTrace
import Derived.Conc.MarkLaws
import Derived.Test.YtkkgcebhfghdnaaGreatDoorChecked
set_option maxRecDepth 100000
set_option maxHeartbeats 8000000
open Go.Conc renaming offersAt_of_not_blocked→Yn, getElem?_append_cases→Yl, mem_ofEvents→Kr, stepG_load_atomic→mG, deafBehind_still→Kt, stepG_region_end→Bf, ofEvent_cell0→NV, runT_crowd_go→Yk, woken_quitsD→QF, Deaf_other→MF, stepG_skip→Io, stepG_ret'→NW, woken_run→MG, semEvents→JC, stepG_seq→BZ, touchAt→Il
open Go.Item.inRegion renaming injEq→ABE
open Go.Goroutine.mk renaming injEq→Gm
open Option renaming getD_some→Dx, none→AB, some→AA
open List renaming cons_append→Dn, nil_append→EE
open Go.Instr renaming enterLoop→WE, endRound→UM
open Nat renaming strongRecOn→eX
open Go.GStep.go renaming injEq→Ri
open Go.MemAct renaming ofEvent→CY, touch?→DL
open Go.MemOp renaming ofEvents→Dc
open Go.World renaming setCell→YA, setChan→Ym
open Go renaming callDeferred→QD, PanicEntry→NU, deafBehind→Ei, Goroutine→Ad, Deferred→EL, Question→F7, doReturn→Gz, Program→BM, FuncId→Bl, execOp→BI, Value→AQ, undef→AU, World→AL, Event→Be, Frame→AX, stepG→Af, Trace→CJ, runNT→D7
open Go.GStep renaming after→DZ
open Go.Frame renaming enter→Bc
open Go.stepG renaming apply→Hw, exec→JB
open Go.Sem renaming runT_eq→Ik, bind→JZ, run→Dw
open Go.ConcX.WgAt renaming cellSt→QG
open Go.Conc.Goes renaming stop→Gn
open Go.ConcN renaming sumTo→D5
namespace Go.Proofs.YtkkgcebhfghdnaaGreatDoor
open Go Go.Conc
section
variable {es es0 eu:Array Be}{f f':AX}{ts ts':List AX}
section
variable {K:Kit} {T:Twin} {N:Nat} {ρ ρ':Rn} {v w v' w':AL} {dr:AX} {ds cs':List AX} {mn:Bool}
theorem OV(hf:DI K T ρ' f f')(hts:Ce (IX K T ρ') ts ts')(hst:Stp K.F N ρ ρ' v w v' w' es)(he: ∀e∈es0,e∈es):
  TS K T N ρ v w dr ds cs' (.go (G f (ts++(dr::ds))) v' eu) (.go (G f' (ts'++cs')) w' es0):=
 .inl ⟨_,_,_,_,ρ',w',_,rfl,rfl,hf,hts,hst.sub he⟩
theorem vX{F:Fs}{c c':List NU}(h:Ce (jM F ρ) c c'):c.dropWhile (!·.goexit)=[]/\c'.dropWhile (!·.goexit)=[]:=by
 induction h with|nil=>exact⟨rfl,rfl⟩|cons hp _ ih=>simp[hp.g.1,hp.g.2,ih.1,ih.2]
theorem ABl(hf:DI K T ρ' f f')(hts:Ce (IX K T ρ') ts ts')(hst:Stp K.F N ρ ρ' v w v' w' es)(he: ∀e∈es0,e∈es){x x':AQ}(hx:BC K.F ρ' x x'):
  TS K T N ρ v w dr ds cs' (DZ eu (Gz T.v true f (ts++(dr::ds)) AB x v')) (DZ es0 (Gz T.P mn f' (ts'++cs') AB x' w')):=by
 have he': ∀e∈es0++ #[],e∈es:=λe h=>he e (by simpa using h);obtain⟨hk1,hk2⟩:=hf.kind
 cases hts with
 |nil=>
  unfold Gz;simp only[EE];rcases hk2 with e|e<;>rw[e]
  ·refine .inr (.inr (.inl ⟨_,rfl,⟨λ_=>.inr (.inl ⟨_,rfl⟩),λch h hu=>⟨ch,by rw[zU];exact h,hu⟩⟩,λc0' ABj ec hm hm'=>.inl ⟨x,x',ρ',w',es0++ #[],rfl,?_,hx,hst.sub he'⟩,hst.drawn.1⟩));subst ec;simp only[hk1,e];rfl
  refine .inr (.inr (.inl ⟨_,rfl,⟨λhm=>.inl (by rw[hm]),λch h hu=>⟨ch,?_,hu⟩⟩,λc0' ABj ec hm hm'=>.inr (.inl ⟨ρ',w',es0++ #[],by rw[hm],?_,hst.sub he'⟩),hst.drawn.1⟩))
  ·rw[h]
   cases ch with
   |nil=>exact h|cons a ch=>
    obtain⟨av,ar,ag⟩:=a;have:ar=false:=hu ⟨av,ar,ag⟩ AV;subst this;exact h
  subst ec;simp only[hk1,e,hm'];rfl
 | @cons t t' ts ts' ht hts=>
  unfold Gz;simp only[Dn,hk1];rcases hk2 with e|e<;>rw[e]
  ·exact OV (ht.fr.finish hx (.inl ht.nc)) hts hst he'
  simp only;have hm:=ht.fr.mode
  have fin: ∀(a b:AX),DI K T ρ' a b->TS K T N ρ v w dr ds cs' (DZ eu (.go {frame:=a,callers:=ts++(dr::ds),status:=.running,dying:=AB} v'))
    (DZ es0 (.go {frame:=b,callers:=ts'++cs',status:=.running,dying:=AB} w')):=λa b h=>OV h hts hst he'
  refine fin _ _ ?_;generalize t.mode=m at hm⊢;generalize t'.mode=m' at hm⊢
  cases hm with
  |run=>exact ht.fr|returning=>exact ht.fr|panicking hc=>
   cases hc with
   |nil=>exact ht.fr| @cons a b c c' hp hc=>
    obtain⟨av,ar,ag⟩:=a;obtain⟨bv,br,bg⟩:=b;obtain⟨_,h2,_⟩:=hp;simp only at h2;subst h2;(cases br);exact ht.fr;simp only[(vX hc).1,(vX hc).2];exact ht.fr.XR .returning
theorem DI.AHQ(h:DI K T ρ f f')(e:f.todo=[]):f'.todo=[]:=by
 have ht:=h.todo;rw[e] at ht;generalize f'.todo=b at ht;cases ht;rfl
theorem DI.AEO(h:DI K T ρ f f'){i:Item}{l:List Item}(e:f.todo=i::l): ∃i' l',f'.todo=i'::l'/\LG K f.roundOf.isNone (K.fb.lr f.fn) ρ i i'/\Ce (LG K f.roundOf.isNone (K.fb.lr f.fn) ρ) l l':=by
 have ht:=h.todo;rw[e] at ht;generalize f'.todo=b at ht
 cases ht with|cons h1 h2=>exact⟨_,_,rfl,h1,h2⟩
theorem bV{α β:Type}{Q:Rn->α->β->Prop}{s:Sem α}{s':Sem β}(hs:AY T K.F N Q s ρ s')(hW:DF K.F N ρ v w){cont:Result α->GStep}{Qk:Result β->GStep}{fn':Bl}
  (AEP: ∀h v',Halt.still h->∃o u e,cont (.halt h v')=.ended o u e)
  (ASh: ∀x v',(∃o u e,cont (.halt (.panic x) v')=.ended o u e)\/((∃f1 Dl e,cont (.halt (.panic x) v')=.go (G f1 (Dl++(dr::ds))) v' e/\∃ch,f1.mode=.panicking ch/\Nj ch)/\
   ∀ρ' x' w' u eu,BC K.F ρ' x x'->Stp K.F N ρ ρ' v w v' w' u->TS K T N ρ v w dr ds cs' (DZ eu (cont (.halt (.panic x) v'))) (DZ (seen T.P fn' u) (Qk (.halt (.panic x') w')))))
  (hgo: ∀a v' ρ₁ b₁,Q ρ₁ a b₁->(Tp v w (v'.drawn - v.drawn)\/True)->((∃g e,cont (.ok a v')=.go g v' e)\/∃o u e,cont (.ok a v')=.ended o u e)/\
   ∀ρ' b w' u eu,Q ρ' a b->Stp K.F N ρ ρ' v w v' w' u->TS K T N ρ v w dr ds cs' (DZ eu (cont (.ok a v'))) (DZ (seen T.P fn' u) (Qk (.ok b w'))))
  (ht: ∀g1 v1 e,DZ es (cont (s.run T.v v))=.go g1 v1 e->Tp v w (v1.drawn - v.drawn)):
  TS K T N ρ v w dr ds cs' (DZ es (cont (s.run T.v v))) (DZ (seen T.P fn' (s'.runT T.P w #[]).2) (Qk (s'.runT T.P w #[]).1)):=by
 have hc:=hs.sort hW;have hr:Tp v w ((Lc (s.run T.v v)).drawn - v.drawn)->Res T.p K.F N Q ρ v w (s.run T.v v) (s'.runT T.P w #[]):=λh=>hs.sound hW h;have hd:=hs.drawn hW;generalize s.run T.v v=r at hr hc ht hd⊢;generalize s'.runT T.P w #[]=r' at hr⊢
 cases r with
 |ok a v'=>
  obtain⟨ρ₁,b₁,hq⟩:=hc;obtain⟨h1,h2⟩:=hgo a v' ρ₁ b₁ hq (.inr trivial);rcases h1 with ⟨g,e,h1⟩|⟨o,u,e,h1⟩
  ·have hT:Tp v w (v'.drawn - v.drawn):=ht g v' (es++e) (by rw[h1];rfl);obtain⟨ρ',b,w',u,rfl,hq',hst⟩:=hr hT;exact h2 ρ' b w' u es hq' hst
  rw[h1];trivial
 |halt x v'=>
  have still:Halt.still x->TS K T N ρ v w dr ds cs' (DZ es (cont (.halt x v'))) (DZ (seen T.P fn' r'.2) (Qk r'.1)):=λh=>by
   obtain⟨o,u,e,h1⟩:=AEP x v' h;rw[h1];trivial
  cases x with
  |panic x=>
   rcases ASh x v' with ⟨o,u,e,h1⟩|⟨⟨f1,Dl,e,h1,h3⟩,h2⟩;rw[h1];trivial;have hT:Tp v w (v'.drawn - v.drawn):=ht _ v' (es++e) (by rw[h1];rfl);rcases hr hT with Qj|⟨ρ',x',w',u,rfl,hx,hst⟩
   ·rw[h1];exact .inr (.inr (.inr (.inl ⟨Qj,hd,f1,Dl,rfl,h3⟩)))
   exact h2 ρ' x' w' u es hx hst
  |_=>exact still hc
end
end
section
variable {ops:Array Oper}{f f':AX}{F:Fs}{ts ts':List AX}{j:Nat}{o:Oper}{v:AL}
section
variable {K:Kit} {T:Twin} {N:Nat} {ρ ρ':Rn} {v w v' w':AL} {dr:AX} {ds cs':List AX} {mn:Bool}
theorem Va(hW:DF K.F N ρ v w)(hf:DI K T ρ f f')(hts:Ce (IX K T ρ) ts ts'){j:Option Code}(hj: ∀c,j=AA c->Ja K.P Fb.small K.G false false c=true){lost lost':GStep}(hl: ∃o u e,lost=.ended o u e)
  {cnd:Prop} [Decidable cnd]
  {R R':GStep} (hR:R=match f.roundOf with
   |none=>if cnd then GStep.go {frame:={f with mode:=.returning},callers:=ts++(dr::ds),status:=.running,dying:=AB} v else lost
   |some l=>DZ (seen T.v f.fn ((UM l j).runT T.v v #[]).2) (match ((UM l j).runT T.v v #[]).1 with
    | .ok x w=>Gz T.v true f (ts++(dr::ds)) AB x w
    | .halt _ w=>.ended (.stuck "range over a function: no such loop" (f.pos T.v)) w))
  (hR':R'=match f'.roundOf with
   |none=>if cnd then GStep.go {frame:={f' with mode:=.returning},callers:=ts'++cs',status:=.running,dying:=AB} w else lost'
   |some l=>DZ (seen T.P f'.fn ((UM l j).runT T.P w #[]).2) (match ((UM l j).runT T.P w #[]).1 with
    | .ok x w=>Gz T.P mn f' (ts'++cs') AB x w
    | .halt _ w=>.ended (.stuck "range over a function: no such loop" (f'.pos T.P)) w))
  (ht: ∀g1 v1 es,R=.go g1 v1 es->Tp v w (v1.drawn - v.drawn)):TS K T N ρ v w dr ds cs' R R':=by
 have hro:=hf.round
 cases h1:f.roundOf with
 |none=>
  have h2:f'.roundOf=AB:=by
   rw[h1] at hro
   cases h2:f'.roundOf with|none=>rfl|some _=>rw[h2] at hro;exact hro.elim
  have h3:=hf.XR (m:=.returning) (m':=.returning) .returning;simp only[h1,h2] at h3;simp only[h1] at hR;simp only[h2] at hR';subst hR hR';split;exact OV h3 hts (Stp.refl hW) AV;obtain⟨o,u,e,rfl⟩:=hl;trivial
 |some l=>
  obtain⟨l',h2,hl2⟩: ∃l',f'.roundOf=AA l'/\ρ.r l l':=by
   rw[h1] at hro
   cases h2:f'.roundOf with|none=>rw[h2] at hro;exact hro.elim|some l'=>rw[h2] at hro;exact⟨l',rfl,hro⟩
  rw[h1] at hR;rw[h2] at hR';simp only at hR hR';rw[Ik] at hR;subst hR hR'
  refine bV (Q:=QV K.F) (cont:=λr=>match r with
    | .ok x w=>Gz T.v true f (ts++(dr::ds)) AB x w
    | .halt _ w=>.ended (.stuck "range over a function: no such loop" (f.pos T.v)) w)
   (Qk:=λr=>match r with
    | .ok x w=>Gz T.P mn f' (ts'++cs') AB x w
    | .halt _ w=>.ended (.stuck "range over a function: no such loop" (f'.pos T.P)) w) (uO hl2 (j:=j) (λhx c hcj=>⟨hj c hcj,hx.choose_spec.2⟩)) hW (λh v' _=>⟨_,_,_,rfl⟩) (λx v'=>.inl ⟨_,_,_,rfl⟩) (λa v' ρ₁ b₁ _ _=>⟨?_,?_⟩) ht
  ·cases hts with
   |nil=>
    rcases hf.kind.2 with e|e;exact .inl ⟨_,_,by simp only[Gz,e,EE];rfl⟩;exact .inl ⟨_,_,by simp only[Gz,e,EE];rfl⟩
   |cons _ _=>
    rcases hf.kind.2 with e|e;exact .inl ⟨_,_,by simp only[Gz,e,Dn];rfl⟩;exact .inl ⟨_,_,by simp only[Gz,e,Dn];rfl⟩
  intro ρ' b w' u eu hq hst;exact ABl (hf.mono hst.le) (CV (λ_ _ x=>x.mono hst.le) hts) hst (λe he=>Dy he) hq
theorem Tp.shift{w v1 w1:AL}{n:Nat}(h:Tp v w n)(hv:v1.tape=v.tape)(hw:w1.tape=w.tape)(hd:v.drawn<=v1.drawn/\v1.drawn+w.drawn=v.drawn+w1.drawn):Tp v1 w1 (n - (v1.drawn - v.drawn)):=by
 intro i hi q;rw[hv,hw];have:=h (v1.drawn - v.drawn+i) Aa q;(have e1:v.drawn+(v1.drawn - v.drawn+i)=v1.drawn+i:=by omega);(have e2:w.drawn+(v1.drawn - v.drawn+i)=w1.drawn+i:=by omega);rw[e1,e2] at this;exact this
theorem AHR{α β:Type}{Q:Rn->α->β->Prop}{s:Sem α}{s':Sem β}(hs:AY T K.F N Q s ρ s')(hW:DF K.F N ρ v w){cont:Result α->GStep}{Qk:Result β->GStep}{es:Array Be}{fn':Bl}
  (AEP: ∀h v',∃o u e,cont (.halt h v')=.ended o u e)
  (hgo: ∀a v' ρ' b w',Q ρ' a b->DF K.F N ρ' v' w'->ρ.le ρ'->(∀g1 v1 e,cont (.ok a v')=.go g1 v1 e->Tp v' w' (v1.drawn - v'.drawn))->TS K T N ρ' v' w' dr ds cs' (cont (.ok a v')) (Qk (.ok b w')))
  (ht: ∀g1 v1 e,DZ es (cont (s.run T.v v))=.go g1 v1 e->Tp v w (v1.drawn - v.drawn)):
  TS K T N ρ v w dr ds cs' (DZ es (cont (s.run T.v v))) (DZ (seen T.P fn' (s'.runT T.P w #[]).2) (Qk (s'.runT T.P w #[]).1)):=by
 have h0:=hs.sound hW.tied (λi _ q=>by simp[tied]);have hr:Tp v w ((Lc (s.run T.v v)).drawn - v.drawn)->Res T.p K.F N Q ρ v w (s.run T.v v) (s'.runT T.P w #[]):=λh=>hs.sound hW h;generalize s.run T.v v=r at hr h0 ht⊢;generalize s'.runT T.P (tied v w) #[]=r0 at h0;generalize s'.runT T.P w #[]=r' at hr⊢
 cases r with
 |halt x v'=>obtain⟨o,u,e,h1⟩:=AEP x v';rw[h1];trivial
 |ok a v'=>
  obtain⟨ρ0,b0,w0,u0,rfl,hq0,Y5⟩:=h0
  have hfull: ∀n,Tp v' w0 n:=λn i _ q=>by
   rw[Y5.tv.1,Y5.tw.1];have:=Y5.drawn;simp only[tied] at this⊢;congr 1;omega
  have hs0:=hgo a v' ρ0 b0 w0 hq0 Y5.rel Y5.le (λ_ v1 _ _=>hfull _)
  cases hc:cont (.ok a v') with
  |go g1 v1 e=>
   rw[hc] at hs0
   have hmono:v'.drawn<=v1.drawn:=by
    rcases hs0 with ⟨_,_,_,_,_,_,_,_,_,_,_,h⟩|⟨_,_,_,_,_,_,_,_,_,_,_,_,_,_,_,_,_,_,h,_⟩|⟨_,_,_,_,h⟩|⟨_,h,_⟩|⟨_,_,_,_,_,_,h,_⟩;exact h.drawn.1;exact h.drawn.1;exact h;exact h;exact h
   have hT:Tp v w (v1.drawn - v.drawn):=ht g1 v1 (es++e) (by rw[hc];rfl);have hd:=Y5.drawn.1;obtain⟨ρ',b,w',u,rfl,hq,hst⟩:=hr (λi hi q=>hT i (by simp only[Lc] at hi;omega) q)
   have h2:=hgo a v' ρ' b w' hq hst.rel hst.le (λg2 v2 e2 h=>by
    rw[hc] at h;(cases h);have:=hT.shift hst.tv.1 hst.tw.1 hst.drawn;have e3:v1.drawn - v.drawn - (v'.drawn - v.drawn)=v1.drawn - v'.drawn:=by omega
    rwa[e3] at this)
   rw[hc] at h2;rcases h2 with ⟨f1,Dl,f1',G7,ρ1,w1,es',h3,h4,h5,h6,h7⟩|⟨X,p,p',k,f1,Dl,f1',G7,ρ1,w1,es',hX,hX',h3,h4,h5,h6,h7,h8,h9⟩|⟨c,h3,h4,h5,h6⟩|⟨Qj,h3,h4⟩|⟨p,k,f1,Dl,h0,h3,h4,h5⟩
   ·refine .inl ⟨f1,Dl,f1',G7,ρ1,w1,seen T.P fn' u++es',h3,by simp only[h4];rfl,h5,h6,?_⟩;exact (hst.trans h7 hW).sub λx hx=>(JM.1 hx).elim (λh=>JM.2 (.inl (Dy h))) λh=>JM.2 (.inr h)
   ·refine .inr (.inl ⟨X,p,p',k,f1,Dl,f1',G7,ρ1,w1,seen T.P fn' u++es',hX,hX',h3,by simp only[h4];rfl,h5,h6,h7,?_,h9⟩);exact (hst.trans h8 hW).sub λx hx=>(JM.1 hx).elim (λh=>JM.2 (.inl (Dy h))) λh=>JM.2 (.inr h)
   exact .inr (.inr (.inl ⟨c,h3,h4,h5.after hst hW λ_ he=>Dy he,Aa⟩));exact .inr (.inr (.inr (.inl ⟨Qj,Aa,h4⟩)));exact .inr (.inr (.inr (.inr ⟨p,k,f1,Dl,by rw[<- hst.tok.2];exact h0,h3,Aa,h5⟩)))
  |ended o u e=>trivial|_=>rw[hc] at hs0;exact hs0.elim
theorem zV{p p':Array AQ}(h:BB F ρ p p')(ops:Array Oper):yielded ops p=yielded ops p':=by
 funext j;unfold yielded
 cases (ops[j]?).bind (·.dst) with
 |none=>rfl|some d=>
  simp only[Option.bind_some]
  cases hv:p[d]? with
  |none=>rw[h.none hv]|some x=>
   obtain⟨x',hx',hr⟩:=h.get hv;rw[hx']
   cases hr with
   |flat _=>rfl|tok hc ht=>cases x'<;>first|rfl|exact Ak (show false=true from ht) AV
   |mf _ hm=>cases x'<;>first|rfl|exact Ak (show false=true from hm) AV
   |_=>rfl
theorem zW{fb:Fb}{t:Tmp}(h:Ju fb ops j=AA t)(ho:ops[j]? =AA o): ∃c g,o.op=.call c/\c.callee=.value (.func g)/\fb.ch=AA g:=by
 unfold Ju at h;rw[ho] at h;simp only at h;split at h
 ·rename_i c hc;unfold VY at hc;split at hc
  ·rename_i c' hop;split at hc
   ·rename_i f hf;split at hc
    ·rename_i hg;exact⟨c',f,hop,hf,by simpa using hg⟩
    cases hc
   cases hc
  cases hc
 cases h
theorem ABm(hB:Gt T F N){g:Bl}(hg:F g){c:Call}(h1:o.op=.call c)(h2:c.callee=.value (.func g)){ev:Operand->AQ}(hev: ∀g,ev (.func g)=.func (.func g) #[] #[]):
  (BI ev o).run T.v v=.ok (.enter g (#[]++c.args.map ev++ #[])) v:=by
 obtain⟨fn,e1,e2,e3⟩:=hB.v g hg;unfold BI;simp only[h1,resolve,h2,hev];show (callFunc g (#[]++c.args.map ev++ #[])).run T.v v=_;unfold callFunc
 show (match T.v.funcs[g]? with
  |none=>stuck "call: no such function"
  |some fn=>_:Sem Next).run T.v v=_
 simp only[e1,e2,e3,DC,if_false];rfl
theorem AI1(hf:DI K T ρ f f')(hm:f.mode=.run){rest:List Nat}{l:List Item}(e:f.todo=.inRegion ops (j::rest)::l)(ho:ops[j]? =AA o)(c:Call)(g:Bl)(h1:o.op=.call c)(h2:c.callee=.value (.func g)):K.F.dk g (c.args.map f.eval):=by
 intro hcp x hx;have ht:=hf.todo;rw[e] at ht
 have ASi:fO K.fb ops=true:=by
  generalize f'.todo=b at ht
  cases ht with|cons hi _=>cases hi with|inRegion hc=>simp only[Ja,DV] at hc;exact hc.2
 have hct:VY K.fb.cp o.op=AA c:=by
  unfold VY;simp only[h1,h2,hcp,beq_self_eq_true,if_true]
 have hlt:j<ops.size:=(Dj.1 ho).1;have h3:=JD.1 ASi j (XA.2 hlt);rw[Kw] at hx;obtain⟨a,ha,rfl⟩:=J8.1 hx
 cases a with
 |tmp t=>
  have hco:P8 K.fb ops j=AA (AA t):=by
   unfold P8;simp only[ho,hct,ha]
  rcases hf.rg.2 hm _ _ _ e j t hco with h4|h4;exact h4;obtain⟨i,hi,_⟩:=h4 [] rest rfl;cases hi
 |_=>
  have hco:P8 K.fb ops j=AA AB:=by
   unfold P8;simp only[ho,hct,ha]
  rw[hco] at h3;cases h3
theorem AHS(hK:Fits K T N)(hW:DF K.F N ρ v w)(hG: ∀g,g<K.G->ρ.r g g)(hf:DI K T ρ f f')(hmr:f.mode=.run)(hts:Ce (IX K T ρ) ts ts')
  (ht: ∀g1 v1 es,JB T.v true true f (ts++(dr::ds)) AB v=.go g1 v1 es->Tp v w (v1.drawn - v.drawn)):
  TS K T N ρ v w dr ds cs' (JB T.v true true f (ts++(dr::ds)) AB v) (JB T.P mn true f' (ts'++cs') AB w):=by
 have Y5:=Stp.refl hW
 have hgo: ∀{l l':List Item},Ce (LG K f.roundOf.isNone (K.fb.lr f.fn) ρ) l l'->JO l->TS K T N ρ v w dr ds cs' (.go {frame:={f with todo:=l},callers:=ts++(dr::ds),status:=.running,dying:=AB} v)
   (.go {frame:={f' with todo:=l'},callers:=ts'++cs',status:=.running,dying:=AB} w):=λh hn=>OV (hf.bT h (.plain hn)) hts Y5 AV
 have hev:=hf.ev hG;unfold JB at ht⊢
 cases e:f.todo with
 |nil=>
  have e':=hf.AHQ e;simp only[e,e'] at ht⊢;exact Va hW hf hts (j:=AB) AV (cnd:=True) (lost:=.ended (.stuck "exit, goto: no such block or label" (f.pos T.v)) v) (lost':=.ended (.stuck "exit, goto: no such block or label" (f'.pos T.P)) w) ⟨_,_,_,rfl⟩ (by simp only[e];rfl) (by simp only[e'];rfl) ht
 |cons i l=>
  obtain⟨i',l',e',hi,hl⟩:=hf.AEO e;(have hnl:JO l:=by have:=hf.rg.1;rw[e] at this;exact this);have zX: ∀{c:Code} {l:List Item},JO l->JO (.code c::l):=λh=>.cons (λ_ _ e=>by cases e) h
  cases hi with
  | @code c hc=>
   cases c<;>simp only[e,e'] at ht⊢
   case ret=>exact Va hW hf hts (j:=AA .ret) (λc h=>by cases h;rfl) (cnd:=True) (lost:=.ended (.stuck "exit, goto: no such block or label" (f.pos T.v)) v) (lost':=.ended (.stuck "exit, goto: no such block or label" (f'.pos T.P)) w) ⟨_,_,_,rfl⟩ (by simp only[e];rfl) (by simp only[e'];rfl) ht
   case skip=>exact hgo hl hnl
   case label n=>exact hgo hl hnl
   case seq a b=>
    simp only[Ja,DV] at hc;exact hgo (.cons (.code hc.1) (.cons (.code hc.2) hl)) (zX (zX hnl))
   case cond c a b=>
    simp only[Ja,DV] at hc;have hv:=hev c hc.1.1;generalize f.eval c=x at hv⊢;generalize f'.eval c=x' at hv⊢
    cases hv with
    |flat hfl=>
     (cases x<;>first|trivial|skip);rename_i t;(cases t);exact hgo (.cons (.code hc.2) hl) (zX hnl);exact hgo (.cons (.code hc.1.2) hl) (zX hnl)
    |_=>trivial
   case block n c=>exact hgo (.cons (.code hc) (.cons .inBlock hl)) (zX (.cons (λ_ _ e=>by cases e) hnl))
   case loop c=>exact hgo (.cons (.code hc) (.cons (.inLoop hc) hl)) (zX (.cons (λ_ _ e=>by cases e) hnl))
   case scope c=>exact hgo (.cons (.code hc) (.cons (.inScope hc) hl)) (zX (.cons (λ_ _ e=>by cases e) hnl))
   case exit n=>
    have hx:=zS (id:=n) hl;have uS: ∀q,exitTo n l=AA q->JO q:=λq e=>uP hnl e;generalize exitTo n l=x at hx uS ht⊢;generalize exitTo n l'=x' at hx⊢;cases x<;>cases x'<;>first|exact hx.elim|skip
    ·exact Va hW hf hts (j:=AA (.exit n)) (λc h=>by cases h;rfl) (cnd:=False) (lost:=.ended (.stuck "exit, goto: no such block or label" (f.pos T.v)) v) (lost':=.ended (.stuck "exit, goto: no such block or label" (f'.pos T.P)) w) ⟨_,_,_,rfl⟩ (by simp;rfl) (by simp;rfl) ht
    exact hgo hx (uS _ rfl)
   case goto n=>
    have hx:=zT (id:=n) hl;have uS: ∀q,gotoIn n l=AA q->JO q:=λq e=>uQ hnl e;generalize gotoIn n l=x at hx uS ht⊢;generalize gotoIn n l'=x' at hx⊢;cases x<;>cases x'<;>first|exact hx.elim|skip
    ·exact Va hW hf hts (j:=AA (.goto n)) (λc h=>by cases h;rfl) (cnd:=False) (lost:=.ended (.stuck "exit, goto: no such block or label" (f.pos T.v)) v) (lost':=.ended (.stuck "exit, goto: no such block or label" (f'.pos T.P)) w) ⟨_,_,_,rfl⟩ (by simp;rfl) (by simp;rfl) ht
    exact hgo hx (uS _ rfl)
   case rangeFunc g ps a b=>
    simp only[Ja,DV] at hc;rw[Ik] at ht⊢
    have hE:AY T K.F N (λρ (x y:Nat×List EL)=>ρ.r x.1 y.1/\Ce (I8 K.F ρ) x.2 y.2/\∀d∈x.2,∃b,d.target=.collected b) (WE f.fn f.tmps ps a b f.roundOf) ρ (WE f'.fn f'.tmps ps a b f'.roundOf):=by
     rw[hf.fn];exact oI (F:=K.F) f.fn (show K.F.r f.fn from ⟨hc.1.1.1.1.1.2,hc.1.1.1.1.1.1⟩) hf.tmps ps (by simpa using hc.1.1.2) ⟨hc.1.2,hc.1.1.1.1.1.1⟩ ⟨hc.2,hc.1.1.1.1.1.1⟩ hf.round
    refine AHR (cont:=λr=>match r with
      | .ok (l0,mark) w=>Hw T.v true {f with todo:=.inRangeFunc l0::l,defers:=mark++f.defers} (ts++(dr::ds)) AB
        (do let d <- resolve (Frame.eval {f with todo:=.inRangeFunc l0::l,defers:=mark++f.defers}) {callee:=.value g,args:=#[.const (.func (.yield l0) #[] #[])],argTypes:=#[]} 0;invoke d.target d.args) w
      | .halt _ w=>.ended (.stuck "range over a function: no such loop" (f.pos T.v)) w)
     (Qk:=λr=>match r with
      | .ok (l0,mark) w=>Hw T.P true {f' with todo:=.inRangeFunc l0::l',defers:=mark++f'.defers} (ts'++cs') AB
        (do let d <- resolve (Frame.eval {f' with todo:=.inRangeFunc l0::l',defers:=mark++f'.defers}) {callee:=.value g,args:=#[.const (.func (.yield l0) #[] #[])],argTypes:=#[]} 0;invoke d.target d.args) w
      | .halt _ w=>.ended (.stuck "range over a function: no such loop" (f'.pos T.P)) w)
     (hs:=hE) hW (λh v'=>⟨_,_,_,rfl⟩) ?_ ht
    rintro⟨l0,mark⟩ v' ρ' ⟨l0',mark'⟩ w' ⟨hq1,hq2,hq3⟩ hW' hle ht'
    have app: ∀{a a' b b':List EL},Ce (I8 K.F ρ') a a'->Ce (I8 K.F ρ') b b'->Ce (I8 K.F ρ') (a++b) (a'++b'):=by
     intro a a' b b' ha hb
     induction ha with|nil=>exact hb|cons x _ ih=>exact .cons x ih
    have hf1:=hf.mono hle
    have hf2:DI K T ρ' {f with todo:=.inRangeFunc l0::l,defers:=mark++f.defers} {f' with todo:=.inRangeFunc l0'::l',defers:=mark'++f'.defers}:=
     ⟨hf1.fn,hf1.ok,hf1.tmps,.cons (.inRangeFunc hq1) (CV (λ_ _ x=>x.mono hle) hl),app hq2 hf1.defers,hf1.mode,hf1.kind,hf1.round,λd hd=>(Bj.1 hd).elim (λh=>.inl ⟨hc.1.1.1.1.1.1,hq3 d h⟩) (hf1.nd d),.plain (.cons (λ_ _ e=>by cases e) hnl)⟩
    refine VZ hK hW' hf2 (CV (λ_ _ x=>x.mono hle) hts) ?_ (.inl λ_ ops a rest k e=>by cases e) ht'
    have hg: ∀x:AX,∀l0,(do let d <- resolve x.eval {callee:=.value g,args:=#[.const (.func (.yield l0) #[] #[])],argTypes:=#[]} 0;invoke d.target d.args:Sem Next)=
      (do let d <- Deferred.ofValue (x.eval g) #[.func (.yield l0) #[] #[]];invoke d.target d.args):=λx l0=>by
     unfold resolve;simp only[J9,BN,EG,Frame.eval]
    rw[hg,hg];exact Uw hK.bodies hc.1.1.1.1.2 (hf2.ev (λg hg=>hle.r _ _ (hG g hg)) g hc.1.1.1.2.1) (BB.one (.yield hq1)) (λ_=>by simpa using hc.1.1.1.2.2)
   case refuse s=>trivial
   case region n ops d=>
    have hc':Ja K.P K.fb K.G f.roundOf.isNone (K.fb.lr f.fn) (.region 0 ops false)=true:=hc
    cases d with
    |false=>exact OV (hf.bT (.cons (.inRegion hc') hl) ⟨hnl,λ_ ops' rest' k' e2=>by
     simp only[Ir,ABE] at e2;obtain⟨⟨rfl,rfl⟩,rfl⟩:=e2
     exact vW (by have h:=hc';simp only[Ja,DV] at h;exact h.2) λpre i post e3 _ _ e4 _ _ h5=>range_split e3 _ h5⟩) hts Y5 AV
    |true=>
     simp only[nH,DC,if_false] at ht⊢;(have hch:AY T K.F N Ef (choose (.order f.fn n)) ρ (choose (.order f'.fn n)):=by rw[hf.fn];exact Jb _);have e4:T.v.follows .mixedOrders=T.P.follows .mixedOrders:=rfl;rw[e4] at ht⊢;have hr:Tp v w ((Lc ((choose (.order f.fn n)).run T.v v)).drawn - v.drawn)->_:=λh=>hch.sound hW h;have hv: ∃x v',(choose (.order f.fn n)).run T.v v=.ok x v':=⟨_,_,by simp[choose,Dw,Question.forced];exact⟨rfl,rfl⟩⟩;obtain⟨x,v',hv⟩:=hv;rw[hv] at hr ht⊢;simp only at ht⊢;obtain⟨ρ',b,w',u,h1,h2,hst⟩:=hr (ht _ _ _ rfl);obtain rfl:x=b:=h2;(have h3:(choose (.order f'.fn n)).run T.P w=.ok x w':=by rw[<- Sem.runT_fst _ _ _ #[],h1]);rw[h3]
     exact OV ((hf.mono hst.le).bT (.cons (.inRegion hc') (CV (λ_ _ x=>x.mono hst.le) hl)) ⟨hnl,λ_ ops' rest' k' e2=>by
      simp only[Ir,ABE] at e2;obtain⟨⟨rfl,rfl⟩,rfl⟩:=e2
      exact zO (by have h:=hc';simp only[Ja,DV] at h;exact h.2) _ _⟩) (CV (λ_ _ x=>x.mono hst.le) hts) hst AV
  |inBlock=>simp only[e,e'] at ht⊢;exact hgo hl hnl|inLoop hc=>simp only[e,e'] at ht⊢;exact hgo (.cons (.code hc) (.cons (.inLoop hc) hl)) (zX (.cons (λ_ _ e=>by cases e) hnl))|inScope hc=>simp only[e,e'] at ht⊢;exact hgo hl hnl| @inRegion ops todo hc=>
   cases todo with
   |nil=>simp only[e,e'] at ht⊢;exact hgo hl hnl|cons j rest=>
    simp only[e,e'] at ht⊢;rw[<- zV hf.tmps];split
    ·rename_i hwd;simp only[hwd,if_true] at ht;unfold stepG.oper at ht⊢;(have o1:f.oper? =ops[j]? :=by unfold Frame.oper?;rw[e]);(have o2:f'.oper? =ops[j]? :=by unfold Frame.oper?;rw[e']);rw[o1] at ht⊢;rw[o2]
     cases ho:ops[j]? with
     |none=>trivial|some o=>
      rw[ho] at ht;simp only at ht⊢;have hok:=VM.1 (show (ops.all λo=>WO K.P K.fb K.G o.op && (f.roundOf.isNone || !(match o.op with| .defer _=>true|_=>false)))=true from (AIr.1 hc).1) o (mY ho);rw[DV] at hok
      have hnc:NC K f\/∃g p v',K.fb.ch=AA g/\(BI f.eval o).run T.v v=.ok (.enter g p) v':=by
       cases hch:Ju K.fb ops j with
       |none=>
        refine .inl λ_ ops' a rest' k' e2=>?_;rw[e] at e2;simp only[Ir,ABE] at e2;obtain⟨⟨rfl,rfl,rfl⟩,rfl⟩:=e2;exact hch
       |some t=>
        right;obtain⟨c,g,h1,h2,h3⟩:=zW hch ho;exact⟨g,_,v,h3,ABm hK.bodies (hK.ch g h3).1 h1 h2 (λg=>rfl)⟩
      have hrel:AY T K.F N (oD K.F) (BI f.eval o) ρ (BI f'.eval o):=ABi hK.bodies hK.N (λf h=>h) (λf n h=>h) (λf h=>h) (λh=>h) (Bd _) (λf h=>h) (λh=>h) hev (λ_=>rfl) (λ_=>rfl) (λ_=>rfl) (AI1 hf hmr e ho) (by rw[<- hK.ops];exact hok.1);have hro:=hf.round
      cases r1:f.roundOf with
      |none=>
       have r2:f'.roundOf=AB:=by
        rw[r1] at hro
        cases r2:f'.roundOf with|none=>rfl|some _=>rw[r2] at hro;exact hro.elim
       simp only[r1,r2] at ht⊢;exact VZ hK hW hf hts hrel hnc ht
      |some l1=>
       obtain⟨l2,r2⟩: ∃l2,f'.roundOf=AA l2:=by
        rw[r1] at hro
        cases r2:f'.roundOf with|none=>rw[r2] at hro;exact hro.elim|some l2=>exact⟨l2,rfl⟩
       simp only[r1,r2] at ht⊢;have hnd:=hok.2;rw[r1] at hnd;generalize hop:o.op=op at hnd ht⊢;cases op<;>first|exact Ak (show false=true from hnd) AV|exact VZ hK hW hf hts hrel hnc ht
    rename_i hwd;simp only[hwd,DC,if_false] at ht⊢;exact OV (hf.finish .undef (.inr (.inl rfl))) hts Y5 AV
  |inRangeFunc hr=>simp only[e,e'] at ht⊢;trivial|endRangeFunc hr=>
   simp only[e,e'] at ht⊢;rw[Ik] at ht⊢
   refine bV (cont:=λr=>match r with
     | .ok jump w=>.go {frame:={f with todo:=(jump.map Item.code).toList++l},callers:=ts++(dr::ds),status:=.running,dying:=AB} w
     | .halt (.panic x) w=>.go {frame:=f.raise [{v:=x,recovered:=false}],callers:=ts++(dr::ds),status:=.running,dying:=AB} w
     | .halt _ w=>.ended (.stuck "range over a function: no such loop" (f.pos T.v)) w)
    (Qk:=λr=>match r with
     | .ok jump w=>.go {frame:={f' with todo:=(jump.map Item.code).toList++l'},callers:=ts'++cs',status:=.running,dying:=AB} w
     | .halt (.panic x) w=>.go {frame:=f'.raise [{v:=x,recovered:=false}],callers:=ts'++cs',status:=.running,dying:=AB} w
     | .halt _ w=>.ended (.stuck "range over a function: no such loop" (f'.pos T.P)) w) (zM hr) hW ?_ ?_ ?_ ht
   ·intro h v' hs;cases h<;>first|exact⟨_,_,_,rfl⟩|exact hs.elim
   ·intro x v';refine .inr ⟨⟨_,_,_,rfl,Tt hf (by intro e he;simp at he;subst he;rfl)⟩,λρ' x' w' u eu hx hst=>?_⟩;exact OV ((hf.mono hst.le).raise (.cons ⟨hx,rfl,⟨rfl,rfl⟩,rfl⟩ .nil)) (CV (λ_ _ x=>x.mono hst.le) hts) hst (λe he=>by simp at he;exact Dy he)
   intro a v' ρ₁ b₁ _ _;refine⟨.inl ⟨_,_,rfl⟩,λρ' b w' u eu hq hst=>?_⟩;obtain⟨rfl,hj⟩:=hq;have hl':=CV (λ_ _ (x:LG K f.roundOf.isNone (K.fb.lr f.fn) ρ _ _)=>x.mono hst.le) hl;refine OV ((hf.mono hst.le).bT ?_ (.plain ?_)) (CV (λ_ _ x=>x.mono hst.le) hts) hst (λe he=>by simp at he;exact Dy he)
   ·cases a with
    |none=>exact hl'|some c=>exact .cons (.code (Za (hj c rfl).1)) hl'
   cases a with|none=>exact hnl|some c=>exact zX hnl
  |beginRound=>
   simp only[e,e'] at ht⊢;refine VZ hK hW hf hts ?_ (.inl λ_ ops a rest k e2=>by rw[e] at e2;cases e2) ht;have hro:=hf.round
   cases r1:f.roundOf with
   |none=>exact AY.bind (Q:=λ_ _ _=>False) (λ_=>Ar) λ_ _ _ _ h=>h.elim|some l1=>
    rw[r1] at hro
    cases r2:f'.roundOf with
    |none=>rw[r2] at hro;exact hro.elim|some l2=>
     rw[r2] at hro;exact AEJ (kL hro)
end
end
section
variable {f f':AX}{ts ts':List AX}
section
variable {K:Kit} {T:Twin} {N:Nat} {ρ ρ':Rn} {v w v' w':AL} {dr:AX} {ds cs':List AX} {mn:Bool}
theorem AMV{c c':Prop}[Decidable c][Decidable c'](h:c↔c'){o:Outcome}{u:AL}{e:Array Be}{B A' B':GStep}(hB: ¬c->TS K T N ρ v w dr ds cs' B B'):
  TS K T N ρ v w dr ds cs' (if c then .ended o u e else B) (if c' then A' else B'):=by
 by_cases hc:c;rw[BU hc];trivial;rw[BL hc,BL (λx=>hc (h.2 x))];exact hB hc
theorem MW(hK:Fits K T N)(hW:DF K.F N ρ v w)(hf:DI K T ρ f f')(hmd:f.mode≠ .run)(hts:Ce (IX K T ρ) ts ts'){d d':EL}(hlt: ∀g q,d.target=.fn (.func g) q->∀n,K.F.a g n)(hd:I8 K.F ρ d d')
  (ht: ∀g1 v1 es,QD T.v f (ts++(dr::ds)) AB d v=.go g1 v1 es->Tp v w (v1.drawn - v.drawn)):
  TS K T N ρ v w dr ds cs' (QD T.v f (ts++(dr::ds)) AB d v) (QD T.P f' (ts'++cs') AB d' w):=by
 have hs:=XQ (N:=N) hK.bodies hd;have hc:=hs.sort hW;have hr:Tp v w ((Lc ((invoke d.target d.args).run T.v v)).drawn - v.drawn)->Res T.p K.F N _ ρ v w ((invoke d.target d.args).run T.v v) ((invoke d'.target d'.args).runT T.P w #[]):=λh=>hs.sound hW h;unfold QD at ht⊢
 have hn:((match d.target with| .nil=>true|_=>false) && (match f.mode with| .panicking _=>true|_=>false))=((match d'.target with| .nil=>true|_=>false) && (match f'.mode with| .panicking _=>true|_=>false)):=by
  have h2:=hf.mode;generalize f.mode=b at h2⊢;generalize f'.mode=b' at h2⊢
  cases hd with
  |mk h1 _=>
   generalize d.target=a at h1⊢;generalize d'.target=a' at h1⊢;cases h1<;>cases h2<;>rfl
  | @dead _ x _ _ _ hm _=>cases x<;>first|exact Ak (show false=true from hm) AV|(cases h2<;>rfl)
 refine AMV ⟨λh=>hn.symm.trans h,λh=>hn.trans h⟩ λhb=>?_
 replace ht:=λg1 v1 es h=>ht g1 v1 es ((BL hb).trans h)
 rw[Ik] at ht⊢;generalize (invoke d.target d.args).events T.v v #[]=eu at ht⊢;have hdr:=hs.drawn hW;generalize (invoke d.target d.args).run T.v v=r at hr hc ht hdr⊢;generalize (invoke d'.target d'.args).runT T.P w #[]=r' at hr⊢;have mono: ∀{ρ'},ρ.le ρ'->Ce (IX K T ρ') ts ts':=λl=>CV (λ_ _ x=>x.mono l) hts
 cases r with
 |ok n v'=>
  have hT:Tp v w (v'.drawn - v.drawn):=by
   obtain⟨ρ',b,hq,_⟩:=hc
   cases hq with|value _=>exact ht _ _ _ rfl|skip=>exact ht _ _ _ rfl|enter _ _ _ _=>exact ht _ _ _ rfl|round _ _ _ _ _ _=>exact ht _ _ _ rfl|defer _ _ _=>exact ht _ _ _ rfl|seq _ _=>exact ht _ _ _ rfl
  obtain⟨ρ',b,w',u,rfl,⟨hq,hent⟩,hst⟩:=hr hT;clear hr hc ht hT;have hsub:Stp K.F N ρ ρ' v w v' w' (seen T.P f'.fn u++ #[]):=hst.sub λe he=>by simp at he;exact Dy he
  cases hq with
  |value hv=>exact .inl ⟨_,_,_,_,ρ',w',_,rfl,rfl,hf.mono hst.le,mono hst.le,hsub⟩|skip=>exact .inl ⟨_,_,_,_,ρ',w',_,rfl,rfl,hf.mono hst.le,mono hst.le,hsub⟩| @enter g p p' hg ha _ hp=>
   by_cases hX:K.X g=true
   ·obtain⟨q,hq⟩:=hent g p rfl;exact Ak (hlt g q hq) (hK.xa g hX)
   exact .inl ⟨_,f::ts,_,f'::ts',ρ',w',_,rfl,rfl,OU hK hg (by simpa using hX) hp (.inr rfl),.cons ⟨hf.mono hst.le,λh=>Ak h hmd⟩ (mono hst.le),hsub⟩
  | @round l l' g p p' ca cb hh hl hp hg ha hb=>
   exact .inl ⟨_,f::ts,_,f'::ts',ρ',w',_,rfl,rfl,bU hK hh hl hp hg ha hb (.inr rfl),.cons ⟨hf.mono hst.le,λh=>Ak h hmd⟩ (mono hst.le),hsub⟩
  |defer _ _ hd=>exact .inl ⟨_,_,_,_,ρ',w',_,rfl,rfl,hf.mono hst.le,mono hst.le,hsub⟩|seq hp hq=>exact .inr (.inr (.inr (.inr ⟨_,.deferred,_,_,by rw[<- hst.tok.2];exact hq,hp,hst.drawn.1,rfl⟩)))
 |halt x v'=>
  cases x with
  |panic x=>
   rcases hr (ht _ _ _ rfl) with Qj|⟨ρ',x',w',u,rfl,hx,hst⟩
   ·exact .inr (.inr (.inr (.inl ⟨Qj,hdr,_,_,rfl,Tt hf (by intro e he;simp at he;subst he;rfl)⟩)))
   (have hsub:Stp K.F N ρ ρ' v w v' w' (seen T.P f'.fn u++ #[]):=hst.sub λe he=>by simp at he;exact Dy he);exact .inl ⟨_,_,_,_,ρ',w',_,rfl,rfl,(hf.mono hst.le).raise (.cons ⟨hx,rfl,⟨rfl,rfl⟩,rfl⟩ .nil),mono hst.le,hsub⟩
  |unsupported u=>cases u<;>first|exact hc.elim|trivial
  |_=>first|exact hc.elim|trivial
theorem DI.known(hK:Fits K T N)(hf:DI K T ρ f f'): ∃fn,T.P.funcs[f.fn]? =AA fn/\T.v.funcs[f.fn]? =AA fn:=by
 obtain⟨fn,h,_⟩:=hK.bodies.a f.fn hf.ok.1;exact⟨fn,h,(AGB hK hf.ok.1 hf.ok.2).trans h⟩
theorem XT{P:BM}{fn:Func}(h:P.funcs[f.fn]? =AA fn):f.catches P=false:=by
 unfold Frame.catches;rw[h]
theorem AEQ(P:BM)(hk:f.kind=.normal\/f.kind=.deferred)(ts:List AX)(x:AQ)(v:AL): ∃g e,Gz P true f (ts++(dr::ds)) AB x v=.go g v e:=by
 cases ts with
 |nil=>rcases hk with e|e<;>exact⟨_,_,by simp only[Gz,e,EE];rfl⟩
 |cons _ _=>rcases hk with e|e<;>exact⟨_,_,by simp only[Gz,e,Dn];rfl⟩
theorem jP(hK:Fits K T N)(hW:DF K.F N ρ v w)(hf:DI K T ρ f f')(hmd:f.mode≠ .run)(hts:Ce (IX K T ρ) ts ts')
  (ht: ∀g1 v1 es,unwind T.v true f (ts++(dr::ds)) AB v=.go g1 v1 es->Tp v w (v1.drawn - v.drawn)):
  TS K T N ρ v w dr ds cs' (unwind T.v true f (ts++(dr::ds)) AB v) (unwind T.P mn f' (ts'++cs') AB w):=by
 have hds:=hf.defers;obtain⟨fn,hfn,hfv⟩:=hf.known hK;unfold unwind at ht⊢
 cases e:f.defers with
 |nil=>
  (have e':f'.defers=[]:=by rw[e] at hds;cases e':f'.defers with|nil=>rfl|cons _ _=>rw[e'] at hds;cases hds);simp only[e,e'] at ht⊢;have hm:=hf.mode
  cases m:f.mode with
  |run=>trivial|panicking c=>
   obtain⟨c',m',hc⟩: ∃c',f'.mode=.panicking c'/\Ce (jM K.F ρ) c c':=by
    rw[m] at hm
    cases m':f'.mode with
    |panicking c'=>rw[m'] at hm;cases hm with|panicking h=>exact⟨c',rfl,h⟩
    |run=>rw[m'] at hm;cases hm|returning=>rw[m'] at hm;cases hm
   simp only[m,m',XT hfv,XT (f:=f') (by rw[hf.fn];exact hfn),DC,if_false] at ht⊢
   cases hts with|nil=>exact .inr (.inr (.inl ⟨_,rfl,⟨λ_=>.inr (.inr ⟨_,rfl⟩),λch h hu=>ZZ dr h hu (fP hc)⟩,λ_ _ _ _ _=>.inr (.inr ⟨_,rfl,fP hc⟩),Bd _⟩))|cons h1 h2=>exact OV (h1.fr.raise hc) h2 (Stp.refl hW) AV
  |returning=>
   have m':f'.mode=.returning:=by
    rw[m] at hm
    cases m':f'.mode with|panicking c'=>rw[m'] at hm;cases hm|run=>rw[m'] at hm;cases hm|returning=>rfl
   (have hfn':T.P.funcs[f'.fn]? =AA fn:=by rw[hf.fn];exact hfn);simp only[m,m',hfv,hfn'] at ht⊢;rw[Ik] at ht⊢
   refine bV (cont:=λr=>match r with
     | .ok x w=>Gz T.v true f (ts++(dr::ds)) AB x w| .halt (.stuck s) w=>.ended (.stuck s (f.pos T.v)) w
     | .halt _ w=>.ended (.stuck "return: the result variables cannot be read" (f.pos T.v)) w)
    (Qk:=λr=>match r with
     | .ok x w=>Gz T.P mn f' (ts'++cs') AB x w| .halt (.stuck s) w=>.ended (.stuck s (f'.pos T.P)) w
     | .halt _ w=>.ended (.stuck "return: the result variables cannot be read" (f'.pos T.P)) w)
    (zN fn hf.tmps) hW ?_ ?_ ?_ ht
   ·intro h v' _;cases h<;>exact⟨_,_,_,rfl⟩
   ·intro x v';exact .inl ⟨_,_,_,rfl⟩
   intro a v' ρ₁ b₁ _ _;refine⟨.inl (AEQ T.v hf.kind.2 ts a v'),λρ' b w' u eu hq hst=>?_⟩;exact ABl (hf.mono hst.le) (CV (λ_ _ x=>x.mono hst.le) hts) hst (λe he=>Dy he) hq
 |cons d dl=>
  obtain⟨d',dl',e',hd,ASj⟩: ∃d' dl',f'.defers=d'::dl'/\I8 K.F ρ d d'/\Ce (I8 K.F ρ) dl dl':=by
   rw[e] at hds
   cases e':f'.defers with|nil=>rw[e'] at hds;cases hds|cons d' dl'=>rw[e'] at hds;cases hds with|cons h1 h2=>exact⟨d',dl',rfl,h1,h2⟩
  (have hnd: ∀x∈d::dl,(K.fb.l=true/\∃b,x.target=.collected b)\/(K.fb.d=true/\∀g q,x.target=.fn (.func g) q->∀n,K.F.a g n):=by rw[<- e];exact hf.nd);have hlt:(¬ ∃b,d.target=.collected b)->∀g q,d.target=.fn (.func g) q->∀n,K.F.a g n:=λh=>(hnd d (Ee ..)).elim (λx=>Ak x.2 h) λx=>x.2;have hf2:DI K T ρ {f with defers:=dl} {f' with defers:=dl'}:=⟨hf.fn,hf.ok,hf.tmps,hf.todo,ASj,hf.mode,hf.kind,hf.round,λx hx=>hnd x (DD _ hx),hf.rg⟩
  cases hd with
  | @dead b x p p' h1 h2 h3=>
   (cases x<;>first|exact Ak (show false=true from h2) AV|skip);rename_i fx qx rx;have hdd:I8 K.F ρ (ZR (nP b) p) (ZR (.func fx qx rx) p'):=.dead h1 h2 h3;(cases fx<;>first|exact Ak (show false=true from h2) AV|skip);simp only[e,e',ZR,nP] at ht hdd⊢;exact MW hK hW hf2 hmd hts (hlt (λ⟨b,x⟩=>by cases x)) hdd ht
  |mk htg hargs=>
  have hd:I8 K.F ρ d d':=.mk htg hargs;obtain⟨t,az⟩:=d;obtain⟨t',az'⟩:=d';simp only at htg;by_cases bW: ∃b,t=.collected b
  ·obtain⟨b,rfl⟩:=bW;(obtain⟨b',rfl,hb⟩: ∃b',t'=.collected b'/\ρ.r b b':=by cases htg with|collected h=>exact⟨_,rfl,h⟩);simp only[e,e'] at ht⊢;rw[Ik] at ht⊢
   refine bV (cont:=λr=>match r with
     | .ok calls w=>.go {frame:={f with defers:=calls++dl},callers:=ts++(dr::ds),status:=.running,dying:=AB} w
     | .halt _ w=>.ended (.stuck "the deferred calls of a range-over-func loop have been taken" (f.pos T.v)) w)
    (Qk:=λr=>match r with
     | .ok calls w=>.go {frame:={f' with defers:=calls++dl'},callers:=ts'++cs',status:=.running,dying:=AB} w
     | .halt _ w=>.ended (.stuck "the deferred calls of a range-over-func loop have been taken" (f'.pos T.P)) w)
    (bQ hb) hW ?_ ?_ ?_ ht
   ·intro h v' _;exact⟨_,_,_,rfl⟩
   ·intro x v';exact .inl ⟨_,_,_,rfl⟩
   intro a v' ρ₁ b₁ _ _;refine⟨.inl ⟨_,_,rfl⟩,λρ' b w' u eu hq hst=>?_⟩;obtain⟨rfl,rfl⟩:=hq;exact OV (hf2.mono hst.le) (CV (λ_ _ x=>x.mono hst.le) hts) hst (λe he=>by simp at he;exact Dy he)
  have h1: ∀(P:BM) (g:AX) (cs:List AX) (w:AL) (dl:List EL),g.defers={target:=t,args:=az}::dl->True:=λ_ _ _ _ _ _=>Ar
  cases htg with|collected h=>exact Ak ⟨_,rfl⟩ bW|fn h2 h3=>simp only[e,e'] at ht⊢;exact MW hK hW hf2 hmd hts (hlt bW) hd ht|nil=>simp only[e,e'] at ht⊢;exact MW hK hW hf2 hmd hts (hlt bW) hd ht|yield h2=>simp only[e,e'] at ht⊢;exact MW hK hW hf2 hmd hts (hlt bW) hd ht|seq h2 h3=>simp only[e,e'] at ht⊢;exact MW hK hW hf2 hmd hts (hlt bW) hd ht
theorem Ux(hK:Fits K T N)(hW:DF K.F N ρ v w)(hG: ∀g,g<K.G->ρ.r g g)(hf:DI K T ρ f f')(hts:Ce (IX K T ρ) ts ts')
  (ht: ∀g1 v1 es,Af T.v true (G f (ts++(dr::ds))) v=.go g1 v1 es->Tp v w (v1.drawn - v.drawn)):
  TS K T N ρ v w dr ds cs' (Af T.v true (G f (ts++(dr::ds))) v) (Af T.P mn (G f' (ts'++cs')) w):=by
 unfold Af G at ht⊢;have hm:=hf.mode
 cases m:f.mode with
 |run=>
  have m':f'.mode=.run:=by
   rw[m] at hm
   cases m':f'.mode with|panicking c'=>rw[m'] at hm;cases hm|run=>rfl|returning=>rw[m'] at hm;cases hm
  simp only[m,m'] at ht⊢;exact AHS hK hW hG hf m hts ht
 |returning=>
  have m':f'.mode=.returning:=by
   rw[m] at hm
   cases m':f'.mode with|panicking c'=>rw[m'] at hm;cases hm|run=>rw[m'] at hm;cases hm|returning=>rfl
  simp only[m,m'] at ht⊢;exact jP hK hW hf (by rw[m];intro h;cases h) hts ht
 |panicking c=>
  obtain⟨c',m'⟩: ∃c',f'.mode=.panicking c':=by
   rw[m] at hm
   cases m':f'.mode with|panicking c'=>exact⟨c',rfl⟩|run=>rw[m'] at hm;cases hm|returning=>rw[m'] at hm;cases hm
  simp only[m,m'] at ht⊢;exact jP hK hW hf (by rw[m];intro h;cases h) hts ht
end
end
structure Rn.Id (ρ:Rn):Prop where
 r: ∀a b,ρ.r a b->a=b
 c: ∀a x,ρ.c a x->x=.chan (AA a)\/x=nP a\/x=.slice (AA ⟨a,0,AB⟩) 0 0
 q: ∀s n a b,¬ρ.q s n a b
section
variable {F:Fs} {ρ:Rn}
theorem RelA.eq(h:ρ.Id){a a':Addr}(k:RelA ρ a a'):a'=a:=by
 obtain⟨b,o,s⟩:=a;obtain⟨b',o',s'⟩:=a';obtain⟨h1,h2,h3⟩:=k;simp only at h1 h2 h3;rw[h.r _ _ h1,h2,h3]
theorem YM{α:Type}{p p':Array α}(h1:p.size=p'.size)(h2: ∀(i:Nat) (v v':α),p[i]? =AA v->p'[i]? =AA v'->v'=v):p'=p:=by
 apply ZM;intro i;by_cases hi:i<p.size
 ·rw[FZ hi,FZ (h1▸hi)];exact congrArg AA (h2 i _ _ (FZ hi) (FZ (h1▸hi)))
 rw[XD Aa,XD Aa]
theorem BC.eq(h:ρ.Id){v v':AQ}(k:BC F ρ v v'):v'=v:=by
 induction k with
 |flat _=>rfl|ptr ha=>rw[ha.eq h]|slice ha=>rw[ha.eq h]|map hb=>rw[h.r _ _ hb]|chan hb=>rw[h.r _ _ hb]|tok hc ht=>
  rcases h.c _ _ hc with e|e|e;exact e;rw[e] at ht;cases ht;rw[e] at ht;cases ht
 |mf hc hm=>
  rcases h.c _ _ hc with e|e|e;rw[e] at hm;cases hm;exact e;rw[e] at hm;cases hm
 |emp hc=>
  rcases h.c _ _ hc with e|e|e;(cases e);(cases e);exact e
 |func _ _ h1 _ h2 _ i1 i2=>rw[YM h1 i1,YM h2 i2]|yield hl=>rw[h.r _ _ hl]|seq hq=>exact Ak hq (h.q _ _ _ _)|iface _ i=>rw[i]|agg h1 _ i=>rw[YM h1 i]|tuple h1 _ i=>rw[YM h1 i]
theorem BB.eq(h:ρ.Id){p p':Array AQ}(k:BB F ρ p p'):p'=p:=YM k.1 λi v v' h1 h2=>(k.2 i v v' h1 h2).eq h
theorem XU{α:Type}{R:α->α->Prop}(h: ∀a b,R a b->b=a){l l':List α}(k:Ce R l l'):l'=l:=by
 induction k with|nil=>rfl|cons x _ ih=>rw[h _ _ x,ih]
theorem I8.eq(h:ρ.Id){d d':EL}(k:I8 F ρ d d'):d'=d:=by
 cases k with
 |dead hc hm hp=>
  rw[hp.eq h];rcases h.c _ _ hc with e|e|e;rw[e] at hm;cases hm;rw[e];rw[e] at hm;cases hm
 |mk h1 h2=>
 obtain⟨t,p⟩:=d;obtain⟨t',p'⟩:=d';simp only at h1 h2;rw[h2.eq h]
 cases h1 with|fn _ _ hq=>rw[hq.eq h]|nil=>rfl|yield _ hl=>rw[h.r _ _ hl]|seq _ hq=>exact Ak hq (h.q _ _ _ _)|collected hb=>rw[h.r _ _ hb]
theorem Gx.eq(h:ρ.Id){o o':Obj}(k:Gx F ρ o o'):o'=o:=by
 cases k with
 |cells hp=>rw[hp.eq h]|map hs he=>
  refine congrArg (λx=>Obj.map x _) (YM hs λi e e' h1 h2=>?_);have:=he i e e' h1 h2;obtain⟨k,v,b⟩:=e;obtain⟨k',v',b'⟩:=e';obtain⟨e1,e2,e3⟩:=this;simp only at e1 e2 e3;rw[e1.eq h,e2.eq h,e3]
 |mapIter hb=>rw[h.r _ _ hb]|La=>rfl|stringIter=>rfl| @loop l l' hl=>
  obtain⟨a1,a2,a3,a4,a5,a6,a7,a8⟩:=l;obtain⟨b1,b2,b3,b4,b5,b6,b7,b8⟩:=l';obtain⟨e1,e2,e3,e4,e5,_,e6,e7,_,_,_,_,e8⟩:=hl;simp only at e1 e2 e3 e4 e5 e6 e7 e8;subst e1 e2 e3 e5 e6 e7;rw[e4.eq h,h.r _ _ e8]
 |deferred=>rfl|Kz=>rfl|number ha=>rw[ha.eq h]|chan=>rfl
theorem DI.eq{K:Kit}{T:Twin}(h:ρ.Id){f f':AX}(k:DI K T ρ f f'):f'=f:=by
 obtain⟨a1,a2,a3,a4,a5,a6,a7⟩:=f;obtain⟨b1,b2,b3,b4,b5,b6,b7⟩:=f';obtain⟨e1,_,e2,e3,e4,e5,e6,e7⟩:=k;simp only at e1 e2 e3 e4 e5 e6 e7;have h3:b3=a3:=XU (λi i' x=>by cases x<;>first|rfl|(rename_i hr;rw[h.r _ _ hr])) e3
 have h5:b5=a5:=by
  cases e5 with
  |run=>rfl|returning=>rfl|panicking hc=>
   refine congrArg FrameMode.panicking (XU (λi i' x=>?_) hc);obtain⟨v,r,g⟩:=i;obtain⟨v',r',g'⟩:=i';obtain⟨q1,q2,⟨q3,q4⟩,_⟩:=x;simp only at q1 q2 q3 q4;rw[q1.eq h,q2,q3,q4]
 have h7:b7=a7:=by
  (cases a7<;>cases b7<;>first|exact e7.elim|rfl|skip);exact congrArg AA (h.r _ _ e7).symm
 rw[e1,e2.eq h,h3,XU (λ_ _ x=>I8.eq h x) e4,h5,e6.1,h7]
end
def _root_.Go.World.DN (w:AL) (t:Nat->F7->Nat):AL:={w with tape:=t}
theorem Stp.id{F:Fs}{N:Nat}{ρ ρ1:Rn}{v v1 w1:AL}{t:Nat->F7->Nat}{u:Array Be}(h:Stp F N ρ ρ1 v (v.DN t) v1 w1 u)(hi:ρ.Id):ρ1.Id/\w1=v1.DN t:=by
 have hi1:ρ1.Id:=⟨λa b hab=>by
  rcases (h.new a b).1 hab with x|⟨x1,x2,x3⟩;exact hi.r _ _ x;have:(v.DN t).heap.size=v.heap.size:=rfl
  omega,λa x hx=>hi.c a x (by rw[<- h.tok.1];exact hx),λs n a b hx=>hi.q s n a b (by rw[<- h.tok.2];exact hx)⟩
 refine⟨hi1,?_⟩;have hsz:w1.heap.size=v1.heap.size:=by have:=h.sw;have e:(v.DN t).heap.size=v.heap.size:=rfl;omega
 have hheap:w1.heap=v1.heap:=by
  apply ZM;intro a;by_cases hr: ∃b,ρ1.r a b
  ·obtain⟨b,hb⟩:=hr;obtain rfl:=hi1.r _ _ hb;obtain⟨o,o',h1,h2,h3⟩:=h.rel.obj _ _ hb;rw[h1,h2,h3.eq hi1]
  by_cases ha:a<v.heap.size
  ·rw[h.ZT a ha (λb hb=>hr ⟨b,h.le.r _ _ hb⟩)];exact h.SC a ha (λb hb=>hr ⟨a,by have e:=hi.r _ _ hb;subst e;exact h.le.r _ _ hb⟩)
  by_cases ha1:a<v1.heap.size;exact Ak ⟨a,(h.new a a).2 (.inr ⟨Aa,ha1,by show a+v.heap.size=a+v.heap.size;rfl⟩)⟩ hr;rw[XD Aa,XD Aa]
 obtain⟨a1,a2,a3,a4,a5⟩:=w1;obtain⟨t1,t2,t3⟩:=h.tv;obtain⟨t4,t5,t6⟩:=h.tw;have hd:=h.drawn.2;simp only at hheap t4 t5 t6;have e1:(v.DN t).drawn=v.drawn:=rfl;have e3:(v.DN t).os=v.os:=rfl;have e4:(v.DN t).output=v.output:=rfl;have e2:(v.DN t).tape=t:=rfl;rw[e1] at hd;simp only at hd;(have hd':a3=v1.drawn:=by omega);rw[hheap,t4,t5,t6,hd',e2,e3,e4,<- t2,<- t3];rfl
def Rn.left (ρ:Rn):Rn:={r:=λa b=>a=b/\∃c,ρ.r a c,c:=λa x=>∃y,ρ.c a y/\((nO y=true/\x=.chan (AA a))\/(YJ y=true/\x=nP a)\/(AD2 y=true/\x=.slice (AA ⟨a,0,AB⟩) 0 0)),q:=λ_ _ _ _=>False}
theorem Rn.left_id(ρ:Rn):ρ.left.Id:=⟨λ_ _ h=>h.1,λ_ _ h=>by obtain⟨_,_,h⟩:=h;exact h.imp And.right (Or.imp And.right And.right),λ_ _ _ _ h=>h⟩
section
variable {F F':Fs} {ρ:Rn} (hF:F.le0 F') (hz:F' F.z/\F'.v F.z/\∀n,F'.a F.z n)
include hF hz
theorem BC.left{v v':AQ}(k:BC F ρ v v'):BC F' ρ.left v v:=by
 induction k with
 |flat hf=>exact .flat hf|ptr ha=>exact .ptr ⟨⟨rfl,_,ha.1⟩,rfl,rfl⟩|slice ha=>exact .slice ⟨⟨rfl,_,ha.1⟩,rfl,rfl⟩|emp hc=>exact .emp ⟨_,hc,.inr (.inr ⟨rfl,rfl⟩)⟩|map hb=>exact .map ⟨rfl,_,hb⟩|chan hb=>exact .chan ⟨rfl,_,hb⟩|tok hc ht=>exact .tok ⟨_,hc,.inl ⟨ht,rfl⟩⟩ rfl (.inr rfl)|mf hx hm=>exact .mf ⟨_,hx,.inr (.inl ⟨hm,rfl⟩)⟩ rfl|func hf hv h1 h1' h2 h2' i1 i2=>
  refine .func (hF.f _ hf) (hF.v _ hv) rfl (λi v v' a b=>?_) rfl (λi v v' a b=>?_)
  ·rw[a] at b;cases b;have hlt:=(Dj.1 a).1;exact i1 i v _ a (FZ (h1▸hlt))
  rw[a] at b;cases b;have hlt:=(Dj.1 a).1;exact i2 i v _ a (FZ (h2▸hlt))
 |yield hl=>exact .yield ⟨rfl,_,hl⟩|seq _=>exact .func hz.1 hz.2.1 rfl (λi v v' a b=>by simp at a) rfl (BB.VR (F:=F') (ρ:=ρ.left) (by intro x hx;simp at hx;rcases hx with rfl|rfl<;>rfl)).2
 |iface _ i=>exact .iface i|agg h1 h1' i1=>
  refine .agg rfl λi v v' a b=>?_;rw[a] at b;cases b;have hlt:=(Dj.1 a).1;exact i1 i v _ a (FZ (h1▸hlt))
 |tuple h1 h1' i1=>
  refine .tuple rfl λi v v' a b=>?_;rw[a] at b;cases b;have hlt:=(Dj.1 a).1;exact i1 i v _ a (FZ (h1▸hlt))
theorem BB.left{p p':Array AQ}(k:BB F ρ p p'):BB F' ρ.left p p:=⟨rfl,λi v v' a b=>by
 rw[a] at b;cases b;have hlt:=(Dj.1 a).1
 exact (k.2 i v _ a (FZ (k.1▸hlt))).left hF hz⟩
theorem Gx.left{o o':Obj}(k:Gx F ρ o o'):Gx F' ρ.left o o:=by
 cases k with
 |cells hp=>exact .cells (hp.left hF hz)|map hs he=>
  refine .map rfl λi e e' a b=>?_;rw[a] at b;cases b;have hlt:=(Dj.1 a).1;have:=he i e _ a (FZ (hs▸hlt));exact⟨this.key.left hF hz,this.val.left hF hz,rfl⟩
 |mapIter hb=>exact .mapIter ⟨rfl,_,hb⟩|La=>exact .La|stringIter=>exact .stringIter|loop hl=>exact .loop ⟨rfl,rfl,rfl,hl.tmps.left hF hz,rfl,hl.few,rfl,rfl,hF.r _ hl.okF,hF.c _ hl.okA,hF.c _ hl.okB,λj hj=>hF.c _ (hl.okJ j hj),⟨rfl,_,hl.defers⟩⟩|deferred=>exact .deferred|Kz=>exact .Kz|number ha=>exact .number ⟨⟨rfl,_,ha.1⟩,rfl,rfl⟩|chan=>exact .chan
theorem DF.left{N:Nat}{v w:AL}(k:DF F N ρ v w):DF F' N ρ.left v v:=
 ⟨⟨λa b b' h h'=>h.1.symm.trans h'.1,λa a' b h h'=>h.1.trans h'.1.symm,λa x y h h'=>by
   obtain⟨y1,h1,h2⟩:=h;obtain⟨y2,h3,h4⟩:=h';obtain rfl:=k.ok.cfn _ _ _ h1 h3
   have hno:nO y1=true->YJ y1=true->False:=by
    intro t m;cases y1<;>first|(cases m;done)|(rename_i fn p q;cases fn<;>first|(cases t;done)|(cases m;done))
   have hne:nO y1=true->AD2 y1=true->False:=by
    intro t m;(cases y1<;>first|(cases m;done)|skip);rename_i a n k
    cases a with
    |none=>cases m|some a=>
     cases n with
     |zero=>cases k with
      |zero=>cases t|succ k=>cases m
     |succ n=>cases m
   have hnm:YJ y1=true->AD2 y1=true->False:=by
    intro t m;cases y1<;>first|(cases m;done)|(cases t;done)
   rcases h2 with ⟨t,rfl⟩|⟨t,rfl⟩|⟨t,rfl⟩<;>rcases h4 with ⟨t',rfl⟩|⟨t',rfl⟩|⟨t',rfl⟩<;>first|rfl|exact (hno t t').elim|exact (hno t' t).elim|exact (hne t t').elim|exact (hne t' t).elim|exact (hnm t t').elim|exact (hnm t' t).elim,λa b x h h'=>by
   obtain⟨_,c,hc⟩:=h;obtain⟨y,hy,_⟩:=h';exact k.ok.apart _ _ _ hc hy,λa b h _=>h.1,λa ha=>⟨rfl,a,k.ok.hd a ha⟩⟩,
  λa b h=>by
   obtain⟨rfl,c,hc⟩:=h;obtain⟨o,o',h1,h2,h3⟩:=k.obj _ _ hc
   exact⟨o,o,h1,h1,h3.left hF hz⟩,
  λa x h=>by obtain⟨y,hy,_⟩:=h;exact k.tok _ _ hy,k.nv,k.nv,rfl,λ_ _ _ _ h=>h.elim⟩
end
section
variable {e:Array Be}{f:AX}{Kp:AX->List AX->AL->Prop}{cs ts:List AX}{P V:BM}{v:AL}
def door (V:BM):AX:={fn:=V.funcs.size,tmps:=#[AU],todo:=[.code (.refuse "")],defers:=[{target:=.fn (.method "") #[],args:=#[]}],mode:=.run,kind:=.normal}
theorem AER(V:BM){c:AX}(h:Gone (door V) c)(v:AL): ∃o u,step V (lone c [] v)=.ended o u:=by
 have key:c=door V\/∃ch,c=(door V).raise ch:=by
  rcases h.run rfl with rfl|⟨x,rfl⟩|⟨ch,rfl⟩;exact .inl rfl;exact .inl rfl;exact .inr ⟨ch,rfl⟩
 rcases key with rfl|⟨ch,rfl⟩
 ·exact⟨_,_,step_lone_ended (w':=v) rfl⟩
 refine⟨_,_,step_lone_ended (o:=.stuck "call: a method without a receiver" (Frame.pos V {door V with mode:=.panicking ch,defers:=[]})) (w':=v) ?_⟩;have e2:(door V).raise ch={door V with mode:=.panicking ch}:=rfl;rw[e2]
 have:Af V true {frame:={door V with mode:=.panicking ch},callers:=[],status:=.running,dying:=AB} v=
   QD V {door V with mode:=.panicking ch,defers:=[]} [] AB {target:=.fn (.method "") #[],args:=#[]} v:=rfl
 rw[this];rfl
inductive Ev (V:BM) (Kp:AX->List AX->AL->Prop):AX->List AX->AL->Prop
 |stop {f:AX} {ts:List AX} {v:AL}:Kp f ts v->Ev V Kp f ts v
 |step {f:AX} {ts:List AX} {v:AL} (F:(Nat->F7->Nat)->AX) (S:(Nat->F7->Nat)->List AX) (W:(Nat->F7->Nat)->AL):
   (∀t:Nat->F7->Nat,(∀j,j<v.drawn->t j=v.tape j)->∃es,Af V true (G f (ts++[door V])) (v.DN t)=.go (G (F t) (S t++[door V])) (W t) es)->
   (∀t:Nat->F7->Nat,(∀j,j<v.drawn->t j=v.tape j)->Ev V Kp (F t) (S t) (W t))->Ev V Kp f ts v
theorem Ev.step' (h: ∀t:Nat->F7->Nat,(∀j,j<v.drawn->t j=v.tape j)->∃f1 Dl v1 es,
   Af V true (G f (ts++[door V])) (v.DN t)=.go (G f1 (Dl++[door V])) v1 es/\Ev V Kp f1 Dl v1):Ev V Kp f ts v:=by
 have h': ∀t:Nat->F7->Nat,∃q:AX×List AX×AL,(∀j,j<v.drawn->t j=v.tape j)->(∃es,Af V true (G f (ts++[door V])) (v.DN t)=.go (G q.1 (q.2.1++[door V])) q.2.2 es)/\Ev V Kp q.1 q.2.1 q.2.2:=by
  intro t;by_cases ht: ∀j,j<v.drawn->t j=v.tape j
  ·obtain⟨f1,Dl,v1,es,h1,h2⟩:=h t ht;exact⟨(f1,Dl,v1),λ_=>⟨⟨es,h1⟩,h2⟩⟩
  exact⟨(f,ts,v),λx=>Ak x ht⟩
 obtain⟨q,hq⟩:=fF h';exact .step (λt=>(q t).1) (λt=>(q t).2.1) (λt=>(q t).2.2) (λt ht=>(hq t ht).1) (λt ht=>(hq t ht).2)
structure VS where
 f:AX
 ts:List AX
 v:AL
def Nx (V:BM) (Kp:AX->List AX->AL->Prop) (s' s:VS):Prop:=
 ¬Kp s.f s.ts s.v/\∃t:Nat->F7->Nat,(∀j,j<s.v.drawn->t j=s.v.tape j)/\∃es,Af V true (G s.f (s.ts++[door V])) (s.v.DN t)=.go (G s'.f (s'.ts++[door V])) s'.v es
inductive Jv (V:BM) (Kp:AX->List AX->AL->Prop):VS->VS->Prop
 |one {s' s:VS}:Nx V Kp s' s->Jv V Kp s' s|cons {s' s'' s:VS}:Nx V Kp s'' s->Jv V Kp s' s''->Jv V Kp s' s
theorem Jv.trans{s1 s2 s3:VS}(h:Jv V Kp s1 s2)(k:Jv V Kp s2 s3):Jv V Kp s1 s3:=by
 induction k with|one x=>exact .cons x h|cons x _ ih=>exact .cons x ih
theorem Ev.next{s s':VS}(h:Ev V Kp s.f s.ts s.v)(hn:Nx V Kp s' s):Ev V Kp s'.f s'.ts s'.v:=by
 obtain⟨f,ts,v⟩:=s;obtain⟨f',ts',v'⟩:=s';obtain⟨hk,t,ht,es,hs⟩:=hn
 cases h with
 |stop h=>exact Ak h hk|step F S W h1 h2=>
  obtain⟨e2,h3⟩:=h1 t ht;have h4:=hs.symm.trans h3;simp only[Ri,G,Gm] at h4;obtain⟨⟨r1,r2,_⟩,r3,_⟩:=h4;have r2:=Nc r2;subst r1 r2 r3;exact h2 t ht
theorem Ev.PE{s s':VS}(h:Ev V Kp s.f s.ts s.v)(hn:Jv V Kp s' s):Ev V Kp s'.f s'.ts s'.v:=by
 induction hn with|one x=>exact h.next x|cons x _ ih=>exact ih (h.next x)
theorem Ev.acc(h:Ev V Kp f ts v):Acc (Nx V Kp) ⟨f,ts,v⟩:=by
 induction h with
 |stop hk=>exact .intro _ λs' hn=>Ak hk hn.1
 | @step f ts v F S W h1 h2 ih=>
  refine .intro _ λs' hn=>?_;obtain⟨f',ts',v'⟩:=s';obtain⟨hk,t,ht,es,hs⟩:=hn;obtain⟨e2,h3⟩:=h1 t ht;have h4:=hs.symm.trans h3;simp only[Ri,G,Gm] at h4;obtain⟨⟨r1,r2,_⟩,r3,_⟩:=h4;have r2:=Nc r2;subst r1 r2 r3;exact ih t ht
theorem Jv.acc{s:VS}(h:Acc (Nx V Kp) s):Acc (Jv V Kp) s:=by
 induction h with
 |intro s _ ih=>
  refine .intro _ λs' hn=>?_
  cases hn with|one x=>exact ih _ x|cons x k=>exact (ih _ x).inv k
theorem Ev.strong{M:VS->Prop}(H: ∀s:VS,Ev V Kp s.f s.ts s.v->(∀s',Jv V Kp s' s->M s')->M s){s:VS}(h:Ev V Kp s.f s.ts s.v):M s:=by
 have ha:=Jv.acc h.acc;revert h
 have key: ∀s:VS,Acc (Jv V Kp) s->Ev V Kp s.f s.ts s.v->M s:=by
  intro s ha
  induction ha with|intro s _ ih=>exact λh=>H s h λs' hn=>ih s' hn (h.PE hn)
 exact key s ha
def Q3 (K:Kit) (T:Twin) (N:Nat) (f:AX) (ts:List AX) (v:AL):Prop:=
 ∃ρ:Rn,ρ.Id/\DI K T ρ f f/\Ce (IX K T ρ) ts ts/\DF K.F N ρ v v/\∀g,g<K.G->ρ.r g g
theorem XV{K:Kit}{T:Twin}{N:Nat}(hK:Fits K T N)(hV:T.v=T.P)(hX:(∀f,K.X f=false)/\¬T.p)(hw:Q3 K T N f ts v)(s:Nat->F7->Nat):
  (∃o u e,Af T.P true (G f (ts++[door T.P])) (v.DN s)=.ended o u e)\/
  (∃c v1 e,Af T.P true (G f (ts++[door T.P])) (v.DN s)=.go (G c []) v1 e/\Gone (door T.P) c)\/
  ∃f1 Dl v1 e,Af T.P true (G f (ts++[door T.P])) (v.DN s)=.go (G f1 (Dl++[door T.P])) v1 e/\Q3 K T N f1 Dl v1/\v.drawn<=v1.drawn/\v1.tape=s/\
   ∀t:Nat->F7->Nat,(∀j,v.drawn<=j->j<v1.drawn->t j=s j)->∃e',Af T.P true (G f (ts++[door T.P])) (v.DN t)=.go (G f1 (Dl++[door T.P])) (v1.DN t) e':=by
 obtain⟨ρ,hi,hf,hts,hW,hG⟩:=hw;have hWt: ∀t:Nat->F7->Nat,DF K.F N ρ (v.DN s) (v.DN t):=λt=>⟨hW.ok,hW.obj,hW.tok,hW.nv,hW.nw,hW.os,λ_ _ _ _ h=>Ak h (hi.q _ _ _ _)⟩;have h0:=Ux (mn:=true) (dr:=door T.P) (ds:=[]) (cs':=[door T.P]) hK (hWt s) hG hf hts (λ_ _ _ _ i _ q=>rfl);rw[hV] at h0
 cases hst:Af T.P true (G f (ts++[door T.P])) (v.DN s) with
 |ended o u e=>exact .inl ⟨_,_,_,rfl⟩|go g1 v1 e=>
  rw[hst] at h0;rcases h0 with ⟨f1,Dl,f1',G7,ρ1,w1,es',h1,h2,h3,h4,h5⟩|⟨X,p,p',k,f1,Dl,f1',G7,ρ1,w1,es',_,hX',_⟩|⟨c,h1,h2,_⟩|⟨Qj,_⟩|⟨p,k,f1,Dl,⟨_,_,_,_,hq⟩,_⟩
  ·refine .inr (.inr ⟨f1,Dl,v1,e,by rw[h1],?_,h5.drawn.1,h5.tv.1,λt ht=>?_⟩)
   ·have hid:=(Stp.id (t:=s) (v:=v.DN s) h5 hi);have e1:f1'=f1:=h3.eq hid.1;have e2:G7=Dl:=XU (λ_ _ x=>DI.eq hid.1 x.fr) h4
    have e3:w1=v1:=by
     rw[hid.2];have:v1.tape=s:=h5.tv.1;rw[<- this];rfl
    subst e1 e2 e3;exact⟨ρ1,hid.1,h3,h4,h5.rel,λg hg=>h5.le.r _ _ (hG g hg)⟩
   have hs:=Ux (mn:=true) (dr:=door T.P) (ds:=[]) (cs':=[door T.P]) hK (hWt t) hG hf hts (λg2 v2 e2 h i hi q=>by
    rw[hV,hst] at h;(cases h);have hd:(v.DN s).drawn=v.drawn:=rfl;rw[hd] at hi;show s (v.drawn+i) q=t (v.drawn+i) q
    rw[ht _ Aa Aa])
   rw[hV,hst] at hs;rcases hs with ⟨g1f,tsg,AVN,AVJ,ρ2,w2,es2,q1,q2,q3,q4,q5⟩|⟨X,p,p',k,f1,Dl,f1',G7,ρ1,w1,es',_,hX',_⟩|⟨c,q1,_⟩|⟨Qj,_⟩|⟨p,k,f1,Dl,⟨_,_,_,_,hq⟩,_⟩
   ·rw[h1] at q1;simp only[G,Gm] at q1;obtain⟨r1,r2,_⟩:=q1;have r2:=Nc r2;subst r1 r2;have hid:=Stp.id (t:=t) (v:=v.DN s) q5 hi;rw[q3.eq hid.1,XU (λ_ _ x=>DI.eq hid.1 x.fr) q4,hid.2] at q2;exact⟨_,q2⟩
   ·have hX':=hX'.1;rw[hX.1] at hX';cases hX'
   ·rw[h1] at q1;simp[G] at q1
   exact Ak Qj hX.2;exact Ak hq (hi.q _ _ _ _)
  ·have hX':=hX'.1;rw[hX.1] at hX';cases hX'
  exact .inr (.inl ⟨c,v1,e,by rw[h1],h2⟩);exact Ak Qj hX.2;exact Ak hq (hi.q _ _ _ _)
 |_=>rw[hst] at h0;exact h0.elim
structure Stg (K:Kit) (T:Twin) (N:Nat) (Kp:AX->List AX->AL->Prop) (f0:AX) (XW:List AX) (v0:AL) where
 i:Nat
 f:AX
 ts:List AX
 v:AL
 ne: ¬Ev T.P Kp f ts v
 well:Q3 K T N f ts v
 past:v0.drawn<=v.drawn/\∀j,j<v0.drawn->v.tape j=v0.tape j
 run: ∀t:Nat->F7->Nat,(∀j,j<v.drawn->t j=v.tape j)->runN T.P i (lone f0 (XW++[door T.P]) (v0.DN t))=.next (lone f (ts++[door T.P]) (v.DN t))
 nok: ∀t:Nat->F7->Nat,(∀j,j<v.drawn->t j=v.tape j)->∀n,n<=i->∀f' ts' v',runN T.P n (lone f0 (XW++[door T.P]) (v0.DN t))=.next (lone f' (ts'++[door T.P]) v')->¬Kp f' ts' v'
theorem fQ{f':AX}{cs':List AX}{v':AL}(h:lone f cs v=lone f' cs' v'):f=f'/\cs=cs'/\v=v':=by
 simp only[lone,Machine.mk.injEq,AD0,Ir,Gm] at h;exact⟨h.2.1.1.1,h.2.1.1.2.1,h.1⟩
theorem Zb{f1:AX}{cs1:List AX}{v1:AL}(h:Af P true (G f cs) v=.go (G f1 cs1) v1 e):step P (lone f cs v)=.next (lone f1 cs1 v1):=
 step_lone_go (by
  have:Af P true {frame:=f,callers:=cs,status:=.running,dying:=AB} v=.go (G f1 cs1) v1 e:=h
  rw[this];rfl)
theorem AHT{u:AL}{o:Outcome}(h:Af P true (G f cs) v=.ended o u e):step P (lone f cs v)=.ended o u:=
 step_lone_ended (by
  have:Af P true {frame:=f,callers:=cs,status:=.running,dying:=AB} v=.ended o u e:=h
  rw[this];rfl)
theorem runN_succ_next{m m1 m2:Machine}{n:Nat}(h:step P m=.next m1)(h2:runN P (n+1) m=.next m2):runN P n m1=.next m2:=by
 simp only[runN,h] at h2;exact h2
section
variable {K:Kit} {T:Twin} {N:Nat} {Kp:AX->List AX->AL->Prop} {f0:AX} {XW:List AX} {v0:AL}
theorem AHU(hK:Fits K T N)(hV:T.v=T.P)(hX:(∀f,K.X f=false)/\¬T.p)(CE: ∀f ts v t,Kp f ts (v.DN t)->Kp f ts v)
  (H: ∀t:Nat->F7->Nat,(∀j,j<v0.drawn->t j=v0.tape j)->∃n f' ts' v',runN T.P n (lone f0 (XW++[door T.P]) (v0.DN t))=.next (lone f' (ts'++[door T.P]) v')/\Kp f' ts' v')
  (s:Stg K T N Kp f0 XW v0): ∃s':Stg K T N Kp f0 XW v0,s'.i=s.i+1/\s.v.drawn<=s'.v.drawn/\∀j,j<s.v.drawn->s'.v.tape j=s.v.tape j:=by
 have hbad: ∃t:Nat->F7->Nat,(∀j,j<s.v.drawn->t j=s.v.tape j)/\∀f1 Dl v1 es,Af T.P true (G s.f (s.ts++[door T.P])) (s.v.DN t)=.go (G f1 (Dl++[door T.P])) v1 es->¬Ev T.P Kp f1 Dl v1:=by
  refine nM λhc=>s.ne (Ev.step' λt ht=>?_);refine nM λhd=>hc ⟨t,ht,λf1 Dl v1 es h1 h2=>hd ⟨f1,Dl,v1,es,h1,h2⟩⟩
 obtain⟨t,ht,hn⟩:=hbad;have ht0: ∀j,j<v0.drawn->t j=v0.tape j:=λj hj=>(ht j (by have:=s.past.1;omega)).trans (s.past.2 j hj);obtain⟨n,f',ts',v',hr,hk⟩:=H t ht0;have hlt:s.i<n:=Nat.lt_of_not_le λh=>s.nok t ht n h f' ts' v' hr hk;obtain⟨d,rfl⟩: ∃d,n=s.i+(d+1):=⟨n - s.i - 1,Aa⟩;rw[runN_add,s.run t ht] at hr;simp only at hr;rcases XV hK hV hX s.well t with ⟨o,u,e,h1⟩|⟨c,v1,e,h1,h2⟩|⟨f1,Dl,v1,e,h1,hw1,hd1,htp,hall⟩;simp only[runN,AHT h1] at hr;cases hr
 ·have hr2:=runN_succ_next (Zb h1) hr
  cases d with
  |zero=>
   simp only[runN,Stepped.next.injEq] at hr2;have:=(fQ hr2).2.1;simp at this
  |succ d=>
   obtain⟨o,u,h3⟩:=AER T.P h2 v1;simp only[runN,h3] at hr2;cases hr2
 have hne1:=hn f1 Dl v1 e h1;refine⟨⟨s.i+1,f1,Dl,v1,hne1,hw1,⟨by have:=s.past.1;omega,λj hj=>by rw[htp];exact ht0 j hj⟩,λt2 ht2=>?_,λt2 ht2 m hm f2 ts2 v2 hr2=>?_⟩,rfl,hd1,λj hj=>by rw[htp];exact ht j hj⟩
 ·have hag: ∀j,j<s.v.drawn->t2 j=s.v.tape j:=λj hj=>(ht2 j Aa).trans (by rw[htp];exact ht j hj);(obtain⟨e2,h2⟩:=hall t2 λj _ hj=>by rw[ht2 j hj,htp]);rw[runN_add,s.run t2 hag];simp only[runN,Zb h2]
 have hag: ∀j,j<s.v.drawn->t2 j=s.v.tape j:=λj hj=>(ht2 j Aa).trans (by rw[htp];exact ht j hj);rcases XF s.i m with hlt|hge
 ·(obtain rfl:m=s.i+1:=by omega);(obtain⟨e2,h2⟩:=hall t2 λj _ hj=>by rw[ht2 j hj,htp]);rw[runN_add,s.run t2 hag] at hr2;simp only[runN,Zb h2,Stepped.next.injEq] at hr2;obtain⟨e3,e4,e5⟩:=fQ hr2;have e4:=Nc e4;subst e3 e4;intro hkp;rw[<- e5] at hkp;exact hne1 (.stop (CE _ _ _ _ hkp))
 exact s.nok t2 hag m hge f2 ts2 v2 hr2
theorem bar(hK:Fits K T N)(hV:T.v=T.P)(hX:(∀f,K.X f=false)/\¬T.p)(CE: ∀f ts v t,Kp f ts (v.DN t)->Kp f ts v)(hw:Q3 K T N f0 XW v0)
  (H: ∀t:Nat->F7->Nat,(∀j,j<v0.drawn->t j=v0.tape j)->∃n f' ts' v',runN T.P n (lone f0 (XW++[door T.P]) (v0.DN t))=.next (lone f' (ts'++[door T.P]) v')/\Kp f' ts' v'):
  Ev T.P Kp f0 XW v0:=by
 refine nM λhne=>?_
 have h0: ∃s0:Stg K T N Kp f0 XW v0,s0.i=0:=⟨⟨0,f0,XW,v0,hne,hw,⟨Bd _,λ_ _=>rfl⟩,λt _=>rfl,λt _ n hn f' ts' v' hr hk=>by
  (obtain rfl:n=0:=by omega);simp only[runN,Stepped.next.injEq] at hr;obtain⟨e3,e4,e5⟩:=fQ hr;have e4:=Nc e4;subst e3 e4;rw[<- e5] at hk
  exact hne (.stop (CE _ _ _ _ hk))⟩,rfl⟩
 obtain⟨s0,hs0⟩:=h0;obtain⟨nx,hnx⟩:=fF (AHU hK hV hX CE H);let p:Nat->Stg K T N Kp f0 XW v0:=λn=>Nat.rec s0 (λ_ s=>nx s) n;have hp: ∀n,p (n+1)=nx (p n):=λ_=>rfl
 have hi: ∀n,(p n).i=n:=λn=>by
  induction n with|zero=>exact hs0|succ n ih=>rw[hp,(hnx (p n)).1,ih]
 have hmono: ∀n k,(p n).v.drawn<=(p (n+k)).v.drawn/\∀j,j<(p n).v.drawn->(p (n+k)).v.tape j=(p n).v.tape j:=λn k=>by
  induction k with
  |zero=>exact⟨Bd _,λ_ _=>rfl⟩|succ k ih=>
   obtain⟨_,h2,h3⟩:=hnx (p (n+k));exact⟨Cj ih.1 h2,λj hj=>(h3 j (Em hj ih.1)).trans (ih.2 j hj)⟩
 have ASk: ∀n m j,j<(p n).v.drawn->j<(p m).v.drawn->(p n).v.tape j=(p m).v.tape j:=λn m j h1 h2=>by
  rcases AD1 n m with h|h
  ·obtain⟨k,rfl⟩:=AIt h;exact ((hmono n k).2 j h1).symm
  obtain⟨k,rfl⟩:=AIt h;exact (hmono m k).2 j h2
 have hall: ∀j,∃q:F7->Nat,∀n,j<(p n).v.drawn->q=(p n).v.tape j:=λj=>by
  by_cases h: ∃n,j<(p n).v.drawn
  ·obtain⟨n,hn⟩:=h;exact⟨(p n).v.tape j,λm hm=>ASk n m j hn hm⟩
  exact⟨λ_=>0,λn hn=>Ak ⟨n,hn⟩ h⟩
 obtain⟨τ,hτ⟩:=fF hall
 obtain⟨n,f',ts',v',hr,hk⟩:=H τ λj hj=>by
  have h1:=(p 0).past;rw[hτ j 0 Aa,h1.2 j hj]
 exact (p n).nok τ (λj hj=>hτ j n hj) n (by rw[hi];exact Bd _) f' ts' v' hr hk
end
def kM (l:List AX):Prop:=∃S x D,l=S++x::D/\∃ch,x.mode=.panicking ch/\Nj ch
theorem kM.head{ch:List NU}(h:f.mode=.panicking ch)(hu:Nj ch):kM (f::ts):=⟨[],f,ts,rfl,ch,h,hu⟩
theorem kM.under(h:kM ts):kM (f::ts):=by
 obtain⟨S,x,D,e,hx⟩:=h;exact⟨f::S,x,D,by rw[e];rfl,hx⟩
def Nk (V:BM) (Kp:AX->List AX->AL->Prop) (s:VS):Prop:=∀s',Jv V Kp s' s->¬kM (s'.f::s'.ts)
theorem Nk.next{s s':VS}(h:Nk V Kp s)(hn:Nx V Kp s' s):Nk V Kp s':=λ_ hm=>h _ (.cons hn hm)
end
open Go.ConcN (sumTo upd sumTo_upd upd_ne upd_same)
section
variable {es:Array Be}{gs:Array Ad}{a:Ad}{d:Nat}{q:Nat->Nat}{Z:Nat->Prop}{sl':Option (Nat×Nat)}{P:BM}{t:CJ}{v0 w w0:AL}
structure Mv (F:Fs) (N:Nat) (ρ ρ':Rn) (v w v' w':AL):Prop where
 le:ρ.le ρ'
 rel:DF F N ρ' v' w'
 sv:v.heap.size<=v'.heap.size
 sw:v'.heap.size+w.heap.size=v.heap.size+w'.heap.size
 new: ∀a b,ρ'.r a b↔ρ.r a b\/(v.heap.size<=a/\a<v'.heap.size/\a+w.heap.size=b+v.heap.size)
 tok:ρ'.c=ρ.c/\ρ'.q=ρ.q
 ZT: ∀a,a<v.heap.size->(∀b,¬ρ.r a b)->v'.heap[a]? =v.heap[a]?
 SC: ∀b,b<w.heap.size->(∀a,¬ρ.r a b)->w'.heap[b]? =w.heap[b]?
 tv:v'.os=v.os/\v'.output=v.output
 tw:w'.tape=w.tape/\w'.os=w.os/\w'.output=w.output
section
variable {F:Fs} {N:Nat} {ρ ρ' nT:Rn} {v w v' w' v'' w'':AL} {u:Array Be}
theorem Mv.refl(h:DF F N ρ v w):Mv F N ρ ρ v w v w:=
 ⟨.refl _,h,Bd _,rfl,λa b=>⟨.inl,λx=>x.elim id λy=>by omega⟩,⟨rfl,rfl⟩,λ_ _ _=>rfl,λ_ _ _=>rfl,⟨rfl,rfl⟩,⟨rfl,rfl,rfl⟩⟩
theorem Stp.mv(h:Stp F N ρ ρ' v w v' w' u):Mv F N ρ ρ' v w v' w':=⟨h.le,h.rel,h.sv,h.sw,h.new,h.tok,h.ZT,h.SC,h.tv.2,h.tw⟩
theorem Mv.trans(h:Mv F N ρ ρ' v w v' w')(k:Mv F N ρ' nT v' w' v'' w''):Mv F N ρ nT v w v'' w'':=by
 refine⟨h.le.trans k.le,k.rel,Cj h.sv k.sv,?_,λa b=>?_,⟨k.tok.1.trans h.tok.1,k.tok.2.trans h.tok.2⟩,λa ha hn=>?_,λb hb hn=>?_,⟨k.tv.1.trans h.tv.1,k.tv.2.trans h.tv.2⟩,⟨k.tw.1.trans h.tw.1,k.tw.2.1.trans h.tw.2.1,k.tw.2.2.trans h.tw.2.2⟩⟩;have:=h.sw;have:=k.sw;omega
 ·rw[k.new,h.new];have h1:=h.sw;have h2:=h.sv;have h3:=k.sv;constructor
  ·rintro ((x|x)|x);exact .inl x;exact .inr Aa;exact .inr Aa
  rintro (x|x);exact .inl (.inl x);by_cases hlt:a<v'.heap.size;exact .inl (.inr Aa);exact .inr Aa
 ·rw[k.ZT a (Em ha h.sv) λb hb=>?_,h.ZT a ha hn];rw[h.new] at hb;rcases hb with hb|hb;exact hn b hb;omega
 have h1:=h.sw;have h2:=h.sv;rw[k.SC b Aa λa ha=>?_,h.SC b hb hn];rw[h.new] at ha;rcases ha with ha|ha;exact hn a ha;omega
theorem Mv.pre(h:Mv F N ρ ρ' v w v' w')(hv:v.heap=v0.heap/\v.os=v0.os/\v.output=v0.output)(hw:w.heap=w0.heap/\w.tape=w0.tape/\w.os=w0.os/\w.output=w0.output):Mv F N ρ ρ' v0 w0 v' w':=by
 obtain⟨h1,h2,h3,h4,h5,h6,h7,h8,h9,h10⟩:=h;rw[hv.1] at h3 h4 h5 h7;rw[hw.1] at h4 h5 h8;rw[hv.2.1,hv.2.2] at h9;rw[hw.2.1,hw.2.2.1,hw.2.2.2] at h10;exact⟨h1,h2,h3,h4,h5,h6,h7,h8,h9,h10⟩
theorem DF.pre(h:DF F N ρ v w)(hv:v.heap=v0.heap/\v.os=v0.os)(hw:w.heap=w0.heap/\w.os=w0.os):DF F N ρ v0 w0:=by
 have h7:=Ut (ρ':=ρ) (w₁:=w0) h.seq (by rw[hw.1];exact Bd _) (λ_ _ _=>by rw[hw.1]) (λ_ _=>.inl) rfl;obtain⟨h1,h2,h3,h4,h5,h6,_⟩:=h;rw[hv.1] at h2 h3 h4;rw[hw.1] at h2 h5;rw[hw.2,hv.2] at h6;exact⟨h1,h2,h3,h4,h5,h6,h7⟩
end
def PG (Z:Nat->Prop):Loc->Prop
 | .cell a=>Z a.block| .obj b=>Z b|_=>False
theorem AGC{ρ:Rn}{B:Nat}(hZ: ∀a b,ρ.r a b->¬Z b/\b<B){e:Be}(h:bC ρ e):EvL (PG Z) B e:=by
 obtain⟨loc,wr,sy⟩:=e
 cases loc with
 |cell a=>
  obtain⟨b,hb⟩:=h;obtain⟨h1,h2⟩:=hZ _ _ hb;refine⟨λx hx hs=>?_,AV,AV,?_⟩
  ·simp only[NV,DL,DR] at hx;subst hx;exact Ak hs h1
  rw[NV];exact h2
 |obj c=>
  obtain⟨⟨b,hb⟩,h3⟩:=h;obtain⟨h1,h2⟩:=hZ _ _ hb;simp only at h3
  have e:CY ⟨.obj c,wr,sy⟩=.access ⟨.obj c,wr,sy⟩:=by
   cases wr<;>cases sy<;>first|rfl|exact Ak ⟨rfl,rfl⟩ h3
  refine⟨λx hx hs=>?_,AV,AV,?_⟩
  ·rw[e] at hx;simp only[DL,DR] at hx;subst hx;exact Ak hs h1
  rw[e];exact h2
 |mark m=>
  cases m with|extern f=>exact⟨λx hx hs=>(by simp[CY,DL] at hx),AV,AV,Ar⟩|noRoom=>exact⟨λx hx hs=>(by simp[CY,DL] at hx),AV,AV,Ar⟩|_=>exact h.elim
 |output=>
  refine⟨λx hx hs=>?_,AV,AV,Ar⟩;simp only[CY,DL,DR] at hx;subst hx;exact hs.elim
 |goroutines=>exact h.elim
structure Sit (P:BM) (Z:Nat->Prop) (gs:Array Ad) (w:AL) (t:CJ) (a:Ad) (q:Nat->Nat):Prop where
 at0:gs[0]? =AA a
 leavers:Leavers P t gs q
 past:Past (PG Z) w.heap.size t
structure Apart (Z:Nat->Prop) (ρ:Rn) (w:AL):Prop where
 r: ∀a b,ρ.r a b->¬Z b
 z: ∀b,Z b->b<w.heap.size
def AGD (K:Kit) (T:Twin) (Kp:AX->List AX->AL->Prop) (cs':List AX) (s:VS) (ρ1:Rn) (v1:AL) (a1:Ad):Prop:=
 (∃f1 Dl f1' G7,Kp f1 Dl v1/\a1=G f1' (G7++cs')/\DI K T ρ1 f1 f1'/\Ce (IX K T ρ1) Dl G7)\/
 (∃X p p' k f1 Dl f1' G7,K.fb X=true/\(K.X X=true/\KT K.fb X p.size=true/\K.F.dk X p/\(K.fb.ch=AA X\/NC K f1))/\k=.normal/\Jv T.v Kp ⟨Bc T.v X p k,f1::Dl,v1⟩ s/\a1=G (Bc T.P X p' k) (f1'::(G7++cs'))/\BB K.F ρ1 p p'/\DI K T ρ1 f1 f1'/\Ce (IX K T ρ1) Dl G7)
theorem ofEvents_g{g:Nat}{fn:Bl}{pos:String}{op:MemOp}(h:op∈Dc g fn pos es):op.g=g:=by
 obtain⟨e,_,rfl⟩:=Kr h;rfl
theorem vY{w':AL}{a':Ad}(h:Sit P Z gs (w.at d) t a q)
  (hs:Af P true a (w.at d)=.go a' w' es) (hw:w.heap.size<=w'.heap.size) (he: ∀e∈es,EvL (PG Z) w'.heap.size e):
  runT P (crowd gs (w.at d) sl') 0=(.next (crowd ((gs.map (woken P a a' w')).setIfInBounds 0 a') w' sl'),Dc 0 a.frame.fn a.frame.place es)/\
  ((gs.map (woken P a a' w')).setIfInBounds 0 a').size=gs.size/\Sit P Z ((gs.map (woken P a a' w')).setIfInBounds 0 a') w' (t++Dc 0 a.frame.fn a.frame.place es) a' q:=by
 refine⟨Yk (P:=P) (sl:=sl') (i:=0) h.at0 (show Af P (0==0) a (w.at d)=_ from hs),AV,?_,?_,?_⟩
 ·have hlt:0<gs.size:=(Dj.1 h.at0).1;simp[hlt]
 ·refine⟨λj x hj hx=>?_,λj hj=>?_⟩
  ·(have hne:0≠j:=by omega);rw[Dz hne,Kw] at hx;obtain⟨y,hy,rfl⟩:=J8.1 hx;have hq:=h.leavers.old j y hj hy;rw[QF hq,MF t Aa _ (λop hop=>ofEvents_g hop)];exact hq
  have hlt:0<gs.size:=(Dj.1 h.at0).1;rw[MF t (g':=0) (by simp at hj;omega) _ (λop hop=>ofEvents_g hop)];exact h.leavers.above j (by simpa using hj)
 exact (h.past.mono (by exact hw)).own he
theorem ABn{g:Ad}{i:Nat}(h:Sit P Z gs w t a q)(ha:a.status=.running)(hpos:0<i)(hi:gs[i]? =AA g)(hg:g.status=.running):
  ∃k g' es,q i=k+1/\runT P (crowd gs (w.at d) sl') i=(.next (crowd ((gs.map (woken P g g' (w.at d))).setIfInBounds i g') (w.at d) sl'),Dc i g.frame.fn g.frame.place es)/\
   ((gs.map (woken P g g' (w.at d))).setIfInBounds i g').size=gs.size/\Sit P Z ((gs.map (woken P g g' (w.at d))).setIfInBounds i g') (w.at d) (t++Dc i g.frame.fn g.frame.place es) a (upd q i k)/\
   D5 gs.size (upd q i k)<D5 gs.size q:=by
 have hq:=h.leavers.old i g hpos hi;(have hi0:(i==0)=false:=by simp;omega);have hlt:i<gs.size:=(Dj.1 hi).1
 cases hqi:q i with
 |zero=>rw[hqi] at hq;rw[hq.1] at hg;cases hg|succ k=>
  rw[hqi] at hq;rcases hq with ⟨hf,_⟩|⟨_,g',es,hm,hstp,hq'⟩;rw[hf] at hg;cases hg;refine⟨k,g',es,rfl,Yk (P:=P) (sl:=sl') (i:=i) hi (by rw[hi0];exact hstp (w.at d)),AV,⟨?_,⟨λj x hj hx=>?_,λj hj=>?_⟩,h.past.mute Aa hm⟩,?_⟩
  ·(have hne:i≠0:=by omega);rw[Dz hne,Kw,h.at0];simp[MG ha]
  ·by_cases hji:i=j
   ·subst hji;rw[Wv (by simpa using hlt)] at hx;obtain rfl:=EF hx;rw[upd_same,Deaf_own];exact hq'
   rw[Dz hji,Kw] at hx;obtain⟨y,hy,rfl⟩:=J8.1 hx;have hqj:=h.leavers.old j y hj hy;rw[QF hqj,upd_ne q k (H8 hji),MF t hji _ (λop hop=>ofEvents_g hop)];exact hqj
  ·rw[MF t (g':=i) (by simp at hj;omega) _ (λop hop=>ofEvents_g hop)];exact h.leavers.above j (by simpa using hj)
  have hsum:D5 gs.size (upd q i k)+(k+1)=D5 gs.size q+k:=by
   have:=sumTo_upd q k id hlt;simpa[hqi] using this
  omega
theorem AHV(h:Sit P Z gs w t a q)(ha:a.status=.running)(sl:Option (Nat×Nat)):
  ∃i g d sl',gs[i]? =AA g/\g.status=.running/\stepT P (crowd gs w sl)=runT P (crowd gs (w.at d) sl') i:=by
 refine crowd_pick (P:=P) (w:=w) (sl:=sl) (λg hg=>?_) ⟨0,a,h.at0,ha⟩;obtain⟨i,hi,rfl⟩:=nN.1 hg;rcases O7 i with rfl|hpos
 ·have h0:=h.at0;(have:gs[0]=a:=by simpa[FZ hi] using h0);rw[this];exact awake_of (.inl ha)
 exact awake_of ((h.leavers.old i _ hpos (FZ hi)).status.elim .inl λx=>.inr (.inr x))
theorem lift{K:Kit}{T:Twin}{N:Nat}{Kp:AX->List AX->AL->Prop}(hK:Fits K T N)(hzz: ∀p k f1 Dl v,p.size<=K.fb.m+2->¬Ev T.v Kp (Bc T.v K.z p k) (f1::Dl) v){f:AX}{ts:List AX}{v:AL}(hev:Ev T.v Kp f ts v):
  Nk T.v Kp ⟨f,ts,v⟩->∀{ρ:Rn} {f':AX} {ts' cs':List AX} {w:AL} {gs:Array Ad} {sl:Option (Nat×Nat)} {t:CJ} {q:Nat->Nat},DI K T ρ f f'->Ce (IX K T ρ) ts ts'->DF K.F N ρ v w->(∀g,g<K.G->ρ.r g g)->Apart Z ρ w->
   Sit T.P Z gs w t (G f' (ts'++cs')) q->
   ∃n gs1 w1 sl1 t1 q1 a1 ρ1 v1,D7 T.P n (crowd gs w sl) t=(.next (crowd gs1 w1 sl1),t1)/\gs1.size=gs.size/\Sit T.P Z gs1 w1 t1 a1 q1/\Mv K.F N ρ ρ1 v w v1 w1/\AGD K T Kp cs' ⟨f,ts,v⟩ ρ1 v1 a1:=by
 induction hev with
 | @stop f ts v hk=>
  intro _ ρ f' ts' cs' w gs sl t q hf hts hW hG hA hS;exact⟨0,gs,w,sl,t,q,_,ρ,v,rfl,rfl,hS,.refl hW,.inl ⟨f,ts,f',ts',hk,rfl,hf,hts⟩⟩
 | @step f ts v Fx Sx Wx hstep hev ih=>
  intro PH ρ f' ts' cs' w gs sl t q;by_cases hkp:Kp f ts v
  ·intro hf hts hW hG hA hS;exact⟨0,gs,w,sl,t,q,_,ρ,v,rfl,rfl,hS,.refl hW,.inl ⟨f,ts,f',ts',hkp,rfl,hf,hts⟩⟩
  have key: ∀(M:Nat) (w:AL) (gs:Array Ad) (sl:Option (Nat×Nat)) (t:CJ) (q:Nat->Nat),D5 gs.size q=M->DI K T ρ f f'->Ce (IX K T ρ) ts ts'->DF K.F N ρ v w->(∀g,g<K.G->ρ.r g g)->Apart Z ρ w->
    Sit T.P Z gs w t (G f' (ts'++cs')) q->
    ∃n gs1 w1 sl1 t1 q1 a1 ρ1 v1,D7 T.P n (crowd gs w sl) t=(.next (crowd gs1 w1 sl1),t1)/\gs1.size=gs.size/\Sit T.P Z gs1 w1 t1 a1 q1/\Mv K.F N ρ ρ1 v w v1 w1/\AGD K T Kp cs' ⟨f,ts,v⟩ ρ1 v1 a1:=by
   intro M
   induction M using eX with
   |_ M ihM=>
    intro w gs sl t q hM hf hts hW hG hA hS;obtain⟨i,g,d,sl',hi,hg,hst⟩:=AHV hS (by rfl) sl;rcases O7 i with rfl|hpos
    ·
     (have hg0:g=G f' (ts'++cs'):=by have:=hS.at0;rw[this] at hi;exact (EF hi).symm);subst hg0;have hSd:Sit T.P Z gs (w.at d) t (G f' (ts'++cs')) q:=⟨hS.at0,hS.leavers,hS.past⟩;have hWd: ∀τ:Nat->F7->Nat,DF K.F N ρ (v.DN τ) (w.at d):=λτ=>hW.pre ⟨rfl,rfl⟩ ⟨rfl,rfl⟩;(let τ:Nat->F7->Nat:=λj=>if j<v.drawn then v.tape j else w.tape (d+(j - v.drawn)));(have hτ: ∀j,j<v.drawn->τ j=v.tape j:=λj hj=>by simp only[τ,hj,if_true]);obtain⟨es,hs⟩:=hstep τ hτ
     have ABo:=Ux (mn:=true) (dr:=door T.v) (ds:=[]) (cs':=cs') hK (hWd τ) hG hf hts (λg1 v1 es _ i _ q=>by
      show τ (v.drawn+i) q=w.tape (d+i) q;(have h1: ¬v.drawn+i<v.drawn:=by omega);simp only[τ,h1,if_false]
      congr 2;omega)
     rw[hs] at ABo;rcases ABo with ⟨f1,Dl,f1',G7,ρ1,w1,es',h1,h2,h3,h4,h5⟩|⟨X,p,p',k,f1,Dl,f1',G7,ρ1,w1,es',hX,hX',h1,h2,h3,h4,h5,h6,hk⟩|⟨c,h1,_⟩|⟨_,_,f1,Dl,h1,ch,hm1,hu1⟩|⟨p,k,f1,Dl,_,hp,_,h1⟩
     ·simp only[G,Gm] at h1;obtain⟨r1,r2,_⟩:=h1;have r2:=Nc r2;(have hsz:w.heap.size<=w1.heap.size:=by have a1:=h5.sv;have a2:=h5.sw;have e1:(v.DN τ).heap.size=v.heap.size:=rfl;have e2:(w.at d).heap.size=w.heap.size:=rfl;omega);have hmv:Mv K.F N ρ ρ1 v w (Wx τ) w1:=h5.mv.pre ⟨rfl,rfl,rfl⟩ ⟨rfl,rfl,rfl,rfl⟩
      have hr1: ∀a b,ρ1.r a b->¬Z b/\b<w1.heap.size:=λa b hab=>⟨λhz=>by
       rcases (hmv.new a b).1 hab with h|h;exact hA.r _ _ h hz
       have:=hA.z _ hz;have:=hmv.sw;omega,(h5.rel.dom hab).2⟩
      obtain⟨hr,hz,hS'⟩:=vY (sl':=sl') hSd h2 hsz (λe he=>AGC hr1 (h5.evs e he));have hA':Apart Z ρ1 w1:=⟨λa b h=>(hr1 a b h).1,λb hb=>Em (hA.z b hb) hsz⟩;obtain⟨n,gs1,w2,sl1,t1,q1,a1,ρ2,v2,g1,g2,g3,g4,g5⟩:=ih τ hτ (PH.next ⟨hkp,τ,hτ,_,hs⟩) (sl:=sl') (by rw[r1];exact h3) (by rw[r2];exact h4) h5.rel (λg hg=>h5.le.r _ _ (hG g hg)) hA' hS';have hnx:Nx T.v Kp ⟨Fx τ,Sx τ,Wx τ⟩ ⟨f,ts,v⟩:=⟨hkp,τ,hτ,_,hs⟩;refine⟨n+1,gs1,w2,sl1,t1,q1,a1,ρ2,v2,by simp only[D7,hst,hr];exact g1,g2.trans hz,g3,hmv.trans g4,?_⟩;rcases g5 with g5|⟨X,p,p',k,f1,Dl,f1',G7,u1,u2,u3,u4,u5⟩;exact .inl g5;exact .inr ⟨X,p,p',k,f1,Dl,f1',G7,u1,u2,u3,.cons hnx u4,u5⟩
     ·simp only[G,Gm] at h1;obtain⟨r1,r2,_⟩:=h1;rw[<- Dn] at r2;have r2:=Nc r2;(have hsz:w.heap.size<=w1.heap.size:=by have a1:=h6.sv;have a2:=h6.sw;have e1:(v.DN τ).heap.size=v.heap.size:=rfl;have e2:(w.at d).heap.size=w.heap.size:=rfl;omega);have hmv:Mv K.F N ρ ρ1 v w (Wx τ) w1:=h6.mv.pre ⟨rfl,rfl,rfl⟩ ⟨rfl,rfl,rfl,rfl⟩
      have hr1: ∀a b,ρ1.r a b->¬Z b/\b<w1.heap.size:=λa b hab=>⟨λhz=>by
       rcases (hmv.new a b).1 hab with h|h;exact hA.r _ _ h hz
       have:=hA.z _ hz;have:=hmv.sw;omega,(h6.rel.dom hab).2⟩
      obtain⟨hr,hz,hS'⟩:=vY (sl':=sl') hSd h2 hsz (λe he=>AGC hr1 (h6.evs e he));refine⟨1,_,w1,sl',_,q,_,ρ1,Wx τ,by simp only[D7,hst,hr],hz,hS',hmv,.inr ⟨X,p,p',k,f1,Dl,f1',G7,hX,hX',hk,.one ⟨hkp,τ,hτ,es,?_⟩,rfl,h3,h4,h5⟩⟩;show Af T.v true (G f (ts++[door T.v])) (v.DN τ)=_;rw[hs,r1,r2]
     ·simp only[G,Gm] at h1;have:=h1.2.1;simp at this
     ·exfalso;simp only[G,Gm] at h1;obtain⟨r1,r2,_⟩:=h1;subst r1;exact PH ⟨Fx τ,Sx τ,Wx τ⟩ (.one ⟨hkp,τ,hτ,_,hs⟩) (.head hm1 hu1)
     exfalso;simp only[G,Gm] at h1;obtain⟨r1,r2,_⟩:=h1;rw[<- Dn] at r2;have r2:=Nc r2;have:=hev τ hτ;rw[r1,r2] at this;exact hzz _ _ _ _ _ hp this
    obtain⟨k,g',es,hq,hr,hz,hS',hlt⟩:=ABn (d:=d) (sl':=sl') hS (by rfl) hpos hi hg;obtain⟨n,gs1,w2,sl1,t1,q1,a1,ρ2,v2,g1,g2,g3,g4,g5⟩:=ihM _ (by rw[hz,<- hM];exact hlt) (w.at d) _ sl' _ _ rfl hf hts (hW.pre ⟨rfl,rfl⟩ ⟨rfl,rfl⟩) hG ⟨hA.r,hA.z⟩ hS';exact⟨n+1,gs1,w2,sl1,t1,q1,a1,ρ2,v2,by simp only[D7,hst,hr];exact g1,g2.trans hz,g3,g4.pre ⟨rfl,rfl,rfl⟩ ⟨rfl,rfl,rfl,rfl⟩,g5⟩
  intro hf hts hW hG hA hS;exact key _ w gs sl t q rfl hf hts hW hG hA hS
end
section
variable {g i:Nat}{SI:Nat->Prop}
def _root_.Go.Loc.blk:Loc->Option Nat
 | .cell a=>AA a.block| .obj b=>AA b|_=>AB
theorem AI2{l:Loc}(h:l.isMemory=true): ∃b,l.blk=AA b:=by
 cases l<;>first|exact⟨_,rfl⟩|cases h
structure TI (j:Nat) (SY SR OW Z:Nat->Prop) (t:CJ):Prop where
 clean: ∀said,¬Race said t
 ow: ∀i x b,Il t i=AA x->x.loc.blk=AA b->OW b->Knows t j i
 sr: ∀i x b,Il t i=AA x->x.loc.blk=AA b->SR b->x.write=true->Knows t 0 i/\Knows t j i
 sy: ∀i x b,Il t i=AA x->x.loc.blk=AA b->SY b->(x.kind≠ .plain/\(x.kind=.said->t.g? i=AA 0))\/(Knows t 0 i/\Knows t j i)
 main: ∀i x b,Il t i=AA x->x.loc.blk=AA b->¬OW b->¬SR b->¬SY b->¬Z b->Knows t 0 i
 all: ∀i x,Il t i=AA x->x.loc.isMemory=true->Knows t 0 i\/t.g? i=AA j\/(PG Z x.loc/\x.kind=.atomic)
def Ok0 (SY SR OW Z:Nat->Prop) (x:Touch):Prop:=
 ∀b,x.loc.blk=AA b->(¬OW b/\¬SR b/\¬SY b/\¬Z b)\/(SR b/\¬OW b/\¬SY b/\x.write=false)\/(SY b/\¬OW b/\¬SR b/\x.kind≠ .plain)
def OkJ (SY SR OW:Nat->Prop) (x:Touch):Prop:=
 ∃b,x.loc.blk=AA b/\((OW b/\¬SR b/\¬SY b)\/(SR b/\¬OW b/\¬SY b/\x.write=false)\/(SY b/\¬OW b/\¬SR b/\x.kind=.atomic))
section
variable {j:Nat} {SY SR OW Z:Nat->Prop} {t u:CJ}
theorem g?_of{op:MemOp}(h:t[i]? =AA op):t.g? i=AA op.g:=by simp[Trace.g?,h]
theorem ABp(h:t.g? i=AA g):Knows t g i:=by
 unfold Trace.g? at h;obtain⟨z,hz,rfl⟩:=J8.1 h;exact knows_own hz
theorem FO{x:Touch}(h:Il (t++u) i=AA x):(i<t.size/\Il t i=AA x)\/∃op∈u,(t++u)[i]? =AA op/\op.act.touch? =AA x:=by
 obtain⟨op,hop,hx⟩:=touch_of h;rcases Yl hop with ⟨hi,h'⟩|⟨_,hu⟩
 ·exact .inl ⟨hi,by rw[touchAt_of h'];exact hx⟩
 exact .inr ⟨op,hu,hop,hx⟩
theorem TI.app0(h:TI j SY SR OW Z t)(hu: ∀op∈u,op.g=0)(hx: ∀op∈u,∀x,op.act.touch? =AA x->Ok0 SY SR OW Z x):TI j SY SR OW Z (t++u):=by
 have own: ∀{i:Nat} {op:MemOp},op∈u->(t++u)[i]? =AA op->Knows (t++u) 0 i:=λ{i op} h1 h2=>by
  have:=knows_own h2;rwa[hu op h1] at this
 refine⟨λsaid=>noRace_append (h.clean said) hu λi a ha op hop b hb hc=>?_,λi x b ht hb ho=>?_,λi x b ht hb ho hw=>?_,λi x b ht hb ho=>?_,λi x b ht hb h1 h2 h3 h4=>?_,λi x ht hm=>?_⟩
 ·obtain⟨hl,hm,hw,hk⟩:=hc;obtain⟨bb,hbb⟩:=AI2 hm;rcases hx op hop b hb bb (by rw[<- hl];exact hbb) with ⟨h1,h2,h3,h4⟩|⟨h1,_,_,h2⟩|⟨h1,_,_,h2⟩;exact h.main i a bb ha hbb h1 h2 h3 h4;rw[h2] at hw;simp at hw;exact (h.sr i a bb ha hbb h1 hw).1;rcases h.sy i a bb ha hbb h1 with ⟨h3,h4⟩|h5;rotate_left;exact h5.1;rcases hk with hk|hk|⟨_,hk,_⟩;exact Ak hk h3;exact Ak hk h2;exact ABp (h4 hk)
 ·rcases FO ht with ⟨_,h'⟩|⟨op,hop,hg,hop'⟩
  ·exact (h.ow i x b h' hb ho).app u
  rcases hx op hop x hop' b hb with ⟨h1,_⟩|⟨_,h1,_⟩|⟨_,h1,_⟩<;>exact Ak ho h1
 ·rcases FO ht with ⟨_,h'⟩|⟨op,hop,hg,hop'⟩
  ·exact⟨(h.sr i x b h' hb ho hw).1.app u,(h.sr i x b h' hb ho hw).2.app u⟩
  rcases hx op hop x hop' b hb with ⟨_,h1,_⟩|⟨_,_,_,h1⟩|⟨_,_,h1,_⟩;exact Ak ho h1;rw[hw] at h1;cases h1;exact Ak ho h1
 ·rcases FO ht with ⟨hi,h'⟩|⟨op,hop,hg,hop'⟩
  ·rw[g?_old hi];exact (h.sy i x b h' hb ho).imp id λy=>⟨y.1.app u,y.2.app u⟩
  rcases hx op hop x hop' b hb with ⟨_,_,h1,_⟩|⟨_,_,h1,_⟩|⟨_,_,_,h1⟩;exact Ak ho h1;exact Ak ho h1;exact .inl ⟨h1,λ_=>by rw[g?_of hg,hu op hop]⟩
 ·rcases FO ht with ⟨_,h'⟩|⟨op,hop,hg,hop'⟩
  ·exact (h.main i x b h' hb h1 h2 h3 h4).app u
  exact own hop hg
 rcases FO ht with ⟨hi,h'⟩|⟨op,hop,hg,hop'⟩
 ·rw[g?_old hi];exact (h.all i x h' hm).imp (·.app u) id
 exact .inl (own hop hg)
theorem TI.appJ(h:TI j SY SR OW Z t)(hu: ∀op∈u,op.g=j)(hx: ∀op∈u,∀x,op.act.touch? =AA x->x.loc.isMemory=true->OkJ SY SR OW x)(_: ∀b,OW b->¬Z b):TI j SY SR OW Z (t++u):=by
 have own: ∀{i:Nat} {op:MemOp},op∈u->(t++u)[i]? =AA op->Knows (t++u) j i:=λ{i op} h1 h2=>by
  have:=knows_own h2;rwa[hu op h1] at this
 have AES: ∀{x:Touch} {b:Nat},x.loc.blk=AA b->x.loc.isMemory=true:=λ{x b} hb=>by
  cases hl:x.loc<;>rw[hl] at hb<;>first|rfl|cases hb
 refine⟨λsaid=>noRace_append (h.clean said) hu λi a ha op hop b hb hc=>?_,λi x b ht hb ho=>?_,λi x b ht hb ho hw=>?_,λi x b ht hb ho=>?_,λi x b ht hb h1 h2 h3 h4=>?_,λi x ht hm=>?_⟩
 ·obtain⟨hl,hm,hw,hk⟩:=hc;obtain⟨bb,hbb,hcase⟩:=hx op hop b hb (by rw[<- hl];exact hm);rw[<- hl] at hbb;rcases hcase with ⟨h1,h2,h3⟩|⟨h1,_,_,h2⟩|⟨h1,_,_,h2⟩;exact h.ow i a bb ha hbb h1;rw[h2] at hw;simp at hw;exact (h.sr i a bb ha hbb h1 hw).2;rcases h.sy i a bb ha hbb h1 with ⟨h3,h4⟩|h5;rotate_left;exact h5.2;rcases hk with hk|hk|⟨_,_,hk⟩;exact Ak hk h3;rw[h2] at hk;cases hk;rw[h2] at hk;cases hk
 ·rcases FO ht with ⟨_,h'⟩|⟨op,hop,hg,hop'⟩
  ·exact (h.ow i x b h' hb ho).app u
  exact own hop hg
 ·rcases FO ht with ⟨_,h'⟩|⟨op,hop,hg,hop'⟩
  ·exact⟨(h.sr i x b h' hb ho hw).1.app u,(h.sr i x b h' hb ho hw).2.app u⟩
  obtain⟨bb,hbb,hcase⟩:=hx op hop x hop' (AES hb);rw[hb] at hbb;cases hbb;rcases hcase with ⟨_,h1,_⟩|⟨_,_,_,h1⟩|⟨_,_,h1,_⟩;exact Ak ho h1;rw[hw] at h1;cases h1;exact Ak ho h1
 ·rcases FO ht with ⟨hi,h'⟩|⟨op,hop,hg,hop'⟩
  ·rw[g?_old hi];exact (h.sy i x b h' hb ho).imp id λy=>⟨y.1.app u,y.2.app u⟩
  obtain⟨bb,hbb,hcase⟩:=hx op hop x hop' (AES hb);rw[hb] at hbb;cases hbb;rcases hcase with ⟨_,_,h1⟩|⟨_,_,h1,_⟩|⟨_,_,_,h1⟩;exact Ak ho h1;exact Ak ho h1;rw[h1];exact .inl ⟨AV,AV⟩
 ·rcases FO ht with ⟨_,h'⟩|⟨op,hop,hg,hop'⟩
  ·exact (h.main i x b h' hb h1 h2 h3 h4).app u
  obtain⟨bb,hbb,hcase⟩:=hx op hop x hop' (AES hb);rw[hb] at hbb;cases hbb;rcases hcase with ⟨q,_⟩|⟨q,_⟩|⟨q,_⟩;exact Ak q h1;exact Ak q h2;exact Ak q h3
 rcases FO ht with ⟨hi,h'⟩|⟨op,hop,hg,hop'⟩
 ·rw[g?_old hi];exact (h.all i x h' hm).imp (·.app u) id
 exact .inr (.inl (by rw[g?_of hg,hu op hop]))
theorem TI.mute(h:TI j SY SR OW Z t)(hu: ∀op∈u,op.g=g)(hn: ∀op∈u,op.act.touch? =AB):TI j SY SR OW Z (t++u):=by
 have old: ∀{i:Nat} {x:Touch},Il (t++u) i=AA x->i<t.size/\Il t i=AA x:=λ{i x} ht=>by
  rcases FO ht with h'|⟨op,hop,_,hop'⟩
  ·exact h'
  rw[hn op hop] at hop';cases hop'
 refine⟨λsaid=>noRace_append (h.clean said) hu λi a ha op hop b hb hc=>(by rw[hn op hop] at hb;cases hb),λi x b ht hb ho=>(h.ow i x b (old ht).2 hb ho).app u,λi x b ht hb ho hw=>?_,λi x b ht hb ho=>?_,λi x b ht hb h1 h2 h3 h4=>(h.main i x b (old ht).2 hb h1 h2 h3 h4).app u,λi x ht hm=>?_⟩;have:=h.sr i x b (old ht).2 hb ho hw;exact⟨this.1.app u,this.2.app u⟩;rw[g?_old (old ht).1];exact (h.sy i x b (old ht).2 hb ho).imp id λy=>⟨y.1.app u,y.2.app u⟩;rw[g?_old (old ht).1];exact (h.all i x (old ht).2 hm).imp (·.app u) id
theorem TI.pass(h:TI j SY SR OW Z t)(hk: ∀i x b,Il t i=AA x->x.loc.blk=AA b->OW b->Knows t 0 i)(hs: ∀b,SI b->OW b):TI j SY SR SI Z t:=
 ⟨h.clean,λi x b ht hb ho=>h.ow i x b ht hb (hs b ho),h.sr,h.sy,λi x b ht hb _ h2 h3 h4=>by
  by_cases ho:OW b;exact hk i x b ht hb ho
  exact h.main i x b ht hb ho h2 h3 h4,h.all⟩
theorem TI.new{B:Nat}(h:TI j SY SR OW Z t)(hl: ∀op∈t,op.act.low B)(hs: ∀b,SI b↔OW b\/(B<=b/\SI b)):TI j SY SR SI Z t:=by
 have low: ∀{i:Nat} {x:Touch} {b:Nat},Il t i=AA x->x.loc.blk=AA b->b<B:=λ{i x b} ht hb=>by
  obtain⟨op,hop,hx⟩:=touch_of ht;have h1:=hl op (mem_of_getElem? hop)
  cases ha:op.act with
  |access e=>
   rw[ha] at h1 hx;simp only[DL,DR] at hx;subst hx;obtain⟨l,w,s⟩:=e;cases l<;>simp_all [Loc.blk,MemAct.low,Loc.low]
  |mark m=>
   rw[ha] at h1 hx;(cases m<;>simp[DL] at hx);subst hx;simp only[Loc.blk,DR] at hb;subst hb;exact h1;subst hx;simp only[Loc.blk,DR] at hb;subst hb;exact h1
  |_=>rw[ha] at hx;simp[DL] at hx
 refine⟨h.clean,λi x b ht hb ho=>?_,h.sr,h.sy,λi x b ht hb h1=>h.main i x b ht hb λho=>h1 ((hs b).2 (.inl ho)),h.all⟩;rcases (hs b).1 ho with h1|h1;exact h.ow i x b ht hb h1;have:=low ht hb;omega
end
end
def EO (bc bs:Nat) (v z1 z2:AQ):Array CommCase:=#[scase bc v z1,rcase bs z2]
section
variable {P:BM} {gs:Array Ad} {w w₁:AL} {sl:Option (Nat×Nat)} {i j:Nat} {g g₂ gj:Ad} {es:Array Be} {shj:CommShape}
 {bc bs s r s2 r2:Nat} {v z z1 z2:AQ} {tm:Bool}
theorem oK(h:bc≠bs)(g:Ad)(sh:CommShape):offersAt (parked g (EO bc bs v z1 z2) sh) bc true=[0]/\offersAt (parked g (EO bc bs v z1 z2) sh) bc false=[]/\offersAt (parked g (EO bc bs v z1 z2) sh) bs true=[]:=by
 refine⟨?_,?_,?_⟩<;>simp[offersAt,parked,EO,scase,rcase,h,H8 h]
theorem AET(_:bc≠bs)(hi:gs[i]? =AA g)(h:Af P (i==0) g w=.comm g₂ (EO bc bs v z1 z2) true .select w₁ es)(hc:w₁.heap[bc]? =AA (.chan 0 #[] false s r tm))(hs:w₁.heap[bs]? =AA (.chan 0 #[] false s2 r2 tm))
  (hij:j≠i) (hj:gs[j]? =AA (parked gj #[rcase bc z] shj)) (hp:partners (gs.setIfInBounds i ph) bc false=[(j,0)]) (hp2:partners (gs.setIfInBounds i ph) bs true=[]):
  runT P (crowd gs w sl) i=(.next (crowd ((gs.setIfInBounds j (gj.finishComm P #[rcase bc z] shj 0 v true)).setIfInBounds i (g₂.finishComm P (EO bc bs v z1 z2) .select 0 AU false)) (w₁.setChan bc 0 #[] false (s+1) (r+1) tm) sl),
   Dc i g.frame.fn g.frame.place es++ #[{g:=i,fn:=g₂.frame.fn,pos:=g₂.frame.place,act:=.send bc s},{g:=j,fn:=gj.frame.fn,pos:=gj.frame.place,act:=.recv bc r 0},
    {g:=i,fn:=g₂.frame.fn,pos:=g₂.frame.place,act:=.sendDone bc s},{g:=j,fn:=gj.frame.fn,pos:=gj.frame.place,act:=.recvDone bc r}]):=by
 rw[runT_crowd_comm hi h];have hj':=stand_get (i:=i) hij hj;have hfp:=finishPartner_at P (gs.setIfInBounds i ph) hj' (cs:=#[rcase bc z]) (sh:=shj) rfl 0 v;(have hgd:(gs.setIfInBounds i ph).getD j default=parked gj #[rcase bc z] shj:=by rw[Qz,hj'];rfl);simp[communicate,ways,EO,scase,rcase,hc,hs,hp,hp2,choose,Dw,Question.forced,bind,JZ,pure,Ym,crowd,set_stand2,parked] at hfp hgd⊢;simp[hfp,hgd,set_stand2];rfl
theorem kP(_:bc≠bs)(hi:gs[i]? =AA g)(h:Af P (i==0) g w=.comm g₂ #[rcase bc z] true (.recv true) w₁ es)(hc:w₁.heap[bc]? =AA (.chan 0 #[] false s r tm))
  (hij:j≠i) (hj:gs[j]? =AA (parked gj (EO bc bs v z1 z2) .select)) (hp:partners (gs.setIfInBounds i ph) bc true=[(j,0)]):
  runT P (crowd gs w sl) i=(.next (crowd ((gs.setIfInBounds j (gj.finishComm P (EO bc bs v z1 z2) .select 0 AU false)).setIfInBounds i (g₂.finishComm P #[rcase bc z] (.recv true) 0 v true)) (w₁.setChan bc 0 #[] false (s+1) (r+1) tm) sl),
   Dc i g.frame.fn g.frame.place es++ #[{g:=j,fn:=gj.frame.fn,pos:=gj.frame.place,act:=.send bc s},{g:=i,fn:=g₂.frame.fn,pos:=g₂.frame.place,act:=.recv bc r 0},
    {g:=j,fn:=gj.frame.fn,pos:=gj.frame.place,act:=.sendDone bc s},{g:=i,fn:=g₂.frame.fn,pos:=g₂.frame.place,act:=.recvDone bc r}]):=by
 rw[runT_crowd_comm hi h];have hj':=stand_get (i:=i) hij hj;have hfp:=finishPartner_at P (gs.setIfInBounds i ph) hj' (cs:=EO bc bs v z1 z2) (sh:=.select) rfl 0 AU;(have hgd:(gs.setIfInBounds i ph).getD j default=parked gj (EO bc bs v z1 z2) .select:=by rw[Qz,hj'];rfl);(have hov:offeredValue (gs.setIfInBounds i ph) j 0=v:=by simp[offeredValue,hj',parked,EO,scase]);simp[communicate,ways,EO,scase,rcase,hc,hp,choose,Dw,Question.forced,bind,JZ,pure,Ym,crowd,set_stand2,parked] at hfp hgd hov⊢;simp[hfp,hgd,hov,set_stand2];rfl
theorem zY(_:bc≠bs)(hi:gs[i]? =AA g)(h:Af P (i==0) g w=.comm g₂ (EO bc bs v z1 z2) true .select w₁ es)(hc:w₁.heap[bc]? =AA (.chan 0 #[] false s r tm))(hs:w₁.heap[bs]? =AA (.chan 0 #[] true s2 r2 tm))
  (hp:partners (gs.setIfInBounds i ph) bc false=[]) (hp2:partners (gs.setIfInBounds i ph) bs true=[]):
  runT P (crowd gs w sl) i=(.next (crowd (gs.setIfInBounds i (g₂.finishComm P (EO bc bs v z1 z2) .select 1 z2 false)) w₁ sl),
   Dc i g.frame.fn g.frame.place es++ #[{g:=i,fn:=g₂.frame.fn,pos:=g₂.frame.place,act:=.recvClosed bs}]):=by
 rw[runT_crowd_comm hi h];simp[communicate,ways,EO,scase,rcase,hc,hs,hp,hp2,choose,Dw,Question.forced,bind,JZ,pure,crowd]
theorem AEU(_:bc≠bs)(hi:gs[i]? =AA g)(h:Af P (i==0) g w=.comm g₂ (EO bc bs v z1 z2) true .select w₁ es)(hc:w₁.heap[bc]? =AA (.chan 0 #[] false s r tm))(hs:w₁.heap[bs]? =AA (.chan 0 #[] false s2 r2 tm))
  (hp:partners (gs.setIfInBounds i ph) bc false=[]) (hp2:partners (gs.setIfInBounds i ph) bs true=[]):
  runT P (crowd gs w sl) i=(.next (crowd (gs.setIfInBounds i (parked g₂ (EO bc bs v z1 z2) .select)) w₁ sl),Dc i g.frame.fn g.frame.place es):=by
 refine crowd_waits hi h λcc hcc=>?_;simp only[EO,IW,BF,BH,or_false] at hcc;rcases hcc with rfl|rfl;exact⟨made_send v z1 hc,by simp[ways,scase,hc,hp]⟩;exact⟨made_recv z2 hs,by simp[ways,rcase,hs,hp2]⟩
theorem ABq(hi:gs[i]? =AA g)(h:Af P (i==0) g w=.comm g₂ #[rcase bc z] true (.recv true) w₁ es)(hc:w₁.heap[bc]? =AA (.chan 0 #[] false s r tm))(hp:partners (gs.setIfInBounds i ph) bc true=[]):
  runT P (crowd gs w sl) i=(.next (crowd (gs.setIfInBounds i (parked g₂ #[rcase bc z] (.recv true))) w₁ sl),Dc i g.frame.fn g.frame.place es):=by
 refine crowd_waits hi h λcc hcc=>?_;simp only[IW,BF,BH,or_false] at hcc;subst hcc;exact⟨made_recv z hc,by simp[ways,rcase,hc,hp]⟩
theorem kQ(hc:w.heap[bc]? =AA (.chan 0 #[] false s r tm))(hs:w.heap[bs]? =AA (.chan 0 #[] false s2 r2 tm))(sh:CommShape):(parked g (EO bc bs v z1 z2) sh).again w=parked g (EO bc bs v z1 z2) sh:=by
 simp[Goroutine.again,parked,EO,scase,rcase,hc,hs]
theorem kR(hc:w.heap[bc]? =AA (.chan 0 #[] false s r tm))(hs:w.heap[bs]? =AA (.chan 0 #[] true s2 r2 tm))(sh:CommShape):(parked g (EO bc bs v z1 z2) sh).again w={parked g (EO bc bs v z1 z2) sh with status:=.running}:=by
 simp[Goroutine.again,parked,EO,scase,rcase,hc,hs]
end
structure Own (SR:Nat->Prop) where
 O:Nat->Prop
 I:AL->Prop
 st: ∀w w1:AL,I w->(∀b,O b\/SR b->w1.heap[b]? =w.heap[b]?)->w.heap.size<=w1.heap.size->w1.tape=w.tape->w1.os=w.os->I w1
structure Cx where
 P:BM
 j:Nat
 bc:Nat
 bs:Nat
 wg:Nat
 ty:TypeId
 N:Nat
 Cs:Nat->AQ->Nat->Obj->Prop
 SR:Nat->Prop
 Z:Nat->Prop
 w0:AL
 T0:Nat->Prop
 FW:Own SR->Prop
def Cx.SY (C:Cx) (b:Nat):Prop:=b=C.wg\/b=C.bc\/b=C.bs
def GK (wg:Nat):Addr:=⟨wg,0,AB⟩
def OX (wg:Nat):Addr:=⟨wg,1,AB⟩
structure Cf (C:Cx) (gs:Array Ad) (w:AL) (t:CJ) (q:Nat->Nat) (a b:Ad) (dM dW:Nat) (oM:Own C.SR) (OW:Nat->Prop):Prop where
 hj:0<C.j
 at0:gs[0]? =AA a
 Uy:gs[C.j]? =AA b
 old: ∀i g,0<i->i≠C.j->gs[i]? =AA g->QuitsD C.P (q i) (Deaf t i) g
 above: ∀i,gs.size<=i->Deaf t i=0
 dm:Deaf t 0=dM
 dw:Deaf t C.j=dW
 ti:TI C.j C.SY C.SR OW C.Z t
 low: ∀op∈t,op.act.low w.heap.size
 norel: ∀i,t.act? i≠AA (.mark (.release (GK C.wg)))
 om: ∀b,oM.O b->b<w.heap.size/\¬OW b/\¬C.SR b/\¬C.SY b/\¬C.Z b
 ow: ∀b,OW b->b<w.heap.size/\¬C.SR b/\¬C.SY b/\¬C.Z b
 sr: ∀b,C.SR b->b<w.heap.size/\¬C.SY b/\¬C.Z b
 sy: ∀b,C.SY b->b<w.heap.size/\¬C.Z b
 z: ∀b,C.Z b->b<w.heap.size
 im:oM.I w
 keep:(∀b,b<C.w0.heap.size->¬C.T0 b->w.heap[b]? =C.w0.heap[b]?)/\(∀b,(oM.O b\/OW b\/C.SY b)->b<C.w0.heap.size->C.T0 b)
 sz:C.w0.heap.size<=w.heap.size
 same:w.tape=C.w0.tape/\w.os=C.w0.os/\w.output=C.w0.output
 over: ∀i g,t.g? i=AA g->g≠0->g≠C.j->t.counts i->∃x,t.g? x=AA 0/\HappensBefore t i x
theorem PI{j:Nat}{t u:CJ}(h: ∀i g,t.g? i=AA g->g≠0->g≠j->t.counts i->∃x,t.g? x=AA 0/\HappensBefore t i x)(hu: ∀op∈u,op.g=0\/op.g=j\/op.act.touch? =AB):
  ∀i g,(t++u).g? i=AA g->g≠0->g≠j->(t++u).counts i->∃x,(t++u).g? x=AA 0/\HappensBefore (t++u) i x:=by
 intro i g hg h0 hj hc;obtain⟨x,hx,_⟩:=hc;obtain⟨op,hop,hox⟩:=touch_of hx;rcases Yl hop with ⟨hi,hop'⟩|⟨_,hopu⟩
 ·obtain⟨y,hy,hb⟩:=h i g (by rw[<- g?_old (u:=u) hi];exact hg) h0 hj ((counts_old hi).1 ⟨x,hx,‹_›⟩)
  have hyl:y<t.size:=by
   unfold Trace.g? at hy;obtain⟨z,hz,_⟩:=J8.1 hy;exact lt_size_of_getElem? hz
  exact⟨y,by rw[g?_old hyl];exact hy,hb_app u hb⟩
 (have hgg:op.g=g:=by simpa[Trace.g?,hop] using hg);rcases hu op hopu with h1|h1|h1;exact Ak (hgg.symm.trans h1) h0;exact Ak (hgg.symm.trans h1) hj;rw[h1] at hox;cases hox
def Ev0 (C:Cx) (OW:Nat->Prop) (B:Nat) (e:Be):Prop:=
 (∀x,(CY e).touch? =AA x->Ok0 C.SY C.SR OW C.Z x)/\e.loc≠ .mark (.release (GK C.wg))/\(CY e).low B
def EvJ (C:Cx) (OW:Nat->Prop) (B:Nat) (e:Be):Prop:=
 (∀x,(CY e).touch? =AA x->x.loc.isMemory=true->OkJ C.SY C.SR OW x)/\e.loc≠ .mark (.release (GK C.wg))/\(CY e).low B
theorem Nl{C:Cx}{t u:CJ}(h: ∀i,t.act? i≠AA (.mark (.release (GK C.wg))))(hu: ∀op∈u,op.act≠ .mark (.release (GK C.wg))): ∀i,(t++u).act? i≠AA (.mark (.release (GK C.wg))):=by
 intro i hi;obtain⟨op,ho,hoa⟩:=J8.1 hi;rcases Yl ho with ⟨_,ho'⟩|⟨_,hou⟩
 ·exact h i (by rw[act?_of ho',hoa])
 exact hu op hou hoa
theorem XX{e:Be}{a:Addr}(h:e.loc≠ .mark (.release a)):CY e≠ .mark (.release a):=by
 obtain⟨l,x,s⟩:=e;simp only at h;intro hh
 cases l with|mark m=>simp only[CY,MemAct.mark.injEq] at hh;exact h (by rw[hh])|obj c=>cases x<;>cases s<;>simp[CY] at hh|_=>simp[CY] at hh
section
variable {C:Cx} {gs:Array Ad} {w w':AL} {t:CJ} {q:Nat->Nat} {a b a' b':Ad} {dM dW d:Nat} {oM TU:Own C.SR} {OW SI:Nat->Prop} {sl':Option (Nat×Nat)} {es:Array Be}
theorem Cf.at(h:Cf C gs w t q a b dM dW oM OW)(d:Nat):Cf C gs (w.at d) t q a b dM dW oM OW:=
 ⟨h.hj,h.at0,h.Uy,h.old,h.above,h.dm,h.dw,h.ti,h.low,h.norel,h.om,h.ow,h.sr,h.sy,h.z,oM.st w (w.at d) h.im (λ_ _=>rfl) (Bd _) rfl rfl,h.keep,h.sz,h.same,h.over⟩
theorem fU(h:Cf C gs w t q a b dM dW oM OW)(hs:Af C.P true a w=.go a' w' es)(hsz:w.heap.size<=w'.heap.size)
  (hkeep: ∀b,b<w.heap.size->¬oM.O b->¬C.SY b->w'.heap[b]? =w.heap[b]?) (hsame:w'.tape=w.tape/\w'.os=w.os/\w'.output=w.output)
  (hown: ∀b,TU.O b↔oM.O b\/(w.heap.size<=b/\b<w'.heap.size)) (hI:TU.I w') (hev: ∀e∈es,Ev0 C OW w'.heap.size e):
  runT C.P (crowd gs w sl') 0=(.next (crowd ((gs.map (woken C.P a a' w')).setIfInBounds 0 a') w' sl'),Dc 0 a.frame.fn a.frame.place es)/\
  ((gs.map (woken C.P a a' w')).setIfInBounds 0 a').size=gs.size/\
  Cf C ((gs.map (woken C.P a a' w')).setIfInBounds 0 a') w' (t++Dc 0 a.frame.fn a.frame.place es) q a' (woken C.P a a' w' b) (Ei dM es) dW TU OW:=by
 have h0:0<gs.size:=(Dj.1 h.at0).1;have hother: ∀{i:Nat},0≠i->Deaf (t++Dc 0 a.frame.fn a.frame.place es) i=Deaf t i:=λhi=>MF t hi _ (λop hop=>ofEvents_g hop);refine⟨Yk (P:=C.P) (sl:=sl') (i:=0) h.at0 (show Af C.P (0==0) a w=_ from hs),AV,⟨h.hj,by simp[h0],?_,λi g hi hij hg=>?_,λi hi=>?_,by rw[Deaf_own,h.dm],by rw[hother (by have:=h.hj;omega),h.dw],?_,?_,?_,λb hb=>?_,λb hb=>?_,λb hb=>?_,λb hb=>?_,λb hb=>?_,hI,⟨λb hb ht=>?_,λb hb hl=>?_⟩,Cj h.sz hsz,?_,PI h.over λop hop=>.inl (ofEvents_g hop)⟩⟩
 ·have:=h.hj;rw[Dz Aa,Kw,h.Uy];rfl
 ·rw[Dz Aa,Kw] at hg;obtain⟨y,hy,rfl⟩:=J8.1 hg;have hq:=h.old i y hi hij hy;rw[QF hq,hother Aa];exact hq
 rw[hother (by simp at hi;omega)];exact h.above i (by simpa using hi)
 ·refine h.ti.app0 (λop hop=>ofEvents_g hop) λop hop x hx=>?_;obtain⟨e,he,rfl⟩:=Kr hop;exact (hev e he).1 x hx
 ·intro op hop;rcases JM.1 hop with h1|h1;exact MemAct.low_mono hsz (h.low op h1);obtain⟨e,he,rfl⟩:=Kr h1;exact (hev e he).2.2
 ·refine Nl h.norel λop hop=>?_;obtain⟨e,he,rfl⟩:=Kr hop;exact XX (hev e he).2.1
 ·rcases (hown b).1 hb with h1|h1;have:=h.om b h1;exact⟨Aa,this.2⟩;refine⟨h1.2,λx=>?_,λx=>?_,λx=>?_,λx=>?_⟩;have:=(h.ow b x).1;omega;have:=(h.sr b x).1;omega;have:=(h.sy b x).1;omega;have:=h.z b x;omega
 have:=h.ow b hb;exact⟨Aa,this.2⟩;have:=h.sr b hb;exact⟨Aa,this.2⟩;have:=h.sy b hb;exact⟨Aa,this.2⟩;have:=h.z b hb;omega
 ·have hl:=h.sz;rw[<- h.keep.1 b hb ht];exact hkeep b Aa (λx=>ht (h.keep.2 b (.inl x) hb)) (λx=>ht (h.keep.2 b (.inr (.inr x)) hb))
 ·rcases hb with h1|h1|h1
  ·rcases (hown b).1 h1 with h2|h2;exact h.keep.2 b (.inl h2) hl;have:=h.sz;omega
  exact h.keep.2 b (.inr (.inl h1)) hl;exact h.keep.2 b (.inr (.inr h1)) hl
 exact⟨hsame.1.trans h.same.1,hsame.2.1.trans h.same.2.1,hsame.2.2.trans h.same.2.2⟩
theorem vZ(h:Cf C gs w t q a b dM dW oM OW)(hs:Af C.P false b w=.go b' w' es)(hsz:w.heap.size<=w'.heap.size)
  (hkeep: ∀b,b<w.heap.size->¬OW b->¬C.SY b->w'.heap[b]? =w.heap[b]?) (hsame:w'.tape=w.tape/\w'.os=w.os/\w'.output=w.output)
  (hown: ∀b,SI b↔OW b\/(w.heap.size<=b/\b<w'.heap.size)) (hev: ∀e∈es,EvJ C SI w'.heap.size e):
  runT C.P (crowd gs w sl') C.j=(.next (crowd ((gs.map (woken C.P b b' w')).setIfInBounds C.j b') w' sl'),Dc C.j b.frame.fn b.frame.place es)/\
  ((gs.map (woken C.P b b' w')).setIfInBounds C.j b').size=gs.size/\
  Cf C ((gs.map (woken C.P b b' w')).setIfInBounds C.j b') w' (t++Dc C.j b.frame.fn b.frame.place es) q (woken C.P b b' w' a) b' dM (Ei dW es) oM SI:=by
 have hjp:=h.hj;have hjl:C.j<gs.size:=(Dj.1 h.Uy).1;(have hj0:(C.j==0)=false:=by simp;omega);have hother: ∀{i:Nat},C.j≠i->Deaf (t++Dc C.j b.frame.fn b.frame.place es) i=Deaf t i:=λhi=>MF t hi _ (λop hop=>ofEvents_g hop);have hnew:TI C.j C.SY C.SR SI C.Z t:=h.ti.new h.low λb=>⟨λx=>((hown b).1 x).imp id λy=>⟨y.1,x⟩,λx=>x.elim (λy=>(hown b).2 (.inl y)) (λy=>y.2)⟩
 have how: ∀b,SI b->b<w'.heap.size/\¬C.SR b/\¬C.SY b/\¬C.Z b:=λb hb=>by
  rcases (hown b).1 hb with h1|h1;have:=h.ow b h1;exact⟨Aa,this.2⟩;refine⟨h1.2,λx=>?_,λx=>?_,λx=>?_⟩;have:=(h.sr b x).1;omega;have:=(h.sy b x).1;omega;have:=h.z b x;omega
 refine⟨Yk (P:=C.P) (sl:=sl') (i:=C.j) h.Uy (by rw[hj0];exact hs),AV,⟨h.hj,?_,by simp[hjl],λi g hi hij hg=>?_,λi hi=>?_,by rw[hother Aa,h.dm],by rw[Deaf_own,h.dw],?_,?_,?_,λb hb=>?_,how,λb hb=>?_,λb hb=>?_,λb hb=>?_,?_,⟨λb hb ht=>?_,λb hb hl=>?_⟩,Cj h.sz hsz,?_,PI h.over λop hop=>.inr (.inl (ofEvents_g hop))⟩⟩;rw[Dz Aa,Kw,h.at0];rfl
 ·rw[Dz (H8 hij),Kw] at hg;obtain⟨y,hy,rfl⟩:=J8.1 hg;have hq:=h.old i y hi hij hy;rw[QF hq,hother (H8 hij)];exact hq
 rw[hother (by simp at hi;omega)];exact h.above i (by simpa using hi)
 ·refine hnew.appJ (λop hop=>ofEvents_g hop) (λop hop x hx hm=>?_) λb hb=>(how b hb).2.2.2;obtain⟨e,he,rfl⟩:=Kr hop;exact (hev e he).1 x hx hm
 ·intro op hop;rcases JM.1 hop with h1|h1;exact MemAct.low_mono hsz (h.low op h1);obtain⟨e,he,rfl⟩:=Kr h1;exact (hev e he).2.2
 ·refine Nl h.norel λop hop=>?_;obtain⟨e,he,rfl⟩:=Kr hop;exact XX (hev e he).2.1
 ·have h1:=h.om b hb;refine⟨Aa,λx=>?_,h1.2.2⟩;rcases (hown b).1 x with y|y;exact h1.2.1 y;omega
 have:=h.sr b hb;exact⟨Aa,this.2⟩;have:=h.sy b hb;exact⟨Aa,this.2⟩;have:=h.z b hb;omega
 ·refine oM.st w w' h.im (λb hb=>?_) hsz hsame.1 hsame.2.1;rcases hb with hb|hb;have h1:=h.om b hb;exact hkeep b h1.1 h1.2.1 h1.2.2.2.1;have h1:=h.sr b hb;exact hkeep b h1.1 (λx=>(h.ow b x).2.1 hb) h1.2.1
 ·have hl:=h.sz;rw[<- h.keep.1 b hb ht];exact hkeep b Aa (λx=>ht (h.keep.2 b (.inr (.inl x)) hb)) (λx=>ht (h.keep.2 b (.inr (.inr x)) hb))
 ·rcases hb with h1|h1|h1;exact h.keep.2 b (.inl h1) hl
  ·rcases (hown b).1 h1 with h2|h2;exact h.keep.2 b (.inr (.inl h2)) hl;have:=h.sz;omega
  exact h.keep.2 b (.inr (.inr h1)) hl
 exact⟨hsame.1.trans h.same.1,hsame.2.1.trans h.same.2.1,hsame.2.2.trans h.same.2.2⟩
theorem AEV(h:Cf C gs w t q a b dM dW oM OW){i:Nat}{g:Ad}(hpos:0<i)(hij:i≠C.j)(hi:gs[i]? =AA g)(hg:g.status=.running):
  ∃k g' es,q i=k+1/\runT C.P (crowd gs (w.at d) sl') i=(.next (crowd ((gs.map (woken C.P g g' (w.at d))).setIfInBounds i g') (w.at d) sl'),Dc i g.frame.fn g.frame.place es)/\
   ((gs.map (woken C.P g g' (w.at d))).setIfInBounds i g').size=gs.size/\
   Cf C ((gs.map (woken C.P g g' (w.at d))).setIfInBounds i g') (w.at d) (t++Dc i g.frame.fn g.frame.place es) (upd q i k) (woken C.P g g' (w.at d) a) (woken C.P g g' (w.at d) b) dM dW oM OW/\
   D5 gs.size (upd q i k)<D5 gs.size q:=by
 have hq:=h.old i g hpos hij hi;(have hi0:(i==0)=false:=by simp;omega);have hlt:i<gs.size:=(Dj.1 hi).1;have hjp:=h.hj
 cases hqi:q i with
 |zero=>rw[hqi] at hq;rw[hq.1] at hg;cases hg|succ k=>
  rw[hqi] at hq;rcases hq with ⟨hf,_⟩|⟨_,g',es,hm,hstp,hq'⟩;rw[hf] at hg;cases hg;have hother: ∀{x:Nat},i≠x->Deaf (t++Dc i g.frame.fn g.frame.place es) x=Deaf t x:=λhi=>MF t hi _ (λop hop=>ofEvents_g hop);have hd:=h.at d;refine⟨k,g',es,rfl,Yk (P:=C.P) (sl:=sl') (i:=i) hi (by rw[hi0];exact hstp (w.at d)),AV,⟨h.hj,?_,?_,λx y hx hxj hy=>?_,λx hx=>?_,by rw[hother Aa,h.dm],by rw[hother hij,h.dw],?_,?_,?_,h.om,h.ow,h.sr,h.sy,h.z,hd.im,h.keep,h.sz,h.same,PI h.over λop hop=>.inr (.inr (by obtain⟨e,he,rfl⟩:=Kr hop;exact touch_mute (hm e he)))⟩,?_⟩;rw[Dz Aa,Kw,h.at0];rfl;rw[Dz hij,Kw,h.Uy];rfl
  ·by_cases hji:i=x
   ·subst hji;rw[Wv (by simpa using hlt)] at hy;obtain rfl:=EF hy;rw[upd_same,Deaf_own];exact hq'
   rw[Dz hji,Kw] at hy;obtain⟨z,hz,rfl⟩:=J8.1 hy;have hqj:=h.old x z hx hxj hz;rw[QF hqj,upd_ne q k (H8 hji),hother hji];exact hqj
  rw[hother (by simp at hx;omega)];exact h.above x (by simpa using hx)
  ·refine h.ti.mute (λop hop=>ofEvents_g hop) λop hop=>?_;obtain⟨e,he,rfl⟩:=Kr hop;exact touch_mute (hm e he)
  ·intro op hop;rcases JM.1 hop with h1|h1;exact h.low op h1;obtain⟨e,he,rfl⟩:=Kr h1;exact low_mute (hm e he) _
  ·refine Nl h.norel λop hop=>?_;obtain⟨e,he,rfl⟩:=Kr hop;have hme:=hm e he;obtain⟨l,x,s⟩:=e;intro hh
   cases l with|mark m=>simp only[CY,MemAct.mark.injEq] at hh;subst hh;simp[Event.mute] at hme|obj c=>cases x<;>cases s<;>simp[CY] at hh|_=>simp[CY] at hh
  have hsum:D5 gs.size (upd q i k)+(k+1)=D5 gs.size q+k:=by
   have:=sumTo_upd q k id hlt;simpa[hqi] using this
  omega
theorem bY(h:Cf C gs w t q a b dM dW oM OW)(ha:a.status=.running\/a.status=.blocked)(hb:b.status=.running\/b.status=.blocked\/b.status=.finished)(hr:a.status=.running\/b.status=.running)(sl:Option (Nat×Nat)):
  ∃i g d sl',gs[i]? =AA g/\g.status=.running/\stepT C.P (crowd gs w sl)=runT C.P (crowd gs (w.at d) sl') i:=by
 refine crowd_pick (P:=C.P) (w:=w) (sl:=sl) (λg hg=>?_) (hr.elim (λx=>⟨0,a,h.at0,x⟩) (λx=>⟨C.j,b,h.Uy,x⟩));obtain⟨i,hi,rfl⟩:=nN.1 hg;have hgi:gs[i]? =AA gs[i]:=FZ hi;rcases O7 i with rfl|hpos
 ·have h0:=h.at0;rw[hgi] at h0;rw[EF h0];exact awake_of (ha.imp id .inl)
 by_cases hij:i=C.j
 ·subst hij;have h0:=h.Uy;rw[hgi] at h0;rw[EF h0];exact awake_of hb
 exact awake_of ((h.old i _ hpos hij hgi).status.elim .inl λx=>.inr (.inr x))
end
def KQ:Int:=4294967296
def WA (C:Cx) (w:AL) (st sm:Int):Prop:=w.heap[C.wg]? =AA (.cells #[.int .u64 st,.int .u32 sm] C.ty)
def Live (C:Cx) (w:AL):Prop:=∃st sm,WA C w st sm
def JE (C:Cx):Be:=⟨.cell (GK C.wg),false,true⟩
def Uz (C:Cx):Be:=⟨.cell (GK C.wg),true,true⟩
def mkS (m:Mark):Be:=⟨.mark m,false,true⟩
structure Np {SR:Nat->Prop} (o o':Own SR) (w w':AL) (es:Array Be):Prop where
 I':o'.I w'
 sz:w.heap.size<=w'.heap.size
 O': ∀b,o'.O b↔o.O b\/(w.heap.size<=b/\b<w'.heap.size)
 keep: ∀b,b<w.heap.size->¬o.O b->w'.heap[b]? =w.heap[b]?
 same:w'.tape=w.tape/\w'.os=w.os/\w'.output=w.output
 evs: ∀e∈es,match e.loc with
  | .cell a=>o'.O a.block\/(SR a.block/\e.write=false)| .obj c=>o'.O c/\¬(e.write=true/\e.sync=true)| .mark m=>lW m| .output=>True|_=>False
inductive WS where
 |work (stp:Bool)|fin0|fin1|fin2|Nz|U0|quit
inductive MS where
 |work|fV|Vb|ws2|uT|Ql|uU|done
 deriving DecidableEq
def WS.JI:WS->Bool| .work _=>true|_=>false
def WS.free:WS->Bool| .fin0| .fin1| .fin2| .Nz| .U0=>true|_=>false
def MS.free:MS->Bool| .fV| .Vb| .ws2| .uT| .Ql| .uU=>true|_=>false
def WS.deaf:WS->Nat| .fin2| .Nz| .U0=>1|_=>0
def MS.deaf:MS->Nat| .Vb| .ws2| .uT| .Ql=>1|_=>0
def MX (w:AL) (c:Nat) (closed:Bool):Prop:=∃s,w.heap[c]? =AA (.chan 0 #[] closed s s false)
def QR (w:AL) (c:Nat) (w':AL):Prop:=∃s,w.heap[c]? =AA (.chan 0 #[] false s s false)/\w'={w with heap:=w.heap.setIfInBounds c (.chan 0 #[] true s s false)}
def U1 (c:Nat) (es:Array Be):Prop:=∀e∈es,e=⟨.obj c,false,true⟩\/e=⟨.obj c,true,true⟩
inductive PW (C:Cx):WS->Nat->Ad->Own C.SR->Prop
 |QS {s:Bool} {k:Nat} {b:Ad} {o:Own C.SR} (nx:AL->Ad) (no:AL->Own C.SR):b.status=.running->
   (∀w,o.I w->∃w' es,Af C.P false b w=.go (nx w) w' es/\Np o (no w) w w' es)->(∀w,o.I w->PW C (.work s) k (nx w) (no w))->PW C (.work s) k b o
 |sel {k:Nat} {b:Ad} {o o':Own C.SR} {xv:AQ} {bk:Nat} {ob:Obj} {z1 z2:AQ}:b.status=.running->b.offers=AB->C.Cs k xv bk ob->o.O bk->(∀w,o.I w->w.heap[bk]? =AA ob)->
   (∀w,o.I w->Af C.P false b w=.comm b (EO C.bc C.bs xv z1 z2) true .select w #[])->(∀x,o'.O x->o.O x/\x≠bk)->(∀w,o.I w->o'.I w)->
   PW C (.work false) (k+1) (b.finishComm C.P (EO C.bc C.bs xv z1 z2) .select 0 AU false) o'->PW C (.work true) k (b.finishComm C.P (EO C.bc C.bs xv z1 z2) .select 1 z2 false) o->PW C (.work false) k b o
 |clo {s:Bool} {k:Nat} {b b':Ad} {o:Own C.SR} {es:Array Be}:b.status=.running->b'.status=.running->mayWake C.P b=true->(s=true\/k=C.N)->U1 C.bc es->
   (∀w w',o.I w->QR w C.bc w'->Af C.P false b w=.go b' w' es)->PW C .fin0 k b' o->PW C (.work s) k b o
 |free {s:WS} {k:Nat} {b:Ad} {o:Own C.SR} (nx:AL->Ad):s.free=true->b.status=.running->(∀w,Live C w->(nx w).status=.running/\Af C.P false b w=.go (nx w) w #[])->(∀w,Live C w->PW C s k (nx w) o)->PW C s k b o|r0 {k:Nat} {b b':Ad} {o:Own C.SR}:b.status=.running->b'.status=.running->(∀w,Live C w->Af C.P false b w=.go b' w #[mkS (.releaseMerge (GK C.wg))])->PW C .fin1 k b' o->PW C .fin0 k b o|k1 {k:Nat} {b b':Ad} {o:Own C.SR}:b.status=.running->b'.status=.running->(∀w,Live C w->Af C.P false b w=.go b' w #[mkS .disable])->PW C .fin2 k b' o->PW C .fin1 k b o
 |d1 {k n:Nat} {b b1 b2:Ad} {o:Own C.SR}:b.status=.running->b2.status=.running->(∀w,WA C w KQ 0->Af C.P false b w=.go b1 (w.setCell (GK C.wg) (.int .u64 0)) #[JE C,Uz C])->QuitsD C.P n 1 b1->C.FW o->
   (∀w,WA C w (KQ+1) 0->Af C.P false b w=.go b2 (w.setCell (GK C.wg) (.int .u64 1)) #[JE C,Uz C])->PW C .Nz k b2 o->PW C .fin2 k b o
 |d2 {k:Nat} {b b':Ad} {o:Own C.SR}:b.status=.running->b'.status=.running->(∀w,WA C w 1 0->Af C.P false b w=.go b' w #[JE C])->PW C .Nz k b' o->PW C .Nz k b o|d3 {k:Nat} {b b':Ad} {o:Own C.SR}:b.status=.running->b'.status=.running->(∀w,WA C w 1 0->Af C.P false b w=.go b' (w.setCell (GK C.wg) (.int .u64 0)) #[Uz C])->PW C .U0 k b' o->PW C .Nz k b o|d4 {k n:Nat} {b b':Ad} {o:Own C.SR}:b.status=.running->mayWake C.P b=true->(∀w,WA C w 0 0->Af C.P false b w=.go b' (w.setCell (OX C.wg) (.int .u32 1)) (JC (OX C.wg)))->QuitsD C.P n 1 b'->C.FW o->PW C .U0 k b o|quit {k:Nat} {b:Ad} {o:Own C.SR}:C.FW o->PW C .quit k b o
inductive PM (C:Cx) (Fin:Nat->Ad->Own C.SR->Prop):MS->Nat->Ad->Own C.SR->Prop
 |QS {k:Nat} {a:Ad} {o:Own C.SR} (nx:AL->Ad) (no:AL->Own C.SR):a.status=.running->
   (∀w,o.I w->∃w' es,Af C.P true a w=.go (nx w) w' es/\Np o (no w) w w' es)->(∀w,o.I w->PM C Fin .work k (nx w) (no w))->PM C Fin .work k a o
 |recv {k:Nat} {a:Ad} {o:Own C.SR} {z:AQ} (go:AQ->Nat->Obj->Own C.SR):a.status=.running->a.offers=AB->(∀w,o.I w->Af C.P true a w=.comm a #[rcase C.bc z] true (.recv true) w #[])->
   (∀xv bk ob,C.Cs k xv bk ob->∀x,(go xv bk ob).O x↔o.O x\/x=bk)->(∀xv bk ob,C.Cs k xv bk ob->∀w,o.I w->¬o.O bk->w.heap[bk]? =AA ob->(go xv bk ob).I w)->
   (∀xv bk ob,C.Cs k xv bk ob->PM C Fin .work (k+1) (a.finishComm C.P #[rcase C.bc z] (.recv true) 0 xv true) (go xv bk ob))->
   (k=C.N->PM C Fin .work k (a.finishComm C.P #[rcase C.bc z] (.recv true) 0 z false) o)->PM C Fin .work k a o
 |clo {k:Nat} {a a':Ad} {o:Own C.SR} {es:Array Be}:a.status=.running->a'.status=.running->mayWake C.P a=true->U1 C.bs es->(∀w w',o.I w->QR w C.bs w'->Af C.P true a w=.go a' w' es)->
   PM C Fin .fV k a' o->PM C Fin .work k a o
 |free {s:MS} {k:Nat} {a:Ad} {o:Own C.SR} (nx:AL->Ad) (es:AL->Array Be):s.free=true->a.status=.running->(∀w,Live C w->(nx w).status=.running/\Af C.P true a w=.go (nx w) w (es w)/\∀e∈es w,e=mkS (.write (OX C.wg)))->(∀w,Live C w->PM C Fin s k (nx w) o)->PM C Fin s k a o|kd {k:Nat} {a a':Ad} {o:Own C.SR}:a.status=.running->a'.status=.running->(∀w,Live C w->Af C.P true a w=.go a' w #[mkS .disable])->PM C Fin .Vb k a' o->PM C Fin .fV k a o
 |w1 {k:Nat} {a a1 a2:Ad} {o:Own C.SR}:a.status=.running->a1.status=.running->a2.status=.running->(∀w,WA C w KQ 0->Af C.P true a w=.go a1 w #[JE C])->PM C Fin .Vb k a1 o->
   (∀w,WA C w 0 0->Af C.P true a w=.go a2 w #[JE C])->PM C Fin .Ql k a2 o->PM C Fin .Vb k a o
 |w2 {k:Nat} {a a1 a2:Ad} {o:Own C.SR}:a.status=.running->a1.status=.running->a2.status=.running->(∀w,WA C w KQ 0->Af C.P true a w=.go a1 (w.setCell (GK C.wg) (.int .u64 (KQ+1))) #[JE C,Uz C])->PM C Fin .ws2 k a1 o->
   (∀w,WA C w 0 0->Af C.P true a w=.go a2 w #[JE C])->PM C Fin .Ql k a2 o->PM C Fin .Vb k a o
 |w1z {k:Nat} {a a2:Ad} {o:Own C.SR}:a.status=.running->a2.status=.running->(∀w,WA C w 0 0->Af C.P true a w=.go a2 w #[JE C])->PM C Fin .Ql k a2 o->PM C Fin .Ql k a o
 |w3 {k:Nat} {a a':Ad} {o:Own C.SR}:a.status=.running->a'.status=.running->a.offers=AB->(∀w st,WA C w st 0->Af C.P true a w=.go {a with status:=.blocked} w #[])->
   (∀w,WA C w 0 1->Af C.P true a w=.go a' (w.setCell (OX C.wg) (.int .u32 0)) (JC (OX C.wg)))->PM C Fin .uT k a' o->PM C Fin .ws2 k a o
 |w4 {k:Nat} {a a':Ad} {o:Own C.SR}:a.status=.running->a'.status=.running->(∀w,WA C w 0 0->Af C.P true a w=.go a' w #[JE C])->PM C Fin .Ql k a' o->PM C Fin .uT k a o|ke {k:Nat} {a a':Ad} {o:Own C.SR}:a.status=.running->a'.status=.running->(∀w,Live C w->Af C.P true a w=.go a' w #[mkS .enable])->PM C Fin .uU k a' o->PM C Fin .Ql k a o|acq {k:Nat} {a a':Ad} {o:Own C.SR}:a.status=.running->a'.status=.running->(∀w,Live C w->Af C.P true a w=.go a' w #[mkS (.acquire (GK C.wg))])->Fin k a' o->PM C Fin .uU k a o
def MK (C:Cx) (ms:MS) (ws:WS) (w:AL):Prop:=
 match ws with| .work _| .fin0| .fin1| .fin2=>((ms=.work\/ms=.fV\/ms=.Vb)/\WA C w KQ 0)\/(ms=.ws2/\WA C w (KQ+1) 0)| .Nz=>ms=.ws2/\WA C w 1 0| .U0=>ms=.ws2/\WA C w 0 0| .quit=>(ms=.ws2/\WA C w 0 1)\/(ms≠ .ws2/\WA C w 0 0)
structure LH (C:Cx) (t:CJ) (r:Nat):Prop where
 act:t.act? r=AA (.mark (.releaseMerge (GK C.wg)))
 g:t.g? r=AA C.j
 heard:t.heard r
 all: ∀i x,Il t i=AA x->x.loc.isMemory=true->t.g? i=AA C.j->Before t i r\/(x.loc.blk=AA C.wg/\x.kind=.atomic/\¬t.heard i)
def WS.rel:WS->Bool| .fin1| .fin2| .Nz| .U0| .quit=>true|_=>false
def Sm (a a0:Ad):Prop:=a.frame=a0.frame/\a.callers=a0.callers/\a.dying=a0.dying
def fZ (C:Cx) (ms:MS) (ws:WS) (oM:Own C.SR) (a a0:Ad):Prop:=
 (a.status=.running/\Sm a a0)\/
 (ms=.work/\ws.JI=true/\∃z,a=parked a0 #[rcase C.bc z] (.recv true)/\∀w,oM.I w->Af C.P true a0 w=.comm a0 #[rcase C.bc z] true (.recv true) w #[])\/
 (ms=.ws2/\ws≠ .quit/\a.status=.blocked/\a.offers=AB/\Sm a a0)
def BOk (C:Cx) (ms:MS) (ws:WS) (oW:Own C.SR) (b b0:Ad):Prop:=
 (b.status=.running/\Sm b b0)\/
 (ms=.work/\ws=.work false/\∃xv z1 z2,b=parked b0 (EO C.bc C.bs xv z1 z2) .select/\∀w,oW.I w->Af C.P false b0 w=.comm b0 (EO C.bc C.bs xv z1 z2) true .select w #[])
structure St (C:Cx) (ms:MS) (ws:WS) (k kW:Nat) (a0 b0:Ad) (oM oW:Own C.SR) (gs:Array Ad) (w:AL) (t:CJ) (q:Nat->Nat) (a b:Ad) (OW:Nat->Prop) (dW:Nat):Prop where
 cf:Cf C gs w t q a b ms.deaf dW oM OW
 ne:C.bc≠C.bs/\C.wg≠C.bc/\C.wg≠C.bs
 MZ:fZ C ms ws oM a a0
 TW:ws≠ .quit->BOk C ms ws oW b b0
 qu:ws=.quit->∃n,QuitsD C.P n dW b
 nb:a.status=.running\/b.status=.running
 iw:(ws≠ .quit\/True)->oW.I w
 ow: ∀x,oW.O x->OW x
 c1:MX w C.bc (!ws.JI)
 c2:MX w C.bs (decide (ms≠ .work))
 wg:MK C ms ws w
 dw:ws≠ .quit->dW=ws.deaf
 kk:ms=.work->(∀s,ws=.work s->kW=k/\s=false)/\(ws.JI=false->k=C.N)
 rel:ws.rel=true->∃r,LH C t r
section
variable {es:Array Be}{gs:Array Ad}{sh:CommShape}{e:Be}{a b:Ad}{m:Mark}{c dM dW:Nat}{q:Nat->Nat}{t:CJ}{w w':AL}
section
variable {C:Cx} {P:BM} {ms:MS} {ws:WS} {oM oW:Own C.SR} {a a0 b b0 g g' x:Ad} {w w':AL}
theorem Zc(h:x.status=.blocked)(ho:x.offers=AB):woken P g g' w' x=x\/woken P g g' w' x={x with status:=.running}:=by
 unfold woken;split;right;simp[Goroutine.again,h,ho];exact .inl rfl
theorem Zd{z:AQ}(hc:MX w' c false):woken P g g' w' (parked x #[rcase c z] sh)=parked x #[rcase c z] sh:=by
 obtain⟨s,hc⟩:=hc;exact woken_recv_open _ _ hc
theorem Tu{bc bs:Nat}{xv z1 z2:AQ}(hc:MX w' bc false)(hs:MX w' bs false):woken P g g' w' (parked x (EO bc bs xv z1 z2) sh)=parked x (EO bc bs xv z1 z2) sh:=by
 obtain⟨s,hc⟩:=hc;obtain⟨s2,hs⟩:=hs;unfold woken;split;exact kQ hc hs sh;rfl
theorem Rl(h:fZ C ms ws oM a a0)(hc:ms=.work->ws.JI=true->MX w' C.bc false):fZ C ms ws oM (woken P g g' w' a) a0/\(a.status=.running->(woken P g g' w' a).status=.running):=by
 rcases h with ⟨h1,h2⟩|⟨h1,h2,z,rfl,h3⟩|⟨h1,h2,h3,h4,h5⟩;rw[MG h1];exact⟨.inl ⟨h1,h2⟩,id⟩;rw[Zd (hc h1 h2)];exact⟨.inr (.inl ⟨h1,h2,z,rfl,h3⟩),id⟩;refine⟨?_,λe=>by rw[h3] at e;cases e⟩;rcases Zc (P:=P) (g:=g) (g':=g') (w':=w') h3 h4 with e|e;rw[e];exact .inr (.inr ⟨h1,h2,h3,h4,h5⟩);rw[e];exact .inl ⟨rfl,h5⟩
theorem ve(h:BOk C ms ws oW b b0)(hc:ms=.work->ws=.work false->MX w' C.bc false/\MX w' C.bs false):BOk C ms ws oW (woken P g g' w' b) b0/\(b.status=.running->(woken P g g' w' b).status=.running):=by
 rcases h with ⟨h1,h2⟩|⟨h1,h2,xv,z1,z2,rfl,h3⟩;rw[MG h1];exact⟨.inl ⟨h1,h2⟩,id⟩;rw[Tu (hc h1 h2).1 (hc h1 h2).2];exact⟨.inr ⟨h1,h2,xv,z1,z2,rfl,h3⟩,id⟩
theorem Sm.step{mn:Bool}(h:Sm a a0)(w:AL):Af P mn a w=Af P mn a0 w:=stepG_same h.1 h.2.1 h.2.2 w
theorem Sm.refl(a:Ad):Sm a a:=⟨rfl,rfl,rfl⟩
end
section
variable {C:Cx} {OW:Nat->Prop} {B:Nat}
theorem vg(hS:C.SY c)(h1: ¬OW c)(h2: ¬C.SR c)(hB:c<B)(he:(∃o x,e=⟨.cell ⟨c,o,AB⟩,x,true⟩)\/e=⟨.obj c,false,true⟩\/e=⟨.obj c,true,true⟩):Ev0 C OW B e:=by
 rcases he with ⟨o,x,rfl⟩|rfl|rfl
 ·refine⟨λy hy b hb=>?_,AV,?_⟩
  ·simp only[NV,DL,DR] at hy;subst hy;simp only[Loc.blk,DR] at hb;subst hb;exact .inr (.inr ⟨hS,h1,h2,AV⟩)
  rw[NV];exact hB
 ·refine⟨λy hy b hb=>?_,AV,hB⟩;simp only[CY,DL,DR] at hy;subst hy;simp only[Loc.blk,DR] at hb;subst hb;exact .inr (.inr ⟨hS,h1,h2,AV⟩)
 exact⟨λy hy=>by simp[CY,DL] at hy,AV,hB⟩
theorem vk(hS:C.SY c)(h1: ¬OW c)(h2: ¬C.SR c)(hB:c<B)(he:(∃o x,e=⟨.cell ⟨c,o,AB⟩,x,true⟩)\/e=⟨.obj c,false,true⟩\/e=⟨.obj c,true,true⟩):EvJ C OW B e:=by
 rcases he with ⟨o,x,rfl⟩|rfl|rfl
 ·refine⟨λy hy _=>?_,AV,?_⟩
  ·simp only[NV,DL,DR] at hy;subst hy;exact⟨c,rfl,.inr (.inr ⟨hS,h1,h2,rfl⟩)⟩
  rw[NV];exact hB
 ·refine⟨λy hy _=>?_,AV,hB⟩;simp only[CY,DL,DR] at hy;subst hy;exact⟨c,rfl,.inr (.inr ⟨hS,h1,h2,rfl⟩)⟩
 exact⟨λy hy=>by simp[CY,DL] at hy,AV,hB⟩
theorem gG(h:(MemAct.mark m).touch? =AB)(hr:m≠ .release (GK C.wg))(hl:(MemAct.mark m).low B):Ev0 C OW B (mkS m):=
 ⟨λy hy=>(by simp only[mkS,CY] at hy;rw[h] at hy;cases hy),by simpa[mkS] using hr,hl⟩
theorem gI(h:(MemAct.mark m).touch? =AB)(hr:m≠ .release (GK C.wg))(hl:(MemAct.mark m).low B):EvJ C OW B (mkS m):=
 ⟨λy hy=>(by simp only[mkS,CY] at hy;rw[h] at hy;cases hy),by simpa[mkS] using hr,hl⟩
theorem Np.ev0{o o':Own C.SR}(h:Np o o' w w' es)(hc:Cf C gs w t q a b dM dW o OW): ∀e∈es,Ev0 C OW w'.heap.size e:=by
 intro e he;have hev:=h.evs e he
 have hown: ∀x,o'.O x->x<w'.heap.size/\¬OW x/\¬C.SR x/\¬C.SY x/\¬C.Z x:=λx hx=>by
  rcases (h.O' x).1 hx with h1|h1;have:=hc.om x h1;have:=h.sz;exact⟨Aa,(hc.om x h1).2⟩;refine⟨h1.2,λy=>?_,λy=>?_,λy=>?_,λy=>?_⟩;have:=(hc.ow x y).1;omega;have:=(hc.sr x y).1;omega;have:=(hc.sy x y).1;omega;have:=hc.z x y;omega
 obtain⟨loc,wr,sy⟩:=e
 cases loc with
 |cell ad=>
  simp only at hev;refine⟨λy hy b hb=>?_,AV,?_⟩
  ·simp only[NV,DL,DR] at hy;subst hy;simp only[Loc.blk,DR] at hb;subst hb;rcases hev with h1|⟨h1,h2⟩;have:=hown _ h1;exact .inl ⟨this.2.1,this.2.2.1,this.2.2.2.1,this.2.2.2.2⟩;exact .inr (.inl ⟨h1,λy=>(hc.ow _ y).2.1 h1,(hc.sr _ h1).2.1,h2⟩)
  rw[NV];rcases hev with h1|⟨h1,_⟩;exact (hown _ h1).1;exact Em (hc.sr _ h1).1 h.sz
 |obj c=>
  simp only at hev;(have e2:CY ⟨.obj c,wr,sy⟩=.access ⟨.obj c,wr,sy⟩:=by cases wr<;>cases sy<;>first|rfl|exact Ak ⟨rfl,rfl⟩ hev.2);refine⟨λy hy b hb=>?_,AV,?_⟩
  ·rw[e2] at hy;simp only[DL,DR] at hy;subst hy;simp only[Loc.blk,DR] at hb;subst hb;have:=hown _ hev.1;exact .inl ⟨this.2.1,this.2.2.1,this.2.2.2.1,this.2.2.2.2⟩
  rw[e2];exact (hown _ hev.1).1
 |mark m=>
  simp only at hev
  cases m with|extern f=>exact⟨λy hy=>by simp[CY,DL] at hy,AV,Ar⟩|noRoom=>exact⟨λy hy=>by simp[CY,DL] at hy,AV,Ar⟩|_=>exact hev.elim
 |output=>
  refine⟨λy hy b hb=>?_,AV,Ar⟩;simp only[CY,DL,DR] at hy;subst hy;cases hb
 |goroutines=>exact hev.elim
theorem Np.evJ{oM:Own C.SR}{o o':Own C.SR}(h:Np o o' w w' es)(hc:Cf C gs w t q a b dM dW oM OW)(ho: ∀x,o.O x->OW x):
  ∀e∈es,EvJ C (λx=>OW x\/(w.heap.size<=x/\x<w'.heap.size)) w'.heap.size e:=by
 intro e he;have hev:=h.evs e he;have hown: ∀x,o'.O x->(OW x\/(w.heap.size<=x/\x<w'.heap.size)):=λx hx=>((h.O' x).1 hx).imp (ho x) id
 have hall: ∀x,(OW x\/(w.heap.size<=x/\x<w'.heap.size))->x<w'.heap.size/\¬C.SR x/\¬C.SY x:=λx hx=>by
  rcases hx with h1|h1;have:=h.sz;have h2:=hc.ow x h1;exact⟨Aa,h2.2.1,h2.2.2.1⟩;refine⟨h1.2,λy=>?_,λy=>?_⟩;have:=(hc.sr x y).1;omega;have:=(hc.sy x y).1;omega
 have hsr: ∀x,C.SR x->¬(OW x\/(w.heap.size<=x/\x<w'.heap.size)):=λx hx hy=>(hall x hy).2.1 hx;obtain⟨loc,wr,sy⟩:=e
 cases loc with
 |cell ad=>
  simp only at hev;refine⟨λy hy _=>?_,AV,?_⟩
  ·simp only[NV,DL,DR] at hy;subst hy;refine⟨ad.block,rfl,?_⟩;rcases hev with h1|⟨h1,h2⟩;have:=hall _ (hown _ h1);exact .inl ⟨hown _ h1,this.2.1,this.2.2⟩;exact .inr (.inl ⟨h1,hsr _ h1,(hc.sr _ h1).2.1,h2⟩)
  rw[NV];rcases hev with h1|⟨h1,_⟩;exact (hall _ (hown _ h1)).1;exact Em (hc.sr _ h1).1 h.sz
 |obj c=>
  simp only at hev;(have e2:CY ⟨.obj c,wr,sy⟩=.access ⟨.obj c,wr,sy⟩:=by cases wr<;>cases sy<;>first|rfl|exact Ak ⟨rfl,rfl⟩ hev.2);refine⟨λy hy _=>?_,AV,?_⟩
  ·rw[e2] at hy;simp only[DL,DR] at hy;subst hy;have:=hall _ (hown _ hev.1);exact⟨c,rfl,.inl ⟨hown _ hev.1,this.2.1,this.2.2⟩⟩
  rw[e2];exact (hall _ (hown _ hev.1)).1
 |mark m=>
  simp only at hev
  cases m with|extern f=>exact⟨λy hy=>by simp[CY,DL] at hy,AV,Ar⟩|noRoom=>exact⟨λy hy=>by simp[CY,DL] at hy,AV,Ar⟩|_=>exact hev.elim
 |output=>
  refine⟨λy hy hm=>?_,AV,Ar⟩;simp only[CY,DL,DR] at hy;subst hy;cases hm
 |goroutines=>exact hev.elim
theorem jQ{SR:Nat->Prop}{o o':Own SR}(h:Np o o' w w' es)(d:Nat):Ei d es=d:=
 Kt (λe he=>by
  have:=h.evs e he;constructor;intro hl;rw[hl] at this;exact this
  intro hl;rw[hl] at this;exact this) d
end
section
variable {C:Cx} {t u:CJ} {r:Nat}
theorem LH.app(h:LH C t r)(hr:r<t.size)(hu: ∀i op x,(t++u)[i]? =AA op->t.size<=i->op.g=C.j->op.act.touch? =AA x->x.loc.isMemory=true->x.loc.blk=AA C.wg/\x.kind=.atomic/\¬(t++u).heard i):LH C (t++u) r:=by
 refine⟨by rw[act?_old hr];exact h.act,by rw[g?_old hr];exact h.g,(heard_old hr).2 h.heard,λi x hx hm hg=>?_⟩;obtain⟨op,hop,hox⟩:=touch_of hx;by_cases hi:i<t.size
 ·rw[touchAt_old hi] at hx;rw[g?_old hi] at hg;rcases h.all i x hx hm hg with h1|⟨h1,h2,h3⟩;exact .inl (h1.app u);exact .inr ⟨h1,h2,λhh=>h3 ((heard_old hi).1 hh)⟩
 (have hgo:op.g=C.j:=by simpa[Trace.g?,hop] using hg);exact .inr (hu i op x hop Aa hgo hox hm)
theorem LH.lt(h:LH C t r):r<t.size:=lt_of_act? h.act
theorem LH.app'(h:LH C t r)(hu: ∀op∈u,op.g≠C.j\/op.act.touch? =AB):LH C (t++u) r:=
 h.app h.lt λi op x hop hi hg hx _=>by
  rcases Yl hop with ⟨h1,_⟩|⟨_,h1⟩;omega;rcases hu op h1 with h2|h2;exact Ak hg h2;rw[h2] at hx;cases hx
theorem LH.AI3(h:LH C t r){fn:Bl}{pos:String}(hd: ∀m e,es[m]? =AA e->(∀x,(CY e).touch? =AA x->x.loc.isMemory=true->x.loc.blk=AA C.wg/\x.kind=.atomic)/\((CY e).touch? ≠AB->Ei (Deaf t C.j) (es.extract 0 m)≠0)):
  LH C (t++Dc C.j fn pos es) r:=by
 refine h.app h.lt λi op x hop hi hg hx hm=>?_;(have ABr:(Dc C.j fn pos es)[i - t.size]? =AA op:=by rw[ZP hi] at hop;exact hop);rw[ofEvents_eq,Kw] at ABr;obtain⟨e,he,rfl⟩:=J8.1 ABr;obtain⟨h1,h2⟩:=hd _ _ he;refine⟨(h1 x hx hm).1,(h1 x hx hm).2,?_⟩;rintro⟨g,hgg,hdf⟩;(have:g=C.j:=by simp[Trace.g?,hop] at hgg;exact hgg.symm);subst this;refine h2 (by simp only at hx;rw[hx];simp) ?_
 have hsplit:t++Dc C.j fn pos es=(t++Dc C.j fn pos (es.extract 0 (i - t.size)))++Dc C.j fn pos (es.extract (i - t.size) es.size):=by
  rw[ADt,ofEvents_eq,ofEvents_eq,ofEvents_eq,<- Array.map_append];congr 2;have hlt:=(Dj.1 he).1;apply ZM;intro y;simp only[AIl,AIm,Array.size_extract];by_cases hy:y<i - t.size;rw[BU Aa,BU Aa];simp;rw[BL Aa];by_cases hy2:y<es.size
  ·rw[BU Aa];congr 1;omega
  rw[BL Aa,XD Aa]
 have hlt:=(Dj.1 he).1
 have hsz:(t++Dc C.j fn pos (es.extract 0 (i - t.size))).size=i:=by
  rw[nJ,ofEvents_eq];simp;omega
 rw[hsplit,deaf_old (by rw[hsz];exact Bd _)] at hdf;have hD:=Deaf_own t C.j fn pos (es.extract 0 (i - t.size));unfold Deaf at hD;rw[hsz] at hD;rw[hD] at hdf;exact hdf
end
end
def FU (j c s r:Nat) (f0 fj:Bl) (p0 pj:String):Array MemOp:=
 #[{g:=j,fn:=fj,pos:=pj,act:=.send c s},{g:=0,fn:=f0,pos:=p0,act:=.recv c r 0},{g:=j,fn:=fj,pos:=pj,act:=.sendDone c s},{g:=0,fn:=f0,pos:=p0,act:=.recvDone c r}]
section
variable {j c s r:Nat} {f0 fj:Bl} {p0 pj:String} {t:CJ}
theorem oL: ∀op∈FU j c s r f0 fj p0 pj,op.act.touch? =AB:=by
 intro op h;simp only[FU,IW,BF,BH,or_false] at h;rcases h with rfl|rfl|rfl|rfl<;>rfl
theorem vw:(t++FU j c s r f0 fj p0 pj)[t.size]? =AA {g:=j,fn:=fj,pos:=pj,act:=.send c s}/\(t++FU j c s r f0 fj p0 pj)[t.size+1]? =AA {g:=0,fn:=f0,pos:=p0,act:=.recv c r 0}/\
  (t++FU j c s r f0 fj p0 pj)[t.size+2]? =AA {g:=j,fn:=fj,pos:=pj,act:=.sendDone c s}/\(t++FU j c s r f0 fj p0 pj)[t.size+3]? =AA {g:=0,fn:=f0,pos:=p0,act:=.recvDone c r}:=by
 refine⟨?_,?_,?_,?_⟩<;>(rw[ZP Aa];simp[FU])
theorem SK(g:Nat):(t++FU j c s r f0 fj p0 pj).deaf g (t.size+3)=Deaf t g/\Deaf (t++FU j c s r f0 fj p0 pj) g=Deaf t g:=by
 obtain⟨h0,h1,h2,h3⟩:=vw (j:=j) (c:=c) (s:=s) (r:=r) (f0:=f0) (fj:=fj) (p0:=p0) (pj:=pj) (t:=t);have e0:(t++FU j c s r f0 fj p0 pj).deaf g t.size=Deaf t g:=deaf_old (Bd _);have e1:=deaf_succ (g:=g) h0;have e2:=deaf_succ (g:=g) h1;have e3:=deaf_succ (g:=g) h2;have e4:=deaf_succ (g:=g) h3;simp only[deafStep] at e1 e2 e3 e4;(have hsz:(t++FU j c s r f0 fj p0 pj).size=t.size+3+1:=by simp[FU]);refine⟨by rw[e3,e2,e1,e0],?_⟩;unfold Deaf;rw[hsz,e4,e3,e2,e1,e0];rfl
theorem ABs(h0:Deaf t 0=0)(hj:Deaf t j=0)(hsr:s=r){i:Nat}(hk:Knows t j i):Knows (t++FU j c s r f0 fj p0 pj) 0 i:=by
 obtain⟨g0,g1,g2,g3⟩:=vw (j:=j) (c:=c) (s:=s) (r:=r) (f0:=f0) (fj:=fj) (p0:=p0) (pj:=pj) (t:=t);subst hsr;refine⟨t.size+3,_,g3,rfl,.inr ?_⟩;have e1:=hk.hb_new (u:=FU j c s s f0 fj p0 pj) (Bd _) g0 rfl;refine e1.trans (.single (.inr ⟨.handOver (c:=c) (k:=s) (act?_of g0) (act?_of g3),⟨j,by simp[Trace.g?,g0],?_⟩,⟨0,by simp[Trace.g?,g3],?_⟩⟩));rw[deaf_old (Bd _)];exact hj;rw[(SK 0).1];exact h0
end
section
variable {C:Cx} {gs gs':Array Ad} {w:AL} {t:CJ} {q:Nat->Nat} {a b a' b':Ad} {oM TU oW:Own C.SR} {OW:Nat->Prop} {s r bk:Nat} {ob:Obj} {f0 fj:Bl} {p0 pj:String}
theorem AI4(h:Cf C gs w t q a b 0 0 oM OW)(hc:w.heap[C.bc]? =AA (.chan 0 #[] false s r false))(hsr:s=r)(hbk:OW bk)(hob:w.heap[bk]? =AA ob)(hO: ∀x,TU.O x↔oM.O x\/x=bk)
  (hI: ∀w,oM.I w->¬oM.O bk->w.heap[bk]? =AA ob->TU.I w) (hgs:gs'=(gs.setIfInBounds C.j b').setIfInBounds 0 a'):
  Cf C gs' (w.setChan C.bc 0 #[] false (s+1) (r+1) false) (t++FU C.j C.bc s r f0 fj p0 pj) q a' b' 0 0 TU (λx=>OW x/\x≠bk):=by
 have hjp:=h.hj;have hjl:C.j<gs.size:=(Dj.1 h.Uy).1;(have h0l:0<gs.size:=by omega);have hbc:C.bc<w.heap.size:=(Dj.1 hc).1;have hsz:(w.setChan C.bc 0 #[] false (s+1) (r+1) false).heap.size=w.heap.size:=by simp[Ym]
 have hheap: ∀x,x≠C.bc->(w.setChan C.bc 0 #[] false (s+1) (r+1) false).heap[x]? =w.heap[x]? :=λx hx=>by
  simp only[Ym];rw[Dz (H8 hx)]
 have hbkf:=h.ow bk hbk;have AP6:bk≠C.bc:=λe=>hbkf.2.2.1 (by rw[e];exact .inr (.inl rfl));have ASl: ¬oM.O bk:=λx=>(h.om bk x).2.1 hbk;have hnt:=oL (j:=C.j) (c:=C.bc) (s:=s) (r:=r) (f0:=f0) (fj:=fj) (p0:=p0) (pj:=pj)
 have hold: ∀{i x},Il (t++FU C.j C.bc s r f0 fj p0 pj) i=AA x->Il t i=AA x:=λ{i x} ht=>by
  rcases FO ht with h'|⟨op,hop,_,hop'⟩
  ·exact h'.2
  rw[hnt op hop] at hop';cases hop'
 have hti:TI C.j C.SY C.SR OW C.Z (t++FU C.j C.bc s r f0 fj p0 pj):=by
  have e:t++FU C.j C.bc s r f0 fj p0 pj=(((t++ #[{g:=C.j,fn:=fj,pos:=pj,act:=.send C.bc s}])++ #[{g:=0,fn:=f0,pos:=p0,act:=.recv C.bc r 0}])++ #[{g:=C.j,fn:=fj,pos:=pj,act:=.sendDone C.bc s}])++ #[{g:=0,fn:=f0,pos:=p0,act:=.recvDone C.bc r}]:=by
   apply Array.ext';simp[FU]
  rw[e]
  refine TI.mute (TI.mute (TI.mute (TI.mute h.ti (g:=C.j) ?_ ?_) (g:=0) ?_ ?_) (g:=C.j) ?_ ?_) (g:=0) ?_ ?_<;>
   (intro op hop;simp only[IW,BF,BH,or_false] at hop;subst hop;rfl)
 subst hgs;refine⟨h.hj,?_,?_,λi g hi hij hg=>?_,λi hi=>?_,by rw[(SK 0).2,h.dm],by rw[(SK C.j).2,h.dw],?_,?_,?_,λx hx=>?_,λx hx=>?_,λx hx=>?_,λx hx=>?_,λx hx=>?_,?_,⟨λx hx ht=>?_,λx hx hl=>?_⟩,?_,?_,?_⟩;simp[h0l];rw[Dz Aa];simp[hjl]
 ·rw[Dz Aa,Dz (H8 hij)] at hg;rw[(SK i).2];exact h.old i g hi hij hg
 rw[(SK i).2];exact h.above i (by simpa using hi);exact hti.pass (λi x b ht hb ho=>ABs h.dm h.dw hsr (h.ti.ow i x b (hold ht) hb ho)) λb hb=>hb.1
 ·intro op hop;rw[hsz];rcases JM.1 hop with h1|h1;exact h.low op h1;simp only[FU,IW,BF,BH,or_false] at h1;rcases h1 with rfl|rfl|rfl|rfl<;>exact hbc
 ·refine Nl h.norel λop hop=>?_;simp only[FU,IW,BF,BH,or_false] at hop;rcases hop with rfl|rfl|rfl|rfl<;>simp
 ·rw[hsz];rcases (hO x).1 hx with h1|rfl;have:=h.om x h1;exact⟨this.1,λy=>this.2.1 y.1,this.2.2⟩;exact⟨hbkf.1,λy=>y.2 rfl,hbkf.2⟩
 rw[hsz];exact h.ow x hx.1;rw[hsz];exact h.sr x hx;rw[hsz];exact h.sy x hx;rw[hsz];exact h.z x hx
 ·refine hI _ (oM.st w _ h.im (λx hx=>hheap x λe=>?_) (by rw[hsz];exact Bd _) rfl rfl) ASl (by rw[hheap bk AP6];exact hob);rcases hx with hx|hx;exact (h.om x hx).2.2.2.1 (by rw[e];exact .inr (.inl rfl));exact (h.sr x hx).2.1 (by rw[e];exact .inr (.inl rfl))
 ·rw[hheap x λe=>ht (h.keep.2 x (.inr (.inr (by rw[e];exact .inr (.inl rfl)))) hx)];exact h.keep.1 x hx ht
 ·rcases hx with h1|h1|h1
  ·rcases (hO x).1 h1 with h2|rfl;exact h.keep.2 x (.inl h2) hl;exact h.keep.2 _ (.inr (.inl hbk)) hl
  exact h.keep.2 x (.inr (.inl h1.1)) hl;exact h.keep.2 x (.inr (.inr h1)) hl
 rw[hsz];exact h.sz;exact h.same;exact PI h.over λop hop=>.inr (.inr (hnt op hop))
end
section
variable {dM:Nat}{u:CJ}{w':AL}
section
variable {C:Cx} {w:AL} {st sm:Int}
theorem N7(w:AL)(a:Addr)(x:AQ):(∀b,b≠a.block->(w.setCell a x).heap[b]? =w.heap[b]?)/\(w.setCell a x).heap.size=w.heap.size/\(w.setCell a x).tape=w.tape/\(w.setCell a x).os=w.os/\(w.setCell a x).output=w.output:=by
 refine⟨λb hb=>?_,by simp[YA],rfl,rfl,rfl⟩;simp only[YA];rw[Ld,BL (H8 hb)]
theorem WA.setSt(h:WA C w st sm)(x:Int):WA C (w.setCell (GK C.wg) (.int .u64 x)) x sm:=by
 unfold WA at h⊢;simp only[YA,GK];rw[Ld,BU rfl,h];simp
theorem WA.setSm(h:WA C w st sm)(x:Int):WA C (w.setCell (OX C.wg) (.int .u32 x)) st x:=by
 unfold WA at h⊢;simp only[YA,OX];rw[Ld,BU rfl,h];simp
theorem WA.keep(h:WA C w st sm)(e:w'.heap[C.wg]? =w.heap[C.wg]?):WA C w' st sm:=by unfold WA;rw[e];exact h
theorem MK.keep{ms:MS}{ws:WS}{w':AL}(h:MK C ms ws w)(e:w'.heap[C.wg]? =w.heap[C.wg]?):MK C ms ws w':=by
 unfold MK at h⊢;(cases ws<;>simp only at h⊢);exact h.imp (λx=>⟨x.1,x.2.keep e⟩) (λx=>⟨x.1,x.2.keep e⟩);exact h.imp (λx=>⟨x.1,x.2.keep e⟩) (λx=>⟨x.1,x.2.keep e⟩);exact h.imp (λx=>⟨x.1,x.2.keep e⟩) (λx=>⟨x.1,x.2.keep e⟩);exact h.imp (λx=>⟨x.1,x.2.keep e⟩) (λx=>⟨x.1,x.2.keep e⟩);exact⟨h.1,h.2.keep e⟩;exact⟨h.1,h.2.keep e⟩;exact h.imp (λx=>⟨x.1,x.2.keep e⟩) (λx=>⟨x.1,x.2.keep e⟩)
theorem MX.keep{c:Nat}{cl:Bool}(h:MX w c cl)(e:w'.heap[c]? =w.heap[c]?):MX w' c cl:=by obtain⟨s,h⟩:=h;exact⟨s,by rw[e];exact h⟩
theorem MK.live{ms:MS}{ws:WS}(h:MK C ms ws w):Live C w:=by
 unfold MK at h
 cases ws<;>simp only at h<;>first
  |exact⟨_,_,h.2⟩|(rcases h with ⟨_,h⟩|⟨_,h⟩<;>exact⟨_,_,h⟩)
end
section
variable {C:Cx} {ms ms':MS} {ws ws':WS} {k k' kW kW':Nat} {a0 a0' b0 b0':Ad} {oM TU oW Wh:Own C.SR} {gs:Array Ad} {w w':AL} {t:CJ} {q:Nat->Nat} {a b:Ad} {OW SI:Nat->Prop} {dW d:Nat} {es:Array Be} {sl':Option (Nat×Nat)}
theorem Own.at{SR:Nat->Prop}(o:Own SR){w:AL}(h:o.I w)(d:Nat):o.I (w.at d):=o.st w (w.at d) h (λ_ _=>rfl) (Bd _) rfl rfl
theorem St.at(h:St C ms ws k kW a0 b0 oM oW gs w t q a b OW dW)(d:Nat):St C ms ws k kW a0 b0 oM oW gs (w.at d) t q a b OW dW:=
 ⟨h.cf.at d,h.ne,h.MZ,h.TW,h.qu,h.nb,λx=>oW.at (h.iw x) d,h.ow,h.c1,h.c2,h.wg,h.dw,h.kk,h.rel⟩
theorem OY(C:Cx):C.SY C.bc:=.inr (.inl rfl)
theorem SN(C:Cx):C.SY C.bs:=.inr (.inr rfl)
theorem IY(C:Cx):C.SY C.wg:=.inl rfl
theorem LJ(h:ws.rel=true->∃r,LH C t r)(hu: ∀op∈u,op.g≠C.j\/op.act.touch? =AB):ws.rel=true->∃r,LH C (t++u) r:=λx=>let ⟨r,hr⟩:=h x;⟨r,hr.app' hu⟩
theorem gJ(h:St C ms ws k kW a0 b0 oM oW gs w t q a b OW dW)(hsm:Sm a a0)(hs:Af C.P true a0 w=.go a0' w' es)(hr:a0'.status=.running)(hsz:w.heap.size<=w'.heap.size)
  (hkeep: ∀x,x<w.heap.size->¬oM.O x->¬C.SY x->w'.heap[x]? =w.heap[x]?) (hsame:w'.tape=w.tape/\w'.os=w.os/\w'.output=w.output)
  (hown: ∀x,TU.O x↔oM.O x\/(w.heap.size<=x/\x<w'.heap.size)) (hI:TU.I w') (hev: ∀e∈es,Ev0 C OW w'.heap.size e) (hd:Ei ms.deaf es=ms'.deaf)
  (c1:MX w' C.bc (!ws.JI)) (c2:MX w' C.bs (decide (ms'≠ .work))) (wg:MK C ms' ws w') (ASm:ws≠ .quit->BOk C ms' ws oW (woken C.P a a0' w' b) b0)
  (kk:ms'=.work->(∀s,ws=.work s->kW=k'/\s=false)/\(ws.JI=false->k'=C.N)):
  ∃gs' t' b',runT C.P (crowd gs w sl') 0=(.next (crowd gs' w' sl'),t')/\gs'.size=gs.size/\St C ms' ws k' kW a0' b0 TU oW gs' w' (t++t') q a0' b' OW dW:=by
 obtain⟨h1,h2,h3⟩:=fU (sl':=sl') h.cf (by rw[hsm.step];exact hs) hsz hkeep hsame hown hI hev;rw[hd] at h3;refine⟨_,_,_,h1,h2,⟨h3,h.ne,.inl ⟨hr,.refl _⟩,ASm,λe=>?_,.inl hr,λe=>?_,h.ow,c1,c2,wg,h.dw,kk,LJ h.rel λop hop=>.inl ?_⟩⟩
 ·obtain⟨n,hn⟩:=h.qu e;exact⟨n,by rw[QF hn];exact hn⟩
 ·refine oW.st w w' (h.iw e) (λx hx=>?_) hsz hsame.1 hsame.2.1;rcases hx with hx|hx;have h4:=h.cf.ow x (h.ow x hx);exact hkeep x h4.1 (λy=>(h.cf.om x y).2.1 (h.ow x hx)) h4.2.2.1;have h4:=h.cf.sr x hx;exact hkeep x h4.1 (λy=>(h.cf.om x y).2.2.1 hx) h4.2.1
 rw[ofEvents_g hop];have:=h.cf.hj;omega
theorem U2(h:St C ms ws k kW a0 b0 oM oW gs w t q a b OW dW)(hsm:Sm b b0)(hs:Af C.P false b0 w=.go b0' w' es)(hr:ws'≠ .quit->b0'.status=.running)(hsz:w.heap.size<=w'.heap.size)
  (hkeep: ∀x,x<w.heap.size->¬OW x->¬C.SY x->w'.heap[x]? =w.heap[x]?) (hsame:w'.tape=w.tape/\w'.os=w.os/\w'.output=w.output)
  (hown: ∀x,SI x↔OW x\/(w.heap.size<=x/\x<w'.heap.size)) (hev: ∀e∈es,EvJ C SI w'.heap.size e) (hoW: ∀x,Wh.O x->SI x) (hI:(ws'≠ .quit\/True)->Wh.I w')
  (hd:ws'≠ .quit->Ei dW es=ws'.deaf) (hqu:ws'=.quit->∃n,QuitsD C.P n (Ei dW es) b0') (c1:MX w' C.bc (!ws'.JI)) (c2:MX w' C.bs (decide (ms≠ .work))) (wg:MK C ms ws' w')
  (kk:ms=.work->(∀s,ws'=.work s->kW'=k/\s=false)/\(ws'.JI=false->k=C.N)) (hrel:ws'.rel=true->∃r,LH C (t++Dc C.j b.frame.fn b.frame.place es) r)
  (oN:fZ C ms ws' oM (woken C.P b b0' w' a) a0) (hnb:(woken C.P b b0' w' a).status=.running\/b0'.status=.running):
  ∃gs' t' a' oO,runT C.P (crowd gs w sl') C.j=(.next (crowd gs' w' sl'),t')/\gs'.size=gs.size/\St C ms ws' k kW' a0 b0' oM Wh gs' w' (t++t') q a' b0' SI oO:=by
 obtain⟨h1,h2,h3⟩:=vZ (sl':=sl') h.cf (by rw[hsm.step];exact hs) hsz hkeep hsame hown hev;exact⟨_,_,_,_,h1,h2,⟨h3,h.ne,oN,λe=>.inl ⟨hr e,.refl _⟩,hqu,hnb,hI,hoW,c1,c2,wg,hd,kk,hrel⟩⟩
theorem Vd(h:St C ms ws k kW a0 b0 oM oW gs w t q a b OW dW){i:Nat}{g:Ad}(hpos:0<i)(hij:i≠C.j)(hi:gs[i]? =AA g)(hg:g.status=.running):
  ∃gs' t' a' b' q',runT C.P (crowd gs (w.at d) sl') i=(.next (crowd gs' (w.at d) sl'),t')/\gs'.size=gs.size/\St C ms ws k kW a0 b0 oM oW gs' (w.at d) (t++t') q' a' b' OW dW/\D5 gs'.size q'<D5 gs.size q/\(∀n,QuitsD C.P n dW b->b'=b)/\(ws≠ .quit->b.status=.blocked->b'=b):=by
 obtain⟨n,g',es,h1,h2,h3,h4,h5⟩:=AEV (d:=d) (sl':=sl') h.cf hpos hij hi hg;have ha:=Rl (P:=C.P) (g:=g) (g':=g') (w':=w.at d) h.MZ (λe1 e2=>by have:=h.c1;rw[e2] at this;exact this);have hb:=λe=>ve (P:=C.P) (g:=g) (g':=g') (w':=w.at d) (h.TW e) (λe1 e2=>by have h6:=h.c1;have h7:=h.c2;rw[e2] at h6;simp only[e1,ne_eq,not_true,decide_false] at h7;exact⟨h6,h7⟩);refine⟨_,_,_,_,_,h2,h3,⟨h4,h.ne,ha.1,λe=>(hb e).1,λe=>?_,?_,λx=>oW.at (h.iw x) d,h.ow,h.c1,h.c2,h.wg,h.dw,h.kk,LJ h.rel λop hop=>.inl ?_⟩,by rw[h3];exact h5,λn hn=>QF hn,λhq hbl=>?_⟩
 ·obtain⟨n,hn⟩:=h.qu e;exact⟨n,by rw[QF hn];exact hn⟩
 ·rcases h.nb with e|e;exact .inl (ha.2 e);right;rw[MG e];exact e
 rw[ofEvents_g hop];exact hij;rcases h.TW hq with ⟨e,_⟩|⟨e1,e2,xv,z1,z2,rfl,_⟩;rw[e] at hbl;cases hbl;have h6:=h.c1;have h7:=h.c2;rw[e2] at h6;simp only[e1,ne_eq,not_true,decide_false] at h7;exact Tu h6 h7
theorem ABt{a':Ad}(h:Cf C gs w t q a b dM dW oM OW)(hu: ∀op∈u,op.g=0/\op.act.touch? =AB/\op.act.low w.heap.size/\op.act≠ .mark (.release (GK C.wg)))(hd:Deaf (t++u) 0=dM):
  Cf C (gs.setIfInBounds 0 a') w (t++u) q a' b dM dW oM OW:=by
 have hjp:=h.hj;have h0l:0<gs.size:=(Dj.1 h.at0).1;have hother: ∀{i:Nat},0≠i->Deaf (t++u) i=Deaf t i:=λhi=>MF t hi _ (λop hop=>(hu op hop).1)
 refine⟨h.hj,by simp[h0l],by rw[Dz Aa];exact h.Uy,λi g hi hij hg=>?_,λi hi=>?_,hd,by rw[hother Aa];exact h.dw,h.ti.mute (λop hop=>(hu op hop).1) (λop hop=>(hu op hop).2.1),λop hop=>?_,Nl h.norel λop hop=>(hu op hop).2.2.2,
  h.om,h.ow,h.sr,h.sy,h.z,h.im,h.keep,h.sz,h.same,PI h.over λop hop=>.inl (hu op hop).1⟩
 ·rw[Dz Aa] at hg;rw[hother Aa];exact h.old i g hi hij hg
 rw[hother (by simp at hi;omega)];exact h.above i (by simpa using hi);rcases JM.1 hop with h1|h1;exact h.low op h1;exact (hu op h1).2.2.1
theorem ABu{oO:Nat}{b':Ad}(h:Cf C gs w t q a b dM dW oM OW)(hu: ∀op∈u,op.g=C.j/\op.act.touch? =AB/\op.act.low w.heap.size/\op.act≠ .mark (.release (GK C.wg)))(hd:Deaf (t++u) C.j=oO):
  Cf C (gs.setIfInBounds C.j b') w (t++u) q a b' dM oO oM OW:=by
 have hjp:=h.hj;have hjl:C.j<gs.size:=(Dj.1 h.Uy).1;have hother: ∀{i:Nat},C.j≠i->Deaf (t++u) i=Deaf t i:=λhi=>MF t hi _ (λop hop=>(hu op hop).1)
 refine⟨h.hj,by rw[Dz Aa];exact h.at0,by simp[hjl],λi g hi hij hg=>?_,λi hi=>?_,by rw[hother Aa];exact h.dm,hd,h.ti.mute (λop hop=>(hu op hop).1) (λop hop=>(hu op hop).2.1),λop hop=>?_,Nl h.norel λop hop=>(hu op hop).2.2.2,
  h.om,h.ow,h.sr,h.sy,h.z,h.im,h.keep,h.sz,h.same,PI h.over λop hop=>.inr (.inl (hu op hop).1)⟩
 ·rw[Dz (H8 hij)] at hg;rw[hother (H8 hij)];exact h.old i g hi hij hg
 rw[hother (by simp at hi;omega)];exact h.above i (by simpa using hi);rcases JM.1 hop with h1|h1;exact h.low op h1;exact (hu op h1).2.2.1
end
end
def Cx.Z' (C:Cx) (b:Nat):Prop:=C.Z b\/b=C.wg
def Reach (C:Cx) (Fin:Nat->Ad->Own C.SR->Prop) (gs:Array Ad) (w:AL) (sl:Option (Nat×Nat)) (t:CJ):Prop:=
 ∃n gs' w' sl' t' q' a' k oM,D7 C.P n (crowd gs w sl) t=(.next (crowd gs' w' sl'),t')/\gs'.size=gs.size/\Sit C.P C.Z' gs' w' t' a' q'/\Fin k a' oM/\oM.I w'/\
  (∀b,oM.O b->b<w'.heap.size/\¬C.Z' b)/\(∀b,C.Z' b->b<w'.heap.size)/\C.w0.heap.size<=w'.heap.size/\(∀b,b<C.w0.heap.size->¬C.T0 b->w'.heap[b]? =C.w0.heap[b]?)/\w'.tape=C.w0.tape/\w'.os=C.w0.os/\w'.output=C.w0.output/\(∃oW,C.FW oW/\oW.I w')/\∀b,oM.O b->b<C.w0.heap.size->C.T0 b
section
variable {C:Cx} {Fin:Nat->Ad->Own C.SR->Prop}
theorem Reach.step{gs gs':Array Ad}{w w' wd:AL}{sl sl':Option (Nat×Nat)}{t ops:CJ}{i:Nat}(hst:stepT C.P (crowd gs w sl)=runT C.P (crowd gs wd sl') i)(hr:runT C.P (crowd gs wd sl') i=(.next (crowd gs' w' sl'),ops))(hz:gs'.size=gs.size)(h:Reach C Fin gs' w' sl' (t++ops)):Reach C Fin gs w sl t:=by
 obtain⟨n,gs1,w1,sl1,t1,q1,a1,k,oM,h1,h2,h3⟩:=h;exact⟨n+1,gs1,w1,sl1,t1,q1,a1,k,oM,by simp only[D7,hst,hr];exact h1,h2.trans hz,h3⟩
def Turn (C:Cx) (Fin:Nat->Ad->Own C.SR->Prop) (gs:Array Ad) (w:AL) (sl':Option (Nat×Nat)) (t:CJ) (i:Nat):Prop:=
 ∃gs' w' ops,runT C.P (crowd gs w sl') i=(.next (crowd gs' w' sl'),ops)/\gs'.size=gs.size/\Reach C Fin gs' w' sl' (t++ops)
variable {ms:MS} {ws:WS} {k kW:Nat} {a0 b0:Ad} {oM oW:Own C.SR}
theorem fZ.status{a:Ad}(h:fZ C ms ws oM a a0):a.status=.running\/a.status=.blocked:=by
 rcases h with ⟨h,_⟩|⟨_,_,z,rfl,_⟩|⟨_,_,h,_⟩;exact .inl h;exact .inr rfl;exact .inr h
theorem BOk.status{b:Ad}(h:BOk C ms ws oW b b0):b.status=.running\/b.status=.blocked:=by
 rcases h with ⟨h,_⟩|⟨_,_,xv,z1,z2,rfl,_⟩;exact .inl h;exact .inr rfl
theorem fZ.sm{a:Ad}(h:fZ C ms ws oM a a0)(hr:a.status=.running):Sm a a0:=by
 rcases h with ⟨_,h⟩|⟨_,_,z,rfl,_⟩|⟨_,_,h,_⟩;exact h;(cases hr);rw[h] at hr;cases hr
theorem BOk.sm{b:Ad}(h:BOk C ms ws oW b b0)(hr:b.status=.running):Sm b b0:=by
 rcases h with ⟨_,h⟩|⟨_,_,xv,z1,z2,rfl,_⟩;exact h;cases hr
def XY (C:Cx) (Fin:Nat->Ad->Own C.SR->Prop) (ms:MS) (ws:WS) (k kW:Nat) (a0 b0:Ad) (oM oW:Own C.SR) (sz:Nat) (q:Nat->Nat):Prop:=
 ∀{gs:Array Ad} {w:AL} {sl:Option (Nat×Nat)} {t:CJ} {a b:Ad} {OW:Nat->Prop} {dW:Nat},gs.size=sz->St C ms ws k kW a0 b0 oM oW gs w t q a b OW dW->a.status=.blocked->Reach C Fin gs w sl t
def ABv (C:Cx) (Fin:Nat->Ad->Own C.SR->Prop) (ms:MS) (ws:WS) (k kW:Nat) (a0 b0:Ad) (oM oW:Own C.SR) (sz:Nat) (q:Nat->Nat):Prop:=
 ∀{gs:Array Ad} {w:AL} {sl:Option (Nat×Nat)} {t:CJ} {a b:Ad} {OW:Nat->Prop} {dW:Nat},gs.size=sz->St C ms ws k kW a0 b0 oM oW gs w t q a b OW dW->b.status=.blocked->Reach C Fin gs w sl t
theorem J4(hq:ws≠ .quit)
  (t0: ∀{gs w sl' t q a b OW dW},St C ms ws k kW a0 b0 oM oW gs w t q a b OW dW->a.status=.running->(b.status≠ .blocked->XY C Fin ms ws k kW a0 b0 oM oW gs.size q)->Turn C Fin gs w sl' t 0)
  (tJ: ∀{gs w sl' t q a b OW dW},St C ms ws k kW a0 b0 oM oW gs w t q a b OW dW->b.status=.running->(a.status=.running->ABv C Fin ms ws k kW a0 b0 oM oW gs.size q)->Turn C Fin gs w sl' t C.j):
  ∀{gs w sl t q a b OW dW},St C ms ws k kW a0 b0 oM oW gs w t q a b OW dW->Reach C Fin gs w sl t:=by
 have key: ∀(M:Nat) {gs w sl t q a b OW dW},D5 gs.size q=M->St C ms ws k kW a0 b0 oM oW gs w t q a b OW dW->Reach C Fin gs w sl t:=by
  intro M
  induction M using eX with
  |_ M ih=>
   have RA: ∀{gs w sl t q a b OW dW},D5 gs.size q=M->St C ms ws k kW a0 b0 oM oW gs w t q a b OW dW->a.status=.blocked->Reach C Fin gs w sl t:=by
    intro gs w sl t q a b OW dW hM h ha;obtain⟨i,g,d,sl',hi,hg,hst⟩:=bY h.cf h.MZ.status ((h.TW hq).status.imp id .inl) h.nb sl;rcases O7 i with rfl|hpos
    ·(have e:g=a:=by have:=h.cf.at0;rw[this] at hi;exact (EF hi).symm);rw[e,ha] at hg;cases hg
    by_cases hij:i=C.j
    ·subst hij;(have e:g=b:=by have:=h.cf.Uy;rw[this] at hi;exact (EF hi).symm);subst e;obtain⟨gs',w',ops,h1,h2,h3⟩:=tJ (sl':=sl') (h.at d) hg (λe=>by rw[ha] at e;cases e);exact .step hst h1 h2 h3
    obtain⟨gs',t',a',b',q',h1,h2,h3,h4,_⟩:=Vd (d:=d) (sl':=sl') h hpos hij hi hg;exact .step hst h1 h2 (ih _ (by rw[<- hM];exact h4) rfl h3)
   have RB: ∀{gs w sl t q a b OW dW},D5 gs.size q=M->St C ms ws k kW a0 b0 oM oW gs w t q a b OW dW->b.status=.blocked->Reach C Fin gs w sl t:=by
    intro gs w sl t q a b OW dW hM h hb;obtain⟨i,g,d,sl',hi,hg,hst⟩:=bY h.cf h.MZ.status ((h.TW hq).status.imp id .inl) h.nb sl;rcases O7 i with rfl|hpos
    ·(have e:g=a:=by have:=h.cf.at0;rw[this] at hi;exact (EF hi).symm);subst e;obtain⟨gs',w',ops,h1,h2,h3⟩:=t0 (sl':=sl') (h.at d) hg (λe=>Ak hb e);exact .step hst h1 h2 h3
    by_cases hij:i=C.j
    ·subst hij;(have e:g=b:=by have:=h.cf.Uy;rw[this] at hi;exact (EF hi).symm);rw[e,hb] at hg;cases hg
    obtain⟨gs',t',a',b',q',h1,h2,h3,h4,_⟩:=Vd (d:=d) (sl':=sl') h hpos hij hi hg;exact .step hst h1 h2 (ih _ (by rw[<- hM];exact h4) rfl h3)
   intro gs w sl t q a b OW dW hM h;obtain⟨i,g,d,sl',hi,hg,hst⟩:=bY h.cf h.MZ.status ((h.TW hq).status.imp id .inl) h.nb sl;rcases O7 i with rfl|hpos
   ·(have e:g=a:=by have:=h.cf.at0;rw[this] at hi;exact (EF hi).symm);subst e;obtain⟨gs',w',ops,h1,h2,h3⟩:=t0 (sl':=sl') (h.at d) hg (λ_=>λhz hS hbl=>RA (by rw[hz];exact hM) hS hbl);exact .step hst h1 h2 h3
   by_cases hij:i=C.j
   ·subst hij;(have e:g=b:=by have:=h.cf.Uy;rw[this] at hi;exact (EF hi).symm);subst e;obtain⟨gs',w',ops,h1,h2,h3⟩:=tJ (sl':=sl') (h.at d) hg (λ_=>λhz hS hbl=>RB (by rw[hz];exact hM) hS hbl);exact .step hst h1 h2 h3
   obtain⟨gs',t',a',b',q',h1,h2,h3,h4,_⟩:=Vd (d:=d) (sl':=sl') h hpos hij hi hg;exact .step hst h1 h2 (ih _ (by rw[<- hM];exact h4) rfl h3)
 intro gs w sl t q a b OW dW h;exact key _ rfl h
theorem U3{a:Ad}(h:fZ C ms .quit oM a a0):a.status=.running:=by
 rcases h with ⟨e,_⟩|⟨_,e,_⟩|⟨_,e,_⟩;exact e;(cases e);exact Ak rfl e
theorem SQ(t0: ∀{gs w sl' t q a b OW dW},St C ms .quit k kW a0 b0 oM oW gs w t q a b OW dW->a.status=.running->(b.status≠ .blocked->XY C Fin ms .quit k kW a0 b0 oM oW gs.size q)->Turn C Fin gs w sl' t 0):
  ∀{gs w sl t q a b OW dW},St C ms .quit k kW a0 b0 oM oW gs w t q a b OW dW->Reach C Fin gs w sl t:=by
 have key: ∀(M:Nat) {gs w sl t q a b OW dW n},D5 gs.size q+n=M->QuitsD C.P n dW b->St C ms .quit k kW a0 b0 oM oW gs w t q a b OW dW->Reach C Fin gs w sl t:=by
  intro M
  induction M using eX with
  |_ M ih=>
   intro gs w sl t q a b OW dW n hM hn h;have har:=U3 h.MZ;obtain⟨i,g,d,sl',hi,hg,hst⟩:=bY h.cf h.MZ.status (hn.status.imp id .inr) (.inl har) sl;rcases O7 i with rfl|hpos
   ·(have e:g=a:=by have:=h.cf.at0;rw[this] at hi;exact (EF hi).symm);subst e;obtain⟨gs',w',ops,h1,h2,h3⟩:=t0 (sl':=sl') (h.at d) hg (λ_=>λ_ hS hbl=>by rw[U3 hS.MZ] at hbl;cases hbl);exact .step hst h1 h2 h3
   by_cases hij:i=C.j
   ·subst hij;(have e:g=b:=by have:=h.cf.Uy;rw[this] at hi;exact (EF hi).symm);subst e
    cases n with
    |zero=>rw[hn.1] at hg;cases hg|succ n=>
     rcases hn with ⟨hf,_⟩|⟨_,g',es,hm,hstp,hq'⟩;rw[hf] at hg;cases hg;have hd:=h.at d
     obtain⟨h1,h2,h3⟩:=vZ (sl':=sl') (SI:=OW) hd.cf (hstp (w.at d)) (Bd _) (λ_ _ _ _=>rfl) ⟨rfl,rfl,rfl⟩ (λx=>⟨.inl,λy=>y.elim id λz=>by omega⟩)
      (λe he=>⟨λx hx _=>(by rw[touch_mute (hm e he)] at hx;cases hx),λhl=>by
       have:=hm e he;obtain⟨l,x,s⟩:=e;simp only at hl;subst hl
       simp[Event.mute] at this,low_mute (hm e he) _⟩)
     have hw:woken C.P g g' (w.at d) a=a:=MG har;rw[hw] at h3;refine .step hst h1 h2 (ih (D5 gs.size q+n) Aa (by rw[h2]) hq' ⟨h3,h.ne,h.MZ,λe=>Ak rfl e,λ_=>⟨n,hq'⟩,.inl har,hd.iw,h.ow,h.c1,h.c2,h.wg,λe=>Ak rfl e,h.kk,LJ h.rel λop hop=>by obtain⟨e,he,rfl⟩:=Kr hop;exact .inr (touch_mute (hm e he))⟩)
   obtain⟨gs',t',a',b',q',h1,h2,h3,h4,h5,_⟩:=Vd (d:=d) (sl':=sl') h hpos hij hi hg;exact .step hst h1 h2 (ih (D5 gs'.size q'+n) Aa rfl (by rw[h5 n hn];exact hn) h3)
 intro gs w sl t q a b OW dW h;obtain⟨n,hn⟩:=h.qu rfl;exact key _ rfl hn h
end
section
variable {es:Array Be}{s:Bool}{c n:Nat}{ws':WS}
def All (C:Cx) (Fin:Nat->Ad->Own C.SR->Prop) (ms:MS) (ws:WS) (k kW:Nat) (a0 b0:Ad) (oM oW:Own C.SR):Prop:=
 ∀{gs:Array Ad} {w:AL} {sl:Option (Nat×Nat)} {t:CJ} {q:Nat->Nat} {a b:Ad} {OW:Nat->Prop} {dW:Nat},St C ms ws k kW a0 b0 oM oW gs w t q a b OW dW->Reach C Fin gs w sl t
theorem PW.run{C:Cx}{ws:WS}{k:Nat}{b:Ad}{o:Own C.SR}(h:PW C ws k b o)(hq:ws≠ .quit):b.status=.running:=by
 cases h<;>first|assumption|exact Ak rfl hq
section
variable {C:Cx} {Fin:Nat->Ad->Own C.SR->Prop} {ms:MS} {ws:WS} {k kW:Nat} {a0 b0 b0':Ad} {oM oW Wh:Own C.SR} {gs:Array Ad} {w w':AL} {sl':Option (Nat×Nat)} {t:CJ} {q:Nat->Nat} {a b:Ad} {OW:Nat->Prop} {dW:Nat}
theorem St.Dh(h:St C ms ws k kW a0 b0 oM oW gs w t q a b OW dW){x:Nat}(hx:C.SY x):x<w.heap.size/\¬OW x/\¬oM.O x/\¬C.SR x:=
 ⟨(h.cf.sy x hx).1,λy=>(h.cf.ow x y).2.2.1 hx,λy=>(h.cf.om x y).2.2.2.1 hx,λy=>(h.cf.sr x y).2.1 hx⟩
theorem AI5(h:St C ms (.work s) k kW a0 b0 oM oW gs w t q a b OW dW)(hb:b.status=.running){o':Own C.SR}(hs:Af C.P false b0 w=.go b0' w' es)(hp:Np oW o' w w' es)(hr:b0'.status=.running)
  (ih:All C Fin ms (.work s) k kW a0 b0' oM o'):Turn C Fin gs w sl' t C.j:=by
 have hbk:=h.TW AV;have kp: ∀x,C.SY x->w'.heap[x]? =w.heap[x]? :=λx hx=>hp.keep x (h.Dh hx).1 λy=>(h.Dh hx).2.1 (h.ow x y)
 obtain⟨gs',t',a',oO,h1,h2,h3⟩:=U2 (sl':=sl') (SI:=λx=>OW x\/(w.heap.size<=x/\x<w'.heap.size)) (Wh:=o') (ws':=.work s) (kW':=kW) h (hbk.sm hb) hs (λ_=>hr) hp.sz (λx hx hO hS=>hp.keep x hx λy=>hO (h.ow x y)) hp.same
  (λ_=>nG) (hp.evJ h.cf h.ow) (λx hx=>((hp.O' x).1 hx).imp (h.ow x) id) (λ_=>hp.I') (λe=>by rw[jQ hp];exact h.dw e) (λe=>by cases e) (h.c1.keep (kp _ (OY C))) (h.c2.keep (kp _ (SN C))) (h.wg.keep (kp _ (IY C))) h.kk (λe=>by cases e)
  (Rl h.MZ λ_ _=>h.c1.keep (kp _ (OY C))).1 (.inr hr)
 exact⟨gs',w',t',h1,h2,ih h3⟩
theorem Tv(h:MX w c false): ∃w',QR w c w':=by obtain⟨s,hs⟩:=h;exact⟨_,s,hs,rfl⟩
theorem XZ(h:QR w c w'):MX w' c true/\w'.heap.size=w.heap.size/\(∀x,x≠c->w'.heap[x]? =w.heap[x]?)/\w'.tape=w.tape/\w'.os=w.os/\w'.output=w.output:=by
 obtain⟨s,hs,rfl⟩:=h;have hlt:=(Dj.1 hs).1;exact⟨⟨s,by simp[hlt]⟩,AV,λx hx=>by simp only;rw[Dz (H8 hx)],rfl,rfl,rfl⟩
theorem Xa{P:BM}(h:Sm b b0):mayWake P b=mayWake P b0:=by unfold mayWake;rw[h.1]
theorem jR(h:U1 c es)(d:Nat):Ei d es=d:=Kt (λe he=>by rcases h e he with rfl|rfl<;>simp) d
theorem AMW(h:St C ms (.work s) k kW a0 b0 oM oW gs w t q a b OW dW)(hb:b.status=.running)(hr:b0'.status=.running)(hmw:mayWake C.P b0=true)(hk:s=true\/kW=C.N)(hce:U1 C.bc es)
  (hs: ∀w w',oW.I w->QR w C.bc w'->Af C.P false b0 w=.go b0' w' es) (ih:All C Fin ms .fin0 k kW a0 b0' oM oW):Turn C Fin gs w sl' t C.j:=by
 have hbk:=h.TW AV;have hsm:=hbk.sm hb;obtain⟨w',hw'⟩:=Tv h.c1;obtain⟨f1,f2,f3,f4,f5,f6⟩:=XZ hw'
 have hwk:woken C.P b b0' w' a=a.again w':=by
  unfold woken;rw[Xa hsm,hmw,hr];rfl
 have oN:fZ C ms .fin0 oM (woken C.P b b0' w' a) a0:=by
  rcases h.MZ with ⟨h1,h2⟩|⟨h1,h2,z,rfl,h3⟩|⟨h1,h2,h3,h4,h5⟩;rw[MG h1];exact .inl ⟨h1,h2⟩
  ·rw[hwk];obtain⟨s',hs'⟩:=f1;rw[again_recv_closed hs'];exact .inl ⟨rfl,rfl,rfl,rfl⟩
  rcases Zc (P:=C.P) (g:=b) (g':=b0') (w':=w') h3 h4 with e|e;rw[e];exact .inr (.inr ⟨h1,AV,h3,h4,h5⟩);rw[e];exact .inl ⟨rfl,h5⟩
 obtain⟨gs',t',a',oO,h1,h2,h3⟩:=U2 (sl':=sl') (SI:=OW) (Wh:=oW) (ws':=.fin0) (kW':=kW) h hsm (hs w w' (h.iw AV) hw') (λ_=>hr) (by rw[f2];exact Bd _) (λx hx hO hS=>f3 x λe=>hS (by rw[e];exact OY C)) ⟨f4,f5,f6⟩
  (λx=>⟨.inl,λy=>y.elim id λz=>by omega⟩) (λe he=>vk (OY C) (h.Dh (OY C)).2.1 (h.Dh (OY C)).2.2.2 (by rw[f2];exact (h.Dh (OY C)).1) ((hce e he).elim (λx=>.inr (.inl x)) (λx=>.inr (.inr x)))) h.ow
  (λ_=>oW.st w w' (h.iw AV) (λx hx=>f3 x λe=>by
   rcases hx with hx|hx;exact (h.Dh (OY C)).2.1 (by rw[<- e];exact h.ow x hx)
   exact (h.Dh (OY C)).2.2.2 (by rw[<- e];exact hx)) (by rw[f2];exact Bd _) f4 f5)
  (λe=>by rw[jR hce];exact h.dw AV) (λe=>by cases e) f1 (h.c2.keep (f3 _ (H8 h.ne.1))) (by have:=h.wg.keep (f3 _ h.ne.2.1);exact this)
  (λe=>⟨λs e=>(by cases e),λ_=>by
   obtain⟨q1,q2⟩:=(h.kk e).1 s rfl;rcases hk with hk|hk;rw[q2] at hk;cases hk
   rw[<- q1];exact hk⟩) (λe=>by cases e) oN (.inr hr)
 exact⟨gs',w',t',h1,h2,ih h3⟩
theorem AI6(hf:ws.free=true)(h:St C ms ws k kW a0 b0 oM oW gs w t q a b OW dW)(hb:b.status=.running)(hr:b0'.status=.running)(hs:Af C.P false b0 w=.go b0' w #[])(ih:All C Fin ms ws k kW a0 b0' oM oW):Turn C Fin gs w sl' t C.j:=by
 (have hq:ws≠ .quit:=λe=>by rw[e] at hf;cases hf);(have hnw: ∀s,ws≠ .work s:=λs e=>by rw[e] at hf;cases hf);have hsm:=(h.TW hq).sm hb
 obtain⟨gs',t',a',oO,h1,h2,h3⟩:=U2 (sl':=sl') (SI:=OW) (Wh:=oW) (ws':=ws) (kW':=kW) h hsm hs (λ_=>hr) (Bd _) (λ_ _ _ _=>rfl) ⟨rfl,rfl,rfl⟩ (λx=>⟨.inl,λy=>y.elim id λz=>by omega⟩) (λe he=>by simp at he) h.ow h.iw
  (λe=>h.dw e) (λe=>Ak e hq) h.c1 h.c2 h.wg h.kk (LJ h.rel λop hop=>by obtain⟨e,he,_⟩:=Kr hop;simp at he) (Rl h.MZ λ_ e=>h.c1.keep rfl |>λx=>by rw[e] at x;exact x).1 (.inr hr)
 exact⟨gs',w,t',h1,h2,ih h3⟩
theorem ABw{m:Mark}(hf:ws.free=true)(hf':ws'.free=true)(h:St C ms ws k kW a0 b0 oM oW gs w t q a b OW dW)(hb:b.status=.running)(hr:b0'.status=.running)(hs: ∀w,Live C w->Af C.P false b0 w=.go b0' w #[mkS m])
  (hm:(MemAct.mark m).touch? =AB/\m≠ .release (GK C.wg)/\(MemAct.mark m).low w.heap.size) (hd:Ei ws.deaf #[mkS m]=ws'.deaf) (hw: ∀w,MK C ms ws w->MK C ms ws' w)
  (hrel:ws'.rel=true->∃r,LH C (t++Dc C.j b.frame.fn b.frame.place #[mkS m]) r) (ih:All C Fin ms ws' k kW a0 b0' oM oW):Turn C Fin gs w sl' t C.j:=by
 (have hq:ws≠ .quit:=λe=>by rw[e] at hf;cases hf);(have hq':ws'≠ .quit:=λe=>by rw[e] at hf';cases hf');(have hw1:ws.JI=false:=by cases ws<;>first|rfl|cases hf);(have hw2:ws'.JI=false:=by cases ws'<;>first|rfl|cases hf');have hsm:=(h.TW hq).sm hb
 have oN:fZ C ms ws' oM (woken C.P b b0' w a) a0:=by
  rcases h.MZ with ⟨h1,h2⟩|⟨_,h2,_⟩|⟨h1,h2,h3,h4,h5⟩;rw[MG h1];exact .inl ⟨h1,h2⟩;rw[hw1] at h2;cases h2;rcases Zc (P:=C.P) (g:=b) (g':=b0') (w':=w) h3 h4 with e|e
  ·rw[e];exact .inr (.inr ⟨h1,hq',h3,h4,h5⟩)
  rw[e];exact .inl ⟨rfl,h5⟩
 obtain⟨gs',t',a',oO,h1,h2,h3⟩:=U2 (sl':=sl') (SI:=OW) (Wh:=oW) (ws':=ws') (kW':=kW) h hsm (hs w h.wg.live) (λ_=>hr) (Bd _) (λ_ _ _ _=>rfl) ⟨rfl,rfl,rfl⟩ (λx=>⟨.inl,λy=>y.elim id λz=>by omega⟩)
  (λe he=>by simp at he;subst he;exact gI hm.1 hm.2.1 hm.2.2) h.ow (λ_=>h.iw (.inr trivial)) (λ_=>by rw[h.dw hq];exact hd) (λe=>Ak e hq') (by have:=h.c1;rw[hw1] at this;rw[hw2];exact this) h.c2 (hw w h.wg)
  (λe=>⟨λs e2=>(by rw[e2] at hf';cases hf'),λ_=>(h.kk e).2 hw1⟩) hrel oN (.inr hr)
 exact⟨gs',w,t',h1,h2,ih h3⟩
theorem oP(hf:ws.free=true)(hf2:ws.deaf=1)(hrl:ws.rel=true)(hf':ws'.JI=false)(_:ws'.rel=true)(h:St C ms ws k kW a0 b0 oM oW gs w t q a b OW dW)(hb:b.status=.running)(hs:Af C.P false b0 w=.go b0' w' es)
  (hw':(∀x,x≠C.wg->w'.heap[x]? =w.heap[x]?)/\w'.heap.size=w.heap.size/\w'.tape=w.tape/\w'.os=w.os/\w'.output=w.output)
  (hes: ∀e∈es,(∃o x,e=⟨.cell ⟨C.wg,o,AB⟩,x,true⟩)\/e=mkS .disable\/e=mkS .enable) (hr:ws'≠ .quit->b0'.status=.running) (hd:ws'≠ .quit->Ei ws.deaf es=ws'.deaf)
  (hqu:ws'=.quit->∃n,QuitsD C.P n (Ei 1 es) b0') (hwg:MK C ms ws' w') (hdf: ∀m e,es[m]? =AA e->(CY e).touch? ≠AB->Ei 1 (es.extract 0 m)≠0)
  (oN:fZ C ms ws' oM (woken C.P b b0' w' a) a0) (hnb:(woken C.P b b0' w' a).status=.running\/b0'.status=.running) (ih:All C Fin ms ws' k kW a0 b0' oM oW):Turn C Fin gs w sl' t C.j:=by
 (have hq:ws≠ .quit:=λe=>by rw[e] at hf;cases hf);(have hw1:ws.JI=false:=by cases ws<;>first|rfl|cases hf);have hsm:=(h.TW hq).sm hb;have hdw:dW=1:=(h.dw hq).trans hf2;obtain⟨f1,f2,f3,f4,f5⟩:=hw'
 obtain⟨gs',t',a',oO,h1,h2,h3⟩:=U2 (sl':=sl') (SI:=OW) (Wh:=oW) (ws':=ws') (kW':=kW) h hsm hs hr (by rw[f2];exact Bd _) (λx hx hO hS=>f1 x λe=>hS (by rw[e];exact IY C)) ⟨f3,f4,f5⟩ (λx=>⟨.inl,λy=>y.elim id λz=>by omega⟩)
  (λe he=>by
   rcases hes e he with h1|h1|h1;exact vk (IY C) (h.Dh (IY C)).2.1 (h.Dh (IY C)).2.2.2 (by rw[f2];exact (h.Dh (IY C)).1) (.inl h1);subst h1;exact gI rfl AV trivial
   subst h1;exact gI rfl AV trivial) h.ow
  (λ_=>oW.st w w' (h.iw (.inr trivial)) (λx hx=>f1 x λe=>by
   rcases hx with hx|hx;exact (h.Dh (IY C)).2.1 (by rw[<- e];exact h.ow x hx)
   exact (h.Dh (IY C)).2.2.2 (by rw[<- e];exact hx)) (by rw[f2];exact Bd _) f3 f4)
  (λe=>by rw[h.dw hq];exact hd e) (λe=>by rw[hdw];exact hqu e) (by have:=h.c1.keep (f1 _ (H8 h.ne.2.1));rw[hw1] at this;rw[hf'];exact this) (h.c2.keep (f1 _ (H8 h.ne.2.2))) hwg
  (λe=>⟨λs e2=>(by rw[e2] at hf';cases hf'),λ_=>(h.kk e).2 hw1⟩)
  (λ_=>by
   obtain⟨r,hr⟩:=h.rel hrl;refine⟨r,hr.AI3 λm e hm=>⟨λx hx hxm=>?_,λhx=>?_⟩⟩
   ·rcases hes e (mY hm) with ⟨o,y,rfl⟩|rfl|rfl
    ·simp only[NV,DL,DR] at hx;subst hx;exact⟨rfl,rfl⟩
    simp[mkS,CY,DL] at hx;simp[mkS,CY,DL] at hx
   rw[h.cf.dw,hdw];exact hdf m e hm hx) oN hnb
 exact⟨gs',w',t',h1,h2,ih h3⟩
theorem AHW(x y:Be)(hx:x.loc≠ .mark .disable/\x.loc≠ .mark .enable)(hy:y.loc≠ .mark .disable/\y.loc≠ .mark .enable): ∀m e,(#[x,y]:Array Be)[m]? =AA e->(CY e).touch? ≠AB->Ei 1 ((#[x,y]:Array Be).extract 0 m)≠0:=by
 intro m e _ _;rw[Kt];simp;intro z hz
 have:z∈(#[x,y]:Array Be):=by
  obtain⟨i,hi,rfl⟩:=nN.1 hz;rw[AIu];exact Array.getElem_mem _
 simp only[IW,BF,BH,or_false] at this;rcases this with rfl|rfl;exact hx;exact hy
theorem vz(x:Be)(hx:x.loc≠ .mark .disable/\x.loc≠ .mark .enable): ∀m e,(#[x]:Array Be)[m]? =AA e->(CY e).touch? ≠AB->Ei 1 ((#[x]:Array Be).extract 0 m)≠0:=by
 intro m e _ _;rw[Kt];simp;intro z hz
 have:z∈(#[x]:Array Be):=by
  obtain⟨i,hi,rfl⟩:=nN.1 hz;rw[AIu];exact Array.getElem_mem _
 simp only[IW,BF,BH,or_false] at this;subst this;exact hx
theorem AHX(c:Nat): ∀m e,(JC (OX c))[m]? =AA e->(CY e).touch? ≠AB->Ei 1 ((JC (OX c)).extract 0 m)≠0:=by
 intro m e hm ht;rcases m with _|_|_|_|m;simp[JC] at hm;subst hm;simp[CY,DL] at ht;simp[JC,Ei];simp[JC,Ei];simp[JC] at hm;subst hm;simp[CY,DL] at ht;simp[JC] at hm
theorem AEW(h:fZ C ms ws oM a a0)(hw:ws.JI=false)(hm:ms≠ .ws2):a.status=.running/\Sm a a0:=by
 rcases h with h|⟨_,h2,_⟩|⟨h1,_⟩;exact h;rw[hw] at h2;cases h2;exact Ak h1 hm
theorem AP7{b1 b2:Ad}(h:St C ms .fin2 k kW a0 b0 oM oW gs w t q a b OW dW)(hb:b.status=.running)(h1: ∀w,WA C w KQ 0->Af C.P false b0 w=.go b1 (w.setCell (GK C.wg) (.int .u64 0)) #[JE C,Uz C])(hq:QuitsD C.P n 1 b1)
  (hr2:b2.status=.running) (h2: ∀w,WA C w (KQ+1) 0->Af C.P false b0 w=.go b2 (w.setCell (GK C.wg) (.int .u64 1)) #[JE C,Uz C]) (ih1:All C Fin ms .quit k kW a0 b1 oM oW) (ih2:All C Fin ms .Nz k kW a0 b2 oM oW):Turn C Fin gs w sl' t C.j:=by
 have hes: ∀e∈(#[JE C,Uz C]:Array Be),(∃o x,e=⟨.cell ⟨C.wg,o,AB⟩,x,true⟩)\/e=mkS .disable\/e=mkS .enable:=λe he=>by
  simp only[IW,BF,BH,or_false] at he;rcases he with rfl|rfl;exact .inl ⟨0,false,rfl⟩;exact .inl ⟨0,true,rfl⟩
 have hds:Ei 1 #[JE C,Uz C]=1:=Kt (λe he=>by
  simp only[IW,BF,BH,or_false] at he
  rcases he with rfl|rfl<;>simp[JE,Uz]) 1
 have hdf:=AHW (JE C) (Uz C) (by simp[JE]) (by simp[Uz]);have hwf: ∀v:AQ,_:=λv=>N7 w (GK C.wg) v;rcases h.wg with ⟨hm,hw⟩|⟨hm,hw⟩
 ·(have hm2:ms≠ .ws2:=by rcases hm with e|e|e<;>rw[e]<;>simp);obtain⟨har,ANQ⟩:=AEW h.MZ rfl hm2;refine oP (ws':=.quit) rfl rfl rfl rfl rfl h hb (h1 w hw) (hwf _) hes (λe=>Ak rfl e) (λe=>Ak rfl e) (λ_=>⟨n,by rw[hds];exact hq⟩) (.inr ⟨hm2,hw.setSt 0⟩) hdf (.inl ?_) ?_ ih1;rw[MG har];exact⟨har,ANQ⟩;rw[MG har];exact .inl har
 refine oP (ws':=.Nz) rfl rfl rfl rfl rfl h hb (h2 w hw) (hwf _) hes (λ_=>hr2) (λ_=>hds) (λe=>by cases e) ⟨hm,hw.setSt 1⟩ hdf ?_ (.inr hr2) ih2;have:=(Rl (P:=C.P) (g:=b) (g':=b2) (w':=w.setCell (GK C.wg) (.int .u64 1)) h.MZ (λ_ e=>by cases e)).1;rcases this with q1|⟨_,q2,_⟩|⟨q1,_,q3⟩;exact .inl q1;(cases q2);exact .inr (.inr ⟨q1,AV,q3⟩)
theorem AP8(h:St C ms .Nz k kW a0 b0 oM oW gs w t q a b OW dW)(hb:b.status=.running)(hr:b0'.status=.running)(h1: ∀w,WA C w 1 0->Af C.P false b0 w=.go b0' w #[JE C])(ih:All C Fin ms .Nz k kW a0 b0' oM oW):Turn C Fin gs w sl' t C.j:=by
 refine oP (ws':=.Nz) rfl rfl rfl rfl rfl h hb (h1 w h.wg.2) ⟨λ_ _=>rfl,rfl,rfl,rfl,rfl⟩ (λe he=>?_) (λ_=>hr) (λ_=>Kt (λe he=>?_) 1) (λe=>by cases e) h.wg (vz _ (by simp[JE])) ?_ (.inr hr) ih;simp at he;subst he;exact .inl ⟨0,false,rfl⟩;simp at he;subst he;simp[JE];exact (Rl h.MZ (λ_ e=>by cases e)).1
theorem AP9(h:St C ms .Nz k kW a0 b0 oM oW gs w t q a b OW dW)(hb:b.status=.running)(hr:b0'.status=.running)(h1: ∀w,WA C w 1 0->Af C.P false b0 w=.go b0' (w.setCell (GK C.wg) (.int .u64 0)) #[Uz C])(ih:All C Fin ms .U0 k kW a0 b0' oM oW):Turn C Fin gs w sl' t C.j:=by
 refine oP (ws':=.U0) rfl rfl rfl rfl rfl h hb (h1 w h.wg.2) (N7 w (GK C.wg) _) (λe he=>?_) (λ_=>hr) (λ_=>Kt (λe he=>?_) 1) (λe=>by cases e) ⟨h.wg.1,h.wg.2.setSt 0⟩ (vz _ (by simp[Uz])) ?_ (.inr hr) ih;simp at he;subst he;exact .inl ⟨0,true,rfl⟩;simp at he;subst he;simp[Uz];have:=(Rl (P:=C.P) (g:=b) (g':=b0') (w':=w.setCell (GK C.wg) (.int .u64 0)) h.MZ (λ_ e=>by cases e)).1;rcases this with q1|⟨_,q2,_⟩|⟨q1,_,q3⟩;exact .inl q1;(cases q2);exact .inr (.inr ⟨q1,AV,q3⟩)
theorem AQA(h:St C ms .U0 k kW a0 b0 oM oW gs w t q a b OW dW)(hb:b.status=.running)(hmw:mayWake C.P b0=true)(h1: ∀w,WA C w 0 0->Af C.P false b0 w=.go b0' (w.setCell (OX C.wg) (.int .u32 1)) (JC (OX C.wg)))(hq:QuitsD C.P n 1 b0')
  (ih:All C Fin ms .quit k kW a0 b0' oM oW):Turn C Fin gs w sl' t C.j:=by
 have hwk:woken C.P b b0' (w.setCell (OX C.wg) (.int .u32 1)) a=a.again (w.setCell (OX C.wg) (.int .u32 1)):=by
  unfold woken;rw[Xa ((h.TW AV).sm hb),hmw];rcases hq.status with e|e<;>rw[e]<;>rfl
 have ha:(woken C.P b b0' (w.setCell (OX C.wg) (.int .u32 1)) a).status=.running/\Sm (woken C.P b b0' (w.setCell (OX C.wg) (.int .u32 1)) a) a0:=by
  rcases h.MZ with ⟨q1,q2⟩|⟨_,q2,_⟩|⟨_,_,q3,q4,q5⟩;rw[MG q1];exact⟨q1,q2⟩;(cases q2);rw[hwk];(have:a.again (w.setCell (OX C.wg) (.int .u32 1))={a with status:=.running}:=by simp[Goroutine.again,q3,q4]);rw[this];exact⟨rfl,q5⟩
 refine oP (ws':=.quit) rfl rfl rfl rfl rfl h hb (h1 w h.wg.2) (N7 w (OX C.wg) _) (λe he=>?_) (λe=>Ak rfl e) (λe=>Ak rfl e) (λ_=>⟨n,?_⟩) (.inl ⟨h.wg.1,h.wg.2.setSm 1⟩) (AHX _) (.inl ha) (.inl ha.1) ih
 ·simp only[JC,IW,BF,BH,or_false] at he;rcases he with rfl|rfl|rfl|rfl;exact .inr (.inl rfl);exact .inl ⟨1,false,rfl⟩;exact .inl ⟨1,true,rfl⟩;exact .inr (.inr rfl)
 (have:Ei 1 (JC (OX C.wg))=1:=by simp[JC,Ei]);rw[this];exact hq
end
end
section
variable {g:Ad}{bk:Nat}{ob:Obj}{xv:AQ}
def Hand (C:Cx) (Fin:Nat->Ad->Own C.SR->Prop) (ms:MS) (k:Nat) (a0:Ad) (oM:Own C.SR):Prop:=
 ms=.work->∀z w,oM.I w->MX w C.bs false->Af C.P true a0 w=.comm a0 #[rcase C.bc z] true (.recv true) w #[]->∀xv bk ob,C.Cs k xv bk ob->
  ∃o':Own C.SR,(∀x,o'.O x↔oM.O x\/x=bk)/\(∀w,oM.I w->¬oM.O bk->w.heap[bk]? =AA ob->o'.I w)/\
   ∀{ws kW b0 oW},PW C ws kW b0 oW->All C Fin .work ws (k+1) kW (a0.finishComm C.P #[rcase C.bc z] (.recv true) 0 xv true) b0 o' oW
section
variable {C:Cx} {Fin:Nat->Ad->Own C.SR->Prop} {ms:MS} {ws:WS} {k kW:Nat} {a0 b0 b0':Ad} {oM TU oW Wh:Own C.SR} {gs:Array Ad} {w w':AL} {sl':Option (Nat×Nat)} {t:CJ} {q:Nat->Nat} {a b:Ad} {OW:Nat->Prop} {dW:Nat}
theorem J5(g:Nat)(fn:Bl)(pos:String):Dc g fn pos #[]= #[]:=rfl
theorem jS(h:St C ms ws k kW a0 b0 oM oW gs w t q a b OW dW){i:Nat}(hi:gs[i]? =AA g)(h0:0<i)(hj:i≠C.j)(c:Nat)(sd:Bool):offersAt g c sd=[]:=by
 refine Yn ?_ c sd;rcases (h.cf.old i g h0 hj hi).status with e|e<;>rw[e]<;>simp
theorem AGE(h:St C ms ws k kW a0 b0 oM oW gs w t q a b OW dW)(c:Nat)(sd:Bool):partners (gs.setIfInBounds C.j ph) c sd=(offersAt a c sd).map λn=>(0,n):=by
 have hjp:=h.cf.hj;refine partners_one (j:=0) (g:=a) (by rw[Dz Aa];exact h.cf.at0) λi x hi hx=>?_;rcases getElem?_stand gs C.j i x hx with ⟨_,rfl⟩|⟨h1,h2⟩;rfl;exact jS h h2 Aa h1 c sd
theorem AMX(h:St C ms ws k kW a0 b0 oM oW gs w t q a b OW dW)(c:Nat)(sd:Bool):partners (gs.setIfInBounds 0 ph) c sd=(offersAt b c sd).map λn=>(C.j,n):=by
 have hjp:=h.cf.hj;refine partners_one (j:=C.j) (g:=b) (by rw[Dz Aa];exact h.cf.Uy) λi x hi hx=>?_;rcases getElem?_stand gs 0 i x hx with ⟨_,rfl⟩|⟨h1,h2⟩;rfl;exact jS h h2 Aa hi c sd
theorem ABx(h:g.offers=AB)(c:Nat)(sd:Bool):offersAt g c sd=[]:=by
 unfold offersAt;cases g.status<;>simp[h]
theorem ABy(h:St C .work (.work false) k kW a0 b0 oM oW gs w t q a b OW dW){z z1 z2:AQ}{s:Nat}{gs':Array Ad}{f0 fj:Bl}{p0 pj:String}(hc:w.heap[C.bc]? =AA (.chan 0 #[] false s s false))(hbk:oW.O bk)(hob: ∀w,oW.I w->w.heap[bk]? =AA ob)
  (hO: ∀x,TU.O x↔oM.O x\/x=bk) (hI: ∀w,oM.I w->¬oM.O bk->w.heap[bk]? =AA ob->TU.I w) (hO2: ∀x,Wh.O x->oW.O x/\x≠bk) (hI2: ∀w,oW.I w->Wh.I w)
  (hgs:gs'=(gs.setIfInBounds C.j (b0.finishComm C.P (EO C.bc C.bs xv z1 z2) .select 0 AU false)).setIfInBounds 0 (a0.finishComm C.P #[rcase C.bc z] (.recv true) 0 xv true)):
  St C .work (.work false) (k+1) (kW+1) (a0.finishComm C.P #[rcase C.bc z] (.recv true) 0 xv true) (b0.finishComm C.P (EO C.bc C.bs xv z1 z2) .select 0 AU false) TU Wh gs' (w.setChan C.bc 0 #[] false (s+1) (s+1) false)
   (t++FU C.j C.bc s s f0 fj p0 pj) q (a0.finishComm C.P #[rcase C.bc z] (.recv true) 0 xv true) (b0.finishComm C.P (EO C.bc C.bs xv z1 z2) .select 0 AU false) (λx=>OW x/\x≠bk) 0:=by
 have hd:dW=0:=h.dw AV;subst hd;have hcf:=AI4 (f0:=f0) (fj:=fj) (p0:=p0) (pj:=pj) h.cf hc rfl (h.ow bk hbk) (hob w (h.iw AV)) hO hI hgs;have hbc:C.bc<w.heap.size:=(Dj.1 hc).1
 have hheap: ∀x,x≠C.bc->(w.setChan C.bc 0 #[] false (s+1) (s+1) false).heap[x]? =w.heap[x]? :=λx hx=>by
  simp only[Ym];rw[Dz (H8 hx)]
 have hsz:(w.setChan C.bc 0 #[] false (s+1) (s+1) false).heap.size=w.heap.size:=by simp[Ym]
 refine⟨hcf,h.ne,.inl ⟨rfl,.refl _⟩,λ_=>.inl ⟨rfl,.refl _⟩,λe=>(by cases e),.inl rfl,λ_=>hI2 _ (oW.st w _ (h.iw AV) (λx hx=>hheap x λe=>?_) (by rw[hsz];exact Bd _) rfl rfl),λx hx=>⟨h.ow x (hO2 x hx).1,(hO2 x hx).2⟩,⟨s+1,by simp[Ym,hbc,WS.JI]⟩,
  h.c2.keep (hheap _ (H8 h.ne.1)),h.wg.keep (hheap _ h.ne.2.1),λ_=>rfl,λ_=>⟨λs' e=>?_,λe=>(by simp[WS.JI] at e)⟩,λe=>(by cases e)⟩
 ·rcases hx with hx|hx;exact (h.Dh (OY C)).2.1 (by rw[<- e];exact h.ow x hx);exact (h.Dh (OY C)).2.2.2 (by rw[<- e];exact hx)
 (cases e);exact⟨by rw[((h.kk rfl).1 false rfl).1],rfl⟩
theorem AMY(h:St C ms (.work false) k kW a0 b0 oM oW gs w t q a b OW dW)(hb:b.status=.running)(hsl:a.status=.running->ABv C Fin ms (.work false) k kW a0 b0 oM oW gs.size q){z1 z2:AQ}(hoff:b0.offers=AB)(_:b0.status=.running)
  (hcs:C.Cs kW xv bk ob) (hbk:oW.O bk) (hob: ∀w,oW.I w->w.heap[bk]? =AA ob) (hs: ∀w,oW.I w->Af C.P false b0 w=.comm b0 (EO C.bc C.bs xv z1 z2) true .select w #[])
  (hO2: ∀x,Wh.O x->oW.O x/\x≠bk) (hI2: ∀w,oW.I w->Wh.I w) (hand:Hand C Fin ms k a0 oM) (hpw:PW C (.work false) (kW+1) (b0.finishComm C.P (EO C.bc C.bs xv z1 z2) .select 0 AU false) Wh)
  (ihs:All C Fin ms (.work true) k kW a0 (b0.finishComm C.P (EO C.bc C.bs xv z1 z2) .select 1 z2 false) oM oW):Turn C Fin gs w sl' t C.j:=by
 have hjp:=h.cf.hj;(have hj0:(C.j==0)=false:=by simp;omega);have hsm:=(h.TW AV).sm hb;(have hst:Af C.P (C.j==0) b w=.comm b0 (EO C.bc C.bs xv z1 z2) true .select w #[]:=by rw[hj0,hsm.step];exact hs w (h.iw AV));obtain⟨s,hc⟩:=h.c1;obtain⟨s2,hc2⟩:=h.c2;have hc:w.heap[C.bc]? =AA (.chan 0 #[] false s s false):=hc;have hp1:=AGE h C.bc false;have hp2:=AGE h C.bs true;have hdw:dW=0:=h.dw AV;by_cases hm:ms=.work
 ·subst hm;(have hc2:w.heap[C.bs]? =AA (.chan 0 #[] false s2 s2 false):=by simpa using hc2);rcases h.MZ with ⟨ha,ANQ⟩|⟨_,_,z,rfl,hcm⟩|⟨e,_⟩
  ·
   rw[Yn (by rw[ha];simp)] at hp1 hp2;have hr:=AEU (sl:=sl') h.ne.1 h.cf.Uy hst hc hc2 hp1 hp2;rw[J5] at hr;have hcf:=ABu (b':=parked b0 (EO C.bc C.bs xv z1 z2) .select) (u:=#[]) h.cf (λop hop=>by simp at hop) (oO:=dW) (by simp;exact h.cf.dw);refine⟨_,w,#[],hr,AV,hsl ha AV ⟨hcf,h.ne,h.MZ,λ_=>.inr ⟨rfl,rfl,xv,z1,z2,rfl,hs⟩,λe=>(by cases e),.inl ha,h.iw,h.ow,h.c1,h.c2,h.wg,h.dw,h.kk,λe=>(by cases e)⟩ rfl⟩
  ·
   have ho1:=offersAt_parked_recv a0 C.bc z (.recv true) C.bc;have ho2:=offersAt_parked_recv' a0 C.bc z (.recv true) C.bs;rw[ho1] at hp1;rw[ho2] at hp2;simp only[if_true,BN,EG] at hp1 hp2;have hr:=AET (sl:=sl') h.ne.1 h.cf.Uy hst hc hc2 Aa h.cf.at0 hp1 hp2;rw[J5] at hr;obtain⟨q1,q2⟩:=(h.kk rfl).1 false rfl;obtain⟨o',h1,h2,h3⟩:=hand rfl z w h.cf.im ⟨s2,hc2⟩ (hcm w h.cf.im) xv bk ob (by rw[<- q1];exact hcs)
   have hcomm:(gs.setIfInBounds 0 (a0.finishComm C.P #[rcase C.bc z] (.recv true) 0 xv true)).setIfInBounds C.j (b0.finishComm C.P (EO C.bc C.bs xv z1 z2) .select 0 AU false)=(gs.setIfInBounds C.j (b0.finishComm C.P (EO C.bc C.bs xv z1 z2) .select 0 AU false)).setIfInBounds 0 (a0.finishComm C.P #[rcase C.bc z] (.recv true) 0 xv true):=by
    rw[Array.setIfInBounds_comm];omega
   have hS:=ABy (s:=s) (z:=z) (xv:=xv) (z1:=z1) (z2:=z2) (f0:=a0.frame.fn) (fj:=b0.frame.fn) (p0:=a0.frame.place) (pj:=b0.frame.place) h hc hbk hob h1 h2 hO2 hI2 hcomm;exact⟨_,_,_,hr,AV,h3 hpw hS⟩
  cases e
 have hc2:w.heap[C.bs]? =AA (.chan 0 #[] true s2 s2 false):=by simpa[hm] using hc2
 have hao:offersAt a C.bc false=[]/\offersAt a C.bs true=[]:=by
  rcases h.MZ with ⟨ha,_⟩|⟨e,_⟩|⟨_,_,_,ho,_⟩;exact⟨Yn (by rw[ha];simp) _ _,Yn (by rw[ha];simp) _ _⟩;exact Ak e hm;exact⟨ABx ho _ _,ABx ho _ _⟩
 rw[hao.1] at hp1;rw[hao.2] at hp2;have hr:=zY (sl:=sl') h.ne.1 h.cf.Uy hst hc hc2 hp1 hp2;rw[J5] at hr
 have hcf:=ABu (b':=b0.finishComm C.P (EO C.bc C.bs xv z1 z2) .select 1 z2 false) (u:=#[{g:=C.j,fn:=b0.frame.fn,pos:=b0.frame.place,act:=.recvClosed C.bs}]) h.cf (λop hop=>by
  simp at hop;subst hop;exact⟨rfl,rfl,(h.Dh (SN C)).1,AV⟩) (oO:=dW) (by rw[Deaf_push];exact h.cf.dw)
 exact⟨_,w,_,by simpa using hr,AV,ihs ⟨hcf,h.ne,by
   rcases h.MZ with x|⟨e,_⟩|⟨e1,e2,e3⟩;exact .inl x;exact Ak e hm
   exact .inr (.inr ⟨e1,AV,e3⟩),λ_=>.inl ⟨rfl,.refl _⟩,λe=>(by cases e),.inr rfl,λ_=>h.iw AV,h.ow,⟨s,hc⟩,⟨s2,by simpa[hm] using hc2⟩,h.wg,λ_=>hdw,λe=>Ak e hm,λe=>(by cases e)⟩⟩
end
end
section
variable {es:Array Be}
section
variable {C:Cx} {Fin:Nat->Ad->Own C.SR->Prop} {ms ms':MS} {ws:WS} {k kW:Nat} {a0 a0' b0 b0':Ad} {oM TU oW Wh:Own C.SR} {gs:Array Ad} {w w':AL} {sl':Option (Nat×Nat)} {t:CJ} {q:Nat->Nat} {a b:Ad} {OW:Nat->Prop} {dW:Nat}
theorem AI7(h:St C .work ws k kW a0 b0 oM oW gs w t q a b OW dW)(ha:a.status=.running){o':Own C.SR}(hs:Af C.P true a0 w=.go a0' w' es)(hp:Np oM o' w w' es)(hr:a0'.status=.running)
  (ih:All C Fin .work ws k kW a0' b0 o' oW):Turn C Fin gs w sl' t 0:=by
 have kp: ∀x,C.SY x->w'.heap[x]? =w.heap[x]? :=λx hx=>hp.keep x (h.Dh hx).1 (h.Dh hx).2.2.1
 obtain⟨gs',t',b',h1,h2,h3⟩:=gJ (sl':=sl') (ms':=.work) (k':=k) (TU:=o') h (h.MZ.sm ha) hs hr hp.sz (λx hx hO _=>hp.keep x hx hO) hp.same hp.O' hp.I' (hp.ev0 h.cf) (by rw[jQ hp]) (h.c1.keep (kp _ (OY C))) (h.c2.keep (kp _ (SN C))) (h.wg.keep (kp _ (IY C)))
  (λe=>(ve (h.TW e) λ_ e2=>⟨by have:=h.c1.keep (kp _ (OY C));rw[e2] at this;exact this,by have:=h.c2.keep (kp _ (SN C));simpa using this⟩).1) h.kk
 exact⟨gs',w',t',h1,h2,ih h3⟩
theorem AEX(h:PW C (.work false) kW b0 oW){w:AL}(hI:oW.I w)(hc:MX w C.bc false){xv z1 z2:AQ}(hs:Af C.P false b0 w=.comm b0 (EO C.bc C.bs xv z1 z2) true .select w #[]):
  ∃bk ob o',C.Cs kW xv bk ob/\oW.O bk/\(∀w,oW.I w->w.heap[bk]? =AA ob)/\(∀x,o'.O x->oW.O x/\x≠bk)/\(∀w,oW.I w->o'.I w)/\PW C (.work false) (kW+1) (b0.finishComm C.P (EO C.bc C.bs xv z1 z2) .select 0 AU false) o':=by
 cases h with
 |QS nx no hr hst _=>
  obtain⟨w',es,h1,_⟩:=hst w hI;rw[h1] at hs;cases hs
 | @sel _ _ _ o' xv' bk ob z1' z2' hr ho h1 h2 h3 h4 h5 h6 h7 _=>
  have h8:=h4 w hI;rw[hs] at h8;simp only[GStep.comm.injEq,EO,scase,rcase,AD0,Ir,CommCase.mk.injEq,DR,and_true,true_and] at h8;obtain⟨⟨e1,e2⟩,e3⟩:=h8;subst e1 e2 e3;exact⟨bk,ob,o',h1,h2,h3,h5,h6,h7⟩
 |clo hr _ _ _ _ hst _=>
  obtain⟨w',hw'⟩:=Tv hc;rw[hst w w' hI hw'] at hs;cases hs
 |free _ hf _ _ _=>cases hf
theorem AI8(hpw:PW C ws kW b0 oW)(h:St C .work ws k kW a0 b0 oM oW gs w t q a b OW dW)(ha:a.status=.running)(hsl:b.status≠ .blocked->XY C Fin .work ws k kW a0 b0 oM oW gs.size q){z:AQ}{go:AQ->Nat->Obj->Own C.SR}
  (hs: ∀w,oM.I w->Af C.P true a0 w=.comm a0 #[rcase C.bc z] true (.recv true) w #[]) (hO: ∀xv bk ob,C.Cs k xv bk ob->∀x,(go xv bk ob).O x↔oM.O x\/x=bk) (hI: ∀xv bk ob,C.Cs k xv bk ob->∀w,oM.I w->¬oM.O bk->w.heap[bk]? =AA ob->(go xv bk ob).I w)
  (ihg: ∀xv bk ob,C.Cs k xv bk ob->∀{ws kW b0 oW},PW C ws kW b0 oW->All C Fin .work ws (k+1) kW (a0.finishComm C.P #[rcase C.bc z] (.recv true) 0 xv true) b0 (go xv bk ob) oW)
  (ihc:k=C.N->All C Fin .work ws k kW (a0.finishComm C.P #[rcase C.bc z] (.recv true) 0 z false) b0 oM oW):Turn C Fin gs w sl' t 0:=by
 have hjp:=h.cf.hj;(have hst:Af C.P (0==0) a w=.comm a0 #[rcase C.bc z] true (.recv true) w #[]:=by rw[show ((0:Nat)==0)=true from rfl,(h.MZ.sm ha).step];exact hs w h.cf.im);obtain⟨s,hc⟩:=h.c1;have hp:=AMX h C.bc true
 cases hw:ws.JI with
 |true=>
  (have hwq:ws≠ .quit:=λe=>by rw[e] at hw;cases hw);rw[hw] at hc;have hc:w.heap[C.bc]? =AA (.chan 0 #[] false s s false):=hc;rcases h.TW hwq with ⟨hb,AI9⟩|⟨_,e2,xv,z1,z2,rfl,hcm⟩
  ·
   rw[Yn (by rw[hb];simp)] at hp;have hr:=ABq (sl:=sl') h.cf.at0 hst hc hp;rw[J5] at hr;have hcf:=ABt (a':=parked a0 #[rcase C.bc z] (.recv true)) (u:=#[]) h.cf (λop hop=>by simp at hop) (by simp;exact h.cf.dm);exact⟨_,w,#[],hr,AV,hsl (by rw[hb];simp) AV ⟨hcf,h.ne,.inr (.inl ⟨rfl,hw,z,rfl,hs⟩),h.TW,h.qu,.inr hb,h.iw,h.ow,h.c1,h.c2,h.wg,h.dw,h.kk,LJ (u:=#[]) h.rel λop hop=>by simp at hop⟩ rfl⟩
  ·
   subst e2;have ho:=(oK (v:=xv) (z1:=z1) (z2:=z2) h.ne.1 b0 .select).1;rw[ho] at hp;simp only[BN,EG] at hp;have hr:=kP (sl:=sl') h.ne.1 h.cf.at0 hst hc Aa h.cf.Uy hp;rw[J5] at hr;obtain⟨bk,ob,o',g1,g2,g3,g4,g5,g6⟩:=AEX hpw (h.iw AV) ⟨s,hc⟩ (hcm w (h.iw AV));obtain⟨q1,q2⟩:=(h.kk rfl).1 false rfl;(have g1':C.Cs k xv bk ob:=by rw[<- q1];exact g1);have hS:=ABy (s:=s) (z:=z) (xv:=xv) (z1:=z1) (z2:=z2) (f0:=a0.frame.fn) (fj:=b0.frame.fn) (p0:=a0.frame.place) (pj:=b0.frame.place) h hc g2 g3 (hO xv bk ob g1') (hI xv bk ob g1') g4 g5 rfl;exact⟨_,_,_,hr,AV,ihg xv bk ob g1' g6 hS⟩
 |false=>
  rw[hw] at hc;have hc:w.heap[C.bc]? =AA (.chan 0 #[] true s s false):=hc
  have Ze:offersAt b C.bc true=[]:=by
   by_cases hq:ws=.quit
   ·obtain⟨n,hn⟩:=h.qu hq;exact Yn (by rcases hn.status with e|e<;>rw[e]<;>simp) _ _
   rcases h.TW hq with ⟨hb,_⟩|⟨_,e2,_⟩;exact Yn (by rw[hb];simp) _ _;rw[e2] at hw;cases hw
  rw[Ze] at hp;have hr:=crowd_recv_closed (sl:=sl') h.cf.at0 hst hc hp;rw[J5] at hr
  have hcf:=ABt (a':=a0.finishComm C.P #[rcase C.bc z] (.recv true) 0 z false) (u:=#[{g:=0,fn:=a0.frame.fn,pos:=a0.frame.place,act:=.recvClosed C.bc}]) h.cf (λop hop=>by
   simp at hop;subst hop;exact⟨rfl,rfl,(h.Dh (OY C)).1,AV⟩) (by rw[Deaf_push];exact h.cf.dm)
  exact⟨_,w,_,by simpa using hr,AV,ihc ((h.kk rfl).2 hw) ⟨hcf,h.ne,.inl ⟨rfl,.refl _⟩,h.TW,h.qu,.inl rfl,h.iw,h.ow,h.c1,h.c2,h.wg,h.dw,h.kk,LJ h.rel λop hop=>by simp at hop;subst hop;exact .inr rfl⟩⟩
theorem bZ(h:MK C ms ws w)(hm:ms≠ .ws2):((ws≠ .quit/\ws≠ .Nz/\ws≠ .U0/\(ms=.work\/ms=.fV\/ms=.Vb))/\WA C w KQ 0)\/(ws=.quit/\WA C w 0 0):=by
 unfold MK at h;cases ws<;>simp only at h
 ·rcases h with ⟨a,b⟩|⟨a,_⟩;exact .inl ⟨⟨AV,AV,AV,a⟩,b⟩;exact Ak a hm
 ·rcases h with ⟨a,b⟩|⟨a,_⟩;exact .inl ⟨⟨AV,AV,AV,a⟩,b⟩;exact Ak a hm
 ·rcases h with ⟨a,b⟩|⟨a,_⟩;exact .inl ⟨⟨AV,AV,AV,a⟩,b⟩;exact Ak a hm
 ·rcases h with ⟨a,b⟩|⟨a,_⟩;exact .inl ⟨⟨AV,AV,AV,a⟩,b⟩;exact Ak a hm
 exact Ak h.1 hm;exact Ak h.1 hm;rcases h with ⟨a,_⟩|⟨_,b⟩;exact Ak a hm;exact .inr ⟨rfl,b⟩
theorem ABz{w':AL}(h:(ws≠ .quit/\ws≠ .Nz/\ws≠ .U0)/\WA C w' KQ 0)(hm:ms=.work\/ms=.fV\/ms=.Vb):MK C ms ws w':=by
 unfold MK;(cases ws<;>simp only);exact .inl ⟨hm,h.2⟩;exact .inl ⟨hm,h.2⟩;exact .inl ⟨hm,h.2⟩;exact .inl ⟨hm,h.2⟩;exact Ak rfl h.1.2.1;exact Ak rfl h.1.2.2;exact Ak rfl h.1.1
theorem AMZ(h:St C .work ws k kW a0 b0 oM oW gs w t q a b OW dW)(ha:a.status=.running)(hr:a0'.status=.running)(hmw:mayWake C.P a0=true)(hce:U1 C.bs es)
  (hs: ∀w w',oM.I w->QR w C.bs w'->Af C.P true a0 w=.go a0' w' es) (ih:All C Fin .fV ws k kW a0' b0 oM oW):Turn C Fin gs w sl' t 0:=by
 have hsm:=h.MZ.sm ha;obtain⟨w',hw'⟩:=Tv (show MX w C.bs false from h.c2);obtain⟨f1,f2,f3,f4,f5,f6⟩:=XZ hw'
 have hwk:woken C.P a a0' w' b=b.again w':=by
  unfold woken;rw[Xa hsm,hmw,hr];rfl
 have hwg:MK C .fV ws w':=by
  rcases bZ h.wg AV with ⟨h1,h2⟩|⟨rfl,h2⟩
  ·exact ABz ⟨⟨h1.1,h1.2.1,h1.2.2.1⟩,h2.keep (f3 _ h.ne.2.2)⟩ (.inr (.inl rfl))
  exact .inr ⟨AV,h2.keep (f3 _ h.ne.2.2)⟩
 obtain⟨gs',t',b',h1,h2,h3⟩:=gJ (sl':=sl') (ms':=.fV) (k':=k) (TU:=oM) h hsm (hs w w' h.cf.im hw') hr (by rw[f2];exact Bd _) (λx hx hO hS=>f3 x λe=>hS (by rw[e];exact SN C)) ⟨f4,f5,f6⟩ (λx=>⟨.inl,λy=>y.elim id λz=>by omega⟩)
  (oM.st w w' h.cf.im (λx hx=>f3 x λe=>by
   rcases hx with hx|hx;exact (h.Dh (SN C)).2.2.1 (by rw[<- e];exact hx)
   exact (h.Dh (SN C)).2.2.2 (by rw[<- e];exact hx)) (by rw[f2];exact Bd _) f4 f5)
  (λe he=>vg (SN C) (h.Dh (SN C)).2.1 (h.Dh (SN C)).2.2.2 (by rw[f2];exact (h.Dh (SN C)).1) ((hce e he).elim (λx=>.inr (.inl x)) (λx=>.inr (.inr x)))) (by rw[jR hce];rfl)
  (h.c1.keep (f3 _ h.ne.1)) f1 hwg
  (λe=>by
   rcases h.TW e with ⟨hb,AI9⟩|⟨_,e2,xv,z1,z2,rfl,_⟩;rw[MG hb];exact .inl ⟨hb,AI9⟩;rw[hwk];obtain⟨s1,hs1⟩:=f1;(have hc1:MX w' C.bc false:=by have:=h.c1.keep (f3 _ h.ne.1);rw[e2] at this;exact this);obtain⟨s2,hs2⟩:=hc1;rw[kR hs2 hs1]
   exact .inl ⟨rfl,rfl,rfl,rfl⟩) (λe=>by cases e)
 exact⟨gs',w',t',h1,h2,ih h3⟩
theorem AB0(h:St C ms ws k kW a0 b0 oM oW gs w t q a b OW dW)(hm:ms≠ .work)(hq:ws≠ .quit):b.status=.running/\Sm b b0:=by
 rcases h.TW hq with x|⟨e,_⟩;exact x;exact Ak e hm
theorem Ua(hm:ms≠ .work)(hm':ms'≠ .work)(h:St C ms ws k kW a0 b0 oM oW gs w t q a b OW dW)(ha:a.status=.running)(hs:Af C.P true a0 w=.go a0' w' es)(hr:a0'.status=.running)
  (hw':(∀x,x≠C.wg->w'.heap[x]? =w.heap[x]?)/\w'.heap.size=w.heap.size/\w'.tape=w.tape/\w'.os=w.os/\w'.output=w.output)
  (hes: ∀e∈es,Ev0 C OW w'.heap.size e) (hd:Ei ms.deaf es=ms'.deaf) (hwg:MK C ms' ws w') (ih:All C Fin ms' ws k kW a0' b0 oM oW):Turn C Fin gs w sl' t 0:=by
 obtain⟨f1,f2,f3,f4,f5⟩:=hw'
 obtain⟨gs',t',b',h1,h2,h3⟩:=gJ (sl':=sl') (ms':=ms') (k':=k) (TU:=oM) h (h.MZ.sm ha) hs hr (by rw[f2];exact Bd _) (λx hx hO hS=>f1 x λe=>hS (by rw[e];exact IY C)) ⟨f3,f4,f5⟩ (λx=>⟨.inl,λy=>y.elim id λz=>by omega⟩)
  (oM.st w w' h.cf.im (λx hx=>f1 x λe=>by
   rcases hx with hx|hx;exact (h.Dh (IY C)).2.2.1 (by rw[<- e];exact hx)
   exact (h.Dh (IY C)).2.2.2 (by rw[<- e];exact hx)) (by rw[f2];exact Bd _) f3 f4) hes hd
  (h.c1.keep (f1 _ (H8 h.ne.2.1))) (by have:=h.c2.keep (f1 _ (H8 h.ne.2.2));simpa[hm,hm'] using this) hwg
  (λe=>by obtain⟨x,y⟩:=AB0 h hm e;rw[MG x];exact .inl ⟨x,y⟩) (λe=>Ak e hm')
 exact⟨gs',w',t',h1,h2,ih h3⟩
theorem Tz(h:St C ms ws k kW a0 b0 oM oW gs w t q a b OW dW)(hsz:w'.heap.size=w.heap.size){e:Be}(he:(∃o x,e=⟨.cell ⟨C.wg,o,AB⟩,x,true⟩)\/e=mkS .disable\/e=mkS .enable):Ev0 C OW w'.heap.size e:=by
 rcases he with he|rfl|rfl;exact vg (IY C) (h.Dh (IY C)).2.1 (h.Dh (IY C)).2.2.2 (by rw[hsz];exact (h.Dh (IY C)).1) (.inl he);exact gG rfl AV trivial;exact gG rfl AV trivial
theorem Jc(w:AL):(∀x,x≠C.wg->w.heap[x]? =w.heap[x]?)/\w.heap.size=w.heap.size/\w.tape=w.tape/\w.os=w.os/\w.output=w.output:=⟨λ_ _=>rfl,rfl,rfl,rfl,rfl⟩
theorem AJA(hf:ms.free=true)(h:St C ms ws k kW a0 b0 oM oW gs w t q a b OW dW)(ha:a.status=.running)(hr:a0'.status=.running)(hs:Af C.P true a0 w=.go a0' w es)(hes: ∀e∈es,e=mkS (.write (OX C.wg)))(ih:All C Fin ms ws k kW a0' b0 oM oW):Turn C Fin gs w sl' t 0:=by
 (have hm:ms≠ .work:=λe=>by rw[e] at hf;cases hf);refine Ua hm hm h ha hs hr (Jc w) (λe he=>?_) (Kt (λe he=>by rw[hes e he];simp[mkS]) _) h.wg ih;rw[hes e he];refine⟨λx hx=>?_,by simp[mkS],(h.Dh (IY C)).1⟩;simp only[mkS,CY,DL,DR] at hx;subst hx;intro b hb;simp only[Loc.blk,DR,OX] at hb;subst hb;exact .inr (.inr ⟨IY C,(h.Dh (IY C)).2.1,(h.Dh (IY C)).2.2.2,AV⟩)
end
end
section
variable {C:Cx} {Fin:Nat->Ad->Own C.SR->Prop} {ms ms':MS} {ws:WS} {k kW:Nat} {a0 a0' b0 b0':Ad} {oM TU oW Wh:Own C.SR} {gs:Array Ad} {w w':AL} {sl':Option (Nat×Nat)} {t:CJ} {q:Nat->Nat} {a b:Ad} {OW:Nat->Prop} {dW:Nat}
theorem AQB(h:St C .fV ws k kW a0 b0 oM oW gs w t q a b OW dW)(ha:a.status=.running)(hr:a0'.status=.running)(hs: ∀w,Live C w->Af C.P true a0 w=.go a0' w #[mkS .disable])(ih:All C Fin .Vb ws k kW a0' b0 oM oW):Turn C Fin gs w sl' t 0:=by
 refine Ua (ms':=.Vb) AV AV h ha (hs w h.wg.live) hr (Jc w) (λe he=>Tz h rfl (by simp at he;exact .inr (.inl he))) rfl ?_ ih;rcases bZ h.wg AV with ⟨h1,h2⟩|⟨rfl,h2⟩
 ·exact ABz ⟨⟨h1.1,h1.2.1,h1.2.2.1⟩,h2⟩ (.inr (.inr rfl))
 exact .inr ⟨AV,h2⟩
theorem AQC{a1 a2:Ad}(h:St C .Vb ws k kW a0 b0 oM oW gs w t q a b OW dW)(ha:a.status=.running)(hr1:a1.status=.running)(hr2:a2.status=.running)(h1: ∀w,WA C w KQ 0->Af C.P true a0 w=.go a1 w #[JE C])(h2: ∀w,WA C w 0 0->Af C.P true a0 w=.go a2 w #[JE C])
  (ih1:All C Fin .Vb ws k kW a1 b0 oM oW) (ih2:All C Fin .Ql ws k kW a2 b0 oM oW):Turn C Fin gs w sl' t 0:=by
 have hev: ∀e∈(#[JE C]:Array Be),Ev0 C OW w.heap.size e:=λe he=>Tz h rfl (by simp at he;subst he;exact .inl ⟨0,false,rfl⟩);have hd:Ei 1 #[JE C]=1:=Kt (λe he=>by simp at he;subst he;simp[JE]) 1;rcases bZ h.wg AV with ⟨g1,g2⟩|⟨rfl,g2⟩
 ·exact Ua (ms':=.Vb) AV AV h ha (h1 w g2) hr1 (Jc w) hev hd h.wg ih1
 exact Ua (ms':=.Ql) AV AV h ha (h2 w g2) hr2 (Jc w) hev hd (.inr ⟨AV,g2⟩) ih2
theorem AQD{a1 a2:Ad}(h:St C .Vb ws k kW a0 b0 oM oW gs w t q a b OW dW)(ha:a.status=.running)(hr1:a1.status=.running)(hr2:a2.status=.running)(h1: ∀w,WA C w KQ 0->Af C.P true a0 w=.go a1 (w.setCell (GK C.wg) (.int .u64 (KQ+1))) #[JE C,Uz C])
  (h2: ∀w,WA C w 0 0->Af C.P true a0 w=.go a2 w #[JE C]) (ih1:All C Fin .ws2 ws k kW a1 b0 oM oW) (ih2:All C Fin .Ql ws k kW a2 b0 oM oW):Turn C Fin gs w sl' t 0:=by
 have hev: ∀e∈(#[JE C]:Array Be),Ev0 C OW w.heap.size e:=λe he=>Tz h rfl (by simp at he;subst he;exact .inl ⟨0,false,rfl⟩);have hd:Ei 1 #[JE C]=1:=Kt (λe he=>by simp at he;subst he;simp[JE]) 1;rcases bZ h.wg AV with ⟨g1,g2⟩|⟨rfl,g2⟩
 ·have hwf:=N7 w (GK C.wg) (.int .u64 (KQ+1));refine Ua (ms':=.ws2) AV AV h ha (h1 w g2) hr1 hwf (λe he=>Tz h hwf.2.1 ?_) (Kt (λe he=>?_) 1) ?_ ih1
  ·simp only[IW,BF,BH,or_false] at he;rcases he with rfl|rfl;exact .inl ⟨0,false,rfl⟩;exact .inl ⟨0,true,rfl⟩
  ·simp only[IW,BF,BH,or_false] at he;rcases he with rfl|rfl<;>simp[JE,Uz]
  have hW:=g2.setSt (KQ+1);unfold MK;(cases ws<;>simp only);exact .inr ⟨Ar,hW⟩;exact .inr ⟨Ar,hW⟩;exact .inr ⟨Ar,hW⟩;exact .inr ⟨Ar,hW⟩;exact Ak rfl g1.2.1;exact Ak rfl g1.2.2.1;exact Ak rfl g1.1
 exact Ua (ms':=.Ql) AV AV h ha (h2 w g2) hr2 (Jc w) hev hd (.inr ⟨AV,g2⟩) ih2
theorem bn(h:MK C ms ws w)(hm:ms=.uT\/ms=.Ql\/ms=.uU):ws=.quit/\WA C w 0 0:=by
 rcases bZ h (by rcases hm with e|e|e<;>rw[e]<;>simp) with ⟨⟨_,_,_,h1⟩,_⟩|h1
 ·rcases hm with rfl|rfl|rfl<;>rcases h1 with e|e|e<;>cases e
 exact h1
theorem AMa(h:St C .Ql ws k kW a0 b0 oM oW gs w t q a b OW dW)(ha:a.status=.running)(hr:a0'.status=.running)(hs: ∀w,WA C w 0 0->Af C.P true a0 w=.go a0' w #[JE C])(ih:All C Fin .Ql ws k kW a0' b0 oM oW):Turn C Fin gs w sl' t 0:=
 Ua (ms':=.Ql) AV AV h ha (hs w (bn h.wg (.inr (.inl rfl))).2) hr (Jc w) (λe he=>Tz h rfl (by simp at he;subst he;exact .inl ⟨0,false,rfl⟩)) (Kt (λe he=>by simp at he;subst he;simp[JE]) 1) h.wg ih
theorem AQE(h:St C .uT ws k kW a0 b0 oM oW gs w t q a b OW dW)(ha:a.status=.running)(hr:a0'.status=.running)(hs: ∀w,WA C w 0 0->Af C.P true a0 w=.go a0' w #[JE C])(ih:All C Fin .Ql ws k kW a0' b0 oM oW):Turn C Fin gs w sl' t 0:=by
 obtain⟨rfl,hW⟩:=bn h.wg (.inl rfl);exact Ua (ms':=.Ql) AV AV h ha (hs w hW) hr (Jc w) (λe he=>Tz h rfl (by simp at he;subst he;exact .inl ⟨0,false,rfl⟩)) (Kt (λe he=>by simp at he;subst he;simp[JE]) 1) (.inr ⟨AV,hW⟩) ih
theorem AQF(h:St C .Ql ws k kW a0 b0 oM oW gs w t q a b OW dW)(ha:a.status=.running)(hr:a0'.status=.running)(hs: ∀w,Live C w->Af C.P true a0 w=.go a0' w #[mkS .enable])(ih:All C Fin .uU ws k kW a0' b0 oM oW):Turn C Fin gs w sl' t 0:=by
 obtain⟨rfl,hW⟩:=bn h.wg (.inr (.inl rfl));exact Ua (ms':=.uU) AV AV h ha (hs w h.wg.live) hr (Jc w) (λe he=>Tz h rfl (by simp at he;exact .inr (.inr he))) rfl (.inr ⟨AV,hW⟩) ih
theorem AQG(h:St C .ws2 ws k kW a0 b0 oM oW gs w t q a b OW dW)(ha:a.status=.running)(hsl:b.status≠ .blocked->XY C Fin .ws2 ws k kW a0 b0 oM oW gs.size q)(ho:a0.offers=AB)(hr:a0'.status=.running)
  (h0: ∀w st,WA C w st 0->Af C.P true a0 w=.go {a0 with status:=.blocked} w #[]) (h1: ∀w,WA C w 0 1->Af C.P true a0 w=.go a0' (w.setCell (OX C.wg) (.int .u32 0)) (JC (OX C.wg))) (ih:All C Fin .uT ws k kW a0' b0 oM oW):Turn C Fin gs w sl' t 0:=by
 have hcase:(ws≠ .quit/\∃st,WA C w st 0)\/(ws=.quit/\WA C w 0 1):=by
  have hw:=h.wg;unfold MK at hw;(cases ws<;>simp only at hw);exact .inl ⟨AV,hw.elim (λx=>⟨_,x.2⟩) λx=>⟨_,x.2⟩⟩;exact .inl ⟨AV,hw.elim (λx=>⟨_,x.2⟩) λx=>⟨_,x.2⟩⟩;exact .inl ⟨AV,hw.elim (λx=>⟨_,x.2⟩) λx=>⟨_,x.2⟩⟩;exact .inl ⟨AV,hw.elim (λx=>⟨_,x.2⟩) λx=>⟨_,x.2⟩⟩;exact .inl ⟨AV,_,hw.2⟩;exact .inl ⟨AV,_,hw.2⟩;exact .inr ⟨rfl,hw.elim (λx=>x.2) λx=>Ak rfl x.1⟩
 have hsm:=h.MZ.sm ha;rcases hcase with ⟨hq,st,hW⟩|⟨rfl,hW⟩
 ·obtain⟨hb,AI9⟩:=AB0 h AV hq;obtain⟨g1,g2,g3⟩:=fU (sl':=sl') (TU:=oM) h.cf (by rw[hsm.step];exact h0 w st hW) (Bd _) (λ_ _ _ _=>rfl) ⟨rfl,rfl,rfl⟩ (λx=>⟨.inl,λy=>y.elim id λz=>by omega⟩) h.cf.im (λe he=>by simp at he);rw[MG hb] at g3;refine⟨_,w,_,g1,g2,hsl (by rw[hb];simp) g2 ⟨g3,h.ne,.inr (.inr ⟨rfl,hq,rfl,ho,rfl,rfl,rfl⟩),h.TW,h.qu,.inr hb,h.iw,h.ow,h.c1,h.c2,h.wg,h.dw,h.kk,LJ h.rel λop hop=>?_⟩ rfl⟩;obtain⟨e,he,_⟩:=Kr hop;simp at he
 have hwf:=N7 w (OX C.wg) (.int .u32 0);refine Ua (ms':=.uT) AV AV h ha (h1 w hW) hr hwf (λe he=>Tz h hwf.2.1 ?_) ?_ (.inr ⟨AV,hW.setSm 0⟩) ih
 ·simp only[JC,IW,BF,BH,or_false] at he;rcases he with rfl|rfl|rfl|rfl;exact .inr (.inl rfl);exact .inl ⟨1,false,rfl⟩;exact .inl ⟨1,true,rfl⟩;exact .inr (.inr rfl)
 simp[JC,Ei,MS.deaf]
theorem AMb(h:St C .uU ws k kW a0 b0 oM oW gs w t q a b OW dW)(ha:a.status=.running)(_:a0'.status=.running)(hs: ∀w,Live C w->Af C.P true a0 w=.go a0' w #[mkS (.acquire (GK C.wg))])(hfin:Fin k a0' oM)(hfw:ws=.quit->C.FW oW):Turn C Fin gs w sl' t 0:=by
 obtain⟨rfl,hW⟩:=bn h.wg (.inr (.inr rfl));obtain⟨n,hn⟩:=h.qu rfl;have ANR:=(h.Dh (IY C)).1
 obtain⟨g1,g2,g3⟩:=fU (sl':=sl') (TU:=oM) h.cf (by rw[(h.MZ.sm ha).step];exact hs w h.wg.live) (Bd _) (λ_ _ _ _=>rfl) ⟨rfl,rfl,rfl⟩ (λx=>⟨.inl,λy=>y.elim id λz=>by omega⟩) h.cf.im (λe he=>by
  simp at he;subst he;exact gG rfl AV ANR)
 rw[QF hn] at g3;(have hu:Dc 0 a.frame.fn a.frame.place #[mkS (.acquire (GK C.wg))]= #[{g:=0,fn:=a.frame.fn,pos:=a.frame.place,act:=.mark (.acquire (GK C.wg))}]:=by simp[Dc,mkS,CY]);rw[hu] at g1 g3;have hd0:Ei MS.uU.deaf #[mkS (.acquire (GK C.wg))]=0:=rfl;rw[hd0] at g3;obtain⟨r,hrel⟩:=h.rel rfl;generalize hT:t++ #[({g:=0,fn:=a.frame.fn,pos:=a.frame.place,act:=.mark (.acquire (GK C.wg))}:MemOp)]=T at g3⊢;(have hlast:T[t.size]? =AA {g:=0,fn:=a.frame.fn,pos:=a.frame.place,act:=.mark (.acquire (GK C.wg))}:=by rw[<- hT,ZP (Bd _)];simp);have zZ:LH C T r:=by rw[<- hT];exact hrel.app' λop hop=>by simp at hop;subst hop;exact .inr rfl
 have hkr:Knows T 0 r:=by
  refine⟨t.size,_,hlast,rfl,.inr (.single (.inr ⟨.marked hrel.lt (.inr zZ.act) (act?_of hlast) (λx _ _=>g3.norel x),zZ.heard,⟨0,g?_of hlast,?_⟩⟩))⟩;rw[<- hT,deaf_old (Bd _)];exact h.cf.dm
 (have hj0:C.j≠0:=by have:=h.cf.hj;omega);refine⟨_,w,_,g1,g2,⟨0,_,w,sl',T,λi=>if i=C.j then n else q i,a0',k,oM,by rw[hT];rfl,rfl,⟨g3.at0,⟨λi g hi hg=>?_,g3.above⟩,⟨g3.ti.clean,λi x hx hm=>?_,?_,g3.dm,g3.low⟩⟩,hfin,h.cf.im,λx hx=>?_,λx hx=>?_,h.cf.sz,h.cf.keep.1,h.cf.same.1,h.cf.same.2.1,h.cf.same.2.2,⟨oW,hfw rfl,h.iw (.inr trivial)⟩,λb hb=>h.cf.keep.2 b (.inl hb)⟩⟩
 ·by_cases hij:i=C.j
  ·subst hij;rw[g3.Uy] at hg;obtain rfl:=EF hg;simp only[if_true];rw[g3.dw];exact hn
  simp only[hij,if_false];exact g3.old i g hi hij hg
 ·rcases g3.ti.all i x hx hm with h1|h1|⟨h1,h2⟩;exact .inl h1
  ·rcases zZ.all i x hx hm h1 with h2|⟨h2,h3,_⟩;exact .inl (Knows.of_before h2 hkr);refine .inr ⟨?_,h3⟩;cases hl:x.loc<;>rw[hl] at h2<;>simp only[Loc.blk,DR] at h2<;>first|exact .inr h2|cases h2
  refine .inr ⟨?_,h2⟩;cases hl:x.loc<;>rw[hl] at h1<;>first|exact .inl h1|exact h1.elim
 ·intro i g hg hg0 hc;by_cases hgj:g=C.j
  ·subst hgj;obtain⟨x,hx,hm,hk⟩:=hc
   have hb:Before T i r:=by
    rcases zZ.all i x hx hm hg with h2|⟨_,h3,h4⟩;exact h2;rcases hk with hk|hk;exact Ak h3 hk;exact Ak hk h4
   obtain⟨y,z,hy,hz,hby⟩:=Knows.of_before hb hkr;refine⟨y,by rw[g?_of hy,hz],?_⟩;rcases hby with rfl|hby
   ·rw[g?_of hy] at hg;have:=EF hg;rw[hz] at this;exact Ak this.symm hj0
   exact hby
  exact g3.over i g hg hg0 hgj hc
 ·have h1:=h.cf.om x hx;exact⟨h1.1,λe=>e.elim h1.2.2.2.2 λe=>h1.2.2.2.1 (by rw[e];exact IY C)⟩
 rcases hx with e|rfl;exact h.cf.z x e;exact ANR
theorem inner(hand:Hand C Fin ms k a0 oM)
  (t0: ∀{ws kW b0 oW},PW C ws kW b0 oW->∀{gs w sl' t q a b OW dW},St C ms ws k kW a0 b0 oM oW gs w t q a b OW dW->a.status=.running->(b.status≠ .blocked->XY C Fin ms ws k kW a0 b0 oM oW gs.size q)->Turn C Fin gs w sl' t 0):
  ∀{ws kW b0 oW},PW C ws kW b0 oW->All C Fin ms ws k kW a0 b0 oM oW:=by
 intro ws kW b0 oW hW
 induction hW with
 | @QS s kW b o nx no hr hst hpw ih=>
  intro gs w sl t q a b OW dW h;refine J4 AV (t0 (.QS nx no hr hst hpw)) (λ{gs w sl' t q a b OW dW} h hb _=>?_) h;have hI:=h.iw AV;obtain⟨w',es,h1,h2⟩:=hst w hI;exact AI5 h hb h1 h2 ((hpw w hI).run AV) (ih w hI)
 | @sel kW b o o' xv bk ob z1 z2 hr ho hcs hbk hob hst hO2 hI2 hp1 hp2 ih1 ih2=>
  intro gs w sl t q a b OW dW h;exact J4 AV (t0 (.sel hr ho hcs hbk hob hst hO2 hI2 hp1 hp2)) (λh hb hsl=>AMY h hb hsl ho hr hcs hbk hob hst hO2 hI2 hand hp1 ih2) h
 | @clo s kW b b' o es hr hr' hmw hk hce hst hp ih=>
  intro gs w sl t q a b OW dW h;exact J4 AV (t0 (.clo hr hr' hmw hk hce hst hp)) (λh hb _=>AMW h hb hr' hmw hk hce hst ih) h
 | @free s kW b o nx hf hr hst hp ih=>
  intro gs w sl t q a b OW dW h;exact J4 (λe=>by rw[e] at hf;cases hf) (t0 (.free nx hf hr hst hp)) (λh hb _=>AI6 hf h hb (hst _ h.wg.live).1 (hst _ h.wg.live).2 (ih _ h.wg.live)) h
 | @r0 kW b b' o hr hr' hst hp ih=>
  intro gs w sl t q a b OW dW h;refine J4 AV (t0 (.r0 hr hr' hst hp)) (λ{gs w sl' t q a b OW dW} h hb _=>?_) h;have hdw:dW=0:=h.dw AV;refine ABw (ws':=.fin1) rfl rfl h hb hr' hst ⟨rfl,AV,(h.Dh (IY C)).1⟩ rfl (λw x=>x) (λ_=>?_) ih;(have hu:Dc C.j b.frame.fn b.frame.place #[mkS (.releaseMerge (GK C.wg))]= #[{g:=C.j,fn:=b.frame.fn,pos:=b.frame.place,act:=.mark (.releaseMerge (GK C.wg))}]:=by simp[Dc,mkS,CY]);rw[hu];(have hlast:(t++ #[({g:=C.j,fn:=b.frame.fn,pos:=b.frame.place,act:=.mark (.releaseMerge (GK C.wg))}:MemOp)])[t.size]? =AA {g:=C.j,fn:=b.frame.fn,pos:=b.frame.place,act:=.mark (.releaseMerge (GK C.wg))}:=by rw[ZP (Bd _)];simp);refine⟨t.size,act?_of hlast,g?_of hlast,⟨C.j,g?_of hlast,?_⟩,λi x hx _ hg=>.inl ?_⟩
  ·rw[deaf_old (Bd _)];have:=h.cf.dw;rw[hdw] at this;exact this
  rcases FO hx with ⟨hi,h'⟩|⟨op,hop,_,hop'⟩
  ·rw[g?_old hi] at hg;exact .inr ((ABp hg).hb_new (Bd _) hlast rfl)
  simp at hop;subst hop;cases hop'
 | @k1 kW b b' o hr hr' hst hp ih=>
  intro gs w sl t q a b OW dW h;refine J4 AV (t0 (.k1 hr hr' hst hp)) (λ{gs w sl' t q a b OW dW} h hb _=>?_) h;refine ABw (ws':=.fin2) rfl rfl h hb hr' hst ⟨rfl,AV,Ar⟩ rfl (λw x=>x) (LJ (λ_=>h.rel rfl) λop hop=>?_) ih;obtain⟨e,he,rfl⟩:=Kr hop;simp at he;subst he;exact .inr rfl
 | @d1 kW n b b1 b2 o hr hr2 h1 hq hfw h2 hp ih=>
  intro gs w sl t q a b OW dW h;exact J4 AV (t0 (.d1 hr hr2 h1 hq hfw h2 hp)) (λh hb _=>AP7 h hb h1 hq hr2 h2 (SQ (b0:=b1) (λh ha hsl=>t0 (.quit hfw) h ha λ_=>λ_ hS hbl=>by rw[U3 hS.MZ] at hbl;cases hbl)) ih) h
 | @d2 kW b b' o hr hr' hst hp ih=>
  intro gs w sl t q a b OW dW h;exact J4 AV (t0 (.d2 hr hr' hst hp)) (λh hb _=>AP8 h hb hr' hst ih) h
 | @d3 kW b b' o hr hr' hst hp ih=>
  intro gs w sl t q a b OW dW h;exact J4 AV (t0 (.d3 hr hr' hst hp)) (λh hb _=>AP9 h hb hr' hst ih) h
 | @d4 kW n b b' o hr hmw hst hq hfw=>
  intro gs w sl t q a b OW dW h;exact J4 AV (t0 (.d4 hr hmw hst hq hfw)) (λh hb _=>AQA h hb hmw hst hq (SQ (b0:=b') (λh ha hsl=>t0 (.quit hfw) h ha λ_=>λ_ hS hbl=>by rw[U3 hS.MZ] at hbl;cases hbl))) h
 | @quit kW b o hfw=>
  intro gs w sl t q a b' OW dW h;exact SQ (b0:=b) (λh ha hsl=>t0 (.quit hfw) h ha λ_=>λ_ hS hbl=>by rw[U3 hS.MZ] at hbl;cases hbl) h
end
section
variable {C:Cx}{a0:Ad}{ms:MS}{k:Nat}
theorem Jj{Fin:Nat->Ad->Own C.SR->Prop}{oM:Own C.SR}(h:ms≠ .work):Hand C Fin ms k a0 oM:=λe=>Ak e h
theorem phase{Fin:Nat->Ad->Own C.SR->Prop}{oM:Own C.SR}(hM:PM C Fin ms k a0 oM):
  ∀{ws kW b0 oW},PW C ws kW b0 oW->All C Fin ms ws k kW a0 b0 oM oW:=by
 induction hM with
 | @QS k a o nx no hr hst hpm ih=>
  refine inner (λ_ z w hI _ hc=>?_) λ{ws kW b0 oW} hpw {gs w sl' t q a b OW dW} h ha _=>?_
  ·obtain⟨w',es,h1,_⟩:=hst w hI;rw[h1] at hc;cases hc
  have hI:=h.cf.im;obtain⟨w',es,h1,h2⟩:=hst w hI
  have hr':(nx w).status=.running:=by
   have:=hpm w hI;cases this<;>assumption
  exact AI7 h ha h1 h2 hr' (ih w hI hpw)
 | @recv k a o z go hr ho hst hO hI hgo hcl ihg ihc=>
  refine inner (λ_ z' w hI' _ hc=>?_) λ{ws kW b0 oW} hpw {gs w sl' t q a b OW dW} h ha hsl=>AI8 hpw h ha hsl hst hO hI (λxv bk ob hcs {ws kW b0 oW} hp=>ihg xv bk ob hcs hp) (λe=>ihc e hpw);rw[hst w hI'] at hc;simp only[GStep.comm.injEq,rcase,AD0,Ir,CommCase.mk.injEq,and_true,true_and] at hc;subst hc;intro xv bk ob hcs;exact⟨go xv bk ob,hO xv bk ob hcs,hI xv bk ob hcs,λhp=>ihg xv bk ob hcs hp⟩
 | @clo k a a' o es hr hr' hmw hce hst hpm ih=>
  refine inner (λ_ z w hI hc1 hc=>?_) λ{ws kW b0 oW} hpw {gs w sl' t q a b OW dW} h ha _=>AMZ h ha hr' hmw hce hst (ih hpw);obtain⟨w',hw'⟩:=Tv hc1;rw[hst w w' hI hw'] at hc;cases hc
 | @free s k a o nx es hf hr hst hpm ih=>
  exact inner (Jj (λe=>by rw[e] at hf;cases hf)) λ{ws kW b0 oW} hpw {gs w sl' t q a b OW dW} h ha _=>AJA hf h ha (hst w h.wg.live).1 (hst w h.wg.live).2.1 (hst w h.wg.live).2.2 (ih w h.wg.live hpw)
 | @kd k a a' o hr hr' hst hpm ih=>
  exact inner (Jj AV) λ{ws kW b0 oW} hpw {gs w sl' t q a b OW dW} h ha _=>AQB h ha hr' hst (ih hpw)
 | @w1 k a a1 a2 o hr hr1 hr2 h1 hp1 h2 hp2 ih1 ih2=>
  exact inner (Jj AV) λ{ws kW b0 oW} hpw {gs w sl' t q a b OW dW} h ha _=>AQC h ha hr1 hr2 h1 h2 (ih1 hpw) (ih2 hpw)
 | @w2 k a a1 a2 o hr hr1 hr2 h1 hp1 h2 hp2 ih1 ih2=>
  exact inner (Jj AV) λ{ws kW b0 oW} hpw {gs w sl' t q a b OW dW} h ha _=>AQD h ha hr1 hr2 h1 h2 (ih1 hpw) (ih2 hpw)
 | @w1z k a a2 o hr hr2 hst hpm ih=>
  exact inner (Jj AV) λ{ws kW b0 oW} hpw {gs w sl' t q a b OW dW} h ha _=>AMa h ha hr2 hst (ih hpw)
 | @w3 k a a' o hr hr' ho h0 h1 hpm ih=>
  exact inner (Jj AV) λ{ws kW b0 oW} hpw {gs w sl' t q a b OW dW} h ha hsl=>AQG h ha hsl ho hr' h0 h1 (ih hpw)
 | @w4 k a a' o hr hr' hst hpm ih=>
  exact inner (Jj AV) λ{ws kW b0 oW} hpw {gs w sl' t q a b OW dW} h ha _=>AQE h ha hr' hst (ih hpw)
 | @ke k a a' o hr hr' hst hpm ih=>
  exact inner (Jj AV) λ{ws kW b0 oW} hpw {gs w sl' t q a b OW dW} h ha _=>AQF h ha hr' hst (ih hpw)
 | @acq k a a' o hr hr' hst hfin=>
  exact inner (Jj AV) λ{ws kW b0 oW} hpw {gs w sl' t q a b OW dW} h ha _=>AMb h ha hr' hst hfin (λe=>by subst e;cases hpw with|free _ hf _ _ _=>cases hf|quit hfw=>exact hfw)
end
abbrev link:Go.Conc.Lib.WgLink:={add:=74,done:=76,wait:=77,relMerge:=101,disable:=102,enable:=103,inBubble:=104,associate:=105,fatal:=106,uOr:=107,uAdd:=108,raceRead:=109,uLoad:=110,uStore:=111,disassociate:=112,semrelease:=113,acquire:=114,isAssociated:=115,uCas:=116,raceWrite:=117,semacquire:=118,orU64:=131,addU64:=132,loadU64:=133,storeU64:=134,casU64:=135,tWgP:=208,tUP:=184,tAssoc:=210,tWg:=168,tAU:=165,tU64:=163,tUint:=214,tU32:=166,tPU32:=215,tPAU:=232,tPU64:=234,tNoCopy:=160,tANoCopy:=161,tAlign64:=162}
theorem wgLib:Go.Conc.Lib.WgLib Tryz.prog link:=
 ⟨Tryz.func74,Tryz.func76,Tryz.func77,Tryz.func101,Tryz.func102,Tryz.func103,Tryz.func104,Tryz.func105,Tryz.func106,Tryz.func107,Tryz.func108,Tryz.func109,Tryz.func110,Tryz.func111,Tryz.func112,Tryz.func113,Tryz.func114,Tryz.func115,Tryz.func116,Tryz.func117,Tryz.func118,Tryz.func131,Tryz.func132,Tryz.func133,Tryz.func134,Tryz.func135,Tryz.underlying208,Tryz.runUnderlying208,Tryz.sizeOf208,Tryz.isAgg208,Tryz.zeroValue208,Tryz.underlying184,Tryz.runUnderlying184,Tryz.sizeOf184,Tryz.isAgg184,Tryz.zeroValue184,Tryz.underlying210,Tryz.runUnderlying210,Tryz.sizeOf210,Tryz.isAgg210,Tryz.zeroValue210,Tryz.underlying168,Tryz.runUnderlying168,Tryz.sizeOf168,Tryz.isAgg168,Tryz.zeroValue168,Tryz.underlying165,Tryz.runUnderlying165,Tryz.sizeOf165,Tryz.isAgg165,Tryz.zeroValue165,Tryz.underlying163,Tryz.runUnderlying163,Tryz.sizeOf163,Tryz.isAgg163,Tryz.zeroValue163,Tryz.underlying214,Tryz.runUnderlying214,Tryz.sizeOf214,Tryz.isAgg214,Tryz.zeroValue214,Tryz.underlying166,Tryz.runUnderlying166,Tryz.sizeOf166,Tryz.isAgg166,Tryz.zeroValue166,Tryz.underlying215,Tryz.runUnderlying215,Tryz.sizeOf215,Tryz.isAgg215,Tryz.zeroValue215,Tryz.underlying232,Tryz.runUnderlying232,Tryz.sizeOf232,Tryz.isAgg232,Tryz.zeroValue232,Tryz.underlying234,Tryz.runUnderlying234,Tryz.sizeOf234,Tryz.isAgg234,Tryz.zeroValue234,Tryz.underlying0,Tryz.runUnderlying0,Tryz.sizeOf0,Tryz.isAgg0,Tryz.zeroValue0,Tryz.underlying3,Tryz.runUnderlying3,Tryz.sizeOf3,Tryz.isAgg3,Tryz.zeroValue3,Tryz.underlying4,Tryz.runUnderlying4,Tryz.sizeOf4,Tryz.isAgg4,Tryz.zeroValue4,Tryz.underlying9,Tryz.runUnderlying9,Tryz.sizeOf9,Tryz.isAgg9,Tryz.zeroValue9,Tryz.underlying20,Tryz.runUnderlying20,Tryz.sizeOf20,Tryz.isAgg20,Tryz.zeroValue20,Tryz.underlying21,Tryz.runUnderlying21,Tryz.sizeOf21,Tryz.isAgg21,Tryz.zeroValue21,Az,Az⟩
instance:Go.ConcX.Payload:=⟨3⟩
open Go.RowKit Go.Conc.Lib Go.ConcX Go.ConcX.Gen
section
variable {C:Cx}{k:Nat}{P:BM}{w:AL}
def RL (C:Cx) (_ w:AL):Prop:=Live C w
theorem U4(hP:C.P=P){s:WS}{o:Own C.SR}(hs:s.free=true):
  ∀{n:Nat} {g:Ad} {w:AL},Live C w->Goes P false (RL C) DC0 (λg _=>g.status=.running/\PW C s k g o) n g w->g.status=.running/\PW C s k g o:=by
 intro n
 induction n with
 |zero=>intro g w hl h;exact h w hl
 |succ n ih=>
  intro g w hl h;rcases h with h|⟨hr,h⟩;exact h w hl;refine⟨hr,?_⟩
  have key: ∀w₁:AL,∃g',Live C w₁->g'.status=.running/\Af P false g w₁=.go g' w₁ #[]/\PW C s k g' o:=λw₁=>by
   by_cases Zf:Live C w₁
   ·have h1:=h w₁ Zf
    cases hst:Af P false g w₁ with
    |go g' w' es=>
     rw[hst,goes_go] at h1;obtain⟨⟨rfl,rfl⟩,h2⟩:=h1;have:=ih Zf h2;exact⟨g',λ_=>⟨this.1,rfl,this.2⟩⟩
    |_=>rw[hst] at h1;exact h1.elim
   exact⟨g,λx=>Ak x Zf⟩
  obtain⟨nx,hnx⟩:=fF key;exact .free nx hs hr (λw hw=>⟨(hnx w hw).1,by rw[hP];exact (hnx w hw).2.1⟩) λw hw=>(hnx w hw).2.2
section
variable {C:Cx} {P:BM} (hP:C.P=P) {k n:Nat} {b b' b1 b2:Ad} {o:Own C.SR}
include hP
theorem AQH(h1: ∀w,Live C w->Af P false b w=.go b' w #[mkS (.releaseMerge (GK C.wg))])(hr:b.status=.running)(hr':b'.status=.running)(h:PW C .fin1 k b' o):PW C .fin0 k b o:=by subst hP;exact .r0 hr hr' h1 h
theorem AQI(h1: ∀w,Live C w->Af P false b w=.go b' w #[mkS .disable])(hr:b.status=.running)(hr':b'.status=.running)(h:PW C .fin2 k b' o):PW C .fin1 k b o:=by subst hP;exact .k1 hr hr' h1 h
theorem AQJ(h1: ∀w,WA C w KQ 0->Af P false b w=.go b1 (w.setCell (GK C.wg) (.int .u64 0)) #[JE C,Uz C])(h2: ∀w,WA C w (KQ+1) 0->Af P false b w=.go b2 (w.setCell (GK C.wg) (.int .u64 1)) #[JE C,Uz C])
  (hr:b.status=.running) (hr2:b2.status=.running) (hfw:C.FW o) (hq:QuitsD P n 1 b1) (h:PW C .Nz k b2 o):PW C .fin2 k b o:=by subst hP;exact .d1 hr hr2 h1 hq hfw h2 h
theorem AQK(h1: ∀w,WA C w 1 0->Af P false b w=.go b' w #[JE C])(hr:b.status=.running)(hr':b'.status=.running)(h:PW C .Nz k b' o):PW C .Nz k b o:=by subst hP;exact .d2 hr hr' h1 h
theorem AQL(h1: ∀w,WA C w 1 0->Af P false b w=.go b' (w.setCell (GK C.wg) (.int .u64 0)) #[Uz C])(hr:b.status=.running)(hr':b'.status=.running)(h:PW C .U0 k b' o):PW C .Nz k b o:=by subst hP;exact .d3 hr hr' h1 h
theorem AQM(h1: ∀w,WA C w 0 0->Af P false b w=.go b' (w.setCell (OX C.wg) (.int .u32 1)) (JC (OX C.wg)))(hr:b.status=.running)(hmw:mayWake P b=true)(hfw:C.FW o)(hq:QuitsD P n 1 b'):PW C .U0 k b o:=by subst hP;exact .d4 hr hmw h1 hq hfw
end
theorem AP{w₁:AL}(_:Live C w)(h:RL C w w₁):Live C w₁:=h
theorem Live.cell{C:Cx}{w:AL}(h:Live C w): ∃v,w.cell? ⟨C.wg,0,AB⟩=AA v:=by
 obtain⟨st,sm,h⟩:=h;exact⟨_,QG (Wg:=C.wg) (ty:=C.ty) h⟩
theorem AHY{L:WgLink}(H:WgLib P L)(hP:C.P=P){o:Own C.SR}(hfw:C.FW o){c:AX}{cs:List AX}{qt:Nat}(hK:Live C w)
  (hcm:c.mode=.returning) (hT:QuitsD P qt 0 (G c cs)):
  PW C .fin0 k (G ((baseD L.done).at ⟨#[.pointer (AA ⟨C.wg,0,AB⟩),AU,AU,AU],[]⟩ [.code (body_done L)]) (c::cs)) o:=by
 have hl0:=hK
 lib_facts
 simp only[body_done,body_add,doneFn,Dx];refine (U4 hP rfl (n:=150) hl0 ?_).2;u_reg AP hK;u_op AP hK
 u_call H.f_add (nm_add L) addFn AP hK
 u_c BZ AP hK
 u_cond true AP hK
 u_c BZ AP hK;u_c BZ AP hK;u_reg AP hK;u_op AP hK;u_op AP hK;u_c Bf AP hK
 u_cond true AP hK
 u_reg AP hK;u_op AP hK
 u_conv H.underlying_tWgP H.room_tWg hK.cell.choose_spec AP hK
 refine Gn (λ_ _=>⟨rfl,AQH hP (λ_ _=>stepG_markAt .releaseMerge AV rfl rfl (by k_ne) rfl H.f_relMerge (x_relMerge_n L) (x_relMerge_b L) (x_relMerge_x L) (x_relMerge_f L) (by simp[Act.eval,GK])) rfl rfl ?_⟩);walk_nrm;refine (U4 hP rfl (n:=150) hl0 ?_).2
 replace hK:=hl0
 u_c Bf AP hK;u_c BZ AP hK;u_reg AP hK;refine Gn (λ_ _=>⟨rfl,AQI hP (λ_ _=>stepG_mark0 .disable AV rfl rfl (by k_ne) rfl H.f_disable (x_disable_n L) (x_disable_b L) (x_disable_x L) (x_disable_f L)) rfl rfl ?_⟩);walk_nrm;refine (U4 hP rfl (n:=150) hl0 ?_).2
 replace hK:=hl0
 u_c Bf AP hK;u_reg AP hK
 u_defer AP hK
 u_c Bf AP hK;u_c BZ AP hK;u_reg AP hK;u_op AP hK;u_c Bf AP hK;u_c BZ AP hK;u_c BZ AP hK;u_reg AP hK
 u_bub AP hK
 u_c Bf AP hK
 u_cond false AP hK
 u_c Io AP hK;u_c BZ AP hK;u_reg AP hK;u_op AP hK;u_op AP hK;u_op AP hK;u_op AP hK;u_op AP hK;u_op AP hK
 u_call H.f_uAdd (nm_uAdd L) uAddFn AP hK
 u_c BZ AP hK;u_reg AP hK;u_op AP hK;u_c Bf AP hK;u_c BZ AP hK;u_reg AP hK;u_op AP hK;u_op AP hK;u_op AP hK;u_op AP hK;(have e0:IntKind.u64.wrap (KQ+18446744069414584320)=0:=by decide);have e1:IntKind.u64.wrap (KQ+1+18446744069414584320)=1:=by decide
 refine Gn (λ_ _=>⟨rfl,AQJ (n:=qt+92) hP
  (λw hw=>(stepG_add_atomic rfl rfl (by k_ne) rfl H.f_addU64 (x_addU64_n L) (x_addU64_b L) (x_addU64_x L) .u64 (x_addU64_f L) rfl rfl (QG (ty:=C.ty) hw) (WgAt.thaw (ty:=C.ty) hw 0)).trans (by rw[e0];rfl))
  (λw hw=>(stepG_add_atomic rfl rfl (by k_ne) rfl H.f_addU64 (x_addU64_n L) (x_addU64_b L) (x_addU64_x L) .u64 (x_addU64_f L) rfl rfl (QG (ty:=C.ty) hw) (WgAt.thaw (ty:=C.ty) hw 0)).trans (by rw[e1];rfl)) rfl rfl hfw ?_ ?_⟩)
 ·
  clear hK hl0;walk_nrm
  q_val (.int .u64 0)
  q_c Bf
  q_c NW
  q_leave1 H.f_uAdd
  q_val (.int .u64 0)
  q_c Bf
  q_c BZ
  q_c BZ
  q_reg
  q_val (.int .u64 0)
  q_val (.int .u64 0)
  q_val (.bool false)
  q_val (.bool false)
  q_skip
  q_skip
  q_val (.bool false)
  q_c Bf
  q_cond false
  q_c Io
  q_c BZ
  q_reg
  q_val (.int .u64 0)
  q_val (.int .u64 0)
  q_val (.int .i32 0)
  q_val (.int .i32 0)
  q_c Bf
  q_c BZ
  q_reg
  q_val (.int .u64 0)
  q_val (.int .u64 0)
  q_val (.int .u32 0)
  q_val (.int .u32 0)
  q_c Bf
  q_c BZ
  q_c BZ
  q_reg
  q_val (.bool true)
  q_val (.int .i64 (-1))
  q_val (.bool false)
  q_val (.bool false)
  q_val (.bool false)
  q_skip
  q_skip
  q_skip
  q_skip
  q_val (.bool false)
  q_c Bf
  q_cond false
  q_c Io
  q_c BZ
  q_c BZ
  q_reg
  q_val (.int .i32 0)
  q_val (.bool false)
  q_c Bf
  q_cond false
  q_c Io
  q_c BZ
  q_c BZ
  q_reg
  q_val (.int .u32 0)
  q_val (.bool false)
  q_val (.bool false)
  q_skip
  q_skip
  q_val (.bool false)
  q_val (.bool false)
  q_skip
  q_skip
  q_skip
  q_skip
  q_val (.bool false)
  q_c Bf
  q_cond false
  q_c Io
  q_c BZ
  q_c BZ
  q_reg
  q_val (.int .i32 0)
  q_val (.bool false)
  q_val (.bool false)
  q_val (.int .u32 0)
  q_val (.bool true)
  q_val (.bool true)
  q_c Bf
  q_cond true
  q_c NW
  q_enable
  q_leave0 H.f_add
  q_c Bf
  q_c stepG_end
  exact QuitsD.leaveD rfl rfl H.f_done rfl hcm hT
 walk_nrm;refine (U4 hP rfl (n:=150) hl0 ?_).2
 replace hK:=hl0
 u_op AP hK;u_c Bf AP hK;u_c NW AP hK
 u_leave1 H.f_uAdd AP hK
 u_op AP hK;u_c Bf AP hK;u_c BZ AP hK;u_c BZ AP hK;u_reg AP hK;u_op AP hK;u_op AP hK;u_op AP hK;u_op AP hK
 u_skip AP hK
 u_skip AP hK
 u_op AP hK;u_c Bf AP hK
 u_cond false AP hK
 u_c Io AP hK;u_c BZ AP hK;u_reg AP hK;u_op AP hK;u_op AP hK;u_op AP hK;u_op AP hK;u_c Bf AP hK;u_c BZ AP hK;u_reg AP hK;u_op AP hK;u_op AP hK;u_op AP hK;u_op AP hK;u_c Bf AP hK;u_c BZ AP hK;u_c BZ AP hK;u_reg AP hK;u_op AP hK;u_op AP hK;u_op AP hK;u_op AP hK;u_op AP hK
 u_skip AP hK
 u_skip AP hK
 u_skip AP hK
 u_skip AP hK
 u_op AP hK;u_c Bf AP hK
 u_cond false AP hK
 u_c Io AP hK;u_c BZ AP hK;u_c BZ AP hK;u_reg AP hK;u_op AP hK;u_op AP hK;u_c Bf AP hK
 u_cond false AP hK
 u_c Io AP hK;u_c BZ AP hK;u_c BZ AP hK;u_reg AP hK;u_op AP hK;u_op AP hK;u_op AP hK;u_op AP hK;u_op AP hK;u_op AP hK;u_op AP hK
 u_skip AP hK
 u_skip AP hK
 u_skip AP hK
 u_skip AP hK
 u_op AP hK;u_c Bf AP hK
 u_cond false AP hK
 u_c Io AP hK;u_c BZ AP hK;u_c BZ AP hK;u_reg AP hK;u_op AP hK;u_op AP hK;u_op AP hK;u_op AP hK;u_op AP hK;u_op AP hK;u_c Bf AP hK
 u_cond false AP hK
 u_c Io AP hK;u_c BZ AP hK;u_c BZ AP hK;u_reg AP hK;u_op AP hK;u_op AP hK;u_op AP hK
 u_call H.f_uLoad (nm_uLoad L) uLoadFn AP hK
 u_c BZ AP hK;u_reg AP hK;u_op AP hK;u_c Bf AP hK;u_c BZ AP hK;u_reg AP hK;u_op AP hK;u_op AP hK;u_op AP hK;refine Gn (λ_ _=>⟨rfl,AQK hP (λw hw=>mG rfl rfl (by k_ne) rfl H.f_loadU64 (x_loadU64_n L) (x_loadU64_b L) (x_loadU64_x L) .u64 (x_loadU64_f L) rfl (QG (ty:=C.ty) hw)) rfl rfl ?_⟩);walk_nrm;refine (U4 hP rfl (n:=150) hl0 ?_).2
 replace hK:=hl0
 u_op AP hK;u_c Bf AP hK;u_c NW AP hK
 u_leave1 H.f_uLoad AP hK
 u_op AP hK;u_op AP hK;u_c Bf AP hK
 u_cond false AP hK
 u_c Io AP hK;u_c BZ AP hK;u_reg AP hK;u_op AP hK;u_op AP hK;u_op AP hK
 u_call H.f_uStore (nm_uStore L) uStoreFn AP hK
 u_reg AP hK;u_op AP hK;u_op AP hK;u_op AP hK;u_op AP hK;refine Gn (λ_ _=>⟨rfl,AQL hP (λw hw=>stepG_store_atomic rfl rfl (by k_ne) rfl H.f_storeU64 (x_storeU64_n L) (x_storeU64_b L) (x_storeU64_x L) (x_storeU64_f L) rfl rfl (QG (ty:=C.ty) hw) (WgAt.thaw (ty:=C.ty) hw 0)) rfl rfl ?_⟩);walk_nrm;refine (U4 hP rfl (n:=150) hl0 ?_).2
 replace hK:=hl0
 u_c Bf AP hK;u_c stepG_end AP hK
 u_leave0 H.f_uStore AP hK
 u_c Bf AP hK;u_c BZ AP hK;u_c BZ AP hK;u_reg AP hK;u_op AP hK;u_c Bf AP hK
 u_cond false AP hK
 u_c Io AP hK;u_c stepG_block AP hK;u_c stepG_loop AP hK;u_c BZ AP hK;u_c BZ AP hK;u_reg AP hK;u_op AP hK;u_op AP hK;u_c Bf AP hK
 u_cond true AP hK
 u_c Io AP hK;u_c BZ AP hK;u_c stepG_block AP hK;u_reg AP hK;u_op AP hK;u_op AP hK;u_op AP hK;refine Gn (λ_ _=>⟨rfl,AQM (n:=qt+22) hP (λw hw=>(stepG_semrelease rfl rfl (by k_ne) rfl H.f_semrelease (x_semrelease_n L) (x_semrelease_b L) (x_semrelease_x L) (x_semrelease_f L) (by simp[Act.eval,smA]) (WgAt.cellSm (ty:=C.ty) hw) (WgAt.thaw (ty:=C.ty) hw 1)).trans (by rfl)) rfl (mayWake_entry rfl rfl H.f_semrelease (x_semrelease_b L)) hfw ?_⟩);clear hK hl0;walk_nrm
 q_c Bf
 q_c stepG_inBlock
 q_reg
 q_val (.int .u32 1)
 q_val (.int .u32 0)
 q_val (.int .u32 0)
 q_c Bf
 q_c stepG_inLoop
 q_c BZ
 q_c BZ
 q_reg
 q_val (.int .u32 0)
 q_val (.bool false)
 q_c Bf
 q_cond false
 q_exit
 q_c stepG_end
 q_enable
 q_leave0 H.f_add
 q_c Bf
 q_c stepG_end
 exact QuitsD.leaveD rfl rfl H.f_done rfl hcm hT
end
section
variable {C:Cx}{s:MS}{k:Nat}{P:BM}{w:AL}
theorem JP{Fin:Nat->Ad->Own C.SR->Prop}(hP:C.P=P){o:Own C.SR}(hs:s.free=true):
  ∀{n:Nat} {g:Ad} {w:AL},Live C w->Goes P true (RL C) DC0 (λg _=>g.status=.running/\PM C Fin s k g o) n g w->g.status=.running/\PM C Fin s k g o:=by
 intro n
 induction n with
 |zero=>intro g w hl h;exact h w hl
 |succ n ih=>
  intro g w hl h;rcases h with h|⟨hr,h⟩;exact h w hl;refine⟨hr,?_⟩
  have key: ∀w₁:AL,∃g',Live C w₁->g'.status=.running/\Af P true g w₁=.go g' w₁ #[]/\PM C Fin s k g' o:=λw₁=>by
   by_cases Zf:Live C w₁
   ·have h1:=h w₁ Zf
    cases hst:Af P true g w₁ with
    |go g' w' es=>
     rw[hst,goes_go] at h1;obtain⟨⟨rfl,rfl⟩,h2⟩:=h1;have:=ih Zf h2;exact⟨g',λ_=>⟨this.1,rfl,this.2⟩⟩
    |_=>rw[hst] at h1;exact h1.elim
   exact⟨g,λx=>Ak x Zf⟩
  obtain⟨nx,hnx⟩:=fF key;exact .free nx (λ_=>#[]) hs hr (λw hw=>⟨(hnx w hw).1,by rw[hP];exact (hnx w hw).2.1,λe he=>by simp at he⟩) λw hw=>(hnx w hw).2.2
section
variable {C:Cx} {Fin:Nat->Ad->Own C.SR->Prop} {P:BM} (hP:C.P=P) {k n:Nat} {a a' a1 a2:Ad} {o:Own C.SR}
include hP
theorem AJB(hs:s.free=true)(h1: ∀w,Live C w->Af P true a w=.go a' w #[mkS (.write (OX C.wg))])(hr:a.status=.running)(hr':a'.status=.running)(h:PM C Fin s k a' o):PM C Fin s k a o:=by
 subst hP;exact .free (λ_=>a') (λ_=>#[mkS (.write (OX C.wg))]) hs hr (λw hw=>⟨hr',h1 w hw,λe he=>by simpa using he⟩) λ_ _=>h
theorem AQN(h1: ∀w,Live C w->Af P true a w=.go a' w #[mkS .disable])(hr:a.status=.running)(hr':a'.status=.running)(h:PM C Fin .Vb k a' o):PM C Fin .fV k a o:=by subst hP;exact .kd hr hr' h1 h
theorem AQO(h1: ∀w,WA C w KQ 0->Af P true a w=.go a1 w #[JE C])(h2: ∀w,WA C w 0 0->Af P true a w=.go a2 w #[JE C])(hr:a.status=.running)(hr1:a1.status=.running)(hr2:a2.status=.running)(p1:PM C Fin .Vb k a1 o)(p2:PM C Fin .Ql k a2 o):PM C Fin .Vb k a o:=by subst hP;exact .w1 hr hr1 hr2 h1 p1 h2 p2
theorem AQP(h1: ∀w,WA C w KQ 0->Af P true a w=.go a1 (w.setCell (GK C.wg) (.int .u64 (KQ+1))) #[JE C,Uz C])(h2: ∀w,WA C w 0 0->Af P true a w=.go a2 w #[JE C])(hr:a.status=.running)(hr1:a1.status=.running)(hr2:a2.status=.running)(p1:PM C Fin .ws2 k a1 o)(p2:PM C Fin .Ql k a2 o):PM C Fin .Vb k a o:=by subst hP;exact .w2 hr hr1 hr2 h1 p1 h2 p2
theorem AMc(h2: ∀w,WA C w 0 0->Af P true a w=.go a2 w #[JE C])(hr:a.status=.running)(hr2:a2.status=.running)(p2:PM C Fin .Ql k a2 o):PM C Fin .Ql k a o:=by subst hP;exact .w1z hr hr2 h2 p2
theorem AQQ(h0: ∀w st,WA C w st 0->Af P true a w=.go {a with status:=.blocked} w #[])(h1: ∀w,WA C w 0 1->Af P true a w=.go a' (w.setCell (OX C.wg) (.int .u32 0)) (JC (OX C.wg)))(hr:a.status=.running)(hr':a'.status=.running)(ho:a.offers=AB)(p:PM C Fin .uT k a' o):PM C Fin .ws2 k a o:=by subst hP;exact .w3 hr hr' ho h0 h1 p
theorem AQR(h1: ∀w,WA C w 0 0->Af P true a w=.go a' w #[JE C])(hr:a.status=.running)(hr':a'.status=.running)(p:PM C Fin .Ql k a' o):PM C Fin .uT k a o:=by subst hP;exact .w4 hr hr' h1 p
theorem AEY(h1: ∀w,Live C w->Af P true a w=.go a' w #[mkS .enable])(hr:a.status=.running)(hr':a'.status=.running)(p:PM C Fin .uU k a' o):PM C Fin .Ql k a o:=by subst hP;exact .ke hr hr' h1 p
theorem zf(h1: ∀w,Live C w->Af P true a w=.go a' w #[mkS (.acquire (GK C.wg))])(hr:a.status=.running)(hr':a'.status=.running)(p:Fin k a' o):PM C Fin .uU k a o:=by subst hP;exact .acq hr hr' h1 p
end
theorem Live.cell1(h:Live C w): ∃v,w.cell? ⟨C.wg,1,AB⟩=AA v:=by
 obtain⟨st,sm,h⟩:=h;exact⟨_,WgAt.cellSm (Wg:=C.wg) (ty:=C.ty) h⟩
def bu (P:BM) (g g':Ad):Prop:=∃n,∀w,Goes P true (λ_ _=>True) DC0 (λx _=>x=g') n g w
theorem AEZ{L:WgLink}(H:WgLib P L){Fin:Nat->Ad->Own C.SR->Prop}(hP:C.P=P){o:Own C.SR}(hK:Live C w)
  {b₀:AX} {a₀:Act} {ops₀:Array Oper} {i₀:Nat} {rest₀:List Nat} {k₀:List Item} {cs:List AX}
  (hfin: ∀g,bu P g (G (b₀.at (a₀.put ((ops₀[i₀]?).bind (·.dst)) (.tuple #[])) (.inRegion ops₀ rest₀::k₀)) cs)->Fin k g o):
  PM C Fin .fV k (G ((base L.wait).at ⟨#[.pointer (AA ⟨C.wg,0,AB⟩)]++Array.replicate ((waitFn L).ntmps - 1) AU,[]⟩ [.code (body_wait L)]) (b₀.at a₀ (.inRegion ops₀ (i₀::rest₀)::k₀)::cs)) o:=by
 have hl0:=hK
 lib_facts
 simp only[body_wait,waitFn,Dx]
 walk_nrmf waitFn
 refine (JP hP rfl (n:=150) hl0 ?_).2;u_c BZ AP hK
 u_cond true AP hK
 u_reg AP hK;refine Gn (λ_ _=>⟨rfl,AQN hP (λ_ _=>stepG_mark0 .disable AV rfl rfl (by k_ne) rfl H.f_disable (x_disable_n L) (x_disable_b L) (x_disable_x L) (x_disable_f L)) rfl rfl ?_⟩);walk_nrm;refine (JP hP rfl (n:=150) hl0 ?_).2
 replace hK:=hl0
 u_c Bf AP hK;u_c stepG_block AP hK;u_c stepG_loop AP hK;u_c stepG_block AP hK;u_c BZ AP hK;u_reg AP hK;u_op AP hK;u_op AP hK;u_op AP hK
 u_call H.f_uLoad (nm_uLoad L) uLoadFn AP hK
 u_c BZ AP hK;u_reg AP hK;u_op AP hK;u_c Bf AP hK;u_c BZ AP hK;u_reg AP hK;u_op AP hK;u_op AP hK;u_op AP hK;refine Gn (λ_ _=>⟨rfl,AQO hP (λw hw=>mG (v:=4294967296) rfl rfl (by k_ne) rfl H.f_loadU64 (x_loadU64_n L) (x_loadU64_b L) (x_loadU64_x L) .u64 (x_loadU64_f L) rfl (QG (ty:=C.ty) hw)) (λw hw=>mG (v:=0) rfl rfl (by k_ne) rfl H.f_loadU64 (x_loadU64_n L) (x_loadU64_b L) (x_loadU64_x L) .u64 (x_loadU64_f L) rfl (QG (ty:=C.ty) hw)) rfl rfl rfl ?_ ?_⟩)
 ·
  walk_nrm;refine (JP hP rfl (n:=150) hl0 ?_).2
  replace hK:=hl0
  u_op AP hK;u_c Bf AP hK;u_c NW AP hK
  u_leave1 H.f_uLoad AP hK
  u_op AP hK;u_c Bf AP hK;u_c BZ AP hK;u_reg AP hK;u_op AP hK;u_op AP hK;u_op AP hK;u_op AP hK;u_c Bf AP hK;u_c BZ AP hK;u_reg AP hK;u_op AP hK;u_op AP hK;u_op AP hK;u_op AP hK;u_c Bf AP hK;u_c BZ AP hK;u_c BZ AP hK;u_reg AP hK;u_op AP hK;u_op AP hK;u_c Bf AP hK
  u_cond false AP hK
  u_c Io AP hK;u_c BZ AP hK;u_reg AP hK;u_op AP hK;u_op AP hK;u_op AP hK;u_op AP hK;u_op AP hK;u_op AP hK
  u_call H.f_uCas (nm_uCas L) uCasFn AP hK
  u_c BZ AP hK;u_reg AP hK;u_op AP hK;u_c Bf AP hK;u_c BZ AP hK;u_reg AP hK;u_op AP hK;u_op AP hK;u_op AP hK;u_op AP hK;u_op AP hK;refine Gn (λ_ _=>⟨rfl,AQP hP (λw hw=>(stepG_cas_hit (v:=4294967296) (n:=4294967297) rfl rfl (by k_ne) rfl H.f_casU64 (x_casU64_n L) (x_casU64_b L) (x_casU64_x L) .u64 (x_casU64_f L) rfl rfl rfl (QG (ty:=C.ty) hw) (WgAt.thaw (ty:=C.ty) hw 0)).trans (by rfl)) (λw hw=>stepG_cas_miss (v:=0) (old:=4294967296) (n:=4294967297) rfl rfl (by k_ne) rfl H.f_casU64 (x_casU64_n L) (x_casU64_b L) (x_casU64_x L) .u64 (x_casU64_f L) rfl rfl rfl (QG (ty:=C.ty) hw) (WgAt.thaw (ty:=C.ty) hw 0) (by k_ne)) rfl rfl rfl ?_ ?_⟩)
  ·
   walk_nrm;refine (JP hP rfl (n:=150) hl0 ?_).2
   replace hK:=hl0
   u_op AP hK;u_c Bf AP hK;u_c NW AP hK
   u_leave1 H.f_uCas AP hK
   u_c Bf AP hK
   u_cond true AP hK
   u_c BZ AP hK;u_c BZ AP hK;u_reg AP hK;u_op AP hK;u_op AP hK;u_op AP hK;u_op AP hK;u_c Bf AP hK
   u_cond true AP hK
   u_reg AP hK;u_op AP hK;u_op AP hK;u_op AP hK
   u_conv H.underlying_tPU32 H.room_tU32 hK.cell1.choose_spec AP hK
   refine Gn (λ_ _=>⟨rfl,AJB hP rfl (λ_ _=>stepG_markAt .write AV rfl rfl (by k_ne) rfl H.f_raceWrite (x_raceWrite_n L) (x_raceWrite_b L) (x_raceWrite_x L) (x_raceWrite_f L) (ad:=⟨_,1,AB⟩) (by simp[Act.eval]<;>rfl)) rfl rfl ?_⟩);walk_nrm;refine (JP hP rfl (n:=150) hl0 ?_).2
   replace hK:=hl0
   u_c Bf AP hK;u_c BZ AP hK;u_reg AP hK;u_op AP hK;u_c Bf AP hK;u_c BZ AP hK;u_c BZ AP hK;u_reg AP hK;u_op AP hK;u_op AP hK;u_op AP hK;u_op AP hK
   u_skip AP hK
   u_op AP hK;u_c Bf AP hK
   u_cond false AP hK
   u_c Io AP hK;u_c BZ AP hK;u_reg AP hK;u_op AP hK;u_op AP hK;u_op AP hK;u_op AP hK;refine Gn (λ_ _=>⟨rfl,AQQ hP (λw st hw=>stepG_semacquire_wait rfl rfl rfl H.f_semacquire (x_semacquire_n L) (x_semacquire_b L) (x_semacquire_x L) (x_semacquire_f L) (by simp[Act.eval,smA]) (WgAt.cellSm (ty:=C.ty) hw)) (λw hw=>(stepG_semacquire (n:=1) rfl rfl (by k_ne) rfl H.f_semacquire (x_semacquire_n L) (x_semacquire_b L) (x_semacquire_x L) (x_semacquire_f L) (by simp[Act.eval,smA]) (WgAt.cellSm (ty:=C.ty) hw) (by k_ne) (WgAt.thaw (ty:=C.ty) hw 1)).trans (by rfl)) rfl rfl rfl ?_⟩);walk_nrm;refine (JP hP rfl (n:=150) hl0 ?_).2
   replace hK:=hl0
   u_c Bf AP hK;u_c BZ AP hK;u_reg AP hK;u_op AP hK;u_op AP hK;u_op AP hK
   u_call H.f_uLoad (nm_uLoad L) uLoadFn AP hK
   u_c BZ AP hK;u_reg AP hK;u_op AP hK;u_c Bf AP hK;u_c BZ AP hK;u_reg AP hK;u_op AP hK;u_op AP hK;u_op AP hK;refine Gn (λ_ _=>⟨rfl,AQR hP (λw hw=>mG (v:=0) rfl rfl (by k_ne) rfl H.f_loadU64 (x_loadU64_n L) (x_loadU64_b L) (x_loadU64_x L) .u64 (x_loadU64_f L) rfl (QG (ty:=C.ty) hw)) rfl rfl ?_⟩);walk_nrm;refine (JP hP rfl (n:=150) hl0 ?_).2
   replace hK:=hl0
   u_op AP hK;u_c Bf AP hK;u_c NW AP hK
   u_leave1 H.f_uLoad AP hK
   u_op AP hK;u_op AP hK;u_c Bf AP hK;u_c BZ AP hK
   u_cond true AP hK
   u_c BZ AP hK;u_reg AP hK;refine Gn (λ_ _=>⟨rfl,AEY hP (λ_ _=>stepG_mark0 .enable AV rfl rfl (by k_ne) rfl H.f_enable (x_enable_n L) (x_enable_b L) (x_enable_x L) (x_enable_f L)) rfl rfl ?_⟩);walk_nrm;refine (JP hP rfl (n:=150) hl0 ?_).2
   replace hK:=hl0
   u_c Bf AP hK;u_reg AP hK;u_op AP hK
   u_conv H.underlying_tWgP H.room_tWg hK.cell.choose_spec AP hK
   refine Gn (λ_ _=>⟨rfl,zf hP (λ_ _=>stepG_markAt .acquire AV rfl rfl (by k_ne) rfl H.f_acquire (x_acquire_n L) (x_acquire_b L) (x_acquire_x L) (x_acquire_f L) (by simp[Act.eval,GK])) rfl rfl (hfin _ ⟨60,λw=>?_⟩)⟩);walk_nrm;have hT:True:=trivial;u_c Bf (λ_ _=>Ar) hT;u_c BZ (λ_ _=>Ar) hT;u_c BZ (λ_ _=>Ar) hT;u_reg (λ_ _=>Ar) hT;u_op (λ_ _=>Ar) hT;u_c Bf (λ_ _=>Ar) hT
   u_cond false (λ_ _=>Ar) hT
   u_c Io (λ_ _=>Ar) hT;u_c NW (λ_ _=>Ar) hT
   u_leave0 H.f_wait (λ_ _=>Ar) hT
   exact Gn λ_ _=>rfl
  ·
   walk_nrm;refine (JP hP rfl (n:=150) hl0 ?_).2
   replace hK:=hl0
   u_op AP hK;u_c Bf AP hK;u_c NW AP hK
   u_leave1 H.f_uCas AP hK
   u_c Bf AP hK
   u_cond false AP hK
   u_c Io AP hK;u_c stepG_inBlock AP hK;u_c stepG_inLoop AP hK;u_c stepG_block AP hK;u_c BZ AP hK;u_reg AP hK;u_op AP hK;u_op AP hK;u_op AP hK
   u_call H.f_uLoad (nm_uLoad L) uLoadFn AP hK
   u_c BZ AP hK;u_reg AP hK;u_op AP hK;u_c Bf AP hK;u_c BZ AP hK;u_reg AP hK;u_op AP hK;u_op AP hK;u_op AP hK;refine Gn (λ_ _=>⟨rfl,AMc hP (λw hw=>mG (v:=0) rfl rfl (by k_ne) rfl H.f_loadU64 (x_loadU64_n L) (x_loadU64_b L) (x_loadU64_x L) .u64 (x_loadU64_f L) rfl (QG (ty:=C.ty) hw)) rfl rfl ?_⟩);walk_nrm;refine (JP hP rfl (n:=150) hl0 ?_).2
   replace hK:=hl0
   u_op AP hK;u_c Bf AP hK;u_c NW AP hK
   u_leave1 H.f_uLoad AP hK
   u_op AP hK;u_c Bf AP hK;u_c BZ AP hK;u_reg AP hK;u_op AP hK;u_op AP hK;u_op AP hK;u_op AP hK;u_c Bf AP hK;u_c BZ AP hK;u_reg AP hK;u_op AP hK;u_op AP hK;u_op AP hK;u_op AP hK;u_c Bf AP hK;u_c BZ AP hK;u_c BZ AP hK;u_reg AP hK;u_op AP hK;u_op AP hK;u_c Bf AP hK
   u_cond true AP hK
   u_c BZ AP hK
   u_cond true AP hK
   u_c BZ AP hK;u_reg AP hK;refine Gn (λ_ _=>⟨rfl,AEY hP (λ_ _=>stepG_mark0 .enable AV rfl rfl (by k_ne) rfl H.f_enable (x_enable_n L) (x_enable_b L) (x_enable_x L) (x_enable_f L)) rfl rfl ?_⟩);walk_nrm;refine (JP hP rfl (n:=150) hl0 ?_).2
   replace hK:=hl0
   u_c Bf AP hK;u_reg AP hK;u_op AP hK
   u_conv H.underlying_tWgP H.room_tWg hK.cell.choose_spec AP hK
   refine Gn (λ_ _=>⟨rfl,zf hP (λ_ _=>stepG_markAt .acquire AV rfl rfl (by k_ne) rfl H.f_acquire (x_acquire_n L) (x_acquire_b L) (x_acquire_x L) (x_acquire_f L) (by simp[Act.eval,GK])) rfl rfl (hfin _ ⟨60,λw=>?_⟩)⟩);walk_nrm;have hT:True:=trivial;u_c Bf (λ_ _=>Ar) hT;u_c BZ (λ_ _=>Ar) hT;u_c BZ (λ_ _=>Ar) hT;u_reg (λ_ _=>Ar) hT;u_op (λ_ _=>Ar) hT;u_op (λ_ _=>Ar) hT;u_op (λ_ _=>Ar) hT;u_op (λ_ _=>Ar) hT;u_op (λ_ _=>Ar) hT;u_op (λ_ _=>Ar) hT;u_op (λ_ _=>Ar) hT;u_op (λ_ _=>Ar) hT
   u_skip (λ_ _=>Ar) hT
   u_skip (λ_ _=>Ar) hT
   u_op (λ_ _=>Ar) hT;u_c Bf (λ_ _=>Ar) hT
   u_cond false (λ_ _=>Ar) hT
   u_c Io (λ_ _=>Ar) hT;u_c NW (λ_ _=>Ar) hT
   u_leave0 H.f_wait (λ_ _=>Ar) hT
   exact Gn λ_ _=>rfl
 ·
  walk_nrm;refine (JP hP rfl (n:=150) hl0 ?_).2
  replace hK:=hl0
  u_op AP hK;u_c Bf AP hK;u_c NW AP hK
  u_leave1 H.f_uLoad AP hK
  u_op AP hK;u_c Bf AP hK;u_c BZ AP hK;u_reg AP hK;u_op AP hK;u_op AP hK;u_op AP hK;u_op AP hK;u_c Bf AP hK;u_c BZ AP hK;u_reg AP hK;u_op AP hK;u_op AP hK;u_op AP hK;u_op AP hK;u_c Bf AP hK;u_c BZ AP hK;u_c BZ AP hK;u_reg AP hK;u_op AP hK;u_op AP hK;u_c Bf AP hK
  u_cond true AP hK
  u_c BZ AP hK
  u_cond true AP hK
  u_c BZ AP hK;u_reg AP hK;refine Gn (λ_ _=>⟨rfl,AEY hP (λ_ _=>stepG_mark0 .enable AV rfl rfl (by k_ne) rfl H.f_enable (x_enable_n L) (x_enable_b L) (x_enable_x L) (x_enable_f L)) rfl rfl ?_⟩);walk_nrm;refine (JP hP rfl (n:=150) hl0 ?_).2
  replace hK:=hl0
  u_c Bf AP hK;u_reg AP hK;u_op AP hK
  u_conv H.underlying_tWgP H.room_tWg hK.cell.choose_spec AP hK
  refine Gn (λ_ _=>⟨rfl,zf hP (λ_ _=>stepG_markAt .acquire AV rfl rfl (by k_ne) rfl H.f_acquire (x_acquire_n L) (x_acquire_b L) (x_acquire_x L) (x_acquire_f L) (by simp[Act.eval,GK])) rfl rfl (hfin _ ⟨60,λw=>?_⟩)⟩);walk_nrm;have hT:True:=trivial;u_c Bf (λ_ _=>Ar) hT;u_c BZ (λ_ _=>Ar) hT;u_c BZ (λ_ _=>Ar) hT;u_reg (λ_ _=>Ar) hT;u_op (λ_ _=>Ar) hT;u_op (λ_ _=>Ar) hT;u_op (λ_ _=>Ar) hT;u_op (λ_ _=>Ar) hT;u_op (λ_ _=>Ar) hT;u_op (λ_ _=>Ar) hT;u_op (λ_ _=>Ar) hT;u_op (λ_ _=>Ar) hT
  u_skip (λ_ _=>Ar) hT
  u_skip (λ_ _=>Ar) hT
  u_op (λ_ _=>Ar) hT;u_c Bf (λ_ _=>Ar) hT
  u_cond false (λ_ _=>Ar) hT
  u_c Io (λ_ _=>Ar) hT;u_c NW (λ_ _=>Ar) hT
  u_leave0 H.f_wait (λ_ _=>Ar) hT
  exact Gn λ_ _=>rfl
end
section
variable {f:AX}{Kp:AX->List AX->AL->Prop}{ts:List AX}{α β:Type}{s s':VS}{v1:AL}
section
variable {K:Kit} {T:Twin} {N:Nat} {ρ:Rn} {v:AL}
theorem AQS{c:Prop}[Decidable c]{A B R:GStep}(h:(if c then A else B)=R)(hA:A≠R):B=R:=by
 by_cases hc:c;rw[BU hc] at h;exact Ak h hA;rwa[BL hc] at h
theorem uV(hK:Fits K T N)(hW:DF K.F N ρ v v){ch:List NU}(hm:f.mode=.panicking ch)(hu:Nj ch){cs:List AX}{d:EL}(hd:I8 K.F ρ d d){g1:Ad}{es:Array Be}
  (h:QD T.v f cs AB d v=.go g1 v1 es):kM (g1.frame::g1.callers):=by
 have hs:=Y4 (N:=N) hK.bodies hd;have hc:=hs.sort hW;unfold QD at h;have h:=AQS h (by intro x;cases x);rw[Ik] at h;generalize (invoke d.target d.args).events T.v v #[]=eu at h;generalize (invoke d.target d.args).run T.v v=r at hc h
 cases r with
 |ok n v'=>
  obtain⟨ρ',b,hq⟩:=hc
  cases hq with|value _=>cases h;exact .head hm hu|skip=>cases h;exact .head hm hu|enter _ _=>cases h;exact .under (.head hm hu)|round _ _ _ _ _ _=>cases h;exact .under (.head hm hu)|defer _ _ _=>cases h;exact .head hm hu|seq _ _=>cases h;exact .under (.head hm hu)
 |halt x v'=>
  cases x with
  |panic x=>
   (cases h);obtain⟨c,h1,h2⟩:=ZZ f (ch':=[{v:=x,recovered:=false}]) hm hu (by intro e he;simp at he;subst he;rfl);exact .head h1 h2
  |unsupported u=>cases u<;>first|exact hc.elim|cases h
  |_=>first|exact hc.elim|cases h
theorem zg{R:α->β->Prop}: ∀{a:List α} {b:List α} {l:List β},Ce R (a++b) l->∃a' b',l=a'++b'/\Ce R a a'/\Ce R b b':=by
 intro a
 induction a with
 |nil=>intro b l h;exact⟨[],l,rfl,.nil,h⟩
 |cons x a ih=>
  intro b l h
  cases h with
  |cons h1 h2=>
   obtain⟨a',b',e,h3,h4⟩:=ih h2;exact⟨_::a',b',by rw[e];rfl,.cons h1 h3,h4⟩
theorem Ce.len{R:α->β->Prop}{a:List α}{b:List β}(h:Ce R a b):a.length=b.length:=by
 induction h with|nil=>rfl|cons _ _ ih=>simp[ih]
theorem AHZ(hK:Fits K T N)(hV:T.v=T.P)(hX:(∀f,K.X f=false)/\¬T.p){f1:AX}{Dl:List AX}{e:Array Be}(hw:Q3 K T N f ts v)(hp:kM (f::ts))
  (hst:Af T.P true (G f (ts++[door T.P])) v=.go (G f1 (Dl++[door T.P])) v1 e):kM (f1::Dl):=by
 obtain⟨ρ,hi,hf,hts,hW,hG⟩:=hw;obtain⟨S,x,D,he,ch,hx,hu⟩:=hp
 cases S with
 |cons f0 S0=>
  simp only[Dn,Ir] at he;obtain⟨rfl,rfl⟩:=he;obtain⟨S0',D',e1,h1,h2⟩:=zg hts;obtain⟨rfl,rfl⟩:=List.append_inj e1 h1.len;have h0:=Ux (mn:=true) (dr:=x) (ds:=D++[door T.P]) (cs':=[]) hK hW hG hf h1 (λ_ _ _ _ i _ q=>rfl);(have e2:S0++(x::(D++[door T.P]))=S0++x::D++[door T.P]:=by simp);rw[hV,e2,hst] at h0;rcases h0 with ⟨f1',G7,_,_,ρ1,w1,es',q1,_⟩|⟨X,p,p',k,g1,g2,f1',G7,ρ1,w1,es',_,hX',_⟩|⟨c,q1,q2,_⟩|⟨Qj,_⟩|⟨p,k,_,_,⟨_,_,_,_,hq⟩,_⟩
  ·simp only[G,Gm] at q1;obtain⟨r1,r2,_⟩:=q1;(have e3:G7++(x::(D++[door T.P]))=G7++x::D++[door T.P]:=by simp);rw[e3] at r2;have r2:=Nc r2;subst r1 r2;exact .under ⟨G7,x,D,rfl,ch,hx,hu⟩
  ·have hX':=hX'.1;rw[hX.1] at hX';cases hX'
  ·simp only[G,Gm] at q1;obtain⟨r1,r2,_⟩:=q1;subst r1;obtain⟨c',h3,h4⟩:=q2.pan ch hx hu;exact .head h3 h4
  exact Ak Qj hX.2;exact Ak hq (hi.q _ _ _ _)
 |nil=>
  simp only[EE,Ir] at he;obtain⟨rfl,rfl⟩:=he;have hfn:=hf.known hK;obtain⟨fn,hfn,hfv⟩:=hfn
  have h0:Af T.P true (G f (ts++[door T.P])) v=unwind T.P true f (ts++[door T.P]) AB v:=by
   unfold Af G;simp only[hx]
  rw[h0] at hst;unfold unwind at hst
  cases ed:f.defers with
  |nil=>
   simp only[ed,hx,XT hfn,DC,if_false] at hst
   cases hts with
   |nil=>
    simp only[EE] at hst;simp only[Ri,G,Gm] at hst;have:=hst.1.2.1;simp at this
   | @cons t t' ts ts' ht hts=>
    simp only[Dn] at hst;simp only[Ri,G,Gm] at hst;obtain⟨⟨r1,r2,_⟩,_⟩:=hst;subst r1;obtain⟨c,h1,h2⟩:=Tt ht.fr hu;exact .head h1 h2
  |cons d dl=>
   have hds:=hf.defers;rw[ed] at hds;(have hd:I8 K.F ρ d d:=by cases hds with|cons h1 h2=>exact h1);obtain⟨t,az⟩:=d;by_cases bW: ∃b,t=.collected b
   ·obtain⟨b,rfl⟩:=bW;simp only[ed] at hst;generalize (Instr.takeDeferred b).runT T.P v #[]=r at hst;obtain⟨r,eu⟩:=r
    cases r with
    |ok calls w=>
     simp only[DZ,Ri,G,Gm] at hst;obtain⟨⟨r1,r2,_⟩,_⟩:=hst;subst r1;exact .head (f:={f with defers:=calls++dl}) hx hu
    |halt _ _=>simp only[DZ] at hst;cases hst
   have key: ∀g1 v1 es,QD T.P {f with defers:=dl} (ts++[door T.P]) AB ⟨t,az⟩ v=.go g1 v1 es->kM (g1.frame::g1.callers):=λg1 v1 es h=>
    uV hK hW (f:={f with defers:=dl}) hx hu hd (by rw[hV];exact h)
   have hst':QD T.P {f with defers:=dl} (ts++[door T.P]) AB ⟨t,az⟩ v=.go (G f1 (Dl++[door T.P])) v1 e:=by
    cases t with|collected b=>exact Ak ⟨_,rfl⟩ bW|_=>simp only[ed] at hst;exact hst
   obtain⟨S,y,D,e3,c,h3,h4⟩:=key _ _ _ hst';simp only[G] at e3;rcases List.eq_nil_or_concat D with rfl|⟨D0,z,rfl⟩
   ·exfalso;have e4:f1::(Dl++[door T.P])=(f1::Dl)++[door T.P]:=rfl;rw[e4] at e3;have e5:=List.append_inj_right' e3 rfl;simp only[Ir,and_true] at e5;rw[<- e5] at h3;cases h3
   have e4:f1::(Dl++[door T.P])=(f1::Dl)++[door T.P]:=rfl;rw[e4] at e3;(have e6:S++y::(D0.concat z)=(S++y::D0)++[z]:=by simp);rw[e6] at e3;have e5:=List.append_inj_left' e3 rfl;exact⟨S,y,D0,e5,c,h3,h4⟩
theorem AB1(hK:Fits K T N)(hV:T.v=T.P)(hX:(∀f,K.X f=false)/\¬T.p)(CE: ∀f ts v,Kp f ts v->ts=[]/\f.mode=.returning)
  (h:Ev T.P Kp f ts v):Q3 K T N f ts v->kM (f::ts)->False:=by
 induction h with
 | @stop f ts v hk=>
  intro _ hp;obtain⟨rfl,hm⟩:=CE _ _ _ hk;obtain⟨S,x,D,e,c,hx,_⟩:=hp
  cases S with|nil=>simp only[EE,Ir] at e;rw[e.1,hx] at hm;cases hm|cons s S=>simp at e
 | @step f ts v F S W h1 h2 ih=>
  intro hw hp;obtain⟨es,hs⟩:=h1 v.tape (λ_ _=>rfl);have hvt:v.DN v.tape=v:=rfl;rcases XV hK hV hX hw v.tape with ⟨o,u,e,q1⟩|⟨c,v1,e,q1,q2⟩|⟨f1,Dl,v1,e,q1,hw1,_⟩;rw[hs] at q1;cases q1
  ·rw[hs] at q1;simp only[Ri,G,Gm] at q1;have:=q1.1.2.1;simp at this
  rw[hs] at q1;simp only[Ri,G,Gm] at q1;obtain⟨⟨r1,r2,_⟩,r3,_⟩:=q1;have r2:=Nc r2;rw[hvt] at hs;refine ih v.tape (λ_ _=>rfl) (by rw[r1,r2,r3];exact hw1) ?_;exact AHZ hK hV hX hw hp hs
theorem Q3.next(hK:Fits K T N)(hV:T.v=T.P)(hX:(∀f,K.X f=false)/\¬T.p)(hn:Nx T.P Kp s' s)(hw:Q3 K T N s.f s.ts s.v):Q3 K T N s'.f s'.ts s'.v:=by
 obtain⟨f,ts,v⟩:=s;obtain⟨f',ts',v'⟩:=s';obtain⟨hk,t,ht,es,hs⟩:=hn;rcases XV hK hV hX hw t with ⟨o,u,e,q1⟩|⟨c,v1,e,q1,q2⟩|⟨f1,Dl,v1,e,q1,hw1,_⟩;rw[hs] at q1;cases q1
 ·rw[hs] at q1;simp only[Ri,G,Gm] at q1;have:=q1.1.2.1;simp at this
 rw[hs] at q1;simp only[Ri,G,Gm] at q1;obtain⟨⟨r1,r2,_⟩,r3,_⟩:=q1;have r2:=Nc r2;subst r1 r2 r3;exact hw1
theorem Q3.PE(hK:Fits K T N)(hV:T.v=T.P)(hX:(∀f,K.X f=false)/\¬T.p)(hn:Jv T.P Kp s' s):Q3 K T N s.f s.ts s.v->Q3 K T N s'.f s'.ts s'.v:=by
 induction hn with|one x=>exact λhw=>hw.next hK hV hX x|cons x _ ih=>exact λhw=>ih (hw.next hK hV hX x)
theorem Q3.AQT(hK:Fits K T N)(hV:T.v=T.P)(hX:(∀f,K.X f=false)/\¬T.p)(CE: ∀f ts v,Kp f ts v->ts=[]/\f.mode=.returning)(hw:Q3 K T N s.f s.ts s.v)(h:Ev T.P Kp s.f s.ts s.v):Nk T.P Kp s:=
 λ_ hn hp=>AB1 hK hV hX CE (h.PE hn) (hw.PE hK hV hX hn) hp
end
end
end Go.Proofs.YtkkgcebhfghdnaaGreatDoor
