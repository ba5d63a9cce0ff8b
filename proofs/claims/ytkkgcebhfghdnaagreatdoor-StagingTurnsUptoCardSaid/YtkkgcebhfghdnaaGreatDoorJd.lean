/- Part 4 of what that rests on; no condition. -/
import Derived.Test.YtkkgcebhfghdnaaGreatDoorJc
set_option maxRecDepth 100000
set_option maxHeartbeats 8000000
open Go.Region.linearise renaming go→YY
open Go.Builtin renaming firstCells→MJ, zeroCells→Nh, append_→PX
open Go.Conv renaming bytesToString→Ph
open Go.Instr renaming takeDeferred→kZ, typeAssert→J9, beginRound→YW, enterLoop→Vu, endRound→Tu, getLoop→Zx, yield→Zy
open Go.Deferred renaming ofValue→Pg
open List renaming length_cons→ES, length_nil→Ha, range→FZ
open Array renaming replicate→IK
open Go renaming runtimePanic→Ql, typeHandle→Uc, callMethod→PZ, zeroValue→GM, Deferred→EK, callFunc→Ep, Program→BL, Operand→DT, FuncId→Bi, TypeId→Aj, setObj→I5, Value→AP, undef→AU, Frame→AX, Oper→BR
open Go.Region renaming binds→YX
open Option renaming none→AB, some→AA
namespace Go.Proofs.YtkkgcebhfghdnaaGreatDoor
open Go Go.Conc
section
variable {T:Twin} {F:Fs} {N:Nat} {ρ:Rn} {α β γ:Type}
theorem iF(hN:T.P.globals.size<N)(hok:ρ.Ok N)(t:Aj):Az F ρ (Uc T.v t) (Uc T.P t):=.ptr ⟨hok.hd _ hN,rfl,rfl⟩
theorem LY(hN:T.P.globals.size<N){Q:Rn->α->β->Prop}(i c:Option Aj)(a:Aj)(m:String):
  AY T F N Q (Ql (.typeAssertion i c a m):Sem α) ρ (Ql (.typeAssertion i c a m):Sem β):=by
 intro hok
 have hh: ∀t:Option Aj,Az F ρ (match t with|some t=>Uc T.v t|none=>.pointer AB) (match t with|some t=>Uc T.P t|none=>.pointer AB):=λt=>by
  cases t with|none=>exact .flat rfl|some t=>exact iF hN hok t
 have hp:Az F ρ (.agg #[(match i with|some t=>Uc T.v t|none=>.pointer AB),(match c with|some t=>Uc T.v t|none=>.pointer AB),Uc T.v a,strVal m]) (.agg #[(match i with|some t=>Uc T.P t|none=>.pointer AB),(match c with|some t=>Uc T.P t|none=>.pointer AB),Uc T.P a,strVal m]):=by
  have:=(((Au.one (hh i)).push (hh c)).push (hh (AA a))).push (Az.flat (F:=F) (ρ:=ρ) (v:=strVal m) rfl);exact .agg this.1 this.2
 revert hok;refine CU.bind λρ₁ p p' l1 e=>?_;obtain⟨rfl,rfl⟩:=e;refine (Wn _).bind λρ₂ t t' l2 e=>?_;obtain rfl:t=t':=e;refine (Nj t ((hp.mono l1).mono l2)).bind λρ₃ a a' l3 ha=>?_;exact λ_=>.inr ⟨_,rfl,.iface (.ptr ha)⟩
theorem dV(hN:T.P.globals.size<N){x x':AP}(h:Az F ρ x x')(t a:Aj):AY T F N (QV F) (J9 x t a false) ρ (J9 x' t a false):=by
 unfold J9;refine (BN a).bind λρ₁ d d' l1 e=>?_;obtain⟨rfl,hd⟩:=e;have h:=h.mono l1
 cases h with
 |flat hf=>
  (cases x<;>first|exact Ai (show false=true from hf) AV|skip);all_goals cases d<;>first|exact λ_=>Am|exact LY hN AB AB a "" |exact LY hN (AA t) AB a ""
 | @iface u v v' hv=>
  by_cases hi: ∃w,d=.interface w
  ·obtain⟨w,rfl⟩:=hi;refine (Cm u).bind λρ₂ i i' l2 e=>?_;obtain⟨rfl,_⟩:=e
   cases Instr.missingMethod w i.methods with|none=>exact λ_=>.iface (hv.mono l2)|some m=>exact LY hN AB (AA u) a m
  have e2:AY T F N (QV F) (if u=a then pure v else Ql (.typeAssertion (AA t) (AA u) a ""):Sem AP) ρ₁ (if u=a then pure v' else Ql (.typeAssertion (AA t) (AA u) a "")):=by
   split;exact λ_=>hv;exact LY hN _ _ _ _
  cases d<;>first|exact Ai ⟨_,rfl⟩ hi|exact e2
 |_=>cases d<;>exact λ_=>Am
def AA6 (el:Aj) (n size:Nat):Sem (Array AP):=if n*size=0 then pure #[] else do pure (Nh (<- GM el).cells n)
theorem uO{el:Aj}(hz:Hg T.P el=true)(n size:Nat):AY T F N (QVs F) (AA6 el n size) ρ (AA6 el n size):=by
 unfold AA6;split;exact λ_=>Au.nil;refine (Kv el hz).bind λρ₁ z z' l1 e=>?_;obtain⟨rfl,hz⟩:=e;exact λ_=>VB hz _ _
theorem yG(t xt ty:Aj)(hint: ∃k,T.P.underlying xt=AA (.int k))(hz: ∀el,T.P.underlying t=AA (.slice el)->Hg T.P el=true)
  {s s' x x':AP} (hs:Az F ρ s s') (hx:Az F ρ x x'):AY T F N (QV F) (PX #[t,xt] ty #[s,x]) ρ (PX #[t,xt] ty #[s',x']):=by
 have hsl:=aI hs;unfold PX;simp only[QW,List.getElem?_cons_zero,List.getElem?_cons_succ];refine (BN t).bind λρ₁ d d' l1 e=>?_;obtain⟨rfl,hd⟩:=e
 cases d with
 |slice el=>
  simp only;rcases hsl with ⟨b,b',sLen,sCap,rfl,rfl,hb⟩|hns
  ·simp only;refine (EY el).bind λρ₂ size size' l2 e=>?_;obtain rfl:size=size':=e;refine (BN xt).bind λρ₃ dx dx' l3 e=>?_;obtain⟨rfl,sF⟩:=e;refine AY.bind (Q:=λ_ a b=>a=true/\b=true) ?_ λρ₄ z z' l4 e=>?_
   ·obtain⟨k,hk⟩:=hint;rw[hk] at sF;obtain rfl:=EF sF;exact λ_=>⟨rfl,rfl⟩
   obtain⟨rfl,rfl⟩:=e;simp only[if_true,lT,C9,if_false,true_or,and_true];have hs4:=(((hs.mono l1).mono l2).mono l3).mono l4
   have hb4: ∀{ρ':Rn},ρ₄.le ρ'->(QB ρ' b b'\/∃c a,ρ'.c c (.slice (AA a) 0 0)/\sLen=0/\sCap=0/\b=AA ⟨c,0,AB⟩/\b'=AA a):=by
    intro ρ' l;have lt:=(((l1.trans l2).trans l3).trans l4).trans l;rcases hb with hb|⟨c0,a0,hc0,h1,h2,h3,h4⟩;exact .inl (hb.mono lt);exact .inr ⟨c0,a0,lt.c _ _ hc0,h1,h2,h3,h4⟩
   refine (mF ((((hx.mono l1).mono l2).mono l3).mono l4)).bind λρ₅ q q' l5 e=>?_;obtain rfl:q=q':=e;by_cases hneg:IntKind.i64.wrap q<0
   ·simp only[hneg,if_true];exact AY.bind (Q:=λ_ _ _=>False) (Bj (e:=.error _) trivial) λ_ _ _ _ e=>e.elim
   simp only[hneg,if_false];refine (Cm el).bind λρ₆ i i' l6 e=>?_;obtain⟨rfl,_⟩:=e;by_cases hbig:IntKind.i64.wrap q*(i.bytes:Int)>2 ^ 48
   ·simp only[hbig,if_true];refine (Ja _).bind λρ₇ m m' l7 e=>?_;obtain rfl:m=m':=e;exact AY.bind (Q:=λ_ _ _=>False) (Bj (e:=.error _) trivial) λ_ _ _ _ e=>e.elim
   simp only[hbig,if_false];generalize (IntKind.i64.wrap q).toNat=n;have l56:=l5.trans l6;by_cases hn:sLen+n<=sCap
   ·simp only[pure_bind,hn,if_true];rcases hb4 l56 with hb|⟨c0,a0,hc0,rfl,rfl,rfl,rfl⟩
    ·refine AY.bind (uO (hz el hd) n size) λρ₇ c c' l7 hc=>?_;have hb:=hb.mono l7
     cases b with
     |none=>cases b' with
      |none=>exact λ_=>.flat rfl|some _=>exact hb.elim
     |some a=>cases b' with
      |none=>exact hb.elim|some a'=>
       have ha:RelA ρ₇ a a':=hb;exact (Mc c.toList c'.toList 0 (ha.add _) (by simpa using hc)).bind λρ₈ _ _ l8 _=>λ_=>.slice (ha.mono l8)
    (obtain rfl:n=0:=by omega);simp only[lQ,if_true,pure_bind];exact λ_=>.emp hc0
   simp only[pure_bind,hn,if_false]
   have key: ∀ρ₇,ρ₆.le ρ₇->AY T F N (QV F) (do
      let newCap <- choose (.appendCap (sLen+n) sCap el)
      askRoom (newCap*(<- typeInfo el).bytes)
      let old <- MJ size sLen (.slice b sLen sCap);let new <- AA6 el n size;let rest:=Nh (<- GM el).cells (newCap - (sLen+n))
      pure (.slice (AA (<- newRow el (old++new++rest))) (sLen+n) newCap):Sem AP) ρ₇ (do
      let newCap <- choose (.appendCap (sLen+n) sCap el)
      askRoom (newCap*(<- typeInfo el).bytes)
      let old <- MJ size sLen (.slice b' sLen sCap);let new <- AA6 el n size;let rest:=Nh (<- GM el).cells (newCap - (sLen+n))
      pure (.slice (AA (<- newRow el (old++new++rest))) (sLen+n) newCap):Sem AP):=by
    intro ρ₇ l7;refine (Ja _).bind λρ₈ nc nc' l8 e=>?_;obtain rfl:nc=nc':=e;refine (Cm el).bind λρ₉ i i' l9 e=>?_;obtain⟨rfl,_⟩:=e;refine (aG _).bind λρ₁₀ _ _ l10 _=>?_;have lt:=((((l56.trans l7).trans l8).trans l9).trans l10);refine (Me size sLen (hs4.mono lt) (λp hp=>by injection hp)).bind λρ₁₁ o o' l11 ho=>?_;refine (uO (hz el hd) n size).bind λρ₁₂ c c' l12 hc=>?_;refine (Kv el (hz el hd)).bind λρ₁₃ z z' l13 e=>?_;obtain⟨rfl,hz⟩:=e;exact (TK el (((ho.mono (l12.trans l13)).append (hc.mono l13)).append (VB hz _ _))).bind λ_ a a' _ ha=>λ_=>.slice ha
   have dead: ∀{ρ':Rn} {α β:Type} {Q:Rn->α->β->Prop} {f:Unit->Sem α} {f':Unit->Sem β} {m:String},AY T F N Q (Ql (.error m)>>=f) ρ' (Ql (.error m)>>=f'):=
    AY.bind (Q:=λ_ _ _=>False) (Bj (e:=.error _) trivial) λ_ _ _ _ e=>e.elim
   refine (Cm el).bind λρ₇ i i' l7 e=>?_;obtain⟨rfl,_⟩:=e;by_cases hov:((sLen+n:Nat):Int)>IntKind.i64.max
   ·simp only[hov,if_true];exact dead
   simp only[hov,if_false];refine (Cm el).bind λρ₈ j j' l8 e=>?_;obtain⟨rfl,_⟩:=e;by_cases hb2:Builtin.nextslicecap (sLen+n) sCap*j.bytes>2 ^ 48
   ·simp only[hb2,if_true];exact dead
   simp only[hb2,if_false];exact key ρ₈ (l7.trans l8)
  cases s<;>first|exact λ_=>Am|exact Ai rfl (hns _ _ _)
 |_=>exact λ_=>Am
end
section
variable {p p':Array AP}{d d':EK}{fb:Fb}{f:Bi}{b l l':Nat}{ev':DT->AP}{x x':AP}
def H9 (fb:Fb) (G:Nat):DT->Bool
 | .tmp _=>true| .const v=>closed v| .global g=>decide (g<G)| .func f=>fb f && fb.v f
def yH (P:BL) (t:Aj):DT->Bool
 | .const v=>J4 P t v|_=>false
def UI (m:Nat):DT->Nat->Bool
 | .func _,_=>true|_,n=>decide (n<=m)
def KL (fb:Fb) (f:Bi) (n:Nat):Bool:=match fb.a f with|none=>true|some m=>n==m && decide (m<1000)
def Gn (P:BL) (fb:Fb) (G:Nat):Callee->Array Aj->Array DT->Bool
 | .value (.func f),_,as=>(fb f && KL fb f as.size) || fb.e f| .value f,_,as=>fb.h && (H9 fb G f && UI fb.m f as.size)| .invoke r name,_,_=>H9 fb G r && Q4 P fb name
 | .builtin .append,ts,as=>(match ts.toList,as.toList with
  | [t,_],[_,_]=>(match P.underlying t with|some (.slice el)=>Hg P el|_=>true)
  |_,_=>false)
 | .builtin .len,ts,as=>(match ts.toList,as.toList with
  | [t],[_]=>(match P.underlying t with|some (.chan _ _)=>false|_=>true)
  |_,_=>false)
 | .builtin .max,_,_=>true| .builtin .min,_,_=>true
 | .builtin .delete,ts,as=>(match ts.toList,as.toList with
  | [t,_],[_,_]=>Wy P t
  |_,_=>false)
 | .builtin .clear,ts,as=>(match ts.toList,as.toList with
  | [t],[_]=>(match P.underlying t with|some (.slice el)=>Hg P el|_=>false)
  |_,_=>false)
 |_,_,_=>false
def O5 (c:Call):Array DT:=match c.callee with| .value (.func _)=>c.args|_=>c.operands
def opsOf:Op->Array DT
 | .call c| .defer c=>O5 c|op=>op.operands
def V6 (P:BL) (fb:Fb) (G:Nat) (op:Op):Bool:=
 (opsOf op).all (H9 fb G) && match op with
 | .move _| .assign _| .pick _ _ _| .box _ _| .load _ _| .store _ _ _| .nilCheck _| .makeInterface _ _| .slice _ _ _ _ _| .fieldAddr _ _ _| .indexAddr _ _ _| .extract _ _| .panic _=>true| .alloc t=>Hg P t| .build t _=>Hg P t| .buildSlice t _ _=>(match P.underlying t with|some (.slice el)=>Hg P el|_=>true)
 | .binOp op t x y _=>if op== .eql || op== .neq then Hy P t || yH P t y || yH P t x else (match P.underlying t with|some .unsafePointer=>false|_=>true)
 | .unOp .not _ _=>true
 | .convert s d _=>(match P.underlying s,P.underlying d with
  |some (.slice e),AA .string=>(match P.underlying e with|some (.int .u8)=>true|_=>false)
  |some (.int _),AA (.int _)=>true|some .string,AA .string=>true
  |_,_=>false)
 | .makeFunc (.func f) _ _=>fb f && fb.v f| .lookup t _ _ _| .mapUpdate t _ _ _=>Wy P t| .makeMap _ r=>r.isNone| .range _ _| .next _ _| .entry _| .index _ _ _=>true| .typeAssert _ _ a ok=> !ok || Hg P a| .call c=>Gn P fb G c.callee c.argTypes c.args| .defer c=>fb.d && (match c.callee with| .value (.func f)=>fb f && (fb.a f).isNone| .value f=>fb.h && UI fb.m f c.args.size|_=>false)
 |_=>false
inductive Jo (F:Fs) (ρ:Rn):Next->Next->Prop
 |value {v v':AP}:Az F ρ v v'->Jo F ρ (.value v) (.value v')|skip:Jo F ρ .skip .skip|enter {f:Bi} {p p':Array AP}:F f->F.a f p.size->F.dk f p->Au F ρ p p'->Jo F ρ (.enter f p) (.enter f p')|round {l l':Nat} {f:Bi} {p p':Array AP} {a b:Code}:F.h->ρ.r l l'->Au F ρ p p'->F.r f->F.c a->F.c b->Jo F ρ (.round l f p a b) (.round l' f p' a b)|defer {d d':EK}:F.d->(∀g q,d.target=.fn (.func g) q->∀n,F.a g n)->I7 F ρ d d'->Jo F ρ (.defer d) (.defer d')|seq {p:Array AP} {n:Next}:p.size<=F.m+2->(∃s k a b,ρ.q s k a b)->Jo F ρ (.enter F.z p) n
abbrev mW (F:Fs):Rn->Next->Next->Prop:=λρ=>Jo F ρ
section
variable {T:Twin} {F:Fs} {N:Nat} {ρ:Rn} {α β γ:Type}
theorem Fz{s s':Sem AP}(h:AY T F N (QV F) s ρ s'):AY T F N (mW F) (do pure (.value (<- s)):Sem Next) ρ (do pure (.value (<- s')):Sem Next):=
 h.bind λ_ _ _ _ hv=>λ_=>.value hv
theorem ADb{s s':Sem Unit}(h:AY T F N Ec s ρ s'):AY T F N (mW F) (do s;pure .skip:Sem Next) ρ (do s';pure .skip:Sem Next):=
 h.bind λ_ _ _ _ _=>λ_=>.skip
structure Gp (T:Twin) (F:Fs) (N:Nat):Prop where
 z:(∃fn,T.v.funcs[F.z]? =AA fn/\fn.body.isNone=false/\(fn.name== "runtime.NumGoroutine")=false)/\∃fn,T.P.funcs[F.z]? =AA fn/\fn.body.isNone=false/\(fn.name== "runtime.NumGoroutine")=false
 v: ∀f,F f->∃fn,T.v.funcs[f]? =AA fn/\fn.body.isNone=false/\(fn.name== "runtime.NumGoroutine")=false
 a: ∀f,F f->∃fn,T.P.funcs[f]? =AA fn/\fn.body.isNone=false/\(fn.name== "runtime.NumGoroutine")=false
 va:F.h->∀f,F.v f->∀n,F.a f n
 za: ∀n,F.a F.z n
 dk: ∀f,(∀n,F.a f n)->∀p,F.dk f p
 e: ∀f,F.e f->∃fn,T.v.funcs[f]? =AA fn/\T.P.funcs[f]? =AA fn/\fn.body.isNone=true/\(fn.name== "runtime.NumGoroutine")=false/\(Extern.findNext fn).isNone=true/\
  match Extern.find fn with|some e=>KJ T F N e|none=>(fn.name.endsWith ".init" && !fn.name.startsWith "(" && !fn.name.startsWith "gosem.")=false
 m0: ∀i,T.P.info? 0=AA i->i.methods.find? (·.name== "")=AB
theorem UJ(hB:Gp T F N)(hf:F f)(ha:F.a f p.size)(hd:F.dk f p)(hp:Au F ρ p p'):AY T F N (λρ a b=>Jo F ρ a b/\∀g p,a=.enter g p->g=f) (Ep f p) ρ (Ep f p'):=by
 obtain⟨fn,h1,h2,h3⟩:=hB.v f hf;obtain⟨fn',h1',h2',h3'⟩:=hB.a f hf;unfold Ep;refine CU.bind λρ₁ a b l1 e=>?_;obtain⟨rfl,rfl⟩:=e;simp only[h1,h1',h2,h2',h3,h3',C9,if_false];exact λ_=>⟨.enter hf ha hd (hp.mono l1),λ_ _ e=>(by cases e;rfl)⟩
theorem aO(hB:Gp T F N)(hf:F.e f)(hp:Au F ρ p p'):AY T F N (mW F) (Ep f p) ρ (Ep f p'):=by
 obtain⟨fn,h1,h2,h3,h4,h5,h6⟩:=hB.e f hf;unfold Ep;refine CU.bind λρ₁ a b l1 e=>?_;obtain⟨rfl,rfl⟩:=e;simp only[h1,h2,h3,h4,C9,if_false,if_true];(have h5:Extern.findNext fn=AB:=by simpa using h5);refine AY.bind (Q:=Ec) (λ_=>.inr ⟨rfl,Am,rfl⟩) λρ₂ _ _ l2 _=>?_;simp only[h5]
 cases h7:Extern.find fn with
 |some e=>
  rw[h7] at h6;exact Fz (h6 ((hp.mono l1).mono l2))
 |none=>
  rw[h7] at h6;simp only[h6,C9,if_false];exact λ_=>Am
theorem jY(hB:Gp T F N)(hfb: ∀f,fb f=true->F f)(hfa: ∀f n,KL fb f n=true->F.a f n)(hfe: ∀f,fb.e f=true->F.e f){name:String}(hm:Q4 T.P fb name=true)(h:Az F ρ x x')(hp:Au F ρ p p'):
  AY T F N (mW F) (PZ x name p) ρ (PZ x' name p'):=by
 unfold PZ
 cases h with
 |flat hf=>cases x<;>first|exact λ_=>Am|exact Bj (e:=.nilDeref) trivial|exact Ai (show false=true from hf) AV
 |iface hv=>
  simp only;refine CU.bind λρ₁ a b l1 e=>?_;obtain⟨rfl,rfl⟩:=e;refine (iE hm _ _ (hv.mono l1)).bind λρ₂ q q' l2 hq=>?_;obtain⟨f,r⟩:=q;obtain⟨f',r'⟩:=q';obtain⟨e1,h1,h2⟩:=hq;simp only at e1 h1 h2;subst e1;rcases h1 with h1|h1;exact (UJ hB (hfb _ h1.1) (hfa _ _ (by unfold KL;rw[h1.2])) (hB.dk _ (λn=>hfa _ _ (by unfold KL;rw[h1.2])) _) ((Au.one h2).append ((hp.mono l1).mono l2))).mono λ_ _ _ _ h=>h.1;exact aO hB (hfe _ h1) ((Au.one h2).append ((hp.mono l1).mono l2))
 |_=>exact λ_=>Am
theorem yI(hB:Gp T F N)(hp:p.size<=F.m+2)(hq: ∃s k a b,ρ.q s k a b):AY T F N (λρ a b=>Jo F ρ a b/\∀g p,a=.enter g p->g=F.z) (Ep F.z p) ρ (Ep F.z p'):=by
 obtain⟨⟨fn,h1,h2,h3⟩,fn',h1',h2',h3'⟩:=hB.z;unfold Ep;refine CU.bind λρ₁ a b l1 e=>?_;obtain⟨rfl,rfl⟩:=e;simp only[h1,h1',h2,h2',h3,h3',C9,if_false];obtain⟨s,k,x,y,hq⟩:=hq;exact λ_=>⟨.seq hp ⟨s,k,x,y,l1.q _ _ _ _ hq⟩,λ_ _ e=>(by cases e;rfl)⟩
theorem Yn(hh:F.h)(hva: ∀f,F.v f->∀n,F.a f n)(hza: ∀n,F.a F.z n)(h:Az F ρ x x')(hp:Au F ρ p p')(hs:(∃s n,x=Fg F.z s n)->p.size<=F.m):AY T F N (λρ d d'=>I7 F ρ d d'/\∀g q,d.target=.fn (.func g) q->∀n,F.a g n) (Pg x p) ρ (Pg x' p'):=by
 unfold Pg
 cases h with
 |flat hf=>cases x<;>first|exact λ_=>Am|exact λ_=>⟨.mk .nil hp,λ_ _ e=>(by cases e)⟩|exact Ai (show false=true from hf) AV
 |func hf hv h1 h2 h3 h4=>exact λ_=>⟨.mk (.fn hf (hva _ hv) ⟨h3,h4⟩) (Au.append ⟨h1,h2⟩ hp),λ_ _ e=>(by cases e;exact hva _ hv)⟩|yield hl=>exact λ_=>⟨.mk (.yield hh hl) (by simpa using hp),λ_ _ e=>(by cases e)⟩|mf hx hm=>cases x'<;>first|exact Ai (show false=true from hm) AV|exact λ_=>⟨I7.dead hx hm hp,λ_ _ e=>(by cases e)⟩
 |seq hq=>exact λ_=>⟨.mk (.seq (by have:=hs ⟨_,_,rfl⟩;simpa using this) hq) (by simpa using hp),λ_ _ e=>(by cases e;exact hza)⟩|tok hc ht=>
  cases x'<;>first|exact Ai (show false=true from ht) AV|exact λ_=>Am
 |_=>exact λ_=>Am
theorem yJ(hh:F.h)(hva: ∀f,F.v f->∀n,F.a f n)(hza: ∀n,F.a F.z n)(h:Az F ρ x x')(hp:Au F ρ p p')(hs:(∃s n,x=Fg F.z s n)->p.size<=F.m):AY T F N (λρ=>I7 F ρ) (Pg x p) ρ (Pg x' p'):=
 (Yn hh hva hza h hp hs).mono λ_ _ _ _ h=>h.1
theorem yK{ps:List (Tmp×AP)}: ∀{ps':List (Tmp×AP)} {p p':Array AP},Cc (λq q'=>q.1=q'.1/\Az F ρ q.2 q'.2) ps ps'->Au F ρ p p'->
  Au F ρ (ps.foldl (λtmps (t,a)=>tmps.setIfInBounds t a) p) (ps'.foldl (λtmps (t,a)=>tmps.setIfInBounds t a) p'):=by
 induction ps with
 |nil=>intro ps' p p' h hp;cases h;exact hp
 |cons q ps ih=>
  intro ps' p p' h hp
  cases h with
  | @cons _ q' _ ps' h1 h2=>
   obtain⟨t,a⟩:=q;obtain⟨t',a'⟩:=q';obtain⟨e,hr⟩:=h1;simp only at e hr;subst e;simp only[List.foldl_cons];exact ih h2 (hp.set hr _)
theorem AGZ{l:List Tmp}: ∀{p p':List AP},Au F ρ p.toArray p'.toArray->Cc (λq q':Tmp×AP=>q.1=q'.1/\Az F ρ q.2 q'.2) (l.zip p) (l.zip p'):=by
 induction l with
 |nil=>intro p p' _;simp only[List.zip_nil_left];exact .nil
 |cons t l ih=>
  intro p p' h
  cases p with
  |nil=>
   (have:p'=[]:=by have:=h.1;simp at this;exact dN.1 this.symm);subst this;simp only[List.zip_nil_right];exact .nil
  |cons v p=>
   cases p' with
   |nil=>have:=h.1;simp at this|cons v' p'=>
    simp only[List.zip_cons_cons];exact .cons ⟨rfl,h.2 0 v v' AV AV⟩ (ih ⟨by have:=h.1;simpa using this,λj x x' hx hx'=>h.2 (j+1) x x' (by simpa using hx) (by simpa using hx')⟩)
theorem OE(h:ρ.r l l'):AY T F N (λρ=>uJ F ρ) (Zx l) ρ (Zx l'):=by
 unfold Zx;refine AY.bind (Q:=λρ=>Gs F ρ) (λ_=>⟨h,λo o' ho=>ho⟩) λρ₁ o o' l1 ho=>?_
 cases ho with|loop hl=>exact λ_=>hl|_=>exact λ_=>Am
theorem ADc(hh:F.h)(h:ρ.r l l')(hp:Au F ρ p p'):AY T F N (λρ a b=>Jo F ρ a b/\∀g p,a≠ .enter g p) (Zy l p) ρ (Zy l' p'):=by
 unfold Zy;refine (OE h).bind λρ₁ r r' l1 hr=>?_;rw[hr.params,<- hp.1];by_cases hs:p.size≠r.params.size
 ·simp only[hs,if_true,ne_eq,not_false_eq_true];exact AY.bind (Q:=λ_ _ _=>False) (λ_=>Am) λ_ _ _ _ e=>e.elim
 simp only[hs,if_false];rw[hr.fn,hr.assign,hr.body];refine λ_=>⟨.round hh (l1.r _ _ h) ?_ hr.okF hr.okA hr.okB,λ_ _ e=>(by cases e)⟩;have:=yK (F:=F) (ρ:=ρ₁) (AGZ (F:=F) (l:=r.params.toList) (p:=p.toList) (p':=p'.toList) (by simpa using hp.mono l1)) hr.tmps;rw[<- xG,<- xG,Array.toList_zip,Array.toList_zip];exact this
theorem ADd(h0: ∀i,T.P.info? 0=AA i->i.methods.find? (·.name== "")=AB):CW T (do let d <- Pg (lg b) p;invoke d.target d.args:Sem Next):=by
 show CW T (invoke (.fn (.method "") #[]) (#[.iface 0 (.chan (AA b))]++p));(have e:(#[Value.iface 0 (.chan (AA b))]++p)[0]? =AA (.iface 0 (.chan (AA b))):=by rw[lU AV];rfl);unfold invoke;simp only[e];unfold PZ;simp only
 have e2: ∀n,CW T (method n 0 (.chan (AA b)) ""):=by
  intro n
  cases n with
  |zero=>exact Am|succ n=>
   rw[method];show CW T ((match T.P.info? 0 with|some d=>pure d|none=>stuck "no such type" :Sem TypeInfo).bind _)
   cases h:T.P.info? 0 with
   |none=>exact Am|some i=>
    simp only[pure,Sem.bind,h0 i h];exact Am
 exact (e2 _).bind
theorem ADe(h0: ∀i,T.P.info? 0=AA i->i.methods.find? (·.name== "")=AB):CW T (invoke (Y9 (lg b) p).target (Y9 (lg b) p).args):=ADd h0
theorem XC(hB:Gp T F N)(h:I7 F ρ d d'):AY T F N (λρ a b=>Jo F ρ a b/\∀g p,a=.enter g p->∃q,d.target=.fn (.func g) q) (invoke d.target d.args) ρ (invoke d'.target d'.args):=by
 cases h with|dead h1 h2 h3=>exact RU (ADe hB.m0) _|mk h hp=>
 obtain⟨t,p⟩:=d;obtain⟨t',p'⟩:=d';simp only at h hp
 cases h with|nil=>exact Bj (e:=.nilDeref) trivial|fn hf ha hq=>exact (UJ hB hf (ha _) (hB.dk _ ha _) (hp.append hq)).mono λ_ _ _ _ h=>⟨h.1,λg p e=>by rw[h.2 g p e];exact⟨_,rfl⟩⟩|yield hh hl=>exact (ADc hh hl hp).mono λ_ _ _ _ h=>⟨h.1,λg p e=>Ai e (h.2 g p)⟩|seq hm hq=>exact (yI hB (by simp only[lV,Iq,ES,Ha];omega) ⟨_,_,_,_,hq⟩).mono λ_ _ _ _ h=>⟨h.1,λg p e=>by rw[h.2 g p e];exact⟨_,rfl⟩⟩|collected hb=>exact λ_=>Am
theorem Yo(hB:Gp T F N)(h:I7 F ρ d d'):AY T F N (mW F) (invoke d.target d.args) ρ (invoke d'.target d'.args):=(XC hB h).mono λ_ _ _ _ h=>h.1
theorem Uf(hB:Gp T F N)(hh:F.h)(h:Az F ρ x x')(hp:Au F ρ p p')(hs:(∃s n,x=Fg F.z s n)->p.size<=F.m):
  AY T F N (mW F) (do let d <- Pg x p;invoke d.target d.args:Sem Next) ρ (do let d <- Pg x' p';invoke d.target d.args):=by
 exact (yJ hh (hB.va hh) hB.za h hp hs).bind λ_ _ _ _ hd=>Yo hB hd
def QY (F:Fs) (ρ:Rn) (fb:Fb) (G:Nat) (ev ev':DT->AP):Prop:=∀x,H9 fb G x=true->Az F ρ (ev x) (ev' x)
theorem QY.map{fb:Fb}{G:Nat}{ev ev':DT->AP}(h:QY F ρ fb G ev ev'){l:Array DT}(hl:l.all (H9 fb G)=true):Au F ρ (l.map ev) (l.map ev'):=
 Au.map λx hx=>h x (U5.1 hl x hx)
theorem QY.opt{G:Nat}{ev:DT->AP}(h:QY F ρ fb G ev ev'){o:Option DT}(hl:o.toArray.all (H9 fb G)=true):QO F ρ (o.map ev) (o.map ev'):=by
 cases o with|none=>trivial|some x=>exact h x (by simpa using hl)
theorem QY.parts{G:Nat}{ev:DT->AP}(h:QY F ρ fb G ev ev'): ∀{l:List (Nat×DT)},(∀q∈l,H9 fb G q.2=true)->
  QP F ρ (l.map λq=>(q.1,ev q.2)) (l.map λq=>(q.1,ev' q.2)):=by
 intro l
 induction l with
 |nil=>intro _;exact .nil
 |cons q l ih=>
  intro hl;exact .cons ⟨rfl,h _ (hl q AV)⟩ (ih λx hx=>hl x (by simp[hx]))
theorem mX(l:List AP): ∀{l':List AP} {s:ByteArray},Au F ρ l.toArray l'.toArray->
  AY T F N Ec (forIn l s (λc s=>match c with| .int .u8 n=>pure (.yield (s.push (UInt8.ofNat n.toNat)))|_=>stuck "bytesToString: byte expected"):Sem ByteArray) ρ
   (forIn l' s (λc s=>match c with| .int .u8 n=>pure (.yield (s.push (UInt8.ofNat n.toNat)))|_=>stuck "bytesToString: byte expected"):Sem ByteArray):=by
 induction l with
 |nil=>
  intro l' s h;(have:l'=[]:=by have:=h.1;simp at this;exact dN.1 this.symm);subst this;simp only[List.forIn_nil];exact λ_=>rfl
 |cons v l ih=>
  intro l' s h
  cases l' with
  |nil=>have:=h.1;simp at this|cons v' l'=>
   simp only[ADG];have hv:Az F ρ v v':=h.2 0 v v' AV AV;have ht:Au F ρ l.toArray l'.toArray:=⟨by have:=h.1;simpa using this,λj x x' hx hx'=>h.2 (j+1) x x' (by simpa using hx) (by simpa using hx')⟩
   cases hv with
   |flat hf=>
    (cases v<;>first|exact λ_=>Am|skip);rename_i k n;(cases k<;>first|exact λ_=>Am|skip);simp only[pure_bind];exact ih ht
   |_=>exact λ_=>Am
theorem ZF(h:Az F ρ x x'):AY T F N (QV F) (Ph x) ρ (Ph x'):=by
 unfold Ph
 cases h with
 |flat hf=>
  (cases x<;>first|exact λ_=>Am|skip);rename_i a n k
  cases a with|none=>exact λ_=>.flat rfl|some _=>exact Ai (show false=true from hf) AV
 |slice ha=>
  simp only;refine (Ro ha _).bind λρ₁ p p' l1 hp=>?_;simp only[<- Array.forIn_toList];exact (mX p.toList (l':=p'.toList) (by simpa using hp)).bind λρ₂ a b _ e=>by obtain rfl:a=b:=e;exact λ_=>.flat rfl
 |emp _=>
  simp only[loadCells,loadCellsFrom];exact λ_=>.flat rfl
 |_=>exact λ_=>Am
theorem yL{t u:Aj} (hc:(match T.P.underlying t,T.P.underlying u with
  |some (.slice e),AA .string=>(match T.P.underlying e with|some (.int .u8)=>true|_=>false)
  |some (.int _),AA (.int _)=>true|some .string,AA .string=>true
  |_,_=>false)=true) {x x':AP} (h:Az F ρ x x'):AY T F N (QV F) (convert t u x) ρ (convert t u x'):=by
 unfold convert;refine (BN t).bind λρ₁ d d' l1 e=>?_;obtain⟨rfl,hd⟩:=e;refine (BN u).bind λρ₂ f f' l2 e=>?_;obtain⟨rfl,hf⟩:=e;rw[hd,hf] at hc;have h:=(h.mono l1).mono l2;split at hc
 ·rename_i e1 e2;(cases e1;cases e2);rename_i e;split at hc
  ·rename_i he
   have key:AY T F N (QV F) (do match <- underlying e with
     | .int .u8=>Ph x| .int .i32=>Conv.runesToString x
     |_=>stuck "Convert: a slice of what to string?" :Sem AP) ρ₂ (do match <- underlying e with
     | .int .u8=>Ph x'| .int .i32=>Conv.runesToString x'
     |_=>stuck "Convert: a slice of what to string?"):=by
    refine (BN e).bind λρ₃ g g' l3 q=>?_;obtain⟨rfl,hg⟩:=q;rw[he] at hg;(cases hg);exact ZF (h.mono l3)
   cases h with
   |flat hfl=>cases x<;>first|exact Ai (show false=true from hfl) AV|exact key|exact λ_=>Am|exact λ_=>.flat rfl
   |tok hk ht=>
    cases x'<;>first|exact Ai (show false=true from ht) AV|exact key
   |mf hk hm=>cases x'<;>first|exact Ai (show false=true from hm) AV|exact key
   |_=>exact key
  cases hc
 ·rename_i e1 e2;cases e1;cases e2
  cases h with
  |flat hfl=>cases x<;>first|exact λ_=>.flat rfl|exact λ_=>Am|exact Ai (show false=true from hfl) AV|(rename_i a;cases a<;>first|exact λ_=>Am|exact Ai (show false=true from hfl) AV)
  |_=>exact λ_=>Am
 ·rename_i e1 e2;cases e1;cases e2
  cases h with
  |flat hfl=>cases x<;>first|exact λ_=>.flat rfl|exact λ_=>Am|exact Ai (show false=true from hfl) AV
  |_=>exact λ_=>Am
 cases hc
end
end
section
variable {c:Call}{fb:Fb}{f:DT}{ev':DT->AP}
section
variable {T:Twin} {F:Fs} {N:Nat} {ρ:Rn}
theorem aP{G:Nat}{ev:DT->AP}(hev:QY F ρ fb G ev ev')(e:c.callee=.value f)(hc:c.operands.all (H9 fb G)=true)(ty:Aj):
  Az F ρ (ev f) (ev' f)/\Au F ρ (c.args.map ev) (c.args.map ev')/\resolve ev c ty=Pg (ev f) (c.args.map ev)/\resolve ev' c ty=Pg (ev' f) (c.args.map ev'):=by
 unfold Call.operands at hc;rw[e] at hc;simp only[lW,DU] at hc;exact⟨hev f (by simpa using hc.1),hev.map hc.2,by unfold resolve;rw[e],by unfold resolve;rw[e]⟩
theorem CP{G:Nat}{as:Array DT}(h:as.all (H9 fb G)=true){x:DT}(hx:x∈as):H9 fb G x=true:=U5.1 h x hx
theorem AFP{ev:DT->AP}(hfun: ∀g,ev (.func g)=.func (.func g) #[] #[]){n:Nat}{m:Nat}(h:UI m f n=true){z:Bi}:(∃s k,ev f=Fg z s k)->n<=m:=by
 rintro⟨s,k,e⟩
 cases f with|func g=>rw[hfun] at e;simp[Fg] at e|_=>simpa[UI] using h
theorem mY{G:Nat}{ev:DT->AP}(hev:QY F ρ fb G ev ev')(hfun: ∀g,ev (.func g)=.func (.func g) #[] #[])(hfun': ∀g,ev' (.func g)=.func (.func g) #[] #[]){g:Bi}(e:c.callee=.value (.func g))(hg:F g)(hga: ∀n,F.a g n)
  (hc:(O5 c).all (H9 fb G)=true) (ty:Aj):AY T F N (λρ d d'=>I7 F ρ d d'/\d.target=.fn (.func g) #[]) (resolve ev c ty) ρ (resolve ev' c ty):=by
 unfold O5 at hc;rw[e] at hc;have ha:=hev.map hc;(have e1:resolve ev c ty=pure {target:=.fn (.func g) #[],args:=#[]++c.args.map ev}:=by unfold resolve;rw[e];simp only[hfun];rfl);(have e2:resolve ev' c ty=pure {target:=.fn (.func g) #[],args:=#[]++c.args.map ev'}:=by unfold resolve;rw[e];simp only[hfun'];rfl);rw[e1,e2];exact λ_=>⟨.mk (.fn hg hga Au.nil) (Au.append Au.nil ha),rfl⟩
theorem aQ(h: ∀g,c.callee≠ .value (.func g)):O5 c=c.operands:=by
 unfold O5;split
 ·rename_i e;exact Ai e (h _)
 rfl
theorem AGa(hB:Gp T F N)(hN:T.P.globals.size<N){G:Nat}(hfb: ∀f,fb f=true->F f)(hfa: ∀f n,KL fb f n=true->F.a f n)(hfe: ∀f,fb.e f=true->F.e f)(hfh:fb.h=true->F.h)(hfm:fb.m<=F.m){ev:DT->AP}(hev:QY F ρ fb G ev ev')(hfun: ∀g,ev (.func g)=.func (.func g) #[] #[])(hfun': ∀g,ev' (.func g)=.func (.func g) #[] #[])(hdk: ∀g,c.callee=.value (.func g)->F.dk g (c.args.map ev))(ho:(O5 c).all (H9 fb G)=true)
  (hc:Gn T.P fb G c.callee c.argTypes c.args=true) (ty:Aj):AY T F N (mW F) (do let d <- resolve ev c ty;invoke d.target d.args:Sem Next) ρ (do let d <- resolve ev' c ty;invoke d.target d.args):=by
 by_cases hst: ∃g,c.callee=.value (.func g)
 ·obtain⟨g,hst⟩:=hst;rw[hst] at hc;simp only[Gn,DU,We] at hc;have ha:=hev.map (show c.args.all (H9 fb G)=true by unfold O5 at ho;rw[hst] at ho;exact ho);rcases hc with hc|hc
  ·(have e1:resolve ev c ty=pure {target:=.fn (.func g) #[],args:=#[]++c.args.map ev}:=by unfold resolve;rw[hst];simp only[hfun];rfl);(have e2:resolve ev' c ty=pure {target:=.fn (.func g) #[],args:=#[]++c.args.map ev'}:=by unfold resolve;rw[hst];simp only[hfun'];rfl);rw[e1,e2];(have e3: ∀q:Array AP,#[]++q++ #[]=q:=λq=>by simp);refine AY.mono (Q:=λρ a b=>Jo F ρ a b/\∀h p,a=.enter h p->h=g) ?_ λ_ _ _ _ h=>h.1;show AY T F N _ (Ep g (#[]++c.args.map ev++ #[])) ρ (Ep g (#[]++c.args.map ev'++ #[]));rw[e3,e3];exact UJ hB (hfb _ hc.1) (by rw[xJ];exact hfa _ _ hc.2) (hdk g hst) ha
  (have e1:resolve ev c ty=pure {target:=.fn (.func g) #[],args:=#[]++c.args.map ev}:=by unfold resolve;rw[hst];simp only[hfun];rfl);(have e2:resolve ev' c ty=pure {target:=.fn (.func g) #[],args:=#[]++c.args.map ev'}:=by unfold resolve;rw[hst];simp only[hfun'];rfl);rw[e1,e2];exact aO hB (hfe _ hc) ((Au.append Au.nil ha).append Au.nil)
 rw[aQ λg e=>hst ⟨g,e⟩] at ho
 cases hq:c.callee with
 |value f=>
  obtain⟨h1,h2,e1,e2⟩:=aP hev hq ho ty;rw[e1,e2];rw[hq] at hc
  have hc:fb.h=true/\UI fb.m f c.args.size=true:=by
   cases f with|func g=>exact Ai ⟨g,hq⟩ hst|_=>simp only[Gn,DU] at hc;exact⟨hc.1,hc.2.2⟩
  obtain⟨hh,hc⟩:=hc;exact Uf hB (hfh hh) h1 h2 (by rw[xJ];exact λh=>Ci (AFP hfun hc h) hfm)
 |invoke r name=>
  rw[hq] at hc;simp only[Gn,DU] at hc;have ho2:c.args.all (H9 fb G)=true:=by unfold Call.operands at ho;rw[hq] at ho;simp only[lW,DU] at ho;exact ho.2
  have e1: ∀e:DT->AP,(do let d <- resolve e c ty;invoke d.target d.args:Sem Next)=PZ (e r) name (c.args.map e):=by
   intro e;unfold resolve;rw[hq];simp only[pure_bind,invoke];have h0:(#[e r]++c.args.map e)[0]? =AA (e r):=by simp[AHq]
   have h1:(#[e r]++c.args.map e).extract 1 (#[e r]++c.args.map e).size=c.args.map e:=by
    apply Y4;intro i;rw[AHr];simp only[lV,Iq,ES,Ha,Ny,xJ];by_cases hi:i<c.args.size
    ·rw[BZ Ad,Y7 AV];simp
    rw[BM Ad];rw[Kr,Wi Ad];rfl
   rw[h0,h1]
  rw[e1,e1];exact jY hB hfb hfa hfe hc.2 (hev r hc.1) (hev.map ho2)
 |builtin b=>
  rw[hq] at hc;have ho2:c.args.all (H9 fb G)=true:=by unfold Call.operands at ho;rw[hq] at ho;simp only[lW,DU] at ho;exact ho.2
  have e1: ∀e:DT->AP,(do let d <- resolve e c ty;invoke d.target d.args:Sem Next)=builtin b c.argTypes ty (c.args.map fun| .const _=>true|_=>false) (c.args.map e):=by
   intro e;unfold resolve;rw[hq];rfl
  rw[e1,e1];have hm:=hev.map ho2;cases b<;>first|exact Ai (show false=true from hc) AV|skip
  ·
   simp only[Gn] at hc;generalize c.argTypes=ZG at hc⊢;generalize c.args=asA at hc ho2⊢;obtain⟨ts⟩:=ZG;obtain⟨as⟩:=asA;(rcases ts with _|⟨t,_|⟨xt,_|⟨_,_⟩⟩⟩<;>first|exact Ai (show false=true from hc) AV|skip);(rcases as with _|⟨s,_|⟨x,_|⟨_,_⟩⟩⟩<;>first|exact Ai (show false=true from hc) AV|skip);refine Fz ?_;simp only[J3,BK,EG];(have hz: ∀el,T.P.underlying t=AA (.slice el)->Hg T.P el=true:=λel hel=>by simp only[hel] at hc;exact hc);by_cases hk: ∃k,T.P.underlying xt=AA (.int k);exact yG t xt ty hk hz (hev s (CP ho2 AV)) (hev x (CP ho2 AV));exact AAu t xt ty (λk h=>hk ⟨k,h⟩) hz (hev s (CP ho2 AV)) (hev x (CP ho2 AV))
  ·
   simp only[Gn] at hc;generalize c.argTypes=ZG at hc⊢;generalize c.args=asA at hc ho2⊢;obtain⟨ts⟩:=ZG;obtain⟨as⟩:=asA;(rcases ts with _|⟨t,_|⟨_,_⟩⟩<;>first|exact Ai (show false=true from hc) AV|skip);(rcases as with _|⟨x,_|⟨_,_⟩⟩<;>first|exact Ai (show false=true from hc) AV|skip);refine Fz ?_;simp only[J3,BK,EG];simp only at hc
   cases hu:T.P.underlying t with
   |none=>rw[hu] at hc;exact Ai (show false=true from hc) AV|some d=>
    rw[hu] at hc;cases d<;>first|exact Ai (show false=true from hc) AV|exact ADa hu hc (hev x (CP ho2 AV))
  ·
   simp only[Gn] at hc;generalize c.argTypes=ZG at hc⊢;generalize c.args=asA at hc ho2⊢;obtain⟨ts⟩:=ZG;obtain⟨as⟩:=asA;(rcases ts with _|⟨t,_|⟨u,_|⟨_,_⟩⟩⟩<;>first|exact Ai (show false=true from hc) AV|skip);(rcases as with _|⟨x,_|⟨y,_|⟨_,_⟩⟩⟩<;>first|exact Ai (show false=true from hc) AV|skip);refine Fz ?_;simp only[J3,BK,EG];exact AA5 hN hc (hev x (CP ho2 AV)) (hev y (CP ho2 AV))
  ·
   simp only[Gn] at hc;generalize c.argTypes=ZG at hc⊢;generalize c.args=asA at hc ho2⊢;obtain⟨ts⟩:=ZG;obtain⟨as⟩:=asA;(rcases ts with _|⟨t,_|⟨_,_⟩⟩<;>first|exact Ai (show false=true from hc) AV|skip);(rcases as with _|⟨s,_|⟨_,_⟩⟩<;>first|exact Ai (show false=true from hc) AV|skip);refine Fz ?_;simp only[J3,BK,EG];refine AH1 t ty (λd e hd=>?_) (hev s (CP ho2 AV));simp only[hd] at hc;cases hc
  exact Fz (AH2 _ _ hm);exact Fz (AH3 _ _ hm)
theorem ADf{G:Nat}(hfm:fb.m<=F.m)(hh:F.h)(hva: ∀f,F.v f->∀n,F.a f n)(hza: ∀n,F.a F.z n){ev:DT->AP}(hev:QY F ρ fb G ev ev')(hfun: ∀g,ev (.func g)=.func (.func g) #[] #[])(ho:c.operands.all (H9 fb G)=true)(hq:c.callee=.value f)(hw:UI fb.m f c.args.size=true)(ty:Aj):
  AY T F N (λρ d d'=>I7 F ρ d d'/\∀g q,d.target=.fn (.func g) q->∀n,F.a g n) (resolve ev c ty) ρ (resolve ev' c ty):=by
 obtain⟨h1,h2,e1,e2⟩:=aP hev hq ho ty;rw[e1,e2];exact Yn hh hva hza h1 h2 (by rw[xJ];exact λh=>Ci (AFP hfun hw h) hfm)
theorem AA7(hB:Gp T F N)(hN:T.P.globals.size<N){G:Nat}(hfb: ∀f,fb f=true->F f)(hfa: ∀f n,KL fb f n=true->F.a f n)(hfe: ∀f,fb.e f=true->F.e f)(hfh:fb.h=true->F.h)(hfm:fb.m<=F.m)(hval: ∀f,fb.v f=true->F.v f)(hlv:fb.d=true->F.d){ev:DT->AP}(hev:QY F ρ fb G ev ev')(hconst: ∀v,ev (.const v)=v)(hfun: ∀g,ev (.func g)=.func (.func g) #[] #[])(hfun': ∀g,ev' (.func g)=.func (.func g) #[] #[]){o:BR}(hdk: ∀c g,o.op=.call c->c.callee=.value (.func g)->F.dk g (c.args.map ev))(ho:V6 T.P fb G o.op=true):
  AY T F N (mW F) (execOp ev o) ρ (execOp ev' o):=by
 unfold V6 at ho;rw[DU] at ho;obtain⟨hops,ho⟩:=ho;unfold execOp;cases hop:o.op<;>rw[hop] at ho hops<;>simp only[opsOf,Op.operands] at hops<;>dsimp only at ho⊢ <;>first|exact Ai (show false=true from ho) AV|skip
 case move x=>exact λ_=>.value (hev x (CP hops AV))
 case assign x=>exact λ_=>.value (hev x (CP hops AV))
 case pick c a b=>
  have h1:=hev c (CP hops AV);have h2:=hev a (CP hops AV);have h3:=hev b (CP hops AV);refine (AAm h1).bind λρ₁ x y l e=>?_;obtain rfl:x=y:=e;(cases x);exact λ_=>.value (h3.mono l);exact λ_=>.value (h2.mono l)
 case alloc t=>exact Fz (ADO t ho)
 case box t x=>exact Fz (AH0 t (hev x (CP hops AV)))
 case build t ps=>
  refine Fz (ADQ t ho ?_);rw[Y6,Y6];exact hev.parts λq hq=>CP hops (by simp;exact⟨q.1,ADH.2 hq⟩)
 case buildSlice t n ps=>
  refine Fz (jU t n (λel hel=>by rw[hel] at ho;exact ho) ?_);rw[Y6,Y6];exact hev.parts λq hq=>CP hops (by simp;exact⟨q.1,ADH.2 hq⟩)
 case load t a=>exact Fz (AAo t (hev a (CP hops AV)))
 case store t a x=>exact ADb (xq t (hev a (CP hops AV)) (hev x (CP hops AV)))
 case nilCheck x=>exact sD hB.m0 (hev x (CP hops AV)) _ _ rfl rfl λ_ _ _ h=>.value h
 case binOp op t x y r=>
  have hx:=hev x (CP hops AV);have hy:=hev y (CP hops AV);refine Fz ?_;by_cases hq:op=.eql\/op=.neq
  ·have hp:Hy T.P t=true\/J4 T.P t (ev y)=true\/J4 T.P t (ev x)=true:=by
    (have:(op==BinOp.eql || op==BinOp.neq)=true:=by rcases hq with rfl|rfl<;>rfl);rw[this,BZ rfl,We,We] at ho
    have key: ∀z:DT,H9 fb G z=true->yH T.P t z=true->J4 T.P t (ev z)=true:=by
     intro z _ hn;(cases z<;>first|exact Ai (show false=true from hn) AV|skip);rw[hconst];exact hn
    rcases ho with (ho|ho)|ho;exact .inl ho;exact .inr (.inl (key y (CP hops AV) ho));exact .inr (.inr (key x (CP hops AV) ho))
   exact (aJ op x y (λ_=>hp) hx hy).bind λρ₁ _ _ l _=>yC hN hq hp (hx.mono l) (hy.mono l)
  have hq':op≠ .eql/\op≠ .neq:=⟨λe=>hq (.inl e),λe=>hq (.inr e)⟩
  have ht:T.P.underlying t≠AA .unsafePointer:=by
   have:(op==BinOp.eql || op==BinOp.neq)=false:=by
    cases h:(op==BinOp.eql || op==BinOp.neq) with|false=>rfl|true=>rw[We] at h;exact Ai (h.imp (λe=>by cases op<;>first|rfl|cases e) (λe=>by cases op<;>first|rfl|cases e)) hq
   rw[this] at ho;intro e;rw[e] at ho;exact Ai ho AV
  exact (aJ op x y (λe=>Ai e hq) hx hy).bind λρ₁ _ _ l _=>ADU hN hq' ht (hx.mono l) (hy.mono l)
 case unOp op t x=>
  (cases op<;>first|exact Ai (show false=true from ho) AV|skip);refine Fz ?_;have hx:=hev x (CP hops AV);generalize ev x=a at hx;generalize ev' x=a' at hx
  cases hx with
  |flat hf=>
   cases a<;>first|exact λ_=>.flat rfl|exact λ_=>Am|exact Ai (show false=true from hf) AV
  |_=>exact λ_=>Am
 case convert s d x=>exact Fz (yL ho (hev x (CP hops AV)))
 case makeInterface t x=>exact Fz (ZE t (hev x (CP hops AV)))
 case makeFunc fn p q=>
  (cases fn<;>first|exact Ai (show false=true from ho) AV|skip);rw[lW,DU] at hops;exact Fz (ru _ (hfb _ (by simp only[DU] at ho;exact ho.1)) (hval _ (by simp only[DU] at ho;exact ho.2)) (hev.map hops.1) (hev.map hops.2))
 case slice t x lo hi mx=>
  simp only[lW,DU] at hops;obtain⟨⟨⟨h1,h2⟩,h3⟩,h4⟩:=hops;exact Fz (x8 t (hev x (CP h1 AV)) (hev.opt h2) (hev.opt h3) (hev.opt h4))
 case fieldAddr t x f=>exact Fz (xu t (hev x (CP hops AV)) f)
 case indexAddr t x i=>exact Fz (xw t (hev x (CP hops AV)) (hev i (CP hops AV)))
 case extract x i=>exact Fz (xy (hev x (CP hops AV)) i)
 case call c=>exact AGa hB hN hfb hfa hfe hfh hfm hev hfun hfun' (λg h=>hdk c g (by first|assumption|rfl) h) hops ho _
 case defer c=>
  have hlx:F.d:=hlv (by simp only[DU] at ho;exact ho.1)
  replace ho:=(AHw.1 (show (fb.d && _)=true from ho)).2
  cases hq:c.callee with
  |value f=>
   by_cases hst: ∃g,f=.func g
   ·obtain⟨g,rfl⟩:=hst;rw[hq] at ho;simp only[DU] at ho;have hn: ∀n,F.a g n:=λn=>hfa _ _ (by unfold KL;rw[show fb.a g=AB by simpa using ho.2]);exact (mY hev hfun hfun' hq (hfb _ ho.1) hn hops _).bind λ_ _ _ _ h=>λ_=>.defer hlx (λg' q e=>by rw[h.2] at e;cases e;exact hn) h.1
   rw[aQ λg e=>hst ⟨g,by rw[hq] at e;cases e;rfl⟩] at hops;rw[hq] at ho
   have ho:fb.h=true/\UI fb.m f c.args.size=true:=by
    cases f with|func g=>exact Ai ⟨g,rfl⟩ hst|_=>simpa only[DU] using ho
   exact (ADf hfm (hfh ho.1) (hB.va (hfh ho.1)) hB.za hev hfun hops hq ho.2 _).bind λ_ _ _ _ h=>λ_=>.defer hlx h.2 h.1
  |builtin b=>rw[hq] at ho;exact Ai (show false=true from ho) AV|invoke r n=>rw[hq] at ho;exact Ai (show false=true from ho) AV
 case panic x=>exact Fz (ADS (hev x (CP hops AV)))
 case lookup t x k ok=>exact Fz (AA2 hN ho (hev x (CP hops AV)) (hev k (CP hops AV)) ok)
 case mapUpdate t m k x=>exact ADb (mV hN ho (hev m (CP hops AV)) (hev k (CP hops AV)) (hev x (CP hops AV)))
 case makeMap t r=>
  cases r<;>first|exact Ai (show false=true from ho) AV|exact Fz (yF t)
 case range t x=>exact Fz (ADV (hev x (CP hops AV)))
 case next it b=>exact Fz (AGY (hev it (CP hops AV)) b o.type)
 case entry it=>exact Fz (ADY (hev it (CP hops AV)))
 case index t x i=>exact Fz (ADZ (hev x (CP hops AV)) (hev i (CP hops AV)))
 case typeAssert x t a ok=>
  (cases ok);exact Fz (dV hN (hev x (CP hops AV)) t a);exact Fz (jX (hev x (CP hops AV)) t a ho)
end
end
section
variable {ops:Array BR}{T p p':Array AP}{fb:Fb}{f:AX}{z:Bi}{k k':List Item}{l l':Nat}{o o':Option Nat}
section
variable {T:Twin} {F:Fs} {N:Nat} {ρ:Rn}
theorem VF(h:ρ.r l l'){r r':Loop}(hr:uJ F ρ r r'):AY T F N Ec (I5 l (.loop r)) ρ (I5 l' (.loop r')):=
 λ_=>⟨h,.loop hr,rfl,AV,rfl⟩
theorem jZ(h:ρ.r l l'):AY T F N Ec (YW l) ρ (YW l'):=by
 unfold YW;refine (OE h).bind λρ₁ r r' l1 hr=>?_;refine (VF (l1.r _ _ h) (r:={r with state:=.busy}) (r':={r' with state:=.busy}) ⟨rfl,hr.pending,hr.fn,hr.tmps,hr.params,hr.few,hr.assign,hr.body,hr.okF,hr.okA,hr.okB,hr.okJ,hr.defers⟩).bind λρ₂ _ _ l2 _=>?_;rw[hr.state];(cases r.state);exact λ_=>rfl;exact Bj (e:=.error _) trivial;exact Bj (e:=.error _) trivial;exact Bj (e:=.error _) trivial
theorem sU(h:ρ.r l l'){j:Option Code}(hj:(∃x,F.c x)->∀c,j=AA c->F.c c):AY T F N (QV F) (Tu l j) ρ (Tu l' j):=by
 unfold Tu;refine (OE h).bind λρ₁ r r' l1 hr=>?_
 refine (VF (l1.r _ _ h) (r:={r with state:=if j.isNone then .ready else .done,pending:=j}) (r':={r' with state:=if j.isNone then .ready else .done,pending:=j})
  ⟨rfl,rfl,hr.fn,hr.tmps,hr.params,hr.few,hr.assign,hr.body,hr.okF,hr.okA,hr.okB,hj ⟨_,hr.okA⟩,hr.defers⟩).bind λρ₂ _ _ l2 _=>λ_=>.flat rfl
theorem yM(h:ρ.r l l'):AY T F N (λ_ j j'=>j=j'/\∀c,j=AA c->F.c c) (Instr.endLoop l) ρ (Instr.endLoop l'):=by
 unfold Instr.endLoop;refine (OE h).bind λρ₁ r r' l1 hr=>?_
 have key:AY T F N (λ_ j j'=>j=j'/\∀c,j=AA c->F.c c) (do I5 l (.loop {r with state:=.exhausted});pure r.pending:Sem (Option Code)) ρ₁ (do I5 l' (.loop {r' with state:=.exhausted});pure r'.pending):=
  (VF (l1.r _ _ h) (r:={r with state:=.exhausted}) (r':={r' with state:=.exhausted}) ⟨rfl,hr.pending,hr.fn,hr.tmps,hr.params,hr.few,hr.assign,hr.body,hr.okF,hr.okA,hr.okB,hr.okJ,hr.defers⟩).bind
   λρ₂ _ _ l2 _=>λ_=>⟨hr.pending.symm,hr.okJ⟩
 rw[hr.state];by_cases hb:(r.state== .busy)=true
 ·simp only[hb,if_true];exact AY.bind (Q:=λ_ _ _=>False) (Bj (e:=.error _) trivial) λ_ _ _ _ e=>e.elim
 simp only[hb,if_false,C9];exact key
theorem mZ(f:Bi)(hF:F.r f)(hp:Au F ρ p p')(ps:Array Tmp)(hps:ps.size<=2){a b:Code}(ha:F.c a)(hb:F.c b)(ho:match o,o' with|none,AB=>True|some l,AA l'=>ρ.r l l'|_,_=>False):
  AY T F N (λρ (x y:Nat×List EK)=>ρ.r x.1 y.1/\Cc (I7 F ρ) x.2 y.2/\∀d∈x.2,∃b,d.target=.collected b) (Vu f p ps a b o) ρ (Vu f p' ps a b o'):=by
 cases o<;>cases o'<;>first|exact ho.elim|skip
 ·have e: ∀t:Array AP,Vu f t ps a b AB=(newObj (.deferred (AA []))>>=λr=>newObj (.loop {state:=.ready,pending:=AB,fn:=f,tmps:=t,params:=ps,assign:=a,body:=b,defers:=r})>>=λl=>pure (l,[{target:=.collected r,args:=#[]}]):Sem (Nat×List EK)):=λ_=>rfl;rw[e,e];refine AY.bind (Q:=λρ (x y:Nat)=>ρ.r x y) (λ_=>.inr ⟨.deferred,λn n' _=>.inr ⟨rfl,rfl⟩⟩) λρ₁ x y l1 hx=>?_;refine AY.bind (Q:=λρ (x y:Nat)=>ρ.r x y) (λ_=>.inr ⟨.loop ⟨rfl,rfl,rfl,hp.mono l1,rfl,hps,rfl,rfl,hF,ha,hb,λj hj=>(by cases hj),hx⟩,λn n' _=>.inr ⟨rfl,rfl⟩⟩) λρ₂ x' y' l2 hxy=>λ_=>⟨hxy,?_,λd hd=>⟨x,by simp only[CG] at hd;rw[hd]⟩⟩;exact .cons (.mk (.collected (l2.r _ _ hx)) Au.nil) .nil
 rename_i l l';have e: ∀(t:Array AP) (l:Nat),Vu f t ps a b (AA l)=(Zx l>>=λr=>newObj (.loop {state:=.ready,pending:=AB,fn:=f,tmps:=t,params:=ps,assign:=a,body:=b,defers:=r.defers})>>=λl=>pure (l,[]):Sem (Nat×List EK)):=λ_ _=>rfl;rw[e,e];refine (OE ho).bind λρ₁ r r' l1 hr=>?_;refine AY.bind (Q:=λρ (x y:Nat)=>ρ.r x y) (λ_=>.inr ⟨.loop ⟨rfl,rfl,rfl,hp.mono l1,rfl,hps,rfl,rfl,hF,ha,hb,λj hj=>(by cases hj),hr.defers⟩,λn n' _=>.inr ⟨rfl,rfl⟩⟩) λρ₂ x' y' l2 hxy=>λ_=>⟨hxy,.nil,λd hd=>(by cases hd)⟩
theorem aS{b b':Nat}(h:ρ.r b b'):AY T F N (λ_ x y=>x=[]/\y=[]) (kZ b) ρ (kZ b'):=by
 unfold kZ;refine AY.bind (Q:=λρ=>Gs F ρ) (λ_=>⟨h,λo o' ho=>ho⟩) λρ₁ o o' l1 ho=>?_
 cases ho with
 |deferred=>
  refine AY.bind (Q:=Ec) (λ_=>⟨l1.r _ _ h,.Kt,rfl,AV,rfl⟩) λρ₂ _ _ l2 _=>λ_=>?_;exact⟨rfl,rfl⟩
 |_=>exact λ_=>Am
theorem yN(fn:Func)(hp:Au F ρ p p'):AY T F N (QV F) (results fn p) ρ (results fn p'):=by
 unfold results
 have key: ∀(l:List ResultVar) {ρ:Rn},Au F ρ p p'->AY T F N (λρ (x y:List AP)=>Au F ρ x.toArray y.toArray)
   (l.mapM (fun| .tmp t=>pure (p.getD t AU)| .cell a t=>do loadVar t (<- asAddr (p.getD a AU)):ResultVar->Sem AP)) ρ
   (l.mapM (fun| .tmp t=>pure (p'.getD t AU)| .cell a t=>do loadVar t (<- asAddr (p'.getD a AU)):ResultVar->Sem AP)):=by
  intro l
  induction l with
  |nil=>intro ρ _;rw[List.mapM_nil,List.mapM_nil];exact λ_=>Au.nil
  |cons r l ih=>
   intro ρ hp;rw[ADE,ADE];refine AY.bind (Q:=QV F) ?_ λρ₁ x y l1 hx=>?_
   ·cases r with
    |tmp t=>exact λ_=>hp.getD t|cell a t=>exact (gu (hp.getD a)).bind λρ₁ x y l1 hx=>OC t hx
   refine (ih (hp.mono l1)).bind λρ₂ xs ys l2 hxs=>λ_=>?_;refine⟨by have:=hxs.1;simpa using this,λi v v' h1 h2=>?_⟩
   cases i with|zero=>simp at h1 h2;subst h1 h2;exact hx.mono l2|succ i=>exact hxs.2 i v v' (by simpa using h1) (by simpa using h2)
 rw[ADC,ADC];refine AY.bind (Q:=λρ (x y:Array AP)=>Au F ρ x y) ((key fn.results.toList hp).bind λρ₁ x y l1 h=>λ_=>h) λρ₁ x y l1 h=>λ_=>?_;show Az F ρ₁ (if h:x.size=1 then x[0] else .tuple x) (if h:y.size=1 then y[0] else .tuple y);by_cases h1:x.size=1
 ·have h2:y.size=1:=h.1▸h1;rw[dif_pos h1,dif_pos h2];exact h.2 0 _ _ (FD Ad) (FD Ad)
 have h2: ¬y.size=1:=h.1▸h1;rw[dif_neg h1,dif_neg h2];exact .tuple h.1 h.2
end
def VG (g:Option Bi):Op->Option Call
 | .call c=>(match c.callee with| .value (.func f)=>if g==AA f then AA c else AB|_=>AB)
 |_=>AB
def Jp (fb:Fb) (ops:Array BR) (j:Nat):Option Tmp:=match ops[j]? with
 |some o=>(match VG fb.ch o.op with|some _=>o.dst|none=>AB)
 |none=>AB
def Pq (fb:Fb) (ops:Array BR) (i:Nat):Option (Option Tmp):=match ops[i]? with
 |some o=>(match VG fb.cp o.op with|some c=>AA (match (c.args[0]? :Option DT) with|some (.tmp t)=>AA t|_=>AB)|none=>AB)
 |none=>AB
def dX (fb:Fb) (ops:Array BR):Bool:=(FZ ops.size).all λi=>match Pq fb ops i with
 |none=>true|some AB=>false
 |some (AA t)=>(match ops[i]? with|some o=>o.after.any (λe=>YX .any e && (decide (e.on<i) && Jp fb ops e.on==AA t))|none=>false) &&
   (FZ ops.size).all (λj=>Jp fb ops j==AA t || (match ops[j]? with|some o=> !(o.dst==AA t)|none=>true))
def uP (z:Bi) (x:AP):Prop:=x=AU\/∃s n,x=Fg z s n
def RG (fb:Fb) (z:Bi) (ops:Array BR) (rest:List Nat) (T:Array AP):Prop:=
 ∀i t,Pq fb ops i=AA (AA t)->uP z (T.getD t AU)\/∀pre post,rest=pre++i::post->∃j∈pre,Jp fb ops j=AA t
theorem uQ(h:dX fb ops=true){i:Nat}{t:Tmp}(hi:Pq fb ops i=AA (AA t)):
  (∃o,ops[i]? =AA o/\∃e∈o.after,YX .any e=true/\e.on<i/\Jp fb ops e.on=AA t)/\∀j o,ops[j]? =AA o->Jp fb ops j=AA t\/o.dst≠AA t:=by
 have hlt:i<ops.size:=by
  unfold Pq at hi
  cases e:ops[i]? with|none=>rw[e] at hi;cases hi|some o=>exact (Df.1 e).1
 have h1:=JC.1 h i (WZ.2 hlt);simp only[hi,DU] at h1;obtain⟨h1,h2⟩:=h1;refine⟨?_,λj o ho=>?_⟩
 ·rw[FD hlt] at h1⊢;obtain⟨e,he,h3⟩:=Array.any_eq_true'.1 h1;simp only[DU,decide_eq_true_eq,beq_iff_eq] at h3;exact⟨_,rfl,e,he,h3.1,h3.2.1,h3.2.2⟩
 have h3:=JC.1 h2 j (WZ.2 (Df.1 ho).1);rw[ho] at h3;simp only[We,beq_iff_eq,Y8,beq_eq_false_iff_ne] at h3;exact h3
theorem uS(h:dX fb ops=true){L:List Nat}(hL: ∀pre i post,L=pre++i::post->∀o,ops[i]? =AA o->∀e∈o.after,YX .any e=true->e.on<i->e.on∈pre):RG fb z ops L T:=by
 intro i t hi;obtain⟨⟨o,ho,e,he,hb,hlt,hc⟩,_⟩:=uQ h hi;exact .inr λpre post e1=>⟨e.on,hL pre i post e1 o ho e he hb hlt,hc⟩
theorem range_split{n:Nat}: ∀{pre:List Nat} {i:Nat} {post:List Nat},FZ n=pre++i::post->∀j,j<i->j∈pre:=by
 intro pre i post e j hj;have hlen:(FZ n).length=n:=List.length_range;have hp:pre.length<n:=by rw[e] at hlen;simp at hlen;omega
 have hi:i=pre.length:=by
  (have h1:(FZ n)[pre.length]? =AA i:=by rw[e];simp);rw[AHx hp] at h1;exact (EF h1).symm
 have h2:(FZ n)[j]? =AA j:=AHx Ad;rw[e,NK Ad] at h2;exact Bq h2
theorem ALV{m:Region.Mode}: ∀(fuel t:Nat) (listed:Array Bool) (acc:List Nat),(∀j,listed.getD j false=true->j∈acc)->
  ∃L,YY m ops fuel t listed acc=acc.reverse++L/\∀pre i post,L=pre++i::post->∀o,ops[i]? =AA o->∀e∈o.after,YX m e=true->e.on∈acc.reverse++pre:=by
 intro fuel
 induction fuel with
 |zero=>intro t listed acc h;exact⟨[],by simp[YY],λpre i post e=>by simp at e⟩
 |succ fuel ih=>
  intro t listed acc h;unfold YY;simp only;split
  ·rename_i i hi;have him:=Bq hi;rw[xK] at him;simp only[DU,Y8] at him;obtain⟨_,hl0,him⟩:=him
   obtain⟨L,h1,h2⟩:=ih (t/_) (listed.setIfInBounds i true) (i::acc) (λj hj=>by
    rw[Qo,AAk] at hj;by_cases hij:i=j;exact BB.2 (.inl hij.symm);rw[BM hij,<- Qo] at hj
    exact CO _ (h j hj))
   refine⟨i::L,by rw[h1];simp,λpre i' post e o ho ed hed hb=>?_⟩
   cases pre with
   |nil=>
    simp only[List.nil_append,IV] at e;obtain⟨rfl,_⟩:=e;rw[ho] at him;simp only[Option.map_some,Option.getD_some] at him;have h3:=U5.1 him ed hed;rw[hb] at h3;have:=h _ (by simpa using h3);simpa using this
   |cons a pre=>
    simp only[List.cons_append,IV] at e;obtain⟨rfl,e⟩:=e;have:=h2 pre i' post e o ho ed hed hb;simpa using this
  exact⟨[],AV,λpre i post e=>by simp at e⟩
theorem yO(h:dX fb ops=true)(mixed:Bool)(t:Nat):RG fb z ops (Region.schedule mixed ops t) T:=by
 have key: ∀m t,RG fb z ops (Region.linearise m ops t) T:=λm t=>by
  obtain⟨L,h1,h2⟩:=ALV (m:=m) (ops:=ops) ops.size t (IK ops.size false) [] (λj hj=>by
   rw[Qo,AHs] at hj
   split at hj<;>simp at hj)
  refine uS h λpre i post e o ho ed hed hb _=>?_
  have e2:L=pre++i::post:=by
   rw[<- e];show L=YY m ops ops.size t (IK ops.size false) [];rw[h1];rfl
  have:=h2 pre i post e2 o ho ed hed (by
   unfold YX at hb⊢
   cases hg:ed.ground with|textOnly _=>rw[hg] at hb;cases hb|gcOnly _=>rw[hg] at hb;cases hb|_=>rfl)
  simpa using this
 unfold Region.schedule;split;exact key _ _;exact key _ _
theorem RG.step{fb:Fb}{z:Bi}{ops:Array BR}{a:Nat}{rest:List Nat}{T:Array AP}(h:RG fb z ops (a::rest) T)(hok:dX fb ops=true){x:AP}(hx:Jp fb ops a=AB\/uP z x):
  RG fb z ops rest (match (ops[a]?).bind (·.dst) with|none=>T|some d=>T.setIfInBounds d x):=by
 intro i t hi;obtain⟨_,hd⟩:=uQ hok hi;by_cases hc:Jp fb ops a=AA t
 ·left;have hs:uP z x:=hx.elim (λe=>by rw[hc] at e;cases e) id
  have hdst:(ops[a]?).bind (·.dst)=AA t:=by
   unfold Jp at hc
   cases e:ops[a]? with
   |none=>rw[e] at hc;cases hc|some o=>
    rw[e] at hc;simp only at hc;split at hc;exact hc;cases hc
  simp only[hdst];rw[Qo,AAk];simp only[if_true];split;exact hs;exact .inl rfl
 have e:(match (ops[a]?).bind (·.dst) with|none=>T|some d=>T.setIfInBounds d x).getD t AU=T.getD t AU:=by
  cases e:ops[a]? with
  |none=>rfl|some o=>
   have:=(hd a o e).resolve_left hc;simp only[Option.bind_some]
   cases e2:o.dst with
   |none=>rfl|some d=>
    simp only;rw[Qo,Qo,Dw (λe3=>this (by rw[e2,e3]))]
 rw[e];rcases h i t hi with h1|h1;exact .inl h1;refine .inr λpre post e3=>?_;obtain⟨j,hj,hjc⟩:=h1 (a::pre) post (by rw[e3];rfl);rcases BB.1 hj with rfl|hj;exact Ai hjc hc;exact⟨j,hj,hjc⟩
def JZ (P:BL) (fb:Fb) (G:Nat) (d r:Bool):Code->Bool
 | .skip| .exit _| .label _| .goto _| .ret=>true| .region _ ops _=>(ops.all λo=>V6 P fb G o.op && (d || !(match o.op with| .defer _=>true|_=>false))) && dX fb ops
 | .seq a b=>JZ P fb G d r a && JZ P fb G d r b| .cond c a b=>H9 fb G c && JZ P fb G d r a && JZ P fb G d r b| .block _ c| .loop c| .scope c=>JZ P fb G d r c| .rangeFunc f ps a b=>((fb.l && r) && fb.h) && (H9 fb G f && decide (1<=fb.m)) && decide (ps.size<=2) && JZ P Fb.small G false false a && JZ P Fb.small G false false b| .refuse _=>true
structure Kit where
 P:BL
 fb:Fb
 G:Nat
 X:Bi->Bool
 z:Bi
 p:Prop:=False
abbrev Kit.F (K:Kit):Fs:={f:=λf=>K.fb f=true,v:=λf=>K.fb.v f=true,c:=λc=>JZ K.P Fb.small K.G false false c=true/\K.fb.l=true,r:=λf=>K.fb.lr f=true/\K.fb.l=true,z:=K.z,m:=K.fb.m,a:=λf n=>KL K.fb f n=true,d:=K.fb.d=true,p:=K.p,e:=λf=>K.fb.e f=true,h:=K.fb.h=true,dk:=λf p=>K.fb.cp=AA f->∀x,p[0]? =AA x->uP K.z x}
inductive Kw (K:Kit) (d r:Bool) (ρ:Rn):Item->Item->Prop
 |code {c:Code}:JZ K.P K.fb K.G d r c=true->Kw K d r ρ (.code c) (.code c)|inBlock {n:Nat}:Kw K d r ρ (.inBlock n) (.inBlock n)|inLoop {c:Code}:JZ K.P K.fb K.G d r c=true->Kw K d r ρ (.inLoop c) (.inLoop c)|inScope {c:Code}:JZ K.P K.fb K.G d r c=true->Kw K d r ρ (.inScope c) (.inScope c)|inRegion {ops:Array BR} {l:List Nat}:JZ K.P K.fb K.G d r (.region 0 ops false)=true->Kw K d r ρ (.inRegion ops l) (.inRegion ops l)|inRangeFunc {l l':Nat}:ρ.r l l'->Kw K d r ρ (.inRangeFunc l) (.inRangeFunc l')|endRangeFunc {l l':Nat}:ρ.r l l'->Kw K d r ρ (.endRangeFunc l) (.endRangeFunc l')|beginRound:Kw K d r ρ .beginRound .beginRound
structure iG (F:Fs) (ρ:Rn) (e e':PanicEntry):Prop where
 v:Az F ρ e.v e'.v
 r:e'.recovered=e.recovered
 g:e.goexit=false/\e'.goexit=false
 u:e.recovered=false
inductive iH (F:Fs) (ρ:Rn):FrameMode->FrameMode->Prop
 |run:iH F ρ .run .run|returning:iH F ρ .returning .returning|panicking {c c':List PanicEntry}:Cc (iG F ρ) c c'->iH F ρ (.panicking c) (.panicking c')
def yP (ρ:Rn):Option Nat->Option Nat->Prop
 |none,AB=>True|some l,AA l'=>ρ.r l l'|_,_=>False
def JM (l:List Item):Prop:=∀ops r,Item.inRegion ops r∉l
def RGf (K:Kit) (f:AX):Prop:=JM f.todo.tail/\(f.mode=.run->∀ops rest k,f.todo=.inRegion ops rest::k->RG K.fb K.z ops rest f.tmps)
def NC (K:Kit) (f:AX):Prop:=f.mode=.run->∀ops a rest k,f.todo=.inRegion ops (a::rest)::k->Jp K.fb ops a=AB
theorem RGf.plain{K:Kit}(h:JM f.todo):RGf K f:=⟨λops r hm=>h ops r (List.mem_of_mem_tail hm),λ_ ops rest k e=>Ai (by rw[e];exact D9 ..) (h ops rest)⟩
theorem JM.cons{i:Item}{l:List Item}(hi: ∀ops r,i≠ .inRegion ops r)(h:JM l):JM (i::l):=λops r hm=>(BB.1 hm).elim (λe=>hi ops r e.symm) (h ops r)
theorem JM.nil:JM []:=λ_ _ h=>by cases h
structure DF (K:Kit) (T:Twin) (ρ:Rn) (f f':AX):Prop where
 fn:f'.fn=f.fn
 ok:K.fb f.fn=true/\K.X f.fn=false
 tmps:Au K.F ρ f.tmps f'.tmps
 todo:Cc (Kw K f.roundOf.isNone (K.fb.lr f.fn) ρ) f.todo f'.todo
 defers:Cc (I7 K.F ρ) f.defers f'.defers
 mode:iH K.F ρ f.mode f'.mode
 kind:f'.kind=f.kind/\(f.kind=.normal\/f.kind=.deferred)
 round:yP ρ f.roundOf f'.roundOf
 nd: ∀d∈f.defers,(K.fb.l=true/\∃b,d.target=.collected b)\/(K.fb.d=true/\∀g q,d.target=.fn (.func g) q->∀n,K.F.a g n)
 rg:RGf K f
structure IW (K:Kit) (T:Twin) (ρ:Rn) (f f':AX):Prop where
 fr:DF K T ρ f f'
 nc:NC K f
section
variable {K:Kit} {T:Twin} {ρ ρ':Rn} {d r:Bool}
theorem Kw.mono(h:ρ.le ρ'){i i':Item}(k:Kw K d r ρ i i'):Kw K d r ρ' i i':=by
 cases k with|code a=>exact .code a|inBlock=>exact .inBlock|inLoop a=>exact .inLoop a|inScope a=>exact .inScope a|inRegion a=>exact .inRegion a|inRangeFunc a=>exact .inRangeFunc (h.r _ _ a)|endRangeFunc a=>exact .endRangeFunc (h.r _ _ a)|beginRound=>exact .beginRound
theorem iH.mono{F:Fs}(h:ρ.le ρ'){i i':FrameMode}(k:iH F ρ i i'):iH F ρ' i i':=by
 cases k with|run=>exact .run|returning=>exact .returning|panicking a=>exact .panicking (CV (λ_ _ x=>⟨x.v.mono h,x.r,x.g,x.u⟩) a)
theorem yP.mono(h:ρ.le ρ')(k:yP ρ o o'):yP ρ' o o':=by
 cases o<;>cases o'<;>first|exact k.elim|trivial|exact h.r _ _ k
theorem DF.mono(h:ρ.le ρ'){f f':AX}(k:DF K T ρ f f'):DF K T ρ' f f':=
 ⟨k.fn,k.ok,k.tmps.mono h,CV (λ_ _ x=>x.mono h) k.todo,CV (λ_ _ x=>x.mono' (.refl _) h) k.defers,k.mode.mono h,k.kind,k.round.mono h,k.nd,k.rg⟩
theorem IW.mono(h:ρ.le ρ'){f f':AX}(k:IW K T ρ f f'):IW K T ρ' f f':=⟨k.fr.mono h,k.nc⟩
theorem DF.ev{f':AX}(k:DF K T ρ f f')(hG: ∀g,g<K.G->ρ.r g g):QY K.F ρ K.fb K.G f.eval f'.eval:=by
 intro x hx
 cases x with|tmp t=>exact k.tmps.getD t|const v=>exact gq hx|global g=>exact .ptr ⟨hG g (by simpa[H9] using hx),rfl,rfl⟩|func f=>exact .func (by simp only[H9,DU] at hx;exact hx.1) (by simp only[H9,DU] at hx;exact hx.2) rfl (λi v v' h=>by simp at h) rfl (λi v v' h=>by simp at h)
theorem Kw.findLabel{c:Code}: ∀{l:Nat} {q:Code},JZ K.P K.fb K.G d r c=true->Go.findLabel c l=AA q->JZ K.P K.fb K.G d r q=true:=by
 induction c with
 |seq a b iha ihb=>
  intro l q h e;simp only[JZ,DU] at h;simp only[Go.findLabel] at e;split at e
  ·rename_i x hx;(cases e);simp only[JZ,DU];exact⟨iha h.1 hx,h.2⟩
  exact ihb h.2 e
 |label l'=>
  intro l q h e;simp only[Go.findLabel] at e;split at e;(cases e;rfl);cases e
 |_=>intro l q h e;simp[Go.findLabel] at e
theorem yQ{id:Nat}(h:Cc (Kw K d r ρ) k k'):match exitTo id k,exitTo id k' with
  |none,AB=>True|some a,AA b=>Cc (Kw K d r ρ) a b|_,_=>False:=by
 induction h with
 |nil=>exact Am|cons hi hl ih=>
  (cases hi<;>simp only[exitTo]<;>first|exact ih|skip);rename_i n;by_cases hn:(n==id)=true;simp only[hn,if_true];exact hl;simp only[hn,if_false,C9];exact ih
theorem yR{id:Nat}(h:Cc (Kw K d r ρ) k k'):match gotoIn id k,gotoIn id k' with
  |none,AB=>True|some a,AA b=>Cc (Kw K d r ρ) a b|_,_=>False:=by
 induction h with
 |nil=>exact Am|cons hi hl ih=>
  (cases hi<;>simp only[gotoIn]<;>first|exact ih|skip);rename_i c hc
  cases hf:Go.findLabel c id with|none=>exact ih|some r=>exact .cons (.code (Kw.findLabel hc hf)) (.cons (.inScope hc) hl)
theorem sV{id:Nat}: ∀{k l:List Item},JM k->exitTo id k=AA l->JM l:=by
 intro k
 induction k with
 |nil=>intro l _ e;cases e
 |cons i k ih=>
  intro l h e;have hk:JM k:=λops r hm=>h ops r (CO _ hm);(cases i<;>simp only[exitTo] at e<;>first|exact ih hk e|skip);split at e;(cases e;exact hk);exact ih hk e
theorem sW{id:Nat}: ∀{k l:List Item},JM k->gotoIn id k=AA l->JM l:=by
 intro k
 induction k with
 |nil=>intro l _ e;cases e
 |cons i k ih=>
  intro l h e;have hk:JM k:=λops r hm=>h ops r (CO _ hm);(cases i<;>simp only[gotoIn] at e<;>first|exact ih hk e|skip);split at e;(cases e;exact .cons (λ_ _ e=>by cases e) (.cons (λ_ _ e=>by cases e) hk));exact ih hk e
end
end
end Go.Proofs.YtkkgcebhfghdnaaGreatDoor
