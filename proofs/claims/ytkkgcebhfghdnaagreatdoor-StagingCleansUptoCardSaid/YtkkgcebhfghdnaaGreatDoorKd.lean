/- Part 4 of what that rests on; no condition. -/
import Derived.Test.YtkkgcebhfghdnaaGreatDoorKc
set_option maxRecDepth 100000
set_option maxHeartbeats 8000000
namespace Go.Proofs.YtkkgcebhfghdnaaGreatDoor
open Go Go.Conc
section
variable {T:Twin} {F:Fs} {N:Nat} {ρ:Rn} {α β γ:Type}
theorem eF(hN:T.P.globals.size<N)(hok:ρ.Ok N)(t:TypeId):Au F ρ (typeHandle T.v t) (typeHandle T.P t):=.ptr ⟨hok.hd _ hN,rfl,rfl⟩
theorem KX(hN:T.P.globals.size<N){Q:Rn->α->β->Prop}(i c:Option TypeId)(a:TypeId)(m:String):
  AX T F N Q (runtimePanic (.typeAssertion i c a m):Sem α) ρ (runtimePanic (.typeAssertion i c a m):Sem β):=by
 intro hok
 have hh: ∀t:Option TypeId,Au F ρ (match t with|some t=>typeHandle T.v t|none=>.pointer none) (match t with|some t=>typeHandle T.P t|none=>.pointer none):=λt=>by
  cases t with|none=>exact .flat rfl|some t=>exact eF hN hok t
 have hp:Au F ρ (.agg #[(match i with|some t=>typeHandle T.v t|none=>.pointer none),(match c with|some t=>typeHandle T.v t|none=>.pointer none),typeHandle T.v a,strVal m]) (.agg #[(match i with|some t=>typeHandle T.P t|none=>.pointer none),(match c with|some t=>typeHandle T.P t|none=>.pointer none),typeHandle T.P a,strVal m]):=by
  have:=(((Ar.one (hh i)).push (hh c)).push (hh (some a))).push (Au.flat (F:=F) (ρ:=ρ) (v:=strVal m) rfl);exact .agg this.1 this.2
 revert hok;refine CV.bind λρ₁ p p' l1 e=>?_;obtain⟨rfl,rfl⟩:=e;refine (V5 _).bind λρ₂ t t' l2 e=>?_;obtain rfl:t=t':=e;refine (NM t ((hp.mono l1).mono l2)).bind λρ₃ a a' l3 ha=>?_;exact λ_=>.inr ⟨_,rfl,.iface (.ptr ha)⟩
theorem ak(hN:T.P.globals.size<N){x x':Value}(h:Au F ρ x x')(t a:TypeId):AX T F N (QV F) (Instr.typeAssert x t a false) ρ (Instr.typeAssert x' t a false):=by
 unfold Instr.typeAssert;refine (BL a).bind λρ₁ d d' l1 e=>?_;obtain⟨rfl,hd⟩:=e;have h:=h.mono l1
 cases h with
 |flat hf=>
  (cases x<;>first|exact CU hf|skip);all_goals cases d<;>first|exact λ_=>trivial|exact KX hN none none a "" |exact KX hN (some t) none a ""
 | @iface u v v' hv=>
  by_cases hi: ∃w,d=.interface w
  ·obtain⟨w,rfl⟩:=hi;refine (C9 u).bind λρ₂ i i' l2 e=>?_;obtain⟨rfl,_⟩:=e
   cases Instr.missingMethod w i.methods with|none=>exact λ_=>.iface (hv.mono l2)|some m=>exact KX hN none (some u) a m
  have e2:AX T F N (QV F) (if u=a then pure v else runtimePanic (.typeAssertion (some t) (some u) a ""):Sem Value) ρ₁ (if u=a then pure v' else runtimePanic (.typeAssertion (some t) (some u) a "")):=by
   split;exact λ_=>hv;exact KX hN _ _ _ _
  cases d<;>first|exact absurd ⟨_,rfl⟩ hi|exact e2
 |_=>cases d<;>exact λ_=>trivial
def zJ (el:TypeId) (n size:Nat):Sem (Array Value):=if n*size=0 then pure #[] else do pure (Builtin.zeroCells (<- zeroValue el).cells n)
theorem qc{el:TypeId}(hz:Gt T.P el=true)(n size:Nat):AX T F N (QVs F) (zJ el n size) ρ (zJ el n size):=by
 unfold zJ;split;exact λ_=>Ar.nil;refine (J8 el hz).bind λρ₁ z z' l1 e=>?_;obtain⟨rfl,hz⟩:=e;exact λ_=>Ue hz _ _
theorem ui(t xt ty:TypeId)(hint: ∃k,T.P.underlying xt=some (.int k))(hz: ∀el,T.P.underlying t=some (.slice el)->Gt T.P el=true)
  {s s' x x':Value} (hs:Au F ρ s s') (hx:Au F ρ x x'):AX T F N (QV F) (Builtin.append_ #[t,xt] ty #[s,x]) ρ (Builtin.append_ #[t,xt] ty #[s',x']):=by
 have hsl:=ZO hs;unfold Builtin.append_;simp only[EX,List.getElem?_cons_zero,List.getElem?_cons_succ];refine (BL t).bind λρ₁ d d' l1 e=>?_;obtain⟨rfl,hd⟩:=e
 cases d with
 |slice el=>
  simp only;rcases hsl with ⟨b,b',sLen,sCap,rfl,rfl,hb⟩|hns
  ·simp only;refine (EO el).bind λρ₂ size size' l2 e=>?_;obtain rfl:size=size':=e;refine (BL xt).bind λρ₃ dx dx' l3 e=>?_;obtain⟨rfl,o9⟩:=e;refine AX.bind (Q:=λ_ a b=>a=true/\b=true) ?_ λρ₄ z z' l4 e=>?_
   ·obtain⟨k,hk⟩:=hint;rw[hk] at o9;obtain rfl:=BQ o9;exact λ_=>⟨rfl,rfl⟩
   obtain⟨rfl,rfl⟩:=e;simp only[if_true,Kz,Ak,if_false,true_or,and_true];have hs4:=(((hs.mono l1).mono l2).mono l3).mono l4
   have hb4: ∀{ρ':Rn},ρ₄.le ρ'->(QB ρ' b b'\/∃c a,ρ'.c c (.slice (some a) 0 0)/\sLen=0/\sCap=0/\b=some ⟨c,0,none⟩/\b'=some a):=by
    intro ρ' l;have lt:=(((l1.trans l2).trans l3).trans l4).trans l;rcases hb with hb|⟨c0,a0,hc0,h1,h2,h3,h4⟩;exact .inl (hb.mono lt);exact .inr ⟨c0,a0,lt.c _ _ hc0,h1,h2,h3,h4⟩
   refine (ja ((((hx.mono l1).mono l2).mono l3).mono l4)).bind λρ₅ q q' l5 e=>?_;obtain rfl:q=q':=e;by_cases hneg:IntKind.i64.wrap q<0
   ·simp only[hneg,if_true];exact AX.bind (Q:=λ_ _ _=>False) (Bl (e:=.error _) trivial) λ_ _ _ _ e=>e.elim
   simp only[hneg,if_false];refine (C9 el).bind λρ₆ i i' l6 e=>?_;obtain⟨rfl,_⟩:=e;by_cases hbig:IntKind.i64.wrap q*(i.bytes:Int)>2 ^ 48
   ·simp only[hbig,if_true];refine (JJ _).bind λρ₇ m m' l7 e=>?_;obtain rfl:m=m':=e;exact AX.bind (Q:=λ_ _ _=>False) (Bl (e:=.error _) trivial) λ_ _ _ _ e=>e.elim
   simp only[hbig,if_false];generalize (IntKind.i64.wrap q).toNat=n;have l56:=l5.trans l6;by_cases hn:sLen+n<=sCap
   ·simp only[pure_bind,hn,if_true];rcases hb4 l56 with hb|⟨c0,a0,hc0,rfl,rfl,rfl,rfl⟩
    ·refine AX.bind (qc (hz el hd) n size) λρ₇ c c' l7 hc=>?_;have hb:=hb.mono l7
     cases b with
     |none=>cases b' with
      |none=>exact λ_=>.flat rfl|some _=>exact hb.elim
     |some a=>cases b' with
      |none=>exact hb.elim|some a'=>
       have ha:RelA ρ₇ a a':=hb;exact (ML c.toList c'.toList 0 (ha.add _) (by simpa using hc)).bind λρ₈ _ _ l8 _=>λ_=>.slice (ha.mono l8)
    (obtain rfl:n=0:=by omega);simp only[KL,if_true,pure_bind];exact λ_=>.emp hc0
   simp only[pure_bind,hn,if_false]
   have key: ∀ρ₇,ρ₆.le ρ₇->AX T F N (QV F) (do
      let newCap <- choose (.appendCap (sLen+n) sCap el)
      askRoom (newCap*(<- typeInfo el).bytes)
      let old <- Builtin.firstCells size sLen (.slice b sLen sCap);let new <- zJ el n size;let rest:=Builtin.zeroCells (<- zeroValue el).cells (newCap - (sLen+n))
      pure (.slice (some (<- newRow el (old++new++rest))) (sLen+n) newCap):Sem Value) ρ₇ (do
      let newCap <- choose (.appendCap (sLen+n) sCap el)
      askRoom (newCap*(<- typeInfo el).bytes)
      let old <- Builtin.firstCells size sLen (.slice b' sLen sCap);let new <- zJ el n size;let rest:=Builtin.zeroCells (<- zeroValue el).cells (newCap - (sLen+n))
      pure (.slice (some (<- newRow el (old++new++rest))) (sLen+n) newCap):Sem Value):=by
    intro ρ₇ l7;refine (JJ _).bind λρ₈ nc nc' l8 e=>?_;obtain rfl:nc=nc':=e;refine (C9 el).bind λρ₉ i i' l9 e=>?_;obtain⟨rfl,_⟩:=e;refine (ZM _).bind λVY _ _ l10 _=>?_;have lt:=((((l56.trans l7).trans l8).trans l9).trans l10);refine (MN size sLen (hs4.mono lt) (λp hp=>by injection hp)).bind λXM o o' l11 ho=>?_;refine (qc (hz el hd) n size).bind λXN c c' l12 hc=>?_;refine (J8 el (hz el hd)).bind λρ₁₃ z z' l13 e=>?_;obtain⟨rfl,hz⟩:=e;exact (Rz el (((ho.mono (l12.trans l13)).append (hc.mono l13)).append (Ue hz _ _))).bind λ_ a a' _ ha=>λ_=>.slice ha
   have dead: ∀{ρ':Rn} {α β:Type} {Q:Rn->α->β->Prop} {f:Unit->Sem α} {f':Unit->Sem β} {m:String},AX T F N Q (runtimePanic (.error m)>>=f) ρ' (runtimePanic (.error m)>>=f'):=
    AX.bind (Q:=λ_ _ _=>False) (Bl (e:=.error _) trivial) λ_ _ _ _ e=>e.elim
   refine (C9 el).bind λρ₇ i i' l7 e=>?_;obtain⟨rfl,_⟩:=e;by_cases hov:((sLen+n:Nat):Int)>IntKind.i64.max
   ·simp only[hov,if_true];exact dead
   simp only[hov,if_false];refine (C9 el).bind λρ₈ j j' l8 e=>?_;obtain⟨rfl,_⟩:=e;by_cases hb2:Builtin.nextslicecap (sLen+n) sCap*j.bytes>2 ^ 48
   ·simp only[hb2,if_true];exact dead
   simp only[hb2,if_false];exact key ρ₈ (l7.trans l8)
  cases s<;>first|exact λ_=>trivial|exact absurd rfl (hns _ _ _)
 |_=>exact λ_=>trivial
end
def Hl (fb:Fb) (G:Nat):Operand->Bool
 | .tmp _=>true| .const v=>closed v| .global g=>decide (g<G)| .func f=>fb f && fb.v f
def uj (P:Program) (t:TypeId):Operand->Bool
 | .const v=>Jj P t v|_=>false
def TR (m:Nat):Operand->Nat->Bool
 | .func _,_=>true|_,n=>decide (n<=m)
def Jp (fb:Fb) (f:FuncId) (n:Nat):Bool:=match fb.a f with|none=>true|some m=>n==m && decide (m<1000)
def GL (P:Program) (fb:Fb) (G:Nat):Callee->Array TypeId->Array Operand->Bool
 | .value (.func f),_,as=>(fb f && Jp fb f as.size) || fb.e f| .value f,_,as=>fb.h && (Hl fb G f && TR fb.m f as.size)| .invoke r name,_,_=>Hl fb G r && Qb P fb name
 | .builtin .append,ts,as=>(match ts.toList,as.toList with
  | [t,_],[_,_]=>(match P.underlying t with|some (.slice el)=>Gt P el|_=>true)
  |_,_=>false)
 | .builtin .len,ts,as=>(match ts.toList,as.toList with
  | [t],[_]=>(match P.underlying t with|some (.chan _ _)=>false|_=>true)
  |_,_=>false)
 | .builtin .max,_,_=>true| .builtin .min,_,_=>true
 | .builtin .delete,ts,as=>(match ts.toList,as.toList with
  | [t,_],[_,_]=>WE P t
  |_,_=>false)
 | .builtin .clear,ts,as=>(match ts.toList,as.toList with
  | [t],[_]=>(match P.underlying t with|some (.slice el)=>Gt P el|_=>false)
  |_,_=>false)
 |_,_,_=>false
def OT (c:Call):Array Operand:=match c.callee with| .value (.func _)=>c.args|_=>c.operands
def opsOf:Op->Array Operand
 | .call c| .defer c=>OT c|op=>op.operands
def Va (P:Program) (fb:Fb) (G:Nat) (op:Op):Bool:=
 (opsOf op).all (Hl fb G) && match op with
 | .move _| .assign _| .pick _ _ _| .box _ _| .load _ _| .store _ _ _| .nilCheck _| .makeInterface _ _| .slice _ _ _ _ _| .fieldAddr _ _ _| .indexAddr _ _ _| .extract _ _| .panic _=>true| .alloc t=>Gt P t| .build t _=>Gt P t| .buildSlice t _ _=>(match P.underlying t with|some (.slice el)=>Gt P el|_=>true)
 | .binOp op t x y _=>if op== .eql || op== .neq then Ha P t || uj P t y || uj P t x else (match P.underlying t with|some .unsafePointer=>false|_=>true)
 | .unOp .not _ _=>true
 | .convert s d _=>(match P.underlying s,P.underlying d with
  |some (.slice e),some .string=>(match P.underlying e with|some (.int .u8)=>true|_=>false)
  |some (.int _),some (.int _)=>true|some .string,some .string=>true
  |_,_=>false)
 | .makeFunc (.func f) _ _=>fb f && fb.v f| .lookup t _ _ _| .mapUpdate t _ _ _=>WE P t| .makeMap _ r=>r.isNone| .range _ _| .next _ _| .entry _| .index _ _ _=>true| .typeAssert _ _ a ok=> !ok || Gt P a| .call c=>GL P fb G c.callee c.argTypes c.args| .defer c=>fb.d && (match c.callee with| .value (.func f)=>fb f && (fb.a f).isNone| .value f=>fb.h && TR fb.m f c.args.size|_=>false)
 |_=>false
inductive JZ (F:Fs) (ρ:Rn):Next->Next->Prop
 |value {v v':Value}:Au F ρ v v'->JZ F ρ (.value v) (.value v')|skip:JZ F ρ .skip .skip|enter {f:FuncId} {p p':Array Value}:F f->F.a f p.size->F.dk f p->Ar F ρ p p'->JZ F ρ (.enter f p) (.enter f p')|round {l l':Nat} {f:FuncId} {p p':Array Value} {a b:Code}:F.h->ρ.r l l'->Ar F ρ p p'->F.r f->F.c a->F.c b->JZ F ρ (.round l f p a b) (.round l' f p' a b)|defer {d d':Deferred}:F.d->(∀g q,d.target=.fn (.func g) q->∀n,F.a g n)->Ie F ρ d d'->JZ F ρ (.defer d) (.defer d')|seq {p:Array Value} {n:Next}:p.size<=F.m+2->(∃s k a b,ρ.q s k a b)->JZ F ρ (.enter F.z p) n
abbrev ji (F:Fs):Rn->Next->Next->Prop:=λρ=>JZ F ρ
section
variable {T:Twin} {F:Fs} {N:Nat} {ρ:Rn} {α β γ:Type}
theorem FP{s s':Sem Value}(h:AX T F N (QV F) s ρ s'):AX T F N (ji F) (do pure (.value (<- s)):Sem Next) ρ (do pure (.value (<- s')):Sem Next):=
 h.bind λ_ _ _ _ hv=>λ_=>.value hv
theorem ABz{s s':Sem Unit}(h:AX T F N ET s ρ s'):AX T F N (ji F) (do s;pure .skip:Sem Next) ρ (do s';pure .skip:Sem Next):=
 h.bind λ_ _ _ _ _=>λ_=>.skip
structure GM (T:Twin) (F:Fs) (N:Nat):Prop where
 z:(∃fn,T.v.funcs[F.z]? =some fn/\fn.body.isNone=false/\(fn.name== "runtime.NumGoroutine")=false)/\∃fn,T.P.funcs[F.z]? =some fn/\fn.body.isNone=false/\(fn.name== "runtime.NumGoroutine")=false
 v: ∀f,F f->∃fn,T.v.funcs[f]? =some fn/\fn.body.isNone=false/\(fn.name== "runtime.NumGoroutine")=false
 a: ∀f,F f->∃fn,T.P.funcs[f]? =some fn/\fn.body.isNone=false/\(fn.name== "runtime.NumGoroutine")=false
 va:F.h->∀f,F.v f->∀n,F.a f n
 za: ∀n,F.a F.z n
 dk: ∀f,(∀n,F.a f n)->∀p,F.dk f p
 e: ∀f,F.e f->∃fn,T.v.funcs[f]? =some fn/\T.P.funcs[f]? =some fn/\fn.body.isNone=true/\(fn.name== "runtime.NumGoroutine")=false/\(Extern.findNext fn).isNone=true/\
  match Extern.find fn with|some e=>Jo T F N e|none=>(fn.name.endsWith ".init" && !fn.name.startsWith "(" && !fn.name.startsWith "gosem.")=false
 m0: ∀i,T.P.info? 0=some i->i.methods.find? (·.name== "")=none
theorem TS(hB:GM T F N){f:FuncId}(hf:F f){p p':Array Value}(ha:F.a f p.size)(hd:F.dk f p)(hp:Ar F ρ p p'):AX T F N (λρ a b=>JZ F ρ a b/\∀g p,a=.enter g p->g=f) (callFunc f p) ρ (callFunc f p'):=by
 obtain⟨fn,h1,h2,h3⟩:=hB.v f hf;obtain⟨fn',h1',h2',h3'⟩:=hB.a f hf;unfold callFunc;refine CV.bind λρ₁ a b l1 e=>?_;obtain⟨rfl,rfl⟩:=e;simp only[h1,h1',h2,h2',h3,h3',Ak,if_false];exact λ_=>⟨.enter hf ha hd (hp.mono l1),λ_ _ e=>(by cases e;rfl)⟩
theorem ZT(hB:GM T F N){f:FuncId}(hf:F.e f){p p':Array Value}(hp:Ar F ρ p p'):AX T F N (ji F) (callFunc f p) ρ (callFunc f p'):=by
 obtain⟨fn,h1,h2,h3,h4,h5,h6⟩:=hB.e f hf;unfold callFunc;refine CV.bind λρ₁ a b l1 e=>?_;obtain⟨rfl,rfl⟩:=e;simp only[h1,h2,h3,h4,Ak,if_false,if_true];(have h5:Extern.findNext fn=none:=by simpa using h5);refine AX.bind (Q:=ET) (λ_=>.inr ⟨rfl,trivial,rfl⟩) λρ₂ _ _ l2 _=>?_;simp only[h5]
 cases h7:Extern.find fn with
 |some e=>
  rw[h7] at h6;exact FP (h6 ((hp.mono l1).mono l2))
 |none=>
  rw[h7] at h6;simp only[h6,Ak,if_false];exact λ_=>trivial
theorem gz(hB:GM T F N){fb:Fb}(hfb: ∀f,fb f=true->F f)(hfa: ∀f n,Jp fb f n=true->F.a f n)(hfe: ∀f,fb.e f=true->F.e f){name:String}(hm:Qb T.P fb name=true){x x':Value}(h:Au F ρ x x'){p p':Array Value}(hp:Ar F ρ p p'):
  AX T F N (ji F) (callMethod x name p) ρ (callMethod x' name p'):=by
 unfold callMethod
 cases h with
 |flat hf=>cases x<;>first|exact λ_=>trivial|exact Bl (e:=.nilDeref) trivial|exact CU hf
 |iface hv=>
  simp only;refine CV.bind λρ₁ a b l1 e=>?_;obtain⟨rfl,rfl⟩:=e;refine (di hm _ _ (hv.mono l1)).bind λρ₂ q q' l2 hq=>?_;obtain⟨f,r⟩:=q;obtain⟨f',r'⟩:=q';obtain⟨e1,h1,h2⟩:=hq;simp only at e1 h1 h2;subst e1;rcases h1 with h1|h1;exact (TS hB (hfb _ h1.1) (hfa _ _ (by unfold Jp;rw[h1.2])) (hB.dk _ (λn=>hfa _ _ (by unfold Jp;rw[h1.2])) _) ((Ar.one h2).append ((hp.mono l1).mono l2))).mono λ_ _ _ _ h=>h.1;exact ZT hB (hfe _ h1) ((Ar.one h2).append ((hp.mono l1).mono l2))
 |_=>exact λ_=>trivial
theorem uk(hB:GM T F N){p p':Array Value}(hp:p.size<=F.m+2)(hq: ∃s k a b,ρ.q s k a b):AX T F N (λρ a b=>JZ F ρ a b/\∀g p,a=.enter g p->g=F.z) (callFunc F.z p) ρ (callFunc F.z p'):=by
 obtain⟨⟨fn,h1,h2,h3⟩,fn',h1',h2',h3'⟩:=hB.z;unfold callFunc;refine CV.bind λρ₁ a b l1 e=>?_;obtain⟨rfl,rfl⟩:=e;simp only[h1,h1',h2,h2',h3,h3',Ak,if_false];obtain⟨s,k,x,y,hq⟩:=hq;exact λ_=>⟨.seq hp ⟨s,k,x,y,l1.q _ _ _ _ hq⟩,λ_ _ e=>(by cases e;rfl)⟩
theorem YF(hh:F.h)(hva: ∀f,F.v f->∀n,F.a f n)(hza: ∀n,F.a F.z n){x x':Value}(h:Au F ρ x x'){p p':Array Value}(hp:Ar F ρ p p')(hs:(∃s n,x=FD F.z s n)->p.size<=F.m):AX T F N (λρ d d'=>Ie F ρ d d'/\∀g q,d.target=.fn (.func g) q->∀n,F.a g n) (Deferred.ofValue x p) ρ (Deferred.ofValue x' p'):=by
 unfold Deferred.ofValue
 cases h with
 |flat hf=>cases x<;>first|exact λ_=>trivial|exact λ_=>⟨.mk .nil hp,λ_ _ e=>(by cases e)⟩|exact CU hf
 |func hf hv h1 h2 h3 h4=>exact λ_=>⟨.mk (.fn hf (hva _ hv) ⟨h3,h4⟩) (Ar.append ⟨h1,h2⟩ hp),λ_ _ e=>(by cases e;exact hva _ hv)⟩|yield hl=>exact λ_=>⟨.mk (.yield hh hl) (by simpa using hp),λ_ _ e=>(by cases e)⟩|mf hx hm=>cases x'<;>first|exact CU hm|exact λ_=>⟨Ie.dead hx hm hp,λ_ _ e=>(by cases e)⟩
 |seq hq=>exact λ_=>⟨.mk (.seq (by have:=hs ⟨_,_,rfl⟩;simpa using this) hq) (by simpa using hp),λ_ _ e=>(by cases e;exact hza)⟩|tok hc ht=>
  cases x'<;>first|exact CU ht|exact λ_=>trivial
 |_=>exact λ_=>trivial
theorem um(hh:F.h)(hva: ∀f,F.v f->∀n,F.a f n)(hza: ∀n,F.a F.z n){x x':Value}(h:Au F ρ x x'){p p':Array Value}(hp:Ar F ρ p p')(hs:(∃s n,x=FD F.z s n)->p.size<=F.m):AX T F N (λρ=>Ie F ρ) (Deferred.ofValue x p) ρ (Deferred.ofValue x' p'):=
 (YF hh hva hza h hp hs).mono λ_ _ _ _ h=>h.1
theorem uo{ps:List (Tmp×Value)}: ∀{ps':List (Tmp×Value)} {p p':Array Value},Ci (λq q'=>q.1=q'.1/\Au F ρ q.2 q'.2) ps ps'->Ar F ρ p p'->
  Ar F ρ (ps.foldl (λtmps (t,a)=>tmps.setIfInBounds t a) p) (ps'.foldl (λtmps (t,a)=>tmps.setIfInBounds t a) p'):=by
 induction ps with
 |nil=>intro ps' p p' h hp;cases h;exact hp
 |cons q ps ih=>
  intro ps' p p' h hp
  cases h with
  | @cons _ q' _ ps' h1 h2=>
   obtain⟨t,a⟩:=q;obtain⟨t',a'⟩:=q';obtain⟨e,hr⟩:=h1;simp only at e hr;subst e;simp only[List.foldl_cons];exact ih h2 (hp.set hr _)
theorem AEq{l:List Tmp}: ∀{p p':List Value},Ar F ρ p.toArray p'.toArray->Ci (λq q':Tmp×Value=>q.1=q'.1/\Au F ρ q.2 q'.2) (l.zip p) (l.zip p'):=by
 induction l with
 |nil=>intro p p' _;simp only[List.zip_nil_left];exact .nil
 |cons t l ih=>
  intro p p' h
  cases p with
  |nil=>
   (have:p'=[]:=by have:=h.1;simp at this;exact Il.1 this.symm);subst this;simp only[List.zip_nil_right];exact .nil
  |cons v p=>
   cases p' with
   |nil=>have:=h.1;simp at this|cons v' p'=>
    simp only[List.zip_cons_cons];exact .cons ⟨rfl,h.2 0 v v' AY AY⟩ (ih ⟨by have:=h.1;simpa using this,λj x x' hx hx'=>h.2 (j+1) x x' (by simpa using hx) (by simpa using hx')⟩)
theorem NZ{l l':Nat}(h:ρ.r l l'):AX T F N (λρ=>qW F ρ) (Instr.getLoop l) ρ (Instr.getLoop l'):=by
 unfold Instr.getLoop;refine AX.bind (Q:=λρ=>GY F ρ) (λ_=>⟨h,λo o' ho=>ho⟩) λρ₁ o o' l1 ho=>?_
 cases ho with|loop hl=>exact λ_=>hl|_=>exact λ_=>trivial
theorem AB0(hh:F.h){l l':Nat}(h:ρ.r l l'){p p':Array Value}(hp:Ar F ρ p p'):AX T F N (λρ a b=>JZ F ρ a b/\∀g p,a≠ .enter g p) (Instr.yield l p) ρ (Instr.yield l' p'):=by
 unfold Instr.yield;refine (NZ h).bind λρ₁ r r' l1 hr=>?_;rw[hr.params,<- hp.1];by_cases hs:p.size≠r.params.size
 ·simp only[hs,if_true,ne_eq,not_false_eq_true];exact AX.bind (Q:=λ_ _ _=>False) (λ_=>trivial) λ_ _ _ _ e=>e.elim
 simp only[hs,if_false];rw[hr.fn,hr.assign,hr.body];refine λ_=>⟨.round hh (l1.r _ _ h) ?_ hr.okF hr.okA hr.okB,λ_ _ e=>(by cases e)⟩;have:=uo (F:=F) (ρ:=ρ₁) (AEq (F:=F) (l:=r.params.toList) (p:=p.toList) (p':=p'.toList) (by simpa using hp.mono l1)) hr.tmps;rw[<- LM,<- LM,Array.toList_zip,Array.toList_zip];exact this
theorem AB1(h0: ∀i,T.P.info? 0=some i->i.methods.find? (·.name== "")=none){b:Nat}{p:Array Value}:CZ T (do let d <- Deferred.ofValue (jV b) p;invoke d.target d.args:Sem Next):=by
 show CZ T (invoke (.fn (.method "") #[]) (#[.iface 0 (.chan (some b))]++p));(have e:(#[Value.iface 0 (.chan (some b))]++p)[0]? =some (.iface 0 (.chan (some b))):=by rw[LC AY];rfl);unfold invoke;simp only[e];unfold callMethod;simp only
 have e2: ∀n,CZ T (method n 0 (.chan (some b)) ""):=by
  intro n
  cases n with
  |zero=>exact trivial|succ n=>
   rw[method];show CZ T ((match T.P.info? 0 with|some d=>pure d|none=>stuck "no such type" :Sem TypeInfo).bind _)
   cases h:T.P.info? 0 with
   |none=>exact trivial|some i=>
    simp only[pure,Sem.bind,h0 i h];exact trivial
 exact (e2 _).bind
theorem AB2(h0: ∀i,T.P.info? 0=some i->i.methods.find? (·.name== "")=none){b:Nat}{p:Array Value}:CZ T (invoke (YV (jV b) p).target (YV (jV b) p).args):=AB1 h0
theorem WI(hB:GM T F N){d d':Deferred}(h:Ie F ρ d d'):AX T F N (λρ a b=>JZ F ρ a b/\∀g p,a=.enter g p->∃q,d.target=.fn (.func g) q) (invoke d.target d.args) ρ (invoke d'.target d'.args):=by
 cases h with|dead h1 h2 h3=>exact Qv (AB2 hB.m0) _|mk h hp=>
 obtain⟨t,p⟩:=d;obtain⟨t',p'⟩:=d';simp only at h hp
 cases h with|nil=>exact Bl (e:=.nilDeref) trivial|fn hf ha hq=>exact (TS hB hf (ha _) (hB.dk _ ha _) (hp.append hq)).mono λ_ _ _ _ h=>⟨h.1,λg p e=>by rw[h.2 g p e];exact⟨_,rfl⟩⟩|yield hh hl=>exact (AB0 hh hl hp).mono λ_ _ _ _ h=>⟨h.1,λg p e=>absurd e (h.2 g p)⟩|seq hm hq=>exact (uk hB (by simp only[LD,CG,List.length_cons,List.length_nil];omega) ⟨_,_,_,_,hq⟩).mono λ_ _ _ _ h=>⟨h.1,λg p e=>by rw[h.2 g p e];exact⟨_,rfl⟩⟩|collected hb=>exact λ_=>trivial
theorem YG(hB:GM T F N){d d':Deferred}(h:Ie F ρ d d'):AX T F N (ji F) (invoke d.target d.args) ρ (invoke d'.target d'.args):=(WI hB h).mono λ_ _ _ _ h=>h.1
theorem UB(hB:GM T F N)(hh:F.h){x x':Value}(h:Au F ρ x x'){p p':Array Value}(hp:Ar F ρ p p')(hs:(∃s n,x=FD F.z s n)->p.size<=F.m):
  AX T F N (ji F) (do let d <- Deferred.ofValue x p;invoke d.target d.args:Sem Next) ρ (do let d <- Deferred.ofValue x' p';invoke d.target d.args):=by
 exact (um hh (hB.va hh) hB.za h hp hs).bind λ_ _ _ _ hd=>YG hB hd
def P7 (F:Fs) (ρ:Rn) (fb:Fb) (G:Nat) (ev ev':Operand->Value):Prop:=∀x,Hl fb G x=true->Au F ρ (ev x) (ev' x)
theorem P7.map{fb:Fb}{G:Nat}{ev ev':Operand->Value}(h:P7 F ρ fb G ev ev'){l:Array Operand}(hl:l.all (Hl fb G)=true):Ar F ρ (l.map ev) (l.map ev'):=
 Ar.map λx hx=>h x (F6.1 hl x hx)
theorem P7.opt{fb:Fb}{G:Nat}{ev ev':Operand->Value}(h:P7 F ρ fb G ev ev'){o:Option Operand}(hl:o.toArray.all (Hl fb G)=true):QO F ρ (o.map ev) (o.map ev'):=by
 cases o with|none=>trivial|some x=>exact h x (by simpa using hl)
theorem P7.parts{fb:Fb}{G:Nat}{ev ev':Operand->Value}(h:P7 F ρ fb G ev ev'): ∀{l:List (Nat×Operand)},(∀q∈l,Hl fb G q.2=true)->
  QP F ρ (l.map λq=>(q.1,ev q.2)) (l.map λq=>(q.1,ev' q.2)):=by
 intro l
 induction l with
 |nil=>intro _;exact .nil
 |cons q l ih=>
  intro hl;exact .cons ⟨rfl,h _ (hl q AY)⟩ (ih λx hx=>hl x (by simp[hx]))
theorem jk(l:List Value): ∀{l':List Value} {s:ByteArray},Ar F ρ l.toArray l'.toArray->
  AX T F N ET (forIn l s (λc s=>match c with| .int .u8 n=>pure (.yield (s.push (UInt8.ofNat n.toNat)))|_=>stuck "bytesToString: byte expected"):Sem ByteArray) ρ
   (forIn l' s (λc s=>match c with| .int .u8 n=>pure (.yield (s.push (UInt8.ofNat n.toNat)))|_=>stuck "bytesToString: byte expected"):Sem ByteArray):=by
 induction l with
 |nil=>
  intro l' s h;(have:l'=[]:=by have:=h.1;simp at this;exact Il.1 this.symm);subst this;simp only[List.forIn_nil];exact λ_=>rfl
 |cons v l ih=>
  intro l' s h
  cases l' with
  |nil=>have:=h.1;simp at this|cons v' l'=>
   simp only[PV];have hv:Au F ρ v v':=h.2 0 v v' AY AY;have ht:Ar F ρ l.toArray l'.toArray:=⟨by have:=h.1;simpa using this,λj x x' hx hx'=>h.2 (j+1) x x' (by simpa using hx) (by simpa using hx')⟩
   cases hv with
   |flat hf=>
    (cases v<;>first|exact λ_=>trivial|skip);rename_i k n;(cases k<;>first|exact λ_=>trivial|skip);simp only[pure_bind];exact ih ht
   |_=>exact λ_=>trivial
theorem Ya{x x':Value}(h:Au F ρ x x'):AX T F N (QV F) (Conv.bytesToString x) ρ (Conv.bytesToString x'):=by
 unfold Conv.bytesToString
 cases h with
 |flat hf=>
  (cases x<;>first|exact λ_=>trivial|skip);rename_i a n k
  cases a with|none=>exact λ_=>.flat rfl|some _=>exact CU hf
 |slice ha=>
  simp only;refine (Q8 ha _).bind λρ₁ p p' l1 hp=>?_;simp only[<- Array.forIn_toList];exact (jk p.toList (l':=p'.toList) (by simpa using hp)).bind λρ₂ a b _ e=>by obtain rfl:a=b:=e;exact λ_=>.flat rfl
 |emp _=>
  simp only[loadCells,loadCellsFrom];exact λ_=>.flat rfl
 |_=>exact λ_=>trivial
theorem uq{t u:TypeId} (hc:(match T.P.underlying t,T.P.underlying u with
  |some (.slice e),some .string=>(match T.P.underlying e with|some (.int .u8)=>true|_=>false)
  |some (.int _),some (.int _)=>true|some .string,some .string=>true
  |_,_=>false)=true) {x x':Value} (h:Au F ρ x x'):AX T F N (QV F) (convert t u x) ρ (convert t u x'):=by
 unfold convert;refine (BL t).bind λρ₁ d d' l1 e=>?_;obtain⟨rfl,hd⟩:=e;refine (BL u).bind λρ₂ f f' l2 e=>?_;obtain⟨rfl,hf⟩:=e;rw[hd,hf] at hc;have h:=(h.mono l1).mono l2;split at hc
 ·rename_i e1 e2;(cases e1;cases e2);rename_i e;split at hc
  ·rename_i he
   have key:AX T F N (QV F) (do match <- underlying e with
     | .int .u8=>Conv.bytesToString x| .int .i32=>Conv.runesToString x
     |_=>stuck "Convert: a slice of what to string?" :Sem Value) ρ₂ (do match <- underlying e with
     | .int .u8=>Conv.bytesToString x'| .int .i32=>Conv.runesToString x'
     |_=>stuck "Convert: a slice of what to string?"):=by
    refine (BL e).bind λρ₃ g g' l3 q=>?_;obtain⟨rfl,hg⟩:=q;rw[he] at hg;(cases hg);exact Ya (h.mono l3)
   cases h with
   |flat hfl=>cases x<;>first|exact CU hfl|exact key|exact λ_=>trivial|exact λ_=>.flat rfl
   |tok hk ht=>
    cases x'<;>first|exact CU ht|exact key
   |mf hk hm=>cases x'<;>first|exact CU hm|exact key
   |_=>exact key
  cases hc
 ·rename_i e1 e2;cases e1;cases e2
  cases h with
  |flat hfl=>cases x<;>first|exact λ_=>.flat rfl|exact λ_=>trivial|exact CU hfl|(rename_i a;cases a<;>first|exact λ_=>trivial|exact CU hfl)
  |_=>exact λ_=>trivial
 ·rename_i e1 e2;cases e1;cases e2
  cases h with
  |flat hfl=>cases x<;>first|exact λ_=>.flat rfl|exact λ_=>trivial|exact CU hfl
  |_=>exact λ_=>trivial
 cases hc
end
section
variable {T:Twin} {F:Fs} {N:Nat} {ρ:Rn}
theorem ZU{fb:Fb}{G:Nat}{ev ev':Operand->Value}(hev:P7 F ρ fb G ev ev'){c:Call}{f:Operand}(e:c.callee=.value f)(hc:c.operands.all (Hl fb G)=true)(ty:TypeId):
  Au F ρ (ev f) (ev' f)/\Ar F ρ (c.args.map ev) (c.args.map ev')/\resolve ev c ty=Deferred.ofValue (ev f) (c.args.map ev)/\resolve ev' c ty=Deferred.ofValue (ev' f) (c.args.map ev'):=by
 unfold Call.operands at hc;rw[e] at hc;simp only[LG,BF] at hc;exact⟨hev f (by simpa using hc.1),hev.map hc.2,by unfold resolve;rw[e],by unfold resolve;rw[e]⟩
theorem CQ{fb:Fb}{G:Nat}{as:Array Operand}(h:as.all (Hl fb G)=true){x:Operand}(hx:x∈as):Hl fb G x=true:=F6.1 h x hx
theorem ADe{ev:Operand->Value}(hfun: ∀g,ev (.func g)=.func (.func g) #[] #[]){f:Operand}{n:Nat}{m:Nat}(h:TR m f n=true){z:FuncId}:(∃s k,ev f=FD z s k)->n<=m:=by
 rintro⟨s,k,e⟩
 cases f with|func g=>rw[hfun] at e;simp[FD] at e|_=>simpa[TR] using h
theorem jl{fb:Fb}{G:Nat}{ev ev':Operand->Value}(hev:P7 F ρ fb G ev ev')(hfun: ∀g,ev (.func g)=.func (.func g) #[] #[])(hfun': ∀g,ev' (.func g)=.func (.func g) #[] #[]){c:Call}{g:FuncId}(e:c.callee=.value (.func g))(hg:F g)(hga: ∀n,F.a g n)
  (hc:(OT c).all (Hl fb G)=true) (ty:TypeId):AX T F N (λρ d d'=>Ie F ρ d d'/\d.target=.fn (.func g) #[]) (resolve ev c ty) ρ (resolve ev' c ty):=by
 unfold OT at hc;rw[e] at hc;have ha:=hev.map hc;(have e1:resolve ev c ty=pure {target:=.fn (.func g) #[],args:=#[]++c.args.map ev}:=by unfold resolve;rw[e];simp only[hfun];rfl);(have e2:resolve ev' c ty=pure {target:=.fn (.func g) #[],args:=#[]++c.args.map ev'}:=by unfold resolve;rw[e];simp only[hfun'];rfl);rw[e1,e2];exact λ_=>⟨.mk (.fn hg hga Ar.nil) (Ar.append Ar.nil ha),rfl⟩
theorem ZV{c:Call}(h: ∀g,c.callee≠ .value (.func g)):OT c=c.operands:=by
 unfold OT;split
 ·rename_i e;exact absurd e (h _)
 rfl
theorem AEr(hB:GM T F N)(hN:T.P.globals.size<N){fb:Fb}{G:Nat}(hfb: ∀f,fb f=true->F f)(hfa: ∀f n,Jp fb f n=true->F.a f n)(hfe: ∀f,fb.e f=true->F.e f)(dP:fb.h=true->F.h)(hfm:fb.m<=F.m){ev ev':Operand->Value}(hev:P7 F ρ fb G ev ev')(hfun: ∀g,ev (.func g)=.func (.func g) #[] #[])(hfun': ∀g,ev' (.func g)=.func (.func g) #[] #[]){c:Call}(hdk: ∀g,c.callee=.value (.func g)->F.dk g (c.args.map ev))(ho:(OT c).all (Hl fb G)=true)
  (hc:GL T.P fb G c.callee c.argTypes c.args=true) (ty:TypeId):AX T F N (ji F) (do let d <- resolve ev c ty;invoke d.target d.args:Sem Next) ρ (do let d <- resolve ev' c ty;invoke d.target d.args):=by
 by_cases hst: ∃g,c.callee=.value (.func g)
 ·obtain⟨g,hst⟩:=hst;rw[hst] at hc;simp only[GL,BF,GH] at hc;have ha:=hev.map (show c.args.all (Hl fb G)=true by unfold OT at ho;rw[hst] at ho;exact ho);rcases hc with hc|hc
  ·(have e1:resolve ev c ty=pure {target:=.fn (.func g) #[],args:=#[]++c.args.map ev}:=by unfold resolve;rw[hst];simp only[hfun];rfl);(have e2:resolve ev' c ty=pure {target:=.fn (.func g) #[],args:=#[]++c.args.map ev'}:=by unfold resolve;rw[hst];simp only[hfun'];rfl);rw[e1,e2];(have e3: ∀q:Array Value,#[]++q++ #[]=q:=λq=>by simp);refine AX.mono (Q:=λρ a b=>JZ F ρ a b/\∀h p,a=.enter h p->h=g) ?_ λ_ _ _ _ h=>h.1;show AX T F N _ (callFunc g (#[]++c.args.map ev++ #[])) ρ (callFunc g (#[]++c.args.map ev'++ #[]));rw[e3,e3];exact TS hB (hfb _ hc.1) (by rw[LU];exact hfa _ _ hc.2) (hdk g hst) ha
  (have e1:resolve ev c ty=pure {target:=.fn (.func g) #[],args:=#[]++c.args.map ev}:=by unfold resolve;rw[hst];simp only[hfun];rfl);(have e2:resolve ev' c ty=pure {target:=.fn (.func g) #[],args:=#[]++c.args.map ev'}:=by unfold resolve;rw[hst];simp only[hfun'];rfl);rw[e1,e2];exact ZT hB (hfe _ hc) ((Ar.append Ar.nil ha).append Ar.nil)
 rw[ZV λg e=>hst ⟨g,e⟩] at ho
 cases hq:c.callee with
 |value f=>
  obtain⟨h1,h2,e1,e2⟩:=ZU hev hq ho ty;rw[e1,e2];rw[hq] at hc
  have hc:fb.h=true/\TR fb.m f c.args.size=true:=by
   cases f with|func g=>exact absurd ⟨g,hq⟩ hst|_=>simp only[GL,BF] at hc;exact⟨hc.1,hc.2.2⟩
  obtain⟨hh,hc⟩:=hc;exact UB hB (dP hh) h1 h2 (by rw[LU];exact λh=>Ah (ADe hfun hc h) hfm)
 |invoke r name=>
  rw[hq] at hc;simp only[GL,BF] at hc;have ho2:c.args.all (Hl fb G)=true:=by unfold Call.operands at ho;rw[hq] at ho;simp only[LG,BF] at ho;exact ho.2
  have e1: ∀e:Operand->Value,(do let d <- resolve e c ty;invoke d.target d.args:Sem Next)=callMethod (e r) name (c.args.map e):=by
   intro e;unfold resolve;rw[hq];simp only[pure_bind,invoke];have h0:(#[e r]++c.args.map e)[0]? =some (e r):=by simp[aT]
   have h1:(#[e r]++c.args.map e).extract 1 (#[e r]++c.args.map e).size=c.args.map e:=by
    apply G7;intro i;rw[aU];simp only[LD,CG,List.length_cons,List.length_nil,Dx,LU];by_cases hi:i<c.args.size
    ·rw[if_pos Ac,Ht AY];simp
    rw[if_neg Ac];rw[Dl,GI Ac];rfl
   rw[h0,h1]
  rw[e1,e1];exact gz hB hfb hfa hfe hc.2 (hev r hc.1) (hev.map ho2)
 |builtin b=>
  rw[hq] at hc;have ho2:c.args.all (Hl fb G)=true:=by unfold Call.operands at ho;rw[hq] at ho;simp only[LG,BF] at ho;exact ho.2
  have e1: ∀e:Operand->Value,(do let d <- resolve e c ty;invoke d.target d.args:Sem Next)=builtin b c.argTypes ty (c.args.map fun| .const _=>true|_=>false) (c.args.map e):=by
   intro e;unfold resolve;rw[hq];rfl
  rw[e1,e1];have hm:=hev.map ho2;cases b<;>first|exact CU hc|skip
  ·
   simp only[GL] at hc;generalize c.argTypes=Yb at hc⊢;generalize c.args=QT at hc ho2⊢;obtain⟨ts⟩:=Yb;obtain⟨as⟩:=QT;(rcases ts with _|⟨t,_|⟨xt,_|⟨_,_⟩⟩⟩<;>first|exact CU hc|skip);(rcases as with _|⟨s,_|⟨x,_|⟨_,_⟩⟩⟩<;>first|exact CU hc|skip);refine FP ?_;simp only[BX,AL,BC];(have hz: ∀el,T.P.underlying t=some (.slice el)->Gt T.P el=true:=λel hel=>by simp only[hel] at hc;exact hc);by_cases hk: ∃k,T.P.underlying xt=some (.int k);exact ui t xt ty hk hz (hev s (CQ ho2 AY)) (hev x (CQ ho2 AY));exact yx t xt ty (λk h=>hk ⟨k,h⟩) hz (hev s (CQ ho2 AY)) (hev x (CQ ho2 AY))
  ·
   simp only[GL] at hc;generalize c.argTypes=Yb at hc⊢;generalize c.args=QT at hc ho2⊢;obtain⟨ts⟩:=Yb;obtain⟨as⟩:=QT;(rcases ts with _|⟨t,_|⟨_,_⟩⟩<;>first|exact CU hc|skip);(rcases as with _|⟨x,_|⟨_,_⟩⟩<;>first|exact CU hc|skip);refine FP ?_;simp only[BX,AL,BC];simp only at hc
   cases hu:T.P.underlying t with
   |none=>rw[hu] at hc;exact CU hc|some d=>
    rw[hu] at hc;cases d<;>first|exact CU hc|exact ABy hu hc (hev x (CQ ho2 AY))
  ·
   simp only[GL] at hc;generalize c.argTypes=Yb at hc⊢;generalize c.args=QT at hc ho2⊢;obtain⟨ts⟩:=Yb;obtain⟨as⟩:=QT;(rcases ts with _|⟨t,_|⟨u,_|⟨_,_⟩⟩⟩<;>first|exact CU hc|skip);(rcases as with _|⟨x,_|⟨y,_|⟨_,_⟩⟩⟩<;>first|exact CU hc|skip);refine FP ?_;simp only[BX,AL,BC];exact zI hN hc (hev x (CQ ho2 AY)) (hev y (CQ ho2 AY))
  ·
   simp only[GL] at hc;generalize c.argTypes=Yb at hc⊢;generalize c.args=QT at hc ho2⊢;obtain⟨ts⟩:=Yb;obtain⟨as⟩:=QT;(rcases ts with _|⟨t,_|⟨_,_⟩⟩<;>first|exact CU hc|skip);(rcases as with _|⟨s,_|⟨_,_⟩⟩<;>first|exact CU hc|skip);refine FP ?_;simp only[BX,AL,BC];refine AF5 t ty (λd e hd=>?_) (hev s (CQ ho2 AY));simp only[hd] at hc;cases hc
  exact FP (AF6 _ _ hm);exact FP (AF7 _ _ hm)
theorem AB3{fb:Fb}{G:Nat}(hfm:fb.m<=F.m)(hh:F.h)(hva: ∀f,F.v f->∀n,F.a f n)(hza: ∀n,F.a F.z n){ev ev':Operand->Value}(hev:P7 F ρ fb G ev ev')(hfun: ∀g,ev (.func g)=.func (.func g) #[] #[]){c:Call}(ho:c.operands.all (Hl fb G)=true){f:Operand}(hq:c.callee=.value f)(hw:TR fb.m f c.args.size=true)(ty:TypeId):
  AX T F N (λρ d d'=>Ie F ρ d d'/\∀g q,d.target=.fn (.func g) q->∀n,F.a g n) (resolve ev c ty) ρ (resolve ev' c ty):=by
 obtain⟨h1,h2,e1,e2⟩:=ZU hev hq ho ty;rw[e1,e2];exact YF hh hva hza h1 h2 (by rw[LU];exact λh=>Ah (ADe hfun hw h) hfm)
theorem zK(hB:GM T F N)(hN:T.P.globals.size<N){fb:Fb}{G:Nat}(hfb: ∀f,fb f=true->F f)(hfa: ∀f n,Jp fb f n=true->F.a f n)(hfe: ∀f,fb.e f=true->F.e f)(dP:fb.h=true->F.h)(hfm:fb.m<=F.m)(hval: ∀f,fb.v f=true->F.v f)(hlv:fb.d=true->F.d){ev ev':Operand->Value}(hev:P7 F ρ fb G ev ev')(hconst: ∀v,ev (.const v)=v)(hfun: ∀g,ev (.func g)=.func (.func g) #[] #[])(hfun': ∀g,ev' (.func g)=.func (.func g) #[] #[]){o:Oper}(hdk: ∀c g,o.op=.call c->c.callee=.value (.func g)->F.dk g (c.args.map ev))(ho:Va T.P fb G o.op=true):
  AX T F N (ji F) (execOp ev o) ρ (execOp ev' o):=by
 unfold Va at ho;rw[BF] at ho;obtain⟨hops,ho⟩:=ho;unfold execOp;cases hop:o.op<;>rw[hop] at ho hops<;>simp only[opsOf,Op.operands] at hops<;>dsimp only at ho⊢ <;>first|exact CU ho|skip
 case move x=>exact λ_=>.value (hev x (CQ hops AY))
 case assign x=>exact λ_=>.value (hev x (CQ hops AY))
 case pick c a b=>
  have h1:=hev c (CQ hops AY);have h2:=hev a (CQ hops AY);have h3:=hev b (CQ hops AY);refine (yf h1).bind λρ₁ x y l e=>?_;obtain rfl:x=y:=e;(cases x);exact λ_=>.value (h3.mono l);exact λ_=>.value (h2.mono l)
 case alloc t=>exact FP (ABm t ho)
 case box t x=>exact FP (AF4 t (hev x (CQ hops AY)))
 case build t ps=>
  refine FP (ABo t ho ?_);rw[Hr,Hr];exact hev.parts λq hq=>CQ hops (by simp;exact⟨q.1,PX.2 hq⟩)
 case buildSlice t n ps=>
  refine FP (gp t n (λel hel=>by rw[hel] at ho;exact ho) ?_);rw[Hr,Hr];exact hev.parts λq hq=>CQ hops (by simp;exact⟨q.1,PX.2 hq⟩)
 case load t a=>exact FP (yh t (hev a (CQ hops AY)))
 case store t a x=>exact ABz (uP t (hev a (CQ hops AY)) (hev x (CQ hops AY)))
 case nilCheck x=>exact o8 hB.m0 (hev x (CQ hops AY)) _ _ rfl rfl λ_ _ _ h=>.value h
 case binOp op t x y r=>
  have hx:=hev x (CQ hops AY);have hy:=hev y (CQ hops AY);refine FP ?_;by_cases hq:op=.eql\/op=.neq
  ·have hp:Ha T.P t=true\/Jj T.P t (ev y)=true\/Jj T.P t (ev x)=true:=by
    (have:(op==BinOp.eql || op==BinOp.neq)=true:=by rcases hq with rfl|rfl<;>rfl);rw[this,if_pos rfl,GH,GH] at ho
    have key: ∀z:Operand,Hl fb G z=true->uj T.P t z=true->Jj T.P t (ev z)=true:=by
     intro z _ hn;(cases z<;>first|exact CU hn|skip);rw[hconst];exact hn
    rcases ho with (ho|ho)|ho;exact .inl ho;exact .inr (.inl (key y (CQ hops AY) ho));exact .inr (.inr (key x (CQ hops AY) ho))
   exact (ZP op x y (λ_=>hp) hx hy).bind λρ₁ _ _ l _=>uZ hN hq hp (hx.mono l) (hy.mono l)
  have hq':op≠ .eql/\op≠ .neq:=⟨λe=>hq (.inl e),λe=>hq (.inr e)⟩
  have ht:T.P.underlying t≠some .unsafePointer:=by
   have:(op==BinOp.eql || op==BinOp.neq)=false:=by
    cases h:(op==BinOp.eql || op==BinOp.neq) with|false=>rfl|true=>rw[GH] at h;exact absurd (h.imp (λe=>by cases op<;>first|rfl|cases e) (λe=>by cases op<;>first|rfl|cases e)) hq
   rw[this] at ho;intro e;rw[e] at ho;exact absurd ho AY
  exact (ZP op x y (λe=>absurd e hq) hx hy).bind λρ₁ _ _ l _=>ABs hN hq' ht (hx.mono l) (hy.mono l)
 case unOp op t x=>
  (cases op<;>first|exact CU ho|skip);refine FP ?_;have hx:=hev x (CQ hops AY);generalize ev x=a at hx;generalize ev' x=a' at hx
  cases hx with
  |flat hf=>
   cases a<;>first|exact λ_=>.flat rfl|exact λ_=>trivial|exact CU hf
  |_=>exact λ_=>trivial
 case convert s d x=>exact FP (uq ho (hev x (CQ hops AY)))
 case makeInterface t x=>exact FP (YZ t (hev x (CQ hops AY)))
 case makeFunc fn p q=>
  (cases fn<;>first|exact CU ho|skip);rw[LG,BF] at hops;exact FP (o7 _ (hfb _ (by simp only[BF] at ho;exact ho.1)) (hval _ (by simp only[BF] at ho;exact ho.2)) (hev.map hops.1) (hev.map hops.2))
 case slice t x lo hi mx=>
  simp only[LG,BF] at hops;obtain⟨⟨⟨h1,h2⟩,h3⟩,h4⟩:=hops;exact FP (uU t (hev x (CQ h1 AY)) (hev.opt h2) (hev.opt h3) (hev.opt h4))
 case fieldAddr t x f=>exact FP (uQ t (hev x (CQ hops AY)) f)
 case indexAddr t x i=>exact FP (uS t (hev x (CQ hops AY)) (hev i (CQ hops AY)))
 case extract x i=>exact FP (uT (hev x (CQ hops AY)) i)
 case call c=>exact AEr hB hN hfb hfa hfe dP hfm hev hfun hfun' (λg h=>hdk c g (by first|assumption|rfl) h) hops ho _
 case defer c=>
  have hlx:F.d:=hlv (by simp only[BF] at ho;exact ho.1)
  replace ho:=(aZ.1 (show (fb.d && _)=true from ho)).2
  cases hq:c.callee with
  |value f=>
   by_cases hst: ∃g,f=.func g
   ·obtain⟨g,rfl⟩:=hst;rw[hq] at ho;simp only[BF] at ho;have hn: ∀n,F.a g n:=λn=>hfa _ _ (by unfold Jp;rw[show fb.a g=none by simpa using ho.2]);exact (jl hev hfun hfun' hq (hfb _ ho.1) hn hops _).bind λ_ _ _ _ h=>λ_=>.defer hlx (λg' q e=>by rw[h.2] at e;cases e;exact hn) h.1
   rw[ZV λg e=>hst ⟨g,by rw[hq] at e;cases e;rfl⟩] at hops;rw[hq] at ho
   have ho:fb.h=true/\TR fb.m f c.args.size=true:=by
    cases f with|func g=>exact absurd ⟨g,rfl⟩ hst|_=>simpa only[BF] using ho
   exact (AB3 hfm (dP ho.1) (hB.va (dP ho.1)) hB.za hev hfun hops hq ho.2 _).bind λ_ _ _ _ h=>λ_=>.defer hlx h.2 h.1
  |builtin b=>rw[hq] at ho;exact CU ho|invoke r n=>rw[hq] at ho;exact CU ho
 case panic x=>exact FP (ABq (hev x (CQ hops AY)))
 case lookup t x k ok=>exact FP (zF hN ho (hev x (CQ hops AY)) (hev k (CQ hops AY)) ok)
 case mapUpdate t m k x=>exact ABz (jh hN ho (hev m (CQ hops AY)) (hev k (CQ hops AY)) (hev x (CQ hops AY)))
 case makeMap t r=>
  cases r<;>first|exact CU ho|exact FP (uh t)
 case range t x=>exact FP (ABt (hev x (CQ hops AY)))
 case next it b=>exact FP (AEp (hev it (CQ hops AY)) b o.type)
 case entry it=>exact FP (ABw (hev it (CQ hops AY)))
 case index t x i=>exact FP (ABx (hev x (CQ hops AY)) (hev i (CQ hops AY)))
 case typeAssert x t a ok=>
  (cases ok);exact FP (ak hN (hev x (CQ hops AY)) t a);exact FP (gy (hev x (CQ hops AY)) t a ho)
end
section
variable {T:Twin} {F:Fs} {N:Nat} {ρ:Rn}
theorem Ui{l l':Nat}(h:ρ.r l l'){r r':Loop}(hr:qW F ρ r r'):AX T F N ET (setObj l (.loop r)) ρ (setObj l' (.loop r')):=
 λ_=>⟨h,.loop hr,rfl,AY,rfl⟩
theorem iC{l l':Nat}(h:ρ.r l l'):AX T F N ET (Instr.beginRound l) ρ (Instr.beginRound l'):=by
 unfold Instr.beginRound;refine (NZ h).bind λρ₁ r r' l1 hr=>?_;refine (Ui (l1.r _ _ h) (r:={r with state:=.busy}) (r':={r' with state:=.busy}) ⟨rfl,hr.pending,hr.fn,hr.tmps,hr.params,hr.few,hr.assign,hr.body,hr.okF,hr.okA,hr.okB,hr.VW,hr.defers⟩).bind λρ₂ _ _ l2 _=>?_;rw[hr.state];(cases r.state);exact λ_=>rfl;exact Bl (e:=.error _) trivial;exact Bl (e:=.error _) trivial;exact Bl (e:=.error _) trivial
theorem pU{l l':Nat}(h:ρ.r l l'){j:Option Code}(hj:(∃x,F.c x)->∀c,j=some c->F.c c):AX T F N (QV F) (Instr.endRound l j) ρ (Instr.endRound l' j):=by
 unfold Instr.endRound;refine (NZ h).bind λρ₁ r r' l1 hr=>?_
 refine (Ui (l1.r _ _ h) (r:={r with state:=if j.isNone then .ready else .done,pending:=j}) (r':={r' with state:=if j.isNone then .ready else .done,pending:=j})
  ⟨rfl,rfl,hr.fn,hr.tmps,hr.params,hr.few,hr.assign,hr.body,hr.okF,hr.okA,hr.okB,hj ⟨_,hr.okA⟩,hr.defers⟩).bind λρ₂ _ _ l2 _=>λ_=>.flat rfl
theorem uu{l l':Nat}(h:ρ.r l l'):AX T F N (λ_ j j'=>j=j'/\∀c,j=some c->F.c c) (Instr.endLoop l) ρ (Instr.endLoop l'):=by
 unfold Instr.endLoop;refine (NZ h).bind λρ₁ r r' l1 hr=>?_
 have key:AX T F N (λ_ j j'=>j=j'/\∀c,j=some c->F.c c) (do setObj l (.loop {r with state:=.exhausted});pure r.pending:Sem (Option Code)) ρ₁ (do setObj l' (.loop {r' with state:=.exhausted});pure r'.pending):=
  (Ui (l1.r _ _ h) (r:={r with state:=.exhausted}) (r':={r' with state:=.exhausted}) ⟨rfl,hr.pending,hr.fn,hr.tmps,hr.params,hr.few,hr.assign,hr.body,hr.okF,hr.okA,hr.okB,hr.VW,hr.defers⟩).bind
   λρ₂ _ _ l2 _=>λ_=>⟨hr.pending.symm,hr.VW⟩
 rw[hr.state];by_cases hb:(r.state== .busy)=true
 ·simp only[hb,if_true];exact AX.bind (Q:=λ_ _ _=>False) (Bl (e:=.error _) trivial) λ_ _ _ _ e=>e.elim
 simp only[hb,if_false,Ak];exact key
theorem jm(f:FuncId)(hF:F.r f){p p':Array Value}(hp:Ar F ρ p p')(ps:Array Tmp)(hps:ps.size<=2){a b:Code}(ha:F.c a)(hb:F.c b){o o':Option Nat}(ho:match o,o' with|none,none=>True|some l,some l'=>ρ.r l l'|_,_=>False):
  AX T F N (λρ (x y:Nat×List Deferred)=>ρ.r x.1 y.1/\Ci (Ie F ρ) x.2 y.2/\∀d∈x.2,∃b,d.target=.collected b) (Instr.enterLoop f p ps a b o) ρ (Instr.enterLoop f p' ps a b o'):=by
 cases o<;>cases o'<;>first|exact ho.elim|skip
 ·have e: ∀t:Array Value,Instr.enterLoop f t ps a b none=(newObj (.deferred (some []))>>=λr=>newObj (.loop {state:=.ready,pending:=none,fn:=f,tmps:=t,params:=ps,assign:=a,body:=b,defers:=r})>>=λl=>pure (l,[{target:=.collected r,args:=#[]}]):Sem (Nat×List Deferred)):=λ_=>rfl;rw[e,e];refine AX.bind (Q:=λρ (x y:Nat)=>ρ.r x y) (λ_=>.inr ⟨.deferred,λn n' _=>.inr ⟨rfl,rfl⟩⟩) λρ₁ x y l1 hx=>?_;refine AX.bind (Q:=λρ (x y:Nat)=>ρ.r x y) (λ_=>.inr ⟨.loop ⟨rfl,rfl,rfl,hp.mono l1,rfl,hps,rfl,rfl,hF,ha,hb,λj hj=>(by cases hj),hx⟩,λn n' _=>.inr ⟨rfl,rfl⟩⟩) λρ₂ x' y' l2 hxy=>λ_=>⟨hxy,?_,λd hd=>⟨x,by simp only[Ad] at hd;rw[hd]⟩⟩;exact .cons (.mk (.collected (l2.r _ _ hx)) Ar.nil) .nil
 rename_i l l';have e: ∀(t:Array Value) (l:Nat),Instr.enterLoop f t ps a b (some l)=(Instr.getLoop l>>=λr=>newObj (.loop {state:=.ready,pending:=none,fn:=f,tmps:=t,params:=ps,assign:=a,body:=b,defers:=r.defers})>>=λl=>pure (l,[]):Sem (Nat×List Deferred)):=λ_ _=>rfl;rw[e,e];refine (NZ ho).bind λρ₁ r r' l1 hr=>?_;refine AX.bind (Q:=λρ (x y:Nat)=>ρ.r x y) (λ_=>.inr ⟨.loop ⟨rfl,rfl,rfl,hp.mono l1,rfl,hps,rfl,rfl,hF,ha,hb,λj hj=>(by cases hj),hr.defers⟩,λn n' _=>.inr ⟨rfl,rfl⟩⟩) λρ₂ x' y' l2 hxy=>λ_=>⟨hxy,.nil,λd hd=>(by cases hd)⟩
theorem ZW{b b':Nat}(h:ρ.r b b'):AX T F N (λ_ x y=>x=[]/\y=[]) (Instr.takeDeferred b) ρ (Instr.takeDeferred b'):=by
 unfold Instr.takeDeferred;refine AX.bind (Q:=λρ=>GY F ρ) (λ_=>⟨h,λo o' ho=>ho⟩) λρ₁ o o' l1 ho=>?_
 cases ho with
 |deferred=>
  refine AX.bind (Q:=ET) (λ_=>⟨l1.r _ _ h,.J6,rfl,AY,rfl⟩) λρ₂ _ _ l2 _=>λ_=>?_;exact⟨rfl,rfl⟩
 |_=>exact λ_=>trivial
theorem uw(fn:Func){p p':Array Value}(hp:Ar F ρ p p'):AX T F N (QV F) (results fn p) ρ (results fn p'):=by
 unfold results
 have key: ∀(l:List ResultVar) {ρ:Rn},Ar F ρ p p'->AX T F N (λρ (x y:List Value)=>Ar F ρ x.toArray y.toArray)
   (l.mapM (fun| .tmp t=>pure (p.getD t undef)| .cell a t=>do loadVar t (<- asAddr (p.getD a undef)):ResultVar->Sem Value)) ρ
   (l.mapM (fun| .tmp t=>pure (p'.getD t undef)| .cell a t=>do loadVar t (<- asAddr (p'.getD a undef)):ResultVar->Sem Value)):=by
  intro l
  induction l with
  |nil=>intro ρ _;rw[List.mapM_nil,List.mapM_nil];exact λ_=>Ar.nil
  |cons r l ih=>
   intro ρ hp;rw[PT,PT];refine AX.bind (Q:=QV F) ?_ λρ₁ x y l1 hx=>?_
   ·cases r with
    |tmp t=>exact λ_=>hp.getD t|cell a t=>exact (dX (hp.getD a)).bind λρ₁ x y l1 hx=>NW t hx
   refine (ih (hp.mono l1)).bind λρ₂ xs ys l2 hxs=>λ_=>?_;refine⟨by have:=hxs.1;simpa using this,λi v v' h1 h2=>?_⟩
   cases i with|zero=>simp at h1 h2;subst h1 h2;exact hx.mono l2|succ i=>exact hxs.2 i v v' (by simpa using h1) (by simpa using h2)
 rw[PS,PS];refine AX.bind (Q:=λρ (x y:Array Value)=>Ar F ρ x y) ((key fn.results.toList hp).bind λρ₁ x y l1 h=>λ_=>h) λρ₁ x y l1 h=>λ_=>?_;show Au F ρ₁ (if h:x.size=1 then x[0] else .tuple x) (if h:y.size=1 then y[0] else .tuple y);by_cases h1:x.size=1
 ·have h2:y.size=1:=h.1▸h1;rw[dif_pos h1,dif_pos h2];exact h.2 0 _ _ (Ba Ac) (Ba Ac)
 have h2: ¬y.size=1:=h.1▸h1;rw[dif_neg h1,dif_neg h2];exact .tuple h.1 h.2
end
def Uj (g:Option FuncId):Op->Option Call
 | .call c=>(match c.callee with| .value (.func f)=>if g==some f then some c else none|_=>none)
 |_=>none
def Ja (fb:Fb) (ops:Array Oper) (j:Nat):Option Tmp:=match ops[j]? with
 |some o=>(match Uj fb.ch o.op with|some _=>o.dst|none=>none)
 |none=>none
def O9 (fb:Fb) (ops:Array Oper) (i:Nat):Option (Option Tmp):=match ops[i]? with
 |some o=>(match Uj fb.cp o.op with|some c=>some (match (c.args[0]? :Option Operand) with|some (.tmp t)=>some t|_=>none)|none=>none)
 |none=>none
def au (fb:Fb) (ops:Array Oper):Bool:=(List.range ops.size).all λi=>match O9 fb ops i with
 |none=>true|some none=>false
 |some (some t)=>(match ops[i]? with|some o=>o.after.any (λe=>Region.binds .any e && (decide (e.on<i) && Ja fb ops e.on==some t))|none=>false) &&
   (List.range ops.size).all (λj=>Ja fb ops j==some t || (match ops[j]? with|some o=> !(o.dst==some t)|none=>true))
def qf (z:FuncId) (x:Value):Prop:=x=undef\/∃s n,x=FD z s n
def RG (fb:Fb) (z:FuncId) (ops:Array Oper) (rest:List Nat) (T:Array Value):Prop:=
 ∀i t,O9 fb ops i=some (some t)->qf z (T.getD t undef)\/∀pre post,rest=pre++i::post->∃j∈pre,Ja fb ops j=some t
theorem qg{fb:Fb}{ops:Array Oper}(h:au fb ops=true){i:Nat}{t:Tmp}(hi:O9 fb ops i=some (some t)):
  (∃o,ops[i]? =some o/\∃e∈o.after,Region.binds .any e=true/\e.on<i/\Ja fb ops e.on=some t)/\∀j o,ops[j]? =some o->Ja fb ops j=some t\/o.dst≠some t:=by
 have hlt:i<ops.size:=by
  unfold O9 at hi
  cases e:ops[i]? with|none=>rw[e] at hi;cases hi|some o=>exact (BK.1 e).1
 have h1:=CO.1 h i (GG.2 hlt);simp only[hi,BF] at h1;obtain⟨h1,h2⟩:=h1;refine⟨?_,λj o ho=>?_⟩
 ·rw[Ba hlt] at h1⊢;obtain⟨e,he,h3⟩:=Array.any_eq_true'.1 h1;simp only[BF,decide_eq_true_eq,beq_iff_eq] at h3;exact⟨_,rfl,e,he,h3.1,h3.2.1,h3.2.2⟩
 have h3:=CO.1 h2 j (GG.2 (BK.1 ho).1);rw[ho] at h3;simp only[GH,beq_iff_eq,Hu,beq_eq_false_iff_ne] at h3;exact h3
theorem qh{fb:Fb}{z:FuncId}{ops:Array Oper}{T:Array Value}(h:au fb ops=true){L:List Nat}(hL: ∀pre i post,L=pre++i::post->∀o,ops[i]? =some o->∀e∈o.after,Region.binds .any e=true->e.on<i->e.on∈pre):RG fb z ops L T:=by
 intro i t hi;obtain⟨⟨o,ho,e,he,hb,hlt,hc⟩,_⟩:=qg h hi;exact .inr λpre post e1=>⟨e.on,hL pre i post e1 o ho e he hb hlt,hc⟩
theorem range_split{n:Nat}: ∀{pre:List Nat} {i:Nat} {post:List Nat},List.range n=pre++i::post->∀j,j<i->j∈pre:=by
 intro pre i post e j hj;have hlen:(List.range n).length=n:=List.length_range;have hp:pre.length<n:=by rw[e] at hlen;simp at hlen;omega
 have hi:i=pre.length:=by
  (have h1:(List.range n)[pre.length]? =some i:=by rw[e];simp);rw[ae hp] at h1;exact (BQ h1).symm
 have h2:(List.range n)[j]? =some j:=ae Ac;rw[e,Dy Ac] at h2;exact Aa h2
theorem AJI{m:Region.Mode}{ops:Array Oper}: ∀(fuel t:Nat) (listed:Array Bool) (acc:List Nat),(∀j,listed.getD j false=true->j∈acc)->
  ∃L,Region.linearise.go m ops fuel t listed acc=acc.reverse++L/\∀pre i post,L=pre++i::post->∀o,ops[i]? =some o->∀e∈o.after,Region.binds m e=true->e.on∈acc.reverse++pre:=by
 intro fuel
 induction fuel with
 |zero=>intro t listed acc h;exact⟨[],by simp[Region.linearise.go],λpre i post e=>by simp at e⟩
 |succ fuel ih=>
  intro t listed acc h;unfold Region.linearise.go;simp only;split
  ·rename_i i hi;have him:=Aa hi;rw[I4] at him;simp only[BF,Hu] at him;obtain⟨_,hl0,him⟩:=him
   obtain⟨L,h1,h2⟩:=ih (t/_) (listed.setIfInBounds i true) (i::acc) (λj hj=>by
    rw[Eb,N8] at hj;by_cases hij:i=j;exact AA.2 (.inl hij.symm);rw[if_neg hij,<- Eb] at hj
    exact Aj _ (h j hj))
   refine⟨i::L,by rw[h1];simp,λpre i' post e o ho ed hed hb=>?_⟩
   cases pre with
   |nil=>
    simp only[List.nil_append,DJ] at e;obtain⟨rfl,_⟩:=e;rw[ho] at him;simp only[Option.map_some,Option.getD_some] at him;have h3:=F6.1 him ed hed;rw[hb] at h3;have:=h _ (by simpa using h3);simpa using this
   |cons a pre=>
    simp only[List.cons_append,DJ] at e;obtain⟨rfl,e⟩:=e;have:=h2 pre i' post e o ho ed hed hb;simpa using this
  exact⟨[],AY,λpre i post e=>by simp at e⟩
theorem uy{fb:Fb}{z:FuncId}{ops:Array Oper}{T:Array Value}(h:au fb ops=true)(mixed:Bool)(t:Nat):RG fb z ops (Region.schedule mixed ops t) T:=by
 have key: ∀m t,RG fb z ops (Region.linearise m ops t) T:=λm t=>by
  obtain⟨L,h1,h2⟩:=AJI (m:=m) (ops:=ops) ops.size t (Array.replicate ops.size false) [] (λj hj=>by
   rw[Eb,aV] at hj
   split at hj<;>simp at hj)
  refine qh h λpre i post e o ho ed hed hb _=>?_
  have e2:L=pre++i::post:=by
   rw[<- e];show L=Region.linearise.go m ops ops.size t (Array.replicate ops.size false) [];rw[h1];rfl
  have:=h2 pre i post e2 o ho ed hed (by
   unfold Region.binds at hb⊢
   cases hg:ed.ground with|textOnly _=>rw[hg] at hb;cases hb|gcOnly _=>rw[hg] at hb;cases hb|_=>rfl)
  simpa using this
 unfold Region.schedule;split;exact key _ _;exact key _ _
theorem RG.step{fb:Fb}{z:FuncId}{ops:Array Oper}{a:Nat}{rest:List Nat}{T:Array Value}(h:RG fb z ops (a::rest) T)(hok:au fb ops=true){x:Value}(hx:Ja fb ops a=none\/qf z x):
  RG fb z ops rest (match (ops[a]?).bind (·.dst) with|none=>T|some d=>T.setIfInBounds d x):=by
 intro i t hi;obtain⟨_,hd⟩:=qg hok hi;by_cases hc:Ja fb ops a=some t
 ·left;have hs:qf z x:=hx.elim (λe=>by rw[hc] at e;cases e) id
  have hdst:(ops[a]?).bind (·.dst)=some t:=by
   unfold Ja at hc
   cases e:ops[a]? with
   |none=>rw[e] at hc;cases hc|some o=>
    rw[e] at hc;simp only at hc;split at hc;exact hc;cases hc
  simp only[hdst];rw[Eb,N8];simp only[if_true];split;exact hs;exact .inl rfl
 have e:(match (ops[a]?).bind (·.dst) with|none=>T|some d=>T.setIfInBounds d x).getD t undef=T.getD t undef:=by
  cases e:ops[a]? with
  |none=>rfl|some o=>
   have:=(hd a o e).resolve_left hc;simp only[Option.bind_some]
   cases e2:o.dst with
   |none=>rfl|some d=>
    simp only;rw[Eb,Eb,BO (λe3=>this (by rw[e2,e3]))]
 rw[e];rcases h i t hi with h1|h1;exact .inl h1;refine .inr λpre post e3=>?_;obtain⟨j,hj,hjc⟩:=h1 (a::pre) post (by rw[e3];rfl);rcases AA.1 hj with rfl|hj;exact absurd hjc hc;exact⟨j,hj,hjc⟩
def JI (P:Program) (fb:Fb) (G:Nat) (d r:Bool):Code->Bool
 | .skip| .exit _| .label _| .goto _| .ret=>true| .region _ ops _=>(ops.all λo=>Va P fb G o.op && (d || !(match o.op with| .defer _=>true|_=>false))) && au fb ops
 | .seq a b=>JI P fb G d r a && JI P fb G d r b| .cond c a b=>Hl fb G c && JI P fb G d r a && JI P fb G d r b| .block _ c| .loop c| .scope c=>JI P fb G d r c| .rangeFunc f ps a b=>((fb.l && r) && fb.h) && (Hl fb G f && decide (1<=fb.m)) && decide (ps.size<=2) && JI P Fb.small G false false a && JI P Fb.small G false false b| .refuse _=>true
structure Kit where
 P:Program
 fb:Fb
 G:Nat
 X:FuncId->Bool
 z:FuncId
 p:Prop:=False
abbrev Kit.F (K:Kit):Fs:={f:=λf=>K.fb f=true,v:=λf=>K.fb.v f=true,c:=λc=>JI K.P Fb.small K.G false false c=true/\K.fb.l=true,r:=λf=>K.fb.lr f=true/\K.fb.l=true,z:=K.z,m:=K.fb.m,a:=λf n=>Jp K.fb f n=true,d:=K.fb.d=true,p:=K.p,e:=λf=>K.fb.e f=true,h:=K.fb.h=true,dk:=λf p=>K.fb.cp=some f->∀x,p[0]? =some x->qf K.z x}
inductive J9 (K:Kit) (d r:Bool) (ρ:Rn):Item->Item->Prop
 |code {c:Code}:JI K.P K.fb K.G d r c=true->J9 K d r ρ (.code c) (.code c)|inBlock {n:Nat}:J9 K d r ρ (.inBlock n) (.inBlock n)|inLoop {c:Code}:JI K.P K.fb K.G d r c=true->J9 K d r ρ (.inLoop c) (.inLoop c)|inScope {c:Code}:JI K.P K.fb K.G d r c=true->J9 K d r ρ (.inScope c) (.inScope c)|inRegion {ops:Array Oper} {l:List Nat}:JI K.P K.fb K.G d r (.region 0 ops false)=true->J9 K d r ρ (.inRegion ops l) (.inRegion ops l)|inRangeFunc {l l':Nat}:ρ.r l l'->J9 K d r ρ (.inRangeFunc l) (.inRangeFunc l')|endRangeFunc {l l':Nat}:ρ.r l l'->J9 K d r ρ (.endRangeFunc l) (.endRangeFunc l')|beginRound:J9 K d r ρ .beginRound .beginRound
structure eG (F:Fs) (ρ:Rn) (e e':PanicEntry):Prop where
 v:Au F ρ e.v e'.v
 r:e'.recovered=e.recovered
 g:e.goexit=false/\e'.goexit=false
 u:e.recovered=false
inductive eH (F:Fs) (ρ:Rn):FrameMode->FrameMode->Prop
 |run:eH F ρ .run .run|returning:eH F ρ .returning .returning|panicking {c c':List PanicEntry}:Ci (eG F ρ) c c'->eH F ρ (.panicking c) (.panicking c')
def uz (ρ:Rn):Option Nat->Option Nat->Prop
 |none,none=>True|some l,some l'=>ρ.r l l'|_,_=>False
def I8 (l:List Item):Prop:=∀ops r,Item.inRegion ops r∉l
def RGf (K:Kit) (f:Frame):Prop:=I8 f.todo.tail/\(f.mode=.run->∀ops rest k,f.todo=.inRegion ops rest::k->RG K.fb K.z ops rest f.tmps)
def NC (K:Kit) (f:Frame):Prop:=f.mode=.run->∀ops a rest k,f.todo=.inRegion ops (a::rest)::k->Ja K.fb ops a=none
theorem RGf.plain{K:Kit}{f:Frame}(h:I8 f.todo):RGf K f:=⟨λops r hm=>h ops r (List.mem_of_mem_tail hm),λ_ ops rest k e=>absurd (by rw[e];exact BZ ..) (h ops rest)⟩
theorem I8.cons{i:Item}{l:List Item}(hi: ∀ops r,i≠ .inRegion ops r)(h:I8 l):I8 (i::l):=λops r hm=>(AA.1 hm).elim (λe=>hi ops r e.symm) (h ops r)
theorem I8.nil:I8 []:=λ_ _ h=>by cases h
structure DF (K:Kit) (T:Twin) (ρ:Rn) (f f':Frame):Prop where
 fn:f'.fn=f.fn
 ok:K.fb f.fn=true/\K.X f.fn=false
 tmps:Ar K.F ρ f.tmps f'.tmps
 todo:Ci (J9 K f.roundOf.isNone (K.fb.lr f.fn) ρ) f.todo f'.todo
 defers:Ci (Ie K.F ρ) f.defers f'.defers
 mode:eH K.F ρ f.mode f'.mode
 kind:f'.kind=f.kind/\(f.kind=.normal\/f.kind=.deferred)
 round:uz ρ f.roundOf f'.roundOf
 nd: ∀d∈f.defers,(K.fb.l=true/\∃b,d.target=.collected b)\/(K.fb.d=true/\∀g q,d.target=.fn (.func g) q->∀n,K.F.a g n)
 rg:RGf K f
structure IB (K:Kit) (T:Twin) (ρ:Rn) (f f':Frame):Prop where
 fr:DF K T ρ f f'
 nc:NC K f
section
variable {K:Kit} {T:Twin} {ρ ρ':Rn} {d r:Bool}
theorem J9.mono(h:ρ.le ρ'){i i':Item}(k:J9 K d r ρ i i'):J9 K d r ρ' i i':=by
 cases k with|code a=>exact .code a|inBlock=>exact .inBlock|inLoop a=>exact .inLoop a|inScope a=>exact .inScope a|inRegion a=>exact .inRegion a|inRangeFunc a=>exact .inRangeFunc (h.r _ _ a)|endRangeFunc a=>exact .endRangeFunc (h.r _ _ a)|beginRound=>exact .beginRound
theorem eH.mono{F:Fs}(h:ρ.le ρ'){i i':FrameMode}(k:eH F ρ i i'):eH F ρ' i i':=by
 cases k with|run=>exact .run|returning=>exact .returning|panicking a=>exact .panicking (CY (λ_ _ x=>⟨x.v.mono h,x.r,x.g,x.u⟩) a)
theorem uz.mono(h:ρ.le ρ'){o o':Option Nat}(k:uz ρ o o'):uz ρ' o o':=by
 cases o<;>cases o'<;>first|exact k.elim|trivial|exact h.r _ _ k
theorem DF.mono(h:ρ.le ρ'){f f':Frame}(k:DF K T ρ f f'):DF K T ρ' f f':=
 ⟨k.fn,k.ok,k.tmps.mono h,CY (λ_ _ x=>x.mono h) k.todo,CY (λ_ _ x=>x.mono' (.refl _) h) k.defers,k.mode.mono h,k.kind,k.round.mono h,k.nd,k.rg⟩
theorem IB.mono(h:ρ.le ρ'){f f':Frame}(k:IB K T ρ f f'):IB K T ρ' f f':=⟨k.fr.mono h,k.nc⟩
theorem DF.ev{f f':Frame}(k:DF K T ρ f f')(hG: ∀g,g<K.G->ρ.r g g):P7 K.F ρ K.fb K.G f.eval f'.eval:=by
 intro x hx
 cases x with|tmp t=>exact k.tmps.getD t|const v=>exact dV hx|global g=>exact .ptr ⟨hG g (by simpa[Hl] using hx),rfl,rfl⟩|func f=>exact .func (by simp only[Hl,BF] at hx;exact hx.1) (by simp only[Hl,BF] at hx;exact hx.2) rfl (λi v v' h=>by simp at h) rfl (λi v v' h=>by simp at h)
theorem J9.findLabel{c:Code}: ∀{l:Nat} {q:Code},JI K.P K.fb K.G d r c=true->Go.findLabel c l=some q->JI K.P K.fb K.G d r q=true:=by
 induction c with
 |seq a b iha ihb=>
  intro l q h e;simp only[JI,BF] at h;simp only[Go.findLabel] at e;split at e
  ·rename_i x hx;(cases e);simp only[JI,BF];exact⟨iha h.1 hx,h.2⟩
  exact ihb h.2 e
 |label l'=>
  intro l q h e;simp only[Go.findLabel] at e;split at e;(cases e;rfl);cases e
 |_=>intro l q h e;simp[Go.findLabel] at e
theorem vC{id:Nat}{k k':List Item}(h:Ci (J9 K d r ρ) k k'):match exitTo id k,exitTo id k' with
  |none,none=>True|some a,some b=>Ci (J9 K d r ρ) a b|_,_=>False:=by
 induction h with
 |nil=>exact trivial|cons hi hl ih=>
  (cases hi<;>simp only[exitTo]<;>first|exact ih|skip);rename_i n;by_cases hn:(n==id)=true;simp only[hn,if_true];exact hl;simp only[hn,if_false,Ak];exact ih
theorem vF{id:Nat}{k k':List Item}(h:Ci (J9 K d r ρ) k k'):match gotoIn id k,gotoIn id k' with
  |none,none=>True|some a,some b=>Ci (J9 K d r ρ) a b|_,_=>False:=by
 induction h with
 |nil=>exact trivial|cons hi hl ih=>
  (cases hi<;>simp only[gotoIn]<;>first|exact ih|skip);rename_i c hc
  cases hf:Go.findLabel c id with|none=>exact ih|some r=>exact .cons (.code (J9.findLabel hc hf)) (.cons (.inScope hc) hl)
theorem pV{id:Nat}: ∀{k l:List Item},I8 k->exitTo id k=some l->I8 l:=by
 intro k
 induction k with
 |nil=>intro l _ e;cases e
 |cons i k ih=>
  intro l h e;have hk:I8 k:=λops r hm=>h ops r (Aj _ hm);(cases i<;>simp only[exitTo] at e<;>first|exact ih hk e|skip);split at e;(cases e;exact hk);exact ih hk e
theorem pW{id:Nat}: ∀{k l:List Item},I8 k->gotoIn id k=some l->I8 l:=by
 intro k
 induction k with
 |nil=>intro l _ e;cases e
 |cons i k ih=>
  intro l h e;have hk:I8 k:=λops r hm=>h ops r (Aj _ hm);(cases i<;>simp only[gotoIn] at e<;>first|exact ih hk e|skip);split at e;(cases e;exact .cons (λ_ _ e=>by cases e) (.cons (λ_ _ e=>by cases e) hk));exact ih hk e
end
end Go.Proofs.YtkkgcebhfghdnaaGreatDoor
