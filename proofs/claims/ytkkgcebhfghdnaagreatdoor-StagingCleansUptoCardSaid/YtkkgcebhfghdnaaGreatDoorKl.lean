/- Part 12 of what that rests on; no condition. -/
import Derived.Test.YtkkgcebhfghdnaaGreatDoorKk
import Derived.Lib.Hide
set_option maxRecDepth 100000
set_option maxHeartbeats 8000000
namespace Go.Proofs.YtkkgcebhfghdnaaGreatDoor
open Go Go.Conc Go.RowKit Go.Conc.Lib Go.ConcX Go.ConcX.Gen
section
variable {C:Cx} {P:Program} (hP:C.P=P) {s:Bool} {kk:Nat} {R:RF C.SR} {Gb:Nat->Prop} {L:List (Nat×Obj)}
 {fn:FuncId} {T:Array Value} {k:List Item} {D:List Deferred} {cs:List Frame} {kd:Bool}
include hP
theorem rQ{f:Operand}{g:FuncId}{q:Array Value}{ps:Array Tmp}{a b:Code}{gf:Func}(hf:ev T f=.func (.func g) #[] q)(hg:P.funcs[g]? =some gf)(hb:gf.body.isNone=false)(hn:(gf.name== "runtime.NumGoroutine")=false)
  (next: ∀d,(∃w,(ow R Gb L).I w/\w.heap.size=d)->PW C (.work s) kk (G (Frame.enter P g (#[.func (.yield (d+1)) #[] #[]]++q) .normal) (fr fn T (.inRangeFunc (d+1)::k) ({target:=.collected d,args:=#[]}::D) none kd::cs))
   (ow R Gb ((d,.deferred (some []))::(d+1,.loop {state:=.ready,pending:=none,fn:=fn,tmps:=T,params:=ps,assign:=a,body:=b,defers:=d})::L))):
  PW C (.work s) kk (G (fr fn T (.code (.rangeFunc f ps a b)::k) D none kd) cs) (ow R Gb L):=by
 refine zx (Cj hP) (λn=>[.deferred (some []),.loop {state:=.ready,pending:=none,fn:=fn,tmps:=T,params:=ps,assign:=a,body:=b,defers:=n}]) (λ_ _=>rfl)
  (λd=>G (Frame.enter P g (#[.func (.yield (d+1)) #[] #[]]++q) .normal) (fr fn T (.inRangeFunc (d+1)::k) ({target:=.collected d,args:=#[]}::D) none kd::cs)) (λw hw'=>?_) rfl λn hn=>?_
 ·rw[AGY hf hg hb hn];congr 1
 have h:=next n hn;simp only[List.length_cons,List.length_nil,Dx,Nat.reduceAdd,List.range,List.range.loop,AL,BC,List.cons_append,List.nil_append];exact h
end
section
variable {C:Cx} (hP:C.P=Tryz.prog) {s:Bool} {kk:Nat} {R:RF C.SR} {Gb:Nat->Prop} {L:List (Nat×Obj)} {cs:List Frame}
include hP
theorem w23{D:Option Addr}{n c:Nat}{sz:Nat}(hsz:1<=sz){Vq:Frame}
  (next: ∀A2 B2,PW C (.work s) kk (G (Vq.finish (.func (.func 119) #[] #[.pointer (some ⟨A2,0,none⟩),.pointer (some ⟨B2,0,none⟩)])) cs) (ow R Gb ((B2,.cells #[.int .i64 (sz:Int)] 3)::(A2,.cells #[.slice D n c] 62)::L))):
  PW C (.work s) kk (G (Frame.enter Tryz.prog 80 #[.slice D n c,.int .i64 (sz:Int)] .normal) (Vq::cs)) (ow R Gb L):=by
 rw[H8 Tryz.func80 rfl];simp only[Tryz.f80,CG,List.length_cons,List.length_nil,Nat.reduceAdd,Nat.reduceSub,DY,Array.replicate_zero,DZ,Df,List.nil_append,List.cons_append];(iterate 2 refine Eu ?_);refine Nk (Cj hP) (λm=>.pointer (some ⟨m,0,none⟩)) (.cells #[.slice D n c] 62) rfl rfl (.inl rfl) (λw hw=>?_) (λw hw=>?_) λA2 hA=>?_
 ·unfold ev;simp[go_sem,execOp,Instr.box]
 ·unfold ev;simp[go_sem,execOp,Instr.box]
 simp only[put];walk_nrm;refine Nk (Cj hP) (λm=>.pointer (some ⟨m,0,none⟩)) (.cells #[.int .i64 (sz:Int)] 3) rfl rfl (.inl rfl) (λw hw=>?_) (λw hw=>?_) λB2 hB=>?_
 ·unfold ev;simp[go_sem,execOp,Instr.box]
 ·unfold ev;simp[go_sem,execOp,Instr.box]
 simp only[put];walk_nrm
 have fB: ∀(w:World),(ow R Gb ((B2,.cells #[.int .i64 (sz:Int)] 3)::(A2,.cells #[.slice D n c] 62)::L)).I w->w.cell? ⟨B2,0,none⟩=some (.int .i64 (sz:Int)):=λw hw=>by
  have h:=hw.1 (B2,.cells #[.int .i64 (sz:Int)] 3) (BZ ..);unfold World.cell?;rw[h];rfl
 have rB:(ow R Gb ((B2,.cells #[.int .i64 (sz:Int)] 3)::(A2,.cells #[.slice D n c] 62)::L)).O B2:=.inr (Dz (BZ ..));(iterate 5 refine Eu ?_);refine D9 (Cj hP) ?_ (hr:=by intro w hw;have f0:=fB w hw;unfold ev;go_simp;exact rfl) (he:=by intro w hw;have f0:=fB w hw;unfold ev;simp[go_sem,f0];exact⟨.inl rB,rfl⟩);refine Eu ?_;(have hlt:decide ((sz:Int)<1)=false:=by simp;omega);simp only[hlt];refine Eu ?_;refine Cc (Cj hP) (λw=>s_cond (b:=false) rfl) rfl ?_;simp only[if_true,Ak,↓reduceIte];(iterate 3 refine Eu ?_);refine D9 (Cj hP) ?_ (he:=by intro w hw;unfold ev;simp[go_sem,Instr.makeFunc]);(iterate 2 refine Eu ?_);refine Cc (Cj hP) (λw=>Nj) rfl ?_;exact JD (Cj hP) Tryz.func80 (λw=>MF (t:=4) rfl w) (next A2 B2)
end
structure ACU (C:Cx) (R:RF C.SR) (xb p1 p2:Nat) (D:Option Addr) (n c sz:Nat):Prop where
 xS:C.SR xb
 s1:C.SR p1
 s2:C.SR p2
 x: ∀w,R.R w->w.cell? ⟨xb,0,none⟩=some (.func (.func 79) #[] #[.pointer (some ⟨p1,0,none⟩),.pointer (some ⟨p2,0,none⟩)])
 c1: ∀w,R.R w->w.cell? ⟨p1,0,none⟩=some (.slice D n c)
 c2: ∀w,R.R w->w.cell? ⟨p2,0,none⟩=some (.int .i64 (sz:Int))
theorem AE4{p:Array Value}{w:World}:(callFunc 80 p).events Tryz.prog w #[]= #[]:=by rfl
section
variable {C:Cx} (hP:C.P=Tryz.prog) {s:Bool} {kk:Nat} {R:RF C.SR} {Gb:Nat->Prop} {L:List (Nat×Obj)} {cs:List Frame}
include hP
theorem APL{xb p1 p2:Nat}{D:Option Addr}{n c sz:Nat}(hS:ACU C R xb p1 p2 D n c sz)(hsz:1<=sz){l1:Nat}{c25:Frame}
  (next: ∀yb A2 B2 d2,(∀z∈L.map Prod.fst,z<d2)->PW C (.work s) kk
   (G (Frame.enter Tryz.prog 119 (#[.func (.yield (d2+1)) #[] #[]]++ #[.pointer (some ⟨A2,0,none⟩),.pointer (some ⟨B2,0,none⟩)]) .normal)
    (fr 79 (fG (.func (.yield l1) #[] #[]) (.pointer (some ⟨p1,0,none⟩)) (.pointer (some ⟨p2,0,none⟩)) yb (.slice D n c) (.int .i64 (sz:Int)) (.func (.func 119) #[] #[.pointer (some ⟨A2,0,none⟩),.pointer (some ⟨B2,0,none⟩)]) undef) [.inRangeFunc (d2+1),.inBlock 0] [{target:=.collected d2,args:=#[]}] none::c25::cs))
   (ow R Gb ((d2,.deferred (some []))::(d2+1,lp 79 Tryz.f79 (fG (.func (.yield l1) #[] #[]) (.pointer (some ⟨p1,0,none⟩)) (.pointer (some ⟨p2,0,none⟩)) yb (.slice D n c) (.int .i64 (sz:Int)) (.func (.func 119) #[] #[.pointer (some ⟨A2,0,none⟩),.pointer (some ⟨B2,0,none⟩)]) undef) d2 LS.ready)
    ::(B2,.cells #[.int .i64 (sz:Int)] 3)::(A2,.cells #[.slice D n c] 62)::(yb,.cells #[.func (.yield l1) #[] #[]] 171)::L))):
  PW C (.work s) kk (G (Frame.enter Tryz.prog 79 (#[.func (.yield l1) #[] #[]]++ #[.pointer (some ⟨p1,0,none⟩),.pointer (some ⟨p2,0,none⟩)]) .normal) (c25::cs)) (ow R Gb L):=by
 rw[H8 Tryz.func79 rfl];simp only[Tryz.f79,CG,List.length_cons,List.length_nil,Nat.reduceAdd,Nat.reduceSub,DY,Array.replicate_zero,DZ,Df,List.nil_append,List.cons_append];(iterate 2 refine Eu ?_);refine Nk (Cj hP) (λm=>.pointer (some ⟨m,0,none⟩)) (.cells #[.func (.yield l1) #[] #[]] 171) rfl rfl (.inl rfl) (λw hw=>?_) (λw hw=>?_) λyb hyb=>?_
 ·unfold ev;simp[go_sem,execOp,Instr.box]
 ·unfold ev;simp[go_sem,execOp,Instr.box]
 simp only[put];walk_nrm;have f1: ∀(w:World),(ow R Gb ((yb,.cells #[.func (.yield l1) #[] #[]] 171)::L)).I w->w.cell? ⟨p1,0,none⟩=some (.slice D n c):=λw hw=>hS.c1 w hw.2;have f2: ∀(w:World),(ow R Gb ((yb,.cells #[.func (.yield l1) #[] #[]] 171)::L)).I w->w.cell? ⟨p2,0,none⟩=some (.int .i64 (sz:Int)):=λw hw=>hS.c2 w hw.2;have r1:=hS.s1;have r2:=hS.s2;(iterate 3 refine Eu ?_);refine D9 (Cj hP) ?_ (hr:=by intro w hw;have f0:=f1 w hw;have f1:=f2 w hw;unfold ev;go_simp;exact rfl) (he:=by intro w hw;have f0:=f1 w hw;have f1:=f2 w hw;unfold ev;simp[go_sem,f0];exact⟨.inr r1,rfl⟩);refine D9 (Cj hP) ?_ (hr:=by intro w hw;have f0:=f1 w hw;have f1:=f2 w hw;unfold ev;go_simp;exact rfl) (he:=by intro w hw;have f0:=f1 w hw;have f1:=f2 w hw;unfold ev;simp[go_sem,f1];exact⟨.inr r2,rfl⟩);refine Qx (Cj hP) (f:=80) (args:=#[.slice D n c,.int .i64 (sz:Int)]) rfl rfl (.inl rfl) (λw hw=>?_) (λw hw=>?_) ?_;rw[FY (op:=_) (f:=80) (vs:=#[.slice D n c,.int .i64 (sz:Int)]) rfl (by simp only[BX,AL,BC];rfl)];rfl;rw[FY (op:=_) (f:=80) (vs:=#[.slice D n c,.int .i64 (sz:Int)]) rfl (by simp only[BX,AL,BC];rfl),AE4];intro e he;simp at he;refine w23 hP hsz λA2 B2=>?_;rw[EE (o:=_) rfl];simp only[put];walk_nrm;(iterate 2 refine Eu ?_);refine rQ hP (g:=119) (q:=#[.pointer (some ⟨A2,0,none⟩),.pointer (some ⟨B2,0,none⟩)]) rfl Tryz.func119 rfl rfl λd2 ⟨w0,hw0,e0⟩=>?_;refine next yb A2 B2 d2 λz hz=>?_;obtain⟨p,hp,rfl⟩:=Ag.1 hz;rw[<- e0];exact (BK.1 (hw0.1 p (Aj _ (Aj _ (Aj _ hp))))).1
end
theorem AM9{α:Type}{a b c d e f g:α}: ∀p,p∈[a,b,c,d,e,f,g]↔p∈[g,b,f,a,c,d,e]:=by
 intro p;simp only[AA,AB,or_false];constructor<;>rintro (h|h|h|h|h|h|h)<;>simp[h]
theorem Zk{P:Program}{T:Array Value}{op:Oper}{g:FuncId}{xs:Array Operand}{ats:Array TypeId}{w:World}(hop:op.op=.defer {callee:=.value (.func g),args:=xs,argTypes:=ats}):(execOp (ev T) op).run P w=.ok (.defer (dcall g (xs.map (ev T)))) w/\(execOp (ev T) op).events P w #[]= #[]:=by
 have ef:ev T (.func g)=.func (.func g) #[] #[]:=rfl;unfold execOp;constructor<;>simp[hop,resolve,Deferred.ofValue,ef,dcall]
theorem Zl{P:Program}{T:Array Value}{op:Oper}{b:Builtin}{xs:Array Operand}{ats:Array TypeId}{w:World}(hop:op.op=.defer {callee:=.builtin b,args:=xs,argTypes:=ats}):(execOp (ev T) op).run P w=.ok (.defer {target:=.builtin b ats op.type (xs.map fun| .const _=>true|_=>false),args:=xs.map (ev T)}) w/\(execOp (ev T) op).events P w #[]= #[]:=by
 unfold execOp;rw[hop];exact⟨rfl,rfl⟩
theorem kR{fn:FuncId}{T:Array Value}{l:Nat}{k:List Item}{D:List Deferred}{v:Value}{kd:Bool}:(fr fn T (.inRangeFunc l::k) D none kd).finish v=fr fn T (.endRangeFunc l::k) D none kd:=rfl
theorem AJe{p:Array Value}{w:World}:stepG Tryz.prog false (born Tryz.prog {target:=.fn (.func 75) p,args:=#[]}) w=.go (G (Frame.enter Tryz.prog 75 p .deferred) [gx]) w #[]:=by
 (have h1:(callFunc 75 p).runT Tryz.prog w #[]=(.ok (.enter 75 p) w,#[]):=by rfl);(have h2:(callFunc 75 p).events Tryz.prog w #[]= #[]:=by rfl);simp[born,stepG,unwind,callDeferred,invoke,h2,GStep.after,seen_none,gx,G];rfl
section
variable {C:Cx} (hP:C.P=Tryz.prog) {R:RF C.SR} (hR:R.Ok) {wg cb xb sb p1 p2:Nat} (hS:ig C R cb sb)
 {l:List UInt8} {sz c:Nat} {D:Option Addr} (hX:ACU C R xb p1 p2 D l.length c sz)
 (hsz:1<=sz) (hle:l.length<=1073741824) (kQ:sz<=9223372036854775807) (hc:l.length<=c) (hDn:D=none->l=[]) (hD:0<l.length->∀d,D=some d->C.SR d.block/\∀w,R.R w->∀j v,(Jc l)[j]? =some v->w.cell? (d.add j)=some v)
 (hcs: ∀k,k*sz<l.length->∀m cap,¬C.SR m->((l.drop (k*sz)).take sz).length<=cap->Ut ((l.drop (k*sz)).take sz).length 5 cap->C.Cs k (.slice (some ⟨m,0,none⟩) ((l.drop (k*sz)).take sz).length cap) m (.cells ((Jc ((l.drop (k*sz)).take sz)).toArray++Array.replicate (cap - ((l.drop (k*sz)).take sz).length) (.int .u8 0)) 5))
 (hN: ∀k,l.length<=k*sz->(∀j,j<k->j*sz<l.length)->k=C.N) (hlive: ∃w,Live C w) (hfw: ∀L,C.FW (ow R (λ_=>False) L)) (hwg:C.wg=wg)
include hP hR hS hX hsz hle kQ hc hDn hD hcs hN hlive hfw hwg
theorem w_all:PW C (.work false) 0 (born Tryz.prog {target:=.fn (.func 75) #[.pointer (some ⟨wg,0,none⟩),.pointer (some ⟨cb,0,none⟩),.pointer (some ⟨xb,0,none⟩),.pointer (some ⟨sb,0,none⟩)],args:=#[]}) (ow R (λ_=>False) []):=by
 have HS:=AQ hS;have HX:=AQ hX;have jC:=AQ hle;have AGX:=AQ kQ;have Hc:=AQ hc;have HDn:=AQ hDn;have HD:=AQ hD;have Hcs:=AQ hcs;have HN:=AQ hN;have Hfw:=AQ hfw;have jB:=AQ hsz;have fc: ∀(w:World),(ow R (λ_=>False) []).I w->w.cell? ⟨cb,0,none⟩=some (.chan (some C.bc)):=λw hw=>hS.cb w hw.2;have fx: ∀(w:World),(ow R (λ_=>False) []).I w->w.cell? ⟨xb,0,none⟩=some (.func (.func 79) #[] #[.pointer (some ⟨p1,0,none⟩),.pointer (some ⟨p2,0,none⟩)]):=λw hw=>hX.x w hw.2;have rc:=hS.cbS;have rx:=hX.xS;clear hS hX hle kQ hc hDn hD hcs hN hfw hsz;subst hwg;refine Cc (Cj hP) (g':=G (Frame.enter Tryz.prog 75 #[.pointer (some ⟨C.wg,0,none⟩),.pointer (some ⟨cb,0,none⟩),.pointer (some ⟨xb,0,none⟩),.pointer (some ⟨sb,0,none⟩)] .deferred) [gx]) (λw=>AJe) rfl ?_;rw[ACT Tryz.func75 rfl];simp only[Tryz.f75,CG,List.length_cons,List.length_nil,Nat.reduceAdd,Nat.reduceSub,DY,Array.replicate_zero,DZ,Df,List.nil_append,List.cons_append];(iterate 2 refine Eu ?_);refine rF (Cj hP) (d:=dcall link.done #[.pointer (some ⟨C.wg,0,none⟩)]) rfl rfl (λw hw=>(Zk (op:=_) rfl).1.trans (by simp only[BX,AL,BC];rfl)) (λw hw=>GN (Zk (op:=_) rfl).2) ?_;simp only[put];walk_nrm;(iterate 3 refine Eu ?_);refine D9 (Cj hP) ?_ (hr:=by intro w hw;have f0:=fc w hw;unfold ev;go_simp;exact rfl) (he:=by intro w hw;have f0:=fc w hw;unfold ev;simp[go_sem,f0];exact⟨.inr rc,rfl⟩);refine rF (Cj hP) (d:=Np C.bc) rfl rfl (λw hw=>(Zl (op:=_) rfl).1.trans (by simp only[BX,AL,BC];rfl)) (λw hw=>GN (Zl (op:=_) rfl).2) ?_;simp only[put];walk_nrm;(iterate 3 refine Eu ?_);refine D9 (Cj hP) ?_ (hr:=by intro w hw;have f0:=fx w hw;unfold ev;go_simp;exact rfl) (he:=by intro w hw;have f0:=fx w hw;unfold ev;simp[go_sem,f0];exact⟨.inr rx,rfl⟩);(iterate 2 refine Eu ?_);refine rQ hP (g:=79) (q:=#[.pointer (some ⟨p1,0,none⟩),.pointer (some ⟨p2,0,none⟩)]) rfl Tryz.func79 rfl rfl λd1 _=>?_;refine APL hP HX.out jB.out λyb A2 B2 d2 hd2=>?_;have hdd:d1≠d2:=Ik (hd2 d1 (BZ ..));obtain⟨W,hW⟩: ∃W:WB,W={l1:=d1+1,l2:=d2+1,d1:=d1,d2:=d2,T1:=fE C.wg cb xb sb C.bc (.func (.func 79) #[] #[.pointer (some ⟨p1,0,none⟩),.pointer (some ⟨p2,0,none⟩)]) undef,T2:=fG (.func (.yield (d1+1)) #[] #[]) (.pointer (some ⟨p1,0,none⟩)) (.pointer (some ⟨p2,0,none⟩)) yb (.slice D l.length c) (.int .i64 (sz:Int)) (.func (.func 119) #[] #[.pointer (some ⟨A2,0,none⟩),.pointer (some ⟨B2,0,none⟩)]) undef,bx:=[(B2,.cells #[.int .i64 (sz:Int)] 3),(A2,.cells #[.slice D l.length c] 62),(yb,.cells #[.func (.yield (d1+1)) #[] #[]] 171)]}:=⟨_,rfl⟩
 have AKD:W.Ok:=by
  refine⟨λp hp=>?_,by rw[hW];exact hdd⟩;rw[hW] at hp;simp only[AA,AB,or_false] at hp;rcases hp with rfl|rfl|rfl<;>exact⟨_,_,_,rfl⟩
 have key:PW C (.work false) 0
   (G (Frame.enter Tryz.prog 119 (#[.func (.yield W.l2) #[] #[]]++ #[.pointer (some ⟨A2,0,none⟩),.pointer (some ⟨B2,0,none⟩)]) .normal)
    [fr 79 W.T2 [.inRangeFunc W.l2,.inBlock 0] [{target:=.collected W.d2,args:=#[]}] none,
     fr 75 W.T1 [.inRangeFunc W.l1,.inBlock 0] [{target:=.collected W.d1,args:=#[]},Np C.bc,dcall link.done #[.pointer (some ⟨C.wg,0,none⟩)]] none true,gx])
   (ow R (λ_=>False) (Lw W [] LS.ready LS.ready)):=by
  (have hA:(A2,Obj.cells #[.slice D l.length c] 62)∈W.bx:=by rw[hW];exact Aj _ (BZ ..));(have hB:(B2,Obj.cells #[.int .i64 (sz:Int)] 3)∈W.bx:=by rw[hW];exact BZ ..);(have hY:(yb,Obj.cells #[.func (.yield W.l1) #[] #[]] 171)∈W.bx:=by rw[hW];exact Aj _ (Aj _ (BZ ..)));(have hT1:W.T1=fE C.wg cb xb sb C.bc (.func (.func 79) #[] #[.pointer (some ⟨p1,0,none⟩),.pointer (some ⟨p2,0,none⟩)]) undef:=by rw[hW]);(have hT2:W.T2=fG (.func (.yield W.l1) #[] #[]) (.pointer (some ⟨p1,0,none⟩)) (.pointer (some ⟨p2,0,none⟩)) yb (.slice D l.length c) (.int .i64 (sz:Int)) (.func (.func 119) #[] #[.pointer (some ⟨A2,0,none⟩),.pointer (some ⟨B2,0,none⟩)]) undef:=by rw[hW]);clear hW;have KA:=AQ hA;have KB:=AQ hB;have KY:=AQ hY;have K1:=AQ hT1;have K2:=AQ hT2;have KW:=AQ AKD;have KR:=AQ hR;clear hA hB hY hT1 hT2 AKD hdd hd2 fc fx
  have go:=w29 hP KR.out KW.out HS.out K1.out K2.out KY.out (cF:=fr 79 W.T2 [.inRangeFunc W.l2,.inBlock 0] [{target:=.collected W.d2,args:=#[]}] none) (cs:=[fr 75 W.T1 [.inRangeFunc W.l1,.inBlock 0] [{target:=.collected W.d1,args:=#[]},Np C.bc,dcall link.done #[.pointer (some ⟨C.wg,0,none⟩)]] none true,gx]) KA.out KB.out jB.out jC.out AGX.out Hc.out HDn.out HD.out Hcs.out HN.out
   (λx hx=>by
    rw[kR]
    exact AAE hP KR.out KW.out hx wgLib (.inr rfl) hlive rfl (.inl rfl) rfl (.inl rfl) (Hfw.out _))
   (λk x hx=>by
    rw[kR]
    exact AAE hP KR.out KW.out hx wgLib (.inl rfl) hlive rfl (.inr rfl) rfl (.inr rfl) (Hfw.out _))
   (l.length+1) 0 0 (KL _) Ac (λj hj=>absurd hj (VP _)) [] (λp hp=>by cases hp)
  have Go:=AQ go;clear go;rw[H8 Tryz.func119 rfl];simp only[Tryz.f119,CG,List.length_cons,List.length_nil,Nat.reduceAdd,Nat.reduceSub,DY,Array.replicate_zero,DZ,Df,List.nil_append,List.cons_append];(iterate 5 refine Eu ?_);refine Cc (Cj hP) (λw=>iY) rfl ?_;exact Go.out ..
 rw[hW] at key;rw[WZ AM9];exact key
end
section
variable {C:Cx} {P:Program} (hP:C.P=P) {Fin:Nat->Goroutine->Own C.SR->Prop} {kk:Nat} {R:RF C.SR} {Gb:Nat->Prop} {L:List (Nat×Obj)}
 {fn:FuncId} {T:Array Value} {k:List Item} {D:List Deferred} {ro:Option Nat} {cs:List Frame} {ops:Array Oper} {i:Nat} {rest:List Nat} {op:Oper} {o:Own C.SR}
include hP
theorem AGb{z:Value}(go:Value->Nat->Obj->Own C.SR)(ho:ops[i]? =some op)(hw:Region.wanted op (yielded ops T)=true)(hd:ro=none\/∀c,op.op≠ .defer c)
  (hr: ∀w,o.I w->(execOp (ev T) op).run P w=.ok (.comm #[rcase C.bc z] true (.recv true)) w) (he: ∀w,o.I w->(execOp (ev T) op).events P w #[]= #[])
  (hO: ∀xv bk ob,C.Cs kk xv bk ob->∀x,(go xv bk ob).O x↔o.O x\/x=bk) (hI: ∀xv bk ob,C.Cs kk xv bk ob->∀w,o.I w->¬o.O bk->w.heap[bk]? =some ob->(go xv bk ob).I w)
  (n1: ∀xv bk ob,C.Cs kk xv bk ob->PM C Fin .work (kk+1) (G (fr fn (put T op.dst (.tuple #[xv,.bool true])) (.inRegion ops rest::k) D ro) cs) (go xv bk ob))
  (n0:kk=C.N->PM C Fin .work kk (G (fr fn (put T op.dst (.tuple #[z,.bool false])) (.inRegion ops rest::k) D ro) cs) o):
  PM C Fin .work kk (G (fr fn T (.inRegion ops (i::rest)::k) D ro) cs) o:=by
 subst hP
 have e: ∀q v b,((G (fr fn T (.inRegion ops (i::rest)::k) D ro) cs).finishComm C.P #[rcase C.bc z] (.recv true) q v b)=G (fr fn (put T op.dst (commResult #[rcase C.bc z] (.recv true) q v b)) (.inRegion ops rest::k) D ro) cs:=λq v b=>by
  unfold Goroutine.finishComm;rw[show (G (fr fn T (.inRegion ops (i::rest)::k) D ro) cs).frame=fr fn T (.inRegion ops (i::rest)::k) D ro from rfl,EE ho];rfl
 (have r1: ∀v b,commResult #[rcase C.bc z] (.recv true) 0 v b=.tuple #[v,.bool b]:=λv b=>by simp[commResult]);refine .recv (z:=z) go rfl rfl (λw hw'=>?_) hO hI (λxv bk ob h=>?_) λh=>?_
 ·rw[ADj ho hw hd (hr w hw'),he w hw'];rfl
 rw[e,r1];exact n1 xv bk ob h;rw[e,r1];exact n0 h
theorem AE5{es:Array Event}(hes:UG C.bs es)(hmw:mayWake P (G (fr fn T (.inRegion ops (i::rest)::k) D ro) cs)=true)(ho:ops[i]? =some op)(hw:Region.wanted op (yielded ops T)=true)(hd:ro=none\/∀c,op.op≠ .defer c)
  (hr: ∀w w',o.I w->Pg w C.bs w'->(execOp (ev T) op).run P w=.ok (.value (.tuple #[])) w'/\seen P fn ((execOp (ev T) op).events P w #[])=es)
  (next:PM C Fin .bD kk (G (fr fn (put T op.dst (.tuple #[])) (.inRegion ops rest::k) D ro) cs) o):
  PM C Fin .work kk (G (fr fn T (.inRegion ops (i::rest)::k) D ro) cs) o:=by
 subst hP;refine .clo rfl rfl hmw hes (λw w' hI hc=>?_) next;rw[WV ho hw hd (hr w w' hI hc).1,(hr w w' hI hc).2]
end
theorem pz{p q:Prop}(n:p)(h:p->q:=by intro n;first|((with_reducible refine Cc (OH hP) (λw=>Jk) ?_ n)<;>rfl)|((with_reducible refine Cc (OH hP) (λw=>s_reg) ?_ n)<;>rfl)|((with_reducible refine Cc (OH hP) (λw=>FX) ?_ n)<;>rfl)|((with_reducible refine Cc (OH hP) (λw=>Pj) ?_ n)<;>rfl)|((with_reducible refine Cc (OH hP) (λw=>KE) ?_ n)<;>rfl)|((with_reducible refine Cc (OH hP) (λw=>NR) ?_ n)<;>rfl)|((with_reducible refine Cc (OH hP) (λw=>Qc) ?_ n)<;>rfl)|((with_reducible refine Cc (OH hP) (λw=>Pm ?_) ?_ n)<;>rfl)|((with_reducible refine Cc (OH hP) (λw=>Pn ?_) ?_ n)<;>rfl)|exact D9 (OH hP) n|exact Cc (OH hP) (λw=>Jk) rfl n|exact Cc (OH hP) (λw=>s_reg) rfl n|exact Cc (OH hP) (λw=>FX) rfl n|exact Cc (OH hP) (λw=>Pj) rfl n|exact Cc (OH hP) (λw=>KE) rfl n|exact Cc (OH hP) (λw=>NR) rfl n|exact Cc (OH hP) (λw=>Qc) rfl n|exact Cc (OH hP) (λw=>Pm rfl) rfl n|exact Cc (OH hP) (λw=>Pn rfl) rfl n):q:=h n
structure Fs.Alike (F F':Fs):Prop where
 v: ∀x,F x->F.v x->F' x/\F'.v x
 c: ∀x,F.c x->F'.c x
 r: ∀x,F.r x->F'.r x
 p:F.p->F'.p
 z:F'.z=F.z
section
variable {F F':Fs} {ρ:Rn} {N:Nat}
theorem Au.alike(h:F.Alike F'){v v':Value}(k:Au F ρ v v'):Au F' ρ v v':=by
 induction k with|flat hf=>exact .flat hf|ptr ha=>exact .ptr ha|slice ha=>exact .slice ha|emp hc=>exact .emp hc|map hb=>exact .map hb|chan hb=>exact .chan hb|tok hc ht hp=>exact .tok hc ht (hp.imp h.p id)|mf hx hm=>exact .mf hx hm|func hf hv h1 _ h2 _ i1 i2=>exact .func (h.v _ hf hv).1 (h.v _ hf hv).2 h1 i1 h2 i2|yield hl=>exact .yield hl|seq hq=>rw[<- h.z];exact .seq hq|iface _ i=>exact .iface i|agg h1 _ i=>exact .agg h1 i|tuple h1 _ i=>exact .tuple h1 i
theorem Ar.alike(h:F.Alike F'){p p':Array Value}(k:Ar F ρ p p'):Ar F' ρ p p':=⟨k.1,λi v v' h1 h2=>(k.2 i v v' h1 h2).alike h⟩
theorem FK.alike(h:F.Alike F'){e e':MapEntry}(k:FK F ρ e e'):FK F' ρ e e':=by
 obtain⟨a1,a2,a3⟩:=k;exact⟨a1.alike h,a2.alike h,a3⟩
theorem GY.alike(h:F.Alike F'){o o':Obj}(k:GY F ρ o o'):GY F' ρ o o':=by
 cases k with|cells hp=>exact .cells (hp.alike h)|map hs he=>exact .map hs λi e e' h1 h2=>(he i e e' h1 h2).alike h|mapIter hb=>exact .mapIter hb|KN=>exact .KN|stringIter=>exact .stringIter|loop k=>exact .loop ⟨k.state,k.pending,k.fn,k.tmps.alike h,k.params,k.few,k.assign,k.body,h.r _ k.okF,h.c _ k.okA,h.c _ k.okB,λj hj=>h.c _ (k.VW j hj),k.defers⟩|deferred=>exact .deferred|J6=>exact .J6|number ha=>exact .number ha|chan=>exact .chan
theorem DD.alike(h:F.Alike F'){v w:World}(k:DD F N ρ v w):DD F' N ρ v w:=
 ⟨k.ok,λa b hab=>let ⟨o,o',h1,h2,h3⟩:=k.obj a b hab;⟨o,o',h1,h2,h3.alike h⟩,k.tok,k.nv,k.nw,k.os,k.seq⟩
end
structure OG {SR:Nat->Prop} (R:RF SR) (ρ:Rn):Prop where
 Qp: ∀a b,ρ.r a b->¬SR b
 sl: ∀w,R.R w->∀s n a b,ρ.q s n a b->∃B,IL w B s n a b/\∀c∈B,SR c
def og {SR:Nat->Prop} (F:Fs) (N:Nat) (R:RF SR) (ρ:Rn) (v:World) (h:OG R ρ):Own SR where
 O:=λb=>∃a,ρ.r a b
 I:=λw=>DD F N ρ v w/\R.R w
 st:=λw w1 hI k hz _ ho=>by
  have hR:=R.st w w1 hI.2 (λb hb=>k b (.inr hb)) hz;refine⟨⟨hI.1.ok,λa b hab=>?_,hI.1.tok,hI.1.nv,Ah hI.1.nw hz,by rw[ho];exact hI.1.os,λs n a b hq=>?_⟩,hR⟩
  ·obtain⟨o,o',h1,h2,h3⟩:=hI.1.obj a b hab;exact⟨o,o',h1,by rw[k b (.inl ⟨a,hab⟩)];exact h2,h3⟩
  obtain⟨B,hB,hc⟩:=h.sl w1 hR s n a b hq;exact⟨B,hB,λc hcB x hx=>h.Qp x c hx (hc c hcB)⟩
section
variable {SR:Nat->Prop} {R:RF SR} {F:Fs} {N:Nat} {ρ ρ1:Rn} {v v0 v1 w w1:World} {es:Array Event}
theorem OG.next(h:OG R ρ)(hR:R.R w)(k:Stp F N ρ ρ1 v w v1 w1 es):OG R ρ1:=by
 refine⟨λa b hab hb=>?_,λw' hw'=>by rw[k.tok.2];exact h.sl w' hw'⟩;rcases (k.new a b).1 hab with x|x;exact h.Qp a b x hb;have:=R.lt w hR b hb;omega
theorem OG.step(h:OG R ρ)(h1:OG R ρ1)(hR:R.R w)(k:Stp F N ρ ρ1 v w v1 w1 es):NG (og F N R ρ v0 h) (og F N R ρ1 v1 h1) w w1 es:=by
 (have hz:w.heap.size<=w1.heap.size:=by have:=k.sv;have:=k.sw;omega);refine⟨⟨k.rel,R.st w w1 hR (λb hb=>k.Q7 b (R.lt w hR b hb) λa hab=>h.Qp a b hab hb) hz⟩,hz,λb=>?_,λb hb hn=>k.Q7 b hb λa hab=>hn ⟨a,hab⟩,k.tw,λe he=>?_⟩
 ·constructor
  ·rintro⟨a,hab⟩;rcases (k.new a b).1 hab with x|x;exact .inl ⟨a,x⟩;have:=k.sw;exact .inr Ac
  rintro (⟨a,hab⟩|x);exact⟨a,k.le.r _ _ hab⟩;have:=k.sw;exact⟨b+v.heap.size - w.heap.size,(k.new _ b).2 (.inr Ac)⟩
 have:=k.evs e he;unfold ZL at this
 cases hl:e.loc with|cell a=>rw[hl] at this;exact .inl this|obj c=>rw[hl] at this;exact this|mark m=>rw[hl] at this;exact this|output=>trivial|_=>rw[hl] at this;exact this.elim
end
section
variable {C:Cx} {Fin:Nat->Goroutine->Own C.SR->Prop} {k:Nat}
theorem ADr{a:Goroutine}{o:Own C.SR}(hr:a.status=.running)(h: ∀w,o.I w->∃g' o' w' es,stepG C.P true a w=.go g' w' es/\NG o o' w w' es/\PM C Fin .work k g' o'):PM C Fin .work k a o:=by
 have h': ∀w:World,∃q:Goroutine×Own C.SR,o.I w->(∃w' es,stepG C.P true a w=.go q.1 w' es/\NG o q.2 w w' es)/\PM C Fin .work k q.1 q.2:=λw=>by
  by_cases hw:o.I w
  ·obtain⟨g',o',w',es,h1,h2,h3⟩:=h w hw;exact⟨(g',o'),λ_=>⟨⟨w',es,h1,h2⟩,h3⟩⟩
  exact⟨(a,o),λx=>absurd x hw⟩
 obtain⟨q,hq⟩:=I5 h';exact .Ph (λw=>(q w).1) (λw=>(q w).2) hr (λw hw=>(hq w hw).1) λw hw=>(hq w hw).2
theorem AGc{K:Kit}{T:Twin}{N:Nat}{Kp:Frame->List Frame->World->Prop}(Bz: ∀f ts v,Kp f ts v->ts=[])(hK:Fits K T N)(hX: ∀f,K.X f=true->∀n,Jp K.fb f n=false)(OA:C.P=T.P)
  (hzz: ∀p k f1 Dj v,p.size<=K.fb.m+2->¬Ev T.v Kp (Frame.enter T.v K.z p k) (f1::Dj) v) {R:RF C.SR} {dr:Frame} {ds:List Frame} {c0:Frame} {cs0:List Frame} (hdr:dr.mode=.run) (hc0:c0.mode=.run) {f:Frame} {Yb:List Frame} {v:World} (hev:Ev T.v Kp f Yb v):
  ND T.v Kp ⟨f,Yb,v⟩->∀{ρ:Rn} {f':Frame} {ts ts':List Frame},Yb=ts++dr::ds->DF K T ρ f f'->Ci (IB K T ρ) ts ts'->(∀g,g<K.G->ρ.r g g)->∀(h:OG R ρ),
   (∀v1 ρ1 x x' (h1:OG R ρ1),Jb T.v Kp ⟨dr.finish x,ds,v1⟩ ⟨f,Yb,v⟩->Au K.F ρ1 x x'->ρ.le ρ1->PM C Fin .work k (G (c0.finish x') cs0) (og K.F N R ρ1 v1 h1))->
   (∀v1 ρ1 (h1:OG R ρ1),Jb T.v Kp ⟨dr,ds,v1⟩ ⟨f,Yb,v⟩->ρ.le ρ1->PM C Fin .work k (G c0 cs0) (og K.F N R ρ1 v1 h1))->
   PM C Fin .work k (G f' (ts'++c0::cs0)) (og K.F N R ρ v h):=by
 induction hev with
 | @stop f Yb v hk=>
  intro _ ρ f' ts ts' e;have:=Bz _ _ _ hk;rw[e] at this;simp at this
 | @step f Yb v Fx Sx Wx hstep hev ih=>
  intro OX ρ f' ts ts' e hf hts hG h cont AGd;subst e;(have hkp: ¬Kp f (ts++dr::ds) v:=λx=>by have:=Bz _ _ _ x;simp at this);refine ADr rfl λw hw=>?_;obtain⟨hW,hR⟩:=hw;have hWd: ∀τ:Nat->Question->Nat,DD K.F N ρ (v.DL τ) w:=λτ=>hW.pre ⟨rfl,rfl⟩ ⟨rfl,rfl⟩;(let τ:Nat->Question->Nat:=λj=>if j<v.drawn then v.tape j else w.tape (w.drawn+(j - v.drawn)));(have hτ: ∀j,j<v.drawn->τ j=v.tape j:=λj hj=>by simp only[τ,hj,if_true]);obtain⟨es,hs⟩:=hstep τ hτ;have hs0:=hs;rw[Dt,List.cons_append] at hs
  have zT:=UC (mn:=true) (dr:=dr) (ds:=ds++[door T.v]) (cs':=c0::cs0) hK (hWd τ) hG hf hts (λg1 v1 es _ i _ q=>by
   show τ (v.drawn+i) q=w.tape (w.drawn+i) q;(have h1: ¬v.drawn+i<v.drawn:=by omega);simp only[τ,h1,if_false]
   congr 2;omega)
  rw[hs] at zT;have hnx:Nx T.v Kp ⟨Fx τ,Sx τ,Wx τ⟩ ⟨f,ts++dr::ds,v⟩:=⟨hkp,τ,hτ,_,hs0⟩;have AAF:=hev τ hτ;rcases zT with ⟨f1,Dj,f1',Gj,ρ1,w1,es',h1,h2,h3,h4,h5⟩|⟨X,p,p',k,f1,Dj,f1',Gj,ρ1,w1,es',hX1,hX',_⟩|⟨c,h1,_,hp,_⟩|⟨_,_,f1,Dj,h1,ch,hm1,hu1⟩|⟨p,k,f1,Dj,_,hp,_,h1⟩
  ·simp only[G,Goroutine.mk.injEq] at h1;obtain⟨r1,r2,_⟩:=h1;(have r2:Sx τ++[door T.v]=(Dj++dr::ds)++[door T.v]:=by rw[r2];simp);have r2:=Dw r2;have hn:=h.next hR h5;refine⟨_,_,w1,es',by rw[OA];exact h2,h.step hn hR h5,?_⟩;exact ih τ hτ (OX.next hnx) r2 (by rw[r1];exact h3) h4 (λg hg=>h5.le.r _ _ (hG g hg)) hn (λv1 ρ2 x x' h1 n1 n2 n3=>cont v1 ρ2 x x' h1 (.cons hnx n1) n2 (h5.le.trans n3)) (λv1 ρ2 h1 n1 n3=>AGd v1 ρ2 h1 (.cons hnx n1) (h5.le.trans n3))
  ·rw[hX _ hX'.1] at hX';cases hX'.2.1
  ·simp only[G,Goroutine.mk.injEq] at h1;obtain⟨r1,r2,_⟩:=h1;have r2:=Dw r2;rw[r1,r2] at hnx AAF;rcases hp c0 cs0 rfl hdr hc0 with ⟨x,x',ρ1,w1,es',e1,e2,e3,e4⟩|⟨ρ1,w1,es',e1,e2,e4⟩|⟨ch,e1,e2⟩
   ·have hn:=h.next hR e4;rw[e1] at hnx;exact⟨_,_,w1,es',by rw[OA];exact e2,h.step hn hR e4,cont _ _ _ _ hn (.one hnx) e3 e4.le⟩
   ·have hn:=h.next hR e4;rw[e1] at hnx;exact⟨_,_,w1,es',by rw[OA];exact e2,h.step hn hR e4,AGd _ _ hn (.one hnx) e4.le⟩
   refine absurd ?_ (OX _ (.one hnx));refine .head (ch:=ch) ?_ e2;show c.mode=_;rw[e1];unfold Frame.raise;rw[hdr]
  ·exfalso;simp only[G,Goroutine.mk.injEq] at h1;obtain⟨r1,r2,_⟩:=h1;subst r1;exact OX _ (.one hnx) (.head hm1 hu1)
  exfalso;simp only[G,Goroutine.mk.injEq] at h1;obtain⟨r1,r2,_⟩:=h1;(have r2:Sx τ++[door T.v]=(f1::(Dj++dr::ds))++[door T.v]:=by rw[r2];simp);have r2:=Dw r2;rw[r1,r2] at AAF;exact hzz _ _ _ _ _ hp AAF
end
noncomputable def F7:Code:=match EH Tryz.f46 with| .seq _ (.seq _ (.seq _ (.seq _ (.seq _ (.seq (.seq _ (.block _ (.loop c))) _)))))=>c|_=>.skip
noncomputable def PD:Code:=match EH Tryz.f46 with| .seq _ (.seq _ (.seq _ (.seq _ (.seq _ (.seq _ c)))))=>c|_=>.skip
noncomputable def Ym:Array Oper:=match F7 with| .seq _ (.seq _ (.block _ (.seq _ (.seq (.seq (.region _ o _) _) _))))=>o|_=>#[]
noncomputable def Yn:Code:=match F7 with| .seq _ (.seq _ (.block _ (.seq _ (.seq (.seq _ c) _))))=>c|_=>.skip
noncomputable def Yo:Code:=match F7 with| .seq _ (.seq _ (.block _ (.seq _ (.seq _ c))))=>c|_=>.skip
section
variable {C:Cx} (hP:C.P=Tryz.prog) {Fin:Nat->Goroutine->Own C.SR->Prop} {k:Nat} {o:Own C.SR} {cs:List Frame}
include hP
theorem AE6(go:Value->Nat->Obj->Own C.SR)(hO: ∀xv bk ob,C.Cs k xv bk ob->∀x,(go xv bk ob).O x↔o.O x\/x=bk)(hI: ∀xv bk ob,C.Cs k xv bk ob->∀w,o.I w->¬o.O bk->w.heap[bk]? =some ob->(go xv bk ob).I w)
  {a0 a1 a2 a3 a4 a5 a6 a7 a8 a9 a10 a11 a12 KF Oa a16 a17 Nq Nr a20 a21 a22 a23 a24 a25 a26 a27 a28:Value} {kt:List Item}
  (n1: ∀xv bk ob,C.Cs k xv bk ob->PM C Fin .work (k+1) (G (fr 46 #[a0,a1,a2,a3,a4,a5,a6,a7,a8,xv,a10,a11,a12,KF,.chan (some C.bc),.tuple #[xv,.bool true],.bool true,xv,a1,xv,a20,a21,a22,a23,a24,a25,a26,a27,a28]
    (.inRegion Ym [2,3]:: .code Yn:: .code Yo:: .inBlock 1:: .inLoop F7:: .inBlock 0::kt) [] none) cs) (go xv bk ob))
  (n0:k=C.N->PM C Fin .work k (G (fr 46 #[a0,a1,a2,a3,a4,a5,a6,a7,a8,a9,a10,a11,a12,KF,.chan (some C.bc),.tuple #[.slice none 0 0,.bool false],.bool false,a17,Nq,Nr,a20,a21,a22,a23,a24,a25,a26,a27,a28] kt [] none) cs) o):
  PM C Fin .work k (G (fr 46 #[a0,a1,a2,a3,a4,a5,a6,a7,a8,a9,a10,a11,a12,KF,.chan (some C.bc),Oa,a16,a17,Nq,Nr,a20,a21,a22,a23,a24,a25,a26,a27,a28] (.code F7:: .inLoop F7:: .inBlock 0::kt) [] none) cs) o:=by
 have N1:=AQ n1;have N0:=AQ n0;have HO:=AQ hO;have HI:=AQ hI;clear n1 n0 hO hI;have el:F7=F7:=rfl
 conv at el=>lhs;simp only[F7,EH,Tryz.f46,Option.getD_some]
 obtain⟨L0,hL0⟩: ∃L0,Item.inLoop F7=Item.inLoop L0/\Go.RowKit.Hid (L0=F7):=⟨F7,rfl,rfl⟩;rw[hL0.1,<- el]
 replace hL0:=hL0.2
 clear el;(iterate 2 refine pz ?_);refine AGb hP (z:=.slice none 0 0) go rfl rfl (.inl rfl) (λw hw=>?_) (λw hw=>?_) HO.out HI.out (λxv bk ob hc=>?_) λhk=>?_
 ·unfold ev;go_simp;try exact rfl
 ·unfold ev;simp[go_sem]
 ·have HC:=AQ hc;clear hc;simp only[put];walk_nrm;(iterate 3 refine pz ?_);refine Cc (OH hP) (λw=>s_cond (b:=true) rfl) rfl ?_;simp only[if_false,Ak,↓reduceIte];(iterate 12 refine pz ?_);have hL:=hL0.out;subst hL;exact N1.out xv bk ob HC.out
 simp only[put];walk_nrm;(iterate 3 refine pz ?_);refine Cc (OH hP) (λw=>s_cond (b:=false) rfl) rfl ?_;simp only[if_true,Ak,↓reduceIte];refine Cc (OH hP) (λw=>s_exit rfl) rfl ?_;exact N0.out hk
end
section
variable {C:Cx} (hP:C.P=Tryz.prog) {Fin:Nat->Goroutine->Own C.SR->Prop} {k:Nat} {o:Own C.SR} {cs:List Frame}
include hP
theorem AE7{e n:Int}{a0 a1 a2 a3 a5 a6 a7 a8 a9 a10 a11 a12 KF Oa a16 a17 Nq Nr a20 a21 a22 a23 a24 a25 a26 a27 a28:Value}{kt:List Item}
  (n1:e=0->PM C Fin .work k (G (fr 46 #[a0,a1,a2,a3,.int .i64 (IntKind.i64.wrap (n+1)),.int .i64 0,a6,a7,a8,a9,a10,a11,a12,KF,.chan (some C.bc),Oa,a16,a17,Nq,Nr,.int .i64 0,.int .i64 0,.bool false,.int .i64 n,.int .i64 (IntKind.i64.wrap (n+1)),a25,a26,a27,a28]
    (.code F7:: .inLoop F7:: .inBlock 0::kt) [] none) cs) o)
  (n0:e≠0->PM C Fin .work k (G (fr 46 #[a0,a1,a2,a3,.int .i64 n,.int .i64 e,a6,a7,a8,a9,a10,a11,a12,KF,.chan (some C.bc),Oa,a16,a17,Nq,Nr,.int .i64 e,.int .i64 e,.bool true,a23,a24,a25,a26,a27,a28] kt [] none) cs) o):
  PM C Fin .work k (G ((fr 46 #[a0,a1,a2,a3,.int .i64 n,a5,a6,a7,a8,a9,a10,a11,a12,KF,.chan (some C.bc),Oa,a16,a17,Nq,Nr,a20,a21,a22,a23,a24,a25,a26,a27,a28]
    (.inRegion Ym [2,3]:: .code Yn:: .code Yo:: .inBlock 1:: .inLoop F7:: .inBlock 0::kt) [] none).finish (.int .i64 e)) cs) o:=by
 have N1:=AQ n1;have N0:=AQ n0;clear n1 n0;have e1:Ym=Ym:=rfl
 conv at e1=>lhs;simp only[Ym,F7,EH,Tryz.f46,Option.getD_some]
 have e2:Yn=Yn:=rfl
 conv at e2=>lhs;simp only[Yn,F7,EH,Tryz.f46,Option.getD_some]
 have e3:Yo=Yo:=rfl
 conv at e3=>lhs;simp only[Yo,F7,EH,Tryz.f46,Option.getD_some]
 rw[<- e1,<- e2,<- e3,EE (o:=_) rfl];clear e1 e2 e3;simp only[put];walk_nrm;by_cases he:e=0
 ·have HN:=N1.out he;subst he;have HN:=AQ HN;clear N1 N0;(iterate 7 refine pz ?_);refine Cc (OH hP) (λw=>s_cond (b:=false) rfl) rfl ?_;simp only[if_true,Ak,↓reduceIte];(iterate 8 refine pz ?_);exact HN.out
 have HN:=AQ (N0.out he);clear N1 N0;(have hb:(e !=0)=true:=by simpa using he);(iterate 7 refine pz ?_);refine Cc (OH hP) (λw=>s_cond (b:=true) rfl) rfl ?_;simp only[if_true,if_false,↓reduceIte];refine Cc (OH hP) (λw=>s_exit rfl) rfl ?_;exact HN.out
end
section
variable {C:Cx} (hP:C.P=Tryz.prog) {Fin:Nat->Goroutine->Own C.SR->Prop} {k:Nat} {o:Own C.SR} {cs:List Frame}
include hP
theorem vX{s:MS}{g g':Goroutine}(hs:s.free=true)(hr:g.status=.running)(hr':g'.status=.running)(h: ∀w,stepG Tryz.prog true g w=.go g' w #[])(next:PM C Fin s k g' o):PM C Fin s k g o:=
 .free (λ_=>g') (λ_=>#[]) hs hr (λw _=>⟨hr',by rw[hP];exact h w,AY⟩) λ_ _=>next
omit hP in
theorem AGe{p:Array Value}{w:World}:(callFunc 77 p).events Tryz.prog w #[]= #[]:=by rfl
noncomputable def Yp:Array Oper:=match PD with| .seq _ (.seq (.region _ o _) _)=>o|_=>#[]
noncomputable def PE:Code:=match PD with| .seq _ (.seq _ c)=>c|_=>.skip
theorem AAG{sb:Nat}(hsb:C.SR sb)(hrd: ∀w,o.I w->w.cell? ⟨sb,0,none⟩=some (.chan (some C.bs)))(hlive: ∃w,Live C w)
  {a0 a1 a2 a3 a4 a5 a6 a9 a10 a11 a12 KF Wh Oa a16 a17 Nq Nr a20 a21 a22 a23 a24 a25 a26 a27 a28:Value}
  (hfin: ∀g,Ze Tryz.prog g (G (fr 46 #[a0,a1,a2,a3,a4,a5,a6,.pointer (some ⟨sb,0,none⟩),.pointer (some ⟨C.wg,0,none⟩),a9,a10,a11,a12,KF,Wh,Oa,a16,a17,Nq,Nr,a20,a21,a22,a23,a24,.chan (some C.bs),.tuple #[],a27,a28] [.inRegion Yp [],.code PE] [] none) cs)->Fin k g o):
  PM C Fin .work k (G (fr 46 #[a0,a1,a2,a3,a4,a5,a6,.pointer (some ⟨sb,0,none⟩),.pointer (some ⟨C.wg,0,none⟩),a9,a10,a11,a12,KF,Wh,Oa,a16,a17,Nq,Nr,a20,a21,a22,a23,a24,a25,a26,a27,a28] [.code PD] [] none) cs) o:=by
 have Hf:=AQ hfin;have Rd:=AQ hrd;clear hfin hrd;have el:PD=PD:=rfl
 conv at el=>lhs;simp only[PD,EH,Tryz.f46,Option.getD_some]
 rw[<- el];clear el;(iterate 2 refine pz ?_);refine D9 (OH hP) ?_ (hr:=by intro w hw;have f0:=Rd.out w hw;unfold ev;go_simp;exact rfl) (he:=by intro w hw;have f0:=Rd.out w hw;unfold ev;simp[go_sem,f0];exact⟨.inr hsb,rfl⟩);refine AE5 hP (es:=#[⟨.obj C.bs,false,true⟩,⟨.obj C.bs,true,true⟩]) (λe he=>by simpa using he) rfl rfl rfl (.inl rfl) (λw w' _ hc=>?_) ?_
 ·obtain⟨s,hs,rfl⟩:=hc;have hr:=run_close_open (P:=Tryz.prog) #[158] 0 hs;have he:=events_close_open (P:=Tryz.prog) (es:=#[]) #[158] 0 hs;rw[UN (op:=_) rfl];simp only[BX,AL,BC];unfold ev;constructor
  ·simp[go_sem,hr]
  simp[go_sem,he,seen]
 simp only[put];walk_nrm;refine vX hP rfl rfl rfl (λw=>FX) ?_;refine vX hP rfl rfl rfl (λw=>Jk) ?_;refine vX hP rfl rfl rfl (λw=>s_reg) ?_;obtain⟨w0,h0⟩:=hlive;refine vX hP (g':=G ((base link.wait).at ⟨#[.pointer (some ⟨C.wg,0,none⟩)]++Array.replicate ((waitFn link).ntmps - 1) undef,[]⟩ [.code (body_wait link)]) (fr 46 #[a0,a1,a2,a3,a4,a5,a6,.pointer (some ⟨sb,0,none⟩),.pointer (some ⟨C.wg,0,none⟩),a9,a10,a11,a12,KF,Wh,Oa,a16,a17,Nq,Nr,a20,a21,a22,a23,a24,.chan (some C.bs),a26,a27,a28] [.inRegion Yp [0],.code PE] [] none::cs)) rfl rfl rfl (λw=>?_) ?_
 ·refine Eq.trans (b:=.go (G (Frame.enter Tryz.prog 77 #[.pointer (some ⟨C.wg,0,none⟩)] .normal) (fr 46 #[a0,a1,a2,a3,a4,a5,a6,.pointer (some ⟨sb,0,none⟩),.pointer (some ⟨C.wg,0,none⟩),a9,a10,a11,a12,KF,Wh,Oa,a16,a17,Nq,Nr,a20,a21,a22,a23,a24,.chan (some C.bs),a26,a27,a28] [.inRegion Yp [0],.code PE] [] none::cs)) w #[]) ?_ rfl;rw[s_call (f:=77) (args:=#[.pointer (some ⟨C.wg,0,none⟩)]) rfl rfl (.inl rfl) (w':=w) (by rw[FY (op:=_) (f:=77) (vs:=#[.pointer (some ⟨C.wg,0,none⟩)]) rfl (by simp only[BX,AL,BC];rfl)];rfl)];rw[FY (op:=_) (f:=77) (vs:=#[.pointer (some ⟨C.wg,0,none⟩)]) rfl (by simp only[BX,AL,BC];rfl),AGe];rfl
 exact ACF wgLib hP h0 (b₀:=fr 46 #[] [] [] none) (a₀:=⟨#[a0,a1,a2,a3,a4,a5,a6,.pointer (some ⟨sb,0,none⟩),.pointer (some ⟨C.wg,0,none⟩),a9,a10,a11,a12,KF,Wh,Oa,a16,a17,Nq,Nr,a20,a21,a22,a23,a24,.chan (some C.bs),a26,a27,a28],[]⟩) (ops₀:=Yp) (i₀:=0) (rest₀:=[]) (k₀:=[.code PE]) (cs:=cs) (λg hg=>Hf.out g hg)
end
open Go.Extern
section
variable {T:Twin} {F:Fs} {N:Nat}
def ACV (T:Twin) (F:Fs) (N:Nat) (f:FuncId):Prop:=∃fn,T.v.funcs[f]? =some fn/\T.P.funcs[f]? =some fn/\fn.body.isNone=true/\(fn.name== "runtime.NumGoroutine")=false/\(Extern.findNext fn).isNone=true/\
  match Extern.find fn with|some e=>Jo T F N e|none=>(fn.name.endsWith ".init" && !fn.name.startsWith "(" && !fn.name.startsWith "gosem.")=false
theorem rowIs{f:FuncId}{fn:Func}(h:T.v.funcs[f]? =Tryz.prog.funcs[f]? /\T.P.funcs[f]? =Tryz.prog.funcs[f]?)(k:Tryz.prog.funcs[f]? =some fn)(k2:(fn.body.isNone && !(fn.name== "runtime.NumGoroutine") && (Extern.findNext fn).isNone)=true){e:Array Value->Sem Value}(k3:Extern.find fn=some e)(k4:Jo T F N e):ACV T F N f:=by
 simp only[BF,Hu] at k2;exact⟨fn,h.1.trans k,h.2.trans k,k2.1.1,k2.1.2,k2.2,by rw[k3];exact k4⟩
theorem ANA{f:FuncId}{fn:Func}(h:T.v.funcs[f]? =Tryz.prog.funcs[f]? /\T.P.funcs[f]? =Tryz.prog.funcs[f]?)(k:Tryz.prog.funcs[f]? =some fn) (k2:(fn.body.isNone && !(fn.name== "runtime.NumGoroutine") && (Extern.findNext fn).isNone && (Extern.find fn).isNone && !(fn.name.endsWith ".init" && !fn.name.startsWith "(" && !fn.name.startsWith "gosem."))=true):ACV T F N f:=by
 rw[BF,BF] at k2;obtain⟨⟨k2,k3⟩,k4⟩:=k2;simp only[BF,Hu] at k2;refine⟨fn,h.1.trans k,h.2.trans k,k2.1.1,k2.1.2,k2.2,?_⟩;(have k3:Extern.find fn=none:=by simpa using k3);rw[k3];rw[Hu] at k4;exact k4
theorem AAH(hv: ∀f,SE.contains f=true->T.v.funcs[f]? =Tryz.prog.funcs[f]? /\T.P.funcs[f]? =Tryz.prog.funcs[f]?)(hN:T.P.globals.size<N)(hb:T.P.bearsPack=false)(hp:F.p->T.p): ∀f,SE.contains f=true->ACV T F N f:=by
 intro f hf;have hm:f∈SE:=Dq.1 hf;have hv:=hv f hf;simp only[SE,AA,AB,or_false] at hm;rcases hm with rfl|rfl|rfl|rfl|rfl|rfl|rfl|rfl|rfl|rfl|rfl|rfl|rfl|rfl;exact rowIs (e:=ReflectliteType.typeOf) hv Tryz.func68 Ap Ap (AAA hN);exact rowIs (e:=(λargs=>ReflectliteValue.unpack (args.getD 0 (.tuple #[])))) hv Tryz.func91 Ap Ap (vU hN);exact rowIs (e:=(ReflectliteValue.methodAny (ReflectliteValue.valueError "reflectlite.Value.Type" 0) λt _ _ _=>ReflectliteType.toType t)) hv Tryz.func92 Ap Ap (iK hN (λ{ρ}=>Ed _ _) λt _ _ _ _ _=>WY hN t);exact rowIs (e:=(ReflectliteValue.method (ReflectliteValue.valueError "reflectlite.Value.IsNil" 0) ReflectliteValue.isNil)) hv Tryz.func93 Ap Ap (Us hN hb (λ{ρ}=>Ed _ _) λt _ _ fl k h=>ACR t fl k h);exact rowIs (e:=MapsClone.clone) hv Tryz.func121 Ap Ap (ACN);exact rowIs (e:=(ReflectliteValue.method (ReflectliteValue.valueError "reflectlite.Value.Elem" 0) ReflectliteValue.elem)) hv Tryz.func126 Ap Ap (Us hN hb (λ{ρ}=>Ed _ _) λt _ _ fl k h=>ACS hp hN t fl k h);exact rowIs (e:=ReflectliteValue.set) hv Tryz.func127 Ap Ap (AGP hN hb);exact ANA hv Tryz.func170 Ap;exact rowIs (e:=(ReflectliteType.abiMethod λt=>do pure (.int .u8 (<- Rtype.kind t)))) hv Tryz.func171 Ap Ap (AGO hN hb λt=>ACQ t);exact rowIs (e:=(ReflectliteValue.method (pure (.int .u8 0)) λ_ _ _ k=>pure (.int .u8 (Int.ofNat k)))) hv Tryz.func187 Ap Ap (Us (z:=pure (.int .u8 0)) (f:=λ_ _ _ k=>pure (.int .u8 (Int.ofNat k))) hN hb (λ{ρ}=>λ_=>Au.flat rfl) λt _ _ fl k h=>λ_=>Au.flat rfl);exact rowIs (e:=(ReflectliteType.relation "AssignableTo" ReflectliteType.assignableTo)) hv Tryz.func190 Ap Ap (YI hN hb _ λu t=>vT hb u t);exact rowIs (e:=(ReflectliteType.method λt=>do Rtype.noPackHeld "Comparable" t;pure (.bool (<- typeInfo t).comparable))) hv Tryz.func191 Ap Ap (fC hN hb λt=>iJ hb t);exact rowIs (e:=(ReflectliteType.method ReflectliteType.elem)) hv Tryz.func192 Ap Ap (fC hN hb λt=>ACO hN hb t);exact rowIs (e:=(ReflectliteType.relation "Implements" ReflectliteType.implements_)) hv Tryz.func193 Ap Ap (YI hN hb _ λu t=>ACP hb u t)
end
theorem kS: ∀f,SE.contains f=true->Ae.funcs[f]? =Tryz.prog.funcs[f]? :=λf hf=>Ai.same (by
 refine⟨?_,?_,?_⟩<;>(rintro rfl;revert hf;decide))
theorem AGf: ∀f,S1.contains f=true->(f==47 || f==46)=false->Ae.funcs[f]? =Tryz.prog.funcs[f]? :=λf hf hx=>Ai.same (by
 simp only[MW,beq_eq_false_iff_ne] at hx
 exact⟨hx.1,hx.2,by rintro rfl;revert hf;decide⟩)
theorem Wi{f:Nat}(h:JC Tryz.prog f=true):JC Ae f=true:=by
 by_cases h1:f=47;subst h1;unfold JC;rw[AAB];rfl;by_cases h2:f=46;subst h2;unfold JC;rw[rH];rfl;by_cases h3:f=79;subst h3;unfold JC;rw[kG];rfl;unfold JC at h⊢;rw[Ai.same ⟨h1,h2,h3⟩];exact h
theorem noPack:Tryz.prog.bearsPack=false:=by kernel_rfl
theorem AGg:Ae.bearsPack=false:=noPack
theorem kT:Tryz.prog.globals.size<2:=by
 (have:Tryz.prog.globals.size=1:=by kernel_rfl);omega
theorem Uu:JC Tryz.prog 79=true:=by kernel_rfl
theorem AGh:Fits K1 T1 2 where
 ops:=λ_=>rfl
 same:=λf hf hx=>AGf f hf hx
 N:=kT
 bodies:={
  z:=⟨Ew (Wi Uu),Ew Uu⟩
  v:=λf hf=>Ew (Wi (CO.1 text1 f (Dq.1 hf)))
  a:=λf hf=>Ew (CO.1 text1 f (Dq.1 hf))
  va:=λ_ f hf n=>by
   (have h:(SV.all λf=>(N9.a f).isNone)=true:=by decide);have h2:=CO.1 h f (Dq.1 hf);show Jp N9 f n=true;unfold Jp;rw[Option.isNone_iff_eq_none.1 h2]
  za:=λn=>rfl
  dk:=λf h p hc=>by
   have hc:some 46=some f:=hc;(cases hc);have h0:Jp N9 46 0=true:=h 0;exact absurd h0 Az
  e:=AAH (λf hf=>⟨kS f hf,rfl⟩) kT noPack (λ_=>trivial)
  m0:=m0}
 body:=λf fn hf hx h c hc=>by
  have h2:=CO.1 ok1 f (Dq.1 hf);have hx:(f==47 || f==46)=false:=hx;rw[<- Bool.or_assoc,hx,Bool.false_or] at h2;exact SQ h2 h hc
 lr:=λ_ f hf=>by
  have hm:f∈SL:=Dq.1 hf;simp only[SL,AA,AB,or_false] at hm;subst hm;exact⟨Az,Az⟩
 xa:=λf hf h=>by
  have:=h 0;change Jp N9 f 0=true at this;unfold Jp at this;have hf:(f==47 || f==46)=true:=hf;simp[N9,hf] at this
 ch:=λf h=>by
  have h:some 47=some f:=h;(cases h);exact⟨Az,Az⟩
theorem okV:(S1.all λf=>XY Ae dR 1 f)=true:=by kernel_rfl
theorem ANB:XY Ae dR 1 79=true:=by kernel_rfl
theorem AGi{f:Nat}(h:dR f=true):S1.contains f=true\/f=79:=by
 have h:(S1.contains f || f==79)=true:=h;simpa only[GH,beq_iff_eq] using h
theorem AKE{f:Nat}(h:dR f=true):JC Ae f=true:=by
 rcases AGi h with h|rfl;exact Wi (CO.1 text1 f (Dq.1 h));exact Wi Uu
theorem fitsV:Fits KV TV 2 where
 ops:=λ_=>rfl
 same:=λf hf hx=>rfl
 N:=kT
 bodies:={
  z:=⟨Ew (Wi Uu),Ew (Wi Uu)⟩
  v:=λf hf=>Ew (AKE hf)
  a:=λf hf=>Ew (AKE hf)
  va:=λ_ f hf n=>rfl
  za:=λn=>rfl
  dk:=λf h p hc=>by cases hc
  e:=AAH (λf hf=>⟨kS f hf,kS f hf⟩) kT AGg (λh=>h.elim)
  m0:=m0}
 body:=λf fn hf hx h c hc=>by
  rcases AGi hf with h2|rfl;exact SQ (CO.1 okV f (Dq.1 h2)) h hc;exact SQ ANB h hc
 lr:=λ_ f hf=>by
  have hm:f∈SL:=Dq.1 hf;simp only[SL,AA,AB,or_false] at hm;subst hm;exact⟨Az,Az⟩
 xa:=λf hf h=>by cases hf
 ch:=λf h=>by cases h
theorem ok2:(S2.all λf=>XY Tryz.prog Qo 1 f)=true:=by kernel_rfl
theorem ANC:((S2++SV).all λf=>JC Tryz.prog f && (S2.contains f== !SV.contains f) && !(f==47 || f==46 || f==79))=true:=by kernel_rfl
theorem ANE{f:Nat}(h:Qo f=true):f∈S2++SV:=by
 have h:(S2.contains f || SV.contains f)=true:=h;rw[AU];exact (Bool.or_eq_true_iff.1 h).imp Dq.1 Dq.1
theorem ACW{f:Nat}(h:Qo f=true):JC Tryz.prog f=true/\(f≠47/\f≠46/\f≠79):=by
 have h2:=CO.1 ANC f (ANE h);simp only[BF,Hu,MW,beq_eq_false_iff_ne] at h2;exact⟨h2.1.1,h2.2.1.1,h2.2.1.2,h2.2.2⟩
theorem ADs{f:Nat}(hf:SV.contains f=true)(n:Nat):Jp Qo f n=false:=by
 have e:Qo.a f=some 1000:=by
  show (if SV.contains f=true then some 1000 else none)=some 1000;rw[if_pos hf]
 unfold Jp;rw[e];simp
theorem ACX:Fits K2 T1 2 where
 ops:=λ_=>rfl
 same:=λf hf hx=>Ai.same (ACW hf).2
 N:=kT
 bodies:={
  z:=⟨Ew (Wi Uu),Ew Uu⟩
  v:=λf hf=>Ew (Wi (ACW hf).1)
  a:=λf hf=>Ew (ACW hf).1
  va:=λh=>by cases h
  za:=λn=>rfl
  dk:=λf h p hc=>by cases hc
  e:=λf hf=>by cases hf
  m0:=m0}
 body:=λf fn hf hx h c hc=>by
  have hx:SV.contains f=false:=hx;have h2:(S2.contains f || SV.contains f)=true:=hf;rw[hx,Bool.or_false] at h2;exact SQ (CO.1 ok2 f (Dq.1 h2)) h hc
 lr:=λh=>by cases h
 xa:=λf hf h=>by
  have:=h 0;change Jp Qo f 0=true at this;rw[ADs hf] at this;cases this
 ch:=λf h=>by cases h
theorem no2: ∀f,K2.X f=true->∀n,Jp K2.fb f n=false:=λf hf n=>ADs hf n
theorem ANF:Qb Tryz.prog K2.fb "Take" =true:=by kernel_rfl
theorem AAI:K1.F.Alike K2.F:=⟨λf _ h=>⟨by show (S2.contains f || SV.contains f)=true;rw[show SV.contains f=true from h];exact Bool.or_true _,h⟩,λ_ h=>h,λ_ h=>h,λh=>h,rfl⟩
theorem AGj:K2.F.Alike K1.F:=⟨λf _ h=>⟨by
 have h2:(SV.all λf=>S1.contains f)=true:=by decide
 exact CO.1 h2 f (Dq.1 h),h⟩,λ_ h=>h,λ_ h=>h,λh=>h,rfl⟩
theorem AJf(fb:Fb)(G:Nat)(op:Op):Va Ae fb G op=Va Tryz.prog fb G op:=rfl
theorem ANG{G:Nat}: ∀{c:Code} {fb:Fb} {d r:Bool},JI Ae fb G d r c=JI Tryz.prog fb G d r c:=by
 intro c
 induction c with
 |region n ops dr=>intro fb d r;simp only[JI,AJf]
 |seq a b ia ib=>intro fb d r;simp only[JI,ia,ib]
 |cond c a b ia ib=>intro fb d r;simp only[JI,ia,ib]
 |block n c ih=>exact ih|loop c ih=>exact ih|scope c ih=>exact ih|rangeFunc f ps a b ia ib=>intro fb d r;simp only[JI,ia,ib]
 |_=>intro _ _ _;rfl
theorem ADt:K1.F.le0 KV.F where
 f:=λx hx=>by show (S1.contains x || x==79)=true;rw[show S1.contains x=true from hx];rfl
 v:=λx hx=>by show (SV.contains x || x==79)=true;rw[show SV.contains x=true from hx];rfl
 c:=λx hx=>⟨ANG.trans hx.1,hx.2⟩
 r:=λx hx=>hx
 z:=rfl
 m:=by decide
 a:=λf n h=>rfl
 d:=λh=>h
 e:=λf h=>h
 h:=λh=>h
section
variable {T:Twin} {F:Fs} {N:Nat} {ρ:Rn}
def QEn (F:Fs):Rn->Next->Next->Prop:=λρ a b=>∃f p p',a=.enter f p/\b=.enter f p'/\F f/\(∀n,F.a f n)/\Ar F ρ p p'
theorem kU(hB:GM T F N){f:FuncId}(hf:F f)(ha: ∀n,F.a f n){p p':Array Value}(hp:Ar F ρ p p'):AX T F N (QEn F) (callFunc f p) ρ (callFunc f p'):=by
 obtain⟨fn,h1,h2,h3⟩:=hB.v f hf;obtain⟨fn',h1',h2',h3'⟩:=hB.a f hf;unfold callFunc;refine CV.bind λρ₁ a b l1 e=>?_;obtain⟨rfl,rfl⟩:=e;simp only[h1,h1',h2,h2',h3,h3',Ak,if_false];exact λ_=>⟨f,p,p',rfl,rfl,hf,ha,hp.mono l1⟩
theorem bQ(hB:GM T F N){fb:Fb}(hfb: ∀f,fb f=true->F f)(hfa: ∀f n,Jp fb f n=true->F.a f n)(hfe: ∀f,fb.e f=false){name:String}(hm:Qb T.P fb name=true){x x':Value}(h:Au F ρ x x'){p p':Array Value}(hp:Ar F ρ p p'):
  AX T F N (QEn F) (callMethod x name p) ρ (callMethod x' name p'):=by
 unfold callMethod
 cases h with
 |flat hf=>cases x<;>first|exact λ_=>trivial|exact Bl (e:=.nilDeref) trivial|exact CU hf
 |iface hv=>
  simp only;refine CV.bind λρ₁ a b l1 e=>?_;obtain⟨rfl,rfl⟩:=e;refine (di hm _ _ (hv.mono l1)).bind λρ₂ q q' l2 hq=>?_;obtain⟨f,r⟩:=q;obtain⟨f',r'⟩:=q';obtain⟨e1,h1,h2⟩:=hq;simp only at e1 h1 h2;subst e1;rcases h1 with h1|h1;exact kU hB (hfb _ h1.1) (λn=>hfa _ _ (by unfold Jp;rw[h1.2])) ((Ar.one h2).append ((hp.mono l1).mono l2));rw[hfe] at h1;cases h1
 |_=>exact λ_=>trivial
end
theorem rU{T:Array Value}{op:Oper}{r:Operand}{name:String}{xs:Array Operand}{ats:Array TypeId}{x:Value}{vs:Array Value}(hop:op.op=.call {callee:=.invoke r name,args:=xs,argTypes:=ats})(hr:ev T r=x)(hx:xs.map (ev T)=vs):execOp (ev T) op=callMethod x name vs:=by
 unfold execOp;simp only[hop,resolve,hr,hx];show invoke (.fn (.method name) #[]) (#[x]++vs)=_;have e:(#[x]++vs)[0]? =some x:=by rw[LC AY];rfl
 have e2:(#[x]++vs).extract 1 (#[x]++vs).size=vs:=by
  rw[Array.extract_append];simp
 unfold invoke;simp only[e,e2]
theorem AE8{SR:Nat->Prop}{F:Fs}{N:Nat}{R:RF SR}{ρ:Rn}{v v':World}{h:OG R ρ}(h1:v'.heap=v.heap)(h2:v'.os=v.os):og F N R ρ v h=og F N R ρ v' h:=by
 have e: ∀w,DD F N ρ v w↔DD F N ρ v' w:=λw=>⟨λk=>k.pre ⟨h1.symm,h2.symm⟩ ⟨rfl,rfl⟩,λk=>k.pre ⟨h1,h2⟩ ⟨rfl,rfl⟩⟩;unfold og;congr 1;funext w;rw[e w]
theorem AE9{SR:Nat->Prop}{F:Fs}{N:Nat}{R:RF SR}{ρ:Rn}{v:World}{h:OG R ρ}{bk:Nat}{p:Array Value}{t:TypeId}(hp: ∀x∈p,flat x=true)(hb: ¬SR bk)(h':OG R (ρ.add v.heap.size bk)){w:World}(hI:(og F N R ρ v h).I w)(hO: ¬(og F N R ρ v h).O bk)(hw:w.heap[bk]? =some (.cells p t)):
  (og F N R (ρ.add v.heap.size bk) {v with heap:=v.heap.push (.cells p t)} h').I w:=by
 obtain⟨hW,hR⟩:=hI;have hO: ∀a,¬ρ.r a bk:=λa hr=>hO ⟨a,hr⟩;have hnb:N<=bk:=Nat.le_of_not_lt λh=>hO _ (hW.ok.hd _ h);have hfr:ρ.jW N v.heap.size bk:=⟨λb hr=>by have:=(hW.dom hr).1;omega,hO,λx hx=>by have:=hW.ADd hx;omega,hW.nv,hnb⟩;refine⟨⟨hW.ok.add hfr,λa b hab=>?_,λa x hx=>?_,(by have:=hW.nv;simp;omega),hW.nw,hW.os,λs n a b hq=>?_⟩,hR⟩
 ·rcases hab with hab|⟨rfl,rfl⟩
  ·obtain⟨o,o',h1,h2,h3⟩:=hW.obj a b hab;refine⟨o,o',?_,h2,h3.mono (Rn.Uc _ _ _)⟩;show (v.heap.push _)[a]? =_;rw[Ey (hW.dom hab).1,<- h1,Ba (hW.dom hab).1]
  exact⟨_,_,by show (v.heap.push _)[v.heap.size]? =_;simp,hw,.cells (Ar.Ud hp)⟩
 ·show (v.heap.push _)[a]? =_;have hlt:=hW.ADd hx;rw[Ey hlt,<- hW.tok a x hx,Ba hlt]
 obtain⟨B,hB,hc⟩:=h.sl w hR s n a b hq;refine⟨B,hB,λc hcB x hx=>?_⟩;rcases hx with hx|⟨_,rfl⟩;exact h.Qp x c hx (hc c hcB);exact hb (hc _ hcB)
theorem OG.chunk{SR:Nat->Prop}{R:RF SR}{ρ:Rn}(h:OG R ρ){n bk:Nat}(hb: ¬SR bk):OG R (ρ.add n bk):=
 ⟨λa b hab=>by
  rcases hab with hab|⟨_,rfl⟩;exact h.Qp a b hab
  exact hb,h.sl⟩
theorem qA{s:ByteArray}{lo sz d:Nat}(hlo:lo<=s.size)(hd:d=min sz (s.size - lo)):Qe (s.extract lo (lo+d))=Jc ((s.data.toList.drop lo).take sz)/\((s.data.toList.drop lo).take sz).length=d:=by
 have hl:s.data.toList.length=s.size:=by rw[Array.length_toList];rfl
 have e:(s.extract lo (lo+d)).data.toList=(s.data.toList.drop lo).take sz:=by
  rw[VQ,VR,List.extract_eq_take_drop];rw[show lo+d - lo=d by omega,hd];rcases QS sz (s.size - lo) with h|h;rw[DK h];rw[Nat.min_eq_right h,Bc (by rw[E8];omega),Bc (by rw[E8];omega)]
 refine⟨by unfold Qe Jc;rw[e],by rw[CB,E8];omega⟩
section
variable {V:Program} {Kp:Frame->List Frame->World->Prop}
theorem Ob{f f1:Frame}{ts Dj:List Frame}{v v1:World}{es:Array Event}(Bz: ∀f ts v,Kp f ts v->ts=[]){c:Frame}(h:Ev V Kp f (c::ts) v)(hs:stepG V true (G f (c::ts++[door V])) v=.go (G f1 (Dj++[door V])) v1 es):Ev V Kp f1 Dj v1:=
 Ev.next (s:=⟨f,c::ts,v⟩) (s':=⟨f1,Dj,v1⟩) h ⟨λx=>(by cases Bz _ _ _ x),v.tape,λ_ _=>rfl,es,hs⟩
theorem Xb{f:Frame}{ts:List Frame}{v u:World}{o:Outcome}{es:Array Event}(Bz: ∀f ts v,Kp f ts v->ts=[]){c:Frame}(h:Ev V Kp f (c::ts) v)(hs:stepG V true (G f (c::ts++[door V])) v=.ended o u es):False:=by
 cases h with
 |stop h=>cases Bz _ _ _ h|step Fx Sx Wx h1 h2=>
  obtain⟨e,h3⟩:=h1 v.tape (λ_ _=>rfl);have:stepG V true (G f (c::ts++[door V])) v=.go (G (Fx v.tape) (Sx v.tape++[door V])) (Wx v.tape) e:=h3;rw[hs] at this;cases this
end
theorem AAJ{Kp:Frame->List Frame->World->Prop}(Bz: ∀f ts v,Kp f ts v->ts=[]): ∀(p:Array Value) (k:CallKind) (f1:Frame) (Dj:List Frame) (v:World),p.size<=4->¬Ev Ae Kp (Frame.enter Ae 79 p k) (f1::Dj) v:=by
 intro p k f1 Dj v hp hev
 have e:Frame.enter Ae 79 p k={fn:=79,tmps:=p++Array.replicate (8 - p.size) undef,todo:=[.code ((Ai.f79).body.getD .skip)],defers:=[],mode:=.run,kind:=k}:=by
  unfold Frame.enter;simp[kG]
 rw[e] at hev;clear e;generalize hT:p++Array.replicate (8 - p.size) undef=T at hev
 have h6:T.getD 6 undef=undef:=by
  rw[<- hT,Eb,Ht Ac,aV];split<;>rfl
 have s1:=Ob Bz hev (by rfl);have s2:=Ob Bz (c:=f1) (ts:=Dj) s1 (by rfl)
 have h7: ∃o u es,stepG Ae true (G {fn:=79,tmps:=T,todo:=[.inRegion #[{dst:=some 7,op:=.binOp .add 3 (.tmp 6) (.const (.int .i64 0)) 3,type:=3,pos:= "",after:=#[],guard:=none}] [0],.code .ret],defers:=[],mode:=.run,kind:=k} (f1::Dj++[door Ae])) v=.ended o u es:=by
  have hx: ∀f:Frame,f.tmps=T->∃why es,(execOp f.eval {dst:=some 7,op:=.binOp .add 3 (.tmp 6) (.const (.int .i64 0)) 3,type:=3,pos:= "",after:=#[],guard:=none}).runT Ae v #[]=(.halt (.stuck why) v,es):=by
   intro f hf;(have e6:f.eval (.tmp 6)=undef:=by show f.tmps.getD 6 undef=undef;rw[hf];exact h6);refine⟨"BinOp: no such operator on these operands",#[],?_⟩;unfold execOp;simp only[e6];rfl
  obtain⟨why,es,hx⟩:=hx {fn:=79,tmps:=T,todo:=[.inRegion #[{dst:=some 7,op:=.binOp .add 3 (.tmp 6) (.const (.int .i64 0)) 3,type:=3,pos:= "",after:=#[],guard:=none}] [0],.code .ret],defers:=[],mode:=.run,kind:=k} rfl;change ∃o u es,stepG.apply Ae true _ _ none (execOp (Frame.eval _) {dst:=some 7,op:=.binOp .add 3 (.tmp 6) (.const (.int .i64 0)) 3,type:=3,pos:= "",after:=#[],guard:=none}) v=.ended o u es;unfold stepG.apply;simp only[if_true,hx];exact⟨_,_,_,rfl⟩
 obtain⟨o,u,es,h7⟩:=h7;exact Xb Bz (c:=f1) (ts:=Dj) s2 h7
end Go.Proofs.YtkkgcebhfghdnaaGreatDoor
