/- Part 12 of what that rests on; no condition. -/
import Derived.Test.YtkkgcebhfghdnaaGreatDoorJk
import Derived.Lib.Hide
set_option maxRecDepth 100000
set_option maxHeartbeats 8000000
open Go.Extern.ReflectliteType renaming assignableTo→Tv, implements_→lF, abiMethod→lH, relation→P6, toType→kz, typeOf→Vy, method→lC, elem→lD
open Go.Extern.ReflectliteValue renaming valueError→Ol, methodAny→AAi, unpack→Tz, method→UB, isNil→Yd, elem→Ye, set→dK
open Array renaming replicate_zero→Lt, replicate→IK
open Go.Goroutine.mk renaming injEq→Gf
open Option renaming getD_some→Dt, none→AB, some→AA
open List renaming length_cons→ES, cons_append→Dj, length_nil→Ha, nil_append→Dy
open Nat renaming reduceAdd→Jn, reduceSub→Lp
open Go.Region renaming wanted→DV
open Go.Frame renaming enter→BV
open Go.stepG renaming apply→Ht
open Go.Sem renaming runT_eq→Ik
open Go renaming callMethod→PZ, Goroutine→Ac, Deferred→EK, callFunc→Ep, Program→BL, FuncId→Bi, execOp→BG, Value→AP, undef→AU, World→AL, Frame→AX, stepG→Ae, Oper→BR
open Go.Instr renaming box→Su
open Go.Obj renaming cells→P7
namespace Go.Proofs.YtkkgcebhfghdnaaGreatDoor
open Go Go.Conc Go.RowKit Go.Conc.Lib Go.ConcX Go.ConcX.Gen
structure AD4 (C:Cx) (R:RF C.SR) (xb p1 p2:Nat) (D:Option Addr) (n c sz:Nat):Prop where
 xS:C.SR xb
 s1:C.SR p1
 s2:C.SR p2
 x: ∀w,R.R w->w.cell? ⟨xb,0,AB⟩=AA (.func (.func 79) #[] #[.pointer (AA ⟨p1,0,AB⟩),.pointer (AA ⟨p2,0,AB⟩)])
 c1: ∀w,R.R w->w.cell? ⟨p1,0,AB⟩=AA (.slice D n c)
 c2: ∀w,R.R w->w.cell? ⟨p2,0,AB⟩=AA (.int .i64 (sz:Int))
theorem AGn{p:Array AP}{w:AL}:(Ep 80 p).events Tryz.prog w #[]= #[]:=by rfl
section
variable {C:Cx} (hP:C.P=Tryz.prog) {s:Bool} {kk:Nat} {R:RF C.SR} {Gb:Nat->Prop} {L:List (Nat×Obj)} {cs:List AX}
include hP
theorem ARq{xb p1 p2:Nat}{D:Option Addr}{n c sz:Nat}(hS:AD4 C R xb p1 p2 D n c sz)(hsz:1<=sz){l1:Nat}{c25:AX}
  (next: ∀yb A2 B2 d2,(∀z∈L.map Prod.fst,z<d2)->PW C (.work s) kk
   (G (BV Tryz.prog 119 (#[.func (.yield (d2+1)) #[] #[]]++ #[.pointer (AA ⟨A2,0,AB⟩),.pointer (AA ⟨B2,0,AB⟩)]) .normal)
    (fr 79 (iT (.func (.yield l1) #[] #[]) (.pointer (AA ⟨p1,0,AB⟩)) (.pointer (AA ⟨p2,0,AB⟩)) yb (.slice D n c) (.int .i64 (sz:Int)) (.func (.func 119) #[] #[.pointer (AA ⟨A2,0,AB⟩),.pointer (AA ⟨B2,0,AB⟩)]) AU) [.inRangeFunc (d2+1),.inBlock 0] [{target:=.collected d2,args:=#[]}] AB::c25::cs))
   (ow R Gb ((d2,.deferred (AA []))::(d2+1,lp 79 Tryz.f79 (iT (.func (.yield l1) #[] #[]) (.pointer (AA ⟨p1,0,AB⟩)) (.pointer (AA ⟨p2,0,AB⟩)) yb (.slice D n c) (.int .i64 (sz:Int)) (.func (.func 119) #[] #[.pointer (AA ⟨A2,0,AB⟩),.pointer (AA ⟨B2,0,AB⟩)]) AU) d2 LS.ready)
    ::(B2,.cells #[.int .i64 (sz:Int)] 3)::(A2,.cells #[.slice D n c] 62)::(yb,.cells #[.func (.yield l1) #[] #[]] 171)::L))):
  PW C (.work s) kk (G (BV Tryz.prog 79 (#[.func (.yield l1) #[] #[]]++ #[.pointer (AA ⟨p1,0,AB⟩),.pointer (AA ⟨p2,0,AB⟩)]) .normal) (c25::cs)) (ow R Gb L):=by
 rw[IM Tryz.func79 rfl];simp only[Tryz.f79,Iq,ES,Ha,Jn,Lp,KE,Lt,KF,KH,Dy,Dj];(iterate 2 refine Fa ?_);refine OO (Ce hP) (λm=>.pointer (AA ⟨m,0,AB⟩)) (.cells #[.func (.yield l1) #[] #[]] 171) rfl rfl (.inl rfl) (λw hw=>?_) (λw hw=>?_) λyb hyb=>?_
 ·unfold ev;simp[go_sem,BG,Su]
 ·unfold ev;simp[go_sem,BG,Su]
 simp only[put];walk_nrm;have f1: ∀(w:AL),(ow R Gb ((yb,.cells #[.func (.yield l1) #[] #[]] 171)::L)).I w->w.cell? ⟨p1,0,AB⟩=AA (.slice D n c):=λw hw=>hS.c1 w hw.2;have f2: ∀(w:AL),(ow R Gb ((yb,.cells #[.func (.yield l1) #[] #[]] 171)::L)).I w->w.cell? ⟨p2,0,AB⟩=AA (.int .i64 (sz:Int)):=λw hw=>hS.c2 w hw.2;have r1:=hS.s1;have r2:=hS.s2;(iterate 3 refine Fa ?_);refine EC (Ce hP) ?_ (hr:=by intro w hw;have f0:=f1 w hw;have f1:=f2 w hw;unfold ev;go_simp;exact rfl) (he:=by intro w hw;have f0:=f1 w hw;have f1:=f2 w hw;unfold ev;simp[go_sem,f0];exact⟨.inr r1,rfl⟩);refine EC (Ce hP) ?_ (hr:=by intro w hw;have f0:=f1 w hw;have f1:=f2 w hw;unfold ev;go_simp;exact rfl) (he:=by intro w hw;have f0:=f1 w hw;have f1:=f2 w hw;unfold ev;simp[go_sem,f1];exact⟨.inr r2,rfl⟩);refine RX (Ce hP) (f:=80) (args:=#[.slice D n c,.int .i64 (sz:Int)]) rfl rfl (.inl rfl) (λw hw=>?_) (λw hw=>?_) ?_;rw[F9 (op:=_) (f:=80) (vs:=#[.slice D n c,.int .i64 (sz:Int)]) rfl WX];rfl;rw[F9 (op:=_) (f:=80) (vs:=#[.slice D n c,.int .i64 (sz:Int)]) rfl WX,AGn];intro e he;simp at he;refine w23 hP hsz λA2 B2=>?_;rw[EH (o:=_) rfl];simp only[put];walk_nrm;(iterate 2 refine Fa ?_);refine uy hP (g:=119) (q:=#[.pointer (AA ⟨A2,0,AB⟩),.pointer (AA ⟨B2,0,AB⟩)]) rfl Tryz.func119 rfl rfl λd2 ⟨w0,hw0,e0⟩=>?_;refine next yb A2 B2 d2 λz hz=>?_;obtain⟨p,hp,rfl⟩:=Bz.1 hz;rw[<- e0];exact (Df.1 (hw0.1 p (CO _ (CO _ (CO _ hp))))).1
end
section
variable {xs:Array Operand}{ats:Array TypeId}{T:Array AP}{op:BR}{P:BL}{w:AL}
theorem APd{α:Type}{a b c d e f g:α}: ∀p,p∈[a,b,c,d,e,f,g]↔p∈[g,b,f,a,c,d,e]:=by
 intro p;simp only[BB,BC,or_false];constructor<;>rintro (h|h|h|h|h|h|h)<;>simp[h]
theorem au{g:Bi}(hop:op.op=.defer {callee:=.value (.func g),args:=xs,argTypes:=ats}):(BG (ev T) op).run P w=.ok (.defer (dcall g (xs.map (ev T)))) w/\(BG (ev T) op).events P w #[]= #[]:=by
 have ef:ev T (.func g)=.func (.func g) #[] #[]:=rfl;unfold BG;constructor<;>simp[hop,resolve,Deferred.ofValue,ef,dcall]
theorem ax{b:Builtin}(hop:op.op=.defer {callee:=.builtin b,args:=xs,argTypes:=ats}):(BG (ev T) op).run P w=.ok (.defer {target:=.builtin b ats op.type (xs.map fun| .const _=>true|_=>false),args:=xs.map (ev T)}) w/\(BG (ev T) op).events P w #[]= #[]:=by
 unfold BG;rw[hop];exact⟨rfl,rfl⟩
theorem nY{fn:Bi}{l:Nat}{k:List Item}{D:List EK}{v:AP}{kd:Bool}:(fr fn T (.inRangeFunc l::k) D AB kd).finish v=fr fn T (.endRangeFunc l::k) D AB kd:=rfl
theorem ALr{p:Array AP}:Ae Tryz.prog false (born Tryz.prog {target:=.fn (.func 75) p,args:=#[]}) w=.go (G (BV Tryz.prog 75 p .deferred) [gx]) w #[]:=by
 (have h1:(Ep 75 p).runT Tryz.prog w #[]=(.ok (.enter 75 p) w,#[]):=by rfl);(have h2:(Ep 75 p).events Tryz.prog w #[]= #[]:=by rfl);simp[born,Ae,unwind,callDeferred,invoke,h2,GStep.after,seen_none,gx,G];rfl
section
variable {C:Cx} (hP:C.P=Tryz.prog) {R:RF C.SR} (hR:R.Ok) {wg cb xb sb p1 p2:Nat} (hS:kU C R cb sb)
 {l:List UInt8} {sz c:Nat} {D:Option Addr} (hX:AD4 C R xb p1 p2 D l.length c sz)
 (hsz:1<=sz) (hle:l.length<=1073741824) (nX:sz<=9223372036854775807) (hc:l.length<=c) (hDn:D=AB->l=[]) (hD:0<l.length->∀d,D=AA d->C.SR d.block/\∀w,R.R w->∀j v,(Jr l)[j]? =AA v->w.cell? (d.add j)=AA v)
 (hcs: ∀k,k*sz<l.length->∀m cap,¬C.SR m->((l.drop (k*sz)).take sz).length<=cap->VO ((l.drop (k*sz)).take sz).length 5 cap->C.Cs k (.slice (AA ⟨m,0,AB⟩) ((l.drop (k*sz)).take sz).length cap) m (.cells ((Jr ((l.drop (k*sz)).take sz)).toArray++IK (cap - ((l.drop (k*sz)).take sz).length) (.int .u8 0)) 5))
 (hN: ∀k,l.length<=k*sz->(∀j,j<k->j*sz<l.length)->k=C.N) (hlive: ∃w,Live C w) (hfw: ∀L,C.FW (ow R (λ_=>False) L)) (hwg:C.wg=wg)
include hP hR hS hX hsz hle nX hc hDn hD hcs hN hlive hfw hwg
theorem w_all:PW C (.work false) 0 (born Tryz.prog {target:=.fn (.func 75) #[.pointer (AA ⟨wg,0,AB⟩),.pointer (AA ⟨cb,0,AB⟩),.pointer (AA ⟨xb,0,AB⟩),.pointer (AA ⟨sb,0,AB⟩)],args:=#[]}) (ow R (λ_=>False) []):=by
 have HS:=AQ hS;have HX:=AQ hX;have Hle:=AQ hle;have AIU:=AQ nX;have Hc:=AQ hc;have HDn:=AQ hDn;have HD:=AQ hD;have Hcs:=AQ hcs;have HN:=AQ hN;have Hfw:=AQ hfw;have Hsz:=AQ hsz;have fc: ∀(w:AL),(ow R (λ_=>False) []).I w->w.cell? ⟨cb,0,AB⟩=AA (.chan (AA C.bc)):=λw hw=>hS.cb w hw.2;have fx: ∀(w:AL),(ow R (λ_=>False) []).I w->w.cell? ⟨xb,0,AB⟩=AA (.func (.func 79) #[] #[.pointer (AA ⟨p1,0,AB⟩),.pointer (AA ⟨p2,0,AB⟩)]):=λw hw=>hX.x w hw.2;have rc:=hS.cbS;have rx:=hX.xS;clear hS hX hle nX hc hDn hD hcs hN hfw hsz;subst hwg;refine CZ (Ce hP) (g':=G (BV Tryz.prog 75 #[.pointer (AA ⟨C.wg,0,AB⟩),.pointer (AA ⟨cb,0,AB⟩),.pointer (AA ⟨xb,0,AB⟩),.pointer (AA ⟨sb,0,AB⟩)] .deferred) [gx]) (λw=>ALr) rfl ?_;rw[AD3 Tryz.func75 rfl];simp only[Tryz.f75,Iq,ES,Ha,Jn,Lp,KE,Lt,KF,KH,Dy,Dj];(iterate 2 refine Fa ?_);refine uk (Ce hP) (d:=dcall link.done #[.pointer (AA ⟨C.wg,0,AB⟩)]) rfl rfl (λw hw=>(au (op:=_) rfl).1.trans WX) (λw hw=>Gq (au (op:=_) rfl).2) ?_;simp only[put];walk_nrm;(iterate 3 refine Fa ?_);refine EC (Ce hP) ?_ (hr:=by intro w hw;have f0:=fc w hw;unfold ev;go_simp;exact rfl) (he:=by intro w hw;have f0:=fc w hw;unfold ev;simp[go_sem,f0];exact⟨.inr rc,rfl⟩);refine uk (Ce hP) (d:=OT C.bc) rfl rfl (λw hw=>(ax (op:=_) rfl).1.trans WX) (λw hw=>Gq (ax (op:=_) rfl).2) ?_;simp only[put];walk_nrm;(iterate 3 refine Fa ?_);refine EC (Ce hP) ?_ (hr:=by intro w hw;have f0:=fx w hw;unfold ev;go_simp;exact rfl) (he:=by intro w hw;have f0:=fx w hw;unfold ev;simp[go_sem,f0];exact⟨.inr rx,rfl⟩);(iterate 2 refine Fa ?_);refine uy hP (g:=79) (q:=#[.pointer (AA ⟨p1,0,AB⟩),.pointer (AA ⟨p2,0,AB⟩)]) rfl Tryz.func79 rfl rfl λd1 _=>?_;refine ARq hP HX.out Hsz.out λyb A2 B2 d2 hd2=>?_;have hdd:d1≠d2:=aA (hd2 d1 (D9 ..));obtain⟨W,hW⟩: ∃W:WB,W={l1:=d1+1,l2:=d2+1,d1:=d1,d2:=d2,T1:=iQ C.wg cb xb sb C.bc (.func (.func 79) #[] #[.pointer (AA ⟨p1,0,AB⟩),.pointer (AA ⟨p2,0,AB⟩)]) AU,T2:=iT (.func (.yield (d1+1)) #[] #[]) (.pointer (AA ⟨p1,0,AB⟩)) (.pointer (AA ⟨p2,0,AB⟩)) yb (.slice D l.length c) (.int .i64 (sz:Int)) (.func (.func 119) #[] #[.pointer (AA ⟨A2,0,AB⟩),.pointer (AA ⟨B2,0,AB⟩)]) AU,bx:=[(B2,.cells #[.int .i64 (sz:Int)] 3),(A2,.cells #[.slice D l.length c] 62),(yb,.cells #[.func (.yield (d1+1)) #[] #[]] 171)]}:=⟨_,rfl⟩
 have AMT:W.Ok:=by
  refine⟨λp hp=>?_,by rw[hW];exact hdd⟩;rw[hW] at hp;simp only[BB,BC,or_false] at hp;rcases hp with rfl|rfl|rfl<;>exact⟨_,_,_,rfl⟩
 have key:PW C (.work false) 0
   (G (BV Tryz.prog 119 (#[.func (.yield W.l2) #[] #[]]++ #[.pointer (AA ⟨A2,0,AB⟩),.pointer (AA ⟨B2,0,AB⟩)]) .normal)
    [fr 79 W.T2 [.inRangeFunc W.l2,.inBlock 0] [{target:=.collected W.d2,args:=#[]}] AB,
     fr 75 W.T1 [.inRangeFunc W.l1,.inBlock 0] [{target:=.collected W.d1,args:=#[]},OT C.bc,dcall link.done #[.pointer (AA ⟨C.wg,0,AB⟩)]] AB true,gx])
   (ow R (λ_=>False) (Lw W [] LS.ready LS.ready)):=by
  (have hA:(A2,P7 #[.slice D l.length c] 62)∈W.bx:=by rw[hW];exact CO _ (D9 ..));(have hB:(B2,P7 #[.int .i64 (sz:Int)] 3)∈W.bx:=by rw[hW];exact D9 ..);(have hY:(yb,P7 #[.func (.yield W.l1) #[] #[]] 171)∈W.bx:=by rw[hW];exact CO _ (CO _ (D9 ..)));(have hT1:W.T1=iQ C.wg cb xb sb C.bc (.func (.func 79) #[] #[.pointer (AA ⟨p1,0,AB⟩),.pointer (AA ⟨p2,0,AB⟩)]) AU:=by rw[hW]);(have hT2:W.T2=iT (.func (.yield W.l1) #[] #[]) (.pointer (AA ⟨p1,0,AB⟩)) (.pointer (AA ⟨p2,0,AB⟩)) yb (.slice D l.length c) (.int .i64 (sz:Int)) (.func (.func 119) #[] #[.pointer (AA ⟨A2,0,AB⟩),.pointer (AA ⟨B2,0,AB⟩)]) AU:=by rw[hW]);clear hW;have KA:=AQ hA;have KB:=AQ hB;have KY:=AQ hY;have K1:=AQ hT1;have K2:=AQ hT2;have KW:=AQ AMT;have KR:=AQ hR;clear hA hB hY hT1 hT2 AMT hdd hd2 fc fx
  have go:=w29 hP KR.out KW.out HS.out K1.out K2.out KY.out (cF:=fr 79 W.T2 [.inRangeFunc W.l2,.inBlock 0] [{target:=.collected W.d2,args:=#[]}] AB) (cs:=[fr 75 W.T1 [.inRangeFunc W.l1,.inBlock 0] [{target:=.collected W.d1,args:=#[]},OT C.bc,dcall link.done #[.pointer (AA ⟨C.wg,0,AB⟩)]] AB true,gx]) KA.out KB.out Hsz.out Hle.out AIU.out Hc.out HDn.out HD.out Hcs.out HN.out
   (λx hx=>by
    rw[nY]
    exact ABa hP KR.out KW.out hx wgLib (.inr rfl) hlive rfl (.inl rfl) rfl (.inl rfl) (Hfw.out _))
   (λk x hx=>by
    rw[nY]
    exact ABa hP KR.out KW.out hx wgLib (.inl rfl) hlive rfl (.inr rfl) rfl (.inr rfl) (Hfw.out _))
   (l.length+1) 0 0 (lQ _) Ad (λj hj=>Ai hj (xk _)) [] (λp hp=>by cases hp)
  have Go:=AQ go;clear go;rw[IM Tryz.func119 rfl];simp only[Tryz.f119,Iq,ES,Ha,Jn,Lp,KE,Lt,KF,KH,Dy,Dj];(iterate 5 refine Fa ?_);refine CZ (Ce hP) (λw=>kS) rfl ?_;exact Go.out ..
 rw[hW] at key;rw[XQ APd];exact key
end
end
section
variable {C:Cx} {P:BL} (hP:C.P=P) {Fin:Nat->Ac->Own C.SR->Prop} {kk:Nat} {R:RF C.SR} {Gb:Nat->Prop} {L:List (Nat×Obj)}
 {fn:Bi} {T:Array AP} {k:List Item} {D:List EK} {ro:Option Nat} {cs:List AX} {ops:Array BR} {i:Nat} {rest:List Nat} {op:BR} {o:Own C.SR}
include hP
theorem AIY{z:AP}(go:AP->Nat->Obj->Own C.SR)(ho:ops[i]? =AA op)(hw:DV op (yielded ops T)=true)(hd:ro=AB\/∀c,op.op≠ .defer c)
  (hr: ∀w,o.I w->(BG (ev T) op).run P w=.ok (.comm #[rcase C.bc z] true (.recv true)) w) (he: ∀w,o.I w->(BG (ev T) op).events P w #[]= #[])
  (hO: ∀xv bk ob,C.Cs kk xv bk ob->∀x,(go xv bk ob).O x↔o.O x\/x=bk) (hI: ∀xv bk ob,C.Cs kk xv bk ob->∀w,o.I w->¬o.O bk->w.heap[bk]? =AA ob->(go xv bk ob).I w)
  (n1: ∀xv bk ob,C.Cs kk xv bk ob->PM C Fin .work (kk+1) (G (fr fn (put T op.dst (.tuple #[xv,.bool true])) (.inRegion ops rest::k) D ro) cs) (go xv bk ob))
  (n0:kk=C.N->PM C Fin .work kk (G (fr fn (put T op.dst (.tuple #[z,.bool false])) (.inRegion ops rest::k) D ro) cs) o):
  PM C Fin .work kk (G (fr fn T (.inRegion ops (i::rest)::k) D ro) cs) o:=by
 subst hP
 have e: ∀q v b,((G (fr fn T (.inRegion ops (i::rest)::k) D ro) cs).finishComm C.P #[rcase C.bc z] (.recv true) q v b)=G (fr fn (put T op.dst (commResult #[rcase C.bc z] (.recv true) q v b)) (.inRegion ops rest::k) D ro) cs:=λq v b=>by
  unfold Goroutine.finishComm;rw[show (G (fr fn T (.inRegion ops (i::rest)::k) D ro) cs).frame=fr fn T (.inRegion ops (i::rest)::k) D ro from rfl,EH ho];rfl
 (have r1: ∀v b,commResult #[rcase C.bc z] (.recv true) 0 v b=.tuple #[v,.bool b]:=λv b=>by simp[commResult]);refine .recv (z:=z) go rfl rfl (λw hw'=>?_) hO hI (λxv bk ob h=>?_) λh=>?_
 ·rw[AFU ho hw hd (hr w hw'),he w hw'];rfl
 rw[e,r1];exact n1 xv bk ob h;rw[e,r1];exact n0 h
theorem AGo{es:Array Event}(hes:Uk C.bs es)(hmw:mayWake P (G (fr fn T (.inRegion ops (i::rest)::k) D ro) cs)=true)(ho:ops[i]? =AA op)(hw:DV op (yielded ops T)=true)(hd:ro=AB\/∀c,op.op≠ .defer c)
  (hr: ∀w w',o.I w->QF w C.bs w'->(BG (ev T) op).run P w=.ok (.value (.tuple #[])) w'/\seen P fn ((BG (ev T) op).events P w #[])=es)
  (next:PM C Fin .dh kk (G (fr fn (put T op.dst (.tuple #[])) (.inRegion ops rest::k) D ro) cs) o):
  PM C Fin .work kk (G (fr fn T (.inRegion ops (i::rest)::k) D ro) cs) o:=by
 subst hP;refine .clo rfl rfl hmw hes (λw w' hI hc=>?_) next;rw[XM ho hw hd (hr w w' hI hc).1,(hr w w' hI hc).2]
end
theorem tK{p q:Prop}(n:p)(h:p->q:=by intro n;first|((with_reducible refine CZ (Ot hP) (λw=>J5) ?_ n)<;>rfl)|((with_reducible refine CZ (Ot hP) (λw=>s_reg) ?_ n)<;>rfl)|((with_reducible refine CZ (Ot hP) (λw=>F8) ?_ n)<;>rfl)|((with_reducible refine CZ (Ot hP) (λw=>QH) ?_ n)<;>rfl)|((with_reducible refine CZ (Ot hP) (λw=>LC) ?_ n)<;>rfl)|((with_reducible refine CZ (Ot hP) (λw=>Np) ?_ n)<;>rfl)|((with_reducible refine CZ (Ot hP) (λw=>Q5) ?_ n)<;>rfl)|((with_reducible refine CZ (Ot hP) (λw=>QI ?_) ?_ n)<;>rfl)|((with_reducible refine CZ (Ot hP) (λw=>QJ ?_) ?_ n)<;>rfl)|exact EC (Ot hP) n|exact CZ (Ot hP) (λw=>J5) rfl n|exact CZ (Ot hP) (λw=>s_reg) rfl n|exact CZ (Ot hP) (λw=>F8) rfl n|exact CZ (Ot hP) (λw=>QH) rfl n|exact CZ (Ot hP) (λw=>LC) rfl n|exact CZ (Ot hP) (λw=>Np) rfl n|exact CZ (Ot hP) (λw=>Q5) rfl n|exact CZ (Ot hP) (λw=>QI rfl) rfl n|exact CZ (Ot hP) (λw=>QJ rfl) rfl n):q:=h n
structure Fs.Alike (F F':Fs):Prop where
 v: ∀x,F x->F.v x->F' x/\F'.v x
 c: ∀x,F.c x->F'.c x
 r: ∀x,F.r x->F'.r x
 p:F.p->F'.p
 z:F'.z=F.z
section
variable {F F':Fs} {ρ:Rn} {N:Nat}
theorem Az.alike(h:F.Alike F'){v v':AP}(k:Az F ρ v v'):Az F' ρ v v':=by
 induction k with|flat hf=>exact .flat hf|ptr ha=>exact .ptr ha|slice ha=>exact .slice ha|emp hc=>exact .emp hc|map hb=>exact .map hb|chan hb=>exact .chan hb|tok hc ht hp=>exact .tok hc ht (hp.imp h.p id)|mf hx hm=>exact .mf hx hm|func hf hv h1 _ h2 _ i1 i2=>exact .func (h.v _ hf hv).1 (h.v _ hf hv).2 h1 i1 h2 i2|yield hl=>exact .yield hl|seq hq=>rw[<- h.z];exact .seq hq|iface _ i=>exact .iface i|agg h1 _ i=>exact .agg h1 i|tuple h1 _ i=>exact .tuple h1 i
theorem Au.alike(h:F.Alike F'){p p':Array AP}(k:Au F ρ p p'):Au F' ρ p p':=⟨k.1,λi v v' h1 h2=>(k.2 i v v' h1 h2).alike h⟩
theorem Fp.alike(h:F.Alike F'){e e':MapEntry}(k:Fp F ρ e e'):Fp F' ρ e e':=by
 obtain⟨a1,a2,a3⟩:=k;exact⟨a1.alike h,a2.alike h,a3⟩
theorem Gs.alike(h:F.Alike F'){o o':Obj}(k:Gs F ρ o o'):Gs F' ρ o o':=by
 cases k with|cells hp=>exact .cells (hp.alike h)|map hs he=>exact .map hs λi e e' h1 h2=>(he i e e' h1 h2).alike h|mapIter hb=>exact .mapIter hb|LQ=>exact .LQ|stringIter=>exact .stringIter|loop k=>exact .loop ⟨k.state,k.pending,k.fn,k.tmps.alike h,k.params,k.few,k.assign,k.body,h.r _ k.okF,h.c _ k.okA,h.c _ k.okB,λj hj=>h.c _ (k.okJ j hj),k.defers⟩|deferred=>exact .deferred|Kt=>exact .Kt|number ha=>exact .number ha|chan=>exact .chan
theorem DD.alike(h:F.Alike F'){v w:AL}(k:DD F N ρ v w):DD F' N ρ v w:=
 ⟨k.ok,λa b hab=>let ⟨o,o',h1,h2,h3⟩:=k.obj a b hab;⟨o,o',h1,h2,h3.alike h⟩,k.tok,k.nv,k.nw,k.os,k.seq⟩
end
structure OG {SR:Nat->Prop} (R:RF SR) (ρ:Rn):Prop where
 dis: ∀a b,ρ.r a b->¬SR b
 sl: ∀w,R.R w->∀s n a b,ρ.q s n a b->∃B,Ij w B s n a b/\∀c∈B,SR c
def og {SR:Nat->Prop} (F:Fs) (N:Nat) (R:RF SR) (ρ:Rn) (v:AL) (h:OG R ρ):Own SR where
 O:=λb=>∃a,ρ.r a b
 I:=λw=>DD F N ρ v w/\R.R w
 st:=λw w1 hI k hz _ ho=>by
  have hR:=R.st w w1 hI.2 (λb hb=>k b (.inr hb)) hz;refine⟨⟨hI.1.ok,λa b hab=>?_,hI.1.tok,hI.1.nv,Ci hI.1.nw hz,by rw[ho];exact hI.1.os,λs n a b hq=>?_⟩,hR⟩
  ·obtain⟨o,o',h1,h2,h3⟩:=hI.1.obj a b hab;exact⟨o,o',h1,by rw[k b (.inl ⟨a,hab⟩)];exact h2,h3⟩
  obtain⟨B,hB,hc⟩:=h.sl w1 hR s n a b hq;exact⟨B,hB,λc hcB x hx=>h.dis x c hx (hc c hcB)⟩
section
variable {SR:Nat->Prop} {R:RF SR} {F:Fs} {N:Nat} {ρ ρ1:Rn} {v v0 v1 w w1:AL} {es:Array Event}
theorem OG.next(h:OG R ρ)(hR:R.R w)(k:Stp F N ρ ρ1 v w v1 w1 es):OG R ρ1:=by
 refine⟨λa b hab hb=>?_,λw' hw'=>by rw[k.tok.2];exact h.sl w' hw'⟩;rcases (k.new a b).1 hab with x|x;exact h.dis a b x hb;have:=R.lt w hR b hb;omega
theorem OG.step(h:OG R ρ)(h1:OG R ρ1)(hR:R.R w)(k:Stp F N ρ ρ1 v w v1 w1 es):NS (og F N R ρ v0 h) (og F N R ρ1 v1 h1) w w1 es:=by
 (have hz:w.heap.size<=w1.heap.size:=by have:=k.sv;have:=k.sw;omega);refine⟨⟨k.rel,R.st w w1 hR (λb hb=>k.Rl b (R.lt w hR b hb) λa hab=>h.dis a b hab hb) hz⟩,hz,λb=>?_,λb hb hn=>k.Rl b hb λa hab=>hn ⟨a,hab⟩,k.tw,λe he=>?_⟩
 ·constructor
  ·rintro⟨a,hab⟩;rcases (k.new a b).1 hab with x|x;exact .inl ⟨a,x⟩;have:=k.sw;exact .inr Ad
  rintro (⟨a,hab⟩|x);exact⟨a,k.le.r _ _ hab⟩;have:=k.sw;exact⟨b+v.heap.size - w.heap.size,(k.new _ b).2 (.inr Ad)⟩
 have:=k.evs e he;unfold aF at this
 cases hl:e.loc with|cell a=>rw[hl] at this;exact .inl this|obj c=>rw[hl] at this;exact this|mark m=>rw[hl] at this;exact this|output=>trivial|_=>rw[hl] at this;exact this.elim
end
section
variable {C:Cx} {Fin:Nat->Ac->Own C.SR->Prop} {k:Nat}
theorem AFc{a:Ac}{o:Own C.SR}(hr:a.status=.running)(h: ∀w,o.I w->∃g' o' w' es,Ae C.P true a w=.go g' w' es/\NS o o' w w' es/\PM C Fin .work k g' o'):PM C Fin .work k a o:=by
 have h': ∀w:AL,∃q:Ac×Own C.SR,o.I w->(∃w' es,Ae C.P true a w=.go q.1 w' es/\NS o q.2 w w' es)/\PM C Fin .work k q.1 q.2:=λw=>by
  by_cases hw:o.I w
  ·obtain⟨g',o',w',es,h1,h2,h3⟩:=h w hw;exact⟨(g',o'),λ_=>⟨⟨w',es,h1,h2⟩,h3⟩⟩
  exact⟨(a,o),λx=>Ai x hw⟩
 obtain⟨q,hq⟩:=dP h';exact .QG (λw=>(q w).1) (λw=>(q w).2) hr (λw hw=>(hq w hw).1) λw hw=>(hq w hw).2
theorem AIZ{K:Kit}{T:Twin}{N:Nat}{Kp:AX->List AX->AL->Prop}(Bv: ∀f ts v,Kp f ts v->ts=[])(hK:Fits K T N)(hX: ∀f,K.X f=true->∀n,KL K.fb f n=false)(hCP:C.P=T.P)
  (hzz: ∀p k f1 Di v,p.size<=K.fb.m+2->¬Ev T.v Kp (BV T.v K.z p k) (f1::Di) v) {R:RF C.SR} {dr:AX} {ds:List AX} {c0:AX} {cs0:List AX} (hdr:dr.mode=.run) (hc0:c0.mode=.run) {f:AX} {ZG:List AX} {v:AL} (hev:Ev T.v Kp f ZG v):
  NQ T.v Kp ⟨f,ZG,v⟩->∀{ρ:Rn} {f':AX} {ts ts':List AX},ZG=ts++dr::ds->DF K T ρ f f'->Cc (IW K T ρ) ts ts'->(∀g,g<K.G->ρ.r g g)->∀(h:OG R ρ),
   (∀v1 ρ1 x x' (h1:OG R ρ1),Jq T.v Kp ⟨dr.finish x,ds,v1⟩ ⟨f,ZG,v⟩->Az K.F ρ1 x x'->ρ.le ρ1->PM C Fin .work k (G (c0.finish x') cs0) (og K.F N R ρ1 v1 h1))->
   (∀v1 ρ1 (h1:OG R ρ1),Jq T.v Kp ⟨dr,ds,v1⟩ ⟨f,ZG,v⟩->ρ.le ρ1->PM C Fin .work k (G c0 cs0) (og K.F N R ρ1 v1 h1))->
   PM C Fin .work k (G f' (ts'++c0::cs0)) (og K.F N R ρ v h):=by
 induction hev with
 | @stop f ZG v hk=>
  intro _ ρ f' ts ts' e;have:=Bv _ _ _ hk;rw[e] at this;simp at this
 | @step f ZG v Fx Sx Wx hstep hev ih=>
  intro O8 ρ f' ts ts' e hf hts hG h cont AIa;subst e;(have hkp: ¬Kp f (ts++dr::ds) v:=λx=>by have:=Bv _ _ _ x;simp at this);refine AFc rfl λw hw=>?_;obtain⟨hW,hR⟩:=hw;have hWd: ∀τ:Nat->Question->Nat,DD K.F N ρ (v.DL τ) w:=λτ=>hW.pre ⟨rfl,rfl⟩ ⟨rfl,rfl⟩;(let τ:Nat->Question->Nat:=λj=>if j<v.drawn then v.tape j else w.tape (w.drawn+(j - v.drawn)));(have hτ: ∀j,j<v.drawn->τ j=v.tape j:=λj hj=>by simp only[τ,hj,if_true]);obtain⟨es,hs⟩:=hstep τ hτ;have hs0:=hs;rw[KC,Dj] at hs
  have ABD:=Ug (mn:=true) (dr:=dr) (ds:=ds++[door T.v]) (cs':=c0::cs0) hK (hWd τ) hG hf hts (λg1 v1 es _ i _ q=>by
   show τ (v.drawn+i) q=w.tape (w.drawn+i) q;(have h1: ¬v.drawn+i<v.drawn:=by omega);simp only[τ,h1,if_false]
   congr 2;omega)
  rw[hs] at ABD;have hnx:Nx T.v Kp ⟨Fx τ,Sx τ,Wx τ⟩ ⟨f,ts++dr::ds,v⟩:=⟨hkp,τ,hτ,_,hs0⟩;have ABb:=hev τ hτ;rcases ABD with ⟨f1,Di,f1',Gy,ρ1,w1,es',h1,h2,h3,h4,h5⟩|⟨X,p,p',k,f1,Di,f1',Gy,ρ1,w1,es',hX1,hX',_⟩|⟨c,h1,_,hp,_⟩|⟨_,_,f1,Di,h1,ch,hm1,hu1⟩|⟨p,k,f1,Di,_,hp,_,h1⟩
  ·simp only[G,Gf] at h1;obtain⟨r1,r2,_⟩:=h1;(have r2:Sx τ++[door T.v]=(Di++dr::ds)++[door T.v]:=by rw[r2];simp);have r2:=NL r2;have hn:=h.next hR h5;refine⟨_,_,w1,es',by rw[hCP];exact h2,h.step hn hR h5,?_⟩;exact ih τ hτ (O8.next hnx) r2 (by rw[r1];exact h3) h4 (λg hg=>h5.le.r _ _ (hG g hg)) hn (λv1 ρ2 x x' h1 n1 n2 n3=>cont v1 ρ2 x x' h1 (.cons hnx n1) n2 (h5.le.trans n3)) (λv1 ρ2 h1 n1 n3=>AIa v1 ρ2 h1 (.cons hnx n1) (h5.le.trans n3))
  ·rw[hX _ hX'.1] at hX';cases hX'.2.1
  ·simp only[G,Gf] at h1;obtain⟨r1,r2,_⟩:=h1;have r2:=NL r2;rw[r1,r2] at hnx ABb;rcases hp c0 cs0 rfl hdr hc0 with ⟨x,x',ρ1,w1,es',e1,e2,e3,e4⟩|⟨ρ1,w1,es',e1,e2,e4⟩|⟨ch,e1,e2⟩
   ·have hn:=h.next hR e4;rw[e1] at hnx;exact⟨_,_,w1,es',by rw[hCP];exact e2,h.step hn hR e4,cont _ _ _ _ hn (.one hnx) e3 e4.le⟩
   ·have hn:=h.next hR e4;rw[e1] at hnx;exact⟨_,_,w1,es',by rw[hCP];exact e2,h.step hn hR e4,AIa _ _ hn (.one hnx) e4.le⟩
   refine Ai ?_ (O8 _ (.one hnx));refine .head (ch:=ch) ?_ e2;show c.mode=_;rw[e1];unfold Frame.raise;rw[hdr]
  ·exfalso;simp only[G,Gf] at h1;obtain⟨r1,r2,_⟩:=h1;subst r1;exact O8 _ (.one hnx) (.head hm1 hu1)
  exfalso;simp only[G,Gf] at h1;obtain⟨r1,r2,_⟩:=h1;(have r2:Sx τ++[door T.v]=(f1::(Di++dr::ds))++[door T.v]:=by rw[r2];simp);have r2:=NL r2;rw[r1,r2] at ABb;exact hzz _ _ _ _ _ hp ABb
end
noncomputable def GZ:Code:=match EM Tryz.f46 with| .seq _ (.seq _ (.seq _ (.seq _ (.seq _ (.seq (.seq _ (.block _ (.loop c))) _)))))=>c|_=>.skip
noncomputable def Pv:Code:=match EM Tryz.f46 with| .seq _ (.seq _ (.seq _ (.seq _ (.seq _ (.seq _ c)))))=>c|_=>.skip
noncomputable def ZR:Array BR:=match GZ with| .seq _ (.seq _ (.block _ (.seq _ (.seq (.seq (.region _ o _) _) _))))=>o|_=>#[]
noncomputable def ZT:Code:=match GZ with| .seq _ (.seq _ (.block _ (.seq _ (.seq (.seq _ c) _))))=>c|_=>.skip
noncomputable def ZU:Code:=match GZ with| .seq _ (.seq _ (.block _ (.seq _ (.seq _ c))))=>c|_=>.skip
section
variable {C:Cx} (hP:C.P=Tryz.prog) {Fin:Nat->Ac->Own C.SR->Prop} {k:Nat} {o:Own C.SR} {cs:List AX}
include hP
theorem AGp(go:AP->Nat->Obj->Own C.SR)(hO: ∀xv bk ob,C.Cs k xv bk ob->∀x,(go xv bk ob).O x↔o.O x\/x=bk)(hI: ∀xv bk ob,C.Cs k xv bk ob->∀w,o.I w->¬o.O bk->w.heap[bk]? =AA ob->(go xv bk ob).I w)
  {a0 a1 a2 a3 a4 a5 a6 a7 a8 a9 a10 a11 a12 LD PE a16 a17 OU OV a20 a21 a22 a23 a24 a25 a26 a27 a28:AP} {kt:List Item}
  (n1: ∀xv bk ob,C.Cs k xv bk ob->PM C Fin .work (k+1) (G (fr 46 #[a0,a1,a2,a3,a4,a5,a6,a7,a8,xv,a10,a11,a12,LD,.chan (AA C.bc),.tuple #[xv,.bool true],.bool true,xv,a1,xv,a20,a21,a22,a23,a24,a25,a26,a27,a28]
    (.inRegion ZR [2,3]:: .code ZT:: .code ZU:: .inBlock 1:: .inLoop GZ:: .inBlock 0::kt) [] AB) cs) (go xv bk ob))
  (n0:k=C.N->PM C Fin .work k (G (fr 46 #[a0,a1,a2,a3,a4,a5,a6,a7,a8,a9,a10,a11,a12,LD,.chan (AA C.bc),.tuple #[.slice AB 0 0,.bool false],.bool false,a17,OU,OV,a20,a21,a22,a23,a24,a25,a26,a27,a28] kt [] AB) cs) o):
  PM C Fin .work k (G (fr 46 #[a0,a1,a2,a3,a4,a5,a6,a7,a8,a9,a10,a11,a12,LD,.chan (AA C.bc),PE,a16,a17,OU,OV,a20,a21,a22,a23,a24,a25,a26,a27,a28] (.code GZ:: .inLoop GZ:: .inBlock 0::kt) [] AB) cs) o:=by
 have N1:=AQ n1;have N0:=AQ n0;have HO:=AQ hO;have HI:=AQ hI;clear n1 n0 hO hI;have el:GZ=GZ:=rfl
 conv at el=>lhs;simp only[GZ,EM,Tryz.f46,Dt]
 obtain⟨L0,hL0⟩: ∃L0,Item.inLoop GZ=Item.inLoop L0/\Go.RowKit.Hid (L0=GZ):=⟨GZ,rfl,rfl⟩;rw[hL0.1,<- el]
 replace hL0:=hL0.2
 clear el;(iterate 2 refine tK ?_);refine AIY hP (z:=.slice AB 0 0) go rfl rfl (.inl rfl) (λw hw=>?_) (λw hw=>?_) HO.out HI.out (λxv bk ob hc=>?_) λhk=>?_
 ·unfold ev;go_simp;try exact rfl
 ·unfold ev;simp[go_sem]
 ·have HC:=AQ hc;clear hc;simp only[put];walk_nrm;(iterate 3 refine tK ?_);refine CZ (Ot hP) (λw=>s_cond (b:=true) rfl) rfl ?_;simp only[if_false,C9,↓reduceIte];(iterate 12 refine tK ?_);have hL:=hL0.out;subst hL;exact N1.out xv bk ob HC.out
 simp only[put];walk_nrm;(iterate 3 refine tK ?_);refine CZ (Ot hP) (λw=>s_cond (b:=false) rfl) rfl ?_;simp only[if_true,C9,↓reduceIte];refine CZ (Ot hP) (λw=>s_exit rfl) rfl ?_;exact N0.out hk
end
section
variable {C:Cx} (hP:C.P=Tryz.prog) {Fin:Nat->Ac->Own C.SR->Prop} {k:Nat} {o:Own C.SR} {cs:List AX}
include hP
theorem AGq{e n:Int}{a0 a1 a2 a3 a5 a6 a7 a8 a9 a10 a11 a12 LD PE a16 a17 OU OV a20 a21 a22 a23 a24 a25 a26 a27 a28:AP}{kt:List Item}
  (n1:e=0->PM C Fin .work k (G (fr 46 #[a0,a1,a2,a3,.int .i64 (IntKind.i64.wrap (n+1)),.int .i64 0,a6,a7,a8,a9,a10,a11,a12,LD,.chan (AA C.bc),PE,a16,a17,OU,OV,.int .i64 0,.int .i64 0,.bool false,.int .i64 n,.int .i64 (IntKind.i64.wrap (n+1)),a25,a26,a27,a28]
    (.code GZ:: .inLoop GZ:: .inBlock 0::kt) [] AB) cs) o)
  (n0:e≠0->PM C Fin .work k (G (fr 46 #[a0,a1,a2,a3,.int .i64 n,.int .i64 e,a6,a7,a8,a9,a10,a11,a12,LD,.chan (AA C.bc),PE,a16,a17,OU,OV,.int .i64 e,.int .i64 e,.bool true,a23,a24,a25,a26,a27,a28] kt [] AB) cs) o):
  PM C Fin .work k (G ((fr 46 #[a0,a1,a2,a3,.int .i64 n,a5,a6,a7,a8,a9,a10,a11,a12,LD,.chan (AA C.bc),PE,a16,a17,OU,OV,a20,a21,a22,a23,a24,a25,a26,a27,a28]
    (.inRegion ZR [2,3]:: .code ZT:: .code ZU:: .inBlock 1:: .inLoop GZ:: .inBlock 0::kt) [] AB).finish (.int .i64 e)) cs) o:=by
 have N1:=AQ n1;have N0:=AQ n0;clear n1 n0;have e1:ZR=ZR:=rfl
 conv at e1=>lhs;simp only[ZR,GZ,EM,Tryz.f46,Dt]
 have e2:ZT=ZT:=rfl
 conv at e2=>lhs;simp only[ZT,GZ,EM,Tryz.f46,Dt]
 have e3:ZU=ZU:=rfl
 conv at e3=>lhs;simp only[ZU,GZ,EM,Tryz.f46,Dt]
 rw[<- e1,<- e2,<- e3,EH (o:=_) rfl];clear e1 e2 e3;simp only[put];walk_nrm;by_cases he:e=0
 ·have HN:=N1.out he;subst he;have HN:=AQ HN;clear N1 N0;(iterate 7 refine tK ?_);refine CZ (Ot hP) (λw=>s_cond (b:=false) rfl) rfl ?_;simp only[if_true,C9,↓reduceIte];(iterate 8 refine tK ?_);exact HN.out
 have HN:=AQ (N0.out he);clear N1 N0;(have hb:(e !=0)=true:=by simpa using he);(iterate 7 refine tK ?_);refine CZ (Ot hP) (λw=>s_cond (b:=true) rfl) rfl ?_;simp only[if_true,if_false,↓reduceIte];refine CZ (Ot hP) (λw=>s_exit rfl) rfl ?_;exact HN.out
end
section
variable {C:Cx} (hP:C.P=Tryz.prog) {Fin:Nat->Ac->Own C.SR->Prop} {k:Nat} {o:Own C.SR} {cs:List AX}
include hP
theorem yu{s:MS}{g g':Ac}(hs:s.free=true)(hr:g.status=.running)(hr':g'.status=.running)(h: ∀w,Ae Tryz.prog true g w=.go g' w #[])(next:PM C Fin s k g' o):PM C Fin s k g o:=
 .free (λ_=>g') (λ_=>#[]) hs hr (λw _=>⟨hr',by rw[hP];exact h w,AV⟩) λ_ _=>next
omit hP in
theorem AIb{p:Array AP}{w:AL}:(Ep 77 p).events Tryz.prog w #[]= #[]:=by rfl
noncomputable def ZV:Array BR:=match Pv with| .seq _ (.seq (.region _ o _) _)=>o|_=>#[]
noncomputable def Px:Code:=match Pv with| .seq _ (.seq _ c)=>c|_=>.skip
theorem ABc{sb:Nat}(hsb:C.SR sb)(hrd: ∀w,o.I w->w.cell? ⟨sb,0,AB⟩=AA (.chan (AA C.bs)))(hlive: ∃w,Live C w)
  {a0 a1 a2 a3 a4 a5 a6 a9 a10 a11 a12 LD XT PE a16 a17 OU OV a20 a21 a22 a23 a24 a25 a26 a27 a28:AP}
  (hfin: ∀g,ae Tryz.prog g (G (fr 46 #[a0,a1,a2,a3,a4,a5,a6,.pointer (AA ⟨sb,0,AB⟩),.pointer (AA ⟨C.wg,0,AB⟩),a9,a10,a11,a12,LD,XT,PE,a16,a17,OU,OV,a20,a21,a22,a23,a24,.chan (AA C.bs),.tuple #[],a27,a28] [.inRegion ZV [],.code Px] [] AB) cs)->Fin k g o):
  PM C Fin .work k (G (fr 46 #[a0,a1,a2,a3,a4,a5,a6,.pointer (AA ⟨sb,0,AB⟩),.pointer (AA ⟨C.wg,0,AB⟩),a9,a10,a11,a12,LD,XT,PE,a16,a17,OU,OV,a20,a21,a22,a23,a24,a25,a26,a27,a28] [.code Pv] [] AB) cs) o:=by
 have Hf:=AQ hfin;have Rd:=AQ hrd;clear hfin hrd;have el:Pv=Pv:=rfl
 conv at el=>lhs;simp only[Pv,EM,Tryz.f46,Dt]
 rw[<- el];clear el;(iterate 2 refine tK ?_);refine EC (Ot hP) ?_ (hr:=by intro w hw;have f0:=Rd.out w hw;unfold ev;go_simp;exact rfl) (he:=by intro w hw;have f0:=Rd.out w hw;unfold ev;simp[go_sem,f0];exact⟨.inr hsb,rfl⟩);refine AGo hP (es:=#[⟨.obj C.bs,false,true⟩,⟨.obj C.bs,true,true⟩]) (λe he=>by simpa using he) rfl rfl rfl (.inl rfl) (λw w' _ hc=>?_) ?_
 ·obtain⟨s,hs,rfl⟩:=hc;have hr:=run_close_open (P:=Tryz.prog) #[158] 0 hs;have he:=events_close_open (P:=Tryz.prog) (es:=#[]) #[158] 0 hs;rw[Ut (op:=_) rfl];simp only[J3,BK,EG];unfold ev;constructor
  ·simp[go_sem,hr]
  simp[go_sem,he,seen]
 simp only[put];walk_nrm;refine yu hP rfl rfl rfl (λw=>F8) ?_;refine yu hP rfl rfl rfl (λw=>J5) ?_;refine yu hP rfl rfl rfl (λw=>s_reg) ?_;obtain⟨w0,h0⟩:=hlive;refine yu hP (g':=G ((base link.wait).at ⟨#[.pointer (AA ⟨C.wg,0,AB⟩)]++IK ((waitFn link).ntmps - 1) AU,[]⟩ [.code (body_wait link)]) (fr 46 #[a0,a1,a2,a3,a4,a5,a6,.pointer (AA ⟨sb,0,AB⟩),.pointer (AA ⟨C.wg,0,AB⟩),a9,a10,a11,a12,LD,XT,PE,a16,a17,OU,OV,a20,a21,a22,a23,a24,.chan (AA C.bs),a26,a27,a28] [.inRegion ZV [0],.code Px] [] AB::cs)) rfl rfl rfl (λw=>?_) ?_
 ·refine Eq.trans (b:=.go (G (BV Tryz.prog 77 #[.pointer (AA ⟨C.wg,0,AB⟩)] .normal) (fr 46 #[a0,a1,a2,a3,a4,a5,a6,.pointer (AA ⟨sb,0,AB⟩),.pointer (AA ⟨C.wg,0,AB⟩),a9,a10,a11,a12,LD,XT,PE,a16,a17,OU,OV,a20,a21,a22,a23,a24,.chan (AA C.bs),a26,a27,a28] [.inRegion ZV [0],.code Px] [] AB::cs)) w #[]) ?_ rfl;rw[s_call (f:=77) (args:=#[.pointer (AA ⟨C.wg,0,AB⟩)]) rfl rfl (.inl rfl) (w':=w) (by rw[F9 (op:=_) (f:=77) (vs:=#[.pointer (AA ⟨C.wg,0,AB⟩)]) rfl WX];rfl)];rw[F9 (op:=_) (f:=77) (vs:=#[.pointer (AA ⟨C.wg,0,AB⟩)]) rfl WX,AIb];rfl
 exact ADr wgLib hP h0 (b₀:=fr 46 #[] [] [] AB) (a₀:=⟨#[a0,a1,a2,a3,a4,a5,a6,.pointer (AA ⟨sb,0,AB⟩),.pointer (AA ⟨C.wg,0,AB⟩),a9,a10,a11,a12,LD,XT,PE,a16,a17,OU,OV,a20,a21,a22,a23,a24,.chan (AA C.bs),a26,a27,a28],[]⟩) (ops₀:=ZV) (i₀:=0) (rest₀:=[]) (k₀:=[.code Px]) (cs:=cs) (λg hg=>Hf.out g hg)
end
open Go.Extern
section
variable {fn:Func}{f:Nat}
section
variable {T:Twin} {F:Fs} {N:Nat}
def AD5 (T:Twin) (F:Fs) (N:Nat) (f:Bi):Prop:=∃fn,T.v.funcs[f]? =AA fn/\T.P.funcs[f]? =AA fn/\fn.body.isNone=true/\(fn.name== "runtime.NumGoroutine")=false/\(Extern.findNext fn).isNone=true/\
  match Extern.find fn with|some e=>KJ T F N e|none=>(fn.name.endsWith ".init" && !fn.name.startsWith "(" && !fn.name.startsWith "gosem.")=false
theorem rowIs{f:Bi}(h:T.v.funcs[f]? =Tryz.prog.funcs[f]? /\T.P.funcs[f]? =Tryz.prog.funcs[f]?)(k:Tryz.prog.funcs[f]? =AA fn)(k2:(fn.body.isNone && !(fn.name== "runtime.NumGoroutine") && (Extern.findNext fn).isNone)=true){e:Array AP->Sem AP}(k3:Extern.find fn=AA e)(k4:KJ T F N e):AD5 T F N f:=by
 simp only[DU,Y8] at k2;exact⟨fn,h.1.trans k,h.2.trans k,k2.1.1,k2.1.2,k2.2,by rw[k3];exact k4⟩
theorem APe{f:Bi}(h:T.v.funcs[f]? =Tryz.prog.funcs[f]? /\T.P.funcs[f]? =Tryz.prog.funcs[f]?)(k:Tryz.prog.funcs[f]? =AA fn) (k2:(fn.body.isNone && !(fn.name== "runtime.NumGoroutine") && (Extern.findNext fn).isNone && (Extern.find fn).isNone && !(fn.name.endsWith ".init" && !fn.name.startsWith "(" && !fn.name.startsWith "gosem."))=true):AD5 T F N f:=by
 rw[DU,DU] at k2;obtain⟨⟨k2,k3⟩,k4⟩:=k2;simp only[DU,Y8] at k2;refine⟨fn,h.1.trans k,h.2.trans k,k2.1.1,k2.1.2,k2.2,?_⟩;(have k3:Extern.find fn=AB:=by simpa using k3);rw[k3];rw[Y8] at k4;exact k4
theorem ABd(hv: ∀f,SE.contains f=true->T.v.funcs[f]? =Tryz.prog.funcs[f]? /\T.P.funcs[f]? =Tryz.prog.funcs[f]?)(hN:T.P.globals.size<N)(hb:T.P.bearsPack=false)(hp:F.p->T.p): ∀f,SE.contains f=true->AD5 T F N f:=by
 intro f hf;have hm:f∈SE:=LP.1 hf;have hv:=hv f hf;simp only[SE,BB,BC,or_false] at hm;rcases hm with rfl|rfl|rfl|rfl|rfl|rfl|rfl|rfl|rfl|rfl|rfl|rfl|rfl|rfl;exact rowIs (e:=Vy) hv Tryz.func68 Aq Aq (ABW hN);exact rowIs (e:=(λargs=>Tz (args.getD 0 (.tuple #[])))) hv Tryz.func91 Aq Aq (yj hN);exact rowIs (e:=(AAi (Ol "reflectlite.Value.Type" 0) λt _ _ _=>kz t)) hv Tryz.func92 Aq Aq (jh hN (λ{ρ}=>Et _ _) λt _ _ _ _ _=>XP hN t);exact rowIs (e:=(UB (Ol "reflectlite.Value.IsNil" 0) Yd)) hv Tryz.func93 Aq Aq (VN hN hb (λ{ρ}=>Et _ _) λt _ _ fl k h=>AD1 t fl k h);exact rowIs (e:=MapsClone.clone) hv Tryz.func121 Aq Aq (ADx);exact rowIs (e:=(UB (Ol "reflectlite.Value.Elem" 0) Ye)) hv Tryz.func126 Aq Aq (VN hN hb (λ{ρ}=>Et _ _) λt _ _ fl k h=>AD2 hp hN t fl k h);exact rowIs (e:=dK) hv Tryz.func127 Aq Aq (AIM hN hb);exact APe hv Tryz.func170 Aq;exact rowIs (e:=(lH λt=>do pure (.int .u8 (<- Rtype.kind t)))) hv Tryz.func171 Aq Aq (AIL hN hb λt=>AD0 t);exact rowIs (e:=(UB (pure (.int .u8 0)) λ_ _ _ k=>pure (.int .u8 (Int.ofNat k)))) hv Tryz.func187 Aq Aq (VN (z:=pure (.int .u8 0)) (f:=λ_ _ _ k=>pure (.int .u8 (Int.ofNat k))) hN hb (λ{ρ}=>λ_=>Az.flat rfl) λt _ _ fl k h=>λ_=>Az.flat rfl);exact rowIs (e:=(P6 "AssignableTo" Tv)) hv Tryz.func190 Aq Aq (Yq hN hb _ λu t=>yh hb u t);exact rowIs (e:=(lC λt=>do Rtype.noPackHeld "Comparable" t;pure (.bool (<- typeInfo t).comparable))) hv Tryz.func191 Aq Aq (iO hN hb λt=>jg hb t);exact rowIs (e:=(lC lD)) hv Tryz.func192 Aq Aq (iO hN hb λt=>ADy hN hb t);exact rowIs (e:=(P6 "Implements" lF)) hv Tryz.func193 Aq Aq (Yq hN hb _ λu t=>ADz hb u t)
end
theorem nZ: ∀f,SE.contains f=true->Af.funcs[f]? =Tryz.prog.funcs[f]? :=λf hf=>Ah.same (by
 refine⟨?_,?_,?_⟩<;>(rintro rfl;revert hf;decide))
theorem AIc: ∀f,S1.contains f=true->(f==47 || f==46)=false->Af.funcs[f]? =Tryz.prog.funcs[f]? :=λf hf hx=>Ah.same (by
 simp only[xg,beq_eq_false_iff_ne] at hx
 exact⟨hx.1,hx.2,by rintro rfl;revert hf;decide⟩)
theorem XU(h:JR Tryz.prog f=true):JR Af f=true:=by
 by_cases h1:f=47;subst h1;unfold JR;rw[ABX];rfl;by_cases h2:f=46;subst h2;unfold JR;rw[uo];rfl;by_cases h3:f=79;subst h3;unfold JR;rw[nO];rfl;unfold JR at h⊢;rw[Ah.same ⟨h1,h2,h3⟩];exact h
theorem noPack:Tryz.prog.bearsPack=false:=by kernel_rfl
theorem AId:Af.bearsPack=false:=noPack
theorem ng:Tryz.prog.globals.size<2:=by
 (have:Tryz.prog.globals.size=1:=by kernel_rfl);omega
theorem VP:JR Tryz.prog 79=true:=by kernel_rfl
theorem AIe:Fits K1 T1 2 where
 ops:=λ_=>rfl
 same:=λf hf hx=>AIc f hf hx
 N:=ng
 bodies:={
  z:=⟨Fe (XU VP),Fe VP⟩
  v:=λf hf=>Fe (XU (JC.1 text1 f (LP.1 hf)))
  a:=λf hf=>Fe (JC.1 text1 f (LP.1 hf))
  va:=λ_ f hf n=>by
   (have h:(SV.all λf=>(fb1.a f).isNone)=true:=by decide);have h2:=JC.1 h f (LP.1 hf);show KL fb1 f n=true;unfold KL;rw[Option.isNone_iff_eq_none.1 h2]
  za:=λn=>rfl
  dk:=λf h p hc=>by
   have hc:AA 46=AA f:=hc;(cases hc);have h0:KL fb1 46 0=true:=h 0;exact Ai h0 Ar
  e:=ABd (λf hf=>⟨nZ f hf,rfl⟩) ng noPack (λ_=>Am)
  m0:=m0}
 body:=λf fn hf hx h c hc=>by
  have h2:=JC.1 ok1 f (LP.1 hf);have hx:(f==47 || f==46)=false:=hx;rw[<- Bool.or_assoc,hx,Bool.false_or] at h2;exact TY h2 h hc
 lr:=λ_ f hf=>by
  have hm:f∈SL:=LP.1 hf;simp only[SL,BB,BC,or_false] at hm;subst hm;exact⟨Ar,Ar⟩
 xa:=λf hf h=>by
  have:=h 0;change KL fb1 f 0=true at this;unfold KL at this;have hf:(f==47 || f==46)=true:=hf;simp[fb1,hf] at this
 ch:=λf h=>by
  have h:AA 47=AA f:=h;(cases h);exact⟨Ar,Ar⟩
theorem okV:(S1.all λf=>YE Af fbV 1 f)=true:=by kernel_rfl
theorem APf:YE Af fbV 1 79=true:=by kernel_rfl
theorem AIf(h:fbV f=true):S1.contains f=true\/f=79:=by
 have h:(S1.contains f || f==79)=true:=h;simpa only[We,beq_iff_eq] using h
theorem AMU(h:fbV f=true):JR Af f=true:=by
 rcases AIf h with h|rfl;exact XU (JC.1 text1 f (LP.1 h));exact XU VP
theorem fitsV:Fits KV TV 2 where
 ops:=λ_=>rfl
 same:=λf hf hx=>rfl
 N:=ng
 bodies:={
  z:=⟨Fe (XU VP),Fe (XU VP)⟩
  v:=λf hf=>Fe (AMU hf)
  a:=λf hf=>Fe (AMU hf)
  va:=λ_ f hf n=>rfl
  za:=λn=>rfl
  dk:=λf h p hc=>by cases hc
  e:=ABd (λf hf=>⟨nZ f hf,nZ f hf⟩) ng AId (λh=>h.elim)
  m0:=m0}
 body:=λf fn hf hx h c hc=>by
  rcases AIf hf with h2|rfl;exact TY (JC.1 okV f (LP.1 h2)) h hc;exact TY APf h hc
 lr:=λ_ f hf=>by
  have hm:f∈SL:=LP.1 hf;simp only[SL,BB,BC,or_false] at hm;subst hm;exact⟨Ar,Ar⟩
 xa:=λf hf h=>by cases hf
 ch:=λf h=>by cases h
theorem ok2:(S2.all λf=>YE Tryz.prog fb2 1 f)=true:=by kernel_rfl
theorem APg:((S2++SV).all λf=>JR Tryz.prog f && (S2.contains f== !SV.contains f) && !(f==47 || f==46 || f==79))=true:=by kernel_rfl
theorem APh(h:fb2 f=true):f∈S2++SV:=by
 have h:(S2.contains f || SV.contains f)=true:=h;rw[Be];exact (Bool.or_eq_true_iff.1 h).imp LP.1 LP.1
theorem AD6(h:fb2 f=true):JR Tryz.prog f=true/\(f≠47/\f≠46/\f≠79):=by
 have h2:=JC.1 APg f (APh h);simp only[DU,Y8,xg,beq_eq_false_iff_ne] at h2;exact⟨h2.1.1,h2.2.1.1,h2.2.1.2,h2.2.2⟩
theorem AFd(hf:SV.contains f=true)(n:Nat):KL fb2 f n=false:=by
 have e:fb2.a f=AA 1000:=by
  show (if SV.contains f=true then AA 1000 else AB)=AA 1000;rw[BZ hf]
 unfold KL;rw[e];simp
theorem AD7:Fits K2 T1 2 where
 ops:=λ_=>rfl
 same:=λf hf hx=>Ah.same (AD6 hf).2
 N:=ng
 bodies:={
  z:=⟨Fe (XU VP),Fe VP⟩
  v:=λf hf=>Fe (XU (AD6 hf).1)
  a:=λf hf=>Fe (AD6 hf).1
  va:=λh=>by cases h
  za:=λn=>rfl
  dk:=λf h p hc=>by cases hc
  e:=λf hf=>by cases hf
  m0:=m0}
 body:=λf fn hf hx h c hc=>by
  have hx:SV.contains f=false:=hx;have h2:(S2.contains f || SV.contains f)=true:=hf;rw[hx,Bool.or_false] at h2;exact TY (JC.1 ok2 f (LP.1 h2)) h hc
 lr:=λh=>by cases h
 xa:=λf hf h=>by
  have:=h 0;change KL fb2 f 0=true at this;rw[AFd hf] at this;cases this
 ch:=λf h=>by cases h
theorem no2: ∀f,K2.X f=true->∀n,KL K2.fb f n=false:=λf hf n=>AFd hf n
theorem APi:Q4 Tryz.prog K2.fb "Take" =true:=by kernel_rfl
theorem ABe:K1.F.Alike K2.F:=⟨λf _ h=>⟨by show (S2.contains f || SV.contains f)=true;rw[show SV.contains f=true from h];exact Bool.or_true _,h⟩,λ_ h=>h,λ_ h=>h,λh=>h,rfl⟩
theorem AIg:K2.F.Alike K1.F:=⟨λf _ h=>⟨by
 have h2:(SV.all λf=>S1.contains f)=true:=by decide
 exact JC.1 h2 f (LP.1 h),h⟩,λ_ h=>h,λ_ h=>h,λh=>h,rfl⟩
theorem ALs(fb:Fb)(G:Nat)(op:Op):V6 Af fb G op=V6 Tryz.prog fb G op:=rfl
theorem APj{G:Nat}: ∀{c:Code} {fb:Fb} {d r:Bool},JZ Af fb G d r c=JZ Tryz.prog fb G d r c:=by
 intro c
 induction c with
 |region n ops dr=>intro fb d r;simp only[JZ,ALs]
 |seq a b ia ib=>intro fb d r;simp only[JZ,ia,ib]
 |cond c a b ia ib=>intro fb d r;simp only[JZ,ia,ib]
 |block n c ih=>exact ih|loop c ih=>exact ih|scope c ih=>exact ih|rangeFunc f ps a b ia ib=>intro fb d r;simp only[JZ,ia,ib]
 |_=>intro _ _ _;rfl
theorem AFe:K1.F.le0 KV.F where
 f:=λx hx=>by show (S1.contains x || x==79)=true;rw[show S1.contains x=true from hx];rfl
 v:=λx hx=>by show (SV.contains x || x==79)=true;rw[show SV.contains x=true from hx];rfl
 c:=λx hx=>⟨APj.trans hx.1,hx.2⟩
 r:=λx hx=>hx
 z:=rfl
 m:=by decide
 a:=λf n h=>rfl
 d:=λh=>h
 e:=λf h=>h
 h:=λh=>h
end
section
variable {p p':Array AP}{F:Fs}{N bk:Nat}{SR:Nat->Prop}{ρ:Rn}{name:String}{x:AP}{v:AL}
section
variable {T:Twin} {F:Fs} {N:Nat} {ρ:Rn}
def QEn (F:Fs):Rn->Next->Next->Prop:=λρ a b=>∃f p p',a=.enter f p/\b=.enter f p'/\F f/\(∀n,F.a f n)/\Au F ρ p p'
theorem ni(hB:Gp T F N){f:Bi}(hf:F f)(ha: ∀n,F.a f n)(hp:Au F ρ p p'):AY T F N (QEn F) (Ep f p) ρ (Ep f p'):=by
 obtain⟨fn,h1,h2,h3⟩:=hB.v f hf;obtain⟨fn',h1',h2',h3'⟩:=hB.a f hf;unfold Ep;refine CU.bind λρ₁ a b l1 e=>?_;obtain⟨rfl,rfl⟩:=e;simp only[h1,h1',h2,h2',h3,h3',C9,if_false];exact λ_=>⟨f,p,p',rfl,rfl,hf,ha,hp.mono l1⟩
theorem eY(hB:Gp T F N){fb:Fb}(hfb: ∀f,fb f=true->F f)(hfa: ∀f n,KL fb f n=true->F.a f n)(hfe: ∀f,fb.e f=false)(hm:Q4 T.P fb name=true){x':AP}(h:Az F ρ x x')(hp:Au F ρ p p'):
  AY T F N (QEn F) (PZ x name p) ρ (PZ x' name p'):=by
 unfold PZ
 cases h with
 |flat hf=>cases x<;>first|exact λ_=>Am|exact Bj (e:=.nilDeref) trivial|exact Ai (show false=true from hf) AV
 |iface hv=>
  simp only;refine CU.bind λρ₁ a b l1 e=>?_;obtain⟨rfl,rfl⟩:=e;refine (iE hm _ _ (hv.mono l1)).bind λρ₂ q q' l2 hq=>?_;obtain⟨f,r⟩:=q;obtain⟨f',r'⟩:=q';obtain⟨e1,h1,h2⟩:=hq;simp only at e1 h1 h2;subst e1;rcases h1 with h1|h1;exact ni hB (hfb _ h1.1) (λn=>hfa _ _ (by unfold KL;rw[h1.2])) ((Au.one h2).append ((hp.mono l1).mono l2));rw[hfe] at h1;cases h1
 |_=>exact λ_=>Am
end
theorem uz{T:Array AP}{op:BR}{r:Operand}{xs:Array Operand}{ats:Array TypeId}{vs:Array AP}(hop:op.op=.call {callee:=.invoke r name,args:=xs,argTypes:=ats})(hr:ev T r=x)(hx:xs.map (ev T)=vs):BG (ev T) op=PZ x name vs:=by
 unfold BG;simp only[hop,resolve,hr,hx];show invoke (.fn (.method name) #[]) (#[x]++vs)=_;have e:(#[x]++vs)[0]? =AA x:=by rw[lU AV];rfl
 have e2:(#[x]++vs).extract 1 (#[x]++vs).size=vs:=by
  rw[Array.extract_append];simp
 unfold invoke;simp only[e,e2]
theorem AGr{R:RF SR}{v':AL}{h:OG R ρ}(h1:v'.heap=v.heap)(h2:v'.os=v.os):og F N R ρ v h=og F N R ρ v' h:=by
 have e: ∀w,DD F N ρ v w↔DD F N ρ v' w:=λw=>⟨λk=>k.pre ⟨h1.symm,h2.symm⟩ ⟨rfl,rfl⟩,λk=>k.pre ⟨h1,h2⟩ ⟨rfl,rfl⟩⟩;unfold og;congr 1;funext w;rw[e w]
theorem AGs{R:RF SR}{h:OG R ρ}{t:TypeId}(hp: ∀x∈p,flat x=true)(hb: ¬SR bk)(h':OG R (ρ.add v.heap.size bk)){w:AL}(hI:(og F N R ρ v h).I w)(hO: ¬(og F N R ρ v h).O bk)(hw:w.heap[bk]? =AA (.cells p t)):
  (og F N R (ρ.add v.heap.size bk) {v with heap:=v.heap.push (.cells p t)} h').I w:=by
 obtain⟨hW,hR⟩:=hI;have hO: ∀a,¬ρ.r a bk:=λa hr=>hO ⟨a,hr⟩;have hnb:N<=bk:=Nat.le_of_not_lt λh=>hO _ (hW.ok.hd _ h);have hfr:ρ.lh N v.heap.size bk:=⟨λb hr=>by have:=(hW.dom hr).1;omega,hO,λx hx=>by have:=hW.AFO hx;omega,hW.nv,hnb⟩;refine⟨⟨hW.ok.add hfr,λa b hab=>?_,λa x hx=>?_,(by have:=hW.nv;simp;omega),hW.nw,hW.os,λs n a b hq=>?_⟩,hR⟩
 ·rcases hab with hab|⟨rfl,rfl⟩
  ·obtain⟨o,o',h1,h2,h3⟩:=hW.obj a b hab;refine⟨o,o',?_,h2,h3.mono (Rn.U9 _ _ _)⟩;show (v.heap.push _)[a]? =_;rw[Rk (hW.dom hab).1,<- h1,FD (hW.dom hab).1]
  exact⟨_,_,by show (v.heap.push _)[v.heap.size]? =_;simp,hw,.cells (Au.VA hp)⟩
 ·show (v.heap.push _)[a]? =_;have hlt:=hW.AFO hx;rw[Rk hlt,<- hW.tok a x hx,FD hlt]
 obtain⟨B,hB,hc⟩:=h.sl w hR s n a b hq;refine⟨B,hB,λc hcB x hx=>?_⟩;rcases hx with hx|⟨_,rfl⟩;exact h.dis x c hx (hc c hcB);exact hb (hc _ hcB)
theorem OG.chunk{R:RF SR}(h:OG R ρ){n:Nat}(hb: ¬SR bk):OG R (ρ.add n bk):=
 ⟨λa b hab=>by
  rcases hab with hab|⟨_,rfl⟩;exact h.dis a b hab
  exact hb,h.sl⟩
theorem tN{s:ByteArray}{lo sz d:Nat}(hlo:lo<=s.size)(hd:d=min sz (s.size - lo)):Q8 (s.extract lo (lo+d))=Jr ((s.data.toList.drop lo).take sz)/\((s.data.toList.drop lo).take sz).length=d:=by
 have hl:s.data.toList.length=s.size:=by rw[Array.length_toList];rfl
 have e:(s.extract lo (lo+d)).data.toList=(s.data.toList.drop lo).take sz:=by
  rw[AFJ,AFK,List.extract_eq_take_drop];rw[show lo+d - lo=d by omega,hd];rcases ADJ sz (s.size - lo) with h|h;rw[Je h];rw[Nat.min_eq_right h,FH (by rw[TG];omega),FH (by rw[TG];omega)]
 refine⟨by unfold Q8 Jr;rw[e],by rw[Ie,TG];omega⟩
end
section
variable {es:Array Event}{c f:AX}{ts:List AX}{v:AL}
section
variable {V:BL} {Kp:AX->List AX->AL->Prop}
theorem PG{f1:AX}{Di:List AX}{v1:AL}(Bv: ∀f ts v,Kp f ts v->ts=[])(h:Ev V Kp f (c::ts) v)(hs:Ae V true (G f (c::ts++[door V])) v=.go (G f1 (Di++[door V])) v1 es):Ev V Kp f1 Di v1:=
 Ev.next (s:=⟨f,c::ts,v⟩) (s':=⟨f1,Di,v1⟩) h ⟨λx=>(by cases Bv _ _ _ x),v.tape,λ_ _=>rfl,es,hs⟩
theorem YH{u:AL}{o:Outcome}(Bv: ∀f ts v,Kp f ts v->ts=[])(h:Ev V Kp f (c::ts) v)(hs:Ae V true (G f (c::ts++[door V])) v=.ended o u es):False:=by
 cases h with
 |stop h=>cases Bv _ _ _ h|step Fx Sx Wx h1 h2=>
  obtain⟨e,h3⟩:=h1 v.tape (λ_ _=>rfl);have:Ae V true (G f (c::ts++[door V])) v=.go (G (Fx v.tape) (Sx v.tape++[door V])) (Wx v.tape) e:=h3;rw[hs] at this;cases this
end
theorem ABf{Kp:AX->List AX->AL->Prop}(Bv: ∀f ts v,Kp f ts v->ts=[]): ∀(p:Array AP) (k:CallKind) (f1:AX) (Di:List AX) (v:AL),p.size<=4->¬Ev Af Kp (BV Af 79 p k) (f1::Di) v:=by
 intro p k f1 Di v hp hev
 have e:BV Af 79 p k={fn:=79,tmps:=p++IK (8 - p.size) AU,todo:=[.code ((Ah.f79).body.getD .skip)],defers:=[],mode:=.run,kind:=k}:=by
  unfold BV;simp[nO]
 rw[e] at hev;clear e;generalize hT:p++IK (8 - p.size) AU=T at hev
 have h6:T.getD 6 AU=AU:=by
  rw[<- hT,Qo,Y7 Ad,AHs];split<;>rfl
 have s1:=PG Bv hev (by rfl);have s2:=PG Bv (c:=f1) (ts:=Di) s1 (by rfl)
 have h7: ∃o u es,Ae Af true (G {fn:=79,tmps:=T,todo:=[.inRegion #[{dst:=AA 7,op:=.binOp .add 3 (.tmp 6) (.const (.int .i64 0)) 3,type:=3,pos:= "",after:=#[],guard:=AB}] [0],.code .ret],defers:=[],mode:=.run,kind:=k} (f1::Di++[door Af])) v=.ended o u es:=by
  have hx: ∀f:AX,f.tmps=T->∃why es,(BG f.eval {dst:=AA 7,op:=.binOp .add 3 (.tmp 6) (.const (.int .i64 0)) 3,type:=3,pos:= "",after:=#[],guard:=AB}).runT Af v #[]=(.halt (.stuck why) v,es):=by
   intro f hf;(have e6:f.eval (.tmp 6)=AU:=by show f.tmps.getD 6 AU=AU;rw[hf];exact h6);refine⟨"BinOp: no such operator on these operands",#[],?_⟩;unfold BG;simp only[e6];rfl
  obtain⟨why,es,hx⟩:=hx {fn:=79,tmps:=T,todo:=[.inRegion #[{dst:=AA 7,op:=.binOp .add 3 (.tmp 6) (.const (.int .i64 0)) 3,type:=3,pos:= "",after:=#[],guard:=AB}] [0],.code .ret],defers:=[],mode:=.run,kind:=k} rfl;change ∃o u es,Ht Af true _ _ AB (BG (Frame.eval _) {dst:=AA 7,op:=.binOp .add 3 (.tmp 6) (.const (.int .i64 0)) 3,type:=3,pos:= "",after:=#[],guard:=AB}) v=.ended o u es;unfold Ht;simp only[if_true,hx];exact⟨_,_,_,rfl⟩
 obtain⟨o,u,es,h7⟩:=h7;exact YH Bv (c:=f1) (ts:=Di) s2 h7
end
def pc (s:ByteArray) (sz k:Nat):List UInt8:=(s.data.toList.drop (k*sz)).take sz
def Piece (SR:Nat->Prop) (s:ByteArray) (sz k:Nat) (xv:AP) (bk:Nat) (ob:Obj):Prop:=
 k*sz<s.size/\¬SR bk/\∃cap,(pc s sz k).length<=cap/\VO (pc s sz k).length 5 cap/\xv=.slice (AA ⟨bk,0,AB⟩) (pc s sz k).length cap/\ob=.cells ((Jr (pc s sz k)).toArray++IK (cap - (pc s sz k).length) (.int .u8 0)) 5
theorem AGt{l:List UInt8}{n:Nat}: ∀x∈((Jr l).toArray++IK n (.int .u8 0)),flat x=true:=by
 intro x hx;rcases JL.1 hx with h|h
 ·simp only[Jr,IU,Bz] at h;obtain⟨b,_,rfl⟩:=h;rfl
 obtain⟨_,rfl⟩:=Array.mem_replicate.1 h;rfl
section
variable {P:BL} {mn:Bool} {fn:Bi} {T:Array AP} {k:List Item} {D:List EK} {cs:List AX} {w w':AL} {ops:Array BR} {i:Nat} {rest:List Nat} {o:BR}
theorem AIh{x:AP}(ho:ops[i]? =AA o)(hw:DV o (yielded ops T)=true)(hr:(BG (ev T) o).run P w=.halt (.panic x) w'):
  ∃es,Ae P mn (G (fr fn T (.inRegion ops (i::rest)::k) D AB) cs) w=.go (G ((fr fn T (.inRegion ops (i::rest)::k) D AB).raise [{v:=x,recovered:=false}]) cs) w' es:=by
 rw[Q7 ho hw (.inl rfl)];unfold Ht;simp only[if_true,Ik,hr];exact⟨_,rfl⟩
theorem ny{h:Halt}(ho:ops[i]? =AA o)(hw:DV o (yielded ops T)=true)(hr:(BG (ev T) o).run P w=.halt h w')(hs:Halt.still h):
  ∃q u es,Ae P mn (G (fr fn T (.inRegion ops (i::rest)::k) D AB) cs) w=.ended q u es:=by
 rw[Q7 ho hw (.inl rfl)];unfold Ht;simp only[if_true,Ik,hr]
 cases h with
 |unsupported u=>cases u<;>first|exact hs.elim|exact⟨_,_,_,rfl⟩
 |_=>first|exact hs.elim|exact⟨_,_,_,rfl⟩
end
theorem AGu{Kp:AX->List AX->AL->Prop}(Bv: ∀f ts v,Kp f ts v->ts=[]){T:Array AP}{k:List Item}{c0:AX}{cs:List AX}{v:AL}{x:AP}(hT:T.size=19)
  (h:Ev Af Kp ((fr 46 T (.inRegion Ry [0]:: .code Us::k) [] AB).finish x) (c0::cs) v): ∃e,x=.int .i64 e:=by
 rw[EH (o:=_) rfl] at h;have s1:=PG Bv h F8;have s2:=PG Bv (c:=c0) (ts:=cs) s1 J5;have s3:=PG Bv (c:=c0) (ts:=cs) s2 ui;(have hx:(put T (AA 15) x).getD 15 AU=x:=by simp[put,Qo,hT]);by_cases hi: ∃e,x=.int .i64 e;exact hi;exfalso
 have hst: ∃why,(BG (ev (put T (AA 15) x)) {dst:=AA 16,op:=.binOp .mul 51 (.tmp 15) (.const (.int .i64 1)) 51,type:=51,pos:= "",after:=#[],guard:=AB}).run Af v=.halt why v/\Halt.still why:=by
  have e15:ev (put T (AA 15) x) (.tmp 15)=x:=hx;unfold BG;simp only[e15]
  cases x with
  |int kk n=>
   cases kk<;>first|exact Ai ⟨n,rfl⟩ hi|exact⟨_,rfl,Am⟩
  |_=>first|exact⟨_,rfl,Am⟩|(rename_i y;cases y<;>exact⟨_,rfl,Am⟩)
 obtain⟨why,hst,hs⟩:=hst;obtain⟨q,u,es,hh⟩:=ny (P:=Af) (mn:=true) (cs:=c0::cs++[door Af]) (i:=0) (rest:=[1,2]) (ops:=#[_,_,_]) (k:=_::k) (D:=[]) (fn:=46) rfl rfl hst hs;exact YH Bv s3 hh
section
variable {C:Cx} (hP:C.P=Tryz.prog) {R:RF C.SR} {s:ByteArray} {sz:Nat} (hCs: ∀k xv bk ob,C.Cs k xv bk ob->Piece C.SR s sz k xv bk ob) (hNN:s.size<=C.N*sz) (hsz:1<=sz) (hsz2:(sz:Int)<=9223372036854775807) (hs:s.size<=1073741824)
 {sb:Nat} (hsb:C.SR sb) (hrd: ∀w,R.R w->w.cell? ⟨sb,0,AB⟩=AA (.chan (AA C.bs))) (hlive: ∃w,Live C w) {Kp:AX->List AX->AL->Prop} (Bv: ∀f ts v,Kp f ts v->ts=[]/\f.mode=.returning)
 {c0:AX} {cs:List AX} {cs0:List AX} (s0:VS) (ρ0:Rn)
def AIi (C:Cx) (R:RF C.SR) (sb:Nat) (Kp:AX->List AX->AL->Prop) (c0:AX) (cs cs0:List AX) (s0:VS) (ρ0:Rn) (_:Nat) (g:Ac) (o:Own C.SR):Prop:=
 ∃(a0 a1 a2 a3 a6 a9 a10 a11 a12 LD XT PE a16 a17 OU OV a20 a21 a22 a23 a24 a27 a28:AP) (cnt e:Int) (ρ1:Rn) (v1:AL) (h1:OG R ρ1),ae Tryz.prog g (G (fr 46 #[a0,a1,a2,a3,.int .i64 cnt,.int .i64 e,a6,.pointer (AA ⟨sb,0,AB⟩),.pointer (AA ⟨C.wg,0,AB⟩),a9,a10,a11,a12,LD,XT,PE,a16,a17,OU,OV,a20,a21,a22,a23,a24,.chan (AA C.bs),.tuple #[],a27,a28] [.inRegion ZV [],.code Px] [] AB) cs0)/\o=og K2.F 2 R ρ1 v1 h1/\Jq Af Kp ⟨c0.finish (.tuple #[.int .i64 cnt,.int .i64 e]),cs,v1⟩ s0/\ρ0.le ρ1
def yw (C:Cx) (R:RF C.SR) (s:ByteArray) (sz sb:Nat) (Kp:AX->List AX->AL->Prop) (c0:AX) (cs cs0:List AX) (s0:VS) (ρ0:Rn) (st:VS):Prop:=
 ∀(k lo d blk bk cap:Nat) (cnt e:Int) (to to' xv NT r9 r10 r11 r13 IA r16 IB OQ:AP) (a0 a2 a3 a6 a10 a11 a12 LD a20 a21 a22 a23 a24 a25 a26 a27 a28:AP) (v:AL) (ρ:Rn) (h:OG R ρ),st=⟨fr 46 (TA (Fg 79 s sz) to NT s cnt e sz lo r9 r10 r11 (.int .i64 ((lo:Int)+(d:Int))) r13 (.slice (AA ⟨blk,0,AB⟩) d cap) IA r16 IB OQ) [.inRegion Ry [0],.code Us,.inLoop Ah.loop,.inBlock 0,.code .ret] [] AB,c0::cs,v⟩->Jq Af Kp st s0->ρ0.le ρ->lo=k*sz->lo<s.size->d=min sz (s.size - lo)->Az K2.F ρ to to'->ρ.r blk bk->xv=.slice (AA ⟨bk,0,AB⟩) d cap->
  PM C (AIi C R sb Kp c0 cs cs0 s0 ρ0) .work (k+1) (G (fr 46 #[a0,to',a2,a3,.int .i64 cnt,.int .i64 e,a6,.pointer (AA ⟨sb,0,AB⟩),.pointer (AA ⟨C.wg,0,AB⟩),xv,a10,a11,a12,LD,.chan (AA C.bc),.tuple #[xv,.bool true],.bool true,xv,to',xv,a20,a21,a22,a23,a24,a25,a26,a27,a28] (.inRegion ZR [2,3]:: .code ZT:: .code ZU:: .inBlock 1:: .inLoop GZ:: .inBlock 0::[.code Pv]) [] AB) cs0) (og K2.F 2 R ρ v h)
include hP hCs hNN hsz hsz2 hs hsb hrd hlive Bv
theorem nz{k lo:Nat}{cnt e:Int}{to to' NT r9 r10 r11 r12 r13 Js IA r16 IB OQ:AP}{a0 a2 a3 a6 a9 a10 a11 a12 LD PE a16 a17 OU OV a20 a21 a22 a23 a24 a25 a26 a27 a28:AP}{v:AL}{ρ:Rn}(h:OG R ρ)(hM: ∀st,Jq Af Kp st ⟨fr 46 (TA (Fg 79 s sz) to NT s cnt e sz lo r9 r10 r11 r12 r13 Js IA r16 IB OQ) [.code Ah.loop,.inLoop Ah.loop,.inBlock 0,.code .ret] [] AB,c0::cs,v⟩->yw C R s sz sb Kp c0 cs cs0 s0 ρ0 st)
  (hs0:Jq Af Kp ⟨fr 46 (TA (Fg 79 s sz) to NT s cnt e sz lo r9 r10 r11 r12 r13 Js IA r16 IB OQ) [.code Ah.loop,.inLoop Ah.loop,.inBlock 0,.code .ret] [] AB,c0::cs,v⟩ s0) (hρ:ρ0.le ρ) (hlo:lo=min (k*sz) s.size) (hto:Az K2.F ρ to to'):
  PM C (AIi C R sb Kp c0 cs cs0 s0 ρ0) .work k (G (fr 46 #[a0,to',a2,a3,.int .i64 cnt,.int .i64 e,a6,.pointer (AA ⟨sb,0,AB⟩),.pointer (AA ⟨C.wg,0,AB⟩),a9,a10,a11,a12,LD,.chan (AA C.bc),PE,a16,a17,OU,OV,a20,a21,a22,a23,a24,a25,a26,a27,a28] (.code GZ:: .inLoop GZ:: .inBlock 0::[.code Pv]) [] AB) cs0) (og K2.F 2 R ρ v h):=by
 have OX: ∀f ts v,Kp f ts v->ts=[]:=λf ts v x=>(Bv f ts v x).1
 classical
 refine AGp hP (λxv bk ob=>if hc:C.Cs k xv bk ob then og K2.F 2 R (ρ.add v.heap.size bk) {v with heap:=v.heap.push ob} (h.chunk (hCs _ _ _ _ hc).2.1) else og K2.F 2 R ρ v h) (λxv bk ob hc x=>?_) (λxv bk ob hc w hI hO hw=>?_) (λxv bk ob hc=>?_) (λhk=>?_)
 ·simp only[hc,dif_pos];constructor
  ·rintro⟨a,ha|⟨_,rfl⟩⟩;exact .inl ⟨a,ha⟩;exact .inr rfl
  rintro (⟨a,ha⟩|rfl);exact⟨a,.inl ha⟩;exact⟨_,.inr ⟨rfl,rfl⟩⟩
 ·simp only[hc,dif_pos];obtain⟨_,hb,cap,_,_,_,rfl⟩:=hCs _ _ _ _ hc;exact AGs AGt hb (h.chunk hb) hI hO hw
 ·simp only[hc,dif_pos];generalize h.chunk (hCs k xv bk ob hc).2.1=hOG;obtain⟨hlt,hb,cap,hc1,hc2,rfl,rfl⟩:=hCs _ _ _ _ hc;(have AIj:lo=k*sz:=by rw[hlo];exact Je (TJ hlt));obtain⟨d,hd⟩: ∃d,d=min sz (s.size - lo):=⟨_,rfl⟩;obtain⟨hp1,hp2⟩:=tN (s:=s) (lo:=lo) (sz:=sz) (d:=d) Ad hd;(have hp2':(pc s sz k).length=d:=by unfold pc;rw[<- AIj];exact hp2);(have hp1':Jr (pc s sz k)=Q8 (s.extract lo (lo+d)):=by unfold pc;rw[<- AIj];exact hp1.symm);rw[hp2'] at hc1 hc2⊢;rw[hp1']
  obtain⟨s',⟨t,hs'⟩,hn⟩:=ARm (Kp:=Kp) OX (Good:=λs'=>∃t,s'=⟨fr 46 (TA (Fg 79 s sz) to NT s cnt e sz lo (.bool true) (.int .i64 ((s.size:Int) - lo)) (.int .i64 d) (.int .i64 ((lo:Int)+(d:Int))) (.string (s.extract lo (lo+d))) (.slice (AA ⟨v.heap.size,0,AB⟩) d cap) IA r16 IB OQ) [.inRegion Ry [0],.code Us,.inLoop Ah.loop,.inBlock 0,.code .ret] [] AB,c0::cs,{v with heap:=v.heap.push (.cells ((Q8 (s.extract lo (lo+d))).toArray++IK (cap - d) (.int .u8 0)) 5),drawn:=v.drawn+1,tape:=t}⟩)
   (src:=Fg 79 s sz) (to:=to) (NT:=NT) (s:=s) (cnt:=cnt) (e:=e) (n:=sz) (lo:=lo) (r9:=r9) (r10:=r10) (r11:=r11) (r12:=r12) (r13:=r13) (Js:=Js) (IA:=IA) (r16:=r16) (IB:=IB) (OQ:=OQ) (kt:=[.inLoop Ah.loop,.inBlock 0,.code .ret]) (cs:=cs) (c0:=c0) (v:=v)
   Ad hs Ad (d:=d) Ad hc2 (λt=>.fin ⟨t,rfl⟩)
  have hn':Jq Af Kp s' ⟨fr 46 (TA (Fg 79 s sz) to NT s cnt e sz lo r9 r10 r11 r12 r13 Js IA r16 IB OQ) [.code Ah.loop,.inLoop Ah.loop,.inBlock 0,.code .ret] [] AB,c0::cs,v⟩:=by
   rcases hn with e1|hn
   ·exfalso;rw[hs'] at e1;have:=congrArg (λx:VS=>x.v.drawn) e1;simp at this
   exact hn
  have:=hM s' hn' k lo d v.heap.size bk cap cnt e to to' (.slice (AA ⟨bk,0,AB⟩) d cap) NT (.bool true) (.int .i64 ((s.size:Int) - lo)) (.int .i64 d) (.string (s.extract lo (lo+d))) IA r16 IB OQ a0 a2 a3 a6 a10 a11 a12 LD a20 a21 a22 a23 a24 a25 a26 a27 a28 _ _ (h.chunk hb) hs' (hn'.trans hs0) (hρ.trans (Rn.U9 _ _ _)) AIj Ad hd (hto.mono (Rn.U9 _ _ _)) (.inr ⟨rfl,rfl⟩) rfl;rw[AGr (v':=s'.v) (by rw[hs']) (by rw[hs'])];rw[hs'];exact this
 have hge:s.size<=lo:=by
  (have:s.size<=k*sz:=by rw[hk];exact hNN);omega
 obtain⟨s',hs',hn⟩:=ARn (Kp:=Kp) OX (Good:=λs'=>s'=⟨c0.finish (.tuple #[.int .i64 cnt,.int .i64 e]),cs,v⟩) (src:=Fg 79 s sz) (to:=to) (NT:=NT) (s:=s) (cnt:=cnt) (e:=e) (n:=sz) (lo:=lo) (r9:=r9) (r10:=r10) (r11:=r11) (r12:=r12) (r13:=r13) (Js:=Js) (IA:=IA) (r16:=r16) (IB:=IB) (OQ:=OQ) (cs:=cs) (c0:=c0) (v:=v) hge (.fin rfl)
 have hn':Jq Af Kp ⟨c0.finish (.tuple #[.int .i64 cnt,.int .i64 e]),cs,v⟩ s0:=by
  rw[<- hs'];rcases hn with e1|hn;rw[e1];exact hs0;exact hn.trans hs0
 exact ABc hP (o:=og K2.F 2 R ρ v h) hsb (λw hI=>hrd w hI.2) hlive (λg hg=>⟨a0,to',a2,a3,a6,a9,a10,a11,a12,LD,.chan (AA C.bc),.tuple #[.slice AB 0 0,.bool false],.bool false,a17,OU,OV,a20,a21,a22,a23,a24,a27,a28,cnt,e,ρ,v,h,hg,rfl,hn',hρ⟩)
end
end Go.Proofs.YtkkgcebhfghdnaaGreatDoor
