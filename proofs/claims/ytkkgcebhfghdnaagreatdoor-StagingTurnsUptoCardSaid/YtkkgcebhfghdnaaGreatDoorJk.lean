/- Part 11 of what that rests on; no condition. -/
import Derived.Test.YtkkgcebhfghdnaaGreatDoorJj
import Derived.Conc.DeferLaws
import Derived.Lib.Hide
set_option maxRecDepth 100000
set_option maxHeartbeats 8000000
open Array renaming replicate_zero→Lt, replicate→IK
open Go.Instr renaming sliceBounds→Qm, buildSlice→Zr, sliceBound→PV, enterLoop→Vu, sliceAt→LJ, slice→Vs, yield→Zy, fill→MI, box→Su
open Go.Builtin renaming zeroCells→Nh
open Go.Result renaming andThen_ok→Om
open Option renaming getD_some→Dt, map_none→Xy, map_some→FY, none→AB, some→AA
open List renaming length_cons→ES, cons_append→Dj, length_nil→Ha, nil_append→Dy
open Go.IntKind renaming wrap_i64→NJ
open Nat renaming reduceAdd→Jn, reduceSub→Lp
open Go.Region renaming wanted→DV
open Go.Sem renaming run_bind→Eh, runT_eq→Ik, runT→GX
open Go.World renaming cell?→PU
open Go.Value renaming cells→Nc, int→KU
open Go.GStep renaming after→DW
open Go.Frame renaming enter→BV
open Go.stepG renaming apply→Ht, exec→JA
open Go.Obj renaming cells→P7
open Go.Addr renaming add→Tt
open Go renaming Deferred→EK, callFunc→Ep, Program→BL, Operand→DT, FuncId→Bi, execOp→BG, Value→AP, undef→AU, World→AL, Frame→AX, stepG→Ae
open Prod renaming fst→Aa
namespace Go.Proofs.YtkkgcebhfghdnaaGreatDoor
open Go Go.Conc Go.RowKit
section
variable {V:BL} {Kp:AX->List AX->AL->Prop}
def Vr (V:BL) (Kp:AX->List AX->AL->Prop) (Good:VS->Prop) (s:VS):Prop:=∃s',Good s'/\(s'=s\/Jq V Kp s' s)
def nT (V:BL) (Kp:AX->List AX->AL->Prop) (Good:VS->Prop) (s:VS):Prop:=∃s',Good s'/\Jq V Kp s' s
variable {Good:VS->Prop} {f f1:AX} {ts Di:List AX} {v v1:AL} {es:Array Event}
theorem Vr.fin{s:VS}(h:Good s):Vr V Kp Good s:=⟨s,h,.inl rfl⟩
theorem nT.vr{s:VS}(h:nT V Kp Good s):Vr V Kp Good s:=h.imp λ_ x=>⟨x.1,.inr x.2⟩
theorem uq(hk: ¬Kp f ts v)(t:Nat->Question->Nat)(ht: ∀j,j<v.drawn->t j=v.tape j)(h:Ae V true (G f (ts++[door V])) (v.DL t)=.go (G f1 (Di++[door V])) v1 es)(next:Vr V Kp Good ⟨f1,Di,v1⟩):nT V Kp Good ⟨f,ts,v⟩:=by
 have hn:Nx V Kp ⟨f1,Di,v1⟩ ⟨f,ts,v⟩:=⟨hk,t,ht,es,h⟩;obtain⟨s',hg,e|hp⟩:=next;subst e;exact⟨_,hg,.one hn⟩;exact⟨s',hg,.cons hn hp⟩
theorem ND(hk: ¬Kp f ts v)(h:Ae V true (G f (ts++[door V])) v=.go (G f1 (Di++[door V])) v1 es)(next:Vr V Kp Good ⟨f1,Di,v1⟩):nT V Kp Good ⟨f,ts,v⟩:=uq hk v.tape (λ_ _=>rfl) h next
end
section
variable {V:BL} {Kp:AX->List AX->AL->Prop} (Bv: ∀f ts v,Kp f ts v->ts=[]) {Good:VS->Prop} {fn:Bi} {T:Array AP} {k:List Item} {D:List EK} {cs:List AX} {c0:AX} {v v1:AL}
 {ops:Array Oper} {i:Nat} {rest:List Nat} {op:Oper}
include Bv
theorem Ia{f1:AX}{f:AX}(h: ∀w,Ae V true (G f (c0::cs++[door V])) w=.go (G f1 (c0::cs++[door V])) w #[])(next:Vr V Kp Good ⟨f1,c0::cs,v⟩):Vr V Kp Good ⟨f,c0::cs,v⟩:=
 (ND (λx=>by cases Bv _ _ _ x) (h v) next).vr
theorem AFY(x:AP)(ho:ops[i]? =AA op)(hw:DV op (yielded ops T)=true)(hr: ∀w,(BG (ev T) op).run V w=.ok (.value x) w)
  (next:Vr V Kp Good ⟨fr fn (put T op.dst x) (.inRegion ops rest::k) D AB,c0::cs,v⟩):Vr V Kp Good ⟨fr fn T (.inRegion ops (i::rest)::k) D AB,c0::cs,v⟩:=
 (ND (λx=>by cases Bv _ _ _ x) (XM ho hw (.inl rfl) (hr v)) next).vr
theorem vrv{x:Value}{T':Array Value}(next:Vr V Kp Good ⟨fr fn T' (.inRegion ops rest::k) D none,c0::cs,v⟩)(ho:ops[i]? =some op:=by exact rfl)(hw:Region.wanted op (yielded ops T)=true:=by rfl)
  (hr: ∀w,(execOp (ev T) op).run V w=.ok (.value x) w:=by intro w;unfold ev;go_simp;try exact rfl) (hT:Nf (put T op.dst x) T':=by simp only[put];walk_nrm;exact rfl):Vr V Kp Good ⟨fr fn T (.inRegion ops (i::rest)::k) D none,c0::cs,v⟩:=
 AFY Bv x ho hw hr (by have e:put T op.dst x=T':=hT;rw[e];exact next)
theorem AIP{f:Bi}{args:Array AP}(ho:ops[i]? =AA op)(hw:DV op (yielded ops T)=true)(hr: ∀w,(BG (ev T) op).run V w=.ok (.enter f args) w)
  (next:Vr V Kp Good ⟨BV V f args .normal,fr fn T (.inRegion ops (i::rest)::k) D AB::c0::cs,v⟩):Vr V Kp Good ⟨fr fn T (.inRegion ops (i::rest)::k) D AB,c0::cs,v⟩:=
 (ND (λx=>by cases Bv _ _ _ x) (Di:=fr fn T (.inRegion ops (i::rest)::k) D AB::c0::cs) (s_call ho hw (.inl rfl) (hr v)) next).vr
theorem uu{f:Func}{x:AP}(hf:V.funcs[fn]? =AA f)(hr: ∀w,(results f T).runT V w #[]=(.ok x w,#[]))(next:Vr V Kp Good ⟨c0.finish x,cs,v⟩):Vr V Kp Good ⟨{fr fn T k [] AB with mode:=.returning},c0::cs,v⟩:=
 (ND (λx=>by cases Bv _ _ _ x) (nR hf (hr v)) next).vr
end
theorem QL{p q:Prop}(n:p)(h:p->q:=by intro n;first|with_reducible exact Ia Bv (λw=>J5) n|with_reducible exact Ia Bv (λw=>s_reg) n|with_reducible exact Ia Bv (λw=>F8) n|with_reducible exact Ia Bv (λw=>QH) n|with_reducible exact Ia Bv (λw=>LC) n|with_reducible exact Ia Bv (λw=>Np) n|with_reducible exact Ia Bv (λw=>Q5) n|((with_reducible refine Ia Bv (λw=>QI ?_) n)<;>rfl)|((with_reducible refine Ia Bv (λw=>QJ ?_) n)<;>rfl)|exact vrv Bv n|exact Ia Bv (λw=>J5) n|exact Ia Bv (λw=>s_reg) n|exact Ia Bv (λw=>F8) n|exact Ia Bv (λw=>QH) n|exact Ia Bv (λw=>LC) n|exact Ia Bv (λw=>Np) n|exact Ia Bv (λw=>Q5) n|exact Ia Bv (λw=>QI rfl) n|exact Ia Bv (λw=>QJ rfl) n):q:=h n
section
variable {a:Addr}{fl:Array Bool}{xs:Array DT}{ats:Array TypeId}{T p:Array AP}{fn:Func}{f:Bi}{l:List UInt8}{c n:Nat}{SR:Nat->Prop}{op:Oper}{P:BL}{ty:TypeId}{v:AP}{w:AL}
theorem IM{c:Code}(hf:P.funcs[f]? =AA fn)(hb:fn.body=AA c):BV P f p .normal=fr f (p++IK (fn.ntmps - p.size) AU) [.code c] [] AB:=by
 unfold BV;simp[hf,hb,fr]
theorem AD3{c:Code}(hf:P.funcs[f]? =AA fn)(hb:fn.body=AA c):BV P f p .deferred=fr f (p++IK (fn.ntmps - p.size) AU) [.code c] [] AB true:=by
 unfold BV;simp[hf,hb,fr]
def Jr (l:List UInt8):List AP:=l.map λb=>.int .u8 b.toNat
theorem ABY: ∀u∈Jr l,u.oneCell'=true:=by
 intro u hu;obtain⟨b,_,rfl⟩:=Bz.1 hu;rfl
theorem XQ{R:RF SR}{Gb:Nat->Prop}{L L':List (Nat×Obj)}(h: ∀p,p∈L↔p∈L'):ow R Gb L=ow R Gb L':=by
 have h1: ∀b,b∈L.map Aa↔b∈L'.map Aa:=λb=>by
  simp only[Bz,h]
 have e1:(ow R Gb L).O=(ow R Gb L').O:=funext λb=>propext (or_congr_right (h1 b));have e2:(ow R Gb L).I=(ow R Gb L').I:=funext λw=>propext (and_congr_left' (forall_congr' λp=>by rw[h]));generalize ow R Gb L=o at e1 e2;generalize ow R Gb L'=o' at e1 e2;obtain⟨O,I,st⟩:=o;obtain⟨O',I',st'⟩:=o';simp only at e1 e2;subst e1 e2;rfl
theorem nU{W:WB}{x:List (Nat×Obj)}{s1 s2:LS}{q r:Nat×Obj}: ∀p,p∈q::r::Lw W x s1 s2↔p∈Lw W (q::r::x) s1 s2:=by
 intro p;simp only[Lw,BB,Be];constructor
 ·rintro (h|h|h|h|h|h|h|h)<;>simp[h]
 rintro (h|h|h|h|h|h|h|h)<;>simp[h]
theorem ak{l:Nat}{r:Loop}{t:Tmp}(hl:w.heap[l]? =AA (.loop r))(hp:r.params= #[t]):
  (Zy l #[v]).run P w=.ok (.round l r.fn (r.tmps.setIfInBounds t v) r.assign r.body) w/\(Zy l #[v]).events P w #[]= #[⟨.obj l,false,false⟩]:=by
 have e:(Zy l #[v]).runT P w #[]=(.ok (.round l r.fn (r.tmps.setIfInBounds t v) r.assign r.body) w,#[⟨.obj l,false,false⟩]):=by
  unfold Zy;rw[VL hl,hp];have e1:(#[v]:Array AP).size=(#[t]:Array Tmp).size:=rfl;simp only[e1,ne_eq,not_true_eq_false,if_false];(have e2:(#[t]:Array Tmp).zip #[v]= #[(t,v)]:=by simp);rw[e2];simp[pure]
 rw[Ik] at e;exact⟨(Prod.mk.inj e).1,(Prod.mk.inj e).2⟩
theorem TZ{f x:DT}{l:Nat}(hop:op.op=.call {callee:=.value f,args:=#[x],argTypes:=ats})(hf:ev T f=.func (.yield l) #[] #[])(hx:ev T x=v):BG (ev T) op=Zy l #[v]:=by
 unfold BG;simp only[hop,resolve,hf,J3,BK,EG,hx];rfl
theorem Gq{o:Own SR}{es:Array Event}(h:es= #[]): ∀e∈es,af o e:=by
 subst h;intro e he;simp at he
theorem Ut{b:Builtin}(hop:op.op=.call {callee:=.builtin b,args:=xs,argTypes:=ats}):BG (ev T) op=builtin b ats op.type (xs.map fun| .const _=>true|_=>false) (xs.map (ev T)):=by
 unfold BG;simp only[hop,resolve,invoke];rfl
theorem Fq{a:Option Addr}:
  (builtin .len #[62] ty fl #[.slice a n c]).run Tryz.prog w=.ok (.value (.int .i64 (n:Int))) w/\(builtin .len #[62] ty fl #[.slice a n c]).events Tryz.prog w #[]= #[]:=⟨rfl,rfl⟩
theorem IP{p q:Prop}(h:q)(k:q->p:=by intro h;rw[Ut (op:=_) rfl];simp only[J3,BK,EG];exact h):p:=k h
theorem Hm{a b:Nat}:
  (builtin .min #[3,3] ty fl #[.int .i64 (a:Int),.int .i64 (b:Int)]).run Tryz.prog w=.ok (.value (.int .i64 ((min a b:Nat):Int))) w/\(builtin .min #[3,3] ty fl #[.int .i64 (a:Int),.int .i64 (b:Int)]).events Tryz.prog w #[]= #[]:=by
 constructor
 ·(have h:(if (b:Int)<(a:Int) then (b:Int) else (a:Int))=((min a b:Nat):Int):=by split<;>omega);(have h2:(builtin .min #[3,3] ty fl #[.int .i64 (a:Int),.int .i64 (b:Int)]).run Tryz.prog w=.ok (.value (.int .i64 (if (b:Int)<(a:Int) then (b:Int) else (a:Int)))) w:=by rfl);rw[h2,h]
 rfl
theorem F9{vs:Array AP}(hop:op.op=.call {callee:=.value (.func f),args:=xs,argTypes:=ats})(hx:xs.map (ev T)=vs):BG (ev T) op=Ep f vs:=by
 unfold BG;simp only[hop,resolve,hx];show Ep f (#[]++vs++ #[])=_;simp
theorem uw:rP Tryz.f75= #[7]:=rfl
theorem iR:rP Tryz.f79= #[8]:=rfl
theorem YG:(Ep 78 p).events Tryz.prog w #[]= #[]:=by rfl
theorem eX:(binOp .eql 62 (.slice (AA a) n c) (.slice AB 0 0)).events Tryz.prog w #[]= #[]:=by rfl
section
variable {C:Cx} (hP:C.P=Tryz.prog) {k:Nat} {s:Bool} {R:RF C.SR} {Gb:Nat->Prop} {L:List (Nat×Obj)} {cs:List AX}
include hP
theorem w21(hl:l.length=n)(hn:0<n)(hle:n<=1073741824)(hnews: ∀w,R.R w->∀j v,(Jr l)[j]? =AA v->w.cell? (a.add j)=AA v)(yt:C.SR a.block){WO:AX}
  (next: ∀m0 m cap,n<=cap->VO n 5 cap->(∃w,(ow R Gb L).I w/\w.heap.size=m0)->m0<m->PW C (.work s) k (G (WO.finish (.slice (AA ⟨m,0,AB⟩) n cap)) cs) (ow R Gb ((m,.cells ((Jr l).toArray++IK (cap - n) (.int .u8 0)) 5)::(m0,.cells #[] 5)::L))):
  PW C (.work s) k (G (BV Tryz.prog 78 #[.slice (AA a) n c] .normal) (WO::cs)) (ow R Gb L):=by
 rw[IM Tryz.func78 rfl];simp only[Tryz.f78,Iq,ES,Ha,Jn,Lp,KE,Lt,KF,KH,Dy,Dj];(iterate 8 refine Fa ?_);refine EC (Ce hP) ?_ (he:=by intro w hw;unfold ev;simp[go_sem,eX]);refine Fa ?_;refine CZ (Ce hP) (λw=>s_cond (b:=false) rfl) rfl ?_;simp only[if_true,C9,↓reduceIte];(iterate 3 refine Fa ?_);refine OO (Ce hP) (λm=>.slice (AA ⟨m,0,AB⟩) 0 0) (.cells #[] 5) rfl rfl (.inl rfl) (λw hw=>?_) (λw hw=>?_) λm0 hm0=>?_
 ·unfold ev;simp[go_sem,BG,Zr,newRow,MI]
 ·unfold ev;simp[go_sem,BG,Zr,newRow,MI]
 simp only[put];walk_nrm;refine Fa ?_;refine AFX (Ce hP) (.tmp 5) (.tmp 6) rfl (t:=62) (e:=5) (z:=.int .u8 0) Tryz.underlying62 rfl rfl rfl rfl rfl (b0:=m0) rfl (D9 ..) (a:=a) (n:=n) (c:=c) rfl (news:=Jr l) (by simp[Jr,hl]) hn hle ABY hnews yt rfl rfl rfl λm cap h1 h2 h3=>?_;simp only[put];walk_nrm;(iterate 2 refine Fa ?_);refine CZ (Ce hP) (λw=>OM) rfl ?_;refine JS (Ce hP) Tryz.func78 (λw=>MR rfl w) ?_;refine next m0 m cap h1 h2 hm0 ?_;obtain⟨w,hw,e⟩:=h3;have:=(Df.1 (hw.1 (m0,.cells #[] 5) (D9 ..))).1;omega
end
end
section
variable {T:Array AP}{d i:Nat}
def TA (src to NT:AP) (s:ByteArray) (cnt e n:Int) (lo:Nat) (r9 r10 r11 r12 r13 Js IA r16 IB OQ:AP):Array AP:=
 #[src,to,NT,.string s,.int .i64 cnt,.int .i64 e,.int .i64 n,.int .i64 (s.size:Int),.int .i64 (lo:Int),r9,r10,r11,r12,r13,Js,IA,r16,IB,OQ]
theorem AIQ{s:ByteArray}{g:Nat}{w:AL}(b1:i<=g)(b2:g<=s.size):(LJ 9 (.string s) (AA (.int .i64 (i:Int))) (AA (.int .i64 (g:Int))) AB).run Af w=.ok (.string (s.extract i g)) w:=by
 simp[LJ,Vs,Qm,PV,asIntOf,b1,b2]
def Q8 (s:ByteArray):List AP:=s.data.toList.map λb=>.int .u8 b.toNat
section
variable {Kp:AX->List AX->AL->Prop} (Bv: ∀f ts v,Kp f ts v->ts=[]) {Good:VS->Prop} {cs:List AX} {c0:AX} {v:AL}
 {src to NT:AP} {s:ByteArray} {cnt e n:Int} {lo:Nat} {r9 r10 r11 r12 r13 Js IA r16 IB OQ:AP} {kt:List Item}
include Bv
theorem ALl{fn:Bi}{k:List Item}{ops:Array Oper}{rest:List Nat}{op:Oper}(xi:DT)(hop:op.op=.call {callee:=.builtin .append,args:=#[.const (.slice AB 0 0),xi],argTypes:=#[62,9]})
  {p:ByteArray} (hx:ev T xi=.string p) (h0:0<p.size) (h1:p.size<=1073741824) {cap:Nat} (hcap:VO p.size 5 cap) (ho:ops[i]? =AA op) (hw:DV op (yielded ops T)=true)
  (next: ∀t,Vr Af Kp Good ⟨fr fn (put T op.dst (.slice (AA ⟨v.heap.size,0,AB⟩) p.size cap)) (.inRegion ops rest::k) [] AB,c0::cs,{v with heap:=v.heap.push (.cells ((Q8 p).toArray++IK (cap - p.size) (.int .u8 0)) 5),drawn:=v.drawn+1,tape:=t}⟩):
  Vr Af Kp Good ⟨fr fn T (.inRegion ops (i::rest)::k) [] AB,c0::cs,v⟩:=by
 obtain⟨_,x,hx'⟩:=hcap;let t:Nat->Question->Nat:=λj q=>if j=v.drawn then x else v.tape j q
 have hg:grownCap (v.DL t) p.size 0 5=cap:=by
  show (Question.appendCap p.size 0 5).cut (t v.drawn _)=cap;simp only[t,if_true];exact hx'.symm
 have hi: ∃ie,Af.info? 5=AA ie/\ie.zero=AA (.int .u8 0)/\ie.bytes=1:=by
  have h:(Af.info? 5).map (λi=>(i.zero,i.bytes))=AA (AA (.int .u8 0),1):=by kernel_rfl
  cases hq:Af.info? 5 with
  |none=>rw[hq] at h;cases h|some ie=>
   rw[hq] at h;simp only[FY,DN,Nw] at h;exact⟨ie,rfl,h.1,h.2⟩
 obtain⟨ie,hi1,hi2,hi3⟩:=hi;have hr:=run_append_nil_string (P:=Af) (w:=v.DL t) 62 9 op.type 5 ie (.int .u8 0) ((Ah.und _).trans Tryz.underlying62) ((Ah.und _).trans Tryz.underlying9) hi1 hi2 p h0 Ad (by rw[hi3];omega);rw[hg] at hr
 have hzz: ∀m,Nh (KU .u8 0).cells m=IK m (.int .u8 0):=by
  intro m;unfold Nh;apply Z9;simp[Nc];intro j h1 h2;simp[Nc,xQ]
 rw[hzz] at hr
 have hd:p.data.map (λb=>KU .u8 b.toNat)=(Q8 p).toArray:=by
  unfold Q8;rw[<- Y6,Array.toArray_toList]
 rw[hd] at hr
 have hrun:(BG (ev T) op).run Af (v.DL t)=.ok (.value (.slice (AA ⟨v.heap.size,0,AB⟩) p.size cap)) {v with heap:=v.heap.push (.cells ((Q8 p).toArray++IK (cap - p.size) (.int .u8 0)) 5),drawn:=v.drawn+1,tape:=t}:=by
  rw[Ut hop];simp only[J3,BK,EG];rw[show ev T (.const (.slice AB 0 0))=.slice AB 0 0 from rfl,hx];simp only[builtin,Eh,hr,Om,Sem.run_pure];rfl
 refine (uq (λx=>by cases Bv _ _ _ x) t (λj hj=>?_) (XM ho hw (.inl rfl) hrun) (next t)).vr;(have: ¬j=v.drawn:=by omega);funext q;simp only[t,this,if_false]
theorem ARm(hlt:lo<s.size)(hs:s.size<=1073741824)(hn:1<=n)(hd:(d:Int)=min n ((s.size:Int) - lo)){cap:Nat}(hcap:VO d 5 cap)
  (next: ∀t,Vr Af Kp Good ⟨fr 46 (TA src to NT s cnt e n lo (.bool true) (.int .i64 ((s.size:Int) - lo)) (.int .i64 d) (.int .i64 ((lo:Int)+(d:Int))) (.string (s.extract lo (lo+d))) (.slice (AA ⟨v.heap.size,0,AB⟩) d cap) IA r16 IB OQ) (.inRegion Ry [0]:: .code Us::kt) [] AB,c0::cs,
   {v with heap:=v.heap.push (.cells ((Q8 (s.extract lo (lo+d))).toArray++IK (cap - d) (.int .u8 0)) 5),drawn:=v.drawn+1,tape:=t}⟩):
  Vr Af Kp Good ⟨fr 46 (TA src to NT s cnt e n lo r9 r10 r11 r12 r13 Js IA r16 IB OQ) (.code Ah.loop::kt) [] AB,c0::cs,v⟩:=by
 have Next:=AQ next;clear next;unfold TA at Next⊢;(have hw1:IntKind.i64.wrap ((s.size:Int) - (lo:Int))=(s.size:Int) - lo:=by rw[NJ];omega);(have hd1:1<=d:=by omega);(have hd2:lo+d<=s.size:=by omega);(have hw2:IntKind.i64.wrap ((lo:Int)+(d:Int))=(lo:Int)+(d:Int):=by rw[NJ];omega);have hps:(s.extract lo (lo+d)).size=d:=by rw[ByteArray.size_extract];omega
 have hsl: ∀w,(LJ 9 (.string s) (AA (.int .i64 (lo:Int))) (AA (.int .i64 ((lo:Int)+(d:Int)))) AB).run Af w=.ok (.string (s.extract lo (lo+d))) w:=λw=>by
  have:=AIQ (s:=s) (i:=lo) (g:=lo+d) (w:=w) Ad hd2;rwa[show ((lo+d:Nat):Int)=(lo:Int)+(d:Int) by omega] at this
 (have hif:(if (s.size:Int) - (lo:Int)<n then (s.size:Int) - (lo:Int) else n)=(d:Int):=by split<;>omega);clear hd hn;(iterate 5 refine QL ?_);refine Ia Bv (λw=>s_cond (b:=true) rfl) ?_;simp only[if_false,C9,↓reduceIte];(iterate 7 refine QL ?_);rw[<- hps] at hcap;refine ALl Bv (op:=_) (.tmp 13) rfl (p:=s.extract lo (lo+d)) rfl Ad Ad hcap rfl rfl λt=>?_;simp only[put];walk_nrm;rw[hps];(iterate 3 refine QL ?_);rw[hif];exact Next.out t
omit Bv in
theorem nV{P:BL}{f:Func}{a b:Tmp}(h:f.results= #[.tmp a,.tmp b])(w:AL):(results f T).runT P w #[]=(.ok (.tuple #[T.getD a AU,T.getD b AU]) w,#[]):=by
 rw[Ik];simp[results,h]
theorem AFZ(next:Vr Af Kp Good ⟨c0.finish (.tuple #[T.getD 4 AU,T.getD 5 AU]),cs,v⟩):Vr Af Kp Good ⟨fr 46 T [.code .ret] [] AB,c0::cs,v⟩:=by
 refine Ia Bv (λw=>OM) ?_;exact (ND (λx=>by cases Bv _ _ _ x) (nR (mn:=true) uo (nV rfl v)) next).vr
theorem ARn(hlt:s.size<=lo)(next:Vr Af Kp Good ⟨c0.finish (.tuple #[.int .i64 cnt,.int .i64 e]),cs,v⟩):
  Vr Af Kp Good ⟨fr 46 (TA src to NT s cnt e n lo r9 r10 r11 r12 r13 Js IA r16 IB OQ) [.code Ah.loop,.inLoop Ah.loop,.inBlock 0,.code .ret] [] AB,c0::cs,v⟩:=by
 have Next:=AQ next;clear next;unfold TA;(have hd0:decide (lo<s.size)=false:=by simp;omega);(have hlt': ¬lo<s.size:=by omega);(iterate 5 refine QL ?_);refine Ia Bv (λw=>s_cond (b:=false) rfl) ?_;simp only[if_true,C9,↓reduceIte];refine Ia Bv (λw=>s_exit rfl) ?_;exact AFZ Bv Next.out
theorem ALm(he:e≠0){e0:Int}(next:Vr Af Kp Good ⟨c0.finish (.tuple #[.int .i64 cnt,.int .i64 e]),cs,v⟩):
  Vr Af Kp Good ⟨(fr 46 (TA src to NT s cnt e0 n lo r9 r10 r11 r12 r13 Js IA r16 IB OQ) [.inRegion Ry [0],.code Us,.inLoop Ah.loop,.inBlock 0,.code .ret] [] AB).finish (.int .i64 e),c0::cs,v⟩:=by
 have Next:=AQ next;clear next;unfold TA;rw[EH (o:=_) rfl];simp only[put];walk_nrm;(have hne:(e !=0)=true:=by simpa using he);(iterate 8 refine QL ?_);refine Ia Bv (λw=>s_cond (b:=true) rfl) ?_;simp only[if_true,if_false,↓reduceIte];refine Ia Bv (λw=>s_exit rfl) ?_;exact AFZ Bv Next.out
theorem APU{e0 c2:Int}(hc2:IntKind.i64.wrap (cnt+1)=c2)(next:Vr Af Kp Good ⟨fr 46 (TA src to NT s c2 0 n (lo+d) r9 r10 r11 (.int .i64 ((lo:Int)+(d:Int))) r13 Js (.int .i64 0) (.int .i64 0) (.bool false) (.int .i64 c2)) [.code Ah.loop,.inLoop Ah.loop,.inBlock 0,.code .ret] [] AB,c0::cs,v⟩):
  Vr Af Kp Good ⟨(fr 46 (TA src to NT s cnt e0 n lo r9 r10 r11 (.int .i64 ((lo:Int)+(d:Int))) r13 Js IA r16 IB OQ) [.inRegion Ry [0],.code Us,.inLoop Ah.loop,.inBlock 0,.code .ret] [] AB).finish (.int .i64 0),c0::cs,v⟩:=by
 have Next:=AQ next;clear next;unfold TA at Next⊢;rw[EH (o:=_) rfl];simp only[put];walk_nrm;(have hw0:IntKind.i64.wrap 0=0:=by decide);(iterate 8 refine QL ?_);refine Ia Bv (λw=>s_cond (b:=false) rfl) ?_;simp only[if_true,C9,↓reduceIte];(iterate 7 refine QL ?_);(have hc:((lo+d:Nat):Int)=(lo:Int)+(d:Int):=by omega);rw[<- hc];rw[<- hc] at Next;exact Next.out
end
end
theorem ABZ{T:Array AP}{op:Oper}{f:DT}{xs:Array DT}{ats:Array TypeId}{g:Bi}{q vs:Array AP}(hop:op.op=.call {callee:=.value f,args:=xs,argTypes:=ats})(hf:ev T f=.func (.func g) #[] q)(hx:xs.map (ev T)=vs):BG (ev T) op=Ep g (vs++q):=by
 unfold BG;simp only[hop,resolve,Deferred.ofValue,hf,hx];show invoke (.fn (.func g) q) (#[]++vs)=_;simp[invoke]
theorem APV{w:AL}{p:Array AP}:(Ep 79 p).run Af w=.ok (.enter 79 p) w:=by
 unfold Ep;simp only[Eh];have:(program).run Af w=.ok Af w:=rfl;rw[this];simp only[Om,nO];rfl
section
variable {Kp:AX->List AX->AL->Prop} (Bv: ∀f ts v,Kp f ts v->ts=[]) {Good:VS->Prop} {cs:List AX} {c0:AX} {v:AL}
 {to:AP} {s:ByteArray} {n:Int}
include Bv
theorem ALn(next:Vr Af Kp Good ⟨fr 46 (TA (Fg 79 s n) to (.tuple #[.string s,.int .i64 n]) s 0 0 n 0 AU AU AU AU AU AU AU AU AU AU) [.code Ah.loop,.inLoop Ah.loop,.inBlock 0,.code .ret] [] AB,c0::cs,v⟩):
  nT Af Kp Good ⟨BV Af 46 #[Fg 79 s n,to] .normal,c0::cs,v⟩:=by
 have Next:=AQ next;clear next;unfold TA at Next;rw[IM uo rfl];simp only[Ah.f46,Iq,ES,Ha,Jn,Lp,KE,Lt,KF,KH,Dy,Dj];refine ND (λx=>by cases Bv _ _ _ x) J5 ?_;refine QL ?_;refine AIP Bv (f:=79) (args:=#[.int .i64 0,.int .i64 0,.int .i64 0,.int .i64 0,.int .i64 0,.string s,.int .i64 n]) rfl rfl (λw=>?_) ?_
 ·rw[ABZ (op:=_) (f:=.tmp 0) (g:=79) (q:=#[.string s,.int .i64 n]) (vs:=#[.int .i64 0,.int .i64 0,.int .i64 0,.int .i64 0,.int .i64 0]) rfl rfl WX,APV];rfl
 rw[IM nO rfl];simp only[Ah.f79,Iq,ES,Ha,Jn,Lp,KE,Lt,KF,KH,Dy,Dj];(iterate 4 refine QL ?_);refine Ia Bv (λw=>OM) ?_;refine uu Bv nO (λw=>nV rfl w) ?_;rw[EH (o:=_) rfl];simp only[put];walk_nrm;(iterate 9 refine QL ?_);refine Ia Bv (λw=>kS) ?_;exact Next.out
end
noncomputable def iT (y v1 v2:AP) (yb:Nat) (v5 v6 v7 c:AP):Array AP:=
 #[y,v1,v2,.pointer (AA ⟨yb,0,AB⟩),AU,v5,v6,v7,c,AU,AU,AU,AU,AU]
section
variable {C:Cx} (hP:C.P=Tryz.prog) {k:Nat} {R:RF C.SR} (hR:R.Ok) {W:WB} (hW:W.Ok) {x:List (Nat×Obj)} (hx: ∀p∈x,isCells p.2) {wg cb xb sb yb:Nat} (hS:kU C R cb sb) {src v1 v2 v5 v6 v7:AP}
 (hT1:W.T1=iQ wg cb xb sb C.bc src AU) (hyb:(yb,.cells #[.func (.yield W.l1) #[] #[]] 171)∈W.bx) {c29:AX} {cs:List AX}
include hP hR hW hx hS hT1 hyb
theorem w22{a:Addr}{n c:Nat}{l:List UInt8}(hl:l.length=n)(hn:0<n)(hle:n<=1073741824)(hnews: ∀w,R.R w->∀j v,(Jr l)[j]? =AA v->w.cell? (a.add j)=AA v)(yt:C.SR a.block)
  (hcs: ∀m cap,¬C.SR m->n<=cap->VO n 5 cap->C.Cs k (.slice (AA ⟨m,0,AB⟩) n cap) m (.cells ((Jr l).toArray++IK (cap - n) (.int .u8 0)) 5))
  (hgo: ∀x',(∀p∈x',isCells p.2)->PW C (.work false) (k+1) (G (c29.finish (.bool true)) cs) (ow R (λ_=>False) (Lw W x' LS.ready LS.ready)))
  (hstop: ∀x',(∀p∈x',isCells p.2)->PW C (.work true) k (G (c29.finish (.bool false)) cs) (ow R (λ_=>False) (Lw W x' LS.left LS.left))):
  PW C (.work false) k (G (fr 79 (iT (.func (.yield W.l1) #[] #[]) v1 v2 yb v5 v6 v7 (.slice (AA a) n c)) [.code (rA Tryz.f79),.beginRound,.code (rB Tryz.f79)] [] (AA W.l2)) (c29::cs)) (ow R (λ_=>False) (Lw W x LS.ready LS.ready)):=by
 have fy: ∀{s1 s2:LS} {y:List (Nat×Obj)} (w:AL),(ow R (λ_=>False) (Lw W y s1 s2)).I w->w.cell? ⟨yb,0,AB⟩=AA (.func (.yield W.l1) #[] #[]):=λw hw=>by
  have h:=hw.1 (yb,.cells #[.func (.yield W.l1) #[] #[]] 171) (eP hyb);unfold PU;rw[h];rfl
 have ry: ∀{s1 s2:LS} {y:List (Nat×Obj)},(ow R (λ_=>False) (Lw W y s1 s2)).O yb:=λ{s1 s2 y}=>.inr (Nz (eP hyb));simp only[iT];have ea:rA Tryz.f79=rA Tryz.f79:=rfl
 conv at ea=>lhs;simp only[rA,EM,MQ,Tryz.f79,Dt,Option.or,FY]
 have eb:rB Tryz.f79=rB Tryz.f79:=rfl
 conv at eb=>lhs;simp only[rB,EM,MQ,Tryz.f79,Dt,Option.or,FY]
 rw[<- ea,<- eb];clear ea eb;(iterate 3 refine Fa ?_);refine ADw (fn:=79) (s2:=LS.ready) (s2':=LS.busy) hP hR hW hx (λw h=>ABT h rfl) rfl ?_;iterate 2 refine Fa ?_
 have hz: ∀w,(ow R (λ_=>False) (Lw W x LS.ready LS.busy)).I w->∀y∈(Lw W x LS.ready LS.busy).map Aa,y<w.heap.size:=λw hw y hy=>by
  obtain⟨p,hp,rfl⟩:=Bz.1 hy;exact (Df.1 (hw.1 p hp)).1
 apply ALi (λm0 m cap=>n<=cap/\(VO n 5 cap/\¬C.SR m)/\m0<m/\∀y∈(Lw W x LS.ready LS.busy).map Aa,y<m0)
 ·intro fin;refine nS (Ce hP) [[0,1,2,3,4],[1,0,2,3,4],[1,2,0,3,4]] (.inl Aq) Aq λl hl=>?_;simp only[BB,BC,or_false] at hl;rcases hl with rfl|rfl|rfl
  ·skip;refine EC (Ce hP) ?_ (hr:=by intro w hw;have f0:=fy w hw;unfold ev;go_simp;exact rfl) (he:=by intro w hw;have f0:=fy w hw;unfold ev;simp[go_sem,f0];exact⟨.inl ry,rfl⟩);refine Fa ?_;refine RX (Ce hP) (f:=78) (args:=#[.slice (AA a) n c]) rfl rfl (.inr (λc h=>by cases h)) (λw hw=>?_) (λw hw=>?_) ?_;rw[F9 (op:=_) (f:=78) (vs:=#[.slice (AA a) n c]) rfl WX];rfl;rw[F9 (op:=_) (f:=78) (vs:=#[.slice (AA a) n c]) rfl WX,YG];intro e he;simp at he;refine w21 hP hl hn hle hnews yt λm0 m cap h1 h2 ⟨w0,hw0,e0⟩ h4=>?_;rw[EH (o:=_) rfl,XQ nU];simp only[put];walk_nrm;exact fin m0 m cap ⟨h1,⟨h2,λhs=>by have:=R.lt w0 hw0.2 m hs;omega⟩,h4,λy hy=>by rw[<- e0];exact hz w0 hw0 y hy⟩
  ·skip;refine Fa ?_;refine EC (Ce hP) ?_ (hr:=by intro w hw;have f0:=fy w hw;unfold ev;go_simp;exact rfl) (he:=by intro w hw;have f0:=fy w hw;unfold ev;simp[go_sem,f0];exact⟨.inl ry,rfl⟩);refine RX (Ce hP) (f:=78) (args:=#[.slice (AA a) n c]) rfl rfl (.inr (λc h=>by cases h)) (λw hw=>?_) (λw hw=>?_) ?_;rw[F9 (op:=_) (f:=78) (vs:=#[.slice (AA a) n c]) rfl WX];rfl;rw[F9 (op:=_) (f:=78) (vs:=#[.slice (AA a) n c]) rfl WX,YG];intro e he;simp at he;refine w21 hP hl hn hle hnews yt λm0 m cap h1 h2 ⟨w0,hw0,e0⟩ h4=>?_;rw[EH (o:=_) rfl,XQ nU];simp only[put];walk_nrm;exact fin m0 m cap ⟨h1,⟨h2,λhs=>by have:=R.lt w0 hw0.2 m hs;omega⟩,h4,λy hy=>by rw[<- e0];exact hz w0 hw0 y hy⟩
  skip;refine Fa ?_;refine RX (Ce hP) (f:=78) (args:=#[.slice (AA a) n c]) rfl rfl (.inr (λc h=>by cases h)) (λw hw=>?_) (λw hw=>?_) ?_;rw[F9 (op:=_) (f:=78) (vs:=#[.slice (AA a) n c]) rfl WX];rfl;rw[F9 (op:=_) (f:=78) (vs:=#[.slice (AA a) n c]) rfl WX,YG];intro e he;simp at he;refine w21 hP hl hn hle hnews yt λm0 m cap h1 h2 ⟨w0,hw0,e0⟩ h4=>?_;rw[EH (o:=_) rfl,XQ nU];simp only[put];walk_nrm;refine EC (Ce hP) ?_ (hr:=by intro w hw;have f0:=fy w hw;unfold ev;go_simp;exact rfl) (he:=by intro w hw;have f0:=fy w hw;unfold ev;simp[go_sem,f0];exact⟨.inl ry,rfl⟩);exact fin m0 m cap ⟨h1,⟨h2,λhs=>by have:=R.lt w0 hw0.2 m hs;omega⟩,h4,λy hy=>by rw[<- e0];exact hz w0 hw0 y hy⟩
 rintro m0 m cap ⟨h1,h2,h3,h4⟩;(have hx1: ∀p∈(m0,P7 #[] 5)::x,isCells p.2:=λp hp=>by rcases BB.1 hp with rfl|hp<;>first|exact⟨_,_,_,rfl⟩|exact hx p hp);(have hx2: ∀p∈(m,P7 ((Jr l).toArray++IK (cap - n) (.int .u8 0)) 5)::(m0,P7 #[] 5)::x,isCells p.2:=λp hp=>by rcases BB.1 hp with rfl|hp<;>first|exact⟨_,_,_,rfl⟩|exact hx1 p hp);refine uj (Ce hP) (l:=W.l1) (f:=75) (tm:=iQ wg cb xb sb C.bc src (.slice (AA ⟨m,0,AB⟩) n cap)) (a:=rA Tryz.f75) (b:=rB Tryz.f75) rfl rfl (.inr (λc h=>by cases h)) (λw hw=>?_) (λw hw=>?_) ?_
 ·have hl:w.heap[W.l1]? =AA (lp 75 Tryz.f75 W.T1 W.d1 LS.ready):=hw.1 (W.l1,lp 75 Tryz.f75 W.T1 W.d1 LS.ready) ADt;obtain⟨h1,_⟩:=ak (P:=Tryz.prog) (l:=W.l1) (v:=.slice (AA ⟨m,0,AB⟩) n cap) hl uw;rw[TZ (op:=_) (v:=.slice (AA ⟨m,0,AB⟩) n cap) (f:=.tmp 9) (x:=.tmp 11) rfl rfl rfl,h1];simp only[hT1];rfl
 ·have hl:w.heap[W.l1]? =AA (lp 75 Tryz.f75 W.T1 W.d1 LS.ready):=hw.1 (W.l1,lp 75 Tryz.f75 W.T1 W.d1 LS.ready) ADt;obtain⟨h1,h2⟩:=ak (P:=Tryz.prog) (l:=W.l1) (v:=.slice (AA ⟨m,0,AB⟩) n cap) hl uw;rw[TZ (op:=_) (v:=.slice (AA ⟨m,0,AB⟩) n cap) (f:=.tmp 9) (x:=.tmp 11) rfl rfl rfl,h2];intro e he;simp only[IU,CG] at he;subst he;exact⟨.inr (Nz ADt),rfl⟩
 refine w25 hP hR hW hx1 hS ⟨_,_,_,rfl⟩ (hcs m cap h2.2 h1 h2.1) ?_ ?_ ?_
 ·refine⟨λhm=>?_,λh=>h⟩
  have:m∈(Lw W x LS.ready LS.busy).map Aa\/m=m0:=by
   simp only[Lw,BK,Em,BB,Be] at hm⊢;rcases hm with h|h|h|h|h|h|h<;>simp[h]
  rcases this with h|h;have:=h4 m h;omega;omega
 ·rw[EH (o:=_) rfl];simp only[put];walk_nrm;(iterate 5 refine Fa ?_);exact ADw (fn:=79) (s2:=LS.busy) (s2':=LS.ready) hP hR hW hx1 (λw h=>kT (.inl ⟨rfl,rfl⟩) h) rfl (hgo _ hx1)
 rw[EH (o:=_) rfl];simp only[put];walk_nrm;(iterate 3 refine Fa ?_);exact ADw (fn:=79) (s2:=LS.busy) (s2':=LS.left) hP hR hW hx2 (λw h=>kT (.inr ⟨_,rfl,rfl⟩) h) rfl (hstop _ hx2)
end
section
variable {d:Addr}{c g i n:Nat}{p:Prop}{w':AL}
theorem lf1(h:p:=by intro w hw;have f0:=FA.out _ _ _ w hw;have f1:=FB.out _ _ _ w hw;unfold ev;go_simp;exact rfl):p:=h
theorem lf2(h:p:=by intro w hw;have f0:=FA.out _ _ _ w hw;have f1:=FB.out _ _ _ w hw;unfold ev;simp[go_sem,f0,f1];first|exact⟨.inl (RA.out _ _ _),rfl⟩|exact⟨.inl (RB.out _ _ _),rfl⟩):p:=h
noncomputable def Tc:Code:=match EM Tryz.f119 with| .seq _ (.block _ (.loop c))=>c|_=>.skip
theorem AIR{w:AL}{es:Array Event}:(sizeOf 5).events Tryz.prog w es=es:=rfl
theorem AIS(b1:i<=n)(b2:i<c)(hc:n<=c):(LJ 62 (.slice (AA d) n c) (AA (.int .i64 (i:Int))) AB AB).run Tryz.prog w'=.ok (.slice (AA (d.add i)) (n - i) (c - i)) w':=by
 (have b3: ¬(c=i):=by omega);simp[LJ,Vs,Qm,PV,asIntOf,b1,b3,hc]
theorem ALo(b1:i<=n)(b2:i<c)(hc:n<=c):(LJ 62 (.slice (AA d) n c) (AA (.int .i64 (i:Int))) AB AB).events Tryz.prog w' #[]= #[]:=by
 (have b3: ¬(c=i):=by omega);simp[LJ,Vs,Qm,PV,asIntOf,b1,b3,hc,AIR]
theorem AIT(b1:i<g)(b2:g<=n)(hc:n<=c):(LJ 62 (.slice (AA d) n c) (AA (.int .i64 (i:Int))) (AA (.int .i64 (g:Int))) (AA (.int .i64 (g:Int)))).run Tryz.prog w'=.ok (.slice (AA (d.add i)) (g - i) (g - i)) w':=by
 (have b3: ¬(g=i):=by omega);(have b4:i<=g:=by omega);(have b5:g<=c:=by omega);simp[LJ,Vs,Qm,PV,asIntOf,b3,b4,b5]
theorem ALp(b1:i<g)(b2:g<=n)(hc:n<=c):(LJ 62 (.slice (AA d) n c) (AA (.int .i64 (i:Int))) (AA (.int .i64 (g:Int))) (AA (.int .i64 (g:Int)))).events Tryz.prog w' #[]= #[]:=by
 (have b3: ¬(g=i):=by omega);(have b4:i<=g:=by omega);(have b5:g<=c:=by omega);simp[LJ,Vs,Qm,PV,asIntOf,b3,b4,b5,AIR]
section
variable {C:Cx} (hP:C.P=Tryz.prog) {R:RF C.SR} (hR:R.Ok) {W:WB} (hW:W.Ok) {wg cb xb sb yb:Nat} (hS:kU C R cb sb) {src v1 v2 u5 u6 u7:AP}
 (hT1:W.T1=iQ wg cb xb sb C.bc src AU) (hT2:W.T2=iT (.func (.yield W.l1) #[] #[]) v1 v2 yb u5 u6 u7 AU) (hyb:(yb,.cells #[.func (.yield W.l1) #[] #[]] 171)∈W.bx) {cF:AX} {cs:List AX}
 {l:List UInt8} {sz c:Nat} {D:Option Addr} {A2 B2:Nat} (hA:(A2,.cells #[.slice D l.length c] 62)∈W.bx) (hB:(B2,.cells #[.int .i64 (sz:Int)] 3)∈W.bx)
 (hsz:1<=sz) (hle:l.length<=1073741824) (nX:sz<=9223372036854775807) (hc:l.length<=c) (hDn:D=AB->l=[]) (hD:0<l.length->∀d,D=AA d->C.SR d.block/\∀w,R.R w->∀j v,(Jr l)[j]? =AA v->w.cell? (d.add j)=AA v)
 (hcs: ∀k,k*sz<l.length->∀m cap,¬C.SR m->((l.drop (k*sz)).take sz).length<=cap->VO ((l.drop (k*sz)).take sz).length 5 cap->C.Cs k (.slice (AA ⟨m,0,AB⟩) ((l.drop (k*sz)).take sz).length cap) m (.cells ((Jr ((l.drop (k*sz)).take sz)).toArray++IK (cap - ((l.drop (k*sz)).take sz).length) (.int .u8 0)) 5))
include hP hR hW hS hT1 hT2 hyb hA hB hsz hle nX hc hDn hD hcs
theorem w29(hN: ∀k,l.length<=k*sz->(∀j,j<k->j*sz<l.length)->k=C.N)
  (hend: ∀x,(∀p∈x,isCells p.2)->PW C (.work false) C.N (G (cF.finish (.tuple #[])) cs) (ow R (λ_=>False) (Lw W x LS.ready LS.ready)))
  (hstop: ∀k x,(∀p∈x,isCells p.2)->PW C (.work true) k (G (cF.finish (.tuple #[])) cs) (ow R (λ_=>False) (Lw W x LS.left LS.left))):
  ∀(M k i:Nat),k*sz=i->l.length - i<M->(∀j,j<k->j*sz<l.length)->∀(x:List (Nat×Obj)),(∀p∈x,isCells p.2)->∀v3 v5 v6 v7 v8 v9 v10 v11 v12 v13 v14 v15 v16 v17 v18 v19 v20 v21 v22 v23 v24 v25 v26 v27 v28 v29 v30:AP,
   PW C (.work false) k (G (fr 119 #[.func (.yield W.l2) #[] #[],.pointer (AA ⟨A2,0,AB⟩),.pointer (AA ⟨B2,0,AB⟩),v3,.int .i64 (i:Int),v5,v6,v7,v8,v9,v10,v11,v12,v13,v14,v15,v16,v17,v18,v19,v20,v21,v22,v23,v24,v25,v26,v27,v28,v29,v30] [.code Tc,.inLoop Tc,.inBlock 0] [] AB) (cF::cs)) (ow R (λ_=>False) (Lw W x LS.ready LS.ready)):=by
 intro M
 induction M with
 |zero=>intro k i hi hM;omega
 |succ M ih=>
 intro k i hi hM hk x hx v3 v5 v6 v7 v8 v9 v10 v11 v12 v13 v14 v15 v16 v17 v18 v19 v20 v21 v22 v23 v24 v25 v26 v27 v28 v29 v30
 have fA: ∀(s1 s2:LS) (y:List (Nat×Obj)) (w:AL),(ow R (λ_=>False) (Lw W y s1 s2)).I w->w.cell? ⟨A2,0,AB⟩=AA (.slice D l.length c):=λ_ _ _ w hw=>by
  have h:=hw.1 (A2,.cells #[.slice D l.length c] 62) (eP hA);unfold PU;rw[h];rfl
 have fB: ∀(s1 s2:LS) (y:List (Nat×Obj)) (w:AL),(ow R (λ_=>False) (Lw W y s1 s2)).I w->w.cell? ⟨B2,0,AB⟩=AA (.int .i64 (sz:Int)):=λ_ _ _ w hw=>by
  have h:=hw.1 (B2,.cells #[.int .i64 (sz:Int)] 3) (eP hB);unfold PU;rw[h];rfl
 have rA: ∀(s1 s2:LS) (y:List (Nat×Obj)),(ow R (λ_=>False) (Lw W y s1 s2)).O A2:=λs1 s2 y=>.inr (Nz (eP hA));have rB: ∀(s1 s2:LS) (y:List (Nat×Obj)),(ow R (λ_=>False) (Lw W y s1 s2)).O B2:=λs1 s2 y=>.inr (Nz (eP hB));have FA:=AQ fA;have FB:=AQ fB;have RA:=AQ rA;have RB:=AQ rB;have HA:=AQ hA;have HB:=AQ hB;have Hcs:=AQ hcs;have HD:=AQ hD;have HDn:=AQ hDn;have HT1:=AQ hT1;have HT2:=AQ hT2;have Hyb:=AQ hyb;have HN:=AQ hN;have ARo:=AQ hend;have APW:=AQ hstop;have Ih:=AQ ih;have HR:=AQ hR;have HW:=AQ hW;have HS:=AQ hS;have Hx:=AQ hx;have Hk:=AQ hk;have Hsz:=AQ hsz;have Hle:=AQ hle;have AIU:=AQ nX;have HM:=AQ hM;clear fA fB rA rB hA hB hM nX hle hsz hk hx hS hW hR ih hstop hend hN hyb hT2 hT1 hDn hD hcs;have el:Tc=Tc:=rfl
 conv at el=>lhs;simp only[Tc,EM,Tryz.f119,Dt]
 obtain⟨L0,hL0⟩: ∃L0,Item.inLoop Tc=Item.inLoop L0/\Go.RowKit.Hid (L0=Tc):=⟨Tc,rfl,rfl⟩;rw[hL0.1,<- el]
 replace hL0:=hL0.2
 clear el;(iterate 4 refine Fa ?_);refine EC (Ce hP) ?_ (hr:=by intro w hw;have f0:=FA.out _ _ _ w hw;unfold ev;go_simp;exact rfl) (he:=by intro w hw;have f0:=FA.out _ _ _ w hw;unfold ev;simp[go_sem,f0];exact⟨.inl (RA.out _ _ _),rfl⟩);refine EC (Ce hP) ?_ (hr:=λw _=>IP Fq.1) (he:=λw _=>IP (Gq Fq.2));(iterate 2 refine Fa ?_);by_cases hlt:i<l.length
 ·(have hd1:decide (i<l.length)=true:=by simp;omega);rw[hd1];(obtain⟨d,rfl⟩: ∃d,D=AA d:=by cases D with|none=>rw[HDn.out rfl] at hlt;simp at hlt|some d=>exact⟨d,rfl⟩);(have b2:i<c:=by omega);have hs1: ∀w',(LJ 62 (.slice (AA d) l.length c) (AA (.int .i64 (i:Int))) AB AB).run Tryz.prog w'=.ok (.slice (AA (d.add i)) (l.length - i) (c - i)) w':=λw'=>AIS (TJ hlt) b2 hc;have XR: ∀w',(LJ 62 (.slice (AA d) l.length c) (AA (.int .i64 (i:Int))) AB AB).events Tryz.prog w' #[]= #[]:=λw'=>ALo (TJ hlt) b2 hc;(iterate 5 refine Fa ?_);refine AGm λk1 hk1=>?_;apply ALj
  ·intro fin;refine nS (Ce hP) [[0,1,2,3,4,5,6],[0,2,1,3,4,5,6],[1,0,2,3,4,5,6],[1,2,0,3,4,5,6],[1,2,3,0,4,5,6],[1,2,3,4,0,5,6],[2,0,1,3,4,5,6],[2,1,0,3,4,5,6],[2,1,3,0,4,5,6],[2,1,3,4,0,5,6]] (.inl Aq) Aq λl hl=>?_;simp only[BB,BC,or_false] at hl;rcases hl with rfl|rfl|rfl|rfl|rfl|rfl|rfl|rfl|rfl|rfl
   ·skip;refine EC (Ce hP) ?_ (hr:=lf1) (he:=lf2);refine EC (Ce hP) ?_ (hr:=lf1) (he:=lf2);refine Fa ?_;refine EC (Ce hP) ?_ (he:=by intro w hw;unfold ev;simp[go_sem,XR]);refine EC (Ce hP) ?_ (hr:=λw _=>IP Fq.1) (he:=λw _=>IP (Gq Fq.2));refine EC (Ce hP) ?_ (hr:=λw _=>IP Hm.1) (he:=λw _=>IP (Gq Hm.2));(iterate 2 refine Fa ?_);exact fin
   ·skip;refine EC (Ce hP) ?_ (hr:=lf1) (he:=lf2);refine Fa ?_;refine EC (Ce hP) ?_ (hr:=lf1) (he:=lf2);refine EC (Ce hP) ?_ (he:=by intro w hw;unfold ev;simp[go_sem,XR]);refine EC (Ce hP) ?_ (hr:=λw _=>IP Fq.1) (he:=λw _=>IP (Gq Fq.2));refine EC (Ce hP) ?_ (hr:=λw _=>IP Hm.1) (he:=λw _=>IP (Gq Hm.2));(iterate 2 refine Fa ?_);exact fin
   ·skip;refine EC (Ce hP) ?_ (hr:=lf1) (he:=lf2);refine EC (Ce hP) ?_ (hr:=lf1) (he:=lf2);refine Fa ?_;refine EC (Ce hP) ?_ (he:=by intro w hw;unfold ev;simp[go_sem,XR]);refine EC (Ce hP) ?_ (hr:=λw _=>IP Fq.1) (he:=λw _=>IP (Gq Fq.2));refine EC (Ce hP) ?_ (hr:=λw _=>IP Hm.1) (he:=λw _=>IP (Gq Hm.2));(iterate 2 refine Fa ?_);exact fin
   ·skip;refine EC (Ce hP) ?_ (hr:=lf1) (he:=lf2);refine Fa ?_;refine EC (Ce hP) ?_ (hr:=lf1) (he:=lf2);refine EC (Ce hP) ?_ (he:=by intro w hw;unfold ev;simp[go_sem,XR]);refine EC (Ce hP) ?_ (hr:=λw _=>IP Fq.1) (he:=λw _=>IP (Gq Fq.2));refine EC (Ce hP) ?_ (hr:=λw _=>IP Hm.1) (he:=λw _=>IP (Gq Hm.2));(iterate 2 refine Fa ?_);exact fin
   ·skip;refine EC (Ce hP) ?_ (hr:=lf1) (he:=lf2);refine Fa ?_;refine EC (Ce hP) ?_ (he:=by intro w hw;unfold ev;simp[go_sem,XR]);refine EC (Ce hP) ?_ (hr:=lf1) (he:=lf2);refine EC (Ce hP) ?_ (hr:=λw _=>IP Fq.1) (he:=λw _=>IP (Gq Fq.2));refine EC (Ce hP) ?_ (hr:=λw _=>IP Hm.1) (he:=λw _=>IP (Gq Hm.2));(iterate 2 refine Fa ?_);exact fin
   ·skip;refine EC (Ce hP) ?_ (hr:=lf1) (he:=lf2);refine Fa ?_;refine EC (Ce hP) ?_ (he:=by intro w hw;unfold ev;simp[go_sem,XR]);refine EC (Ce hP) ?_ (hr:=λw _=>IP Fq.1) (he:=λw _=>IP (Gq Fq.2));refine EC (Ce hP) ?_ (hr:=lf1) (he:=lf2);refine EC (Ce hP) ?_ (hr:=λw _=>IP Hm.1) (he:=λw _=>IP (Gq Hm.2));(iterate 2 refine Fa ?_);exact fin
   ·skip;refine Fa ?_;refine EC (Ce hP) ?_ (hr:=lf1) (he:=lf2);refine EC (Ce hP) ?_ (hr:=lf1) (he:=lf2);refine EC (Ce hP) ?_ (he:=by intro w hw;unfold ev;simp[go_sem,XR]);refine EC (Ce hP) ?_ (hr:=λw _=>IP Fq.1) (he:=λw _=>IP (Gq Fq.2));refine EC (Ce hP) ?_ (hr:=λw _=>IP Hm.1) (he:=λw _=>IP (Gq Hm.2));(iterate 2 refine Fa ?_);exact fin
   ·skip;refine Fa ?_;refine EC (Ce hP) ?_ (hr:=lf1) (he:=lf2);refine EC (Ce hP) ?_ (hr:=lf1) (he:=lf2);refine EC (Ce hP) ?_ (he:=by intro w hw;unfold ev;simp[go_sem,XR]);refine EC (Ce hP) ?_ (hr:=λw _=>IP Fq.1) (he:=λw _=>IP (Gq Fq.2));refine EC (Ce hP) ?_ (hr:=λw _=>IP Hm.1) (he:=λw _=>IP (Gq Hm.2));(iterate 2 refine Fa ?_);exact fin
   ·skip;refine Fa ?_;refine EC (Ce hP) ?_ (hr:=lf1) (he:=lf2);refine EC (Ce hP) ?_ (he:=by intro w hw;unfold ev;simp[go_sem,XR]);refine EC (Ce hP) ?_ (hr:=lf1) (he:=lf2);refine EC (Ce hP) ?_ (hr:=λw _=>IP Fq.1) (he:=λw _=>IP (Gq Fq.2));refine EC (Ce hP) ?_ (hr:=λw _=>IP Hm.1) (he:=λw _=>IP (Gq Hm.2));(iterate 2 refine Fa ?_);exact fin
   skip;refine Fa ?_;refine EC (Ce hP) ?_ (hr:=lf1) (he:=lf2);refine EC (Ce hP) ?_ (he:=by intro w hw;unfold ev;simp[go_sem,XR]);refine EC (Ce hP) ?_ (hr:=λw _=>IP Fq.1) (he:=λw _=>IP (Gq Fq.2));refine EC (Ce hP) ?_ (hr:=lf1) (he:=lf2);refine EC (Ce hP) ?_ (hr:=λw _=>IP Hm.1) (he:=λw _=>IP (Gq Hm.2));(iterate 2 refine Fa ?_);exact fin
  have hk1:=hk1.out;subst hk1;obtain⟨e,he⟩: ∃e,min sz (l.length - i)=e:=⟨_,rfl⟩;rw[he];(have e1:1<=e:=by have:=Hsz.out;omega);(have e2:i+e<=l.length:=by omega);(have hb1:IntKind.i64.wrap ((i:Int)+(e:Int))=((i+e:Nat):Int):=by rw[NJ];have:=Hle.out;omega);have hct:((i+e:Nat):Int)=(i:Int)+(e:Int):=by omega
  have hs2: ∀w',(LJ 62 (.slice (AA d) l.length c) (AA (.int .i64 (i:Int))) (AA (.int .i64 ((i:Int)+(e:Int)))) (AA (.int .i64 ((i:Int)+(e:Int))))).run Tryz.prog w'=.ok (.slice (AA (d.add i)) e e) w':=λw'=>by
   have:=AIT (d:=d) (n:=l.length) (c:=c) (i:=i) (g:=i+e) (w':=w') Ad Ad hc;rwa[show i+e - i=e by omega,hct] at this
  have AMS: ∀w',(LJ 62 (.slice (AA d) l.length c) (AA (.int .i64 (i:Int))) (AA (.int .i64 ((i:Int)+(e:Int)))) (AA (.int .i64 ((i:Int)+(e:Int))))).events Tryz.prog w' #[]= #[]:=λw'=>by
   have:=ALp (d:=d) (n:=l.length) (c:=c) (i:=i) (g:=i+e) (w':=w') Ad Ad hc;rwa[hct] at this
  clear hct;(iterate 3 refine Fa ?_);refine EC (Ce hP) ?_ (hr:=by intro w hw;have f0:=FA.out _ _ _ w hw;unfold ev;go_simp;exact rfl) (he:=by intro w hw;have f0:=FA.out _ _ _ w hw;unfold ev;simp[go_sem,f0];exact⟨.inl (RA.out _ _ _),rfl⟩);(iterate 7 refine Fa ?_);refine EC (Ce hP) ?_ (he:=by intro w hw;unfold ev;simp[go_sem,AMS]);have Hs1:=AQ hs1;have Hs2:=AQ hs2;clear hs1 hs2 XR AMS;refine uj (Ce hP) (l:=W.l2) (f:=79) (tm:=iT (.func (.yield W.l1) #[] #[]) v1 v2 yb u5 u6 u7 (.slice (AA (d.add i)) e e)) (a:=Go.Proofs.YtkkgcebhfghdnaaGreatDoor.rA Tryz.f79) (b:=Go.Proofs.YtkkgcebhfghdnaaGreatDoor.rB Tryz.f79) rfl rfl (.inl rfl) (λw hw=>?_) (λw hw=>?_) ?_
  ·have hl:w.heap[W.l2]? =AA (lp 79 Tryz.f79 W.T2 W.d2 LS.ready):=hw.1 (W.l2,lp 79 Tryz.f79 W.T2 W.d2 LS.ready) ADu;obtain⟨h1,_⟩:=ak (P:=Tryz.prog) (l:=W.l2) (v:=.slice (AA (d.add i)) e e) hl iR;rw[TZ (op:=_) (v:=.slice (AA (d.add i)) e e) (f:=.tmp 19) (x:=.tmp 28) rfl rfl rfl,h1];simp only[HT2.out];rfl
  ·have hl:w.heap[W.l2]? =AA (lp 79 Tryz.f79 W.T2 W.d2 LS.ready):=hw.1 (W.l2,lp 79 Tryz.f79 W.T2 W.d2 LS.ready) ADu;obtain⟨h1,h2⟩:=ak (P:=Tryz.prog) (l:=W.l2) (v:=.slice (AA (d.add i)) e e) hl iR;rw[TZ (op:=_) (v:=.slice (AA (d.add i)) e e) (f:=.tmp 19) (x:=.tmp 28) rfl rfl rfl,h2];intro e he;simp only[IU,CG] at he;subst he;exact⟨.inr (Nz ADu),rfl⟩
  (have hpl:((l.drop i).take sz).length=e:=by simp;omega);refine w22 hP HR.out HW.out Hx.out HS.out HT1.out Hyb.out (l:=(l.drop i).take sz) hpl e1 (by have:=Hle.out;omega) (λw hw j v hj=>?_) ?_ ?_ ?_ ?_
  ·
   have hj':(Jr l)[i+j]? =AA v:=by
    have hj2:j<sz:=by
     have:=(DC.1 hj).1;simp[Jr] at this;omega
    simp only[Jr,Bg,xM,xN,hj2,if_true] at hj⊢;exact hj
   have:=(HD.out Ad d rfl).2 w hw (i+j) v hj'
   have ea:(d.add i).add j=d.add (i+j):=by
    obtain⟨b0,o0,s0⟩:=d;by_cases hi0:i=0;subst hi0;simp[Tt];by_cases hj0:j=0;subst hj0;simp[Tt];(have h0: ¬(i+j=0):=by omega);simp[Tt,hi0,hj0,U4]
   rw[ea];exact this
  ·have:=(HD.out Ad d rfl).1;unfold Tt;split<;>exact this
  ·have:=Hcs.out k (by rw[hi];exact hlt);rw[hi,hpl] at this;exact this
  ·intro x' hx';rw[EH (o:=_) rfl];simp only[put];walk_nrm
   have hb2:IntKind.i64.wrap ((i:Int)+(sz:Int))=(i:Int)+(sz:Int):=by
    rw[NJ];have h1:=Hle.out;have h2:=AIU.out
    have h3:i=0\/sz<=i:=by
     rcases O1 k with h|h;exact .inl (by rw[<- hi,h,lQ]);exact .inr (by rw[<- hi];exact Nat.le_mul_of_pos_left sz h)
    omega
   (iterate 7 refine Fa ?_);refine EC (Ce hP) ?_ (hr:=by intro w hw;have f0:=FB.out _ _ _ w hw;unfold ev;go_simp;exact rfl) (he:=by intro w hw;have f0:=FB.out _ _ _ w hw;unfold ev;simp[go_sem,f0];exact⟨.inl (RB.out _ _ _),rfl⟩);(iterate 4 refine Fa ?_);have hL:=hL0.out;subst hL;have hi':(k+1)*sz=i+sz:=by rw[kC,hi];omega
   have h5:=Ih.out (k+1) (i+sz) hi' (by have h1:=HM.out;have h2:=Hsz.out;omega) (λj hj=>by
    rcases Nat.lt_succ_iff_lt_or_eq.1 hj with h|h;exact Hk.out j h
    rw[h,hi];exact hlt) x' hx'
   rw[show ((i+sz:Nat):Int)=(i:Int)+(sz:Int) by omega] at h5;exact h5 ..
  intro x' hx';rw[EH (o:=_) rfl];simp only[put];walk_nrm;(iterate 3 refine Fa ?_);refine CZ (Ce hP) (λw=>OM) rfl ?_;exact JS (Ce hP) Tryz.func119 (λw=>YF rfl w) (APW.out k x' hx')
 (have hd1:decide (i<l.length)=false:=by simp;omega);rw[hd1];refine Fa ?_;refine CZ (Ce hP) (λw=>s_exit rfl) rfl ?_;refine CZ (Ce hP) (λw=>ADs) rfl ?_;refine JS (Ce hP) Tryz.func119 (λw=>YF rfl w) ?_;have hkN:=HN.out k (by rw[hi];omega) Hk.out;rw[hkN];exact ARo.out x Hx.out
end
end
section
variable {P:BL} {mn:Bool} {fn:Bi} {T:Array AP} {k:List Item} {D:List EK} {cs:List AX} {w w':AL} {kd:Bool}
theorem AIV{f:DT}{g:Bi}{q:Array AP}{ps:Array Tmp}{a b:Code}{gf:Func}(hf:ev T f=.func (.func g) #[] q)(hg:P.funcs[g]? =AA gf)(hb:gf.body.isNone=false)(hn:(gf.name== "runtime.NumGoroutine")=false):
  Ae P mn (G (fr fn T (.code (.rangeFunc f ps a b)::k) D AB kd) cs) w=
   .go (G (BV P g (#[.func (.yield (w.heap.size+1)) #[] #[]]++q) .normal) (fr fn T (.inRangeFunc (w.heap.size+1)::k) ({target:=.collected w.heap.size,args:=#[]}::D) AB kd::cs))
    {w with heap:=(w.heap.push (.deferred (AA []))).push (.loop {state:=.ready,pending:=AB,fn:=fn,tmps:=T,params:=ps,assign:=a,body:=b,defers:=w.heap.size})} #[]:=by
 have h1:(Vu fn T ps a b AB).runT P w #[]=(.ok (w.heap.size+1,[{target:=.collected w.heap.size,args:=#[]}]) {w with heap:=(w.heap.push (.deferred (AA []))).push (.loop {state:=.ready,pending:=AB,fn:=fn,tmps:=T,params:=ps,assign:=a,body:=b,defers:=w.heap.size})},#[]):=by
  simp only[Vu,newObj,bind,Sem.bind,pure,GX,ADB]
 show JA P mn true (fr fn T (.code (.rangeFunc f ps a b)::k) D AB kd) cs AB w=_;unfold JA
 simp only[show (fr fn T (.code (.rangeFunc f ps a b)::k) D AB kd).todo=.code (.rangeFunc f ps a b)::k from rfl,show (fr fn T (.code (.rangeFunc f ps a b)::k) D AB kd).fn=fn from rfl,show (fr fn T (.code (.rangeFunc f ps a b)::k) D AB kd).tmps=T from rfl,
  show (fr fn T (.code (.rangeFunc f ps a b)::k) D AB kd).roundOf=AB from rfl,h1]
 generalize ({w with heap:=(w.heap.push (.deferred (AA []))).push (.loop {state:=.ready,pending:=AB,fn:=fn,tmps:=T,params:=ps,assign:=a,body:=b,defers:=w.heap.size})}:AL)=w1;show DW (seen P fn #[]) (Ht P true (fr fn T (.inRangeFunc (w.heap.size+1)::k) ({target:=.collected w.heap.size,args:=#[]}::D) AB kd) cs AB (do let d <- resolve (fr fn T (.inRangeFunc (w.heap.size+1)::k) ({target:=.collected w.heap.size,args:=#[]}::D) AB kd).eval {callee:=.value f,args:=#[.const (.func (.yield (w.heap.size+1)) #[] #[])],argTypes:=#[]} 0;invoke d.target d.args:Sem Next) w1)=_
 have h2:(do let d <- resolve (fr fn T (.inRangeFunc (w.heap.size+1)::k) ({target:=.collected w.heap.size,args:=#[]}::D) AB kd).eval {callee:=.value f,args:=#[.const (.func (.yield (w.heap.size+1)) #[] #[])],argTypes:=#[]} 0;invoke d.target d.args:Sem Next)=Ep g (#[.func (.yield (w.heap.size+1)) #[] #[]]++q):=by
  rw[uh];simp only[resolve,hf,J3,BK,EG];rfl
 rw[h2]
 have h3:(Ep g (#[.func (.yield (w.heap.size+1)) #[] #[]]++q)).runT P w1 #[]=(.ok (.enter g (#[.func (.yield (w.heap.size+1)) #[] #[]]++q)) w1,#[]):=by
  unfold Ep;show GX P (Sem.program _) w1 #[]=_;simp only[GX,Sem.bind];rw[hg];simp only[hb,hn,C9,if_false];rfl
 simp only[Ht,if_true,h3];cases kd<;>rfl
theorem AFa{l:Nat}{r:Loop}(hl:w.heap[l]? =AA (.loop r))(hs:(r.state== .busy)=false):Ae P mn (G (fr fn T (.endRangeFunc l::k) D AB kd) cs) w=
  .go (G (fr fn T ((r.pending.map Item.code).toList++k) D AB kd) cs) {w with heap:=w.heap.setIfInBounds l (.loop {r with state:=.exhausted})} (seen P fn #[⟨.obj l,false,false⟩,⟨.obj l,true,false⟩]):=by
 have h2:(Instr.endLoop l).runT P w #[]=(.ok r.pending {w with heap:=w.heap.setIfInBounds l (.loop {r with state:=.exhausted})},#[⟨.obj l,false,false⟩,⟨.obj l,true,false⟩]):=by
  unfold Instr.endLoop;rw[VL hl];simp only[hs,C9,if_false];show GX P (setObj l _>>=_) w _=_;rw[ZO hl];rfl
 show JA P mn true (fr fn T (.endRangeFunc l::k) D AB kd) cs AB w=_;unfold JA;simp only[show (fr fn T (.endRangeFunc l::k) D AB kd).todo=.endRangeFunc l::k from rfl,h2];rfl
theorem AFb{d:Nat}(hl:w.heap[d]? =AA (.deferred (AA []))):Ae P mn (G {fr fn T k ({target:=.collected d,args:=#[]}::D) AB kd with mode:=.returning} cs) w=
  .go (G {fr fn T k D AB kd with mode:=.returning} cs) {w with heap:=w.heap.setIfInBounds d (.deferred AB)} (seen P fn #[⟨.obj d,false,false⟩,⟨.obj d,true,false⟩]):=by
 have h2:(Instr.takeDeferred d).runT P w #[]=(.ok [] {w with heap:=w.heap.setIfInBounds d (.deferred AB)},#[⟨.obj d,false,false⟩,⟨.obj d,true,false⟩]):=by
  show GX P (Sem.getObj d _) w #[]=_;simp only[GX,hl];show GX P (Sem.setObj d _ _) w _=_;simp only[GX,hl];rfl
 show unwind P mn {fr fn T k ({target:=.collected d,args:=#[]}::D) AB kd with mode:=.returning} cs AB w=_;unfold unwind;simp only[fr,h2];rfl
end
open Go.ConcX Go.ConcX.Gen
section
variable {T:Array AP}{fn:Bi}{k:List Item}
noncomputable def Lv (W:WB) (x:List (Nat×Obj)) (s1 s2:LS) (e1 e2:Option (List EK)):List (Nat×Obj):=
 (W.l1,lp 75 Tryz.f75 W.T1 W.d1 s1)::(W.l2,lp 79 Tryz.f79 W.T2 W.d2 s2)::(W.d1,.deferred e1)::(W.d2,.deferred e2)::(W.bx++x)
theorem APX{W:WB}{x:List (Nat×Obj)}{s1 s2:LS}:Lw W x s1 s2=Lv W x s1 s2 (AA []) (AA []):=rfl
def LS.gone (s:LS):LS:=⟨.exhausted,s.pd⟩
section
variable {C:Cx} (hP:C.P=Tryz.prog) {s:Bool} {kk:Nat} {R:RF C.SR} (hR:R.Ok) {Gb:Nat->Prop} {W:WB} (hW:W.Ok) {x:List (Nat×Obj)} (hx: ∀p∈x,isCells p.2) {g g':Goroutine} {s1 s2:LS} {e1 e2:Option (List EK)}
include hP hR hW hx
theorem APY{s1':LS}(h: ∀w:AL,w.heap[W.l1]? =AA (lp 75 Tryz.f75 W.T1 W.d1 s1)->Ae Tryz.prog false g w=.go g' {w with heap:=w.heap.setIfInBounds W.l1 (lp 75 Tryz.f75 W.T1 W.d1 s1')} (seen Tryz.prog fn #[⟨.obj W.l1,false,false⟩,⟨.obj W.l1,true,false⟩]))
  (hr:g.status=.running) (next:PW C (.work s) kk g' (ow R Gb (Lv W x s1' s2 e1 e2))):PW C (.work s) kk g (ow R Gb (Lv W x s1 s2 e1 e2)):=by
 refine Uo hP hR (b:=W.l1) (D9 ..) Es (λy=>by simp[Lv]) (λp hp=>?_) (es:=#[⟨.obj W.l1,false,false⟩,⟨.obj W.l1,true,false⟩]) AV (λw hw=>⟨_,h w hw,λe he=>Du he⟩) hr next;simp only[Lv,BB,Be] at hp;rcases hp with rfl|rfl|rfl|rfl|hp|hp;exact .inl rfl
 ·refine .inr ⟨by simp[Lv],λe=>?_⟩;simp[lp] at e
 exact .inr ⟨by simp[Lv],λe=>by cases e⟩;exact .inr ⟨by simp[Lv],λe=>by cases e⟩;exact .inr ⟨by simp[Lv,hp],λe=>Ai (e▸hW.bx p hp) Es⟩;exact .inr ⟨by simp[Lv,hp],λe=>Ai (e▸hx p hp) Es⟩
theorem APZ{s2':LS}(h: ∀w:AL,w.heap[W.l2]? =AA (lp 79 Tryz.f79 W.T2 W.d2 s2)->Ae Tryz.prog false g w=.go g' {w with heap:=w.heap.setIfInBounds W.l2 (lp 79 Tryz.f79 W.T2 W.d2 s2')} (seen Tryz.prog fn #[⟨.obj W.l2,false,false⟩,⟨.obj W.l2,true,false⟩]))
  (hr:g.status=.running) (next:PW C (.work s) kk g' (ow R Gb (Lv W x s1 s2' e1 e2))):PW C (.work s) kk g (ow R Gb (Lv W x s1 s2 e1 e2)):=by
 refine Uo hP hR (b:=W.l2) (CO _ (D9 ..)) Es (λy=>by simp[Lv]) (λp hp=>?_) (es:=#[⟨.obj W.l2,false,false⟩,⟨.obj W.l2,true,false⟩]) AV (λw hw=>⟨_,h w hw,λe he=>Du he⟩) hr next;simp only[Lv,BB,Be] at hp;rcases hp with rfl|rfl|rfl|rfl|hp|hp
 ·refine .inr ⟨by simp[Lv],λe=>?_⟩;simp[lp] at e
 exact .inl rfl;exact .inr ⟨by simp[Lv],λe=>by cases e⟩;exact .inr ⟨by simp[Lv],λe=>by cases e⟩;exact .inr ⟨by simp[Lv,hp],λe=>Ai (e▸hW.bx p hp) Es⟩;exact .inr ⟨by simp[Lv,hp],λe=>Ai (e▸hx p hp) Es⟩
theorem APa(h: ∀w:AL,w.heap[W.d1]? =AA (.deferred (AA []))->Ae Tryz.prog false g w=.go g' {w with heap:=w.heap.setIfInBounds W.d1 (.deferred AB)} (seen Tryz.prog fn #[⟨.obj W.d1,false,false⟩,⟨.obj W.d1,true,false⟩]))
  (hr:g.status=.running) (next:PW C (.work s) kk g' (ow R Gb (Lv W x s1 s2 AB e2))):PW C (.work s) kk g (ow R Gb (Lv W x s1 s2 (AA []) e2)):=by
 refine Uo hP hR (b:=W.d1) (ob:=.deferred (AA [])) (ob':=.deferred AB) (by simp[Lv]) JP (λy=>by simp[Lv]) (λp hp=>?_) (es:=#[⟨.obj W.d1,false,false⟩,⟨.obj W.d1,true,false⟩]) AV (λw hw=>⟨_,h w hw,λe he=>Du he⟩) hr next;simp only[Lv,BB,Be] at hp;rcases hp with rfl|rfl|rfl|rfl|hp|hp;exact .inr ⟨by simp[Lv],λe=>by cases e⟩;exact .inr ⟨by simp[Lv],λe=>by cases e⟩;exact .inl rfl;exact .inr ⟨by simp[Lv],λ_=>Ir hW.dd⟩;exact .inr ⟨by simp[Lv,hp],λe=>Ai (e▸hW.bx p hp) JP⟩;exact .inr ⟨by simp[Lv,hp],λe=>Ai (e▸hx p hp) JP⟩
theorem APb(h: ∀w:AL,w.heap[W.d2]? =AA (.deferred (AA []))->Ae Tryz.prog false g w=.go g' {w with heap:=w.heap.setIfInBounds W.d2 (.deferred AB)} (seen Tryz.prog fn #[⟨.obj W.d2,false,false⟩,⟨.obj W.d2,true,false⟩]))
  (hr:g.status=.running) (next:PW C (.work s) kk g' (ow R Gb (Lv W x s1 s2 e1 AB))):PW C (.work s) kk g (ow R Gb (Lv W x s1 s2 e1 (AA []))):=by
 refine Uo hP hR (b:=W.d2) (ob:=.deferred (AA [])) (ob':=.deferred AB) (by simp[Lv]) JP (λy=>by simp[Lv]) (λp hp=>?_) (es:=#[⟨.obj W.d2,false,false⟩,⟨.obj W.d2,true,false⟩]) AV (λw hw=>⟨_,h w hw,λe he=>Du he⟩) hr next;simp only[Lv,BB,Be] at hp;rcases hp with rfl|rfl|rfl|rfl|hp|hp;exact .inr ⟨by simp[Lv],λe=>by cases e⟩;exact .inr ⟨by simp[Lv],λe=>by cases e⟩;exact .inr ⟨by simp[Lv],λ_=>hW.dd⟩;exact .inl rfl;exact .inr ⟨by simp[Lv,hp],λe=>Ai (e▸hW.bx p hp) JP⟩;exact .inr ⟨by simp[Lv,hp],λe=>Ai (e▸hx p hp) JP⟩
end
noncomputable def gx:AX:={(default:AX) with fn:=Tryz.prog.funcs.size,mode:=.panicking [goexitEntry]}
theorem APc:QuitsD Tryz.prog 2 0 (G {fr 75 T k [] AB true with mode:=.returning} [gx]):=by
 refine .inr ⟨rfl,G gx [],#[],AV,λw=>?_,.inr ⟨rfl,{G gx [] with status:=.finished},#[],AV,λw=>?_,⟨rfl,rfl⟩⟩⟩
 ·show unwind Tryz.prog false {fr 75 T k [] AB true with mode:=.returning} [gx] AB w=_;unfold unwind;simp only[fr,Tryz.func75,YF (f:=Tryz.f75) rfl w,doReturn,DW,G];rfl
 show unwind Tryz.prog false gx [] AB w=_;rfl
def OT (bc:Nat):EK:={target:=.builtin .close #[157] 0 #[false],args:=#[.chan (AA bc)]}
theorem AIW{D:List EK}{bc:Nat}{w w':AL}(h:QF w bc w'):
  Ae Tryz.prog false (G {fr 75 T k (OT bc::D) AB true with mode:=.returning} [gx]) w=.go (G {fr 75 T k D AB true with mode:=.returning} [gx]) w' #[⟨.obj bc,false,true⟩,⟨.obj bc,true,true⟩]:=by
 obtain⟨s,hs,rfl⟩:=h;have hr:=run_close_open (P:=Tryz.prog) #[157] 0 hs;have he:=events_close_open (P:=Tryz.prog) (es:=#[]) #[157] 0 hs;show unwind Tryz.prog false {fr 75 T k (OT bc::D) AB true with mode:=.returning} [gx] AB w=_;unfold unwind;simp[fr,OT,callDeferred,invoke,go_sem,hr,he,DW,seen,G]
end
open Go.Conc.Lib
section
variable {C:Cx} (hP:C.P=Tryz.prog) {s:Bool} {kk:Nat} {R:RF C.SR} (hR:R.Ok) {Gb:Nat->Prop} {W:WB} (hW:W.Ok) {x:List (Nat×Obj)} (hx: ∀p∈x,isCells p.2) {s1 s2:LS} {e1 e2:Option (List EK)}
 {L:WgLink} (H:WgLib Tryz.prog L)
include hP H
theorem ALq{T:Array AP}{k:List Item}{o:Own C.SR}(hfw:C.FW o)(hs:s=true\/kk=C.N)(hlive: ∃w,Live C w):
  PW C (.work s) kk (G {fr 75 T k [OT C.bc,dcall L.done #[.pointer (AA ⟨C.wg,0,AB⟩)]] AB true with mode:=.returning} [gx]) o:=by
 refine .clo (b':=G {fr 75 T k [dcall L.done #[.pointer (AA ⟨C.wg,0,AB⟩)]] AB true with mode:=.returning} [gx]) (es:=#[⟨.obj C.bc,false,true⟩,⟨.obj C.bc,true,true⟩]) rfl rfl rfl hs (λe he=>by simpa using he) (λw w' _ h=>by rw[hP];exact AIW h) ?_;obtain⟨w0,h0⟩:=hlive;refine .free (λ_=>G ((baseD L.done).at ⟨#[.pointer (AA ⟨C.wg,0,AB⟩),AU,AU,AU],[]⟩ [.code (body_done L)]) [{fr 75 T k [] AB true with mode:=.returning},gx]) rfl rfl (λw _=>⟨rfl,?_⟩) λw _=>?_
 ·rw[hP];exact stepG_unwind_enter (b:=fr 75 T k [] AB true) (a:=⟨T,[dcall L.done #[.pointer (AA ⟨C.wg,0,AB⟩)]]⟩) (todo:=k) rfl H.f_done rfl rfl
 exact AGk H hP hfw h0 rfl APc
include hR hW hx
theorem AIX{T:Array AP}(hs:s=true\/kk=C.N)(hlive: ∃w,Live C w)(hst:(s1.st== .busy)=false)(QZ:s1.pd=AB\/s1.pd=AA .ret)
  (hfw:C.FW (ow R Gb (Lv W x s1.gone s2 AB AB))):
  PW C (.work s) kk (G (fr 75 T [.endRangeFunc W.l1,.inBlock 0] [{target:=.collected W.d1,args:=#[]},OT C.bc,dcall L.done #[.pointer (AA ⟨C.wg,0,AB⟩)]] AB true) [gx]) (ow R Gb (Lv W x s1 s2 (AA []) AB)):=by
 refine APY (fn:=75) (s1':=s1.gone) hP hR hW hx (λw h=>AFa h hst) rfl ?_
 have fin: ∀k,PW C (.work s) kk (G {fr 75 T k [{target:=.collected W.d1,args:=#[]},OT C.bc,dcall L.done #[.pointer (AA ⟨C.wg,0,AB⟩)]] AB true with mode:=.returning} [gx]) (ow R Gb (Lv W x s1.gone s2 (AA []) AB)):=λk=>by
  refine APa (fn:=75) hP hR hW hx (λw h=>AFb h) rfl ?_;exact ALq hP H hfw hs hlive
 rcases QZ with h|h
 ·simp only[h,Xy,Option.toList_none,Dy];refine Fa ?_;refine CZ (Ce hP) (λw=>ADs) rfl ?_;exact fin _
 simp only[h,FY,Option.toList_some,Dj,Dy];refine CZ (Ce hP) (λw=>OM) rfl ?_;exact fin _
theorem ABa{T T':Array AP}(hs:s=true\/kk=C.N)(hlive: ∃w,Live C w)(hst:(s1.st== .busy)=false)(QZ:s1.pd=AB\/s1.pd=AA .ret)(hst2:(s2.st== .busy)=false)(ARp:s2.pd=AB\/s2.pd=AA .ret)
  (hfw:C.FW (ow R Gb (Lv W x s1.gone s2.gone AB AB))):
  PW C (.work s) kk (G (fr 79 T [.endRangeFunc W.l2,.inBlock 0] [{target:=.collected W.d2,args:=#[]}] AB)
   [fr 75 T' [.inRangeFunc W.l1,.inBlock 0] [{target:=.collected W.d1,args:=#[]},OT C.bc,dcall L.done #[.pointer (AA ⟨C.wg,0,AB⟩)]] AB true,gx]) (ow R Gb (Lw W x s1 s2)):=by
 rw[APX];refine APZ (fn:=79) (s2':=s2.gone) hP hR hW hx (λw h=>AFa h hst2) rfl ?_
 have fin: ∀k,PW C (.work s) kk (G {fr 79 T k [{target:=.collected W.d2,args:=#[]}] AB with mode:=.returning}
   [fr 75 T' [.inRangeFunc W.l1,.inBlock 0] [{target:=.collected W.d1,args:=#[]},OT C.bc,dcall L.done #[.pointer (AA ⟨C.wg,0,AB⟩)]] AB true,gx]) (ow R Gb (Lv W x s1 s2.gone (AA []) (AA []))):=λk=>by
  refine APb (fn:=79) hP hR hW hx (λw h=>AFb h) rfl ?_;refine JS (Ce hP) Tryz.func79 (λw=>YF rfl w) ?_;exact AIX hP hR hW hx H hs hlive hst QZ hfw
 rcases ARp with h|h
 ·simp only[h,Xy,Option.toList_none,Dy];refine Fa ?_;refine CZ (Ce hP) (λw=>ADs) rfl ?_;exact fin _
 simp only[h,FY,Option.toList_some,Dj,Dy];refine CZ (Ce hP) (λw=>OM) rfl ?_;exact fin _
end
section
variable {C:Cx} {P:BL} (hP:C.P=P) {s:Bool} {kk:Nat} {R:RF C.SR} {Gb:Nat->Prop} {L:List (Nat×Obj)}
 {fn:Bi} {T:Array AP} {k:List Item} {D:List EK} {cs:List AX} {kd:Bool}
include hP
theorem uy{f:DT}{g:Bi}{q:Array AP}{ps:Array Tmp}{a b:Code}{gf:Func}(hf:ev T f=.func (.func g) #[] q)(hg:P.funcs[g]? =AA gf)(hb:gf.body.isNone=false)(hn:(gf.name== "runtime.NumGoroutine")=false)
  (next: ∀d,(∃w,(ow R Gb L).I w/\w.heap.size=d)->PW C (.work s) kk (G (BV P g (#[.func (.yield (d+1)) #[] #[]]++q) .normal) (fr fn T (.inRangeFunc (d+1)::k) ({target:=.collected d,args:=#[]}::D) AB kd::cs))
   (ow R Gb ((d,.deferred (AA []))::(d+1,.loop {state:=.ready,pending:=AB,fn:=fn,tmps:=T,params:=ps,assign:=a,body:=b,defers:=d})::L))):
  PW C (.work s) kk (G (fr fn T (.code (.rangeFunc f ps a b)::k) D AB kd) cs) (ow R Gb L):=by
 refine ABU (Ce hP) (λn=>[.deferred (AA []),.loop {state:=.ready,pending:=AB,fn:=fn,tmps:=T,params:=ps,assign:=a,body:=b,defers:=n}]) (λ_ _=>rfl)
  (λd=>G (BV P g (#[.func (.yield (d+1)) #[] #[]]++q) .normal) (fr fn T (.inRangeFunc (d+1)::k) ({target:=.collected d,args:=#[]}::D) AB kd::cs)) (λw hw'=>?_) rfl λn hn=>?_
 ·rw[AIV hf hg hb hn];congr 1
 have h:=next n hn;simp only[ES,Ha,Ny,Jn,List.range,List.range.loop,BK,EG,Dj,Dy];exact h
end
section
variable {C:Cx} (hP:C.P=Tryz.prog) {s:Bool} {kk:Nat} {R:RF C.SR} {Gb:Nat->Prop} {L:List (Nat×Obj)} {cs:List AX}
include hP
theorem w23{D:Option Addr}{n c:Nat}{sz:Nat}(hsz:1<=sz){WO:AX}
  (next: ∀A2 B2,PW C (.work s) kk (G (WO.finish (.func (.func 119) #[] #[.pointer (AA ⟨A2,0,AB⟩),.pointer (AA ⟨B2,0,AB⟩)])) cs) (ow R Gb ((B2,.cells #[.int .i64 (sz:Int)] 3)::(A2,.cells #[.slice D n c] 62)::L))):
  PW C (.work s) kk (G (BV Tryz.prog 80 #[.slice D n c,.int .i64 (sz:Int)] .normal) (WO::cs)) (ow R Gb L):=by
 rw[IM Tryz.func80 rfl];simp only[Tryz.f80,Iq,ES,Ha,Jn,Lp,KE,Lt,KF,KH,Dy,Dj];(iterate 2 refine Fa ?_);refine OO (Ce hP) (λm=>.pointer (AA ⟨m,0,AB⟩)) (.cells #[.slice D n c] 62) rfl rfl (.inl rfl) (λw hw=>?_) (λw hw=>?_) λA2 hA=>?_
 ·unfold ev;simp[go_sem,BG,Su]
 ·unfold ev;simp[go_sem,BG,Su]
 simp only[put];walk_nrm;refine OO (Ce hP) (λm=>.pointer (AA ⟨m,0,AB⟩)) (.cells #[.int .i64 (sz:Int)] 3) rfl rfl (.inl rfl) (λw hw=>?_) (λw hw=>?_) λB2 hB=>?_
 ·unfold ev;simp[go_sem,BG,Su]
 ·unfold ev;simp[go_sem,BG,Su]
 simp only[put];walk_nrm
 have fB: ∀(w:AL),(ow R Gb ((B2,.cells #[.int .i64 (sz:Int)] 3)::(A2,.cells #[.slice D n c] 62)::L)).I w->w.cell? ⟨B2,0,AB⟩=AA (.int .i64 (sz:Int)):=λw hw=>by
  have h:=hw.1 (B2,.cells #[.int .i64 (sz:Int)] 3) (D9 ..);unfold PU;rw[h];rfl
 have rB:(ow R Gb ((B2,.cells #[.int .i64 (sz:Int)] 3)::(A2,.cells #[.slice D n c] 62)::L)).O B2:=.inr (Nz (D9 ..));(iterate 5 refine Fa ?_);refine EC (Ce hP) ?_ (hr:=by intro w hw;have f0:=fB w hw;unfold ev;go_simp;exact rfl) (he:=by intro w hw;have f0:=fB w hw;unfold ev;simp[go_sem,f0];exact⟨.inl rB,rfl⟩);refine Fa ?_;(have hlt:decide ((sz:Int)<1)=false:=by simp;omega);simp only[hlt];refine Fa ?_;refine CZ (Ce hP) (λw=>s_cond (b:=false) rfl) rfl ?_;simp only[if_true,C9,↓reduceIte];(iterate 3 refine Fa ?_);refine EC (Ce hP) ?_ (he:=by intro w hw;unfold ev;simp[go_sem,Instr.makeFunc]);(iterate 2 refine Fa ?_);refine CZ (Ce hP) (λw=>OM) rfl ?_;exact JS (Ce hP) Tryz.func80 (λw=>MR (t:=4) rfl w) (next A2 B2)
end
end Go.Proofs.YtkkgcebhfghdnaaGreatDoor
