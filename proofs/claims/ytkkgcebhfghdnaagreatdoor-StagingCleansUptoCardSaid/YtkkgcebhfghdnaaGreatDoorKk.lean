/- Part 11 of what that rests on; no condition. -/
import Derived.Test.YtkkgcebhfghdnaaGreatDoorKj
import Derived.Conc.DeferLaws
import Derived.Lib.Hide
set_option maxRecDepth 100000
set_option maxHeartbeats 8000000
namespace Go.Proofs.YtkkgcebhfghdnaaGreatDoor
open Go Go.Conc Go.RowKit
section
variable {V:Program} {Kp:Frame->List Frame->World->Prop}
def Vr (V:Program) (Kp:Frame->List Frame->World->Prop) (Good:VS->Prop) (s:VS):Prop:=∃s',Good s'/\(s'=s\/Jb V Kp s' s)
def kL (V:Program) (Kp:Frame->List Frame->World->Prop) (Good:VS->Prop) (s:VS):Prop:=∃s',Good s'/\Jb V Kp s' s
variable {Good:VS->Prop} {f f1:Frame} {ts Dj:List Frame} {v v1:World} {es:Array Event}
theorem Vr.fin{s:VS}(h:Good s):Vr V Kp Good s:=⟨s,h,.inl rfl⟩
theorem kL.vr{s:VS}(h:kL V Kp Good s):Vr V Kp Good s:=h.imp λ_ x=>⟨x.1,.inr x.2⟩
theorem rJ(hk: ¬Kp f ts v)(t:Nat->Question->Nat)(ht: ∀j,j<v.drawn->t j=v.tape j)(h:stepG V true (G f (ts++[door V])) (v.DL t)=.go (G f1 (Dj++[door V])) v1 es)(next:Vr V Kp Good ⟨f1,Dj,v1⟩):kL V Kp Good ⟨f,ts,v⟩:=by
 have hn:Nx V Kp ⟨f1,Dj,v1⟩ ⟨f,ts,v⟩:=⟨hk,t,ht,es,h⟩;obtain⟨s',hg,e|hp⟩:=next;subst e;exact⟨_,hg,.one hn⟩;exact⟨s',hg,.cons hn hp⟩
theorem MO(hk: ¬Kp f ts v)(h:stepG V true (G f (ts++[door V])) v=.go (G f1 (Dj++[door V])) v1 es)(next:Vr V Kp Good ⟨f1,Dj,v1⟩):kL V Kp Good ⟨f,ts,v⟩:=rJ hk v.tape (λ_ _=>rfl) h next
end
section
variable {V:Program} {Kp:Frame->List Frame->World->Prop} (Bz: ∀f ts v,Kp f ts v->ts=[]) {Good:VS->Prop} {fn:FuncId} {T:Array Value} {k:List Item} {D:List Deferred} {cs:List Frame} {c0:Frame} {v v1:World}
 {ops:Array Oper} {i:Nat} {rest:List Nat} {op:Oper}
include Bz
theorem II{f1:Frame}{f:Frame}(h: ∀w,stepG V true (G f (c0::cs++[door V])) w=.go (G f1 (c0::cs++[door V])) w #[])(next:Vr V Kp Good ⟨f1,c0::cs,v⟩):Vr V Kp Good ⟨f,c0::cs,v⟩:=
 (MO (λx=>by cases Bz _ _ _ x) (h v) next).vr
theorem ADn(x:Value)(ho:ops[i]? =some op)(hw:Region.wanted op (yielded ops T)=true)(hr: ∀w,(execOp (ev T) op).run V w=.ok (.value x) w)
  (next:Vr V Kp Good ⟨fr fn (put T op.dst x) (.inRegion ops rest::k) D none,c0::cs,v⟩):Vr V Kp Good ⟨fr fn T (.inRegion ops (i::rest)::k) D none,c0::cs,v⟩:=
 (MO (λx=>by cases Bz _ _ _ x) (WV ho hw (.inl rfl) (hr v)) next).vr
theorem vrv{x:Value}{T':Array Value}(next:Vr V Kp Good ⟨fr fn T' (.inRegion ops rest::k) D none,c0::cs,v⟩)(ho:ops[i]? =some op:=by exact rfl)(hw:Region.wanted op (yielded ops T)=true:=by rfl)
  (hr: ∀w,(execOp (ev T) op).run V w=.ok (.value x) w:=by intro w;unfold ev;go_simp;try exact rfl) (hT:Nf (put T op.dst x) T':=by simp only[put];walk_nrm;exact rfl):Vr V Kp Good ⟨fr fn T (.inRegion ops (i::rest)::k) D none,c0::cs,v⟩:=
 ADn Bz x ho hw hr (by have e:put T op.dst x=T':=hT;rw[e];exact next)
theorem AGS{f:FuncId}{args:Array Value}(ho:ops[i]? =some op)(hw:Region.wanted op (yielded ops T)=true)(hr: ∀w,(execOp (ev T) op).run V w=.ok (.enter f args) w)
  (next:Vr V Kp Good ⟨Frame.enter V f args .normal,fr fn T (.inRegion ops (i::rest)::k) D none::c0::cs,v⟩):Vr V Kp Good ⟨fr fn T (.inRegion ops (i::rest)::k) D none,c0::cs,v⟩:=
 (MO (λx=>by cases Bz _ _ _ x) (Dj:=fr fn T (.inRegion ops (i::rest)::k) D none::c0::cs) (s_call ho hw (.inl rfl) (hr v)) next).vr
theorem rM{f:Func}{x:Value}(hf:V.funcs[fn]? =some f)(hr: ∀w,(results f T).runT V w #[]=(.ok x w,#[]))(next:Vr V Kp Good ⟨c0.finish x,cs,v⟩):Vr V Kp Good ⟨{fr fn T k [] none with mode:=.returning},c0::cs,v⟩:=
 (MO (λx=>by cases Bz _ _ _ x) (kJ hf (hr v)) next).vr
end
theorem Po{p q:Prop}(n:p)(h:p->q:=by intro n;first|with_reducible exact II Bz (λw=>Jk) n|with_reducible exact II Bz (λw=>s_reg) n|with_reducible exact II Bz (λw=>FX) n|with_reducible exact II Bz (λw=>Pj) n|with_reducible exact II Bz (λw=>KE) n|with_reducible exact II Bz (λw=>NR) n|with_reducible exact II Bz (λw=>Qc) n|((with_reducible refine II Bz (λw=>Pm ?_) n)<;>rfl)|((with_reducible refine II Bz (λw=>Pn ?_) n)<;>rfl)|exact vrv Bz n|exact II Bz (λw=>Jk) n|exact II Bz (λw=>s_reg) n|exact II Bz (λw=>FX) n|exact II Bz (λw=>Pj) n|exact II Bz (λw=>KE) n|exact II Bz (λw=>NR) n|exact II Bz (λw=>Qc) n|exact II Bz (λw=>Pm rfl) n|exact II Bz (λw=>Pn rfl) n):q:=h n
theorem H8{P:Program}{f:FuncId}{fn:Func}{c:Code}{p:Array Value}(hf:P.funcs[f]? =some fn)(hb:fn.body=some c):Frame.enter P f p .normal=fr f (p++Array.replicate (fn.ntmps - p.size) undef) [.code c] [] none:=by
 unfold Frame.enter;simp[hf,hb,fr]
theorem ACT{P:Program}{f:FuncId}{fn:Func}{c:Code}{p:Array Value}(hf:P.funcs[f]? =some fn)(hb:fn.body=some c):Frame.enter P f p .deferred=fr f (p++Array.replicate (fn.ntmps - p.size) undef) [.code c] [] none true:=by
 unfold Frame.enter;simp[hf,hb,fr]
def Jc (l:List UInt8):List Value:=l.map λb=>.int .u8 b.toNat
theorem AAC{l:List UInt8}: ∀u∈Jc l,u.oneCell'=true:=by
 intro u hu;obtain⟨b,_,rfl⟩:=Ag.1 hu;rfl
theorem WZ{SR:Nat->Prop}{R:RF SR}{Gb:Nat->Prop}{L L':List (Nat×Obj)}(h: ∀p,p∈L↔p∈L'):ow R Gb L=ow R Gb L':=by
 have h1: ∀b,b∈L.map Prod.fst↔b∈L'.map Prod.fst:=λb=>by
  simp only[Ag,h]
 have e1:(ow R Gb L).O=(ow R Gb L').O:=funext λb=>propext (or_congr_right (h1 b));have e2:(ow R Gb L).I=(ow R Gb L').I:=funext λw=>propext (and_congr_left' (forall_congr' λp=>by rw[h]));generalize ow R Gb L=o at e1 e2;generalize ow R Gb L'=o' at e1 e2;obtain⟨O,I,st⟩:=o;obtain⟨O',I',st'⟩:=o';simp only at e1 e2;subst e1 e2;rfl
theorem kM{W:WB}{x:List (Nat×Obj)}{s1 s2:LS}{q r:Nat×Obj}: ∀p,p∈q::r::Lw W x s1 s2↔p∈Lw W (q::r::x) s1 s2:=by
 intro p;simp only[Lw,AA,AU];constructor
 ·rintro (h|h|h|h|h|h|h|h)<;>simp[h]
 rintro (h|h|h|h|h|h|h|h)<;>simp[h]
theorem Zj{P:Program}{w:World}{l:Nat}{r:Loop}{t:Tmp}{v:Value}(hl:w.heap[l]? =some (.loop r))(hp:r.params= #[t]):
  (Instr.yield l #[v]).run P w=.ok (.round l r.fn (r.tmps.setIfInBounds t v) r.assign r.body) w/\(Instr.yield l #[v]).events P w #[]= #[⟨.obj l,false,false⟩]:=by
 have e:(Instr.yield l #[v]).runT P w #[]=(.ok (.round l r.fn (r.tmps.setIfInBounds t v) r.assign r.body) w,#[⟨.obj l,false,false⟩]):=by
  unfold Instr.yield;rw[Uo hl,hp];have e1:(#[v]:Array Value).size=(#[t]:Array Tmp).size:=rfl;simp only[e1,ne_eq,not_true_eq_false,if_false];(have e2:(#[t]:Array Tmp).zip #[v]= #[(t,v)]:=by simp);rw[e2];simp[pure]
 rw[Sem.runT_eq] at e;exact⟨(Prod.mk.inj e).1,(Prod.mk.inj e).2⟩
theorem SS{T:Array Value}{op:Oper}{f x:Operand}{ats:Array TypeId}{l:Nat}{v:Value}(hop:op.op=.call {callee:=.value f,args:=#[x],argTypes:=ats})(hf:ev T f=.func (.yield l) #[] #[])(hx:ev T x=v):execOp (ev T) op=Instr.yield l #[v]:=by
 unfold execOp;simp only[hop,resolve,hf,BX,AL,BC,hx];rfl
theorem GN{SR:Nat->Prop}{o:Own SR}{es:Array Event}(h:es= #[]): ∀e∈es,Zf o e:=by
 subst h;intro e he;simp at he
theorem UN{T:Array Value}{op:Oper}{b:Builtin}{xs:Array Operand}{ats:Array TypeId}(hop:op.op=.call {callee:=.builtin b,args:=xs,argTypes:=ats}):execOp (ev T) op=builtin b ats op.type (xs.map fun| .const _=>true|_=>false) (xs.map (ev T)):=by
 unfold execOp;simp only[hop,resolve,invoke];rfl
theorem FO{ty:TypeId}{fl:Array Bool}{a:Option Addr}{n c:Nat}{w:World}:
  (builtin .len #[62] ty fl #[.slice a n c]).run Tryz.prog w=.ok (.value (.int .i64 (n:Int))) w/\(builtin .len #[62] ty fl #[.slice a n c]).events Tryz.prog w #[]= #[]:=⟨rfl,rfl⟩
theorem H9{p q:Prop}(h:q)(k:q->p:=by intro h;rw[UN (op:=_) rfl];simp only[BX,AL,BC];exact h):p:=k h
theorem Gv{ty:TypeId}{fl:Array Bool}{a b:Nat}{w:World}:
  (builtin .min #[3,3] ty fl #[.int .i64 (a:Int),.int .i64 (b:Int)]).run Tryz.prog w=.ok (.value (.int .i64 ((min a b:Nat):Int))) w/\(builtin .min #[3,3] ty fl #[.int .i64 (a:Int),.int .i64 (b:Int)]).events Tryz.prog w #[]= #[]:=by
 constructor
 ·(have h:(if (b:Int)<(a:Int) then (b:Int) else (a:Int))=((min a b:Nat):Int):=by split<;>omega);(have h2:(builtin .min #[3,3] ty fl #[.int .i64 (a:Int),.int .i64 (b:Int)]).run Tryz.prog w=.ok (.value (.int .i64 (if (b:Int)<(a:Int) then (b:Int) else (a:Int)))) w:=by rfl);rw[h2,h]
 rfl
theorem FY{T:Array Value}{op:Oper}{f:FuncId}{xs:Array Operand}{ats:Array TypeId}{vs:Array Value}(hop:op.op=.call {callee:=.value (.func f),args:=xs,argTypes:=ats})(hx:xs.map (ev T)=vs):execOp (ev T) op=callFunc f vs:=by
 unfold execOp;simp only[hop,resolve,hx];show callFunc f (#[]++vs++ #[])=_;simp
theorem rO:rP Tryz.f75= #[7]:=rfl
theorem fF:rP Tryz.f79= #[8]:=rfl
theorem Xa{p:Array Value}{w:World}:(callFunc 78 p).events Tryz.prog w #[]= #[]:=by rfl
theorem bP{a:Addr}{n c:Nat}{w:World}:(binOp .eql 62 (.slice (some a) n c) (.slice none 0 0)).events Tryz.prog w #[]= #[]:=by rfl
section
variable {C:Cx} (hP:C.P=Tryz.prog) {k:Nat} {s:Bool} {R:RF C.SR} {Gb:Nat->Prop} {L:List (Nat×Obj)} {cs:List Frame}
include hP
theorem w21{a:Addr}{n c:Nat}{l:List UInt8}(hl:l.length=n)(hn:0<n)(hle:n<=1073741824)(hnews: ∀w,R.R w->∀j v,(Jc l)[j]? =some v->w.cell? (a.add j)=some v)(vW:C.SR a.block){Vq:Frame}
  (next: ∀m0 m cap,n<=cap->Ut n 5 cap->(∃w,(ow R Gb L).I w/\w.heap.size=m0)->m0<m->PW C (.work s) k (G (Vq.finish (.slice (some ⟨m,0,none⟩) n cap)) cs) (ow R Gb ((m,.cells ((Jc l).toArray++Array.replicate (cap - n) (.int .u8 0)) 5)::(m0,.cells #[] 5)::L))):
  PW C (.work s) k (G (Frame.enter Tryz.prog 78 #[.slice (some a) n c] .normal) (Vq::cs)) (ow R Gb L):=by
 rw[H8 Tryz.func78 rfl];simp only[Tryz.f78,CG,List.length_cons,List.length_nil,Nat.reduceAdd,Nat.reduceSub,DY,Array.replicate_zero,DZ,Df,List.nil_append,List.cons_append];(iterate 8 refine Eu ?_);refine D9 (Cj hP) ?_ (he:=by intro w hw;unfold ev;simp[go_sem,bP]);refine Eu ?_;refine Cc (Cj hP) (λw=>s_cond (b:=false) rfl) rfl ?_;simp only[if_true,Ak,↓reduceIte];(iterate 3 refine Eu ?_);refine Nk (Cj hP) (λm=>.slice (some ⟨m,0,none⟩) 0 0) (.cells #[] 5) rfl rfl (.inl rfl) (λw hw=>?_) (λw hw=>?_) λm0 hm0=>?_
 ·unfold ev;simp[go_sem,execOp,Instr.buildSlice,newRow,Instr.fill]
 ·unfold ev;simp[go_sem,execOp,Instr.buildSlice,newRow,Instr.fill]
 simp only[put];walk_nrm;refine Eu ?_;refine ADm (Cj hP) (.tmp 5) (.tmp 6) rfl (t:=62) (e:=5) (z:=.int .u8 0) Tryz.underlying62 rfl rfl rfl rfl rfl (b0:=m0) rfl (BZ ..) (a:=a) (n:=n) (c:=c) rfl (news:=Jc l) (by simp[Jc,hl]) hn hle AAC hnews vW rfl rfl rfl λm cap h1 h2 h3=>?_;simp only[put];walk_nrm;(iterate 2 refine Eu ?_);refine Cc (Cj hP) (λw=>Nj) rfl ?_;refine JD (Cj hP) Tryz.func78 (λw=>MF rfl w) ?_;refine next m0 m cap h1 h2 hm0 ?_;obtain⟨w,hw,e⟩:=h3;have:=(BK.1 (hw.1 (m0,.cells #[] 5) (BZ ..))).1;omega
end
def Ru (src to NH:Value) (s:ByteArray) (cnt e n:Int) (lo:Nat) (r9 r10 r11 r12 r13 Jd Hm r16 Ho Nl:Value):Array Value:=
 #[src,to,NH,.string s,.int .i64 cnt,.int .i64 e,.int .i64 n,.int .i64 (s.size:Int),.int .i64 (lo:Int),r9,r10,r11,r12,r13,Jd,Hm,r16,Ho,Nl]
theorem AGT{s:ByteArray}{i g:Nat}{w:World}(b1:i<=g)(b2:g<=s.size):(Instr.sliceAt 9 (.string s) (some (.int .i64 (i:Int))) (some (.int .i64 (g:Int))) none).run Ae w=.ok (.string (s.extract i g)) w:=by
 simp[Instr.sliceAt,Instr.slice,Instr.sliceBounds,Instr.sliceBound,asIntOf,b1,b2]
def Qe (s:ByteArray):List Value:=s.data.toList.map λb=>.int .u8 b.toNat
section
variable {Kp:Frame->List Frame->World->Prop} (Bz: ∀f ts v,Kp f ts v->ts=[]) {Good:VS->Prop} {cs:List Frame} {c0:Frame} {v:World}
 {src to NH:Value} {s:ByteArray} {cnt e n:Int} {lo:Nat} {r9 r10 r11 r12 r13 Jd Hm r16 Ho Nl:Value} {kt:List Item}
include Bz
theorem AJY{fn:FuncId}{T:Array Value}{k:List Item}{ops:Array Oper}{i:Nat}{rest:List Nat}{op:Oper}(xi:Operand)(hop:op.op=.call {callee:=.builtin .append,args:=#[.const (.slice none 0 0),xi],argTypes:=#[62,9]})
  {p:ByteArray} (hx:ev T xi=.string p) (h0:0<p.size) (h1:p.size<=1073741824) {cap:Nat} (hcap:Ut p.size 5 cap) (ho:ops[i]? =some op) (hw:Region.wanted op (yielded ops T)=true)
  (next: ∀t,Vr Ae Kp Good ⟨fr fn (put T op.dst (.slice (some ⟨v.heap.size,0,none⟩) p.size cap)) (.inRegion ops rest::k) [] none,c0::cs,{v with heap:=v.heap.push (.cells ((Qe p).toArray++Array.replicate (cap - p.size) (.int .u8 0)) 5),drawn:=v.drawn+1,tape:=t}⟩):
  Vr Ae Kp Good ⟨fr fn T (.inRegion ops (i::rest)::k) [] none,c0::cs,v⟩:=by
 obtain⟨_,x,hx'⟩:=hcap;let t:Nat->Question->Nat:=λj q=>if j=v.drawn then x else v.tape j q
 have hg:grownCap (v.DL t) p.size 0 5=cap:=by
  show (Question.appendCap p.size 0 5).cut (t v.drawn _)=cap;simp only[t,if_true];exact hx'.symm
 have hi: ∃ie,Ae.info? 5=some ie/\ie.zero=some (.int .u8 0)/\ie.bytes=1:=by
  have h:(Ae.info? 5).map (λi=>(i.zero,i.bytes))=some (some (.int .u8 0),1):=by kernel_rfl
  cases hq:Ae.info? 5 with
  |none=>rw[hq] at h;cases h|some ie=>
   rw[hq] at h;simp only[Option.map_some,BD,EW] at h;exact⟨ie,rfl,h.1,h.2⟩
 obtain⟨ie,hi1,hi2,hi3⟩:=hi;have hr:=run_append_nil_string (P:=Ae) (w:=v.DL t) 62 9 op.type 5 ie (.int .u8 0) ((Ai.und _).trans Tryz.underlying62) ((Ai.und _).trans Tryz.underlying9) hi1 hi2 p h0 Ac (by rw[hi3];omega);rw[hg] at hr
 have hzz: ∀m,Builtin.zeroCells (Value.int .u8 0).cells m=Array.replicate m (.int .u8 0):=by
  intro m;unfold Builtin.zeroCells;apply Ic;simp[Value.cells];intro j h1 h2;simp[Value.cells,Lj]
 rw[hzz] at hr
 have hd:p.data.map (λb=>Value.int .u8 b.toNat)=(Qe p).toArray:=by
  unfold Qe;rw[<- Hr,Array.toArray_toList]
 rw[hd] at hr
 have hrun:(execOp (ev T) op).run Ae (v.DL t)=.ok (.value (.slice (some ⟨v.heap.size,0,none⟩) p.size cap)) {v with heap:=v.heap.push (.cells ((Qe p).toArray++Array.replicate (cap - p.size) (.int .u8 0)) 5),drawn:=v.drawn+1,tape:=t}:=by
  rw[UN hop];simp only[BX,AL,BC];rw[show ev T (.const (.slice none 0 0))=.slice none 0 0 from rfl,hx];simp only[builtin,Sem.run_bind,hr,Result.andThen_ok,Sem.run_pure];rfl
 refine (rJ (λx=>by cases Bz _ _ _ x) t (λj hj=>?_) (WV ho hw (.inl rfl) hrun) (next t)).vr;(have: ¬j=v.drawn:=by omega);funext q;simp only[t,this,if_false]
theorem APH(hlt:lo<s.size)(hs:s.size<=1073741824)(hn:1<=n){d:Nat}(hd:(d:Int)=min n ((s.size:Int) - lo)){cap:Nat}(hcap:Ut d 5 cap)
  (next: ∀t,Vr Ae Kp Good ⟨fr 46 (Ru src to NH s cnt e n lo (.bool true) (.int .i64 ((s.size:Int) - lo)) (.int .i64 d) (.int .i64 ((lo:Int)+(d:Int))) (.string (s.extract lo (lo+d))) (.slice (some ⟨v.heap.size,0,none⟩) d cap) Hm r16 Ho Nl) (.inRegion RN [0]:: .code UM::kt) [] none,c0::cs,
   {v with heap:=v.heap.push (.cells ((Qe (s.extract lo (lo+d))).toArray++Array.replicate (cap - d) (.int .u8 0)) 5),drawn:=v.drawn+1,tape:=t}⟩):
  Vr Ae Kp Good ⟨fr 46 (Ru src to NH s cnt e n lo r9 r10 r11 r12 r13 Jd Hm r16 Ho Nl) (.code Ai.loop::kt) [] none,c0::cs,v⟩:=by
 have Next:=AQ next;clear next;unfold Ru at Next⊢;(have hw1:IntKind.i64.wrap ((s.size:Int) - (lo:Int))=(s.size:Int) - lo:=by rw[IntKind.wrap_i64];omega);(have hd1:1<=d:=by omega);(have hd2:lo+d<=s.size:=by omega);(have hw2:IntKind.i64.wrap ((lo:Int)+(d:Int))=(lo:Int)+(d:Int):=by rw[IntKind.wrap_i64];omega);have hps:(s.extract lo (lo+d)).size=d:=by rw[ByteArray.size_extract];omega
 have hsl: ∀w,(Instr.sliceAt 9 (.string s) (some (.int .i64 (lo:Int))) (some (.int .i64 ((lo:Int)+(d:Int)))) none).run Ae w=.ok (.string (s.extract lo (lo+d))) w:=λw=>by
  have:=AGT (s:=s) (i:=lo) (g:=lo+d) (w:=w) Ac hd2;rwa[show ((lo+d:Nat):Int)=(lo:Int)+(d:Int) by omega] at this
 (have hif:(if (s.size:Int) - (lo:Int)<n then (s.size:Int) - (lo:Int) else n)=(d:Int):=by split<;>omega);clear hd hn;(iterate 5 refine Po ?_);refine II Bz (λw=>s_cond (b:=true) rfl) ?_;simp only[if_false,Ak,↓reduceIte];(iterate 7 refine Po ?_);rw[<- hps] at hcap;refine AJY Bz (op:=_) (.tmp 13) rfl (p:=s.extract lo (lo+d)) rfl Ac Ac hcap rfl rfl λt=>?_;simp only[put];walk_nrm;rw[hps];(iterate 3 refine Po ?_);rw[hif];exact Next.out t
omit Bz in
theorem kP{P:Program}{f:Func}{T:Array Value}{a b:Tmp}(h:f.results= #[.tmp a,.tmp b])(w:World):(results f T).runT P w #[]=(.ok (.tuple #[T.getD a undef,T.getD b undef]) w,#[]):=by
 rw[Sem.runT_eq];simp[results,h]
theorem ADo{T:Array Value}(next:Vr Ae Kp Good ⟨c0.finish (.tuple #[T.getD 4 undef,T.getD 5 undef]),cs,v⟩):Vr Ae Kp Good ⟨fr 46 T [.code .ret] [] none,c0::cs,v⟩:=by
 refine II Bz (λw=>Nj) ?_;exact (MO (λx=>by cases Bz _ _ _ x) (kJ (mn:=true) rH (kP rfl v)) next).vr
theorem API(hlt:s.size<=lo)(next:Vr Ae Kp Good ⟨c0.finish (.tuple #[.int .i64 cnt,.int .i64 e]),cs,v⟩):
  Vr Ae Kp Good ⟨fr 46 (Ru src to NH s cnt e n lo r9 r10 r11 r12 r13 Jd Hm r16 Ho Nl) [.code Ai.loop,.inLoop Ai.loop,.inBlock 0,.code .ret] [] none,c0::cs,v⟩:=by
 have Next:=AQ next;clear next;unfold Ru;(have hd0:decide (lo<s.size)=false:=by simp;omega);(have hlt': ¬lo<s.size:=by omega);(iterate 5 refine Po ?_);refine II Bz (λw=>s_cond (b:=false) rfl) ?_;simp only[if_true,Ak,↓reduceIte];refine II Bz (λw=>s_exit rfl) ?_;exact ADo Bz Next.out
theorem AJZ(he:e≠0){e0:Int}(next:Vr Ae Kp Good ⟨c0.finish (.tuple #[.int .i64 cnt,.int .i64 e]),cs,v⟩):
  Vr Ae Kp Good ⟨(fr 46 (Ru src to NH s cnt e0 n lo r9 r10 r11 r12 r13 Jd Hm r16 Ho Nl) [.inRegion RN [0],.code UM,.inLoop Ai.loop,.inBlock 0,.code .ret] [] none).finish (.int .i64 e),c0::cs,v⟩:=by
 have Next:=AQ next;clear next;unfold Ru;rw[EE (o:=_) rfl];simp only[put];walk_nrm;(have hne:(e !=0)=true:=by simpa using he);(iterate 8 refine Po ?_);refine II Bz (λw=>s_cond (b:=true) rfl) ?_;simp only[if_true,if_false,↓reduceIte];refine II Bz (λw=>s_exit rfl) ?_;exact ADo Bz Next.out
theorem AM0{e0 c2:Int}{d:Nat}(hc2:IntKind.i64.wrap (cnt+1)=c2)(next:Vr Ae Kp Good ⟨fr 46 (Ru src to NH s c2 0 n (lo+d) r9 r10 r11 (.int .i64 ((lo:Int)+(d:Int))) r13 Jd (.int .i64 0) (.int .i64 0) (.bool false) (.int .i64 c2)) [.code Ai.loop,.inLoop Ai.loop,.inBlock 0,.code .ret] [] none,c0::cs,v⟩):
  Vr Ae Kp Good ⟨(fr 46 (Ru src to NH s cnt e0 n lo r9 r10 r11 (.int .i64 ((lo:Int)+(d:Int))) r13 Jd Hm r16 Ho Nl) [.inRegion RN [0],.code UM,.inLoop Ai.loop,.inBlock 0,.code .ret] [] none).finish (.int .i64 0),c0::cs,v⟩:=by
 have Next:=AQ next;clear next;unfold Ru at Next⊢;rw[EE (o:=_) rfl];simp only[put];walk_nrm;(have hw0:IntKind.i64.wrap 0=0:=by decide);(iterate 8 refine Po ?_);refine II Bz (λw=>s_cond (b:=false) rfl) ?_;simp only[if_true,Ak,↓reduceIte];(iterate 7 refine Po ?_);(have hc:((lo+d:Nat):Int)=(lo:Int)+(d:Int):=by omega);rw[<- hc];rw[<- hc] at Next;exact Next.out
end
theorem AAD{T:Array Value}{op:Oper}{f:Operand}{xs:Array Operand}{ats:Array TypeId}{g:FuncId}{q vs:Array Value}(hop:op.op=.call {callee:=.value f,args:=xs,argTypes:=ats})(hf:ev T f=.func (.func g) #[] q)(hx:xs.map (ev T)=vs):execOp (ev T) op=callFunc g (vs++q):=by
 unfold execOp;simp only[hop,resolve,Deferred.ofValue,hf,hx];show invoke (.fn (.func g) q) (#[]++vs)=_;simp[invoke]
theorem AM1{w:World}{p:Array Value}:(callFunc 79 p).run Ae w=.ok (.enter 79 p) w:=by
 unfold callFunc;simp only[Sem.run_bind];have:(program).run Ae w=.ok Ae w:=rfl;rw[this];simp only[Result.andThen_ok,kG];rfl
section
variable {Kp:Frame->List Frame->World->Prop} (Bz: ∀f ts v,Kp f ts v->ts=[]) {Good:VS->Prop} {cs:List Frame} {c0:Frame} {v:World}
 {to:Value} {s:ByteArray} {n:Int}
include Bz
theorem AJa(next:Vr Ae Kp Good ⟨fr 46 (Ru (FD 79 s n) to (.tuple #[.string s,.int .i64 n]) s 0 0 n 0 undef undef undef undef undef undef undef undef undef undef) [.code Ai.loop,.inLoop Ai.loop,.inBlock 0,.code .ret] [] none,c0::cs,v⟩):
  kL Ae Kp Good ⟨Frame.enter Ae 46 #[FD 79 s n,to] .normal,c0::cs,v⟩:=by
 have Next:=AQ next;clear next;unfold Ru at Next;rw[H8 rH rfl];simp only[Ai.f46,CG,List.length_cons,List.length_nil,Nat.reduceAdd,Nat.reduceSub,DY,Array.replicate_zero,DZ,Df,List.nil_append,List.cons_append];refine MO (λx=>by cases Bz _ _ _ x) Jk ?_;refine Po ?_;refine AGS Bz (f:=79) (args:=#[.int .i64 0,.int .i64 0,.int .i64 0,.int .i64 0,.int .i64 0,.string s,.int .i64 n]) rfl rfl (λw=>?_) ?_
 ·rw[AAD (op:=_) (f:=.tmp 0) (g:=79) (q:=#[.string s,.int .i64 n]) (vs:=#[.int .i64 0,.int .i64 0,.int .i64 0,.int .i64 0,.int .i64 0]) rfl rfl (by simp only[BX,AL,BC];rfl),AM1];rfl
 rw[H8 kG rfl];simp only[Ai.f79,CG,List.length_cons,List.length_nil,Nat.reduceAdd,Nat.reduceSub,DY,Array.replicate_zero,DZ,Df,List.nil_append,List.cons_append];(iterate 4 refine Po ?_);refine II Bz (λw=>Nj) ?_;refine rM Bz kG (λw=>kP rfl w) ?_;rw[EE (o:=_) rfl];simp only[put];walk_nrm;(iterate 9 refine Po ?_);refine II Bz (λw=>iY) ?_;exact Next.out
end
noncomputable def fG (y v1 v2:Value) (yb:Nat) (v5 v6 v7 c:Value):Array Value:=
 #[y,v1,v2,.pointer (some ⟨yb,0,none⟩),undef,v5,v6,v7,c,undef,undef,undef,undef,undef]
section
variable {C:Cx} (hP:C.P=Tryz.prog) {k:Nat} {R:RF C.SR} (hR:R.Ok) {W:WB} (hW:W.Ok) {x:List (Nat×Obj)} (hx: ∀p∈x,isCells p.2) {wg cb xb sb yb:Nat} (hS:ig C R cb sb) {src v1 v2 v5 v6 v7:Value}
 (hT1:W.T1=fE wg cb xb sb C.bc src undef) (hyb:(yb,.cells #[.func (.yield W.l1) #[] #[]] 171)∈W.bx) {c29:Frame} {cs:List Frame}
include hP hR hW hx hS hT1 hyb
theorem w22{a:Addr}{n c:Nat}{l:List UInt8}(hl:l.length=n)(hn:0<n)(hle:n<=1073741824)(hnews: ∀w,R.R w->∀j v,(Jc l)[j]? =some v->w.cell? (a.add j)=some v)(vW:C.SR a.block)
  (hcs: ∀m cap,¬C.SR m->n<=cap->Ut n 5 cap->C.Cs k (.slice (some ⟨m,0,none⟩) n cap) m (.cells ((Jc l).toArray++Array.replicate (cap - n) (.int .u8 0)) 5))
  (hgo: ∀x',(∀p∈x',isCells p.2)->PW C (.work false) (k+1) (G (c29.finish (.bool true)) cs) (ow R (λ_=>False) (Lw W x' LS.ready LS.ready)))
  (hstop: ∀x',(∀p∈x',isCells p.2)->PW C (.work true) k (G (c29.finish (.bool false)) cs) (ow R (λ_=>False) (Lw W x' LS.left LS.left))):
  PW C (.work false) k (G (fr 79 (fG (.func (.yield W.l1) #[] #[]) v1 v2 yb v5 v6 v7 (.slice (some a) n c)) [.code (rA Tryz.f79),.beginRound,.code (rB Tryz.f79)] [] (some W.l2)) (c29::cs)) (ow R (λ_=>False) (Lw W x LS.ready LS.ready)):=by
 have fy: ∀{s1 s2:LS} {y:List (Nat×Obj)} (w:World),(ow R (λ_=>False) (Lw W y s1 s2)).I w->w.cell? ⟨yb,0,none⟩=some (.func (.yield W.l1) #[] #[]):=λw hw=>by
  have h:=hw.1 (yb,.cells #[.func (.yield W.l1) #[] #[]] 171) (bJ hyb);unfold World.cell?;rw[h];rfl
 have ry: ∀{s1 s2:LS} {y:List (Nat×Obj)},(ow R (λ_=>False) (Lw W y s1 s2)).O yb:=λ{s1 s2 y}=>.inr (Dz (bJ hyb));simp only[fG];have ea:rA Tryz.f79=rA Tryz.f79:=rfl
 conv at ea=>lhs;simp only[rA,EH,MC,Tryz.f79,Option.getD_some,Option.or,Option.map_some]
 have eb:rB Tryz.f79=rB Tryz.f79:=rfl
 conv at eb=>lhs;simp only[rB,EH,MC,Tryz.f79,Option.getD_some,Option.or,Option.map_some]
 rw[<- ea,<- eb];clear ea eb;(iterate 3 refine Eu ?_);refine ACK (fn:=79) (s2:=LS.ready) (s2':=LS.busy) hP hR hW hx (λw h=>zu h rfl) rfl ?_;iterate 2 refine Eu ?_
 have hz: ∀w,(ow R (λ_=>False) (Lw W x LS.ready LS.busy)).I w->∀y∈(Lw W x LS.ready LS.busy).map Prod.fst,y<w.heap.size:=λw hw y hy=>by
  obtain⟨p,hp,rfl⟩:=Ag.1 hy;exact (BK.1 (hw.1 p hp)).1
 apply AJV (λm0 m cap=>n<=cap/\(Ut n 5 cap/\¬C.SR m)/\m0<m/\∀y∈(Lw W x LS.ready LS.busy).map Prod.fst,y<m0)
 ·intro fin;refine kK (Cj hP) [[0,1,2,3,4],[1,0,2,3,4],[1,2,0,3,4]] (.inl Ap) Ap λl hl=>?_;simp only[AA,AB,or_false] at hl;rcases hl with rfl|rfl|rfl
  ·skip;refine D9 (Cj hP) ?_ (hr:=by intro w hw;have f0:=fy w hw;unfold ev;go_simp;exact rfl) (he:=by intro w hw;have f0:=fy w hw;unfold ev;simp[go_sem,f0];exact⟨.inl ry,rfl⟩);refine Eu ?_;refine Qx (Cj hP) (f:=78) (args:=#[.slice (some a) n c]) rfl rfl (.inr (λc h=>by cases h)) (λw hw=>?_) (λw hw=>?_) ?_;rw[FY (op:=_) (f:=78) (vs:=#[.slice (some a) n c]) rfl (by simp only[BX,AL,BC];rfl)];rfl;rw[FY (op:=_) (f:=78) (vs:=#[.slice (some a) n c]) rfl (by simp only[BX,AL,BC];rfl),Xa];intro e he;simp at he;refine w21 hP hl hn hle hnews vW λm0 m cap h1 h2 ⟨w0,hw0,e0⟩ h4=>?_;rw[EE (o:=_) rfl,WZ kM];simp only[put];walk_nrm;exact fin m0 m cap ⟨h1,⟨h2,λhs=>by have:=R.lt w0 hw0.2 m hs;omega⟩,h4,λy hy=>by rw[<- e0];exact hz w0 hw0 y hy⟩
  ·skip;refine Eu ?_;refine D9 (Cj hP) ?_ (hr:=by intro w hw;have f0:=fy w hw;unfold ev;go_simp;exact rfl) (he:=by intro w hw;have f0:=fy w hw;unfold ev;simp[go_sem,f0];exact⟨.inl ry,rfl⟩);refine Qx (Cj hP) (f:=78) (args:=#[.slice (some a) n c]) rfl rfl (.inr (λc h=>by cases h)) (λw hw=>?_) (λw hw=>?_) ?_;rw[FY (op:=_) (f:=78) (vs:=#[.slice (some a) n c]) rfl (by simp only[BX,AL,BC];rfl)];rfl;rw[FY (op:=_) (f:=78) (vs:=#[.slice (some a) n c]) rfl (by simp only[BX,AL,BC];rfl),Xa];intro e he;simp at he;refine w21 hP hl hn hle hnews vW λm0 m cap h1 h2 ⟨w0,hw0,e0⟩ h4=>?_;rw[EE (o:=_) rfl,WZ kM];simp only[put];walk_nrm;exact fin m0 m cap ⟨h1,⟨h2,λhs=>by have:=R.lt w0 hw0.2 m hs;omega⟩,h4,λy hy=>by rw[<- e0];exact hz w0 hw0 y hy⟩
  skip;refine Eu ?_;refine Qx (Cj hP) (f:=78) (args:=#[.slice (some a) n c]) rfl rfl (.inr (λc h=>by cases h)) (λw hw=>?_) (λw hw=>?_) ?_;rw[FY (op:=_) (f:=78) (vs:=#[.slice (some a) n c]) rfl (by simp only[BX,AL,BC];rfl)];rfl;rw[FY (op:=_) (f:=78) (vs:=#[.slice (some a) n c]) rfl (by simp only[BX,AL,BC];rfl),Xa];intro e he;simp at he;refine w21 hP hl hn hle hnews vW λm0 m cap h1 h2 ⟨w0,hw0,e0⟩ h4=>?_;rw[EE (o:=_) rfl,WZ kM];simp only[put];walk_nrm;refine D9 (Cj hP) ?_ (hr:=by intro w hw;have f0:=fy w hw;unfold ev;go_simp;exact rfl) (he:=by intro w hw;have f0:=fy w hw;unfold ev;simp[go_sem,f0];exact⟨.inl ry,rfl⟩);exact fin m0 m cap ⟨h1,⟨h2,λhs=>by have:=R.lt w0 hw0.2 m hs;omega⟩,h4,λy hy=>by rw[<- e0];exact hz w0 hw0 y hy⟩
 rintro m0 m cap ⟨h1,h2,h3,h4⟩;(have hx1: ∀p∈(m0,Obj.cells #[] 5)::x,isCells p.2:=λp hp=>by rcases AA.1 hp with rfl|hp<;>first|exact⟨_,_,_,rfl⟩|exact hx p hp);(have hx2: ∀p∈(m,Obj.cells ((Jc l).toArray++Array.replicate (cap - n) (.int .u8 0)) 5)::(m0,Obj.cells #[] 5)::x,isCells p.2:=λp hp=>by rcases AA.1 hp with rfl|hp<;>first|exact⟨_,_,_,rfl⟩|exact hx1 p hp);refine rE (Cj hP) (l:=W.l1) (f:=75) (tm:=fE wg cb xb sb C.bc src (.slice (some ⟨m,0,none⟩) n cap)) (a:=rA Tryz.f75) (b:=rB Tryz.f75) rfl rfl (.inr (λc h=>by cases h)) (λw hw=>?_) (λw hw=>?_) ?_
 ·have hl:w.heap[W.l1]? =some (lp 75 Tryz.f75 W.T1 W.d1 LS.ready):=hw.1 (W.l1,lp 75 Tryz.f75 W.T1 W.d1 LS.ready) ACH;obtain⟨h1,_⟩:=Zj (P:=Tryz.prog) (l:=W.l1) (v:=.slice (some ⟨m,0,none⟩) n cap) hl rO;rw[SS (op:=_) (v:=.slice (some ⟨m,0,none⟩) n cap) (f:=.tmp 9) (x:=.tmp 11) rfl rfl rfl,h1];simp only[hT1];rfl
 ·have hl:w.heap[W.l1]? =some (lp 75 Tryz.f75 W.T1 W.d1 LS.ready):=hw.1 (W.l1,lp 75 Tryz.f75 W.T1 W.d1 LS.ready) ACH;obtain⟨h1,h2⟩:=Zj (P:=Tryz.prog) (l:=W.l1) (v:=.slice (some ⟨m,0,none⟩) n cap) hl rO;rw[SS (op:=_) (v:=.slice (some ⟨m,0,none⟩) n cap) (f:=.tmp 9) (x:=.tmp 11) rfl rfl rfl,h2];intro e he;simp only[Bv,Ad] at he;subst he;exact⟨.inr (Dz ACH),rfl⟩
 refine w25 hP hR hW hx1 hS ⟨_,_,_,rfl⟩ (hcs m cap h2.2 h1 h2.1) ?_ ?_ ?_
 ·refine⟨λhm=>?_,λh=>h⟩
  have:m∈(Lw W x LS.ready LS.busy).map Prod.fst\/m=m0:=by
   simp only[Lw,AL,Bf,AA,AU] at hm⊢;rcases hm with h|h|h|h|h|h|h<;>simp[h]
  rcases this with h|h;have:=h4 m h;omega;omega
 ·rw[EE (o:=_) rfl];simp only[put];walk_nrm;(iterate 5 refine Eu ?_);exact ACK (fn:=79) (s2:=LS.busy) (s2':=LS.ready) hP hR hW hx1 (λw h=>iZ (.inl ⟨rfl,rfl⟩) h) rfl (hgo _ hx1)
 rw[EE (o:=_) rfl];simp only[put];walk_nrm;(iterate 3 refine Eu ?_);exact ACK (fn:=79) (s2:=LS.busy) (s2':=LS.left) hP hR hW hx2 (λw h=>iZ (.inr ⟨_,rfl,rfl⟩) h) rfl (hstop _ hx2)
end
theorem lf1{p:Prop}(h:p:=by intro w hw;have f0:=FA.out _ _ _ w hw;have f1:=FB.out _ _ _ w hw;unfold ev;go_simp;exact rfl):p:=h
theorem lf2{p:Prop}(h:p:=by intro w hw;have f0:=FA.out _ _ _ w hw;have f1:=FB.out _ _ _ w hw;unfold ev;simp[go_sem,f0,f1];first|exact⟨.inl (RA.out _ _ _),rfl⟩|exact⟨.inl (RB.out _ _ _),rfl⟩):p:=h
noncomputable def SX:Code:=match EH Tryz.f119 with| .seq _ (.block _ (.loop c))=>c|_=>.skip
theorem AGU{w:World}{es:Array Event}:(sizeOf 5).events Tryz.prog w es=es:=rfl
theorem AGV{d:Addr}{n c i:Nat}{w':World}(b1:i<=n)(b2:i<c)(hc:n<=c):(Instr.sliceAt 62 (.slice (some d) n c) (some (.int .i64 (i:Int))) none none).run Tryz.prog w'=.ok (.slice (some (d.add i)) (n - i) (c - i)) w':=by
 (have b3: ¬(c=i):=by omega);simp[Instr.sliceAt,Instr.slice,Instr.sliceBounds,Instr.sliceBound,asIntOf,b1,b3,hc]
theorem AJb{d:Addr}{n c i:Nat}{w':World}(b1:i<=n)(b2:i<c)(hc:n<=c):(Instr.sliceAt 62 (.slice (some d) n c) (some (.int .i64 (i:Int))) none none).events Tryz.prog w' #[]= #[]:=by
 (have b3: ¬(c=i):=by omega);simp[Instr.sliceAt,Instr.slice,Instr.sliceBounds,Instr.sliceBound,asIntOf,b1,b3,hc,AGU]
theorem AGW{d:Addr}{n c i g:Nat}{w':World}(b1:i<g)(b2:g<=n)(hc:n<=c):(Instr.sliceAt 62 (.slice (some d) n c) (some (.int .i64 (i:Int))) (some (.int .i64 (g:Int))) (some (.int .i64 (g:Int)))).run Tryz.prog w'=.ok (.slice (some (d.add i)) (g - i) (g - i)) w':=by
 (have b3: ¬(g=i):=by omega);(have b4:i<=g:=by omega);(have b5:g<=c:=by omega);simp[Instr.sliceAt,Instr.slice,Instr.sliceBounds,Instr.sliceBound,asIntOf,b3,b4,b5]
theorem AJc{d:Addr}{n c i g:Nat}{w':World}(b1:i<g)(b2:g<=n)(hc:n<=c):(Instr.sliceAt 62 (.slice (some d) n c) (some (.int .i64 (i:Int))) (some (.int .i64 (g:Int))) (some (.int .i64 (g:Int)))).events Tryz.prog w' #[]= #[]:=by
 (have b3: ¬(g=i):=by omega);(have b4:i<=g:=by omega);(have b5:g<=c:=by omega);simp[Instr.sliceAt,Instr.slice,Instr.sliceBounds,Instr.sliceBound,asIntOf,b3,b4,b5,AGU]
section
variable {C:Cx} (hP:C.P=Tryz.prog) {R:RF C.SR} (hR:R.Ok) {W:WB} (hW:W.Ok) {wg cb xb sb yb:Nat} (hS:ig C R cb sb) {src v1 v2 u5 u6 u7:Value}
 (hT1:W.T1=fE wg cb xb sb C.bc src undef) (hT2:W.T2=fG (.func (.yield W.l1) #[] #[]) v1 v2 yb u5 u6 u7 undef) (hyb:(yb,.cells #[.func (.yield W.l1) #[] #[]] 171)∈W.bx) {cF:Frame} {cs:List Frame}
 {l:List UInt8} {sz c:Nat} {D:Option Addr} {A2 B2:Nat} (hA:(A2,.cells #[.slice D l.length c] 62)∈W.bx) (hB:(B2,.cells #[.int .i64 (sz:Int)] 3)∈W.bx)
 (hsz:1<=sz) (hle:l.length<=1073741824) (kQ:sz<=9223372036854775807) (hc:l.length<=c) (hDn:D=none->l=[]) (hD:0<l.length->∀d,D=some d->C.SR d.block/\∀w,R.R w->∀j v,(Jc l)[j]? =some v->w.cell? (d.add j)=some v)
 (hcs: ∀k,k*sz<l.length->∀m cap,¬C.SR m->((l.drop (k*sz)).take sz).length<=cap->Ut ((l.drop (k*sz)).take sz).length 5 cap->C.Cs k (.slice (some ⟨m,0,none⟩) ((l.drop (k*sz)).take sz).length cap) m (.cells ((Jc ((l.drop (k*sz)).take sz)).toArray++Array.replicate (cap - ((l.drop (k*sz)).take sz).length) (.int .u8 0)) 5))
include hP hR hW hS hT1 hT2 hyb hA hB hsz hle kQ hc hDn hD hcs
theorem w29(hN: ∀k,l.length<=k*sz->(∀j,j<k->j*sz<l.length)->k=C.N)
  (hend: ∀x,(∀p∈x,isCells p.2)->PW C (.work false) C.N (G (cF.finish (.tuple #[])) cs) (ow R (λ_=>False) (Lw W x LS.ready LS.ready)))
  (hstop: ∀k x,(∀p∈x,isCells p.2)->PW C (.work true) k (G (cF.finish (.tuple #[])) cs) (ow R (λ_=>False) (Lw W x LS.left LS.left))):
  ∀(M k i:Nat),k*sz=i->l.length - i<M->(∀j,j<k->j*sz<l.length)->∀(x:List (Nat×Obj)),(∀p∈x,isCells p.2)->∀v3 v5 v6 v7 v8 v9 v10 v11 v12 v13 v14 v15 v16 v17 v18 v19 v20 v21 v22 v23 v24 v25 v26 v27 v28 v29 v30:Value,
   PW C (.work false) k (G (fr 119 #[.func (.yield W.l2) #[] #[],.pointer (some ⟨A2,0,none⟩),.pointer (some ⟨B2,0,none⟩),v3,.int .i64 (i:Int),v5,v6,v7,v8,v9,v10,v11,v12,v13,v14,v15,v16,v17,v18,v19,v20,v21,v22,v23,v24,v25,v26,v27,v28,v29,v30] [.code SX,.inLoop SX,.inBlock 0] [] none) (cF::cs)) (ow R (λ_=>False) (Lw W x LS.ready LS.ready)):=by
 intro M
 induction M with
 |zero=>intro k i hi hM;omega
 |succ M ih=>
 intro k i hi hM hk x hx v3 v5 v6 v7 v8 v9 v10 v11 v12 v13 v14 v15 v16 v17 v18 v19 v20 v21 v22 v23 v24 v25 v26 v27 v28 v29 v30
 have fA: ∀(s1 s2:LS) (y:List (Nat×Obj)) (w:World),(ow R (λ_=>False) (Lw W y s1 s2)).I w->w.cell? ⟨A2,0,none⟩=some (.slice D l.length c):=λ_ _ _ w hw=>by
  have h:=hw.1 (A2,.cells #[.slice D l.length c] 62) (bJ hA);unfold World.cell?;rw[h];rfl
 have fB: ∀(s1 s2:LS) (y:List (Nat×Obj)) (w:World),(ow R (λ_=>False) (Lw W y s1 s2)).I w->w.cell? ⟨B2,0,none⟩=some (.int .i64 (sz:Int)):=λ_ _ _ w hw=>by
  have h:=hw.1 (B2,.cells #[.int .i64 (sz:Int)] 3) (bJ hB);unfold World.cell?;rw[h];rfl
 have rA: ∀(s1 s2:LS) (y:List (Nat×Obj)),(ow R (λ_=>False) (Lw W y s1 s2)).O A2:=λs1 s2 y=>.inr (Dz (bJ hA));have rB: ∀(s1 s2:LS) (y:List (Nat×Obj)),(ow R (λ_=>False) (Lw W y s1 s2)).O B2:=λs1 s2 y=>.inr (Dz (bJ hB));have FA:=AQ fA;have FB:=AQ fB;have RA:=AQ rA;have RB:=AQ rB;have HA:=AQ hA;have HB:=AQ hB;have Hcs:=AQ hcs;have HD:=AQ hD;have HDn:=AQ hDn;have HT1:=AQ hT1;have HT2:=AQ hT2;have Hyb:=AQ hyb;have HN:=AQ hN;have APJ:=AQ hend;have AM2:=AQ hstop;have Ih:=AQ ih;have HR:=AQ hR;have HW:=AQ hW;have HS:=AQ hS;have Hx:=AQ hx;have Hk:=AQ hk;have jB:=AQ hsz;have jC:=AQ hle;have AGX:=AQ kQ;have HM:=AQ hM;clear fA fB rA rB hA hB hM kQ hle hsz hk hx hS hW hR ih hstop hend hN hyb hT2 hT1 hDn hD hcs;have el:SX=SX:=rfl
 conv at el=>lhs;simp only[SX,EH,Tryz.f119,Option.getD_some]
 obtain⟨L0,hL0⟩: ∃L0,Item.inLoop SX=Item.inLoop L0/\Go.RowKit.Hid (L0=SX):=⟨SX,rfl,rfl⟩;rw[hL0.1,<- el]
 replace hL0:=hL0.2
 clear el;(iterate 4 refine Eu ?_);refine D9 (Cj hP) ?_ (hr:=by intro w hw;have f0:=FA.out _ _ _ w hw;unfold ev;go_simp;exact rfl) (he:=by intro w hw;have f0:=FA.out _ _ _ w hw;unfold ev;simp[go_sem,f0];exact⟨.inl (RA.out _ _ _),rfl⟩);refine D9 (Cj hP) ?_ (hr:=λw _=>H9 FO.1) (he:=λw _=>H9 (GN FO.2));(iterate 2 refine Eu ?_);by_cases hlt:i<l.length
 ·(have hd1:decide (i<l.length)=true:=by simp;omega);rw[hd1];(obtain⟨d,rfl⟩: ∃d,D=some d:=by cases D with|none=>rw[HDn.out rfl] at hlt;simp at hlt|some d=>exact⟨d,rfl⟩);(have b2:i<c:=by omega);have hs1: ∀w',(Instr.sliceAt 62 (.slice (some d) l.length c) (some (.int .i64 (i:Int))) none none).run Tryz.prog w'=.ok (.slice (some (d.add i)) (l.length - i) (c - i)) w':=λw'=>AGV (FI hlt) b2 hc;have We: ∀w',(Instr.sliceAt 62 (.slice (some d) l.length c) (some (.int .i64 (i:Int))) none none).events Tryz.prog w' #[]= #[]:=λw'=>AJb (FI hlt) b2 hc;(iterate 5 refine Eu ?_);refine AE3 λk1 hk1=>?_;apply AJW
  ·intro fin;refine kK (Cj hP) [[0,1,2,3,4,5,6],[0,2,1,3,4,5,6],[1,0,2,3,4,5,6],[1,2,0,3,4,5,6],[1,2,3,0,4,5,6],[1,2,3,4,0,5,6],[2,0,1,3,4,5,6],[2,1,0,3,4,5,6],[2,1,3,0,4,5,6],[2,1,3,4,0,5,6]] (.inl Ap) Ap λl hl=>?_;simp only[AA,AB,or_false] at hl;rcases hl with rfl|rfl|rfl|rfl|rfl|rfl|rfl|rfl|rfl|rfl
   ·skip;refine D9 (Cj hP) ?_ (hr:=lf1) (he:=lf2);refine D9 (Cj hP) ?_ (hr:=lf1) (he:=lf2);refine Eu ?_;refine D9 (Cj hP) ?_ (he:=by intro w hw;unfold ev;simp[go_sem,We]);refine D9 (Cj hP) ?_ (hr:=λw _=>H9 FO.1) (he:=λw _=>H9 (GN FO.2));refine D9 (Cj hP) ?_ (hr:=λw _=>H9 Gv.1) (he:=λw _=>H9 (GN Gv.2));(iterate 2 refine Eu ?_);exact fin
   ·skip;refine D9 (Cj hP) ?_ (hr:=lf1) (he:=lf2);refine Eu ?_;refine D9 (Cj hP) ?_ (hr:=lf1) (he:=lf2);refine D9 (Cj hP) ?_ (he:=by intro w hw;unfold ev;simp[go_sem,We]);refine D9 (Cj hP) ?_ (hr:=λw _=>H9 FO.1) (he:=λw _=>H9 (GN FO.2));refine D9 (Cj hP) ?_ (hr:=λw _=>H9 Gv.1) (he:=λw _=>H9 (GN Gv.2));(iterate 2 refine Eu ?_);exact fin
   ·skip;refine D9 (Cj hP) ?_ (hr:=lf1) (he:=lf2);refine D9 (Cj hP) ?_ (hr:=lf1) (he:=lf2);refine Eu ?_;refine D9 (Cj hP) ?_ (he:=by intro w hw;unfold ev;simp[go_sem,We]);refine D9 (Cj hP) ?_ (hr:=λw _=>H9 FO.1) (he:=λw _=>H9 (GN FO.2));refine D9 (Cj hP) ?_ (hr:=λw _=>H9 Gv.1) (he:=λw _=>H9 (GN Gv.2));(iterate 2 refine Eu ?_);exact fin
   ·skip;refine D9 (Cj hP) ?_ (hr:=lf1) (he:=lf2);refine Eu ?_;refine D9 (Cj hP) ?_ (hr:=lf1) (he:=lf2);refine D9 (Cj hP) ?_ (he:=by intro w hw;unfold ev;simp[go_sem,We]);refine D9 (Cj hP) ?_ (hr:=λw _=>H9 FO.1) (he:=λw _=>H9 (GN FO.2));refine D9 (Cj hP) ?_ (hr:=λw _=>H9 Gv.1) (he:=λw _=>H9 (GN Gv.2));(iterate 2 refine Eu ?_);exact fin
   ·skip;refine D9 (Cj hP) ?_ (hr:=lf1) (he:=lf2);refine Eu ?_;refine D9 (Cj hP) ?_ (he:=by intro w hw;unfold ev;simp[go_sem,We]);refine D9 (Cj hP) ?_ (hr:=lf1) (he:=lf2);refine D9 (Cj hP) ?_ (hr:=λw _=>H9 FO.1) (he:=λw _=>H9 (GN FO.2));refine D9 (Cj hP) ?_ (hr:=λw _=>H9 Gv.1) (he:=λw _=>H9 (GN Gv.2));(iterate 2 refine Eu ?_);exact fin
   ·skip;refine D9 (Cj hP) ?_ (hr:=lf1) (he:=lf2);refine Eu ?_;refine D9 (Cj hP) ?_ (he:=by intro w hw;unfold ev;simp[go_sem,We]);refine D9 (Cj hP) ?_ (hr:=λw _=>H9 FO.1) (he:=λw _=>H9 (GN FO.2));refine D9 (Cj hP) ?_ (hr:=lf1) (he:=lf2);refine D9 (Cj hP) ?_ (hr:=λw _=>H9 Gv.1) (he:=λw _=>H9 (GN Gv.2));(iterate 2 refine Eu ?_);exact fin
   ·skip;refine Eu ?_;refine D9 (Cj hP) ?_ (hr:=lf1) (he:=lf2);refine D9 (Cj hP) ?_ (hr:=lf1) (he:=lf2);refine D9 (Cj hP) ?_ (he:=by intro w hw;unfold ev;simp[go_sem,We]);refine D9 (Cj hP) ?_ (hr:=λw _=>H9 FO.1) (he:=λw _=>H9 (GN FO.2));refine D9 (Cj hP) ?_ (hr:=λw _=>H9 Gv.1) (he:=λw _=>H9 (GN Gv.2));(iterate 2 refine Eu ?_);exact fin
   ·skip;refine Eu ?_;refine D9 (Cj hP) ?_ (hr:=lf1) (he:=lf2);refine D9 (Cj hP) ?_ (hr:=lf1) (he:=lf2);refine D9 (Cj hP) ?_ (he:=by intro w hw;unfold ev;simp[go_sem,We]);refine D9 (Cj hP) ?_ (hr:=λw _=>H9 FO.1) (he:=λw _=>H9 (GN FO.2));refine D9 (Cj hP) ?_ (hr:=λw _=>H9 Gv.1) (he:=λw _=>H9 (GN Gv.2));(iterate 2 refine Eu ?_);exact fin
   ·skip;refine Eu ?_;refine D9 (Cj hP) ?_ (hr:=lf1) (he:=lf2);refine D9 (Cj hP) ?_ (he:=by intro w hw;unfold ev;simp[go_sem,We]);refine D9 (Cj hP) ?_ (hr:=lf1) (he:=lf2);refine D9 (Cj hP) ?_ (hr:=λw _=>H9 FO.1) (he:=λw _=>H9 (GN FO.2));refine D9 (Cj hP) ?_ (hr:=λw _=>H9 Gv.1) (he:=λw _=>H9 (GN Gv.2));(iterate 2 refine Eu ?_);exact fin
   skip;refine Eu ?_;refine D9 (Cj hP) ?_ (hr:=lf1) (he:=lf2);refine D9 (Cj hP) ?_ (he:=by intro w hw;unfold ev;simp[go_sem,We]);refine D9 (Cj hP) ?_ (hr:=λw _=>H9 FO.1) (he:=λw _=>H9 (GN FO.2));refine D9 (Cj hP) ?_ (hr:=lf1) (he:=lf2);refine D9 (Cj hP) ?_ (hr:=λw _=>H9 Gv.1) (he:=λw _=>H9 (GN Gv.2));(iterate 2 refine Eu ?_);exact fin
  have hk1:=hk1.out;subst hk1;obtain⟨e,he⟩: ∃e,min sz (l.length - i)=e:=⟨_,rfl⟩;rw[he];(have e1:1<=e:=by have:=jB.out;omega);(have e2:i+e<=l.length:=by omega);(have hb1:IntKind.i64.wrap ((i:Int)+(e:Int))=((i+e:Nat):Int):=by rw[IntKind.wrap_i64];have:=jC.out;omega);have hct:((i+e:Nat):Int)=(i:Int)+(e:Int):=by omega
  have hs2: ∀w',(Instr.sliceAt 62 (.slice (some d) l.length c) (some (.int .i64 (i:Int))) (some (.int .i64 ((i:Int)+(e:Int)))) (some (.int .i64 ((i:Int)+(e:Int))))).run Tryz.prog w'=.ok (.slice (some (d.add i)) e e) w':=λw'=>by
   have:=AGW (d:=d) (n:=l.length) (c:=c) (i:=i) (g:=i+e) (w':=w') Ac Ac hc;rwa[show i+e - i=e by omega,hct] at this
  have AKC: ∀w',(Instr.sliceAt 62 (.slice (some d) l.length c) (some (.int .i64 (i:Int))) (some (.int .i64 ((i:Int)+(e:Int)))) (some (.int .i64 ((i:Int)+(e:Int))))).events Tryz.prog w' #[]= #[]:=λw'=>by
   have:=AJc (d:=d) (n:=l.length) (c:=c) (i:=i) (g:=i+e) (w':=w') Ac Ac hc;rwa[hct] at this
  clear hct;(iterate 3 refine Eu ?_);refine D9 (Cj hP) ?_ (hr:=by intro w hw;have f0:=FA.out _ _ _ w hw;unfold ev;go_simp;exact rfl) (he:=by intro w hw;have f0:=FA.out _ _ _ w hw;unfold ev;simp[go_sem,f0];exact⟨.inl (RA.out _ _ _),rfl⟩);(iterate 7 refine Eu ?_);refine D9 (Cj hP) ?_ (he:=by intro w hw;unfold ev;simp[go_sem,AKC]);have Hs1:=AQ hs1;have Hs2:=AQ hs2;clear hs1 hs2 We AKC;refine rE (Cj hP) (l:=W.l2) (f:=79) (tm:=fG (.func (.yield W.l1) #[] #[]) v1 v2 yb u5 u6 u7 (.slice (some (d.add i)) e e)) (a:=Go.Proofs.YtkkgcebhfghdnaaGreatDoor.rA Tryz.f79) (b:=Go.Proofs.YtkkgcebhfghdnaaGreatDoor.rB Tryz.f79) rfl rfl (.inl rfl) (λw hw=>?_) (λw hw=>?_) ?_
  ·have hl:w.heap[W.l2]? =some (lp 79 Tryz.f79 W.T2 W.d2 LS.ready):=hw.1 (W.l2,lp 79 Tryz.f79 W.T2 W.d2 LS.ready) ACI;obtain⟨h1,_⟩:=Zj (P:=Tryz.prog) (l:=W.l2) (v:=.slice (some (d.add i)) e e) hl fF;rw[SS (op:=_) (v:=.slice (some (d.add i)) e e) (f:=.tmp 19) (x:=.tmp 28) rfl rfl rfl,h1];simp only[HT2.out];rfl
  ·have hl:w.heap[W.l2]? =some (lp 79 Tryz.f79 W.T2 W.d2 LS.ready):=hw.1 (W.l2,lp 79 Tryz.f79 W.T2 W.d2 LS.ready) ACI;obtain⟨h1,h2⟩:=Zj (P:=Tryz.prog) (l:=W.l2) (v:=.slice (some (d.add i)) e e) hl fF;rw[SS (op:=_) (v:=.slice (some (d.add i)) e e) (f:=.tmp 19) (x:=.tmp 28) rfl rfl rfl,h2];intro e he;simp only[Bv,Ad] at he;subst he;exact⟨.inr (Dz ACI),rfl⟩
  (have hpl:((l.drop i).take sz).length=e:=by simp;omega);refine w22 hP HR.out HW.out Hx.out HS.out HT1.out Hyb.out (l:=(l.drop i).take sz) hpl e1 (by have:=jC.out;omega) (λw hw j v hj=>?_) ?_ ?_ ?_ ?_
  ·
   have hj':(Jc l)[i+j]? =some v:=by
    have hj2:j<sz:=by
     have:=(BB.1 hj).1;simp[Jc] at this;omega
    simp only[Jc,AV,LV,LW,hj2,if_true] at hj⊢;exact hj
   have:=(HD.out Ac d rfl).2 w hw (i+j) v hj'
   have ea:(d.add i).add j=d.add (i+j):=by
    obtain⟨b0,o0,s0⟩:=d;by_cases hi0:i=0;subst hi0;simp[Addr.add];by_cases hj0:j=0;subst hj0;simp[Addr.add];(have h0: ¬(i+j=0):=by omega);simp[Addr.add,hi0,hj0,Fj]
   rw[ea];exact this
  ·have:=(HD.out Ac d rfl).1;unfold Addr.add;split<;>exact this
  ·have:=Hcs.out k (by rw[hi];exact hlt);rw[hi,hpl] at this;exact this
  ·intro x' hx';rw[EE (o:=_) rfl];simp only[put];walk_nrm
   have hb2:IntKind.i64.wrap ((i:Int)+(sz:Int))=(i:Int)+(sz:Int):=by
    rw[IntKind.wrap_i64];have h1:=jC.out;have h2:=AGX.out
    have h3:i=0\/sz<=i:=by
     rcases EM k with h|h;exact .inl (by rw[<- hi,h,KL]);exact .inr (by rw[<- hi];exact Nat.le_mul_of_pos_left sz h)
    omega
   (iterate 7 refine Eu ?_);refine D9 (Cj hP) ?_ (hr:=by intro w hw;have f0:=FB.out _ _ _ w hw;unfold ev;go_simp;exact rfl) (he:=by intro w hw;have f0:=FB.out _ _ _ w hw;unfold ev;simp[go_sem,f0];exact⟨.inl (RB.out _ _ _),rfl⟩);(iterate 4 refine Eu ?_);have hL:=hL0.out;subst hL;have hi':(k+1)*sz=i+sz:=by rw[JH,hi];omega
   have h5:=Ih.out (k+1) (i+sz) hi' (by have h1:=HM.out;have h2:=jB.out;omega) (λj hj=>by
    rcases Nat.lt_succ_iff_lt_or_eq.1 hj with h|h;exact Hk.out j h
    rw[h,hi];exact hlt) x' hx'
   rw[show ((i+sz:Nat):Int)=(i:Int)+(sz:Int) by omega] at h5;exact h5 ..
  intro x' hx';rw[EE (o:=_) rfl];simp only[put];walk_nrm;(iterate 3 refine Eu ?_);refine Cc (Cj hP) (λw=>Nj) rfl ?_;exact JD (Cj hP) Tryz.func119 (λw=>XZ rfl w) (AM2.out k x' hx')
 (have hd1:decide (i<l.length)=false:=by simp;omega);rw[hd1];refine Eu ?_;refine Cc (Cj hP) (λw=>s_exit rfl) rfl ?_;refine Cc (Cj hP) (λw=>ACG) rfl ?_;refine JD (Cj hP) Tryz.func119 (λw=>XZ rfl w) ?_;have hkN:=HN.out k (by rw[hi];omega) Hk.out;rw[hkN];exact APJ.out x Hx.out
end
section
variable {P:Program} {mn:Bool} {fn:FuncId} {T:Array Value} {k:List Item} {D:List Deferred} {cs:List Frame} {w w':World} {kd:Bool}
theorem AGY{f:Operand}{g:FuncId}{q:Array Value}{ps:Array Tmp}{a b:Code}{gf:Func}(hf:ev T f=.func (.func g) #[] q)(hg:P.funcs[g]? =some gf)(hb:gf.body.isNone=false)(hn:(gf.name== "runtime.NumGoroutine")=false):
  stepG P mn (G (fr fn T (.code (.rangeFunc f ps a b)::k) D none kd) cs) w=
   .go (G (Frame.enter P g (#[.func (.yield (w.heap.size+1)) #[] #[]]++q) .normal) (fr fn T (.inRangeFunc (w.heap.size+1)::k) ({target:=.collected w.heap.size,args:=#[]}::D) none kd::cs))
    {w with heap:=(w.heap.push (.deferred (some []))).push (.loop {state:=.ready,pending:=none,fn:=fn,tmps:=T,params:=ps,assign:=a,body:=b,defers:=w.heap.size})} #[]:=by
 have h1:(Instr.enterLoop fn T ps a b none).runT P w #[]=(.ok (w.heap.size+1,[{target:=.collected w.heap.size,args:=#[]}]) {w with heap:=(w.heap.push (.deferred (some []))).push (.loop {state:=.ready,pending:=none,fn:=fn,tmps:=T,params:=ps,assign:=a,body:=b,defers:=w.heap.size})},#[]):=by
  simp only[Instr.enterLoop,newObj,bind,Sem.bind,pure,Sem.runT,PR]
 show stepG.exec P mn true (fr fn T (.code (.rangeFunc f ps a b)::k) D none kd) cs none w=_;unfold stepG.exec
 simp only[show (fr fn T (.code (.rangeFunc f ps a b)::k) D none kd).todo=.code (.rangeFunc f ps a b)::k from rfl,show (fr fn T (.code (.rangeFunc f ps a b)::k) D none kd).fn=fn from rfl,show (fr fn T (.code (.rangeFunc f ps a b)::k) D none kd).tmps=T from rfl,
  show (fr fn T (.code (.rangeFunc f ps a b)::k) D none kd).roundOf=none from rfl,h1]
 generalize ({w with heap:=(w.heap.push (.deferred (some []))).push (.loop {state:=.ready,pending:=none,fn:=fn,tmps:=T,params:=ps,assign:=a,body:=b,defers:=w.heap.size})}:World)=w1;show GStep.after (seen P fn #[]) (stepG.apply P true (fr fn T (.inRangeFunc (w.heap.size+1)::k) ({target:=.collected w.heap.size,args:=#[]}::D) none kd) cs none (do let d <- resolve (fr fn T (.inRangeFunc (w.heap.size+1)::k) ({target:=.collected w.heap.size,args:=#[]}::D) none kd).eval {callee:=.value f,args:=#[.const (.func (.yield (w.heap.size+1)) #[] #[])],argTypes:=#[]} 0;invoke d.target d.args:Sem Next) w1)=_
 have h2:(do let d <- resolve (fr fn T (.inRangeFunc (w.heap.size+1)::k) ({target:=.collected w.heap.size,args:=#[]}::D) none kd).eval {callee:=.value f,args:=#[.const (.func (.yield (w.heap.size+1)) #[] #[])],argTypes:=#[]} 0;invoke d.target d.args:Sem Next)=callFunc g (#[.func (.yield (w.heap.size+1)) #[] #[]]++q):=by
  rw[rC];simp only[resolve,hf,BX,AL,BC];rfl
 rw[h2]
 have h3:(callFunc g (#[.func (.yield (w.heap.size+1)) #[] #[]]++q)).runT P w1 #[]=(.ok (.enter g (#[.func (.yield (w.heap.size+1)) #[] #[]]++q)) w1,#[]):=by
  unfold callFunc;show Sem.runT P (Sem.program _) w1 #[]=_;simp only[Sem.runT,Sem.bind];rw[hg];simp only[hb,hn,Ak,if_false];rfl
 simp only[stepG.apply,if_true,h3];cases kd<;>rfl
theorem ADp{l:Nat}{r:Loop}(hl:w.heap[l]? =some (.loop r))(hs:(r.state== .busy)=false):stepG P mn (G (fr fn T (.endRangeFunc l::k) D none kd) cs) w=
  .go (G (fr fn T ((r.pending.map Item.code).toList++k) D none kd) cs) {w with heap:=w.heap.setIfInBounds l (.loop {r with state:=.exhausted})} (seen P fn #[⟨.obj l,false,false⟩,⟨.obj l,true,false⟩]):=by
 have h2:(Instr.endLoop l).runT P w #[]=(.ok r.pending {w with heap:=w.heap.setIfInBounds l (.loop {r with state:=.exhausted})},#[⟨.obj l,false,false⟩,⟨.obj l,true,false⟩]):=by
  unfold Instr.endLoop;rw[Uo hl];simp only[hs,Ak,if_false];show Sem.runT P (setObj l _>>=_) w _=_;rw[Yj hl];rfl
 show stepG.exec P mn true (fr fn T (.endRangeFunc l::k) D none kd) cs none w=_;unfold stepG.exec;simp only[show (fr fn T (.endRangeFunc l::k) D none kd).todo=.endRangeFunc l::k from rfl,h2];rfl
theorem ADq{d:Nat}(hl:w.heap[d]? =some (.deferred (some []))):stepG P mn (G {fr fn T k ({target:=.collected d,args:=#[]}::D) none kd with mode:=.returning} cs) w=
  .go (G {fr fn T k D none kd with mode:=.returning} cs) {w with heap:=w.heap.setIfInBounds d (.deferred none)} (seen P fn #[⟨.obj d,false,false⟩,⟨.obj d,true,false⟩]):=by
 have h2:(Instr.takeDeferred d).runT P w #[]=(.ok [] {w with heap:=w.heap.setIfInBounds d (.deferred none)},#[⟨.obj d,false,false⟩,⟨.obj d,true,false⟩]):=by
  show Sem.runT P (Sem.getObj d _) w #[]=_;simp only[Sem.runT,hl];show Sem.runT P (Sem.setObj d _ _) w _=_;simp only[Sem.runT,hl];rfl
 show unwind P mn {fr fn T k ({target:=.collected d,args:=#[]}::D) none kd with mode:=.returning} cs none w=_;unfold unwind;simp only[fr,h2];rfl
end
open Go.ConcX Go.ConcX.Gen
noncomputable def Lv (W:WB) (x:List (Nat×Obj)) (s1 s2:LS) (e1 e2:Option (List Deferred)):List (Nat×Obj):=
 (W.l1,lp 75 Tryz.f75 W.T1 W.d1 s1)::(W.l2,lp 79 Tryz.f79 W.T2 W.d2 s2)::(W.d1,.deferred e1)::(W.d2,.deferred e2)::(W.bx++x)
theorem AM3{W:WB}{x:List (Nat×Obj)}{s1 s2:LS}:Lw W x s1 s2=Lv W x s1 s2 (some []) (some []):=rfl
def LS.gone (s:LS):LS:=⟨.exhausted,s.pd⟩
section
variable {C:Cx} (hP:C.P=Tryz.prog) {s:Bool} {kk:Nat} {R:RF C.SR} (hR:R.Ok) {Gb:Nat->Prop} {W:WB} (hW:W.Ok) {x:List (Nat×Obj)} (hx: ∀p∈x,isCells p.2) {g g':Goroutine} {s1 s2:LS} {e1 e2:Option (List Deferred)}
include hP hR hW hx
theorem AM4{s1':LS}{fn:FuncId}(h: ∀w:World,w.heap[W.l1]? =some (lp 75 Tryz.f75 W.T1 W.d1 s1)->stepG Tryz.prog false g w=.go g' {w with heap:=w.heap.setIfInBounds W.l1 (lp 75 Tryz.f75 W.T1 W.d1 s1')} (seen Tryz.prog fn #[⟨.obj W.l1,false,false⟩,⟨.obj W.l1,true,false⟩]))
  (hr:g.status=.running) (next:PW C (.work s) kk g' (ow R Gb (Lv W x s1' s2 e1 e2))):PW C (.work s) kk g (ow R Gb (Lv W x s1 s2 e1 e2)):=by
 refine UK hP hR (b:=W.l1) (BZ ..) Ec (λy=>by simp[Lv]) (λp hp=>?_) (es:=#[⟨.obj W.l1,false,false⟩,⟨.obj W.l1,true,false⟩]) AY (λw hw=>⟨_,h w hw,λe he=>Du he⟩) hr next;simp only[Lv,AA,AU] at hp;rcases hp with rfl|rfl|rfl|rfl|hp|hp;exact .inl rfl
 ·refine .inr ⟨by simp[Lv],λe=>?_⟩;simp[lp] at e
 exact .inr ⟨by simp[Lv],λe=>by cases e⟩;exact .inr ⟨by simp[Lv],λe=>by cases e⟩;exact .inr ⟨by simp[Lv,hp],λe=>absurd (e▸hW.bx p hp) Ec⟩;exact .inr ⟨by simp[Lv,hp],λe=>absurd (e▸hx p hp) Ec⟩
theorem AM5{s2':LS}{fn:FuncId}(h: ∀w:World,w.heap[W.l2]? =some (lp 79 Tryz.f79 W.T2 W.d2 s2)->stepG Tryz.prog false g w=.go g' {w with heap:=w.heap.setIfInBounds W.l2 (lp 79 Tryz.f79 W.T2 W.d2 s2')} (seen Tryz.prog fn #[⟨.obj W.l2,false,false⟩,⟨.obj W.l2,true,false⟩]))
  (hr:g.status=.running) (next:PW C (.work s) kk g' (ow R Gb (Lv W x s1 s2' e1 e2))):PW C (.work s) kk g (ow R Gb (Lv W x s1 s2 e1 e2)):=by
 refine UK hP hR (b:=W.l2) (Aj _ (BZ ..)) Ec (λy=>by simp[Lv]) (λp hp=>?_) (es:=#[⟨.obj W.l2,false,false⟩,⟨.obj W.l2,true,false⟩]) AY (λw hw=>⟨_,h w hw,λe he=>Du he⟩) hr next;simp only[Lv,AA,AU] at hp;rcases hp with rfl|rfl|rfl|rfl|hp|hp
 ·refine .inr ⟨by simp[Lv],λe=>?_⟩;simp[lp] at e
 exact .inl rfl;exact .inr ⟨by simp[Lv],λe=>by cases e⟩;exact .inr ⟨by simp[Lv],λe=>by cases e⟩;exact .inr ⟨by simp[Lv,hp],λe=>absurd (e▸hW.bx p hp) Ec⟩;exact .inr ⟨by simp[Lv,hp],λe=>absurd (e▸hx p hp) Ec⟩
theorem AM6{fn:FuncId}(h: ∀w:World,w.heap[W.d1]? =some (.deferred (some []))->stepG Tryz.prog false g w=.go g' {w with heap:=w.heap.setIfInBounds W.d1 (.deferred none)} (seen Tryz.prog fn #[⟨.obj W.d1,false,false⟩,⟨.obj W.d1,true,false⟩]))
  (hr:g.status=.running) (next:PW C (.work s) kk g' (ow R Gb (Lv W x s1 s2 none e2))):PW C (.work s) kk g (ow R Gb (Lv W x s1 s2 (some []) e2)):=by
 refine UK hP hR (b:=W.d1) (ob:=.deferred (some [])) (ob':=.deferred none) (by simp[Lv]) JA (λy=>by simp[Lv]) (λp hp=>?_) (es:=#[⟨.obj W.d1,false,false⟩,⟨.obj W.d1,true,false⟩]) AY (λw hw=>⟨_,h w hw,λe he=>Du he⟩) hr next;simp only[Lv,AA,AU] at hp;rcases hp with rfl|rfl|rfl|rfl|hp|hp;exact .inr ⟨by simp[Lv],λe=>by cases e⟩;exact .inr ⟨by simp[Lv],λe=>by cases e⟩;exact .inl rfl;exact .inr ⟨by simp[Lv],λ_=>CJ hW.dd⟩;exact .inr ⟨by simp[Lv,hp],λe=>absurd (e▸hW.bx p hp) JA⟩;exact .inr ⟨by simp[Lv,hp],λe=>absurd (e▸hx p hp) JA⟩
theorem AM7{fn:FuncId}(h: ∀w:World,w.heap[W.d2]? =some (.deferred (some []))->stepG Tryz.prog false g w=.go g' {w with heap:=w.heap.setIfInBounds W.d2 (.deferred none)} (seen Tryz.prog fn #[⟨.obj W.d2,false,false⟩,⟨.obj W.d2,true,false⟩]))
  (hr:g.status=.running) (next:PW C (.work s) kk g' (ow R Gb (Lv W x s1 s2 e1 none))):PW C (.work s) kk g (ow R Gb (Lv W x s1 s2 e1 (some []))):=by
 refine UK hP hR (b:=W.d2) (ob:=.deferred (some [])) (ob':=.deferred none) (by simp[Lv]) JA (λy=>by simp[Lv]) (λp hp=>?_) (es:=#[⟨.obj W.d2,false,false⟩,⟨.obj W.d2,true,false⟩]) AY (λw hw=>⟨_,h w hw,λe he=>Du he⟩) hr next;simp only[Lv,AA,AU] at hp;rcases hp with rfl|rfl|rfl|rfl|hp|hp;exact .inr ⟨by simp[Lv],λe=>by cases e⟩;exact .inr ⟨by simp[Lv],λe=>by cases e⟩;exact .inr ⟨by simp[Lv],λ_=>hW.dd⟩;exact .inl rfl;exact .inr ⟨by simp[Lv,hp],λe=>absurd (e▸hW.bx p hp) JA⟩;exact .inr ⟨by simp[Lv,hp],λe=>absurd (e▸hx p hp) JA⟩
end
noncomputable def gx:Frame:={(default:Frame) with fn:=Tryz.prog.funcs.size,mode:=.panicking [goexitEntry]}
theorem AM8{T:Array Value}{k:List Item}:QuitsD Tryz.prog 2 0 (G {fr 75 T k [] none true with mode:=.returning} [gx]):=by
 refine .inr ⟨rfl,G gx [],#[],AY,λw=>?_,.inr ⟨rfl,{G gx [] with status:=.finished},#[],AY,λw=>?_,⟨rfl,rfl⟩⟩⟩
 ·show unwind Tryz.prog false {fr 75 T k [] none true with mode:=.returning} [gx] none w=_;unfold unwind;simp only[fr,Tryz.func75,XZ (f:=Tryz.f75) rfl w,doReturn,GStep.after,G];rfl
 show unwind Tryz.prog false gx [] none w=_;rfl
def Np (bc:Nat):Deferred:={target:=.builtin .close #[157] 0 #[false],args:=#[.chan (some bc)]}
theorem AGZ{T:Array Value}{k:List Item}{D:List Deferred}{bc:Nat}{w w':World}(h:Pg w bc w'):
  stepG Tryz.prog false (G {fr 75 T k (Np bc::D) none true with mode:=.returning} [gx]) w=.go (G {fr 75 T k D none true with mode:=.returning} [gx]) w' #[⟨.obj bc,false,true⟩,⟨.obj bc,true,true⟩]:=by
 obtain⟨s,hs,rfl⟩:=h;have hr:=run_close_open (P:=Tryz.prog) #[157] 0 hs;have he:=events_close_open (P:=Tryz.prog) (es:=#[]) #[157] 0 hs;show unwind Tryz.prog false {fr 75 T k (Np bc::D) none true with mode:=.returning} [gx] none w=_;unfold unwind;simp[fr,Np,callDeferred,invoke,go_sem,hr,he,GStep.after,seen,G]
open Go.Conc.Lib
section
variable {C:Cx} (hP:C.P=Tryz.prog) {s:Bool} {kk:Nat} {R:RF C.SR} (hR:R.Ok) {Gb:Nat->Prop} {W:WB} (hW:W.Ok) {x:List (Nat×Obj)} (hx: ∀p∈x,isCells p.2) {s1 s2:LS} {e1 e2:Option (List Deferred)}
 {L:WgLink} (H:WgLib Tryz.prog L)
include hP H
theorem AJd{T:Array Value}{k:List Item}{o:Own C.SR}(hfw:C.FW o)(hs:s=true\/kk=C.N)(hlive: ∃w,Live C w):
  PW C (.work s) kk (G {fr 75 T k [Np C.bc,dcall L.done #[.pointer (some ⟨C.wg,0,none⟩)]] none true with mode:=.returning} [gx]) o:=by
 refine .clo (b':=G {fr 75 T k [dcall L.done #[.pointer (some ⟨C.wg,0,none⟩)]] none true with mode:=.returning} [gx]) (es:=#[⟨.obj C.bc,false,true⟩,⟨.obj C.bc,true,true⟩]) rfl rfl rfl hs (λe he=>by simpa using he) (λw w' _ h=>by rw[hP];exact AGZ h) ?_;obtain⟨w0,h0⟩:=hlive;refine .free (λ_=>G ((baseD L.done).at ⟨#[.pointer (some ⟨C.wg,0,none⟩),undef,undef,undef],[]⟩ [.code (body_done L)]) [{fr 75 T k [] none true with mode:=.returning},gx]) rfl rfl (λw _=>⟨rfl,?_⟩) λw _=>?_
 ·rw[hP];exact stepG_unwind_enter (b:=fr 75 T k [] none true) (a:=⟨T,[dcall L.done #[.pointer (some ⟨C.wg,0,none⟩)]]⟩) (todo:=k) rfl H.f_done rfl rfl
 exact AE1 H hP hfw h0 rfl AM8
include hR hW hx
theorem AGa{T:Array Value}(hs:s=true\/kk=C.N)(hlive: ∃w,Live C w)(hst:(s1.st== .busy)=false)(P8:s1.pd=none\/s1.pd=some .ret)
  (hfw:C.FW (ow R Gb (Lv W x s1.gone s2 none none))):
  PW C (.work s) kk (G (fr 75 T [.endRangeFunc W.l1,.inBlock 0] [{target:=.collected W.d1,args:=#[]},Np C.bc,dcall L.done #[.pointer (some ⟨C.wg,0,none⟩)]] none true) [gx]) (ow R Gb (Lv W x s1 s2 (some []) none)):=by
 refine AM4 (fn:=75) (s1':=s1.gone) hP hR hW hx (λw h=>ADp h hst) rfl ?_
 have fin: ∀k,PW C (.work s) kk (G {fr 75 T k [{target:=.collected W.d1,args:=#[]},Np C.bc,dcall L.done #[.pointer (some ⟨C.wg,0,none⟩)]] none true with mode:=.returning} [gx]) (ow R Gb (Lv W x s1.gone s2 (some []) none)):=λk=>by
  refine AM6 (fn:=75) hP hR hW hx (λw h=>ADq h) rfl ?_;exact AJd hP H hfw hs hlive
 rcases P8 with h|h
 ·simp only[h,Option.map_none,Option.toList_none,List.nil_append];refine Eu ?_;refine Cc (Cj hP) (λw=>ACG) rfl ?_;exact fin _
 simp only[h,Option.map_some,Option.toList_some,List.cons_append,List.nil_append];refine Cc (Cj hP) (λw=>Nj) rfl ?_;exact fin _
theorem AAE{T T':Array Value}(hs:s=true\/kk=C.N)(hlive: ∃w,Live C w)(hst:(s1.st== .busy)=false)(P8:s1.pd=none\/s1.pd=some .ret)(hst2:(s2.st== .busy)=false)(APK:s2.pd=none\/s2.pd=some .ret)
  (hfw:C.FW (ow R Gb (Lv W x s1.gone s2.gone none none))):
  PW C (.work s) kk (G (fr 79 T [.endRangeFunc W.l2,.inBlock 0] [{target:=.collected W.d2,args:=#[]}] none)
   [fr 75 T' [.inRangeFunc W.l1,.inBlock 0] [{target:=.collected W.d1,args:=#[]},Np C.bc,dcall L.done #[.pointer (some ⟨C.wg,0,none⟩)]] none true,gx]) (ow R Gb (Lw W x s1 s2)):=by
 rw[AM3];refine AM5 (fn:=79) (s2':=s2.gone) hP hR hW hx (λw h=>ADp h hst2) rfl ?_
 have fin: ∀k,PW C (.work s) kk (G {fr 79 T k [{target:=.collected W.d2,args:=#[]}] none with mode:=.returning}
   [fr 75 T' [.inRangeFunc W.l1,.inBlock 0] [{target:=.collected W.d1,args:=#[]},Np C.bc,dcall L.done #[.pointer (some ⟨C.wg,0,none⟩)]] none true,gx]) (ow R Gb (Lv W x s1 s2.gone (some []) (some []))):=λk=>by
  refine AM7 (fn:=79) hP hR hW hx (λw h=>ADq h) rfl ?_;refine JD (Cj hP) Tryz.func79 (λw=>XZ rfl w) ?_;exact AGa hP hR hW hx H hs hlive hst P8 hfw
 rcases APK with h|h
 ·simp only[h,Option.map_none,Option.toList_none,List.nil_append];refine Eu ?_;refine Cc (Cj hP) (λw=>ACG) rfl ?_;exact fin _
 simp only[h,Option.map_some,Option.toList_some,List.cons_append,List.nil_append];refine Cc (Cj hP) (λw=>Nj) rfl ?_;exact fin _
end
end Go.Proofs.YtkkgcebhfghdnaaGreatDoor
