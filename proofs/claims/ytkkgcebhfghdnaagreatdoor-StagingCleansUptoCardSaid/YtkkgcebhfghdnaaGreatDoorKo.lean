/- Part 15 of what that rests on; no condition. -/
import Derived.Test.YtkkgcebhfghdnaaGreatDoorKn
import Derived.Listen
set_option maxRecDepth 100000
set_option maxHeartbeats 8000000
namespace Go.Proofs.YtkkgcebhfghdnaaGreatDoor
open Go Go.Conc Go.RowKit
theorem ku{ks:List Int}{i:Nat}(h:i<(strOfNums ks).size){k:Int}(hk:ks[i]? =some k):(strOfNums ks)[i]=UInt8.ofNat k.toNat:=by
 have h1:(strOfNums ks).data.toList[i]? =some (strOfNums ks)[i]:=by
  rw[G8];exact Ba _
 rw[strOfNums_data,AV,hk] at h1;exact (BQ h1).symm
section
variable {Kp:Frame->List Frame->World->Prop} (Bz: ∀f ts v,Kp f ts v->ts=[]) {cs:List Frame} {c0:Frame} {v w:World} {ρ:Rn}
include Bz
theorem AJq(hW:DD K1.F 2 ρ v w){x y x' y':Value}(hx:Au K1.F ρ x x')(hy:Au K1.F ρ y y')(hev:Ev Ae Kp (Frame.enter Ae 47 #[x,y] .normal) (c0::cs) v):
  ∃(s:ByteArray) (n sz:Int),y'=.int .i64 n/\(n<1->sz=if (1:Int)<s.size then (s.size:Int) else 1)/\(1<=n->sz=n)/\sz<=9223372036854775807/\s.size<=1073741824/\
   Jb Ae Kp ⟨c0.finish (FD 79 s sz),cs,v⟩ ⟨Frame.enter Ae 47 #[x,y] .normal,c0::cs,v⟩/\
   ((∃c,x'=.slice none 0 c/\s.size=0)\/∃a' c,x'=.slice (some a') s.size c/\(0<s.size->∃b,ρ.r b a'.block)/\∀i (h:i<s.size),w.cell? (a'.add i)=some (.int .u8 (s[i].toNat:Int))):=by
 have wE:kL Ae Kp (λs'=>s'=⟨fr 47 #[x,y,undef,undef,undef,undef,undef,undef,undef,undef,undef,undef,undef,undef,undef,undef,undef,undef,undef,undef] [.inRegion ops9 [0,1,2,3,4,5],.code c9] [] none,c0::cs,v⟩) ⟨Frame.enter Ae 47 #[x,y] .normal,c0::cs,v⟩:=by
  rw[H8 AAB rfl];simp only[CG,List.length_cons,List.length_nil,Nat.reduceAdd,Nat.reduceSub,DY,Array.replicate_zero,DZ,Df,List.nil_append,List.cons_append];refine MO (λx=>by cases Bz _ _ _ x) Jk ?_;refine Po ?_;exact .fin rfl
 obtain⟨s',rfl,nA⟩:=wE;have Zm:=Ev.OU (s:=⟨_,_,_⟩) hev nA;simp only at Zm;obtain⟨T,hT⟩: ∃T:Array Value,T= #[x,y,undef,undef,undef,undef,undef,undef,undef,undef,undef,undef,undef,undef,undef,undef,undef,undef,undef,undef]:=⟨_,rfl⟩;obtain⟨Xu,ho0,hop0,hw0,hd0⟩: ∃op,ops9[0]? =some op/\op.op=.call {callee:=.builtin .len,args:=#[.tmp 0],argTypes:=#[62]}/\(∀T,Region.wanted op T=true)/\op.dst=some 3:=⟨_,rfl,rfl,λ_=>rfl,rfl⟩;obtain⟨op1,ho1,APe,hw1⟩: ∃op,ops9[1]? =some op/\op.op=.convert 62 9 (.tmp 0)/\∀T,Region.wanted op T=true:=⟨_,rfl,rfl,λ_=>rfl⟩
 have hx0: ∀T:Array Value,T.getD 0 undef=x->(execOp (ev T) Xu)=((Builtin.len_ #[62] Xu.type #[x]>>=λr=>pure (Go.Next.value r)):Sem Go.Next):=λT h=>by
  rw[UN hop0];simp only[BX,AL,BC];rw[show ev T (.tmp 0)=x from h];rfl
 have hsl: ∃A l c,x=.slice A l c:=by
  rcases AG6 (x:=x) (w:=v) Xu.type with h|⟨h,h1,h2⟩;exact h;exfalso;refine Xc Bz Zm ho0 (hw0 _) (hh:=h) ?_ h2;rw[hx0 _ rfl,Sem.run_bind,h1];rfl
 obtain⟨A,l,c,rfl⟩:=hsl;rcases ACe (T:=T1) hW hx with ⟨h,h1,h2⟩|⟨ks,hok,hcase⟩
 ·exfalso;have AD0:=Ob Bz (c:=c0) (ts:=cs) Zm (WV (kd:=false) (v:=.int .i64 (l:Int)) (w':=v) ho0 (hw0 _) (.inl rfl) (by rw[hx0 _ rfl,Sem.run_bind,rW];rfl));refine Xc Bz AD0 ho1 (hw1 _) (hh:=h) ?_ h2
  have e:execOp (ev (put #[.slice A l c,y,undef,undef,undef,undef,undef,undef,undef,undef,undef,undef,undef,undef,undef,undef,undef,undef,undef,undef] Xu.dst (.int .i64 (l:Int)))) op1=((convert 62 9 (.slice A l c)>>=λr=>pure (Go.Next.value r)):Sem Go.Next):=by
   unfold execOp;simp only[APe,hd0];rfl
  rw[e,Sem.run_bind,rX];have h1':(Conv.bytesToString (.slice A l c)).run Ae v=.halt h v:=h1;rw[h1'];rfl
 have hok':(Conv.bytesToString (.slice A l c)).run Ae v=.ok (.string (strOfNums ks)) v:=hok;obtain⟨hsz,hl,wE⟩:=APb Bz (y:=y) rfl hok' Zm;obtain⟨s',rfl,nB,AD0⟩:=wB (s:=⟨_,_,_⟩) Zm wE;have AG7:ks.length=l:=by rw[<- hsz,strOfNums_size]
 have hcell: ∀(i:Nat) (k:Int),ks[i]? =some k->∃a,A=some a/\v.cell? (a.add i)=some (.int .u8 k):=λi k hk=>by
  rcases hcase with ⟨_,_,_,_,rfl⟩|⟨a,a',l',c',e1,_,_,_,h⟩;(cases hk);(cases e1);exact⟨a,rfl,(h i k hk).1⟩
 obtain⟨⟨q12,q13,wC,OC,q16,qB,nC⟩,hall⟩:=AG4 Bz (y:=y) (s:=strOfNums ks) (c0:=c0) (cs:=cs) (c:=c) rfl hl AG7 hcell l 0 Ac _ _ _ _ _ _ AD0;have APf:=Ev.OU (s:=⟨_,_,_⟩) AD0 nC;obtain⟨n,sz,rfl,e1,e2,e3,s',rfl,nD⟩:=APc Bz hl APf;obtain rfl:=BN hy rfl;refine⟨strOfNums ks,n,sz,rfl,by rw[hsz];exact e1,e2,e3,by rw[hsz];exact hl,?_,?_⟩
 ·rcases nB with e|nB
  ·rw[e] at nC;exact (nD.trans nC).trans nA
  exact ((nD.trans nC).trans nB).trans nA
 rcases hcase with ⟨l',c',e1,e2,rfl⟩|⟨a,a',l',c',e1,e2,e3,e4,h⟩
 ·(cases e1);refine .inl ⟨c,?_,rfl⟩;rw[e2];(have:l=0:=by rw[<- AG7];rfl);rw[this]
 (cases e1);refine .inr ⟨a',c,by rw[e2,hsz],λhp=>⟨_,(e3 Ac).1⟩,λi hi=>?_⟩;(have hi':i<ks.length:=by rw[AG7,<- hsz];exact hi);obtain⟨k,hk⟩: ∃k,ks[i]? =some k:=⟨_,Af hi'⟩;have hr:=hall i k (BP _) hk;rw[(h i k hk).2,ku hi hk]
 have e5:((UInt8.ofNat k.toNat).toNat:Int)=k:=by
  rw[UInt8.toNat_ofNat'];omega
 rw[e5]
end
def Rn.Qy (ρ:Rn) (s:ByteArray) (n:Int) (a b:Nat):Rn:={r:=ρ.r,c:=ρ.c,q:=λs' n' a' b'=>ρ.q s' n' a' b'\/(s'=s/\n'=n/\a'=a/\b'=b)}
theorem Rn.Zn{ρ:Rn}{s:ByteArray}{n:Int}{a b:Nat}:ρ.le (ρ.Qy s n a b):=⟨λ_ _ h=>h,λ_ _ h=>h,λ_ _ _ _ h=>.inl h⟩
theorem DD.Qy{F:Fs}{N:Nat}{ρ:Rn}{v w:World}(h:DD F N ρ v w){s:ByteArray}{n:Int}{a b:Nat}{B:List Nat}(hS:IL w B s n a b)(hB: ∀c∈B,∀x,¬ρ.r x c):DD F N (ρ.Qy s n a b) v w:=
 ⟨⟨h.ok.fn,h.ok.inj,h.ok.VX,h.ok.apart,h.ok.low,h.ok.hd⟩,λa b hab=>by
  obtain⟨o,o',h1,h2,h3⟩:=h.obj a b hab
  exact⟨o,o',h1,h2,h3.mono Rn.Zn⟩,h.tok,h.nv,h.nw,h.os,λs' n' a' b' hq=>by
  rcases hq with hq|⟨rfl,rfl,rfl,rfl⟩;exact h.seq _ _ _ _ hq
  exact⟨B,hS,hB⟩⟩
noncomputable def AAO:Array Oper:=match EH Tryz.f47 with| .seq _ (.seq (.region _ o _) _)=>o|_=>#[]
noncomputable def cC:Code:=match EH Tryz.f47 with| .seq _ (.seq _ c)=>c|_=>.skip
theorem ACg{n c:Nat}{w:World}:(binOp .eql 62 (.slice none n c) (.slice none 0 0)).events Tryz.prog w #[]= #[]:=by rfl
theorem wF{P:Program}{w:World}{es:Array Event}{a:Addr}{m:Mode}{b:Option Addr}{l c:Nat}:(store a (.slice b l c) m).events P w es=storedEv P w es a (.slice b l c) m:=events_store P w es a _ m rfl
theorem AD1{ty:TypeId}{fl:Array Bool}{b:Nat}{w:World}:
  (builtin .max #[3,3] ty fl #[.int .i64 1,.int .i64 (b:Int)]).run Tryz.prog w=.ok (.value (.int .i64 (if (1:Int)<(b:Int) then (b:Int) else 1))) w/\(builtin .max #[3,3] ty fl #[.int .i64 1,.int .i64 (b:Int)]).events Tryz.prog w #[]= #[]:=⟨rfl,rfl⟩
theorem AAP{ty:TypeId}{fl:Array Bool}{a a':Addr}{c:Nat}{w:World}:
  (builtin .append #[62,62] ty fl #[.slice (some a) 0 0,.slice (some a') 0 c]).run Tryz.prog w=.ok (.value (.slice (some a) 0 0)) w/\(builtin .append #[62,62] ty fl #[.slice (some a) 0 0,.slice (some a') 0 c]).events Tryz.prog w #[]= #[]:=⟨rfl,rfl⟩
section
variable {SR:Nat->Prop} {J:Goroutine->Own SR->Prop} (hJ:pq Tryz.prog true J) {R:RF SR} {Gb:Nat->Prop} {L:List (Nat×Obj)} {cs:List Frame}
include hJ
theorem AG8{n c:Nat}{Vq:Frame}{o:Own SR}(next:J (G (Vq.finish (.slice none 0 0)) cs) o):J (G (Frame.enter Tryz.prog 78 #[.slice none n c] .normal) (Vq::cs)) o:=by
 rw[H8 Tryz.func78 rfl];simp only[Tryz.f78,CG,List.length_cons,List.length_nil,Nat.reduceAdd,Nat.reduceSub,DY,Array.replicate_zero,DZ,Df,List.nil_append,List.cons_append];(iterate 8 refine QF ?_);refine D9 hJ ?_ (he:=by intro w hw;unfold ev;simp[go_sem,ACg]);(iterate 6 refine QF ?_);refine Cc hJ (λw=>Nj) rfl ?_;exact JD (v:=.slice none 0 0) hJ Tryz.func78 (λw=>MF (t:=2) rfl w) next
theorem AG9{a:Addr}{c:Nat}{Vq:Frame}(next: ∀m0,(∃w,(ow R Gb L).I w/\w.heap.size=m0)->J (G (Vq.finish (.slice (some ⟨m0,0,none⟩) 0 0)) cs) (ow R Gb ((m0,.cells #[] 5)::L))):
  J (G (Frame.enter Tryz.prog 78 #[.slice (some a) 0 c] .normal) (Vq::cs)) (ow R Gb L):=by
 rw[H8 Tryz.func78 rfl];simp only[Tryz.f78,CG,List.length_cons,List.length_nil,Nat.reduceAdd,Nat.reduceSub,DY,Array.replicate_zero,DZ,Df,List.nil_append,List.cons_append];(iterate 8 refine QF ?_);refine D9 hJ ?_ (he:=by intro w hw;unfold ev;simp[go_sem,bP]);(iterate 5 refine QF ?_);refine Nk hJ (λm=>.slice (some ⟨m,0,none⟩) 0 0) (.cells #[] 5) rfl rfl (.inl rfl) (λw hw=>?_) (λw hw=>?_) λm0 hm0=>?_
 ·unfold ev;simp[go_sem,execOp,Instr.buildSlice,newRow,Instr.fill]
 ·unfold ev;simp[go_sem,execOp,Instr.buildSlice,newRow,Instr.fill]
 simp only[put];walk_nrm;refine QF ?_;refine D9 hJ ?_ (hr:=λw _=>H9 AAP.1) (he:=λw _=>H9 (GN AAP.2));(iterate 2 refine QF ?_);refine Cc hJ (λw=>Nj) rfl ?_;exact JD (v:=.slice (some ⟨m0,0,none⟩) 0 0) hJ Tryz.func78 (λw=>MF (t:=2) rfl w) (next m0 hm0)
theorem AFF{a:Addr}{n c:Nat}{l:List UInt8}(hl:l.length=n)(hn:0<n)(hle:n<=1073741824)(hnews: ∀w,R.R w->∀j v,(Jc l)[j]? =some v->w.cell? (a.add j)=some v)(vW:SR a.block){Vq:Frame}
  (next: ∀m0 m cap,n<=cap->(∃w,(ow R Gb L).I w/\w.heap.size=m0)->m0<m->J (G (Vq.finish (.slice (some ⟨m,0,none⟩) n cap)) cs) (ow R Gb ((m,.cells ((Jc l).toArray++Array.replicate (cap - n) (.int .u8 0)) 5)::(m0,.cells #[] 5)::L))):
  J (G (Frame.enter Tryz.prog 78 #[.slice (some a) n c] .normal) (Vq::cs)) (ow R Gb L):=by
 rw[H8 Tryz.func78 rfl];simp only[Tryz.f78,CG,List.length_cons,List.length_nil,Nat.reduceAdd,Nat.reduceSub,DY,Array.replicate_zero,DZ,Df,List.nil_append,List.cons_append];(iterate 8 refine QF ?_);refine D9 hJ ?_ (he:=by intro w hw;unfold ev;simp[go_sem,bP]);(iterate 5 refine QF ?_);refine Nk hJ (λm=>.slice (some ⟨m,0,none⟩) 0 0) (.cells #[] 5) rfl rfl (.inl rfl) (λw hw=>?_) (λw hw=>?_) λm0 hm0=>?_
 ·unfold ev;simp[go_sem,execOp,Instr.buildSlice,newRow,Instr.fill]
 ·unfold ev;simp[go_sem,execOp,Instr.buildSlice,newRow,Instr.fill]
 simp only[put];walk_nrm;refine QF ?_;refine ADm hJ (.tmp 5) (.tmp 6) rfl (t:=62) (e:=5) (z:=.int .u8 0) Tryz.underlying62 rfl rfl rfl rfl rfl (b0:=m0) rfl (BZ ..) (a:=a) (n:=n) (c:=c) rfl (news:=Jc l) (by simp[Jc,hl]) hn hle AAC hnews vW rfl rfl rfl λm cap h1 h2 h3=>?_;simp only[put];walk_nrm;(iterate 2 refine QF ?_);refine Cc hJ (λw=>Nj) rfl ?_;refine JD hJ Tryz.func78 (λw=>MF rfl w) ?_;refine next m0 m cap h1 hm0 ?_;obtain⟨w,hw,e⟩:=h3;have:=(BK.1 (hw.1 (m0,.cells #[] 5) (BZ ..))).1;omega
theorem wG{A:Option Addr}{l c:Nat}{n:Int} (next: ∀p1 p2,p1<p2->(∃w,(ow R Gb L).I w/\w.heap.size=p1)->J (G (Frame.enter Tryz.prog 78 #[.slice A l c] .normal) (fr 47 #[.slice A l c,.int .i64 n,.pointer (some ⟨p1,0,none⟩),.pointer (some ⟨p2,0,none⟩),.nilFunc,.slice A l c,undef,undef,undef,undef,undef,undef,undef] [.inRegion AAO [1,2],.code cC] [] none::cs))
   (ow R Gb ((p2,.cells #[.int .i64 n] 3)::(p1,.cells #[.slice A l c] 62)::L))):
  J (G (Frame.enter Tryz.prog 47 #[.slice A l c,.int .i64 n] .normal) cs) (ow R Gb L):=by
 have NX:=AQ next;clear next;rw[H8 Tryz.func47 rfl];simp only[Tryz.f47,CG,List.length_cons,List.length_nil,Nat.reduceAdd,Nat.reduceSub,DY,Array.replicate_zero,DZ,Df,List.nil_append,List.cons_append];(iterate 2 refine QF ?_);refine Nk hJ (λm=>.pointer (some ⟨m,0,none⟩)) (.cells #[.slice A l c] 62) rfl rfl (.inl rfl) (λw hw=>?_) (λw hw=>?_) λp1 hp1=>?_
 ·unfold ev;simp[go_sem,execOp,Instr.box]
 ·unfold ev;simp[go_sem,execOp,Instr.box]
 simp only[put];walk_nrm;refine Nk hJ (λm=>.pointer (some ⟨m,0,none⟩)) (.cells #[.int .i64 n] 3) rfl rfl (.inl rfl) (λw hw=>?_) (λw hw=>?_) λp2 hp2=>?_
 ·unfold ev;simp[go_sem,execOp,Instr.box]
 ·unfold ev;simp[go_sem,execOp,Instr.box]
 simp only[put];walk_nrm
 have hpp:p1<p2:=by
  obtain⟨w,hw,e⟩:=hp2;have:=(BK.1 (hw.1 (p1,.cells #[.slice A l c] 62) (BZ ..))).1;omega
 have fB: ∀(w:World),(ow R Gb ((p2,.cells #[.int .i64 n] 3)::(p1,.cells #[.slice A l c] 62)::L)).I w->w.cell? ⟨p1,0,none⟩=some (.slice A l c):=λw hw=>by
  rw[Ig (hw.1 (p1,.cells #[.slice A l c] 62) (Aj _ (BZ ..)))];rfl
 have rB:(ow R Gb ((p2,.cells #[.int .i64 n] 3)::(p1,.cells #[.slice A l c] 62)::L)).O p1:=.inr (Dz (Aj _ (BZ ..)));(iterate 4 refine QF ?_);refine D9 hJ ?_ (hr:=by intro w hw;have f0:=fB w hw;unfold ev;go_simp;exact rfl) (he:=by intro w hw;have f0:=fB w hw;unfold ev;simp[go_sem,f0];exact⟨.inl rB,rfl⟩);refine Qx hJ (f:=78) (args:=#[.slice A l c]) rfl rfl (.inl rfl) (λw hw=>?_) (λw hw=>?_) ?_;rw[FY (op:=_) (f:=78) (vs:=#[.slice A l c]) rfl (by simp only[BX,AL,BC];rfl)];rfl;rw[FY (op:=_) (f:=78) (vs:=#[.slice A l c]) rfl (by simp only[BX,AL,BC];rfl),Xa];intro e he;simp at he;exact NX.out p1 p2 hpp hp1
theorem kz{X:List (Nat×Obj)}{x':Value}{D:Option Addr}{l c p1 p2:Nat}{n:Int}{cF:Frame}{t5:Value}(h12:p1≠p2)(hS1: ¬SR p1)(hS2: ¬SR p2)(hX: ∀p∈X,p.1≠p1/\p.1≠p2)
  (next: ∀sz:Int,(n<1->sz=if (1:Int)<l then (l:Int) else 1)->(1<=n->sz=n)->J (G (cF.finish (.func (.func 79) #[] #[.pointer (some ⟨p1,0,none⟩),.pointer (some ⟨p2,0,none⟩)])) cs) (ow R Gb (X++[(p2,.cells #[.int .i64 sz] 3),(p1,.cells #[.slice D l c] 62)]))):
  J (G ((fr 47 #[x',.int .i64 n,.pointer (some ⟨p1,0,none⟩),.pointer (some ⟨p2,0,none⟩),.nilFunc,t5,undef,undef,undef,undef,undef,undef,undef] [.inRegion AAO [1,2],.code cC] [] none).finish (.slice D l c)) (cF::cs)) (ow R Gb (X++[(p2,.cells #[.int .i64 n] 3),(p1,.cells #[x'] 62)])):=by
 have NX:=AQ next;clear next;have e1:AAO=AAO:=rfl
 conv at e1=>lhs;simp only[AAO,EH,Tryz.f47,Option.getD_some]
 have e2:cC=cC:=rfl
 conv at e2=>lhs;simp only[cC,EH,Tryz.f47,Option.getD_some]
 rw[<- e1,<- e2,EE (o:=_) rfl];clear e1 e2;simp only[put];walk_nrm;(have key: ∀(x v:Value) (p:Nat×Obj),p∈X++[(p2,.cells #[x] 3),(p1,.cells #[v] 62)]↔p∈X\/p=(p2,.cells #[x] 3)\/p=(p1,.cells #[v] 62):=λx v p=>by simp);refine ACZ hJ (t:=62) (L':=X++[(p2,.cells #[.int .i64 n] 3),(p1,.cells #[.slice D l c] 62)]) (b:=p1) (x:=x') (v:=.slice D l c) AY hS1 (λy=>by simp) (λp hp=>?_) rfl rfl (.inl rfl) (λw f0 f1=>?_) (λw f0 f1=>?_) ?_
 ·rcases (key _ _ _).1 hp with h|rfl|rfl;exact .inr ⟨(key _ _ _).2 (.inl h),(hX p h).1⟩;exact .inr ⟨(key _ _ _).2 (.inr (.inl rfl)),λe=>h12 e.symm⟩;exact .inl rfl
 ·unfold ev;go_simp;try exact rfl
 ·unfold ev;intro e he;simp[go_sem,f0,f1,wF] at he;exact he
 simp only[put];walk_nrm
 have fB: ∀(w:World),(ow R Gb (X++[(p2,.cells #[.int .i64 n] 3),(p1,.cells #[.slice D l c] 62)])).I w->w.cell? ⟨p2,0,none⟩=some (.int .i64 n):=λw hw=>by
  rw[Ig (hw.1 (p2,.cells #[.int .i64 n] 3) AY)];rfl
 have fA: ∀(w:World),(ow R Gb (X++[(p2,.cells #[.int .i64 n] 3),(p1,.cells #[.slice D l c] 62)])).I w->w.cell? ⟨p1,0,none⟩=some (.slice D l c):=λw hw=>by
  rw[Ig (hw.1 (p1,.cells #[.slice D l c] 62) AY)];rfl
 have rB:(ow R Gb (X++[(p2,.cells #[.int .i64 n] 3),(p1,.cells #[.slice D l c] 62)])).O p2:=.inr AY;have rA:(ow R Gb (X++[(p2,.cells #[.int .i64 n] 3),(p1,.cells #[.slice D l c] 62)])).O p1:=.inr AY;(iterate 4 refine QF ?_);refine D9 hJ ?_ (hr:=by intro w hw;have f0:=fB w hw;unfold ev;go_simp;exact rfl) (he:=by intro w hw;have f0:=fB w hw;unfold ev;simp[go_sem,f0];exact⟨.inl rB,rfl⟩);(iterate 2 refine QF ?_);by_cases hn:n<1
 ·(have hd:decide (n<1)=true:=by simpa using hn);rw[hd];(iterate 2 refine QF ?_);refine D9 hJ ?_ (hr:=by intro w hw;have f0:=fA w hw;unfold ev;go_simp;exact rfl) (he:=by intro w hw;have f0:=fA w hw;unfold ev;simp[go_sem,f0];exact⟨.inl rA,rfl⟩);refine D9 hJ ?_ (hr:=λw _=>H9 FO.1) (he:=λw _=>H9 (GN FO.2));refine D9 hJ ?_ (hr:=λw _=>H9 AD1.1) (he:=λw _=>H9 (GN AD1.2));refine ACZ hJ (t:=3) (L':=X++[(p2,.cells #[.int .i64 (if (1:Int)<l then (l:Int) else 1)] 3),(p1,.cells #[.slice D l c] 62)]) (b:=p2) (x:=.int .i64 n) (v:=.int .i64 (if (1:Int)<l then (l:Int) else 1)) AY hS2 (λy=>by simp) (λp hp=>?_) rfl rfl (.inl rfl) (λw f0 f1=>?_) (λw f0 f1=>?_) ?_
  ·rcases (key _ _ _).1 hp with h|rfl|rfl;exact .inr ⟨(key _ _ _).2 (.inl h),(hX p h).2⟩;exact .inl rfl;exact .inr ⟨(key _ _ _).2 (.inr (.inr rfl)),h12⟩
  ·unfold ev;go_simp;try exact rfl
  ·unfold ev;intro e he;simp[go_sem,f0,f1] at he;exact he
  simp only[put];walk_nrm;(iterate 3 refine QF ?_);refine D9 hJ ?_ (he:=by intro w hw;unfold ev;simp[go_sem,Instr.makeFunc]);(iterate 2 refine QF ?_);refine Cc hJ (λw=>Nj) rfl ?_;exact JD hJ Tryz.func47 (λw=>MF (t:=4) rfl w) (NX.out _ (λ_=>rfl) (λh=>absurd hn Ac))
 (have hd:decide (n<1)=false:=by simpa using hn);rw[hd];(iterate 4 refine QF ?_);refine D9 hJ ?_ (he:=by intro w hw;unfold ev;simp[go_sem,Instr.makeFunc]);(iterate 2 refine QF ?_);refine Cc hJ (λw=>Nj) rfl ?_;exact JD hJ Tryz.func47 (λw=>MF (t:=4) rfl w) (NX.out _ (λh=>absurd h hn) (λ_=>rfl))
end
def lC {SR:Nat->Prop} (c0:Frame) (cs:List Frame) (s:ByteArray) (sz:Int) (a:Goroutine) (o:Own SR):Prop:=
 ∃p1 p2 B,a=G (c0.finish (qV 79 p1 p2)) cs/\(∀w,o.I w->IL w B s sz p1 p2)/\∀c∈B,o.O c
section
variable {Z:Nat->Prop} {gs:Array Goroutine} {t:Trace} {q:Nat->Nat} {sl:Option (Nat×Nat)} {w v:World} {ρ:Rn} {s:ByteArray} {sz:Int} {c0':Frame} {cs0:List Frame} {a:Goroutine}
theorem Uw{SR:Nat->Prop}{R:RF SR}(hpl:Ps Tryz.prog (lC (SR:=SR) c0' cs0 s sz) a (ow R (λ_=>False) []))(hS:Sit Tryz.prog Z gs w t a q)(hW:DD K1.F 2 ρ v w)(hZ:Apart Z ρ w)(hsl:Ve Z ρ w)(hR:R.R w)(hSR: ∀b,SR b->b<w.heap.size/\¬Z b):
  ∃(N:Nat) (gs':Array Goroutine) (w':World) (sl':Option (Nat×Nat)) (t':Trace) (q':Nat->Nat) (p1 p2:Nat),
   runNT Tryz.prog N (crowd gs w sl) t=(.next (crowd gs' w' sl'),t')/\Sit Tryz.prog Z gs' w' t' (G (c0'.finish (qV 79 p1 p2)) cs0) q'/\Dv Z ρ w Z (ρ.Qy s sz p1 p2) v w':=by
 have hO0: ∀b,¬(ow R (λ_=>False) []).O b:=λb h=>by
  rcases h with h|h;exact h;simp at h
 obtain⟨N,gs',w',sl',t',q',a',o',r1,z1,S1,⟨p1,p2,B,rfl,hSe,hB⟩,I1,E1⟩:=hpl (sl:=sl) hS.AGo ⟨λp hp=>(by cases hp),hR⟩ (λb hb=>absurd hb (hO0 b)) hSR hZ.z;have hold: ∀b,b<w.heap.size->w'.heap[b]? =w.heap[b]? :=λb hb=>E1.keep b hb (hO0 b);have hnew: ∀c∈B,w.heap.size<=c/\¬Z c:=λc hc=>⟨(E1.new c (hB c hc)).elim (λh=>absurd h (hO0 c)) id,(E1.own c (hB c hc)).2⟩
 have hBr: ∀c∈B,∀x,¬ρ.r x c:=λc hc x hx=>by
  have h1:=(hW.dom hx).2;have h2:=(hnew c hc).1;omega
 refine⟨N,gs',w',sl',t',q',p1,p2,r1,⟨S1.at0,S1.leavers,(S1.past.mono (AP _)).past⟩,Rn.Zn,(hW.kept hold E1.sz E1.same.2.1).Qy (hSe w' I1) hBr,⟨hZ.r,λb hb=>BU (hZ.z b hb) E1.sz⟩,λs' n' a' b' hq=>?_,λb hb=>hb,λb hb=>.inl hb,λa b hab _=>⟨a,hab⟩,E1.sz,λb hb _=>hold b hb,E1.same⟩;rcases hq with hq|⟨rfl,rfl,rfl,rfl⟩
 ·exact hsl.kept hold s' n' a' b' hq
 exact⟨B,hSe w' I1,λc hc=>⟨hBr c hc,(hnew c hc).2⟩⟩
end
theorem lD{s:ByteArray}{i:Nat}(h:i<s.size)(n:Nat):((Jc s.data.toList).toArray++Array.replicate n (Value.int .u8 0))[i]? =some (.int .u8 (s[i].toNat:Int)):=by
 have h1:s.data.toList[i]? =some s[i]:=by
  rw[G8];exact Ba _
 have hl:(Jc s.data.toList).toArray.size=s.size:=by
  simp only[Jc,CG,BH,Array.length_toList];rfl
 rw[LC Ac,EX];simp only[Jc,AV,h1];rfl
section
variable {Z:Nat->Prop} {gs:Array Goroutine} {t:Trace} {q:Nat->Nat} {sl:Option (Nat×Nat)} {w v:World} {ρ:Rn} {x y x' y':Value} {Kp:Frame->List Frame->World->Prop} {c0 c0':Frame} {cs cs0:List Frame}
theorem AAQ(hS:Sit Tryz.prog Z gs w t (G (Frame.enter Tryz.prog 47 #[x',y'] .normal) (c0'::cs0)) q)(hW:DD K1.F 2 ρ v w)(hZ:Apart Z ρ w)(hsl:Ve Z ρ w)(hx:Au K1.F ρ x x')(hy:Au K1.F ρ y y')
  (hev:Ev Ae Kp (Frame.enter Ae 47 #[x,y] .normal) (c0::cs) v) (Bz: ∀f ts v,Kp f ts v->ts=[]):
  ∃(N:Nat) (gs':Array Goroutine) (w':World) (sl':Option (Nat×Nat)) (t':Trace) (q':Nat->Nat) (s:ByteArray) (sz:Int) (p1 p2:Nat),
   runNT Tryz.prog N (crowd gs w sl) t=(.next (crowd gs' w' sl'),t')/\Sit Tryz.prog Z gs' w' t' (G (c0'.finish (qV 79 p1 p2)) cs0) q'/\
   Jb Ae Kp ⟨c0.finish (FD 79 s sz),cs,v⟩ ⟨Frame.enter Ae 47 #[x,y] .normal,c0::cs,v⟩/\Dv Z ρ w Z (ρ.Qy s sz p1 p2) v w':=by
 obtain⟨s,n,sz,rfl,e1,e2,e3,e4,hn,hcase⟩:=AJq Bz hW hx hy hev
 have hsz1:1<=sz:=by
  by_cases h:n<1
  ·rw[e1 h];split<;>omega
  rw[e2 Ac];omega
 have ACh: ∀sz':Int,(n<1->sz'=if (1:Int)<s.size then (s.size:Int) else 1)->(1<=n->sz'=n)->sz'=sz:=λsz' h1 h2=>by
  by_cases h:n<1;rw[h1 h,e1 h];rw[h2 Ac,e2 Ac]
 have Ux: ∀{w':World} {b:Nat} {o:Obj},w'.heap[b]? =some o->b<w'.heap.size:=λh=>(BK.1 h).1;rcases hcase with ⟨c,rfl,h0⟩|⟨a',c,rfl,hab,hc⟩
 ·
  have hpl:Ps Tryz.prog (lC (SR:=λ_=>False) c0' cs0 s sz) (G (Frame.enter Tryz.prog 47 #[.slice none 0 c,.int .i64 n] .normal) (c0'::cs0)) (ow vz (λ_=>False) []):=wG MP λp1 p2 h12 hp1=>AG8 MP (kz (J:=Ps Tryz.prog (lC (SR:=λ_=>False) c0' cs0 s sz)) MP (X:=[]) (Ik h12) (λh=>h) (λh=>h) (λp hp=>by cases hp) λsz' f1 f2=>Ps.fin ⟨p1,p2,[p1,p2],rfl,λw' hI=>by
   obtain rfl:=ACh sz' (by rw[h0];exact f1) f2;have g2:=hI.1 (p2,.cells #[.int .i64 sz'] 3) AY;have g1:=hI.1 (p1,.cells #[.slice none 0 0] 62) AY
   exact⟨λc hc=>by simp only[AA,AB,or_false] at hc;rcases hc with rfl|rfl;exact Ux g1;exact Ux g2,AY,AY,hsz1,e3,e4,⟨none,0,_,by rw[h0];exact g1,.inl h0⟩,_,g2⟩,
   λc hc=>.inr (by simp at hc⊢;rcases hc with rfl|rfl<;>simp)⟩)
  obtain⟨N,gs',w',sl',t',q',p1,p2,k1,k2,k3⟩:=Uw (sl:=sl) hpl hS hW hZ hsl trivial (λb hb=>hb.elim);exact⟨N,gs',w',sl',t',q',s,sz,p1,p2,k1,k2,hn,k3⟩
 by_cases hpos:s.size=0
 ·rw[hpos] at hS
  have hpl:Ps Tryz.prog (lC (SR:=λ_=>False) c0' cs0 s sz) (G (Frame.enter Tryz.prog 47 #[.slice (some a') 0 c,.int .i64 n] .normal) (c0'::cs0)) (ow vz (λ_=>False) []):=wG MP λp1 p2 h12 hp1=>AG9 MP λm0 hm0=>by
   have hm:p2<m0:=by
    obtain⟨w1,hw1,rfl⟩:=hm0;exact Ux (hw1.1 (p2,.cells #[.int .i64 n] 3) AY)
   exact @kz (λ_=>False) (Ps Tryz.prog (lC c0' cs0 s sz)) MP vz (λ_=>False) cs0 [(m0,.cells #[] 5)] (.slice (some a') 0 c) (some ⟨m0,0,none⟩) 0 0 p1 p2 n c0' (.slice (some a') 0 c) (Ik h12) (λh=>h) (λh=>h) (λp hp=>by simp only[Ad] at hp;subst hp;exact⟨Ac,Ac⟩) λsz' f1 f2=>Ps.fin ⟨p1,p2,[p1,p2],rfl,λw' hI=>by
    obtain rfl:=ACh sz' (by rw[hpos];exact f1) f2;have g2:=hI.1 (p2,.cells #[.int .i64 sz'] 3) AY;have g1:=hI.1 (p1,.cells #[.slice (some ⟨m0,0,none⟩) 0 0] 62) AY
    exact⟨λc hc=>by simp only[AA,AB,or_false] at hc;rcases hc with rfl|rfl;exact Ux g1;exact Ux g2,AY,AY,hsz1,e3,e4,⟨_,0,_,by rw[hpos];exact g1,.inl hpos⟩,_,g2⟩,
    λc hc=>.inr (by simp at hc⊢;rcases hc with rfl|rfl<;>simp)⟩
  obtain⟨N,gs',w',sl',t',q',p1,p2,k1,k2,k3⟩:=Uw (sl:=sl) hpl hS hW hZ hsl trivial (λb hb=>hb.elim);exact⟨N,gs',w',sl',t',q',s,sz,p1,p2,k1,k2,hn,k3⟩
 obtain⟨xa,hxa⟩:=hab Ac;have hbl:a'.block<w.heap.size:=(hW.dom hxa).2;(have hll:s.data.toList.length=s.size:=by rw[Array.length_toList];rfl);obtain⟨R,hR⟩: ∃R:RF (λb=>b=a'.block),R=frz (λb=>b=a'.block) w (λb hb=>by rw[hb];exact hbl):=⟨_,rfl⟩;have hRR: ∀w',R.R w'->w'.heap[a'.block]? =w.heap[a'.block]? :=λw' h=>by rw[hR] at h;exact h _ rfl
 have hnews: ∀w',R.R w'->∀j v,(Jc s.data.toList)[j]? =some v->w'.cell? (a'.add j)=some v:=λw' h j v hv=>by
  have hj:j<s.size:=by
   have:=(BB.1 hv).1;simp only[Jc,BH,hll] at this;exact this
  have h1:=lD hj 0
  have h2:v=.int .u8 (s[j].toNat:Int):=by
   have h3:=(lD hj 0).symm;rw[LC (by simp only[Jc,CG,BH,hll];exact hj),EX,hv] at h3;exact (BQ h3).symm
  have h3:(a'.add j).block=a'.block:=by unfold Addr.add;split<;>rfl
  have h4:w'.cell? (a'.add j)=w.cell? (a'.add j):=by
   unfold World.cell?;rw[h3,hRR w' h]
  rw[h4,hc j hj,h2]
 have hpl:Ps Tryz.prog (lC (SR:=λb=>b=a'.block) c0' cs0 s sz) (G (Frame.enter Tryz.prog 47 #[.slice (some a') s.size c,.int .i64 n] .normal) (c0'::cs0)) (ow R (λ_=>False) []):=wG MP λp1 p2 h12 hp1=>AFF MP hll Ac e4 hnews rfl λm0 m cap hcap hm0 hm=>by
  have hm2:p2<m0:=by
   obtain⟨w1,hw1,rfl⟩:=hm0;exact Ux (hw1.1 (p2,.cells #[.int .i64 n] 3) AY)
  have hap:a'.block<p1:=by
   obtain⟨w1,hw1,rfl⟩:=hp1;exact R.lt w1 hw1.2 _ rfl
  exact @kz (λb=>b=a'.block) (Ps Tryz.prog (lC c0' cs0 s sz)) MP R (λ_=>False) cs0 [(m,.cells ((Jc s.data.toList).toArray++Array.replicate (cap - s.size) (.int .u8 0)) 5),(m0,.cells #[] 5)] (.slice (some a') s.size c) (some ⟨m,0,none⟩) s.size cap p1 p2 n c0' (.slice (some a') s.size c) (Ik h12) (λh=>by have h:p1=a'.block:=h;omega) (λh=>by have h:p2=a'.block:=h;omega) (λp hp=>by simp only[AA,AB,or_false] at hp;rcases hp with rfl|rfl<;>exact⟨by simp only;omega,by simp only;omega⟩) λsz' f1 f2=>Ps.fin ⟨p1,p2,[p1,p2,m],rfl,λw' hI=>by
   obtain rfl:=ACh sz' f1 f2;have g2:=hI.1 (p2,.cells #[.int .i64 sz'] 3) AY;have g1:=hI.1 (p1,.cells #[.slice (some ⟨m,0,none⟩) s.size cap] 62) AY;have g3:=hI.1 (m,.cells ((Jc s.data.toList).toArray++Array.replicate (cap - s.size) (.int .u8 0)) 5) AY
   exact⟨λc hc=>by simp only[AA,AB,or_false] at hc;rcases hc with rfl|rfl|rfl;exact Ux g1;exact Ux g2;exact Ux g3,AY,AY,hsz1,e3,e4,⟨_,cap,_,g1,.inr ⟨m,0,_,_,rfl,AY,g3,by simp only[Jc,LD,CG,BH,hll,Array.size_replicate];omega,hcap,λi hi=>by rw[Dx];exact lD hi _⟩⟩,_,g2⟩,
   λc hc=>.inr (by simp at hc⊢;rcases hc with rfl|rfl|rfl<;>simp)⟩
 obtain⟨N,gs',w',sl',t',q',p1,p2,k1,k2,k3⟩:=Uw (sl:=sl) hpl hS hW hZ hsl (by rw[hR];exact λ_ _=>rfl) (λb hb=>by rw[hb];exact⟨hbl,hZ.r _ _ hxa⟩);exact⟨N,gs',w',sl',t',q',s,sz,p1,p2,k1,k2,hn,k3⟩
end
noncomputable def AHA:Array Oper:=match EH Ai.f46 with| .seq (.region _ o _) _=>o|_=>#[]
noncomputable def c0v:Code:=match EH Ai.f46 with| .seq _ c=>c|_=>.skip
section
variable {Kp:Frame->List Frame->World->Prop} (Bz: ∀f ts v,Kp f ts v->ts=[]/\f.mode=.returning) {cs:List Frame} {c0:Frame} {v w:World} {ρ:Rn}
include Bz
theorem AHB{x x' to:Value}(hs:qf 79 x)(hx:Au K1.F ρ x x')(hev:Ev Ae Kp (Frame.enter Ae 46 #[x,to] .normal) (c0::cs) v):
  ∃s n p1 p2,x=FD 79 s n/\x'=qV 79 p1 p2/\ρ.q s n p1 p2:=by
 have Ns: ∀f ts v,Kp f ts v->ts=[]:=λf ts v x=>(Bz f ts v x).1;rcases hs with rfl|⟨s,n,rfl⟩
 ·exfalso
  have wE:kL Ae Kp (λs'=>s'=⟨fr 46 #[undef,to,undef,undef,undef,undef,undef,undef,undef,undef,undef,undef,undef,undef,undef,undef,undef,undef,undef] [.inRegion AHA [0,1,2,3,4,5,6],.code c0v] [] none,c0::cs,v⟩) ⟨Frame.enter Ae 46 #[undef,to] .normal,c0::cs,v⟩:=by
   rw[H8 rH rfl];simp only[Ai.f46,CG,List.length_cons,List.length_nil,Nat.reduceAdd,Nat.reduceSub,DY,Array.replicate_zero,DZ,Df,List.nil_append,List.cons_append];refine MO (λx=>by cases Ns _ _ _ x) Jk ?_;refine II Ns (λw=>s_reg) ?_;exact .fin rfl
  obtain⟨s',rfl,nA⟩:=wE;have Zm:=Ev.OU (s:=⟨_,_,_⟩) hev nA;simp only at Zm;obtain⟨Xu,ho0,hop0,hw0⟩: ∃op,AHA[0]? =some op/\op.op=.call {callee:=.value (.tmp 0),args:=#[.const (.int .i64 0),.const (.int .i64 0),.const (.int .i64 0),.const (.int .i64 0),.const (.int .i64 0)],argTypes:=#[3,3,3,3,3]}/\∀T,Region.wanted op T=true:=⟨_,rfl,rfl,λ_=>rfl⟩;obtain⟨T,hT⟩: ∃T:Array Value,T= #[undef,to,undef,undef,undef,undef,undef,undef,undef,undef,undef,undef,undef,undef,undef,undef,undef,undef,undef]:=⟨_,rfl⟩;rw[<- hT] at Zm
  have hex: ∃m,(execOp (ev T) Xu).run Ae v=.halt (.stuck m) v:=by
   (have e0:ev T (.tmp 0)=undef:=by rw[hT];rfl);unfold execOp;simp only[hop0,resolve,e0];exact⟨_,rfl⟩
  obtain⟨m,hex⟩:=hex;exact Xc Ns Zm ho0 (hw0 _) hex trivial
 generalize e:FD 79 s n=u at hx;cases hx<;>first|(unfold FD at e;cases e;done)|skip
 ·rename_i hf;rw[<- e] at hf;exact CU hf
 ·rename_i hf hv _ _ _ _;unfold FD at e;cases e;exact absurd hv Az
 rename_i s' n' a b hq;(have e2:s=s'/\n=n':=by unfold FD at e;simpa using e);obtain⟨rfl,rfl⟩:=e2;exact⟨_,_,_,_,rfl,rfl,hq⟩
end
section
variable {Kp:Frame->List Frame->World->Prop} (Bz: ∀f ts v,Kp f ts v->ts=[]/\f.mode=.returning)
include Bz
theorem drive1{s:VS}(hev:Ev Ae Kp s.f s.ts s.v)(OX:ND Ae Kp s): ∀(ρ:Rn) (f':Frame) (ts' cs':List Frame) (w:World) (gs:Array Goroutine) (sl:Option (Nat×Nat)) (t:Trace) (q:Nat->Nat) (Z:Nat->Prop),
  DF K1 T1 ρ s.f f'->Ci (IB K1 T1 ρ) s.ts ts'->DD K1.F 2 ρ s.v w->Apart Z ρ w->Ve Z ρ w->Sit Tryz.prog Z gs w t (G f' (ts'++cs')) q->
  ∃(N:Nat) (gs1:Array Goroutine) (w1:World) (sl1:Option (Nat×Nat)) (t1:Trace) (q1:Nat->Nat) (Z1:Nat->Prop) (ρ1:Rn) (v1:World) (f1 f1':Frame),
   runNT Tryz.prog N (crowd gs w sl) t=(.next (crowd gs1 w1 sl1),t1)/\Sit Tryz.prog Z1 gs1 w1 t1 (G f1' cs') q1/\Kp f1 [] v1/\DF K1 T1 ρ1 f1 f1'/\Dv Z ρ w Z1 ρ1 v1 w1:=by
 have Ns: ∀f ts v,Kp f ts v->ts=[]:=λf ts v x=>(Bz f ts v x).1
 refine Ev.strong (M:=λs=>ND Ae Kp s->∀(ρ:Rn) (f':Frame) (ts' cs':List Frame) (w:World) (gs:Array Goroutine) (sl:Option (Nat×Nat)) (t:Trace) (q:Nat->Nat) (Z:Nat->Prop),
  DF K1 T1 ρ s.f f'->Ci (IB K1 T1 ρ) s.ts ts'->DD K1.F 2 ρ s.v w->Apart Z ρ w->Ve Z ρ w->Sit Tryz.prog Z gs w t (G f' (ts'++cs')) q->
  ∃(N:Nat) (gs1:Array Goroutine) (w1:World) (sl1:Option (Nat×Nat)) (t1:Trace) (q1:Nat->Nat) (Z1:Nat->Prop) (ρ1:Rn) (v1:World) (f1 f1':Frame),
   runNT Tryz.prog N (crowd gs w sl) t=(.next (crowd gs1 w1 sl1),t1)/\Sit Tryz.prog Z1 gs1 w1 t1 (G f1' cs') q1/\Kp f1 [] v1/\DF K1 T1 ρ1 f1 f1'/\Dv Z ρ w Z1 ρ1 v1 w1) (λs hev ih=>?_) hev OX
 intro OX ρ f' ts' cs' w gs sl t q Z hf hts hW hZ hsl hS;obtain⟨N,gs1,w1,sl1,t1,q1,a1,ρ1,v1,r1,z1,S1,mv,hc⟩:=lift (sl:=sl) AGh (λp k f1 Dj v hp=>AAJ Ns p k f1 Dj v hp) hev OX hf hts hW (λg hg=>hW.ok.hd g (MZ hg)) hZ hS;have hsz:w.heap.size<=w1.heap.size:=by have a1:=mv.sv;have a2:=mv.sw;omega
 have hr1: ∀a b,ρ1.r a b->(∃a',ρ.r a' b)\/w.heap.size<=b:=λa b hab=>by
  rcases (mv.new a b).1 hab with h|h;exact .inl ⟨a,h⟩;have:=mv.sw;exact .inr Ac
 have hA1:Apart Z ρ1 w1:=⟨λa b hab hz=>by
  rcases hr1 a b hab with ⟨a',h⟩|h
  ·exact hZ.r a' b h hz
  have:=hZ.z b hz;omega,λb hb=>BU (hZ.z b hb) hsz⟩
 have hsl1:Ve Z ρ1 w1:=λs' n a b hq=>by
  rw[mv.tok.2] at hq;obtain⟨B,hB,hc⟩:=hsl s' n a b hq
  have hn: ∀c∈B,∀x,¬ρ1.r x c:=λc hcB x hx=>by
   rcases hr1 x c hx with ⟨a',h⟩|h
   ·exact (hc c hcB).1 a' h
   have:=hB.lt c hcB;omega
  exact⟨B,hB.kZ λc hcB=>mv.Q7 c (hB.lt c hcB) (hc c hcB).1,λc hcB=>⟨hn c hcB,(hc c hcB).2⟩⟩
 have jG:Dv Z ρ w Z ρ1 v1 w1:=⟨mv.le,mv.rel,hA1,hsl1,λb hb=>hb,λb hb=>.inl hb,λa b hab hb=>by
  rcases hr1 a b hab with h|h;exact h
  omega,hsz,mv.Q7,mv.tw⟩
 rcases hc with ⟨f1,Dj,f1',Gj,hk,rfl,hf1,AD2⟩|⟨X,p,p',k,f1,Dj,f1',Gj,hX,hX',hk,hnx,rfl,hp,hf1,AD2⟩
 ·have e:=(Bz _ _ _ hk).1;subst e;(cases AD2);exact⟨N,gs1,w1,sl1,t1,q1,Z,ρ1,v1,f1,f1',r1,S1,hk,hf1,jG⟩
 subst hk;have AHC: ∀s',Jb Ae Kp s' s->ND Ae Kp s':=λs' h s'' h2=>OX s'' (h2.trans h);have hev1:=Ev.OU hev hnx;simp only at hev1
 have hX2:X=47\/X=46:=by
  have h:=hX'.1;simpa using h
 have hp2:p.size=2:=by
  have h:=hX'.2.1;unfold Jp at h;rcases hX2 with rfl|rfl<;>simpa using h
 obtain⟨x,y,rfl⟩: ∃x y,p= #[x,y]:=by
  refine⟨p[0],p[1],?_⟩;apply Ic;simp[hp2];intro i h1 h2;(have:i=0\/i=1:=by simp at h2;omega);rcases this with rfl|rfl<;>rfl
 obtain⟨x',y',rfl⟩: ∃x y,p'= #[x,y]:=by
  (have hp2':p'.size=2:=by rw[<- hp.1];rfl);refine⟨p'[0],p'[1],?_⟩;apply Ic
  ·simp[hp2']
  intro i h1 h2;(have:i=0\/i=1:=by simp at h2;omega);rcases this with rfl|rfl<;>rfl
 have hx:Au K1.F ρ1 x x':=hp.2 0 _ _ rfl rfl;have hy:Au K1.F ρ1 y y':=hp.2 1 _ _ rfl rfl;rcases hX2 with rfl|rfl
 ·
  obtain⟨N2,gs2,w2,sl2,t2,q2,s',sz,p1,p2,r2,S2,n2,d2⟩:=AAQ (sl:=sl1) S1 mv.rel hA1 hsl1 hx hy hev1 Ns;obtain⟨N3,gs3,w3,sl3,t3,q3,Z3,ρ3,v3,f3,f3',r3,S3,k3,g3,d3⟩:=ih _ (n2.trans hnx) (AHC _ (n2.trans hnx)) _ _ Gj cs' w2 gs2 sl2 t2 q2 _ ((hf1.mono d2.le).finish (.seq (.inr ⟨rfl,rfl,rfl,rfl⟩)) (.inr (.inr ⟨_,_,rfl⟩))) (CY (λ_ _ h=>h.mono d2.le) AD2) d2.rel d2.apart d2.sl S2;exact⟨_,gs3,w3,sl3,t3,q3,Z3,ρ3,v3,f3,f3',EP (EP r1 r2) r3,S3,k3,g3,(jG.trans d2).trans d3⟩
 ·
  obtain⟨s',n,p1,p2,rfl,rfl,hq⟩:=AHB Bz (hX'.2.2.1 rfl _ rfl) hx hev1;obtain⟨N2,gs2,w2,sl2,t2,q2,Z2,ρ2,v2,cnt,e,r2,S2,n2,d2⟩:=AFE (sl:=sl1) S1 mv.rel hA1 hq hsl1 hev1 hy Bz (AHC _ hnx)
  obtain⟨N3,gs3,w3,sl3,t3,q3,Z3,ρ3,v3,f3,f3',r3,S3,k3,g3,d3⟩:=ih _ (n2.trans hnx) (AHC _ (n2.trans hnx)) _ _ Gj cs' w2 gs2 sl2 t2 q2 _ ((hf1.mono d2.le).finish (.tuple rfl λi a b h1 h2=>by
   rw[h1] at h2;obtain rfl:=BQ h2;have:i=0\/i=1:=by have:=(BK.1 h1).1;simp at this;omega
   rcases this with rfl|rfl<;>(cases h1;exact .flat rfl)) (.inl (hX'.2.2.2.resolve_left Az))) (CY (λ_ _ h=>h.mono d2.le) AD2) d2.rel d2.apart d2.sl S2
  exact⟨_,gs3,w3,sl3,t3,q3,Z3,ρ3,v3,f3,f3',EP (EP r1 r2) r3,S3,k3,g3,(jG.trans d2).trans d3⟩
end
theorem ACi(P:Program)(a:Goroutine)(w:World):Sit P (λ_=>False) #[a] w #[] a (λ_=>0):=
 ⟨rfl,leavers_one P a,past_nil.clean,λi x hx=>by simp[touchAt,Trace.act?] at hx,past_nil.over,past_nil.hears,λop hop=>by simp at hop⟩
theorem AHD{P:Program}: ∀{N:Nat} {m m':Machine} {t t':Trace},runNT P N m t=(.next m',t')->runN P N m=.next m':=by
 intro N
 induction N with
 |zero=>intro m m' t t' h;simp only[runNT,EW] at h;rw[runN];exact h.1
 |succ n ih=>
  intro m m' t t' h;have hs:=stepT_fst P m true;simp only[runNT] at h
  cases hst:stepT P m with
  |mk r ops=>
   have hst':stepT P m true=(r,ops):=hst;rw[hst'] at hs;rw[hst] at h
   cases r with
   |next m1=>
    simp only at h hs;rw[runN,<- hs];exact ih h
   |ended o w=>simp at h
theorem AFG{P:Program}{Z:Nat->Prop}{gs0 gs:Array Goroutine}{w0 w:World}{sl0 sl:Option (Nat×Nat)}{t0 t:Trace}{f:Frame}{q:Nat->Nat}{N0:Nat}{x:Value}{Post:Value->World->Prop}(r:runNT P N0 (crowd gs0 w0 sl0) t0=(.next (crowd gs w sl),t))(h:Sit P Z gs w t (G f []) q)
  (hst: ∀dd,stepG P true (G f []) (w.at dd)=.ended (.done x) (w.at dd) #[]) (lF: ∀dd,Post x (w.at dd)):
  ∃N last o w' t',runNT P (N+1) (crowd gs0 w0 sl0) t0=(.ended o w',t')/\runN P N (crowd gs0 w0 sl0)=.next last/\step P last=.ended o w'/\Good P Post last o w' t':=by
 have hG:Goes P true AtRel (λ_ _ _=>False) (AtEnd P (OV Z) w.heap.size Post) 0 (G f []) w:=by
  intro w1 hw1;obtain⟨dd,rfl⟩:=hw1;exact⟨rfl,x,#[],hst dd,AY,lF dd⟩
 obtain⟨N,last,o,w',t',h1,h2,h3,h4⟩:=beside_ends (sl:=sl) (λ_ _ _ h=>h.elim) h.at0 h.leavers h.past hG;refine⟨N0+N,last,o,w',t',?_,?_,h3,h4⟩;rw[Fj,runNT_add,r];exact h1;rw[runN_add,AHD r];exact h2
def Xv (r:Nat->Nat->Prop) (base:Nat) (ts:List Value):Rn:={r:=r,c:=λa x=>base<=a/\ts[a - base]? =some x,q:=λ_ _ _ _=>False}
theorem AJr{r:Nat->Nat->Prop}{base:Nat}{ts us:List Value}:(Xv r base ts).le (Xv r base (ts++us)):=
 ⟨λ_ _ h=>h,λa x h=>⟨h.1,by
  have h2:ts[a - base]? =some x:=h.2
  rw[Dy (BB.1 h2).1];exact h2⟩,λ_ _ _ _ h=>h⟩
inductive Own' (r:Nat->Nat->Prop):Value->Prop
 |flat {x:Value}:flat x=true->Own' r x|ptr {a:Addr}:r a.block a.block->Own' r (.pointer (some a))|slice {a:Addr} {n c:Nat}:r a.block a.block->Own' r (.slice (some a) n c)|iface {t:TypeId} {x:Value}:Own' r x->Own' r (.iface t x)|agg {p:Array Value}:(∀(i:Nat) (x:Value),p[i]? =some x->Own' r x)->Own' r (.agg p)
theorem Own'.rel{F:Fs}{r:Nat->Nat->Prop}{base:Nat}{ts:List Value}{x:Value}(h:Own' r x):Au F (Xv r base ts) x x:=by
 induction h with|flat h=>exact .flat h|ptr h=>exact .ptr ⟨h,rfl,rfl⟩|slice h=>exact .slice ⟨h,rfl,rfl⟩|iface _ ih=>exact .iface ih|agg _ ih=>exact .agg rfl λi v v' h1 h2=>by rw[h1] at h2;cases h2;exact ih i v h1
inductive Sh (r:Nat->Nat->Prop):Value->Value->Prop
 |own {x:Value}:Own' r x->Sh r x x|emp {a b:Addr}: ¬Own' r (.slice (some a) 0 0)->Sh r (.slice (some b) 0 0) (.slice (some a) 0 0)|agg {p p':Array Value}: ¬Own' r (.agg p)->p'.size=p.size->(∀(i:Nat) (v x:Value),p'[i]? =some v->p[i]? =some x->Sh r v x)->Sh r (.agg p') (.agg p)|any {v x:Value}: ¬Own' r x->(∀a,x≠ .slice (some a) 0 0)->(∀p,x≠ .agg p)->Sh r v x
theorem Sh.wH{r:Nat->Nat->Prop}{v x:Value}(h:Sh r v x)(k:Own' r x):v=x:=by
 cases h with|own _=>rfl|emp h=>exact absurd k h|agg h _ _=>exact absurd k h|any h _ _=>exact absurd k h
theorem Sh.AJs{r:Nat->Nat->Prop}{v:Value}{a:Addr}(h:Sh r v (.slice (some a) 0 0)): ∃b,v=.slice (some b) 0 0:=by
 cases h with|own _=>exact⟨_,rfl⟩|emp h=>exact⟨_,rfl⟩|any _ h _=>exact absurd rfl (h _)
theorem Sh.AD3{r:Nat->Nat->Prop}{v:Value}{p:Array Value}(h:Sh r v (.agg p)): ∃p',v=.agg p'/\p'.size=p.size/\∀(i:Nat) (v x:Value),p'[i]? =some v->p[i]? =some x->Sh r v x:=by
 cases h with
 |own h=>
  refine⟨p,rfl,rfl,λi v x h1 h2=>?_⟩;rw[h1] at h2;cases h2
  cases h with|flat hf=>cases hf|agg h=>exact .own (h i v h1)
 |agg _ h1 h2=>exact⟨_,rfl,h1,h2⟩|any _ _ h=>exact absurd rfl (h _)
section
variable {F:Fs} (hp:F.p) {r:Nat->Nat->Prop} {base:Nat}
def Qg (F:Fs) (r:Nat->Nat->Prop) (base:Nat) (ts:List Value) (v x:Value):Prop:=Au F (Xv r base ts) v x/\Sh r v x
theorem Qg.mono{ts us:List Value}{v x:Value}(h:Qg F r base ts v x):Qg F r base (ts++us) v x:=⟨h.1.mono AJr,h.2⟩
theorem Uy{m:Nat}(ih: ∀x:Value,SizeOf.sizeOf x<=m->∀ts:List Value,∃us v,Qg F r base (ts++us) v x): ∀(l:List Value),(∀x∈l,SizeOf.sizeOf x<=m)->∀ts:List Value,∃(us l':List Value),l'.length=l.length/\∀(i:Nat) (v x:Value),l'[i]? =some v->l[i]? =some x->Qg F r base (ts++us) v x:=by
 intro l
 induction l with
 |nil=>exact λ_ ts=>⟨[],[],rfl,λi v x h=>by simp at h⟩|cons y l ihl=>
  intro hl ts;obtain⟨us,v,h1⟩:=ih y (hl y (BZ ..)) ts;obtain⟨us2,l',h2,h3⟩:=ihl (λx hx=>hl x (Aj _ hx)) (ts++us);refine⟨us++us2,v::l',by simp[h2],λi a x ha hx=>?_⟩;rw[<- Dt]
  cases i with
  |zero=>
   simp only[List.getElem?_cons_zero,BD] at ha hx;subst ha hx;exact h1.mono
  |succ i=>
   simp only[List.getElem?_cons_succ] at ha hx;exact h3 i a x ha hx
include hp
theorem lG: ∀(m:Nat) (x:Value),SizeOf.sizeOf x<=m->∀ts:List Value,∃us v,Qg F r base (ts++us) v x:=by
 intro m
 induction m with
 |zero=>intro x hx;cases x<;>simp at hx
 |succ m ih=>
  intro x hx ts;by_cases hown:Own' r x;exact⟨[],x,hown.rel,.own hown⟩;have AHE: ∀y,(ts++[y])[base+ts.length - base]? =some y:=λy=>by simp
  have tok:jU x=true->(∀a,x≠ .slice (some a) 0 0)->(∀p,x≠ .agg p)->∃us v,Qg F r base (ts++us) v x:=λh h2 h3=>
   ⟨[x],.chan (some (base+ts.length)),.tok ⟨Ac,AHE x⟩ h (.inl hp),.any hown h2 h3⟩
  have arr: ∀p:Array Value,SizeOf.sizeOf p<=m->∃us,∃p':Array Value,p'.size=p.size/\∀(i:Nat) (v x:Value),p'[i]? =some v->p[i]? =some x->Qg F r base (ts++us) v x:=λp hp=>by
   obtain⟨us,l',h1,h2⟩:=Uy ih p.toList (λx hx=>by
    have:=Mc (LQ.1 hx)
    omega) ts
   exact⟨us,l'.toArray,by simpa using h1,λi v x hv hx=>h2 i v x (by simpa using hv) (by simpa using hx)⟩
  have hnf:flat x=true->False:=λh=>hown (.flat h)
  cases x with
  |slice a k c=>
   cases a with
   |none=>exact (hnf rfl).elim|some a=>
    by_cases he:k=0/\c=0
    ·obtain⟨rfl,rfl⟩:=he;exact⟨[_],.slice (some ⟨base+ts.length,0,none⟩) 0 0,.emp ⟨Ac,AHE _⟩,.emp hown⟩
    exact tok (by
     cases k with
     |zero=>cases c with
      |zero=>exact absurd ⟨rfl,rfl⟩ he|succ c=>rfl
     |succ k=>rfl) (λa' e=>by cases e;exact he ⟨rfl,rfl⟩) (λp e=>by cases e)
  |agg p=>
   obtain⟨us,p',h1,h2⟩:=arr p (by simp at hx;omega);exact⟨us,.agg p',.agg h1 λi v x h3 h4=>(h2 i v x h3 h4).1,.agg hown h1 λi v x h3 h4=>(h2 i v x h3 h4).2⟩
  |tuple p=>
   obtain⟨us,p',h1,h2⟩:=arr p (by simp at hx;omega);exact⟨us,.tuple p',.tuple h1 λi v x h3 h4=>(h2 i v x h3 h4).1,.any hown (λ_ e=>by cases e) (λ_ e=>by cases e)⟩
  |func f p q=>
   by_cases hm:XQ (.func f p q)=true;exact⟨[_],jV (base+ts.length),.mf ⟨Ac,AHE _⟩ hm,.any hown (λ_ e=>by cases e) (λ_ e=>by cases e)⟩;exact tok (by cases f<;>first|rfl|exact absurd rfl hm) (λ_ e=>by cases e) (λ_ e=>by cases e)
  |pointer a=>cases a with
   |none=>exact (hnf rfl).elim|some a=>exact tok rfl (λ_ e=>by cases e) (λ_ e=>by cases e)
  |map a=>cases a with
   |none=>exact (hnf rfl).elim|some a=>exact tok rfl (λ_ e=>by cases e) (λ_ e=>by cases e)
  |chan a=>cases a with
   |none=>exact (hnf rfl).elim|some a=>exact tok rfl (λ_ e=>by cases e) (λ_ e=>by cases e)
  |_=>first|exact (hnf rfl).elim|exact tok rfl (λ_ e=>by cases e) (λ_ e=>by cases e)
end
section
variable {F:Fs} (jH:F.p) (Bs:Nat->Prop) (W:World)
def OI (Bs:Nat->Prop) (a b:Nat):Prop:=a=b/\Bs a
def TY (F:Fs) (r:Nat->Nat->Prop) (base:Nat) (ts:List Value) (p' p:Array Value):Prop:=p'.size=p.size/\∀(i:Nat) (v x:Value),p'[i]? =some v->p[i]? =some x->Qg F r base ts v x
include jH in
theorem AAR(WO:List Value): ∀n,n<=W.heap.size->∃(ts:List Value) (fK:List Obj),fK.length=n/\(∃us,ts=WO++us)/\∀b,b<n->Bs b->∀p t f,W.heap[b]? =some (.cells p t f)->∃p',fK[b]? =some (.cells p' t f)/\TY F (OI Bs) W.heap.size ts p' p:=by
 classical
 intro n
 induction n with
 |zero=>exact λ_=>⟨WO,[],rfl,⟨[],AY⟩,λb hb=>absurd hb (VP _)⟩|succ n ih=>
  intro hn;obtain⟨ts,fK,h1,⟨vs,h0⟩,h2⟩:=ih Ac
  have old: ∀us (o:Obj),∀b,b<n->Bs b->∀p t f,W.heap[b]? =some (.cells p t f)->∃p',(fK++[o])[b]? =some (.cells p' t f)/\TY F (OI Bs) W.heap.size (ts++us) p' p:=λus o b hb hB p t f hp=>by
   obtain⟨p',h3,h4,h5⟩:=h2 b hb hB p t f hp;exact⟨p',by rw[Dy Ac];exact h3,h4,λi v x hv hx=>(h5 i v x hv hx).mono⟩
  by_cases hB: ∃p t f,W.heap[n]? =some (.cells p t f)
  ·obtain⟨p,t,f,hp⟩:=hB;obtain⟨us,l',k1,k2⟩:=Uy (F:=F) (r:=OI Bs) (base:=W.heap.size) (m:=SizeOf.sizeOf p) (λx _ ts=>lG jH _ x (AP _) ts) p.toList (λx hx=>FI (Mc (LQ.1 hx))) ts;refine⟨ts++us,fK++[.cells l'.toArray t f],by simp[h1],⟨vs++us,by rw[h0,Dt]⟩,λb hb hBb p2 t2 f2 hp2=>?_⟩;rcases Gg b n with hlt|hge;exact old us _ b hlt hBb p2 t2 f2 hp2;(obtain rfl:b=n:=by omega);rw[hp] at hp2;(cases hp2);refine⟨l'.toArray,?_,by simpa using k1,λi v x hv hx=>k2 i v x (by simpa using hv) (by simpa using hx)⟩;rw[Bj Ac,h1];simp
  refine⟨ts,fK++[XR],by simp[h1],⟨vs,h0⟩,λb hb hBb p2 t2 f2 hp2=>?_⟩;rcases Gg b n with hlt|hge
  ·have:=old [] XR b hlt hBb p2 t2 f2 hp2;simpa using this
  (obtain rfl:b=n:=by omega);exact absurd ⟨_,_,_,hp2⟩ hB
include jH in
theorem wI{N:Nat}(hN:N<=W.heap.size)(hlow: ∀b,b<N->Bs b)(hBs: ∀b,Bs b->∃p t f,W.heap[b]? =some (.cells p t f))(args:Array Value): ∃(ts:List Value) (H:Array Obj) (args':Array Value),DD F N (Xv (OI Bs) W.heap.size ts) {W with heap:=H} W/\H.size=W.heap.size+ts.length/\
  (∀a,W.heap.size<=a->a<H.size->H[a]? =some XR)/\(∀b,Bs b->∀p t f,W.heap[b]? =some (.cells p t f)->∃p',H[b]? =some (.cells p' t f)/\TY F (OI Bs) W.heap.size ts p' p)/\TY F (OI Bs) W.heap.size ts args' args:=by
 obtain⟨WO,l',k1,k2⟩:=Uy (F:=F) (r:=OI Bs) (base:=W.heap.size) (m:=SizeOf.sizeOf args) (λx _ ts=>lG jH _ x (AP _) ts) args.toList (λx hx=>FI (Mc (LQ.1 hx))) [];obtain⟨ts,fK,h1,⟨us,h0⟩,h2⟩:=AAR (F:=F) jH Bs W ([]++WO) W.heap.size (AP _);obtain⟨H,hH⟩: ∃H:Array Obj,H=(fK++List.replicate ts.length XR).toArray:=⟨_,rfl⟩
 have lt: ∀b,Bs b->b<W.heap.size:=λb hb=>by
  obtain⟨p,t,f,h⟩:=hBs b hb;exact (BK.1 h).1
 have hrow: ∀b,Bs b->∀p t f,W.heap[b]? =some (.cells p t f)->∃p',H[b]? =some (.cells p' t f)/\TY F (OI Bs) W.heap.size ts p' p:=λb hb p t f hp=>by
  obtain⟨p',h3,h4⟩:=h2 b (lt b hb) hb p t f hp;refine⟨p',?_,h4⟩;rw[hH,EX,Dy (by have:=lt b hb;omega)];exact h3
 have AHF: ∀a,W.heap.size<=a->a<W.heap.size+ts.length->H[a]? =some XR:=λa h3 h4=>by
  rw[hH,EX,Bj Ac,Tu];simp;omega
 have hsz:H.size=W.heap.size+ts.length:=by rw[hH];simp[h1]
 refine⟨ts,H,l'.toArray,⟨⟨λa b b' h k=>by rw[<- h.1,<- k.1],λa a' b h k=>by rw[h.1,k.1],λa x y h k=>by
   have e1:ts[a - W.heap.size]? =some x:=h.2;have e2:ts[a - W.heap.size]? =some y:=k.2;rw[e1] at e2
   exact BQ e2,λa b x h k=>by
   have h3:=lt a h.2;have h4:W.heap.size<=a:=k.1
   omega,λa b h k=>h.1,λa ha=>⟨rfl,hlow a ha⟩⟩,λa b hab=>?_,λa x hx=>?_,(by simp only;omega),hN,rfl,λs n a b hq=>hq.elim⟩,hsz,λa h3 h4=>AHF a h3 Ac,hrow,by simpa using k1,λi v x hv hx=>by
   rw[h0];exact (k2 i v x (by simpa using hv) (by simpa using hx)).mono⟩
 ·obtain⟨rfl,hb⟩:=hab;obtain⟨p,t,f,hp⟩:=hBs a hb;obtain⟨p',h3,h4,h5⟩:=hrow a hb p t f hp;exact⟨_,_,h3,hp,.cells ⟨h4,λi v x hv hx=>(h5 i v x hv hx).1⟩⟩
 have h3:W.heap.size<=a:=hx.1;have h4:=(BB.1 (show ts[a - W.heap.size]? =some x from hx.2)).1;exact AHF a h3 Ac
end
theorem rY{N:Nat}{ρ:Rn}(ok:ρ.Ok N){a a' b':Addr}(h:RelA ρ a a')(k:RelA ρ a b'):b'=a':=by
 obtain⟨b,o,s⟩:=a;obtain⟨b1,o1,s1⟩:=a';obtain⟨b2,o2,s2⟩:=b';obtain⟨h1,h2,h3⟩:=h;obtain⟨k1,k2,k3⟩:=k;simp only at h1 h2 h3 k1 k2 k3;rw[ok.fn _ _ _ k1 h1,k2,k3,h2,h3]
theorem Wj{p p' q':Array Value}(h:p.size=p'.size)(k:p.size=q'.size)(hd: ∀(i:Nat) (v x y:Value),p[i]? =some v->p'[i]? =some x->q'[i]? =some y->y=x):q'=p':=by
 apply Ic;omega;intro i h1 h2;(have h3:i<p.size:=by omega);exact hd i p[i] p'[i] q'[i] (Ba h3) (Ba h2) (Ba h1)
theorem Au.det{F:Fs}{N:Nat}{ρ0 ρ1:Rn}(hl:ρ0.le ρ1)(ok:ρ1.Ok N)(hq: ∀s n a b,¬ρ0.q s n a b)(hF:F.v F.z->∀s n a b,¬ρ1.q s n a b){v x:Value}(k0:Au F ρ0 v x): ∀{y:Value},Au F ρ1 v y->y=x:=by
 induction k0 with
 |flat hf=>exact λk1=>BN k1 hf|ptr ha=>
  intro y k1;generalize e:Value.pointer _=u at k1;cases k1<;>cases e
  ·rename_i hf;exact CU hf
  rename_i hb;rw[rY ok (ha.mono hl) hb]
 |slice ha=>
  intro y k1;generalize e:Value.slice _ _ _=u at k1;cases k1<;>cases e
  ·rename_i hf;exact CU hf
  ·rename_i hb;rw[rY ok (ha.mono hl) hb]
  rename_i hb;exact absurd hb (ok.apart _ _ _ (ha.mono hl).1)
 |emp hcx=>
  intro y k1;generalize e:Value.slice _ _ _=u at k1;cases k1<;>cases e
  ·rename_i hf;exact CU hf
  ·rename_i hb;exact absurd (hl.c _ _ hcx) (ok.apart _ _ _ hb.1)
  rename_i hb;exact ok.VX _ _ _ hb (hl.c _ _ hcx)
 |map ha=>
  intro y k1;generalize e:Value.map _=u at k1;cases k1<;>cases e
  ·rename_i hf;exact CU hf
  rename_i hb;rw[ok.fn _ _ _ hb (hl.r _ _ ha)]
 |chan ha=>
  intro y k1;generalize e:Value.chan _=u at k1;cases k1<;>cases e
  ·rename_i hf;exact CU hf
  ·rename_i hb;rw[ok.fn _ _ _ hb (hl.r _ _ ha)]
  rename_i _ hb _;exact absurd hb (ok.apart _ _ _ (hl.r _ _ ha))
 |tok hcx _=>
  intro y k1;generalize e:Value.chan _=u at k1;cases k1<;>cases e
  ·rename_i hf;exact CU hf
  ·rename_i hb;exact absurd (hl.c _ _ hcx) (ok.apart _ _ _ hb)
  rename_i _ hb _;exact ok.VX _ _ _ hb (hl.c _ _ hcx)
 |func hf hv h1 _ h2 _ i1 i2=>
  intro y k1;generalize e:Value.func _ _ _=u at k1;cases k1<;>cases e
  ·rename_i hx;exact CU hx
  ·rename_i _ _ k1 k2 k3 k4;rw[Wj h1 k1 λi v x y a b c=>i1 i v x a b (k2 i v y a c),Wj h2 k3 λi v x y a b c=>i2 i v x a b (k4 i v y a c)]
  exact absurd (by assumption) (hF hv _ _ _ _)
 |yield ha=>
  intro y k1;generalize e:Value.func _ _ _=u at k1;cases k1<;>cases e
  ·rename_i hf;exact CU hf
  rename_i hb;rw[ok.fn _ _ _ hb (hl.r _ _ ha)]
 |seq h=>exact absurd h (hq _ _ _ _)|mf hcx _=>
  intro y k1;generalize e:jV _=u at k1;cases k1<;>cases e
  ·rename_i hf;exact CU hf
  exact ok.VX _ _ _ (by assumption) (hl.c _ _ hcx)
 |iface _ ih=>
  intro y k1;generalize e:Value.iface _ _=u at k1;cases k1<;>cases e
  ·rename_i hf;exact CU hf
  rename_i hb;rw[ih hb]
 |agg h1 _ ih=>
  intro y k1;generalize e:Value.agg _=u at k1;cases k1<;>cases e
  ·rename_i hf;exact CU hf
  rename_i h2 hb;rw[Wj h1 h2 λi v x y a b c=>ih i v x a b (hb i v y a c)]
 |tuple h1 _ ih=>
  intro y k1;generalize e:Value.tuple _=u at k1;cases k1<;>cases e
  ·rename_i hf;exact CU hf
  rename_i h2 hb;rw[Wj h1 h2 λi v x y a b c=>ih i v x a b (hb i v y a c)]
theorem AHG{F:Fs}{N:Nat}{ρ0 ρ1:Rn}{v0 w0 v1 w1:World}(h0:DD F N ρ0 v0 w0)(h1:DD F N ρ1 v1 w1)(hl:ρ0.le ρ1)(hq: ∀s n a b,¬ρ0.q s n a b)(hF:F.v F.z->∀s n a b,¬ρ1.q s n a b){a b:Nat}(hab:ρ0.r a b)(hv:v1.heap[a]? =v0.heap[a]?){p:Array Value}{t:TypeId}{f:Nat×Nat}(hw:w0.heap[b]? =some (.cells p t f)):
  w1.heap[b]? =some (.cells p t f):=by
 obtain⟨o,o',k1,k2,k3⟩:=h0.obj a b hab;obtain⟨q,q',j1,j2,j3⟩:=h1.obj a b (hl.r _ _ hab);rw[hv,k1] at j1;obtain rfl:=BQ j1;rw[hw] at k2;obtain rfl:=BQ k2;rw[j2];generalize e:Obj.cells p t f=u at k3;(cases k3<;>cases e);rename_i p0 hp
 cases j3 with|cells hp2=>rw[Wj hp.1 hp2.1 λi v x y a b c=>(hp.2 i v x a b).det hl h1.ok hq hF (hp2.2 i v y a c)]
def KpL (X:FuncId) (r:Tmp) (H:Array Obj) (f:Frame) (ts:List Frame) (v:World):Prop:=
 ts=[]/\f.mode=.returning/\f.fn=X/\f.defers=[]/\f.tmps[r]? =some (.bool true)/\∀a,a<H.size->v.heap[a]? =H[a]?
theorem AFH{P:Program}{f:Frame}{fn:Func}{r:Tmp}{x:Value}(hm:f.mode=.returning)(hd:f.defers=[])(hf:P.funcs[f.fn]? =some fn)(hres:fn.results= #[.tmp r])(hr:f.tmps[r]? =some x)(hk:f.kind=.normal\/f.kind=.deferred)(hi:P.inits.idxOf? f.fn=none)(w:World):
  stepG P true (G f []) w=.ended (.done x) w #[]:=by
 have h1:(results fn f.tmps).runT P w #[]=(.ok x w,#[]):=by
  rw[MF hres w,Eb,hr];rfl
 rw[Sem.runT_eq] at h1;have h2:(results fn f.tmps).run P w=.ok x w:=congrArg Prod.fst h1;have h3:(results fn f.tmps).events P w #[]= #[]:=congrArg Prod.snd h1;rcases hk with hk|hk<;>simp[stepG,unwind,G,hm,hd,hf,h2,h3,doReturn,hk,hi,GStep.after,seen_none]
theorem hzV:KV.F K1.F.z/\KV.F.v K1.F.z/\∀n,KV.F.a K1.F.z n:=⟨Az,Az,λn=>rfl⟩
section
variable {X:FuncId} (hX:S1.contains X=true) (jI:K1.X X=false) {fn:Func} (hfn:Tryz.prog.funcs[X]? =some fn) {r:Tmp} (hres:fn.results= #[.tmp r]) (hin:Tryz.prog.inits.idxOf? X=none)
 {args:Array Value} {W:World} {Bs:Nat->Prop} (hN:2<=W.heap.size) (hlow: ∀b,b<2->Bs b) (hBs: ∀b,Bs b->∃p t f,W.heap[b]? =some (.cells p t f))
include hX jI hfn hres hin hN hlow hBs
theorem AFI{Post:Value->World->Prop}(lF: ∀w':World,W.heap.size<=w'.heap.size->(∀b,b<W.heap.size->w'.heap[b]? =W.heap[b]?)->w'.tape=W.tape->w'.os=W.os->w'.output=W.output->Post (.bool true) w')
  (ANI: ∀(H:Array Obj) (ts:List Value) (args':Array Value),W.heap.size<=H.size->(∀b,Bs b->∀p t f,W.heap[b]? =some (.cells p t f)->∃p',H[b]? =some (.cells p' t f)/\TY K1.F (OI Bs) W.heap.size ts p' p)->TY K1.F (OI Bs) W.heap.size ts args' args->
   ∀t:Nat->Question->Nat,(∀j,j<W.drawn->t j=W.tape j)->∃n f' v',runN Ae n (lone (Frame.enter Ae X args' .normal) [door Ae] (({W with heap:=H}:World).DL t))=.next (lone f' [door Ae] v')/\KpL X r H f' [] v'):
  ∃M last o w' t',runNT Tryz.prog (M+1) (solo (G (Frame.enter Tryz.prog X args .normal) []) W) #[]=(.ended o w',t')/\runN Tryz.prog M (solo (G (Frame.enter Tryz.prog X args .normal) []) W)=.next last/\step Tryz.prog last=.ended o w'/\Conc.Good Tryz.prog Post last o w' t':=by
 obtain⟨ts,H,args',hW,hHs,_,hrow,hargs⟩:=wI (F:=K1.F) trivial Bs W hN hlow hBs args;obtain⟨ρ0,hρ⟩: ∃ρ0,ρ0=Xv (OI Bs) W.heap.size ts:=⟨_,rfl⟩;have ha:Ar K1.F ρ0 args' args:=⟨hargs.1,λi v v' h1 h2=>by rw[hρ];exact (hargs.2 i v v' h1 h2).1⟩;rw[<- hρ] at hW;(have hq0: ∀s n a b,¬ρ0.q s n a b:=λs n a b h=>by rw[hρ] at h;exact h);(have hr0: ∀a b,ρ0.r a b↔a=b/\Bs a:=λa b=>by rw[hρ];exact Ky);have Bz: ∀f ts v,KpL X r H f ts v->ts=[]/\f.mode=.returning:=λf ts v h=>⟨h.1,h.2.1⟩
 have AHH:QW KV TV 2 (Frame.enter Ae X args' .normal) [] {W with heap:=H}:=
  ⟨ρ0.left,ρ0.left_id,Na (K:=KV) (T:=TV) fitsV (ADt.f X hX) rfl (ha.left ADt hzV) (.inl rfl),.nil,hW.left ADt hzV,λg hg=>(hW.left ADt hzV).ok.hd g (MZ hg)⟩
 have hev:Ev Ae (KpL X r H) (Frame.enter Ae X args' .normal) [] {W with heap:=H}:=by
  refine bar (K:=KV) (T:=TV) (N:=2) fitsV rfl ⟨λ_=>rfl,id⟩ (λf ts v t h=>h) AHH (λt ht=>?_);obtain⟨n,f',v',h1,h2⟩:=ANI H ts args' Ac hrow hargs t ht;exact⟨n,f',[],v',h1,h2⟩
 have OX:ND Ae (KpL X r H) ⟨Frame.enter Ae X args' .normal,[],{W with heap:=H}⟩:=QW.AMx (K:=KV) (T:=TV) fitsV rfl ⟨λ_=>rfl,id⟩ Bz AHH hev;obtain⟨N,gs1,w1,sl1,t1,q1,Z1,ρ1,v1,f1,f1',r1,S1,⟨_,km,kf,kd,kr,kh⟩,hf1,dv⟩:=drive1 Bz (s:=⟨_,_,_⟩) hev OX ρ0 (Frame.enter Tryz.prog X args .normal) [] [] W #[G (Frame.enter Tryz.prog X args .normal) []] none #[] (λ_=>0) (λ_=>False) (Na (K:=K1) (T:=T1) AGh hX jI ha (.inl rfl)) .nil hW ⟨λ_ _ _ h=>h,λ_ h=>h.elim⟩ (λs n a b h=>absurd h (hq0 _ _ _ _)) (ACi _ _ _)
 have hm':f1'.mode=.returning:=by
  have:=hf1.mode;rw[km] at this;generalize f1'.mode=m at this;(cases this);rfl
 have hd':f1'.defers=[]:=by
  have h1:=hf1.defers;rw[kd] at h1;generalize f1'.defers=l at h1;(cases h1);rfl
 have hfn':f1'.fn=X:=hf1.fn.trans kf
 have hr':f1'.tmps[r]? =some (.bool true):=by
  obtain⟨y,hy,hyr⟩:=hf1.tmps.get kr;rw[hy,BN hyr rfl]
 have hk':f1'.kind=.normal\/f1'.kind=.deferred:=by rw[hf1.kind.1];exact hf1.kind.2
 have hold: ∀b,b<W.heap.size->w1.heap[b]? =W.heap[b]? :=λb hb=>by
  by_cases hB:Bs b
  ·obtain⟨p,t,f,hp⟩:=hBs b hB;rw[hp];exact AHG hW dv.rel dv.le hq0 (λh=>absurd h Az) ((hr0 b b).2 ⟨rfl,hB⟩) (kh b Ac) hp
  exact dv.keep b hb λa h=>hB (by have:=(hr0 a b).1 h;rw[<- this.1];exact this.2)
 exact AFG (sl0:=none) r1 S1 (λdd=>AFH hm' hd' (by rw[hfn'];exact hfn) hres hr' hk' (by rw[hfn'];exact hin) _) (λdd=>lF (w1.at dd) dv.sz hold dv.same.1 dv.same.2.1 dv.same.2.2)
end
section
variable {X:FuncId} (hX:S1.contains X=true) (jI:K1.X X=false) {fn:Func} (hfn:Tryz.prog.funcs[X]? =some fn) (AKK:Ae.funcs[X]? =some fn) {r:Tmp} (hres:fn.results= #[.tmp r]) (hin:Tryz.prog.inits.idxOf? X=none)
 {args:Array Value} {W:World} {Bs:Nat->Prop} (hN:2<=W.heap.size) (hlow: ∀b,b<2->Bs b) (hBs: ∀b,Bs b->∃p t f,W.heap[b]? =some (.cells p t f))
include hX jI hfn AKK hres hin hN hlow hBs
theorem ACj{Post:Value->World->Prop}(lF: ∀w':World,W.heap.size<=w'.heap.size->(∀b,b<W.heap.size->w'.heap[b]? =W.heap[b]?)->w'.tape=W.tape->w'.os=W.os->w'.output=W.output->Post (.bool true) w')
  (AJt: ∀(H:Array Obj) (ts:List Value) (args':Array Value),W.heap.size<=H.size->(∀b,Bs b->∀p t f,W.heap[b]? =some (.cells p t f)->∃p',H[b]? =some (.cells p' t f)/\TY K1.F (OI Bs) W.heap.size ts p' p)->TY K1.F (OI Bs) W.heap.size ts args' args->
   ∀t:Nat->Question->Nat,Calls Ae X args' (({W with heap:=H}:World).DL t) fun| .returned v,w'=>v=.bool true/\∀a,a<H.size->w'.heap[a]? =H[a]?|_,_=>False):
  ∃M last o w' t',runNT Tryz.prog (M+1) (solo (G (Frame.enter Tryz.prog X args .normal) []) W) #[]=(.ended o w',t')/\runN Tryz.prog M (solo (G (Frame.enter Tryz.prog X args .normal) []) W)=.next last/\step Tryz.prog last=.ended o w'/\Conc.Good Tryz.prog Post last o w' t':=by
 refine AFI hX jI hfn hres hin hN hlow hBs lF λH ts args' hz hrow hargs t _=>?_;obtain⟨e,w',f,hR,hcomes,Xw,hl⟩:=AJt H ts args' hz hrow hargs t [door Ae]
 cases e with
 |panicked chain=>exact hR.elim|outgrown=>exact hR.elim|returned v=>
  obtain⟨rfl,hh⟩:=hR;obtain⟨n,hn⟩:=hcomes;obtain⟨hm,hd,hk,fn',hf',hr⟩:=hl;rw[Xw,AKK] at hf';obtain rfl:=BQ hf';have h1:=MF (P:=Ae) (T:=f.tmps) hres w';rw[Sem.runT_eq] at h1;have h2:(results fn f.tmps).run Ae w'=.ok (f.tmps.getD r undef) w':=congrArg Prod.fst h1;rw[hr] at h2;simp only[Result.ok.injEq,and_true] at h2;refine⟨n,f,w',hn,rfl,hm,Xw,hd,?_,hh⟩;rw[Eb] at h2
  cases h3:f.tmps[r]? with|none=>rw[h3] at h2;cases h2|some y=>rw[h3] at h2;rw[h2];rfl
end
end Go.Proofs.YtkkgcebhfghdnaaGreatDoor
