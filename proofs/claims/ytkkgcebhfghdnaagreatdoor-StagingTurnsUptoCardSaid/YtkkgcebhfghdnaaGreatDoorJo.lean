/- Part 15 of what that rests on; no condition. -/
import Derived.Test.YtkkgcebhfghdnaaGreatDoorJn
import Derived.Listen
set_option maxRecDepth 100000
set_option maxHeartbeats 8000000
open Array renaming replicate_zero→Lt, length_toList→V3, replicate→IK
open Go.Instr renaming buildSlice→Zr, makeFunc→Zt, fill→MI, box→Su
open Option renaming getD_some→Dt, none→AB, some→AA
open List renaming length_cons→ES, cons_append→Dj, length_nil→Ha, nil_append→Dy
open Nat renaming reduceAdd→Jn, reduceSub→Lp
open Go.Frame renaming enter→BV
open Go.Sem renaming runT_eq→Ik
open Go renaming Goroutine→Ac, Program→BL, execOp→BG, Value→AP, undef→AU, World→AL, Frame→AX, Trace→CB, runNT→D8, Addr→Ag
open Prod renaming fst→Aa
namespace Go.Proofs.YtkkgcebhfghdnaaGreatDoor
open Go Go.Conc Go.RowKit
section
variable {a:Ag}{fl:Array Bool}{WO:AX}{c l n:Nat}{ty:TypeId}{w:AL}
noncomputable def ABk:Array Oper:=match EM Tryz.f47 with| .seq _ (.seq (.region _ o _) _)=>o|_=>#[]
noncomputable def cC:Code:=match EM Tryz.f47 with| .seq _ (.seq _ c)=>c|_=>.skip
theorem AEG:(binOp .eql 62 (.slice AB n c) (.slice AB 0 0)).events Tryz.prog w #[]= #[]:=by rfl
theorem zG{P:BL}{es:Array Event}{m:Mode}{b:Option Ag}:(store a (.slice b l c) m).events P w es=storedEv P w es a (.slice b l c) m:=events_store P w es a _ m rfl
theorem AFm{b:Nat}:
  (builtin .max #[3,3] ty fl #[.int .i64 1,.int .i64 (b:Int)]).run Tryz.prog w=.ok (.value (.int .i64 (if (1:Int)<(b:Int) then (b:Int) else 1))) w/\(builtin .max #[3,3] ty fl #[.int .i64 1,.int .i64 (b:Int)]).events Tryz.prog w #[]= #[]:=⟨rfl,rfl⟩
theorem ABl{a':Ag}:
  (builtin .append #[62,62] ty fl #[.slice (AA a) 0 0,.slice (AA a') 0 c]).run Tryz.prog w=.ok (.value (.slice (AA a) 0 0)) w/\(builtin .append #[62,62] ty fl #[.slice (AA a) 0 0,.slice (AA a') 0 c]).events Tryz.prog w #[]= #[]:=⟨rfl,rfl⟩
section
variable {SR:Nat->Prop} {J:Ac->Own SR->Prop} (hJ:tH Tryz.prog true J) {R:RF SR} {Gb:Nat->Prop} {L:List (Nat×Obj)} {cs:List AX}
include hJ
theorem AI5{o:Own SR}(next:J (G (WO.finish (.slice AB 0 0)) cs) o):J (G (BV Tryz.prog 78 #[.slice AB n c] .normal) (WO::cs)) o:=by
 rw[IM Tryz.func78 rfl];simp only[Tryz.f78,Iq,ES,Ha,Jn,Lp,KE,Lt,KF,KH,Dy,Dj];(iterate 8 refine Qd ?_);refine EC hJ ?_ (he:=by intro w hw;unfold ev;simp[go_sem,AEG]);(iterate 6 refine Qd ?_);refine CZ hJ (λw=>OM) rfl ?_;exact JS (v:=.slice AB 0 0) hJ Tryz.func78 (λw=>MR (t:=2) rfl w) next
theorem AI6(next: ∀m0,(∃w,(ow R Gb L).I w/\w.heap.size=m0)->J (G (WO.finish (.slice (AA ⟨m0,0,AB⟩) 0 0)) cs) (ow R Gb ((m0,.cells #[] 5)::L))):
  J (G (BV Tryz.prog 78 #[.slice (AA a) 0 c] .normal) (WO::cs)) (ow R Gb L):=by
 rw[IM Tryz.func78 rfl];simp only[Tryz.f78,Iq,ES,Ha,Jn,Lp,KE,Lt,KF,KH,Dy,Dj];(iterate 8 refine Qd ?_);refine EC hJ ?_ (he:=by intro w hw;unfold ev;simp[go_sem,eX]);(iterate 5 refine Qd ?_);refine OO hJ (λm=>.slice (AA ⟨m,0,AB⟩) 0 0) (.cells #[] 5) rfl rfl (.inl rfl) (λw hw=>?_) (λw hw=>?_) λm0 hm0=>?_
 ·unfold ev;simp[go_sem,BG,Zr,newRow,MI]
 ·unfold ev;simp[go_sem,BG,Zr,newRow,MI]
 simp only[put];walk_nrm;refine Qd ?_;refine EC hJ ?_ (hr:=λw _=>IP ABl.1) (he:=λw _=>IP (Gq ABl.2));(iterate 2 refine Qd ?_);refine CZ hJ (λw=>OM) rfl ?_;exact JS (v:=.slice (AA ⟨m0,0,AB⟩) 0 0) hJ Tryz.func78 (λw=>MR (t:=2) rfl w) (next m0 hm0)
theorem AGy{l:List UInt8}(hl:l.length=n)(hn:0<n)(hle:n<=1073741824)(hnews: ∀w,R.R w->∀j v,(Jr l)[j]? =AA v->w.cell? (a.add j)=AA v)(yt:SR a.block)
  (next: ∀m0 m cap,n<=cap->(∃w,(ow R Gb L).I w/\w.heap.size=m0)->m0<m->J (G (WO.finish (.slice (AA ⟨m,0,AB⟩) n cap)) cs) (ow R Gb ((m,.cells ((Jr l).toArray++IK (cap - n) (.int .u8 0)) 5)::(m0,.cells #[] 5)::L))):
  J (G (BV Tryz.prog 78 #[.slice (AA a) n c] .normal) (WO::cs)) (ow R Gb L):=by
 rw[IM Tryz.func78 rfl];simp only[Tryz.f78,Iq,ES,Ha,Jn,Lp,KE,Lt,KF,KH,Dy,Dj];(iterate 8 refine Qd ?_);refine EC hJ ?_ (he:=by intro w hw;unfold ev;simp[go_sem,eX]);(iterate 5 refine Qd ?_);refine OO hJ (λm=>.slice (AA ⟨m,0,AB⟩) 0 0) (.cells #[] 5) rfl rfl (.inl rfl) (λw hw=>?_) (λw hw=>?_) λm0 hm0=>?_
 ·unfold ev;simp[go_sem,BG,Zr,newRow,MI]
 ·unfold ev;simp[go_sem,BG,Zr,newRow,MI]
 simp only[put];walk_nrm;refine Qd ?_;refine AFX hJ (.tmp 5) (.tmp 6) rfl (t:=62) (e:=5) (z:=.int .u8 0) Tryz.underlying62 rfl rfl rfl rfl rfl (b0:=m0) rfl (D9 ..) (a:=a) (n:=n) (c:=c) rfl (news:=Jr l) (by simp[Jr,hl]) hn hle ABY hnews yt rfl rfl rfl λm cap h1 h2 h3=>?_;simp only[put];walk_nrm;(iterate 2 refine Qd ?_);refine CZ hJ (λw=>OM) rfl ?_;refine JS hJ Tryz.func78 (λw=>MR rfl w) ?_;refine next m0 m cap h1 hm0 ?_;obtain⟨w,hw,e⟩:=h3;have:=(Df.1 (hw.1 (m0,.cells #[] 5) (D9 ..))).1;omega
theorem zH{A:Option Ag}{n:Int} (next: ∀p1 p2,p1<p2->(∃w,(ow R Gb L).I w/\w.heap.size=p1)->J (G (BV Tryz.prog 78 #[.slice A l c] .normal) (fr 47 #[.slice A l c,.int .i64 n,.pointer (AA ⟨p1,0,AB⟩),.pointer (AA ⟨p2,0,AB⟩),.nilFunc,.slice A l c,AU,AU,AU,AU,AU,AU,AU] [.inRegion ABk [1,2],.code cC] [] AB::cs))
   (ow R Gb ((p2,.cells #[.int .i64 n] 3)::(p1,.cells #[.slice A l c] 62)::L))):
  J (G (BV Tryz.prog 47 #[.slice A l c,.int .i64 n] .normal) cs) (ow R Gb L):=by
 have NX:=AQ next;clear next;rw[IM Tryz.func47 rfl];simp only[Tryz.f47,Iq,ES,Ha,Jn,Lp,KE,Lt,KF,KH,Dy,Dj];(iterate 2 refine Qd ?_);refine OO hJ (λm=>.pointer (AA ⟨m,0,AB⟩)) (.cells #[.slice A l c] 62) rfl rfl (.inl rfl) (λw hw=>?_) (λw hw=>?_) λp1 hp1=>?_
 ·unfold ev;simp[go_sem,BG,Su]
 ·unfold ev;simp[go_sem,BG,Su]
 simp only[put];walk_nrm;refine OO hJ (λm=>.pointer (AA ⟨m,0,AB⟩)) (.cells #[.int .i64 n] 3) rfl rfl (.inl rfl) (λw hw=>?_) (λw hw=>?_) λp2 hp2=>?_
 ·unfold ev;simp[go_sem,BG,Su]
 ·unfold ev;simp[go_sem,BG,Su]
 simp only[put];walk_nrm
 have hpp:p1<p2:=by
  obtain⟨w,hw,e⟩:=hp2;have:=(Df.1 (hw.1 (p1,.cells #[.slice A l c] 62) (D9 ..))).1;omega
 have fB: ∀(w:AL),(ow R Gb ((p2,.cells #[.int .i64 n] 3)::(p1,.cells #[.slice A l c] 62)::L)).I w->w.cell? ⟨p1,0,AB⟩=AA (.slice A l c):=λw hw=>by
  rw[I8 (hw.1 (p1,.cells #[.slice A l c] 62) (CO _ (D9 ..)))];rfl
 have rB:(ow R Gb ((p2,.cells #[.int .i64 n] 3)::(p1,.cells #[.slice A l c] 62)::L)).O p1:=.inr (Nz (CO _ (D9 ..)));(iterate 4 refine Qd ?_);refine EC hJ ?_ (hr:=by intro w hw;have f0:=fB w hw;unfold ev;go_simp;exact rfl) (he:=by intro w hw;have f0:=fB w hw;unfold ev;simp[go_sem,f0];exact⟨.inl rB,rfl⟩);refine RX hJ (f:=78) (args:=#[.slice A l c]) rfl rfl (.inl rfl) (λw hw=>?_) (λw hw=>?_) ?_;rw[F9 (op:=_) (f:=78) (vs:=#[.slice A l c]) rfl WX];rfl;rw[F9 (op:=_) (f:=78) (vs:=#[.slice A l c]) rfl WX,YG];intro e he;simp at he;exact NX.out p1 p2 hpp hp1
theorem oI{X:List (Nat×Obj)}{x':AP}{D:Option Ag}{l c p1 p2:Nat}{n:Int}{cF:AX}{t5:AP}(h12:p1≠p2)(hS1: ¬SR p1)(hS2: ¬SR p2)(hX: ∀p∈X,p.1≠p1/\p.1≠p2)
  (next: ∀sz:Int,(n<1->sz=if (1:Int)<l then (l:Int) else 1)->(1<=n->sz=n)->J (G (cF.finish (.func (.func 79) #[] #[.pointer (AA ⟨p1,0,AB⟩),.pointer (AA ⟨p2,0,AB⟩)])) cs) (ow R Gb (X++[(p2,.cells #[.int .i64 sz] 3),(p1,.cells #[.slice D l c] 62)]))):
  J (G ((fr 47 #[x',.int .i64 n,.pointer (AA ⟨p1,0,AB⟩),.pointer (AA ⟨p2,0,AB⟩),.nilFunc,t5,AU,AU,AU,AU,AU,AU,AU] [.inRegion ABk [1,2],.code cC] [] AB).finish (.slice D l c)) (cF::cs)) (ow R Gb (X++[(p2,.cells #[.int .i64 n] 3),(p1,.cells #[x'] 62)])):=by
 have NX:=AQ next;clear next;have e1:ABk=ABk:=rfl
 conv at e1=>lhs;simp only[ABk,EM,Tryz.f47,Dt]
 have e2:cC=cC:=rfl
 conv at e2=>lhs;simp only[cC,EM,Tryz.f47,Dt]
 rw[<- e1,<- e2,EH (o:=_) rfl];clear e1 e2;simp only[put];walk_nrm;(have key: ∀(x v:AP) (p:Nat×Obj),p∈X++[(p2,.cells #[x] 3),(p1,.cells #[v] 62)]↔p∈X\/p=(p2,.cells #[x] 3)\/p=(p1,.cells #[v] 62):=λx v p=>by simp);refine AD9 hJ (t:=62) (L':=X++[(p2,.cells #[.int .i64 n] 3),(p1,.cells #[.slice D l c] 62)]) (b:=p1) (x:=x') (v:=.slice D l c) AV hS1 (λy=>by simp) (λp hp=>?_) rfl rfl (.inl rfl) (λw f0 f1=>?_) (λw f0 f1=>?_) ?_
 ·rcases (key _ _ _).1 hp with h|rfl|rfl;exact .inr ⟨(key _ _ _).2 (.inl h),(hX p h).1⟩;exact .inr ⟨(key _ _ _).2 (.inr (.inl rfl)),λe=>h12 e.symm⟩;exact .inl rfl
 ·unfold ev;go_simp;try exact rfl
 ·unfold ev;intro e he;simp[go_sem,f0,f1,zG] at he;exact he
 simp only[put];walk_nrm
 have fB: ∀(w:AL),(ow R Gb (X++[(p2,.cells #[.int .i64 n] 3),(p1,.cells #[.slice D l c] 62)])).I w->w.cell? ⟨p2,0,AB⟩=AA (.int .i64 n):=λw hw=>by
  rw[I8 (hw.1 (p2,.cells #[.int .i64 n] 3) AV)];rfl
 have fA: ∀(w:AL),(ow R Gb (X++[(p2,.cells #[.int .i64 n] 3),(p1,.cells #[.slice D l c] 62)])).I w->w.cell? ⟨p1,0,AB⟩=AA (.slice D l c):=λw hw=>by
  rw[I8 (hw.1 (p1,.cells #[.slice D l c] 62) AV)];rfl
 have rB:(ow R Gb (X++[(p2,.cells #[.int .i64 n] 3),(p1,.cells #[.slice D l c] 62)])).O p2:=.inr AV;have rA:(ow R Gb (X++[(p2,.cells #[.int .i64 n] 3),(p1,.cells #[.slice D l c] 62)])).O p1:=.inr AV;(iterate 4 refine Qd ?_);refine EC hJ ?_ (hr:=by intro w hw;have f0:=fB w hw;unfold ev;go_simp;exact rfl) (he:=by intro w hw;have f0:=fB w hw;unfold ev;simp[go_sem,f0];exact⟨.inl rB,rfl⟩);(iterate 2 refine Qd ?_);by_cases hn:n<1
 ·(have hd:decide (n<1)=true:=by simpa using hn);rw[hd];(iterate 2 refine Qd ?_);refine EC hJ ?_ (hr:=by intro w hw;have f0:=fA w hw;unfold ev;go_simp;exact rfl) (he:=by intro w hw;have f0:=fA w hw;unfold ev;simp[go_sem,f0];exact⟨.inl rA,rfl⟩);refine EC hJ ?_ (hr:=λw _=>IP Fq.1) (he:=λw _=>IP (Gq Fq.2));refine EC hJ ?_ (hr:=λw _=>IP AFm.1) (he:=λw _=>IP (Gq AFm.2));refine AD9 hJ (t:=3) (L':=X++[(p2,.cells #[.int .i64 (if (1:Int)<l then (l:Int) else 1)] 3),(p1,.cells #[.slice D l c] 62)]) (b:=p2) (x:=.int .i64 n) (v:=.int .i64 (if (1:Int)<l then (l:Int) else 1)) AV hS2 (λy=>by simp) (λp hp=>?_) rfl rfl (.inl rfl) (λw f0 f1=>?_) (λw f0 f1=>?_) ?_
  ·rcases (key _ _ _).1 hp with h|rfl|rfl;exact .inr ⟨(key _ _ _).2 (.inl h),(hX p h).2⟩;exact .inl rfl;exact .inr ⟨(key _ _ _).2 (.inr (.inr rfl)),h12⟩
  ·unfold ev;go_simp;try exact rfl
  ·unfold ev;intro e he;simp[go_sem,f0,f1] at he;exact he
  simp only[put];walk_nrm;(iterate 3 refine Qd ?_);refine EC hJ ?_ (he:=by intro w hw;unfold ev;simp[go_sem,Zt]);(iterate 2 refine Qd ?_);refine CZ hJ (λw=>OM) rfl ?_;exact JS hJ Tryz.func47 (λw=>MR (t:=4) rfl w) (NX.out _ (λ_=>rfl) (λh=>Ai hn Ad))
 (have hd:decide (n<1)=false:=by simpa using hn);rw[hd];(iterate 4 refine Qd ?_);refine EC hJ ?_ (he:=by intro w hw;unfold ev;simp[go_sem,Zt]);(iterate 2 refine Qd ?_);refine CZ hJ (λw=>OM) rfl ?_;exact JS hJ Tryz.func47 (λw=>MR (t:=4) rfl w) (NX.out _ (λh=>Ai h hn) (λ_=>rfl))
end
end
def oJ {SR:Nat->Prop} (c0:AX) (cs:List AX) (s:ByteArray) (sz:Int) (a:Ac) (o:Own SR):Prop:=
 ∃p1 p2 B,a=G (c0.finish (uI 79 p1 p2)) cs/\(∀w,o.I w->Ij w B s sz p1 p2)/\∀c∈B,o.O c
section
variable {Z:Nat->Prop} {gs:Array Ac} {t:CB} {q:Nat->Nat} {sl:Option (Nat×Nat)} {w v:AL} {ρ:Rn} {s:ByteArray} {sz:Int} {c0':AX} {cs0:List AX} {a:Ac}
theorem VQ{SR:Nat->Prop}{R:RF SR}(hpl:Ps Tryz.prog (oJ (SR:=SR) c0' cs0 s sz) a (ow R (λ_=>False) []))(hS:Sit Tryz.prog Z gs w t a q)(hW:DD K1.F 2 ρ v w)(hZ:Apart Z ρ w)(hsl:V9 Z ρ w)(hR:R.R w)(hSR: ∀b,SR b->b<w.heap.size/\¬Z b):
  ∃(N:Nat) (gs':Array Ac) (w':AL) (sl':Option (Nat×Nat)) (t':CB) (q':Nat->Nat) (p1 p2:Nat),
   D8 Tryz.prog N (crowd gs w sl) t=(.next (crowd gs' w' sl'),t')/\Sit Tryz.prog Z gs' w' t' (G (c0'.finish (uI 79 p1 p2)) cs0) q'/\Dv Z ρ w Z (ρ.RY s sz p1 p2) v w':=by
 have hO0: ∀b,¬(ow R (λ_=>False) []).O b:=λb h=>by
  rcases h with h|h;exact h;simp at h
 obtain⟨N,gs',w',sl',t',q',a',o',r1,z1,S1,⟨p1,p2,B,rfl,hSe,hB⟩,I1,E1⟩:=hpl (sl:=sl) hS.AIl ⟨λp hp=>(by cases hp),hR⟩ (λb hb=>Ai hb (hO0 b)) hSR hZ.z;have hold: ∀b,b<w.heap.size->w'.heap[b]? =w.heap[b]? :=λb hb=>E1.keep b hb (hO0 b);have hnew: ∀c∈B,w.heap.size<=c/\¬Z c:=λc hc=>⟨(E1.new c (hB c hc)).elim (λh=>Ai h (hO0 c)) id,(E1.own c (hB c hc)).2⟩
 have hBr: ∀c∈B,∀x,¬ρ.r x c:=λc hc x hx=>by
  have h1:=(hW.dom hx).2;have h2:=(hnew c hc).1;omega
 refine⟨N,gs',w',sl',t',q',p1,p2,r1,⟨S1.at0,S1.leavers,(S1.past.mono (Ba _)).past⟩,Rn.bC,(hW.kept hold E1.sz E1.same.2.1).RY (hSe w' I1) hBr,⟨hZ.r,λb hb=>ER (hZ.z b hb) E1.sz⟩,λs' n' a' b' hq=>?_,λb hb=>hb,λb hb=>.inl hb,λa b hab _=>⟨a,hab⟩,E1.sz,λb hb _=>hold b hb,E1.same⟩;rcases hq with hq|⟨rfl,rfl,rfl,rfl⟩
 ·exact hsl.kept hold s' n' a' b' hq
 exact⟨B,hSe w' I1,λc hc=>⟨hBr c hc,(hnew c hc).2⟩⟩
end
theorem oK{s:ByteArray}{i:Nat}(h:i<s.size)(n:Nat):((Jr s.data.toList).toArray++IK n (Value.int .u8 0))[i]? =AA (.int .u8 (s[i].toNat:Int)):=by
 have h1:s.data.toList[i]? =AA s[i]:=by
  rw[Y5];exact FD _
 have hl:(Jr s.data.toList).toArray.size=s.size:=by
  simp only[Jr,Iq,DZ,V3];rfl
 rw[lU Ad,QW];simp only[Jr,Bg,h1];rfl
section
variable {Z:Nat->Prop} {gs:Array Ac} {t:CB} {q:Nat->Nat} {sl:Option (Nat×Nat)} {w v:AL} {ρ:Rn} {x y x' y':AP} {Kp:AX->List AX->AL->Prop} {c0 c0':AX} {cs cs0:List AX}
theorem ABm(hS:Sit Tryz.prog Z gs w t (G (BV Tryz.prog 47 #[x',y'] .normal) (c0'::cs0)) q)(hW:DD K1.F 2 ρ v w)(hZ:Apart Z ρ w)(hsl:V9 Z ρ w)(hx:Az K1.F ρ x x')(hy:Az K1.F ρ y y')
  (hev:Ev Af Kp (BV Af 47 #[x,y] .normal) (c0::cs) v) (Bv: ∀f ts v,Kp f ts v->ts=[]):
  ∃(N:Nat) (gs':Array Ac) (w':AL) (sl':Option (Nat×Nat)) (t':CB) (q':Nat->Nat) (s:ByteArray) (sz:Int) (p1 p2:Nat),
   D8 Tryz.prog N (crowd gs w sl) t=(.next (crowd gs' w' sl'),t')/\Sit Tryz.prog Z gs' w' t' (G (c0'.finish (uI 79 p1 p2)) cs0) q'/\
   Jq Af Kp ⟨c0.finish (Fg 79 s sz),cs,v⟩ ⟨BV Af 47 #[x,y] .normal,c0::cs,v⟩/\Dv Z ρ w Z (ρ.RY s sz p1 p2) v w':=by
 obtain⟨s,n,sz,rfl,e1,e2,e3,e4,hn,hcase⟩:=AL3 Bv hW hx hy hev
 have hsz1:1<=sz:=by
  by_cases h:n<1
  ·rw[e1 h];split<;>omega
  rw[e2 Ad];omega
 have AEH: ∀sz':Int,(n<1->sz'=if (1:Int)<s.size then (s.size:Int) else 1)->(1<=n->sz'=n)->sz'=sz:=λsz' h1 h2=>by
  by_cases h:n<1;rw[h1 h,e1 h];rw[h2 Ad,e2 Ad]
 have VR: ∀{w':AL} {b:Nat} {o:Obj},w'.heap[b]? =AA o->b<w'.heap.size:=λh=>(Df.1 h).1;rcases hcase with ⟨c,rfl,h0⟩|⟨a',c,rfl,hab,hc⟩
 ·
  have hpl:Ps Tryz.prog (oJ (SR:=λ_=>False) c0' cs0 s sz) (G (BV Tryz.prog 47 #[.slice AB 0 c,.int .i64 n] .normal) (c0'::cs0)) (ow zB (λ_=>False) []):=zH NF λp1 p2 h12 hp1=>AI5 NF (oI (J:=Ps Tryz.prog (oJ (SR:=λ_=>False) c0' cs0 s sz)) NF (X:=[]) (aA h12) (λh=>h) (λh=>h) (λp hp=>by cases hp) λsz' f1 f2=>Ps.fin ⟨p1,p2,[p1,p2],rfl,λw' hI=>by
   obtain rfl:=AEH sz' (by rw[h0];exact f1) f2;have g2:=hI.1 (p2,.cells #[.int .i64 sz'] 3) AV;have g1:=hI.1 (p1,.cells #[.slice AB 0 0] 62) AV
   exact⟨λc hc=>by simp only[BB,BC,or_false] at hc;rcases hc with rfl|rfl;exact VR g1;exact VR g2,AV,AV,hsz1,e3,e4,⟨AB,0,_,by rw[h0];exact g1,.inl h0⟩,_,g2⟩,
   λc hc=>.inr (by simp at hc⊢;rcases hc with rfl|rfl<;>simp)⟩)
  obtain⟨N,gs',w',sl',t',q',p1,p2,k1,k2,k3⟩:=VQ (sl:=sl) hpl hS hW hZ hsl trivial (λb hb=>hb.elim);exact⟨N,gs',w',sl',t',q',s,sz,p1,p2,k1,k2,hn,k3⟩
 by_cases hpos:s.size=0
 ·rw[hpos] at hS
  have hpl:Ps Tryz.prog (oJ (SR:=λ_=>False) c0' cs0 s sz) (G (BV Tryz.prog 47 #[.slice (AA a') 0 c,.int .i64 n] .normal) (c0'::cs0)) (ow zB (λ_=>False) []):=zH NF λp1 p2 h12 hp1=>AI6 NF λm0 hm0=>by
   have hm:p2<m0:=by
    obtain⟨w1,hw1,rfl⟩:=hm0;exact VR (hw1.1 (p2,.cells #[.int .i64 n] 3) AV)
   exact @oI (λ_=>False) (Ps Tryz.prog (oJ c0' cs0 s sz)) NF zB (λ_=>False) cs0 [(m0,.cells #[] 5)] (.slice (AA a') 0 c) (AA ⟨m0,0,AB⟩) 0 0 p1 p2 n c0' (.slice (AA a') 0 c) (aA h12) (λh=>h) (λh=>h) (λp hp=>by simp only[CG] at hp;subst hp;exact⟨Ad,Ad⟩) λsz' f1 f2=>Ps.fin ⟨p1,p2,[p1,p2],rfl,λw' hI=>by
    obtain rfl:=AEH sz' (by rw[hpos];exact f1) f2;have g2:=hI.1 (p2,.cells #[.int .i64 sz'] 3) AV;have g1:=hI.1 (p1,.cells #[.slice (AA ⟨m0,0,AB⟩) 0 0] 62) AV
    exact⟨λc hc=>by simp only[BB,BC,or_false] at hc;rcases hc with rfl|rfl;exact VR g1;exact VR g2,AV,AV,hsz1,e3,e4,⟨_,0,_,by rw[hpos];exact g1,.inl hpos⟩,_,g2⟩,
    λc hc=>.inr (by simp at hc⊢;rcases hc with rfl|rfl<;>simp)⟩
  obtain⟨N,gs',w',sl',t',q',p1,p2,k1,k2,k3⟩:=VQ (sl:=sl) hpl hS hW hZ hsl trivial (λb hb=>hb.elim);exact⟨N,gs',w',sl',t',q',s,sz,p1,p2,k1,k2,hn,k3⟩
 obtain⟨xa,hxa⟩:=hab Ad;have hbl:a'.block<w.heap.size:=(hW.dom hxa).2;(have hll:s.data.toList.length=s.size:=by rw[V3];rfl);obtain⟨R,hR⟩: ∃R:RF (λb=>b=a'.block),R=frz (λb=>b=a'.block) w (λb hb=>by rw[hb];exact hbl):=⟨_,rfl⟩;have hRR: ∀w',R.R w'->w'.heap[a'.block]? =w.heap[a'.block]? :=λw' h=>by rw[hR] at h;exact h _ rfl
 have hnews: ∀w',R.R w'->∀j v,(Jr s.data.toList)[j]? =AA v->w'.cell? (a'.add j)=AA v:=λw' h j v hv=>by
  have hj:j<s.size:=by
   have:=(DC.1 hv).1;simp only[Jr,DZ,hll] at this;exact this
  have h1:=oK hj 0
  have h2:v=.int .u8 (s[j].toNat:Int):=by
   have h3:=(oK hj 0).symm;rw[lU (by simp only[Jr,Iq,DZ,hll];exact hj),QW,hv] at h3;exact (EF h3).symm
  have h3:(a'.add j).block=a'.block:=by unfold Addr.add;split<;>rfl
  have h4:w'.cell? (a'.add j)=w.cell? (a'.add j):=by
   unfold World.cell?;rw[h3,hRR w' h]
  rw[h4,hc j hj,h2]
 have hpl:Ps Tryz.prog (oJ (SR:=λb=>b=a'.block) c0' cs0 s sz) (G (BV Tryz.prog 47 #[.slice (AA a') s.size c,.int .i64 n] .normal) (c0'::cs0)) (ow R (λ_=>False) []):=zH NF λp1 p2 h12 hp1=>AGy NF hll Ad e4 hnews rfl λm0 m cap hcap hm0 hm=>by
  have hm2:p2<m0:=by
   obtain⟨w1,hw1,rfl⟩:=hm0;exact VR (hw1.1 (p2,.cells #[.int .i64 n] 3) AV)
  have hap:a'.block<p1:=by
   obtain⟨w1,hw1,rfl⟩:=hp1;exact R.lt w1 hw1.2 _ rfl
  exact @oI (λb=>b=a'.block) (Ps Tryz.prog (oJ c0' cs0 s sz)) NF R (λ_=>False) cs0 [(m,.cells ((Jr s.data.toList).toArray++IK (cap - s.size) (.int .u8 0)) 5),(m0,.cells #[] 5)] (.slice (AA a') s.size c) (AA ⟨m,0,AB⟩) s.size cap p1 p2 n c0' (.slice (AA a') s.size c) (aA h12) (λh=>by have h:p1=a'.block:=h;omega) (λh=>by have h:p2=a'.block:=h;omega) (λp hp=>by simp only[BB,BC,or_false] at hp;rcases hp with rfl|rfl<;>exact⟨by simp only;omega,by simp only;omega⟩) λsz' f1 f2=>Ps.fin ⟨p1,p2,[p1,p2,m],rfl,λw' hI=>by
   obtain rfl:=AEH sz' f1 f2;have g2:=hI.1 (p2,.cells #[.int .i64 sz'] 3) AV;have g1:=hI.1 (p1,.cells #[.slice (AA ⟨m,0,AB⟩) s.size cap] 62) AV;have g3:=hI.1 (m,.cells ((Jr s.data.toList).toArray++IK (cap - s.size) (.int .u8 0)) 5) AV
   exact⟨λc hc=>by simp only[BB,BC,or_false] at hc;rcases hc with rfl|rfl|rfl;exact VR g1;exact VR g2;exact VR g3,AV,AV,hsz1,e3,e4,⟨_,cap,_,g1,.inr ⟨m,0,_,_,rfl,AV,g3,by simp only[Jr,lV,Iq,DZ,hll,Array.size_replicate];omega,hcap,λi hi=>by rw[Ny];exact oK hi _⟩⟩,_,g2⟩,
   λc hc=>.inr (by simp at hc⊢;rcases hc with rfl|rfl|rfl<;>simp)⟩
 obtain⟨N,gs',w',sl',t',q',p1,p2,k1,k2,k3⟩:=VQ (sl:=sl) hpl hS hW hZ hsl (by rw[hR];exact λ_ _=>rfl) (λb hb=>by rw[hb];exact⟨hbl,hZ.r _ _ hxa⟩);exact⟨N,gs',w',sl',t',q',s,sz,p1,p2,k1,k2,hn,k3⟩
end
noncomputable def AI7:Array Oper:=match EM Ah.f46 with| .seq (.region _ o _) _=>o|_=>#[]
noncomputable def c0v:Code:=match EM Ah.f46 with| .seq _ c=>c|_=>.skip
section
variable {Kp:AX->List AX->AL->Prop} (Bv: ∀f ts v,Kp f ts v->ts=[]/\f.mode=.returning) {cs:List AX} {c0:AX} {v w:AL} {ρ:Rn}
include Bv
theorem AI8{x x' to:AP}(hs:uP 79 x)(hx:Az K1.F ρ x x')(hev:Ev Af Kp (BV Af 46 #[x,to] .normal) (c0::cs) v):
  ∃s n p1 p2,x=Fg 79 s n/\x'=uI 79 p1 p2/\ρ.q s n p1 p2:=by
 have OX: ∀f ts v,Kp f ts v->ts=[]:=λf ts v x=>(Bv f ts v x).1;rcases hs with rfl|⟨s,n,rfl⟩
 ·exfalso
  have zF:nT Af Kp (λs'=>s'=⟨fr 46 #[AU,to,AU,AU,AU,AU,AU,AU,AU,AU,AU,AU,AU,AU,AU,AU,AU,AU,AU] [.inRegion AI7 [0,1,2,3,4,5,6],.code c0v] [] AB,c0::cs,v⟩) ⟨BV Af 46 #[AU,to] .normal,c0::cs,v⟩:=by
   rw[IM uo rfl];simp only[Ah.f46,Iq,ES,Ha,Jn,Lp,KE,Lt,KF,KH,Dy,Dj];refine ND (λx=>by cases OX _ _ _ x) J5 ?_;refine Ia OX (λw=>s_reg) ?_;exact .fin rfl
  obtain⟨s',rfl,nA⟩:=zF;have ay:=Ev.O6 (s:=⟨_,_,_⟩) hev nA;simp only at ay;obtain⟨op0,ho0,hop0,hw0⟩: ∃op,AI7[0]? =AA op/\op.op=.call {callee:=.value (.tmp 0),args:=#[.const (.int .i64 0),.const (.int .i64 0),.const (.int .i64 0),.const (.int .i64 0),.const (.int .i64 0)],argTypes:=#[3,3,3,3,3]}/\∀T,Region.wanted op T=true:=⟨_,rfl,rfl,λ_=>rfl⟩;obtain⟨T,hT⟩: ∃T:Array AP,T= #[AU,to,AU,AU,AU,AU,AU,AU,AU,AU,AU,AU,AU,AU,AU,AU,AU,AU,AU]:=⟨_,rfl⟩;rw[<- hT] at ay
  have hex: ∃m,(BG (ev T) op0).run Af v=.halt (.stuck m) v:=by
   (have e0:ev T (.tmp 0)=AU:=by rw[hT];rfl);unfold BG;simp only[hop0,resolve,e0];exact⟨_,rfl⟩
  obtain⟨m,hex⟩:=hex;exact YI OX ay ho0 (hw0 _) hex trivial
 generalize e:Fg 79 s n=u at hx;cases hx<;>first|(unfold Fg at e;cases e;done)|skip
 ·rename_i hf;rw[<- e] at hf;exact Ai (show false=true from hf) AV
 ·rename_i hf hv _ _ _ _;unfold Fg at e;cases e;exact Ai hv Ar
 rename_i s' n' a b hq;(have e2:s=s'/\n=n':=by unfold Fg at e;simpa using e);obtain⟨rfl,rfl⟩:=e2;exact⟨_,_,_,_,rfl,rfl,hq⟩
end
section
variable {Kp:AX->List AX->AL->Prop} (Bv: ∀f ts v,Kp f ts v->ts=[]/\f.mode=.returning)
include Bv
theorem drive1{s:VS}(hev:Ev Af Kp s.f s.ts s.v)(O8:NQ Af Kp s): ∀(ρ:Rn) (f':AX) (ts' cs':List AX) (w:AL) (gs:Array Ac) (sl:Option (Nat×Nat)) (t:CB) (q:Nat->Nat) (Z:Nat->Prop),
  DF K1 T1 ρ s.f f'->Cc (IW K1 T1 ρ) s.ts ts'->DD K1.F 2 ρ s.v w->Apart Z ρ w->V9 Z ρ w->Sit Tryz.prog Z gs w t (G f' (ts'++cs')) q->
  ∃(N:Nat) (gs1:Array Ac) (w1:AL) (sl1:Option (Nat×Nat)) (t1:CB) (q1:Nat->Nat) (Z1:Nat->Prop) (ρ1:Rn) (v1:AL) (f1 f1':AX),
   D8 Tryz.prog N (crowd gs w sl) t=(.next (crowd gs1 w1 sl1),t1)/\Sit Tryz.prog Z1 gs1 w1 t1 (G f1' cs') q1/\Kp f1 [] v1/\DF K1 T1 ρ1 f1 f1'/\Dv Z ρ w Z1 ρ1 v1 w1:=by
 have OX: ∀f ts v,Kp f ts v->ts=[]:=λf ts v x=>(Bv f ts v x).1
 refine Ev.strong (M:=λs=>NQ Af Kp s->∀(ρ:Rn) (f':AX) (ts' cs':List AX) (w:AL) (gs:Array Ac) (sl:Option (Nat×Nat)) (t:CB) (q:Nat->Nat) (Z:Nat->Prop),
  DF K1 T1 ρ s.f f'->Cc (IW K1 T1 ρ) s.ts ts'->DD K1.F 2 ρ s.v w->Apart Z ρ w->V9 Z ρ w->Sit Tryz.prog Z gs w t (G f' (ts'++cs')) q->
  ∃(N:Nat) (gs1:Array Ac) (w1:AL) (sl1:Option (Nat×Nat)) (t1:CB) (q1:Nat->Nat) (Z1:Nat->Prop) (ρ1:Rn) (v1:AL) (f1 f1':AX),
   D8 Tryz.prog N (crowd gs w sl) t=(.next (crowd gs1 w1 sl1),t1)/\Sit Tryz.prog Z1 gs1 w1 t1 (G f1' cs') q1/\Kp f1 [] v1/\DF K1 T1 ρ1 f1 f1'/\Dv Z ρ w Z1 ρ1 v1 w1) (λs hev ih=>?_) hev O8
 intro O8 ρ f' ts' cs' w gs sl t q Z hf hts hW hZ hsl hS;obtain⟨N,gs1,w1,sl1,t1,q1,a1,ρ1,v1,r1,z1,S1,mv,hc⟩:=lift (sl:=sl) AIe (λp k f1 Di v hp=>ABf OX p k f1 Di v hp) hev O8 hf hts hW (λg hg=>hW.ok.hd g (kP hg)) hZ hS;have hsz:w.heap.size<=w1.heap.size:=by have a1:=mv.sv;have a2:=mv.sw;omega
 have hr1: ∀a b,ρ1.r a b->(∃a',ρ.r a' b)\/w.heap.size<=b:=λa b hab=>by
  rcases (mv.new a b).1 hab with h|h;exact .inl ⟨a,h⟩;have:=mv.sw;exact .inr Ad
 have hA1:Apart Z ρ1 w1:=⟨λa b hab hz=>by
  rcases hr1 a b hab with ⟨a',h⟩|h
  ·exact hZ.r a' b h hz
  have:=hZ.z b hz;omega,λb hb=>ER (hZ.z b hb) hsz⟩
 have hsl1:V9 Z ρ1 w1:=λs' n a b hq=>by
  rw[mv.tok.2] at hq;obtain⟨B,hB,hc⟩:=hsl s' n a b hq
  have hn: ∀c∈B,∀x,¬ρ1.r x c:=λc hcB x hx=>by
   rcases hr1 x c hx with ⟨a',h⟩|h
   ·exact (hc c hcB).1 a' h
   have:=hB.lt c hcB;omega
  exact⟨B,hB.oD λc hcB=>mv.Rl c (hB.lt c hcB) (hc c hcB).1,λc hcB=>⟨hn c hcB,(hc c hcB).2⟩⟩
 have hDv:Dv Z ρ w Z ρ1 v1 w1:=⟨mv.le,mv.rel,hA1,hsl1,λb hb=>hb,λb hb=>.inl hb,λa b hab hb=>by
  rcases hr1 a b hab with h|h;exact h
  omega,hsz,mv.Rl,mv.tw⟩
 rcases hc with ⟨f1,Di,f1',Gy,hk,rfl,hf1,AFn⟩|⟨X,p,p',k,f1,Di,f1',Gy,hX,hX',hk,hnx,rfl,hp,hf1,AFn⟩
 ·have e:=(Bv _ _ _ hk).1;subst e;(cases AFn);exact⟨N,gs1,w1,sl1,t1,q1,Z,ρ1,v1,f1,f1',r1,S1,hk,hf1,hDv⟩
 subst hk;have AI9: ∀s',Jq Af Kp s' s->NQ Af Kp s':=λs' h s'' h2=>O8 s'' (h2.trans h);have hev1:=Ev.O6 hev hnx;simp only at hev1
 have hX2:X=47\/X=46:=by
  have h:=hX'.1;simpa using h
 have hp2:p.size=2:=by
  have h:=hX'.2.1;unfold KL at h;rcases hX2 with rfl|rfl<;>simpa using h
 obtain⟨x,y,rfl⟩: ∃x y,p= #[x,y]:=by
  refine⟨p[0],p[1],?_⟩;apply Z9;simp[hp2];intro i h1 h2;(have:i=0\/i=1:=by simp at h2;omega);rcases this with rfl|rfl<;>rfl
 obtain⟨x',y',rfl⟩: ∃x y,p'= #[x,y]:=by
  (have hp2':p'.size=2:=by rw[<- hp.1];rfl);refine⟨p'[0],p'[1],?_⟩;apply Z9
  ·simp[hp2']
  intro i h1 h2;(have:i=0\/i=1:=by simp at h2;omega);rcases this with rfl|rfl<;>rfl
 have hx:Az K1.F ρ1 x x':=hp.2 0 _ _ rfl rfl;have hy:Az K1.F ρ1 y y':=hp.2 1 _ _ rfl rfl;rcases hX2 with rfl|rfl
 ·
  obtain⟨N2,gs2,w2,sl2,t2,q2,s',sz,p1,p2,r2,S2,n2,d2⟩:=ABm (sl:=sl1) S1 mv.rel hA1 hsl1 hx hy hev1 OX;obtain⟨N3,gs3,w3,sl3,t3,q3,Z3,ρ3,v3,f3,f3',r3,S3,k3,g3,d3⟩:=ih _ (n2.trans hnx) (AI9 _ (n2.trans hnx)) _ _ Gy cs' w2 gs2 sl2 t2 q2 _ ((hf1.mono d2.le).finish (.seq (.inr ⟨rfl,rfl,rfl,rfl⟩)) (.inr (.inr ⟨_,_,rfl⟩))) (CV (λ_ _ h=>h.mono d2.le) AFn) d2.rel d2.apart d2.sl S2;exact⟨_,gs3,w3,sl3,t3,q3,Z3,ρ3,v3,f3,f3',EZ (EZ r1 r2) r3,S3,k3,g3,(hDv.trans d2).trans d3⟩
 ·
  obtain⟨s',n,p1,p2,rfl,rfl,hq⟩:=AI8 Bv (hX'.2.2.1 rfl _ rfl) hx hev1;obtain⟨N2,gs2,w2,sl2,t2,q2,Z2,ρ2,v2,cnt,e,r2,S2,n2,d2⟩:=AGx (sl:=sl1) S1 mv.rel hA1 hq hsl1 hev1 hy Bv (AI9 _ hnx)
  obtain⟨N3,gs3,w3,sl3,t3,q3,Z3,ρ3,v3,f3,f3',r3,S3,k3,g3,d3⟩:=ih _ (n2.trans hnx) (AI9 _ (n2.trans hnx)) _ _ Gy cs' w2 gs2 sl2 t2 q2 _ ((hf1.mono d2.le).finish (.tuple rfl λi a b h1 h2=>by
   rw[h1] at h2;obtain rfl:=EF h2;have:i=0\/i=1:=by have:=(Df.1 h1).1;simp at this;omega
   rcases this with rfl|rfl<;>(cases h1;exact .flat rfl)) (.inl (hX'.2.2.2.resolve_left Ar))) (CV (λ_ _ h=>h.mono d2.le) AFn) d2.rel d2.apart d2.sl S2
  exact⟨_,gs3,w3,sl3,t3,q3,Z3,ρ3,v3,f3,f3',EZ (EZ r1 r2) r3,S3,k3,g3,(hDv.trans d2).trans d3⟩
end
theorem AEI(P:BL)(a:Ac)(w:AL):Sit P (λ_=>False) #[a] w #[] a (λ_=>0):=
 ⟨rfl,leavers_one P a,past_nil.clean,λi x hx=>by simp[touchAt,Trace.act?] at hx,past_nil.over,past_nil.hears,λop hop=>by simp at hop⟩
theorem AJA{P:BL}: ∀{N:Nat} {m m':Machine} {t t':CB},D8 P N m t=(.next m',t')->runN P N m=.next m':=by
 intro N
 induction N with
 |zero=>intro m m' t t' h;simp only[D8,Nw] at h;rw[runN];exact h.1
 |succ n ih=>
  intro m m' t t' h;have hs:=stepT_fst P m true;simp only[D8] at h
  cases hst:stepT P m with
  |mk r ops=>
   have hst':stepT P m true=(r,ops):=hst;rw[hst'] at hs;rw[hst] at h
   cases r with
   |next m1=>
    simp only at h hs;rw[runN,<- hs];exact ih h
   |ended o w=>simp at h
theorem AGz{P:BL}{Z:Nat->Prop}{gs0 gs:Array Ac}{w0 w:AL}{sl0 sl:Option (Nat×Nat)}{t0 t:CB}{f:AX}{q:Nat->Nat}{N0:Nat}{x:AP}{Post:AP->AL->Prop}(r:D8 P N0 (crowd gs0 w0 sl0) t0=(.next (crowd gs w sl),t))(h:Sit P Z gs w t (G f []) q)
  (hst: ∀dd,stepG P true (G f []) (w.at dd)=.ended (.done x) (w.at dd) #[]) (oL: ∀dd,Post x (w.at dd)):
  ∃N last o w' t',D8 P (N+1) (crowd gs0 w0 sl0) t0=(.ended o w',t')/\runN P N (crowd gs0 w0 sl0)=.next last/\step P last=.ended o w'/\Good P Post last o w' t':=by
 have hG:Goes P true AtRel (λ_ _ _=>False) (AtEnd P (O7 Z) w.heap.size Post) 0 (G f []) w:=by
  intro w1 hw1;obtain⟨dd,rfl⟩:=hw1;exact⟨rfl,x,#[],hst dd,AV,oL dd⟩
 obtain⟨N,last,o,w',t',h1,h2,h3,h4⟩:=beside_ends (sl:=sl) (λ_ _ _ h=>h.elim) h.at0 h.leavers h.past hG;refine⟨N0+N,last,o,w',t',?_,?_,h3,h4⟩;rw[U4,runNT_add,r];exact h1;rw[runN_add,AJA r];exact h2
section
variable {ts:List AP}{r:Nat->Nat->Prop}{v x:AP}
def rtk (r:Nat->Nat->Prop) (base:Nat) (ts:List AP):Rn:={r:=r,c:=λa x=>base<=a/\ts[a - base]? =AA x,q:=λ_ _ _ _=>False}
theorem AL4{base:Nat}{us:List AP}:(rtk r base ts).le (rtk r base (ts++us)):=
 ⟨λ_ _ h=>h,λa x h=>⟨h.1,by
  have h2:ts[a - base]? =AA x:=h.2
  rw[NK (DC.1 h2).1];exact h2⟩,λ_ _ _ _ h=>h⟩
inductive Own' (r:Nat->Nat->Prop):AP->Prop
 |flat {x:AP}:flat x=true->Own' r x|ptr {a:Ag}:r a.block a.block->Own' r (.pointer (AA a))|slice {a:Ag} {n c:Nat}:r a.block a.block->Own' r (.slice (AA a) n c)|iface {t:TypeId} {x:AP}:Own' r x->Own' r (.iface t x)|agg {p:Array AP}:(∀(i:Nat) (x:AP),p[i]? =AA x->Own' r x)->Own' r (.agg p)
theorem Own'.rel{F:Fs}{base:Nat}(h:Own' r x):Az F (rtk r base ts) x x:=by
 induction h with|flat h=>exact .flat h|ptr h=>exact .ptr ⟨h,rfl,rfl⟩|slice h=>exact .slice ⟨h,rfl,rfl⟩|iface _ ih=>exact .iface ih|agg _ ih=>exact .agg rfl λi v v' h1 h2=>by rw[h1] at h2;cases h2;exact ih i v h1
inductive Sh (r:Nat->Nat->Prop):AP->AP->Prop
 |own {x:AP}:Own' r x->Sh r x x|emp {a b:Ag}: ¬Own' r (.slice (AA a) 0 0)->Sh r (.slice (AA b) 0 0) (.slice (AA a) 0 0)|agg {p p':Array AP}: ¬Own' r (.agg p)->p'.size=p.size->(∀(i:Nat) (v x:AP),p'[i]? =AA v->p[i]? =AA x->Sh r v x)->Sh r (.agg p') (.agg p)|any {v x:AP}: ¬Own' r x->(∀a,x≠ .slice (AA a) 0 0)->(∀p,x≠ .agg p)->Sh r v x
theorem Sh.zI(h:Sh r v x)(k:Own' r x):v=x:=by
 cases h with|own _=>rfl|emp h=>exact Ai k h|agg h _ _=>exact Ai k h|any h _ _=>exact Ai k h
theorem Sh.AL5{a:Ag}(h:Sh r v (.slice (AA a) 0 0)): ∃b,v=.slice (AA b) 0 0:=by
 cases h with|own _=>exact⟨_,rfl⟩|emp h=>exact⟨_,rfl⟩|any _ h _=>exact Ai rfl (h _)
theorem Sh.zJ{p:Array AP}(h:Sh r v (.agg p)): ∃p',v=.agg p'/\p'.size=p.size/\∀(i:Nat) (v x:AP),p'[i]? =AA v->p[i]? =AA x->Sh r v x:=by
 cases h with
 |own h=>
  refine⟨p,rfl,rfl,λi v x h1 h2=>?_⟩;rw[h1] at h2;cases h2
  cases h with|flat hf=>cases hf|agg h=>exact .own (h i v h1)
 |agg _ h1 h2=>exact⟨_,rfl,h1,h2⟩|any _ _ h=>exact Ai rfl (h _)
section
variable {F:Fs} (hp:F.p) {r:Nat->Nat->Prop} {base:Nat}
def Q9 (F:Fs) (r:Nat->Nat->Prop) (base:Nat) (ts:List AP) (v x:AP):Prop:=Az F (rtk r base ts) v x/\Sh r v x
theorem Q9.mono{ts us:List AP}{v x:AP}(h:Q9 F r base ts v x):Q9 F r base (ts++us) v x:=⟨h.1.mono AL4,h.2⟩
theorem VT{m:Nat}(ih: ∀x:AP,SizeOf.sizeOf x<=m->∀ts:List AP,∃us v,Q9 F r base (ts++us) v x): ∀(l:List AP),(∀x∈l,SizeOf.sizeOf x<=m)->∀ts:List AP,∃(us l':List AP),l'.length=l.length/\∀(i:Nat) (v x:AP),l'[i]? =AA v->l[i]? =AA x->Q9 F r base (ts++us) v x:=by
 intro l
 induction l with
 |nil=>exact λ_ ts=>⟨[],[],rfl,λi v x h=>by simp at h⟩|cons y l ihl=>
  intro hl ts;obtain⟨us,v,h1⟩:=ih y (hl y (D9 ..)) ts;obtain⟨us2,l',h2,h3⟩:=ihl (λx hx=>hl x (CO _ hx)) (ts++us);refine⟨us++us2,v::l',by simp[h2],λi a x ha hx=>?_⟩;rw[<- KC]
  cases i with
  |zero=>
   simp only[List.getElem?_cons_zero,DN] at ha hx;subst ha hx;exact h1.mono
  |succ i=>
   simp only[List.getElem?_cons_succ] at ha hx;exact h3 i a x ha hx
include hp
theorem oN: ∀(m:Nat) (x:AP),SizeOf.sizeOf x<=m->∀ts:List AP,∃us v,Q9 F r base (ts++us) v x:=by
 intro m
 induction m with
 |zero=>intro x hx;cases x<;>simp at hx
 |succ m ih=>
  intro x hx ts;by_cases hown:Own' r x;exact⟨[],x,hown.rel,.own hown⟩;have AJB: ∀y,(ts++[y])[base+ts.length - base]? =AA y:=λy=>by simp
  have tok:lZ x=true->(∀a,x≠ .slice (AA a) 0 0)->(∀p,x≠ .agg p)->∃us v,Q9 F r base (ts++us) v x:=λh h2 h3=>
   ⟨[x],.chan (AA (base+ts.length)),.tok ⟨Ad,AJB x⟩ h (.inl hp),.any hown h2 h3⟩
  have arr: ∀p:Array AP,SizeOf.sizeOf p<=m->∃us,∃p':Array AP,p'.size=p.size/\∀(i:Nat) (v x:AP),p'[i]? =AA v->p[i]? =AA x->Q9 F r base (ts++us) v x:=λp hp=>by
   obtain⟨us,l',h1,h2⟩:=VT ih p.toList (λx hx=>by
    have:=xm (xI.1 hx)
    omega) ts
   exact⟨us,l'.toArray,by simpa using h1,λi v x hv hx=>h2 i v x (by simpa using hv) (by simpa using hx)⟩
  have hnf:flat x=true->False:=λh=>hown (.flat h)
  cases x with
  |slice a k c=>
   cases a with
   |none=>exact (hnf rfl).elim|some a=>
    by_cases he:k=0/\c=0
    ·obtain⟨rfl,rfl⟩:=he;exact⟨[_],.slice (AA ⟨base+ts.length,0,AB⟩) 0 0,.emp ⟨Ad,AJB _⟩,.emp hown⟩
    exact tok (by
     cases k with
     |zero=>cases c with
      |zero=>exact Ai ⟨rfl,rfl⟩ he|succ c=>rfl
     |succ k=>rfl) (λa' e=>by cases e;exact he ⟨rfl,rfl⟩) (λp e=>by cases e)
  |agg p=>
   obtain⟨us,p',h1,h2⟩:=arr p (by simp at hx;omega);exact⟨us,.agg p',.agg h1 λi v x h3 h4=>(h2 i v x h3 h4).1,.agg hown h1 λi v x h3 h4=>(h2 i v x h3 h4).2⟩
  |tuple p=>
   obtain⟨us,p',h1,h2⟩:=arr p (by simp at hx;omega);exact⟨us,.tuple p',.tuple h1 λi v x h3 h4=>(h2 i v x h3 h4).1,.any hown (λ_ e=>by cases e) (λ_ e=>by cases e)⟩
  |func f p q=>
   by_cases hm:X7 (.func f p q)=true;exact⟨[_],lg (base+ts.length),.mf ⟨Ad,AJB _⟩ hm,.any hown (λ_ e=>by cases e) (λ_ e=>by cases e)⟩;exact tok (by cases f<;>first|rfl|exact Ai rfl hm) (λ_ e=>by cases e) (λ_ e=>by cases e)
  |pointer a=>cases a with
   |none=>exact (hnf rfl).elim|some a=>exact tok rfl (λ_ e=>by cases e) (λ_ e=>by cases e)
  |map a=>cases a with
   |none=>exact (hnf rfl).elim|some a=>exact tok rfl (λ_ e=>by cases e) (λ_ e=>by cases e)
  |chan a=>cases a with
   |none=>exact (hnf rfl).elim|some a=>exact tok rfl (λ_ e=>by cases e) (λ_ e=>by cases e)
  |_=>first|exact (hnf rfl).elim|exact tok rfl (λ_ e=>by cases e) (λ_ e=>by cases e)
end
end
section
variable {F:Fs} (hFp:F.p) (Bs:Nat->Prop) (W:AL)
def Ou (Bs:Nat->Prop) (a b:Nat):Prop:=a=b/\Bs a
def UM (F:Fs) (r:Nat->Nat->Prop) (base:Nat) (ts:List AP) (p' p:Array AP):Prop:=p'.size=p.size/\∀(i:Nat) (v x:AP),p'[i]? =AA v->p[i]? =AA x->Q9 F r base ts v x
include hFp in
theorem ABn(XH:List AP): ∀n,n<=W.heap.size->∃(ts:List AP) (iW:List Obj),iW.length=n/\(∃us,ts=XH++us)/\∀b,b<n->Bs b->∀p t f,W.heap[b]? =AA (.cells p t f)->∃p',iW[b]? =AA (.cells p' t f)/\UM F (Ou Bs) W.heap.size ts p' p:=by
 classical
 intro n
 induction n with
 |zero=>exact λ_=>⟨XH,[],rfl,⟨[],AV⟩,λb hb=>Ai hb (xk _)⟩|succ n ih=>
  intro hn;obtain⟨ts,iW,h1,⟨vs,h0⟩,h2⟩:=ih Ad
  have old: ∀us (o:Obj),∀b,b<n->Bs b->∀p t f,W.heap[b]? =AA (.cells p t f)->∃p',(iW++[o])[b]? =AA (.cells p' t f)/\UM F (Ou Bs) W.heap.size (ts++us) p' p:=λus o b hb hB p t f hp=>by
   obtain⟨p',h3,h4,h5⟩:=h2 b hb hB p t f hp;exact⟨p',by rw[NK Ad];exact h3,h4,λi v x hv hx=>(h5 i v x hv hx).mono⟩
  by_cases hB: ∃p t f,W.heap[n]? =AA (.cells p t f)
  ·obtain⟨p,t,f,hp⟩:=hB;obtain⟨us,l',k1,k2⟩:=VT (F:=F) (r:=Ou Bs) (base:=W.heap.size) (m:=SizeOf.sizeOf p) (λx _ ts=>oN hFp _ x (Ba _) ts) p.toList (λx hx=>TJ (xm (xI.1 hx))) ts;refine⟨ts++us,iW++[.cells l'.toArray t f],by simp[h1],⟨vs++us,by rw[h0,KC]⟩,λb hb hBb p2 t2 f2 hp2=>?_⟩;rcases Wj b n with hlt|hge;exact old us _ b hlt hBb p2 t2 f2 hp2;(obtain rfl:b=n:=by omega);rw[hp] at hp2;(cases hp2);refine⟨l'.toArray,?_,by simpa using k1,λi v x hv hx=>k2 i v x (by simpa using hv) (by simpa using hx)⟩;rw[Gt Ad,h1];simp
  refine⟨ts,iW++[X8],by simp[h1],⟨vs,h0⟩,λb hb hBb p2 t2 f2 hp2=>?_⟩;rcases Wj b n with hlt|hge
  ·have:=old [] X8 b hlt hBb p2 t2 f2 hp2;simpa using this
  (obtain rfl:b=n:=by omega);exact Ai ⟨_,_,_,hp2⟩ hB
include hFp in
theorem zK{N:Nat}(hN:N<=W.heap.size)(hlow: ∀b,b<N->Bs b)(hBs: ∀b,Bs b->∃p t f,W.heap[b]? =AA (.cells p t f))(args:Array AP): ∃(ts:List AP) (H:Array Obj) (args':Array AP),DD F N (rtk (Ou Bs) W.heap.size ts) {W with heap:=H} W/\H.size=W.heap.size+ts.length/\
  (∀a,W.heap.size<=a->a<H.size->H[a]? =AA X8)/\(∀b,Bs b->∀p t f,W.heap[b]? =AA (.cells p t f)->∃p',H[b]? =AA (.cells p' t f)/\UM F (Ou Bs) W.heap.size ts p' p)/\UM F (Ou Bs) W.heap.size ts args' args:=by
 obtain⟨XH,l',k1,k2⟩:=VT (F:=F) (r:=Ou Bs) (base:=W.heap.size) (m:=SizeOf.sizeOf args) (λx _ ts=>oN hFp _ x (Ba _) ts) args.toList (λx hx=>TJ (xm (xI.1 hx))) [];obtain⟨ts,iW,h1,⟨us,h0⟩,h2⟩:=ABn (F:=F) hFp Bs W ([]++XH) W.heap.size (Ba _);obtain⟨H,hH⟩: ∃H:Array Obj,H=(iW++List.replicate ts.length X8).toArray:=⟨_,rfl⟩
 have lt: ∀b,Bs b->b<W.heap.size:=λb hb=>by
  obtain⟨p,t,f,h⟩:=hBs b hb;exact (Df.1 h).1
 have hrow: ∀b,Bs b->∀p t f,W.heap[b]? =AA (.cells p t f)->∃p',H[b]? =AA (.cells p' t f)/\UM F (Ou Bs) W.heap.size ts p' p:=λb hb p t f hp=>by
  obtain⟨p',h3,h4⟩:=h2 b (lt b hb) hb p t f hp;refine⟨p',?_,h4⟩;rw[hH,QW,NK (by have:=lt b hb;omega)];exact h3
 have AJC: ∀a,W.heap.size<=a->a<W.heap.size+ts.length->H[a]? =AA X8:=λa h3 h4=>by
  rw[hH,QW,Gt Ad,AFC];simp;omega
 have hsz:H.size=W.heap.size+ts.length:=by rw[hH];simp[h1]
 refine⟨ts,H,l'.toArray,⟨⟨λa b b' h k=>by rw[<- h.1,<- k.1],λa a' b h k=>by rw[h.1,k.1],λa x y h k=>by
   have e1:ts[a - W.heap.size]? =AA x:=h.2;have e2:ts[a - W.heap.size]? =AA y:=k.2;rw[e1] at e2
   exact EF e2,λa b x h k=>by
   have h3:=lt a h.2;have h4:W.heap.size<=a:=k.1
   omega,λa b h k=>h.1,λa ha=>⟨rfl,hlow a ha⟩⟩,λa b hab=>?_,λa x hx=>?_,(by simp only;omega),hN,rfl,λs n a b hq=>hq.elim⟩,hsz,λa h3 h4=>AJC a h3 Ad,hrow,by simpa using k1,λi v x hv hx=>by
   rw[h0];exact (k2 i v x (by simpa using hv) (by simpa using hx)).mono⟩
 ·obtain⟨rfl,hb⟩:=hab;obtain⟨p,t,f,hp⟩:=hBs a hb;obtain⟨p',h3,h4,h5⟩:=hrow a hb p t f hp;exact⟨_,_,h3,hp,.cells ⟨h4,λi v x hv hx=>(h5 i v x hv hx).1⟩⟩
 have h3:W.heap.size<=a:=hx.1;have h4:=(DC.1 (show ts[a - W.heap.size]? =AA x from hx.2)).1;exact AJC a h3 Ad
end
section
variable {p:Array AP}{F:Fs}{N:Nat}{ρ0 ρ1:Rn}
theorem vH{ρ:Rn}(ok:ρ.Ok N){a a' b':Ag}(h:RelA ρ a a')(k:RelA ρ a b'):b'=a':=by
 obtain⟨b,o,s⟩:=a;obtain⟨b1,o1,s1⟩:=a';obtain⟨b2,o2,s2⟩:=b';obtain⟨h1,h2,h3⟩:=h;obtain⟨k1,k2,k3⟩:=k;simp only at h1 h2 h3 k1 k2 k3;rw[ok.fn _ _ _ k1 h1,k2,k3,h2,h3]
theorem XV{p' q':Array AP}(h:p.size=p'.size)(k:p.size=q'.size)(hd: ∀(i:Nat) (v x y:AP),p[i]? =AA v->p'[i]? =AA x->q'[i]? =AA y->y=x):q'=p':=by
 apply Z9;omega;intro i h1 h2;(have h3:i<p.size:=by omega);exact hd i p[i] p'[i] q'[i] (FD h3) (FD h2) (FD h1)
theorem Az.det(hl:ρ0.le ρ1)(ok:ρ1.Ok N)(hq: ∀s n a b,¬ρ0.q s n a b)(hF:F.v F.z->∀s n a b,¬ρ1.q s n a b){v x:AP}(k0:Az F ρ0 v x): ∀{y:AP},Az F ρ1 v y->y=x:=by
 induction k0 with
 |flat hf=>exact λk1=>BP k1 hf|ptr ha=>
  intro y k1;generalize e:Value.pointer _=u at k1;cases k1<;>cases e
  ·rename_i hf;exact Ai (show false=true from hf) AV
  rename_i hb;rw[vH ok (ha.mono hl) hb]
 |slice ha=>
  intro y k1;generalize e:Value.slice _ _ _=u at k1;cases k1<;>cases e
  ·rename_i hf;exact Ai (show false=true from hf) AV
  ·rename_i hb;rw[vH ok (ha.mono hl) hb]
  rename_i hb;exact Ai hb (ok.apart _ _ _ (ha.mono hl).1)
 |emp hcx=>
  intro y k1;generalize e:Value.slice _ _ _=u at k1;cases k1<;>cases e
  ·rename_i hf;exact Ai (show false=true from hf) AV
  ·rename_i hb;exact Ai (hl.c _ _ hcx) (ok.apart _ _ _ hb.1)
  rename_i hb;exact ok.cfn _ _ _ hb (hl.c _ _ hcx)
 |map ha=>
  intro y k1;generalize e:Value.map _=u at k1;cases k1<;>cases e
  ·rename_i hf;exact Ai (show false=true from hf) AV
  rename_i hb;rw[ok.fn _ _ _ hb (hl.r _ _ ha)]
 |chan ha=>
  intro y k1;generalize e:Value.chan _=u at k1;cases k1<;>cases e
  ·rename_i hf;exact Ai (show false=true from hf) AV
  ·rename_i hb;rw[ok.fn _ _ _ hb (hl.r _ _ ha)]
  rename_i _ hb _;exact Ai hb (ok.apart _ _ _ (hl.r _ _ ha))
 |tok hcx _=>
  intro y k1;generalize e:Value.chan _=u at k1;cases k1<;>cases e
  ·rename_i hf;exact Ai (show false=true from hf) AV
  ·rename_i hb;exact Ai (hl.c _ _ hcx) (ok.apart _ _ _ hb)
  rename_i _ hb _;exact ok.cfn _ _ _ hb (hl.c _ _ hcx)
 |func hf hv h1 _ h2 _ i1 i2=>
  intro y k1;generalize e:Value.func _ _ _=u at k1;cases k1<;>cases e
  ·rename_i hx;exact Ai (show false=true from hx) AV
  ·rename_i _ _ k1 k2 k3 k4;rw[XV h1 k1 λi v x y a b c=>i1 i v x a b (k2 i v y a c),XV h2 k3 λi v x y a b c=>i2 i v x a b (k4 i v y a c)]
  exact Ai (by assumption) (hF hv _ _ _ _)
 |yield ha=>
  intro y k1;generalize e:Value.func _ _ _=u at k1;cases k1<;>cases e
  ·rename_i hf;exact Ai (show false=true from hf) AV
  rename_i hb;rw[ok.fn _ _ _ hb (hl.r _ _ ha)]
 |seq h=>exact Ai h (hq _ _ _ _)|mf hcx _=>
  intro y k1;generalize e:lg _=u at k1;cases k1<;>cases e
  ·rename_i hf;exact Ai (show false=true from hf) AV
  exact ok.cfn _ _ _ (by assumption) (hl.c _ _ hcx)
 |iface _ ih=>
  intro y k1;generalize e:Value.iface _ _=u at k1;cases k1<;>cases e
  ·rename_i hf;exact Ai (show false=true from hf) AV
  rename_i hb;rw[ih hb]
 |agg h1 _ ih=>
  intro y k1;generalize e:Value.agg _=u at k1;cases k1<;>cases e
  ·rename_i hf;exact Ai (show false=true from hf) AV
  rename_i h2 hb;rw[XV h1 h2 λi v x y a b c=>ih i v x a b (hb i v y a c)]
 |tuple h1 _ ih=>
  intro y k1;generalize e:Value.tuple _=u at k1;cases k1<;>cases e
  ·rename_i hf;exact Ai (show false=true from hf) AV
  rename_i h2 hb;rw[XV h1 h2 λi v x y a b c=>ih i v x a b (hb i v y a c)]
theorem AJD{v0 w0 v1 w1:AL}(h0:DD F N ρ0 v0 w0)(h1:DD F N ρ1 v1 w1)(hl:ρ0.le ρ1)(hq: ∀s n a b,¬ρ0.q s n a b)(hF:F.v F.z->∀s n a b,¬ρ1.q s n a b){a b:Nat}(hab:ρ0.r a b)(hv:v1.heap[a]? =v0.heap[a]?){t:TypeId}{f:Nat×Nat}(hw:w0.heap[b]? =AA (.cells p t f)):
  w1.heap[b]? =AA (.cells p t f):=by
 obtain⟨o,o',k1,k2,k3⟩:=h0.obj a b hab;obtain⟨q,q',j1,j2,j3⟩:=h1.obj a b (hl.r _ _ hab);rw[hv,k1] at j1;obtain rfl:=EF j1;rw[hw] at k2;obtain rfl:=EF k2;rw[j2];generalize e:Obj.cells p t f=u at k3;(cases k3<;>cases e);rename_i p0 hp
 cases j3 with|cells hp2=>rw[XV hp.1 hp2.1 λi v x y a b c=>(hp.2 i v x a b).det hl h1.ok hq hF (hp2.2 i v y a c)]
end
def KpL (X:FuncId) (r:Tmp) (H:Array Obj) (f:AX) (ts:List AX) (v:AL):Prop:=
 ts=[]/\f.mode=.returning/\f.fn=X/\f.defers=[]/\f.tmps[r]? =AA (.bool true)/\∀a,a<H.size->v.heap[a]? =H[a]?
theorem AG0{P:BL}{f:AX}{fn:Func}{r:Tmp}{x:AP}(hm:f.mode=.returning)(hd:f.defers=[])(hf:P.funcs[f.fn]? =AA fn)(hres:fn.results= #[.tmp r])(hr:f.tmps[r]? =AA x)(hk:f.kind=.normal\/f.kind=.deferred)(hi:P.inits.idxOf? f.fn=AB)(w:AL):
  stepG P true (G f []) w=.ended (.done x) w #[]:=by
 have h1:(results fn f.tmps).runT P w #[]=(.ok x w,#[]):=by
  rw[MR hres w,Qo,hr];rfl
 rw[Ik] at h1;have h2:(results fn f.tmps).run P w=.ok x w:=congrArg Aa h1;have h3:(results fn f.tmps).events P w #[]= #[]:=congrArg Prod.snd h1;rcases hk with hk|hk<;>simp[stepG,unwind,G,hm,hd,hf,h2,h3,doReturn,hk,hi,GStep.after,seen_none]
theorem hzV:KV.F K1.F.z/\KV.F.v K1.F.z/\∀n,KV.F.a K1.F.z n:=⟨Ar,Ar,λn=>rfl⟩
section
variable {X:FuncId} (hX:S1.contains X=true) (hXn:K1.X X=false) {fn:Func} (hfn:Tryz.prog.funcs[X]? =AA fn) {r:Tmp} (hres:fn.results= #[.tmp r]) (hin:Tryz.prog.inits.idxOf? X=AB)
 {args:Array AP} {W:AL} {Bs:Nat->Prop} (hN:2<=W.heap.size) (hlow: ∀b,b<2->Bs b) (hBs: ∀b,Bs b->∃p t f,W.heap[b]? =AA (.cells p t f))
include hX hXn hfn hres hin hN hlow hBs
theorem AG1{Post:AP->AL->Prop}(oL: ∀w':AL,W.heap.size<=w'.heap.size->(∀b,b<W.heap.size->w'.heap[b]? =W.heap[b]?)->w'.tape=W.tape->w'.os=W.os->w'.output=W.output->Post (.bool true) w')
  (APl: ∀(H:Array Obj) (ts:List AP) (args':Array AP),W.heap.size<=H.size->(∀b,Bs b->∀p t f,W.heap[b]? =AA (.cells p t f)->∃p',H[b]? =AA (.cells p' t f)/\UM K1.F (Ou Bs) W.heap.size ts p' p)->UM K1.F (Ou Bs) W.heap.size ts args' args->
   ∀t:Nat->Question->Nat,(∀j,j<W.drawn->t j=W.tape j)->∃n f' v',runN Af n (lone (BV Af X args' .normal) [door Af] (({W with heap:=H}:AL).DL t))=.next (lone f' [door Af] v')/\KpL X r H f' [] v'):
  ∃M last o w' t',D8 Tryz.prog (M+1) (solo (G (BV Tryz.prog X args .normal) []) W) #[]=(.ended o w',t')/\runN Tryz.prog M (solo (G (BV Tryz.prog X args .normal) []) W)=.next last/\step Tryz.prog last=.ended o w'/\Conc.Good Tryz.prog Post last o w' t':=by
 obtain⟨ts,H,args',hW,hHs,_,hrow,hargs⟩:=zK (F:=K1.F) trivial Bs W hN hlow hBs args;obtain⟨ρ0,hρ⟩: ∃ρ0,ρ0=rtk (Ou Bs) W.heap.size ts:=⟨_,rfl⟩;have ha:Au K1.F ρ0 args' args:=⟨hargs.1,λi v v' h1 h2=>by rw[hρ];exact (hargs.2 i v v' h1 h2).1⟩;rw[<- hρ] at hW;(have hq0: ∀s n a b,¬ρ0.q s n a b:=λs n a b h=>by rw[hρ] at h;exact h);(have hr0: ∀a b,ρ0.r a b↔a=b/\Bs a:=λa b=>by rw[hρ];exact lS);have Bv: ∀f ts v,KpL X r H f ts v->ts=[]/\f.mode=.returning:=λf ts v h=>⟨h.1,h.2.1⟩
 have AJE:Qp KV TV 2 (BV Af X args' .normal) [] {W with heap:=H}:=
  ⟨ρ0.left,ρ0.left_id,OH (K:=KV) (T:=TV) fitsV (AFe.f X hX) rfl (ha.left AFe hzV) (.inl rfl),.nil,hW.left AFe hzV,λg hg=>(hW.left AFe hzV).ok.hd g (kP hg)⟩
 have hev:Ev Af (KpL X r H) (BV Af X args' .normal) [] {W with heap:=H}:=by
  refine bar (K:=KV) (T:=TV) (N:=2) fitsV rfl ⟨λ_=>rfl,id⟩ (λf ts v t h=>h) AJE (λt ht=>?_);obtain⟨n,f',v',h1,h2⟩:=APl H ts args' Ad hrow hargs t ht;exact⟨n,f',[],v',h1,h2⟩
 have O8:NQ Af (KpL X r H) ⟨BV Af X args' .normal,[],{W with heap:=H}⟩:=Qp.APR (K:=KV) (T:=TV) fitsV rfl ⟨λ_=>rfl,id⟩ Bv AJE hev;obtain⟨N,gs1,w1,sl1,t1,q1,Z1,ρ1,v1,f1,f1',r1,S1,⟨_,km,kf,kd,kr,kh⟩,hf1,dv⟩:=drive1 Bv (s:=⟨_,_,_⟩) hev O8 ρ0 (BV Tryz.prog X args .normal) [] [] W #[G (BV Tryz.prog X args .normal) []] AB #[] (λ_=>0) (λ_=>False) (OH (K:=K1) (T:=T1) AIe hX hXn ha (.inl rfl)) .nil hW ⟨λ_ _ _ h=>h,λ_ h=>h.elim⟩ (λs n a b h=>Ai h (hq0 _ _ _ _)) (AEI _ _ _)
 have hm':f1'.mode=.returning:=by
  have:=hf1.mode;rw[km] at this;generalize f1'.mode=m at this;(cases this);rfl
 have hd':f1'.defers=[]:=by
  have h1:=hf1.defers;rw[kd] at h1;generalize f1'.defers=l at h1;(cases h1);rfl
 have hfn':f1'.fn=X:=hf1.fn.trans kf
 have hr':f1'.tmps[r]? =AA (.bool true):=by
  obtain⟨y,hy,hyr⟩:=hf1.tmps.get kr;rw[hy,BP hyr rfl]
 have hk':f1'.kind=.normal\/f1'.kind=.deferred:=by rw[hf1.kind.1];exact hf1.kind.2
 have hold: ∀b,b<W.heap.size->w1.heap[b]? =W.heap[b]? :=λb hb=>by
  by_cases hB:Bs b
  ·obtain⟨p,t,f,hp⟩:=hBs b hB;rw[hp];exact AJD hW dv.rel dv.le hq0 (λh=>Ai h Ar) ((hr0 b b).2 ⟨rfl,hB⟩) (kh b Ad) hp
  exact dv.keep b hb λa h=>hB (by have:=(hr0 a b).1 h;rw[<- this.1];exact this.2)
 exact AGz (sl0:=AB) r1 S1 (λdd=>AG0 hm' hd' (by rw[hfn'];exact hfn) hres hr' hk' (by rw[hfn'];exact hin) _) (λdd=>oL (w1.at dd) dv.sz hold dv.same.1 dv.same.2.1 dv.same.2.2)
end
section
variable {X:FuncId} (hX:S1.contains X=true) (hXn:K1.X X=false) {fn:Func} (hfn:Tryz.prog.funcs[X]? =AA fn) (AMa:Af.funcs[X]? =AA fn) {r:Tmp} (hres:fn.results= #[.tmp r]) (hin:Tryz.prog.inits.idxOf? X=AB)
 {args:Array AP} {W:AL} {Bs:Nat->Prop} (hN:2<=W.heap.size) (hlow: ∀b,b<2->Bs b) (hBs: ∀b,Bs b->∃p t f,W.heap[b]? =AA (.cells p t f))
include hX hXn hfn AMa hres hin hN hlow hBs
theorem AEJ{Post:AP->AL->Prop}(oL: ∀w':AL,W.heap.size<=w'.heap.size->(∀b,b<W.heap.size->w'.heap[b]? =W.heap[b]?)->w'.tape=W.tape->w'.os=W.os->w'.output=W.output->Post (.bool true) w')
  (AL6: ∀(H:Array Obj) (ts:List AP) (args':Array AP),W.heap.size<=H.size->(∀b,Bs b->∀p t f,W.heap[b]? =AA (.cells p t f)->∃p',H[b]? =AA (.cells p' t f)/\UM K1.F (Ou Bs) W.heap.size ts p' p)->UM K1.F (Ou Bs) W.heap.size ts args' args->
   ∀t:Nat->Question->Nat,Calls Af X args' (({W with heap:=H}:AL).DL t) fun| .returned v,w'=>v=.bool true/\∀a,a<H.size->w'.heap[a]? =H[a]?|_,_=>False):
  ∃M last o w' t',D8 Tryz.prog (M+1) (solo (G (BV Tryz.prog X args .normal) []) W) #[]=(.ended o w',t')/\runN Tryz.prog M (solo (G (BV Tryz.prog X args .normal) []) W)=.next last/\step Tryz.prog last=.ended o w'/\Conc.Good Tryz.prog Post last o w' t':=by
 refine AG1 hX hXn hfn hres hin hN hlow hBs oL λH ts args' hz hrow hargs t _=>?_;obtain⟨e,w',f,hR,hcomes,hff,hl⟩:=AL6 H ts args' hz hrow hargs t [door Af]
 cases e with
 |panicked chain=>exact hR.elim|outgrown=>exact hR.elim|returned v=>
  obtain⟨rfl,hh⟩:=hR;obtain⟨n,hn⟩:=hcomes;obtain⟨hm,hd,hk,fn',hf',hr⟩:=hl;rw[hff,AMa] at hf';obtain rfl:=EF hf';have h1:=MR (P:=Af) (T:=f.tmps) hres w';rw[Ik] at h1;have h2:(results fn f.tmps).run Af w'=.ok (f.tmps.getD r AU) w':=congrArg Aa h1;rw[hr] at h2;simp only[Result.ok.injEq,and_true] at h2;refine⟨n,f,w',hn,rfl,hm,hff,hd,?_,hh⟩;rw[Qo] at h2
  cases h3:f.tmps[r]? with|none=>rw[h3] at h2;cases h2|some y=>rw[h3] at h2;rw[h2];rfl
end
end Go.Proofs.YtkkgcebhfghdnaaGreatDoor
