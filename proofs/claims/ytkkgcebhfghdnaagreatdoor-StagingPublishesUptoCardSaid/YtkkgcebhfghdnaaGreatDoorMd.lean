/- Part 4 of what that rests on; no condition. -/
import Derived.Test.YtkkgcebhfghdnaaGreatDoorMc
import Derived.Conc.CrowdTrace
import Derived.Laws.BytesArg
import Derived.Lib.ByteType
import Derived.Listen
set_option maxRecDepth 100000
set_option maxHeartbeats 8000000
open List renaming getElem?_cons_zero→tX, getElem?_cons_succ→AFw, length_cons→EY, cons_append→Dn, length_nil→Hg, nil_append→EE
open Array renaming replicate_zero→MI, length_toList→WJ, replicate→IM
open Go.Conv renaming bytesToString→Px
open Go.Instr renaming buildSlice→aQ, makeFunc→aS, fill→MO, box→TR
open Option renaming getD_some→Dx, none→AB, some→AA
open ByteArray renaming empty→Ku
open Go.Result renaming andThen→QJ
open Go renaming run_underlying→IK, loadCellsFrom→Um, Goroutine→Ad, strOfNums→Fa, Program→BM, FuncId→Bl, TypeId→Am, execOp→BI, Value→AQ, undef→AU, World→AL, Frame→AX, stepG→Af, Trace→CJ, runNT→D7, Addr→Ag, Oper→BX
open Go.MemAct renaming touch?→DL
open Nat renaming reduceAdd→Jp, reduceSub→MH
open Go.Region renaming wanted→DX
open Go.Builtin renaming len_→Un
open Go.Sem renaming run_bind→Eu, runT_eq→Ik
open Go.World renaming cell?→Pj
open Go.Frame renaming enter→Bc
open Go.Value renaming int→Jq
open Go.Obj renaming cells→QI
open Go.Addr renaming add→Q9
open Prod renaming fst→Ac
open Go.Conc renaming touchAt→Il
namespace Go.Proofs.YtkkgcebhfghdnaaGreatDoor
open Go Go.Conc Go.RowKit Go.Conc.Lib Go.ConcX Go.ConcX.Gen
def AQm (wg:Nat) (act:MemAct):Prop:=(∀B,wg<B->act.low B)/\(∀a,act≠ .mark (.release a))/\∀x b,act.touch? =AA x->x.loc.blk=AA b->b=wg
abbrev AMz (wg:Nat):Shy wg wg where
 ok:=AQm wg
 atomicWg:=λa wr h=>⟨λB hB=>by show a.block<B;omega,λ_ h=>(by cases h),λx b hx hb=>by simp only[DL,DR] at hx;subst hx;simp only[Loc.blk,DR] at hb;omega⟩
 readWg:=λa h=>⟨λB hB=>by show a.block<B;omega,λ_ h=>(by cases h),λx b hx hb=>by simp only[DL,DR] at hx;subst hx;simp only[Loc.blk,DR] at hb;omega⟩
 writeWg:=λa h=>⟨λB hB=>by show a.block<B;omega,λ_ h=>(by cases h),λx b hx hb=>by simp only[DL,DR] at hx;subst hx;simp only[Loc.blk,DR] at hb;omega⟩
 theirs:=λa wr h=>⟨λB hB=>by show a.block<B;omega,λ_ h=>(by cases h),λx b hx hb=>by simp only[DL,DR] at hx;subst hx;simp only[Loc.blk,DR] at hb;omega⟩
 disable:=⟨λ_ _=>Ar,λ_ h=>(by cases h),λx b hx=>by simp[DL] at hx⟩
 enable:=⟨λ_ _=>Ar,λ_ h=>(by cases h),λx b hx=>by simp[DL] at hx⟩
 relMerge:=⟨λ_ h=>h,λ_ h=>(by cases h),λx b hx=>by simp[DL] at hx⟩
 acquire:=⟨λ_ h=>h,λ_ h=>(by cases h),λx b hx=>by simp[DL] at hx⟩
 go1:=⟨λ_ _=>Ar,λ_ h=>(by cases h),λx b hx=>by simp[DL] at hx⟩
 start:=⟨λ_ _=>Ar,λ_ h=>(by cases h),λx b hx=>by simp[DL] at hx⟩
 stop:=λ_ _=>True
theorem wO{Z:Nat->Prop}{l:Loc}(h:PG Z l): ∃b,l.blk=AA b/\Z b:=by
 cases l<;>first|exact⟨_,rfl,h⟩|exact h.elim
section
variable {P:BM} {L:WgLink} (H:WgLib P L) {Z:Nat->Prop} {B Lr:Nat} {gs:Array Ad} {w:AL} {sl:Option (Nat×Nat)} {t:CJ} {q:Nat->Nat}
 {b₀:AX} {a₀:Act} {ops₀:Array BX} {i₀:Nat} {rest₀:List Nat} {k₀:List Item} {cs:List AX} {wg:Nat}
include H
theorem AJj{a:Ad}(hS:Oi P Z B Lr gs t a q 0)(hwg:w.heap[wg]? =AA (.cells #[.int .u64 0,.int .u32 0] L.tWg))(hB:wg<B)(hZ: ¬Z wg)
  (ha:a=G ((base L.add).at ⟨#[.pointer (AA ⟨wg,0,AB⟩),.int .i64 1,AU,AU,AU,AU,AU,AU,AU,AU,AU,AU,AU,AU,AU,AU,AU,AU,AU,AU,AU,AU,AU,AU,AU,AU,AU,AU,AU,AU,AU,AU,AU,AU,AU,AU,AU,AU,AU,AU,AU,AU,AU,AU,AU,AU,AU,AU,AU,AU,AU,AU,AU,AU,AU,AU,AU,AU,AU,AU,AU,AU,AU,AU,AU,AU,AU,AU,AU,AU,AU,AU,AU,AU,AU,AU,AU,AU,AU,AU,AU,AU,AU,AU,AU,AU,AU,AU,AU,AU,AU,AU,AU,AU,AU,AU,AU,AU,AU,AU,AU,AU,AU,AU,AU,AU,AU,AU,AU,AU,AU,AU,AU,AU,AU,AU,AU],[]⟩ [.code (body_add L)]) (b₀.at a₀ (.inRegion ops₀ (i₀::rest₀)::k₀)::cs)):
  ∃N gs' sl' t' q' d,D7 P N (crowd gs w sl) t=(.next (crowd gs' ((w.setCell (GK wg) (.int .u64 KQ)).at d) sl'),t')/\gs'.size=gs.size/\Oi P Z B Lr gs' t' (G (b₀.at (a₀.put ((ops₀[i₀]?).bind (·.dst)) (.tuple #[])) (.inRegion ops₀ rest₀::k₀)) cs) q' 0:=by
 letI:=AMz wg
 have hD: ∀w w' es,DE (EvS wg wg) w w' es->∀e∈es,EvG (PG Z) B e/\e.loc≠ .mark .disable/\e.loc≠ .mark .enable:=by
  intro w w' es h e he;obtain⟨_,_,_,h4,h5,h6,h7,h8⟩:=h e he;refine⟨⟨λx hx hz=>?_,h6 B hB,h7⟩,λhl=>h4 ?_,λhl=>h5 ?_⟩
  ·obtain⟨b,h9,h10⟩:=wO hz;exact Ak (h8 x b hx h9▸h10) hZ
  obtain⟨l,wr,sy⟩:=e;simp only at hl;subst hl;rfl;obtain⟨l,wr,sy⟩:=e;simp only at hl;subst hl;rfl
 have evm: ∀m:Mark,(m=.disable\/m=.enable)->∀e∈(#[Go.ConcX.mk m]:Array Event),EvG (PG Z) B e:=by
  intro m hm e he;rw[Array.mem_singleton] at he;subst he;rcases hm with rfl|rfl<;>exact⟨λx hx=>by simp[Go.ConcX.mk,MemAct.ofEvent,DL] at hx,Ar,λa h=>by cases h⟩
 have hG:=addPos (Wg:=wg) (C:=wg) (b₀:=b₀) (a₀:=a₀) (ops₀:=ops₀) (i₀:=i₀) (rest₀:=rest₀) (k₀:=k₀) (cs:=cs) (mT:=0)
  (StopG:=λg w'=>g=G (b₀.at (a₀.put ((ops₀[i₀]?).bind (·.dst)) (.tuple #[])) (.inRegion ops₀ rest₀::k₀)) cs/\∃d,w'=(w.setCell (GK wg) (.int .u64 KQ)).at d) H w hwg
  (Goes.stop λw₁ h₁=>by obtain⟨d,rfl⟩:=h₁;exact⟨rfl,d,rfl⟩)
 rw[<- ha] at hG;obtain⟨N1,gs1,w1,sl1,t1,q1,a1,r1,z1,S1,st1⟩:=AAA hD (sl:=sl) hS hG
 obtain⟨N2,gs2,w2,sl2,t2,q2,a2,es2,B2,r2,z2,S2,rfl,rfl,n2,G2⟩:=zy (w:=w1) (sl:=sl1) (R:=λa' w' es B'=>B'=B/\es= #[Go.ConcX.mk .disable]/\∃n,Goes P true AtRel (DE (EvS wg wg)) _ n a' w') S1 (st1 0).1 (λdd=>by
  obtain⟨_,a',h1,h2⟩:=st1 dd
  exact⟨a',_,_,B,h1,Bd _,evm _ (.inl rfl),rfl,rfl,h2⟩)
 obtain⟨N3,gs3,w3,sl3,t3,q3,a3,r3,z3,S3,st3⟩:=AAA hD (sl:=sl2) S2 G2
 obtain⟨N4,gs4,w4,sl4,t4,q4,a4,es4,B4,r4,z4,S4,rfl,rfl,n4,G4⟩:=zy (w:=w3) (sl:=sl3) (R:=λa' w' es B'=>B'=B2/\es= #[Go.ConcX.mk .enable]/\∃n,Goes P true AtRel (DE (EvS wg wg)) _ n a' w') S3 (st3 0).1 (λdd=>by
  obtain⟨_,a',h1,h2⟩:=st3 dd
  exact⟨a',_,_,B2,h1,Bd _,evm _ (.inr rfl),rfl,rfl,h2⟩)
 obtain⟨N5,gs5,w5,sl5,t5,q5,a5,r5,z5,S5,st5⟩:=AAA hD (sl:=sl4) S4 G4;obtain⟨h5,d5,e5⟩:=st5 w5.drawn;have e5:w5=(w.setCell (GK wg) (.int .u64 KQ)).at d5:=e5;subst e5 h5;refine⟨_,gs5,sl5,t5,q5,d5,Ed (Ed (Ed (Ed r1 r2) r3) r4) r5,Aa,?_⟩;exact S5
end
theorem AEt(wg:Nat):Bc Tryz.prog 74 #[.pointer (AA ⟨wg,0,AB⟩),.int .i64 1] .normal=(base link.add).at ⟨#[.pointer (AA ⟨wg,0,AB⟩),.int .i64 1,AU,AU,AU,AU,AU,AU,AU,AU,AU,AU,AU,AU,AU,AU,AU,AU,AU,AU,AU,AU,AU,AU,AU,AU,AU,AU,AU,AU,AU,AU,AU,AU,AU,AU,AU,AU,AU,AU,AU,AU,AU,AU,AU,AU,AU,AU,AU,AU,AU,AU,AU,AU,AU,AU,AU,AU,AU,AU,AU,AU,AU,AU,AU,AU,AU,AU,AU,AU,AU,AU,AU,AU,AU,AU,AU,AU,AU,AU,AU,AU,AU,AU,AU,AU,AU,AU,AU,AU,AU,AU,AU,AU,AU,AU,AU,AU,AU,AU,AU,AU,AU,AU,AU,AU,AU,AU,AU,AU,AU,AU,AU,AU,AU,AU,AU],[]⟩ [.code (body_add link)]:=by kernel_rfl
noncomputable def ops4:Array BX:=match UF with| .seq (.region _ o _) _=>o|_=>#[]
noncomputable def WR:Code:=match UF with| .seq _ c=>c|_=>.skip
section
variable {SR:Nat->Prop} {J:Ad->Own SR->Prop} (hJ:uX Tryz.prog true J) {o:Own SR} {cs:List AX} {a0 a1 a3 a9 Xh PL a16 a17 Oe Og a20 a21 a22 a23 a24 a25 a26 a27 a28:AQ} {xb c1 c2 b1 b2 wg:Nat}
include hJ
theorem AJk(next:J (G (fr 46 #[a0,a1,.pointer (AA ⟨xb,0,AB⟩),a3,.int .i64 0,.int .i64 0,.pointer (AA ⟨b1,0,AB⟩),.pointer (AA ⟨b2,0,AB⟩),.pointer (AA ⟨wg,0,AB⟩),a9,.chan (AA c1),.chan (AA c2),.tuple #[],.func (.func 75) #[] #[.pointer (AA ⟨wg,0,AB⟩),.pointer (AA ⟨b1,0,AB⟩),.pointer (AA ⟨xb,0,AB⟩),.pointer (AA ⟨b2,0,AB⟩)],Xh,PL,a16,a17,Oe,Og,a20,a21,a22,a23,a24,a25,a26,a27,a28] [.inRegion ops4 [1],.code WR] [] AB) cs) o){LM:AQ}:
  J (G (fr 46 #[a0,a1,.pointer (AA ⟨xb,0,AB⟩),a3,.int .i64 0,.int .i64 0,.pointer (AA ⟨b1,0,AB⟩),.pointer (AA ⟨b2,0,AB⟩),.pointer (AA ⟨wg,0,AB⟩),a9,.chan (AA c1),.chan (AA c2),.tuple #[],LM,Xh,PL,a16,a17,Oe,Og,a20,a21,a22,a23,a24,a25,a26,a27,a28] [.inRegion ops3 [],.code UF] [] AB) cs) o:=by
 have Next:=AO next;clear next;have el:UF=UF:=rfl
 conv at el=>lhs;simp only[UF,AGR,EP,Tryz.f46,Dx]
 rw[<- el];clear el;(iterate 3 refine Qn ?_);refine EC hJ ?_ (he:=by intro w hw;unfold ev;simp[go_sem,aS]);exact Next.out
end
theorem ASw{cs:List AX}{T:Array AQ}{q:Array AQ}{w:AL}(hT:ev T (.tmp 13)=.func (.func 75) #[] q):Af Tryz.prog true (G (fr 46 T [.inRegion ops4 [1],.code WR] [] AB) cs) w=.spawn (G (fr 46 T [.inRegion ops4 [],.code WR] [] AB) cs) (born Tryz.prog {target:=.fn (.func 75) q,args:=#[]}) w #[]:=by
 obtain⟨og,hog,ASx,ASy,ASz⟩: ∃og,ops4[1]? =AA og/\og.op=.go {callee:=.value (.tmp 13),args:=#[],argTypes:=#[]}/\(∀T,DX og T=true)/\og.dst=AB:=⟨_,rfl,rfl,λ_=>rfl,rfl⟩
 have hx:BI (ev T) og=pure (.spawn {target:=.fn (.func 75) q,args:=#[]}):=by
  unfold BI;simp[ASx,resolve,Deferred.ofValue,hT]
 rw[RS (kd:=false) hog (ASy _) (.inl rfl),hx];(have hf:(fr 46 T [.inRegion ops4 [1],.code WR] [] AB).finish AU=fr 46 T [.inRegion ops4 [],.code WR] [] AB:=by rw[EH hog,ASz];rfl);rw[<- hf];rfl
section
variable {C:Cx} (hP:C.P=Tryz.prog) {R:RF C.SR} {s:ByteArray} {sz:Nat} (hCs: ∀k xv bk ob,C.Cs k xv bk ob->Piece C.SR s sz k xv bk ob) (hNN:s.size<=C.N*sz) (hsz:1<=sz) (hsz2:(sz:Int)<=9223372036854775807) (hs:s.size<=1073741824)
 {sb:Nat} (hsb:C.SR sb) (hrd: ∀w,R.R w->w.cell? ⟨sb,0,AB⟩=AA (.chan (AA C.bs))) (hlive: ∃w,Live C w) {Kp:AX->List AX->AL->Prop} (CE: ∀f ts v,Kp f ts v->ts=[]/\f.mode=.returning)
 {c0:AX} {cs:List AX} {cs0:List AX}
 {b1:Nat} (hb1:C.SR b1) (AJl: ∀w,R.R w->w.cell? ⟨b1,0,AB⟩=AA (.chan (AA C.bc)))
include hP hCs hNN hsz hsz2 hs hsb hrd hlive CE hb1 AJl
theorem AEu{to to':AQ}{v:AL}{ρ:Rn}(h:OG R ρ)(hev:Ev Ae Kp (Bc Ae 46 #[Fz 79 s sz,to] .normal) (c0::cs) v)(PH:Nk Ae Kp ⟨Bc Ae 46 #[Fz 79 s sz,to] .normal,c0::cs,v⟩)(hto:BC K2.F ρ to to')
  {a0 a2 a3 a9 a10 a11 a12 LM Xh PL a16 a17 Oe Og a20 a21 a22 a23 a24 a25 a26 a27 a28:AQ}:
  PM C (AJc C R sb Kp c0 cs cs0 ⟨Bc Ae 46 #[Fz 79 s sz,to] .normal,c0::cs,v⟩ ρ) .work 0 (G (fr 46 #[a0,to',a2,a3,.int .i64 0,.int .i64 0,.pointer (AA ⟨b1,0,AB⟩),.pointer (AA ⟨sb,0,AB⟩),.pointer (AA ⟨C.wg,0,AB⟩),a9,a10,a11,a12,LM,Xh,PL,a16,a17,Oe,Og,a20,a21,a22,a23,a24,a25,a26,a27,a28] [.inRegion ops4 [],.code WR] [] AB) cs0) (og K2.F 2 R ρ v h):=by
 have Oh: ∀f ts v,Kp f ts v->ts=[]:=λf ts v x=>(CE f ts v x).1;obtain⟨s',hs',hn⟩:=AMm (Kp:=Kp) Oh (Good:=λs'=>s'=⟨fr 46 (TY (Fz 79 s sz) to (.tuple #[.string s,.int .i64 sz]) s 0 0 sz 0 AU AU AU AU AU AU AU AU AU AU) [.code Aj.loop,.inLoop Aj.loop,.inBlock 0,.code .ret] [] AB,c0::cs,v⟩) (to:=to) (s:=s) (n:=sz) (cs:=cs) (c0:=c0) (v:=v) (.fin rfl);subst hs'
 have head:=pM (cs0:=cs0) (Nq:=.tuple #[.string s,.int .i64 sz]) (r9:=AU) (r10:=AU) (r11:=AU) (r12:=AU) (r13:=AU) (Jy:=AU) (IE:=AU) (r16:=AU) (IG:=AU) (Ob:=AU) (cnt:=0) (e:=0) (k:=0) (lo:=0) (to:=to) (to':=to') (v:=v) (a0:=a0) (a2:=a2) (a3:=a3) (a6:=.pointer (AA ⟨b1,0,AB⟩)) (a9:=a9) (a10:=a10) (a11:=a11) (a12:=a12) (LM:=LM) (PL:=PL) (a16:=a16) (a17:=a17) (Oe:=Oe) (Og:=Og) (a20:=a20) (a21:=a21) (a22:=a22) (a23:=a23) (a24:=a24) (a25:=a25) (a26:=a26) (a27:=a27) (a28:=a28)
  hP hCs hNN hsz hsz2 hs hsb hrd hlive CE ⟨Bc Ae 46 #[Fz 79 s sz,to] .normal,c0::cs,v⟩ ρ h (λst hst=>AHj hP hCs hNN hsz hsz2 hs hsb hrd hlive CE _ ρ (Ev.PE (s:=⟨_,_,_⟩) hev (hst.trans hn)) (λs'' h=>PH s'' (h.trans (hst.trans hn)))) hn (.refl _) AV hto
 have Head:=AO head;have fB: ∀w,(og K2.F 2 R ρ v h).I w->w.cell? ⟨b1,0,AB⟩=AA (.chan (AA C.bc)):=λw hw=>AJl w hw.2;clear head hn hev PH Oh hto AJl hrd CE hNN hCs hsz hsz2 hs;have el:WR=WR:=rfl
 conv at el=>lhs;simp only[WR,UF,AGR,EP,Tryz.f46,Dx]
 rw[<- el];clear el;(iterate 4 refine uY ?_);refine EC (O1 hP) ?_ (hr:=by intro w hw;have f0:=fB w hw;unfold ev;go_simp;exact rfl) (he:=by intro w hw;have f0:=fB w hw;unfold ev;simp[go_sem,f0];exact⟨.inr hb1,rfl⟩);(iterate 2 refine uY ?_);refine CX (O1 hP) (λw=>lY) rfl ?_;exact Head.out
end
section
variable {P:BM} {Z:Nat->Prop} {B L:Nat} {gs:Array Ad} {w:AL} {t:CJ} {a a' child:Ad} {q:Nat->Nat} {sl:Option (Nat×Nat)}
theorem AEv(h:Oi P Z B L gs t a q 0)(ha:a.status=.running)(hs: ∀dd,Af P true a (w.at dd)=.spawn a' child (w.at dd) #[]):
  ∃N gs1 sl1 t1 q1 d1 x y,D7 P N (crowd gs w sl) t=(.next (crowd ((gs1.setIfInBounds 0 a').push child) (w.at d1) sl1),t1++ #[x,y])/\gs1.size=gs.size/\Oi P Z B L gs1 t1 a q1 0/\(x.g=0/\x.act=.go gs.size)/\(y.g=gs.size/\y.act=.start):=by
 obtain⟨N,gs1,w1,sl1,t1,q1,dd,sx,h1,h2,h3,⟨d1,rfl⟩,h5⟩:=AJg (w:=w) (sl:=sl) h ha;have hr:=runT_crowd_spawn (P:=P) (w:=w.at dd) (w':=w.at dd) (sl:=sx) (i:=0) h3.at0 (show Af P (0==0) a (w.at dd)=_ from hs dd);rw[h2] at hr;refine⟨N+1,gs1,sx,t1,q1,dd,{g:=0,fn:=a.frame.fn,pos:=a.frame.place,act:=.go gs.size},{g:=gs.size,fn:=child.frame.fn,pos:=a.frame.place,act:=.start},?_,h2,h3,⟨rfl,rfl⟩,rfl,rfl⟩;rw[pO h1 (h5.trans hr)];congr 1
end
theorem AJm{C:Cx}{B L:Nat}{gs:Array Ad}{w:AL}{t:CJ}{a a' child:Ad}{q:Nat->Nat}{x y:MemOp}{oM:Own C.SR}(h:Oi C.P C.Z B L gs t a q 0)(hj:C.j=gs.size)(hx:x.g=0/\x.act=.go gs.size)(hy:y.g=gs.size/\y.act=.start)
  (hB:B<=w.heap.size) (hL:L<=C.wg) (om: ∀b,oM.O b->b<w.heap.size/\¬C.SR b/\¬C.SY b/\¬C.Z b) (sr: ∀b,C.SR b->b<w.heap.size/\¬C.SY b/\¬C.Z b) (sy: ∀b,C.SY b->b<w.heap.size/\¬C.Z b) (z: ∀b,C.Z b->b<w.heap.size) (im:oM.I w)
  (keep:(∀b,b<C.w0.heap.size->¬C.T0 b->w.heap[b]? =C.w0.heap[b]?)/\(∀b,(oM.O b\/C.SY b)->b<C.w0.heap.size->C.T0 b)) (sz:C.w0.heap.size<=w.heap.size) (same:w.tape=C.w0.tape/\w.os=C.w0.os/\w.output=C.w0.output):
  Cf C ((gs.setIfInBounds 0 a').push child) w (t++ #[x,y]) q a' child 0 0 oM (λ_=>False):=by
 have h0:0<gs.size:=(Dj.1 h.at0).1;have hmem: ∀op∈(#[x,y]:Array MemOp),op=x\/op=y:=λop hop=>by simpa using hop
 have hnt: ∀op∈(#[x,y]:Array MemOp),op.act.touch? =AB:=λop hop=>by
  rcases hmem op hop with rfl|rfl;rw[hx.2];rfl;rw[hy.2];rfl
 have hdf: ∀g,Deaf (t++ #[x,y]) g=Deaf t g:=λg=>Go.ConcX.Deaf_keep t g #[x,y] λop hop=>by
  rcases hmem op hop with rfl|rfl;rw[hx.2];exact⟨AV,AV⟩;rw[hy.2];exact⟨AV,AV⟩
 have hd0:Deaf t 0=0:=h.past.deaf;have hdj:Deaf t gs.size=0:=h.leavers.above _ (Bd _)
 have told: ∀i a,Il (t++ #[x,y]) i=AA a->Il t i=AA a:=λi a ha=>by
  obtain⟨op,hop,hoa⟩:=touch_of ha;rcases getElem?_append_cases hop with ⟨_,hop'⟩|⟨_,hou⟩
  ·rw[touchAt_of hop'];exact hoa
  rw[hnt op hou] at hoa;cases hoa
 have both: ∀i a,Il (t++ #[x,y]) i=AA a->(∃b,a.loc.blk=AA b/\¬C.Z b)->Knows (t++ #[x,y]) 0 i/\Knows (t++ #[x,y]) C.j i:=λi a ha ⟨b,hb,hz⟩=>by
  have hm:a.loc.isMemory=true:=by
   generalize a.loc=l at hb;cases l<;>first|rfl|cases hb
  rcases h.past.known i a (told i a ha) hm with hk|⟨hs,_⟩;exact⟨hk.app _,by rw[hj];exact Go.ConcN.fork_knows hx hy hd0 hdj hk⟩;obtain⟨b',hb',hz'⟩:=wO hs;rw[hb] at hb';(cases hb');exact Ak hz' hz
 refine⟨by rw[hj];exact h0,?_,?_,λi g hi hij hg=>?_,λi hi=>?_,by rw[hdf,hd0],by rw[hdf,hj,hdj],?_,?_,?_,λb hb=>?_,λb hb=>hb.elim,sr,sy,z,im,⟨keep.1,λb hb hl=>keep.2 b (hb.imp id λx=>x.elim (λy=>y.elim) id) hl⟩,sz,same,?_⟩
 ·rw[SA (by simpa using h0)];simp[h0]
 ·rw[hj];(have:(gs.setIfInBounds 0 a').size=gs.size:=by simp);rw[<- this,Array.getElem?_push_size]
 ·have hlt:i<gs.size:=by
   have:=(Dj.1 hg).1;simp at this;rw[hj] at hij;omega
  rw[SA (by simpa using hlt),<- FZ,Dz Aa] at hg;rw[hdf];exact h.leavers.old i g hi hg
 ·rw[hdf];refine h.leavers.above i ?_;simp at hi;omega
 ·refine⟨λsaid=>?_,λi x b _ _ hb=>hb.elim,λi a b ha hb hs _=>both i a ha ⟨b,hb,(sr b hs).2.2⟩,λi a b ha hb hs=>.inr (both i a ha ⟨b,hb,(sy b hs).2⟩),λi a b ha hb _ _ _ hz=>(both i a ha ⟨b,hb,hz⟩).1,λi a ha hm=>?_⟩
  ·rintro⟨i,k,hik,⟨a,b,ha,hb,hc⟩,n1,n2⟩;refine h.past.clean said ⟨i,k,hik,⟨a,b,told i a ha,told k b hb,hc⟩,λhh=>n1 (hb_app _ hh),λhh=>n2 (hb_app _ hh)⟩
  rcases h.past.known i a (told i a ha) hm with hk|hk;exact .inl (hk.app _);exact .inr (.inr hk)
 ·intro op hop;rcases JM.1 hop with hop|hop;exact MemAct.low_mono hB (h.past.seen op hop);rcases hmem op hop with rfl|rfl;rw[hx.2];trivial;rw[hy.2];trivial
 ·refine Nl (λi hi=>?_) λop hop=>?_
  ·obtain⟨op,ho,hoa⟩:=J8.1 hi;have:=h.past.nor op (mY ho) _ hoa;simp only[GK] at this;omega
  rcases hmem op hop with rfl|rfl;rw[hx.2];simp;rw[hy.2];simp
 ·obtain⟨h1,h2,h3⟩:=om b hb;exact⟨h1,λx=>x,h2,h3⟩
 exact PI (λi g hg h0 _ hc=>h.past.over i g hg h0 hc) λop hop=>.inr (.inr (hnt op hop))
section
variable {s:ByteArray}{n:Int}{B:List Nat}{a b sz:Nat}{t:Am}{w:AL}
def frz (SR:Nat->Prop) (W:AL) (h: ∀b,SR b->b<W.heap.size):RF SR where
 R:=λw=>∀b,SR b->w.heap[b]? =W.heap[b]?
 st:=λw w1 hw k _ b hb=>(k b hb).trans (hw b hb)
 lt:=λw hw b hb=>by
  have h1:=hw b hb;rw[FZ (h b hb)] at h1;exact (Dj.1 h1).1
theorem AAC(h:Ij w B s n a b): ∃B',Ij w B' s n a b/\∀c∈B',c∈B/\∃o,w.heap[c]? =AA o/\isCells o:=by
 obtain⟨D,cap,ta,h1,h2⟩:=h.box;obtain⟨tb,h3⟩:=h.size;rcases h2 with h2|⟨d,o,cells,td,e,hd,h4,h5,h6,h7⟩
 ·refine⟨[a,b],⟨λc hc=>?_,AV,AV,h.pos,h.hi,h.few,⟨D,cap,ta,h1,.inl h2⟩,tb,h3⟩,λc hc=>?_⟩
  ·simp only[BF,BH,or_false] at hc;rcases hc with rfl|rfl;exact h.lt _ h.tu;exact h.lt _ h.inb
  simp only[BF,BH,or_false] at hc;rcases hc with rfl|rfl;exact⟨h.tu,_,h1,_,_,_,rfl⟩;exact⟨h.inb,_,h3,_,_,_,rfl⟩
 refine⟨[a,b,d],⟨λc hc=>?_,AV,AV,h.pos,h.hi,h.few,⟨D,cap,ta,h1,.inr ⟨d,o,cells,td,e,AV,h4,h5,h6,h7⟩⟩,tb,h3⟩,λc hc=>?_⟩
 ·simp only[BF,BH,or_false] at hc;rcases hc with rfl|rfl|rfl;exact h.lt _ h.tu;exact h.lt _ h.inb;exact h.lt _ hd
 simp only[BF,BH,or_false] at hc;rcases hc with rfl|rfl|rfl;exact⟨h.tu,_,h1,_,_,_,rfl⟩;exact⟨h.inb,_,h3,_,_,_,rfl⟩;exact⟨hd,_,h4,_,_,_,rfl⟩
theorem Ij.pR{w':AL}(h:Ij w B s n a b)(hk: ∀c∈B,w'.heap[c]? =w.heap[c]?):Ij w' B s n a b:=by
 obtain⟨D,cap,ta,h1,h2⟩:=h.box;obtain⟨tb,h3⟩:=h.size;refine⟨λc hc=>?_,h.tu,h.inb,h.pos,h.hi,h.few,⟨D,cap,ta,by rw[hk a h.tu];exact h1,?_⟩,tb,by rw[hk b h.inb];exact h3⟩
 ·have h4:=hk c hc;rw[FZ (h.lt c hc)] at h4;exact (Dj.1 h4).1
 rcases h2 with h2|⟨d,o,cells,td,e,hd,h4,h5⟩;exact .inl h2;exact .inr ⟨d,o,cells,td,e,hd,by rw[hk d hd];exact h4,h5⟩
theorem I9{o:Nat}{c:Array AQ}{f:Nat×Nat}(h:w.heap[b]? =AA (.cells c t f)):w.cell? ⟨b,o,AB⟩=c[o]? :=by
 unfold Pj;rw[h];rfl
theorem AJn{C:Cx}{W:AL}{hlt: ∀b,C.SR b->b<W.heap.size}{p1 p2 xb:Nat}(hS:Ij W B s sz p1 p2)(hB: ∀c∈B,C.SR c)(hxb:C.SR xb)
  (hx:W.heap[xb]? =AA (.cells #[.func (.func 79) #[] #[.pointer (AA ⟨p1,0,AB⟩),.pointer (AA ⟨p2,0,AB⟩)]] t (0,0))):
  ∃D c,AEm C (frz C.SR W hlt) xb p1 p2 D s.data.toList.length c sz/\s.data.toList.length<=c/\(D=AB->s.data.toList=[])/\
   (0<s.data.toList.length->∀d,D=AA d->C.SR d.block/\∀w,(frz C.SR W hlt).R w->∀j v,(Jw s.data.toList)[j]? =AA v->w.cell? (d.add j)=AA v):=by
 obtain⟨D,cap,ta,h1,h2⟩:=hS.box;obtain⟨tb,h3⟩:=hS.size;(have hl:s.data.toList.length=s.size:=by rw[WJ];rfl);refine⟨D,cap,⟨hxb,hB _ hS.tu,hB _ hS.inb,λw hw=>?_,λw hw=>?_,λw hw=>?_⟩,?_,λhn=>?_,λhpos d hd=>?_⟩;rw[I9 ((hw xb hxb).trans hx)];rfl;rw[I9 ((hw p1 (hB _ hS.tu)).trans h1),hl];rfl;rw[I9 ((hw p2 (hB _ hS.inb)).trans h3)];rfl
 ·rw[hl];rcases h2 with h2|⟨_,_,_,_,_,_,_,_,h6,_⟩;omega;exact h6
 ·rcases h2 with h2|⟨_,_,_,_,e,_⟩;exact fD.1 (hl.trans h2);rw[hn] at e;cases e
 rcases h2 with h2|⟨d',o,cells,td,e,hd',h4,h5,h6,h7⟩;omega;rw[hd] at e;obtain rfl:=EF e;refine⟨hB _ hd',λw hw j v hv=>?_⟩
 have hj:j<s.size:=by
  have:=(CP.1 hv).1;simp only[Jw,DY,hl] at this;exact this
 have hvv:v=.int .u8 (s[j].toNat:Int):=by
  simp only[Jw,Ba] at hv
  have e2:s.data.toList[j]? =AA s[j]:=by
   rw[ZN];exact FZ _
  rw[e2] at hv;exact (EF hv).symm
 have hc:=I9 (o:=o+j) ((hw d' (hB _ hd')).trans h4);rw[h7 j hj,<- hvv] at hc;(have ea:(⟨d',o,AB⟩:Ag).add j=⟨d',o+j,AB⟩:=by simp[Q9]);rw[ea];exact hc
theorem AGS{l:Nat}(hsz:1<=sz):l<=((l+sz - 1)/sz)*sz/\∀k,l<=k*sz->(∀j,j<k->j*sz<l)->k=(l+sz - 1)/sz:=by
 have h1:=Nat.div_add_mod (l+sz - 1) sz;have h2:=ah (l+sz - 1) (show sz>0 by omega);have h3:sz*((l+sz - 1)/sz)=((l+sz - 1)/sz)*sz:=Nat.mul_comm _ _;refine⟨Aa,λk hk hj=>?_⟩
 generalize hN:(l+sz - 1)/sz=N at*
 rcases Nat.lt_trichotomy k N with h|h|h
 ·have:(k+1)*sz<=N*sz:=Td _ h;have e:(k+1)*sz=k*sz+sz:=Nat.succ_mul k sz;omega
 exact h;have:=hj N h;omega
end
def ACG (Z:Nat->Prop) (ρ:Rn) (wg:Nat) (W:AL) (b:Nat):Prop:=b≠wg/\(∀a,¬ρ.r a b)/\¬Z b/\∃o,W.heap[b]? =AA o/\isCells o
theorem ACG.lt{Z:Nat->Prop}{ρ:Rn}{wg:Nat}{W:AL}(b:Nat)(h:ACG Z ρ wg W b):b<W.heap.size:=by
 obtain⟨_,_,_,o,h,_⟩:=h;exact (Dj.1 h).1
def WT (Z:Nat->Prop) (ρ:Rn) (w:AL):Prop:=∀s n a b,ρ.q s n a b->∃B,Ij w B s n a b/\∀c∈B,(∀x,¬ρ.r x c)/\¬Z c
noncomputable def cx (Z:Nat->Prop) (ρ:Rn) (wg c1 c2 j:Nat) (W:AL) (s:ByteArray) (sz:Nat):Cx:=
 {P:=Tryz.prog,j:=j,bc:=c1,bs:=c2,wg:=wg,ty:=168,N:=(s.size+sz - 1)/sz,Cs:=Piece (ACG Z ρ wg W) s sz,SR:=ACG Z ρ wg W,Z:=Z,w0:=W,T0:=λb=>(∃a,ρ.r a b)\/b=wg\/b=c1\/b=c2,FW:=λ_=>True}
structure AM0 (Z:Nat->Prop) (ρ:Rn) (W:AL) (new:List Nat) (ρ1:Rn) (v1 w':AL) (wg:Nat):Prop where
 le:ρ.le ρ1
 rel:DF K2.F 2 ρ1 v1 w'
 apart: ∀a b,ρ1.r a b->¬(Z b\/b=wg)
 low: ∀a b,ρ1.r a b->b<W.heap.size->(∃a',ρ.r a' b)\/b∈new
 sz:W.heap.size<=w'.heap.size
 keep: ∀b,b<W.heap.size->(∀a,¬ρ.r a b)->b∉new->w'.heap[b]? =W.heap[b]?
 same:w'.tape=W.tape/\w'.os=W.os/\w'.output=W.output
 sl: ∀s n a b,ρ1.q s n a b->∃B,Ij w' B s n a b/\∀c∈B,(∀x,¬ρ1.r x c)/\¬(Z c\/c=wg)
section
variable {Z:Nat->Prop} {L:Nat} {gs:Array Ad} {t:CJ} {q:Nat->Nat} {sl:Option (Nat×Nat)} {W:AL} {v:AL} {ρ:Rn} {to to':AQ} {s:ByteArray} {sz p1 p2 wg b1 b2 c1 c2 xb:Nat} {Kp:AX->List AX->AL->Prop} {c0:AX} {cs cs0:List AX}
 {a0 a3 a9 Xh PL a16 a17 Oe Og a20 a21 a22 a23 a24 a25 a26 a27 a28:AQ}
theorem AJo(hS:Oi Tryz.prog Z W.heap.size L gs t (G (fr 46 #[a0,to',.pointer (AA ⟨xb,0,AB⟩),a3,.int .i64 0,.int .i64 0,.pointer (AA ⟨b1,0,AB⟩),.pointer (AA ⟨b2,0,AB⟩),.pointer (AA ⟨wg,0,AB⟩),a9,.chan (AA c1),.chan (AA c2),.tuple #[],.func (.func 75) #[] #[.pointer (AA ⟨wg,0,AB⟩),.pointer (AA ⟨b1,0,AB⟩),.pointer (AA ⟨xb,0,AB⟩),.pointer (AA ⟨b2,0,AB⟩)],Xh,PL,a16,a17,Oe,Og,a20,a21,a22,a23,a24,a25,a26,a27,a28] [.inRegion ops4 [1],.code WR] [] AB) cs0) q 0)
  (hL:L<=wg) (hW:DF K2.F 2 ρ v W) (hZ:Apart Z ρ W) (hq:ρ.q s sz p1 p2) (hsl:WT (λb=>Z b\/b=wg) ρ W)
  (hwg:W.heap[wg]? =AA (.cells #[.int .u64 KQ,.int .u32 0] 168)) (hx:W.heap[xb]? =AA (.cells #[.func (.func 79) #[] #[.pointer (AA ⟨p1,0,AB⟩),.pointer (AA ⟨p2,0,AB⟩)]] 106))
  (hb1:W.heap[b1]? =AA (.cells #[.chan (AA c1)] 157)) (hb2:W.heap[b2]? =AA (.cells #[.chan (AA c2)] 158)) (hc1:W.heap[c1]? =AA (.chan 0 #[] false 0 0 false)) (hc2:W.heap[c2]? =AA (.chan 0 #[] false 0 0 false))
  (hnew: ∀b∈[wg,b2,b1,c2,c1,xb],(∀a,¬ρ.r a b)/\¬Z b) (hnd:[wg,b2,b1,c2,c1,xb].Nodup)
  (hev:Ev Ae Kp (Bc Ae 46 #[Fz 79 s sz,to] .normal) (c0::cs) v) (hto:BC K2.F ρ to to') (CE: ∀f ts v,Kp f ts v->ts=[]/\f.mode=.returning)
  (PH:Nk Ae Kp ⟨Bc Ae 46 #[Fz 79 s sz,to] .normal,c0::cs,v⟩):
  ∃(N:Nat) (gs':Array Ad) (w':AL) (sl':Option (Nat×Nat)) (t':CJ) (q':Nat->Nat) (a':Ad) (ρ1:Rn) (v1:AL) (cnt e:Int) (d0 d1 d2 d3 d6 d9 d10 d11 d12 d13 d14 d15 d16 d17 d18 d19 d20 d21 d22 d23 d24 d25 d26 d27 d28:AQ),
   D7 Tryz.prog N (crowd gs W sl) t=(.next (crowd gs' w' sl'),t')/\Sit Tryz.prog (λb=>Z b\/b=wg) gs' w' t' a' q'/\
   bu Tryz.prog a' (G (fr 46 #[d0,d1,d2,d3,.int .i64 cnt,.int .i64 e,d6,.pointer (AA ⟨b2,0,AB⟩),.pointer (AA ⟨wg,0,AB⟩),d9,d10,d11,d12,d13,d14,d15,d16,d17,d18,d19,d20,d21,d22,d23,d24,d25,d26,d27,d28] [.inRegion Zm [],.code QC] [] AB) cs0)/\
   Jv Ae Kp ⟨c0.finish (.tuple #[.int .i64 cnt,.int .i64 e]),cs,v1⟩ ⟨Bc Ae 46 #[Fz 79 s sz,to] .normal,c0::cs,v⟩/\AM0 Z ρ W [wg,c1,c2] ρ1 v1 w' wg:=by
 obtain⟨B0,ACH,hB0⟩:=hsl _ _ _ _ hq;(have hsz:1<=sz:=by have:=ACH.pos;omega);have hsz2:(sz:Int)<=9223372036854775807:=ACH.hi;have hs:s.size<=1073741824:=ACH.few;(have hl:s.data.toList.length=s.size:=by rw[WJ];rfl);obtain⟨N,gs1,sl1,t1,q1,d1,x,y,r1,z1,S1,hxx,hyy⟩:=AEv (w:=W) (sl:=sl) hS rfl (λdd=>ASw (w:=W.at dd) rfl);obtain⟨C,hC⟩: ∃C,C=cx Z ρ wg c1 c2 gs1.size W s sz:=⟨_,rfl⟩;(have hCP:C.P=Tryz.prog:=by rw[hC];rfl);have Y8:C.SR=ACG Z ρ wg W:=by rw[hC];rfl
 have AJp: ∀b∈[b2,b1,xb],(∃o,W.heap[b]? =AA o/\isCells o)->C.SR b:=λb hb ho=>by
  rw[Y8];have h1:=hnew b (by simp at hb⊢;rcases hb with rfl|rfl|rfl<;>simp);refine⟨?_,h1.1,h1.2,ho⟩;simp only[IB,BF,BH,or_false,not_or] at hnd hb;omega
 have hlt: ∀b,C.SR b->b<W.heap.size:=λb hb=>by rw[Y8] at hb;exact hb.lt
 have ANZ: ∀s n a b,ρ.q s n a b->∃B,Ij W B s n a b/\∀c∈B,C.SR c:=λs n a b hq=>by
  obtain⟨B,hB,hBc⟩:=hsl _ _ _ _ hq;obtain⟨B2,hB2,AS0⟩:=AAC hB;refine⟨B2,hB2,λc hc=>?_⟩;obtain⟨h1,h2⟩:=AS0 c hc;obtain⟨h3,h4⟩:=hBc c h1;rw[Y8];exact⟨λe=>h4 (.inr e),h3,λe=>h4 (.inl e),h2⟩
 obtain⟨R,hR⟩: ∃R,R=frz C.SR W hlt:=⟨_,rfl⟩;have hRR: ∀w,R.R w↔∀b,C.SR b->w.heap[b]? =W.heap[b]? :=λw=>by rw[hR];rfl
 have hOG:OG R ρ:=⟨λa b hab hb=>by rw[Y8] at hb;exact hb.2.1 a hab,λw hw s n a b hq=>by
  obtain⟨B,hB,hc⟩:=ANZ _ _ _ _ hq
  exact⟨B,hB.pR λc hcB=>(hRR w).1 hw c (hc c hcB),hc⟩⟩
 have AS1:R.Ok:=⟨λw hw b hb=>by
  rw[(hRR w).1 hw b hb];rw[Y8] at hb
  exact hb.2.2.2⟩
 have sb1:C.SR b1:=AJp b1 AV ⟨_,hb1,_,_,_,rfl⟩;have sb2:C.SR b2:=AJp b2 AV ⟨_,hb2,_,_,_,rfl⟩;have sxb:C.SR xb:=AJp xb AV ⟨_,hx,_,_,_,rfl⟩;(have hbc:C.bc=c1:=by rw[hC];rfl);(have hbs:C.bs=c2:=by rw[hC];rfl);(have jZ:C.wg=wg:=by rw[hC];rfl);(have ANa:C.Cs=Piece C.SR s sz:=by rw[hC];rfl);(have hCN:C.N=(s.size+sz - 1)/sz:=by rw[hC];rfl);(have hCZ:C.Z=Z:=by rw[hC];rfl);(have hCj:C.j=gs1.size:=by rw[hC];rfl);(have AGT:C.w0=W:=by rw[hC];rfl);(have ANb:C.T0=λb=>(∃a,ρ.r a b)\/b=wg\/b=c1\/b=c2:=by rw[hC];rfl);(have AS2:C.ty=168:=by rw[hC];rfl);(have AS3:C.FW=λ_=>True:=by rw[hC];rfl);clear hC;(have hWA: ∀d,WA C (W.at d) KQ 0:=λd=>by unfold WA;rw[jZ,AS2];exact hwg);have hlive: ∃w,Live C w:=⟨_,_,_,hWA 0⟩;(have EM: ∀w,R.R w->w.cell? ⟨b1,0,AB⟩=AA (.chan (AA C.bc)):=λw hw=>by rw[I9 (((hRR w).1 hw b1 sb1).trans hb1),hbc];rfl);(have rd2: ∀w,R.R w->w.cell? ⟨b2,0,AB⟩=AA (.chan (AA C.bs)):=λw hw=>by rw[I9 (((hRR w).1 hw b2 sb2).trans hb2),hbs];rfl);have hSY: ∀b,C.SY b↔b=wg\/b=c1\/b=c2:=λb=>by unfold Cx.SY;rw[jZ,hbc,hbs]
 have AGU: ∀b,C.SY b->(∀a,¬ρ.r a b)/\¬Z b/\b<W.heap.size/\¬C.SR b:=λb hb=>by
  have hb:=(hSY b).1 hb;rcases hb with rfl|rfl|rfl;exact⟨(hnew _ AV).1,(hnew _ AV).2,(Dj.1 hwg).1,λh=>by rw[Y8] at h;exact h.1 rfl⟩
  ·refine⟨(hnew _ AV).1,(hnew _ AV).2,(Dj.1 hc1).1,λh=>?_⟩;rw[Y8] at h;obtain⟨_,_,_,o,ho,c,tt,f,rfl⟩:=h;rw[hc1] at ho;cases ho
  refine⟨(hnew _ AV).1,(hnew _ AV).2,(Dj.1 hc2).1,λh=>?_⟩;rw[Y8] at h;obtain⟨_,_,_,o,ho,c,tt,f,rfl⟩:=h;rw[hc2] at ho;cases ho
 have hM:=AEu (C:=C) (R:=R) (cs0:=cs0) hCP (s:=s) (sz:=sz) (λk xv bk ob h=>by rw[ANa] at h;exact h) (by rw[hCN];exact (AGS hsz).1) hsz hsz2 hs (sb:=b2) sb2 rd2 hlive CE (b1:=b1) sb1 EM hOG hev PH hto (a0:=a0) (a2:=.pointer (AA ⟨xb,0,AB⟩)) (a3:=a3) (a9:=a9) (a10:=.chan (AA c1)) (a11:=.chan (AA c2)) (a12:=.tuple #[])
  (LM:=.func (.func 75) #[] #[.pointer (AA ⟨wg,0,AB⟩),.pointer (AA ⟨b1,0,AB⟩),.pointer (AA ⟨xb,0,AB⟩),.pointer (AA ⟨b2,0,AB⟩)]) (Xh:=Xh) (PL:=PL) (a16:=a16) (a17:=a17) (Oe:=Oe) (Og:=Og) (a20:=a20) (a21:=a21) (a22:=a22) (a23:=a23) (a24:=a24) (a25:=a25) (a26:=a26) (a27:=a27) (a28:=a28)
 obtain⟨B3,hB3,AS4⟩:=ANZ _ _ _ _ hq;obtain⟨D,c,hX,hle,hDn,hD⟩:=AJn (C:=C) (hlt:=hlt) hB3 AS4 sxb hx;rw[<- hR] at hX hD
 have hPW:=w_all (C:=C) hCP AS1 (wg:=wg) (cb:=b1) (sb:=b2) (xb:=xb) (p1:=p1) (p2:=p2) ⟨sb1,sb2,EM,rd2⟩ hX hsz (by rw[hl];exact hs) Aa hle hDn hD
  (λk hk m cap hm h1 h2=>by rw[ANa];exact⟨by rw[hl] at hk;exact hk,hm,cap,h1,h2,rfl,rfl⟩) (λk h1 h2=>by rw[hCN,<- hl];exact (AGS hsz).2 k h1 h2) hlive (λL=>by rw[AS3];trivial) jZ
 have hph:All C _ _ _ _ _ _ _ _ _:=phase hM hPW;obtain⟨gA,hgA⟩: ∃gA,gA=G (fr 46 #[a0,to',.pointer (AA ⟨xb,0,AB⟩),a3,.int .i64 0,.int .i64 0,.pointer (AA ⟨b1,0,AB⟩),.pointer (AA ⟨b2,0,AB⟩),.pointer (AA ⟨wg,0,AB⟩),a9,.chan (AA c1),.chan (AA c2),.tuple #[],.func (.func 75) #[] #[.pointer (AA ⟨wg,0,AB⟩),.pointer (AA ⟨b1,0,AB⟩),.pointer (AA ⟨xb,0,AB⟩),.pointer (AA ⟨b2,0,AB⟩)],Xh,PL,a16,a17,Oe,Og,a20,a21,a22,a23,a24,a25,a26,a27,a28] [.inRegion ops4 [],.code WR] [] AB) cs0:=⟨_,rfl⟩;obtain⟨gB,hgB⟩: ∃gB,gB=born Tryz.prog {target:=.fn (.func 75) #[.pointer (AA ⟨wg,0,AB⟩),.pointer (AA ⟨b1,0,AB⟩),.pointer (AA ⟨xb,0,AB⟩),.pointer (AA ⟨b2,0,AB⟩)],args:=#[]}:=⟨_,rfl⟩;(have hAr:gA.status=.running:=by rw[hgA];rfl);(have hBr:gB.status=.running:=by rw[hgB];rfl);rw[jZ,<- hgA] at hph;rw[<- hgB] at hph;rw[<- hgA,<- hgB] at r1;clear hM hPW
 have hcf:Cf C ((gs1.setIfInBounds 0 gA).push gB) (W.at d1) (t1++ #[x,y]) q1 gA gB 0 0 (og K2.F 2 R ρ v hOG) (λ_=>False):=by
  rw[<- z1] at hxx hyy
  refine AJm (B:=W.heap.size) (L:=L) (by rw[hCP,hCZ];exact S1) hCj hxx hyy (Bd _) (by rw[jZ];exact hL) (λb ⟨a,hab⟩=>⟨(hW.dom hab).2,hOG.dis a b hab,λh=>(AGU b h).1 a hab,by rw[hCZ];exact hZ.r a b hab⟩)
   (λb hb=>⟨hlt b hb,λh=>(AGU b h).2.2.2 hb,by rw[hCZ];rw[Y8] at hb;exact hb.2.2.1⟩) (λb hb=>⟨(AGU b hb).2.2.1,by rw[hCZ];exact (AGU b hb).2.1⟩) (λb hb=>by rw[hCZ] at hb;exact hZ.z b hb) ⟨hW.pre ⟨rfl,rfl⟩ ⟨rfl,rfl⟩,(hRR _).2 λ_ _=>rfl⟩
   ⟨λb _ _=>by rw[AGT];rfl,λb hb _=>?_⟩ (by rw[AGT];exact Bd _) (by rw[AGT];exact⟨rfl,rfl,rfl⟩)
  rw[ANb];rcases hb with hb|hb;exact .inl hb;exact .inr ((hSY b).1 hb)
 have hnd':=hnd;simp only[IB,BF,BH,or_false,not_or] at hnd'
 have hst:St C .work (.work false) 0 0 gA gB (og K2.F 2 R ρ v hOG) (ow R (λ_=>False) []) ((gs1.setIfInBounds 0 gA).push gB) (W.at d1) (t1++ #[x,y]) q1 gA gB (λ_=>False) 0:=
  {cf:=hcf
   ne:=(by rw[hbc,hbs,jZ];omega)
   MZ:=.inl ⟨hAr,rfl,rfl,rfl⟩
   TW:=λ_=>.inl ⟨hBr,rfl,rfl,rfl⟩
   qu:=λh=>(by cases h)
   nb:=.inl hAr
   iw:=λ_=>⟨λp hp=>(by cases hp),(hRR _).2 λ_ _=>rfl⟩
   ow:=λx hx=>(by rcases hx with h|h;exact h;simp at h)
   c1:=⟨0,(by rw[hbc];exact hc1)⟩
   c2:=⟨0,(by rw[hbs];exact hc2)⟩
   wg:=.inl ⟨.inl rfl,hWA _⟩
   dw:=λ_=>rfl
   kk:=λ_=>⟨λs hs=>⟨rfl,(by cases hs;rfl)⟩,λh=>(by cases h)⟩
   rel:=λh=>(by cases h)}
 obtain⟨n,gs',w',sl',t',q',a',k,oM,h1,h2,h3,h4,h5,h6,h7,h8,h9,h10,h11,h12,h13,h14⟩:=hph (sl:=sl1) hst;obtain⟨a0',a1',a2',a3',a6',a9',a10',AVP,AVQ,AVR,AVS,AVT,AVU,AVV,AVW,AVX,AVY,AVZ,AVa,a23',a24',AVb,AVc,cnt,e,ρ1,v1,ANc,l1,rfl,l3,l4⟩:=h4;rw[jZ] at l1;rw[hCP] at h1 h3;(have hZ':C.Z'=λb=>Z b\/b=wg:=by unfold Cx.Z';rw[hCZ,jZ]);rw[hZ'] at h3 h6 h7;rw[AGT] at h8 h9 h10 h11 h12 h14;rw[ANb] at h9 h14;have hR': ∀b,C.SR b->w'.heap[b]? =W.heap[b]? :=(hRR w').1 h5.2;refine⟨N+n,gs',w',sl',t',q',a',ρ1,v1,cnt,e,_,_,_,_,_,_,_,_,_,_,_,_,_,_,_,_,_,_,_,_,_,_,_,_,_,Ed r1 h1,h3,l1,l3,l4,h5.1,λa b hab=>(h6 b ⟨a,hab⟩).2,λa b hab hb=>?_,h8,λb hb hn hnn=>?_,⟨h10,h11,h12⟩,λs n a b hq=>?_⟩
 ·rcases h14 b ⟨a,hab⟩ hb with h|h;exact .inl h;exact .inr (by simp;exact h)
 ·refine h9 b hb ?_;rintro (⟨a,h⟩|h);exact hn a h;exact hnn (by simp;exact h)
 obtain⟨B,hB,hc⟩:=ANc.sl w' h5.2 s n a b hq;refine⟨B,hB,λc hcB=>⟨λx hx=>ANc.dis x c hx (hc c hcB),?_⟩⟩;have:=hc c hcB;rw[Y8] at this;rintro (h|h);exact this.2.2.1 h;exact this.1 h
end
section
variable {SR:Nat->Prop} {J:Ad->Own SR->Prop} (hJ:uX Tryz.prog true J) {o:Own SR} {cs:List AX} {c0:AX} {cnt e:Int} {d0 d1 d2 d3 d6 d7 d8 d9 d10 d11 d12 d13 d14 d15 d16 d17 d18 d19 d20 d21 d22 d23 d24 d25 d26 d27 d28:AQ}
include hJ
theorem AJq(next:J (G (c0.finish (.tuple #[.int .i64 cnt,.int .i64 e])) cs) o):
  J (G (fr 46 #[d0,d1,d2,d3,.int .i64 cnt,.int .i64 e,d6,d7,d8,d9,d10,d11,d12,d13,d14,d15,d16,d17,d18,d19,d20,d21,d22,d23,d24,d25,d26,d27,d28] [.inRegion Zm [],.code QC] [] AB) (c0::cs)) o:=by
 have Next:=AO next;clear next;have el:QC=QC:=rfl
 conv at el=>lhs;simp only[QC,P9,EP,Tryz.f46,Dx]
 rw[<- el];clear el;(iterate 8 refine Qn ?_);refine CX hJ (λw=>OZ) rfl ?_;exact JU (v:=.tuple #[.int .i64 cnt,.int .i64 e]) hJ Tryz.func46 (λw=>(by rw[o8 (f:=Tryz.f46) (a:=4) (b:=5) rfl w];rfl)) Next.out
end
theorem ACI{P:BM}{g':Ad}{w0:AL}: ∀{n:Nat} {g:Ad} {w:AL},AtRel w0 w->Goes P true (λ_ _=>True) DC0 (λx _=>x=g') n g w->Goes P true AtRel DC0 (λx w1=>x=g'/\AtRel w0 w1) n g w:=by
 intro n
 induction n with
 |zero=>exact λhw h w1 h1=>⟨h w1 trivial,atRel_trans _ _ _ hw h1⟩|succ n ih=>
  intro g w hw h;rcases h with h|⟨hr,h⟩;exact .inl λw1 h1=>⟨h w1 trivial,atRel_trans _ _ _ hw h1⟩;refine .inr ⟨hr,λw1 h1=>?_⟩;have h2:=h w1 trivial
  cases hs:Af P true g w1 with
  |go g2 w2 es=>
   rw[hs] at h2;obtain⟨⟨rfl,rfl⟩,h3⟩:=h2;exact⟨⟨rfl,rfl⟩,ih (atRel_trans _ _ _ hw h1) h3⟩
  |_=>rw[hs] at h2;exact h2.elim
theorem DF.kept{F:Fs}{N:Nat}{ρ:Rn}{v w w1:AL}(h:DF F N ρ v w)(hr: ∀b,b<w.heap.size->w1.heap[b]? =w.heap[b]?)(hz:w.heap.size<=w1.heap.size)(ho:w1.os=w.os):DF F N ρ v w1:=
 ⟨h.ok,λa b hab=>by
  obtain⟨o,o',h1,h2,h3⟩:=h.obj a b hab
  exact⟨o,o',h1,by rw[hr b (h.dom hab).2];exact h2,h3⟩,h.tok,h.nv,Cj h.nw hz,ho.trans h.os,λs n a b hq=>by
  obtain⟨B,hB,hc⟩:=h.seq s n a b hq
  exact⟨B,hB.pR λc hcB=>hr c (hB.lt c hcB),hc⟩⟩
theorem WT.kept{Z:Nat->Prop}{ρ:Rn}{w w1:AL}(h:WT Z ρ w)(hr: ∀b,b<w.heap.size->w1.heap[b]? =w.heap[b]?):WT Z ρ w1:=λs n a b hq=>by
 obtain⟨B,hB,hc⟩:=h s n a b hq;exact⟨B,hB.pR λc hcB=>hr c (hB.lt c hcB),hc⟩
structure Dv (Z:Nat->Prop) (ρ:Rn) (w:AL) (Z':Nat->Prop) (ρ1:Rn) (v1 w':AL):Prop where
 le:ρ.le ρ1
 rel:DF K1.F 2 ρ1 v1 w'
 apart:Apart Z' ρ1 w'
 sl:WT Z' ρ1 w'
 zle: ∀b,Z b->Z' b
 AJr: ∀b,Z' b->Z b\/w.heap.size<=b
 low: ∀a b,ρ1.r a b->b<w.heap.size->∃a',ρ.r a' b
 sz:w.heap.size<=w'.heap.size
 keep: ∀b,b<w.heap.size->(∀a,¬ρ.r a b)->w'.heap[b]? =w.heap[b]?
 same:w'.tape=w.tape/\w'.os=w.os/\w'.output=w.output
theorem Dv.trans{Z Z' Z'':Nat->Prop}{ρ ρ1 ρ2:Rn}{v1 v2 w w1 w2:AL}(h:Dv Z ρ w Z' ρ1 v1 w1)(k:Dv Z' ρ1 w1 Z'' ρ2 v2 w2):Dv Z ρ w Z'' ρ2 v2 w2 where
 le:=h.le.trans k.le
 rel:=k.rel
 apart:=k.apart
 sl:=k.sl
 zle:=λb hb=>k.zle b (h.zle b hb)
 AJr:=λb hb=>by
  rcases k.AJr b hb with x|x;exact h.AJr b x;exact .inr (Cj h.sz x)
 low:=λa b hab hb=>by
  obtain⟨a',h1⟩:=k.low a b hab (Em hb h.sz);exact h.low a' b h1 hb
 sz:=Cj h.sz k.sz
 keep:=λb hb hn=>(k.keep b (Em hb h.sz) λa hab=>by
  obtain⟨a',h1⟩:=h.low a b hab hb
  exact hn a' h1).trans (h.keep b hb hn)
 same:=⟨k.same.1.trans h.same.1,k.same.2.1.trans h.same.2.1,k.same.2.2.trans h.same.2.2⟩
def rfT:RF (λ_:Nat=>False) where
 R:=λ_=>True
 st:=λ_ _ _ _ _=>Ar
 lt:=λ_ _ _ h=>h.elim
section
variable {Z:Nat->Prop} {gs:Array Ad} {t:CJ} {q:Nat->Nat} {sl:Option (Nat×Nat)} {w v:AL} {ρ:Rn} {to to':AQ} {s:ByteArray} {n:Int} {p1 p2:Nat} {Kp:AX->List AX->AL->Prop} {c0 c0':AX} {cs cs0:List AX}
theorem AHl(hS:Sit Tryz.prog Z gs w t (G (Bc Tryz.prog 46 #[vM 79 p1 p2,to'] .normal) (c0'::cs0)) q)(hW:DF K1.F 2 ρ v w)(hZ:Apart Z ρ w)(hq:ρ.q s n p1 p2)(hsl:WT Z ρ w)
  (hev:Ev Ae Kp (Bc Ae 46 #[Fz 79 s n,to] .normal) (c0::cs) v) (hto:BC K1.F ρ to to') (CE: ∀f ts v,Kp f ts v->ts=[]/\f.mode=.returning)
  (PH:Nk Ae Kp ⟨Bc Ae 46 #[Fz 79 s n,to] .normal,c0::cs,v⟩):
  ∃(N:Nat) (gs':Array Ad) (w':AL) (sl':Option (Nat×Nat)) (t':CJ) (q':Nat->Nat) (Z':Nat->Prop) (ρ1:Rn) (v1:AL) (cnt e:Int),
   D7 Tryz.prog N (crowd gs w sl) t=(.next (crowd gs' w' sl'),t')/\Sit Tryz.prog Z' gs' w' t' (G (c0'.finish (.tuple #[.int .i64 cnt,.int .i64 e])) cs0) q'/\
   Jv Ae Kp ⟨c0.finish (.tuple #[.int .i64 cnt,.int .i64 e]),cs,v1⟩ ⟨Bc Ae 46 #[Fz 79 s n,to] .normal,c0::cs,v⟩/\Dv Z ρ w Z' ρ1 v1 w':=by
 obtain⟨B0,ACH,hB0⟩:=hsl _ _ _ _ hq;obtain⟨sz,rfl⟩: ∃sz:Nat,n=sz:=⟨n.toNat,by have:=ACH.pos;omega⟩;have hZw: ∀b,Z b->b<w.heap.size:=hZ.z
 have hpre:Ps Tryz.prog (λ(a:Ad) (o:Own (λ_:Nat=>False))=>∃xb c1 c2 b1 b2 wg,[wg,b2,b1,c2,c1,xb].Nodup/\a=G (Bc Tryz.prog 74 #[.pointer (AA ⟨wg,0,AB⟩),.int .i64 1] .normal)
   (fr 46 #[.func (.func 79) #[] #[.pointer (AA ⟨p1,0,AB⟩),.pointer (AA ⟨p2,0,AB⟩)],to',.pointer (AA ⟨xb,0,AB⟩),AU,.int .i64 0,.int .i64 0,.pointer (AA ⟨b1,0,AB⟩),.pointer (AA ⟨b2,0,AB⟩),.pointer (AA ⟨wg,0,AB⟩),AU,.chan (AA c1),.chan (AA c2),AU,AU,AU,AU,AU,AU,AU,AU,AU,AU,AU,AU,AU,AU,AU,AU,AU] [.inRegion ops3 [0],.code UF] [] AB::c0'::cs0)/\
   o=ow rfT (λ_=>False) [(wg,.cells #[.int .u64 0,.int .u32 0] 168),(b2,.cells #[.chan (AA c2)] 158),(b1,.cells #[.chan (AA c1)] 157),(c2,.chan 0 #[] false 0 0 false),(c1,.chan 0 #[] false 0 0 false),(xb,.cells #[.func (.func 79) #[] #[.pointer (AA ⟨p1,0,AB⟩),.pointer (AA ⟨p2,0,AB⟩)]] 106)])
   (G (Bc Tryz.prog 46 #[.func (.func 79) #[] #[.pointer (AA ⟨p1,0,AB⟩),.pointer (AA ⟨p2,0,AB⟩)],to'] .normal) (c0'::cs0)) (ow rfT (λ_=>False) []):=
  AJi NT λxb c1 c2 b1 b2 wg hnd=>Ps.fin ⟨xb,c1,c2,b1,b2,wg,hnd,rfl,rfl⟩
 obtain⟨N1,gs1,w1,sl1,t1,q1,a1,o1,r1,z1,S1,⟨xb,c1,c2,b1,b2,wg,hnd,rfl,rfl⟩,I1,E1⟩:=hpre (sl:=sl) hS.AJf ⟨λp hp=>(by cases hp),Ar⟩ (λb hb=>(by rcases hb with h|h;exact h.elim;simp at h)) (λb hb=>hb.elim) hZw;clear hpre;have hI1:=I1.1;simp only[BF,BH,or_false,forall_eq_or_imp,forall_eq] at hI1;obtain⟨iwg,ib2,ib1,ic2,ic1,ixb⟩:=hI1
 have ja: ∀b∈[wg,b2,b1,c2,c1,xb],w.heap.size<=b/\¬Z b:=λb hb=>by
  have hO:(ow rfT (λ_=>False) [(wg,QI #[.int .u64 0,.int .u32 0] 168),(b2,.cells #[.chan (AA c2)] 158),(b1,.cells #[.chan (AA c1)] 157),(c2,.chan 0 #[] false 0 0 false),(c1,.chan 0 #[] false 0 0 false),(xb,.cells #[.func (.func 79) #[] #[.pointer (AA ⟨p1,0,AB⟩),.pointer (AA ⟨p2,0,AB⟩)]] 106)]).O b:=.inr hb;refine⟨?_,(E1.own b hO).2⟩;rcases E1.new b hO with h|h
  ·rcases h with h|h;exact h.elim;simp at h
  exact h
 have hnd':=hnd;simp only[IB,BF,BH,or_false,not_or] at hnd';have hwl:wg<w1.heap.size:=(Dj.1 iwg).1;obtain⟨T,hT⟩: ∃T:Array AQ,T= #[.func (.func 79) #[] #[.pointer (AA ⟨p1,0,AB⟩),.pointer (AA ⟨p2,0,AB⟩)],to',.pointer (AA ⟨xb,0,AB⟩),AU,.int .i64 0,.int .i64 0,.pointer (AA ⟨b1,0,AB⟩),.pointer (AA ⟨b2,0,AB⟩),.pointer (AA ⟨wg,0,AB⟩),AU,.chan (AA c1),.chan (AA c2),AU,AU,AU,AU,AU,AU,AU,AU,AU,AU,AU,AU,AU,AU,AU,AU,AU]:=⟨_,rfl⟩;rw[<- hT] at S1;obtain⟨N2,gs2,sl2,t2,q2,dd,r2,z2,S2⟩:=AJj (b₀:=fr 46 T [.inRegion ops3 [0],.code UF] [] AB) (a₀:=⟨T,[]⟩) (ops₀:=ops3) (i₀:=0) (rest₀:=[]) (k₀:=[.code UF]) (cs:=c0'::cs0) (w:=w1) (sl:=sl1) wgLib S1 iwg hwl (ja wg AV).2 (by rw[AEt];rfl);obtain⟨w2,hw2⟩: ∃w2:AL,w2=(w1.setCell (GK wg) (.int .u64 KQ)).at dd:=⟨_,rfl⟩
 have h2o: ∀b,b≠wg->w2.heap[b]? =w1.heap[b]? :=λb hb=>by
  rw[hw2];show (w1.setCell (GK wg) (.int .u64 KQ)).heap[b]? =_;exact (N7 w1 (GK wg) (.int .u64 KQ)).1 b hb
 have h2w:w2.heap[wg]? =AA (.cells #[.int .u64 KQ,.int .u32 0] 168):=by
  rw[hw2];exact WA.setSt (C:=cx Z ρ wg c1 c2 0 w s sz) (w:=w1) (st:=0) (sm:=0) iwg KQ
 (have h2z:w2.heap.size=w1.heap.size:=by rw[hw2];exact (N7 w1 (GK wg) (.int .u64 KQ)).2.1);(have h2s:w2.tape=w1.tape/\w2.os=w1.os/\w2.output=w1.output:=by rw[hw2];exact (N7 w1 (GK wg) (.int .u64 KQ)).2.2);rw[<- hw2] at r2;(have ea:G ((fr 46 T [.inRegion ops3 [0],.code UF] [] AB).at ((⟨T,[]⟩:Act).put ((ops3[0]?).bind (·.dst)) (.tuple #[])) (.inRegion ops3 []::[.code UF])) (c0'::cs0)=G (fr 46 #[.func (.func 79) #[] #[.pointer (AA ⟨p1,0,AB⟩),.pointer (AA ⟨p2,0,AB⟩)],to',.pointer (AA ⟨xb,0,AB⟩),AU,.int .i64 0,.int .i64 0,.pointer (AA ⟨b1,0,AB⟩),.pointer (AA ⟨b2,0,AB⟩),.pointer (AA ⟨wg,0,AB⟩),AU,.chan (AA c1),.chan (AA c2),.tuple #[],AU,AU,AU,AU,AU,AU,AU,AU,AU,AU,AU,AU,AU,AU,AU,AU] [.inRegion ops3 [],.code UF] [] AB) (c0'::cs0):=by rw[hT];rfl);rw[ea] at S2;obtain⟨o3,ho3⟩: ∃o3:Own (λ_:Nat=>False),o3=ow rfT (λ_=>False) [(wg,QI #[.int .u64 KQ,.int .u32 0] 168),(b2,.cells #[.chan (AA c2)] 158),(b1,.cells #[.chan (AA c1)] 157),(c2,.chan 0 #[] false 0 0 false),(c1,.chan 0 #[] false 0 0 false),(xb,.cells #[.func (.func 79) #[] #[.pointer (AA ⟨p1,0,AB⟩),.pointer (AA ⟨p2,0,AB⟩)]] 106)]:=⟨_,rfl⟩
 have hO3: ∀b,o3.O b->b∈[wg,b2,b1,c2,c1,xb]:=λb hb=>by
  rw[ho3] at hb;rcases hb with h|h;exact h.elim;exact h
 have hmid:Ps Tryz.prog (λa o=>a=G (fr 46 #[.func (.func 79) #[] #[.pointer (AA ⟨p1,0,AB⟩),.pointer (AA ⟨p2,0,AB⟩)],to',.pointer (AA ⟨xb,0,AB⟩),AU,.int .i64 0,.int .i64 0,.pointer (AA ⟨b1,0,AB⟩),.pointer (AA ⟨b2,0,AB⟩),.pointer (AA ⟨wg,0,AB⟩),AU,.chan (AA c1),.chan (AA c2),.tuple #[],.func (.func 75) #[] #[.pointer (AA ⟨wg,0,AB⟩),.pointer (AA ⟨b1,0,AB⟩),.pointer (AA ⟨xb,0,AB⟩),.pointer (AA ⟨b2,0,AB⟩)],AU,AU,AU,AU,AU,AU,AU,AU,AU,AU,AU,AU,AU,AU,AU] [.inRegion ops4 [1],.code WR] [] AB) (c0'::cs0)/\o=o3) _ o3:=AJk (LM:=AU) NT (Ps.fin ⟨rfl,rfl⟩)
 have hI2:o3.I w2:=by
  rw[ho3];refine⟨λp hp=>?_,Ar⟩;simp only[BF,BH,or_false] at hp;rcases hp with rfl|rfl|rfl|rfl|rfl|rfl;exact h2w;exact (h2o _ Aa).trans ib2;exact (h2o _ Aa).trans ib1;exact (h2o _ Aa).trans ic2;exact (h2o _ Aa).trans ic1;exact (h2o _ Aa).trans ixb
 have hO2: ∀b,o3.O b->b<w2.heap.size/\¬Z b:=λb hb=>⟨by
  obtain⟨p,hp,rfl⟩: ∃p∈[(wg,QI #[.int .u64 KQ,.int .u32 0] 168),(b2,.cells #[.chan (AA c2)] 158),(b1,.cells #[.chan (AA c1)] 157),(c2,.chan 0 #[] false 0 0 false),(c1,.chan 0 #[] false 0 0 false),(xb,.cells #[.func (.func 79) #[] #[.pointer (AA ⟨p1,0,AB⟩),.pointer (AA ⟨p2,0,AB⟩)]] 106)],p.1=b:=by
   rw[ho3] at hb;rcases hb with h|h;exact h.elim;exact CG.1 h
  rw[ho3] at hI2
  exact (Dj.1 (hI2.1 p hp)).1,(ja b (hO3 b hb)).2⟩
 rw[<- h2z] at S2;obtain⟨N3,gs3,w3,sl3,t3,q3,a3,o3',r3,z3,S3,⟨rfl,rfl⟩,I3,E3⟩:=hmid (sl:=sl2) (w:=w2) S2 hI2 hO2 (λb hb=>hb.elim) (λb hb=>by rw[h2z];exact Em (hZw b hb) E1.sz);clear hmid
 have hold: ∀b,b<w.heap.size->w3.heap[b]? =w.heap[b]? :=λb hb=>by
  (have hnew: ∀b',b'∈[wg,b2,b1,c2,c1,xb]->b≠b':=λb' hb' e=>by have:=(ja b' hb').1;omega);rw[E3.keep b (by rw[h2z];exact Em hb E1.sz) (λh=>hnew b (hO3 b h) rfl),h2o b (hnew wg AV)];exact E1.keep b hb (λh=>by rcases h with h|h;exact h.elim;simp at h)
 have ACJ:w.heap.size<=w3.heap.size:=Cj E1.sz (by rw[<- h2z];exact E3.sz);have hs3:w3.tape=w.tape/\w3.os=w.os/\w3.output=w.output:=⟨(E3.same.1.trans h2s.1).trans E1.same.1,(E3.same.2.1.trans h2s.2.1).trans E1.same.2.1,(E3.same.2.2.trans h2s.2.2).trans E1.same.2.2⟩;have hI3:=I3;rw[ho3] at hI3;have hI3:=hI3.1;simp only[BF,BH,or_false,forall_eq_or_imp,forall_eq] at hI3;obtain⟨jwg,jb2,jb1,jc2,jc1,jxb⟩:=hI3;have ANd:=(ja wg AV).1
 obtain⟨N4,gs4,w4,sl4,t4,q4,a4,ρ1,v1,cnt,e,d0,d1,d2,d3,d6,d9,d10,d11,d12,d13,d14,d15,d16,d17,d18,d19,d20,d21,d22,d23,d24,d25,d26,d27,d28,r4,S4,⟨nl,hlv⟩,hnx,hP⟩:=AJo (v:=v) (ρ:=ρ) (to:=to) (s:=s) (Kp:=Kp) (c0:=c0) (cs:=cs) (sl:=sl3) S3 ANd ((hW.alike ACE).kept hold ACJ hs3.2.1)
  ⟨hZ.r,λb hb=>Em (hZw b hb) ACJ⟩ hq (λs n a b hq=>by
   obtain⟨B,hB,hc⟩:=hsl s n a b hq;refine⟨B,hB.pR λc hcB=>hold c (hB.lt c hcB),λc hcB=>⟨(hc c hcB).1,?_⟩⟩;rintro (h|h);exact (hc c hcB).2 h
   have:=hB.lt c hcB;omega) jwg jxb jb1 jb2 jc1 jc2 (λb hb=>⟨λa hab=>by have h1:=(hW.dom hab).2;have h2:=(ja b hb).1;omega,(ja b hb).2⟩) hnd hev (hto.alike ACE) CE PH
 obtain⟨N5,gs5,w5,sl5,t5,q5,a5,r5,z5,S5,st5⟩:=AAA (B:=w4.heap.size) (D:=DC0) (sl:=sl4) (λw w' es h e he=>by rw[h.2] at he;simp at he) S4.AJf (ACI (w0:=w4) (atRel_refl _) (hlv w4));obtain⟨rfl,d5,e5⟩:=st5 w5.drawn;have e5:w5=w4.at d5:=e5;subst e5;have hout:Ps Tryz.prog (λa o=>a=G (c0'.finish (.tuple #[.int .i64 cnt,.int .i64 e])) cs0/\o=ow rfT (λ_=>False) []) _ (ow rfT (λ_=>False) []):=AJq (d0:=d0) (d1:=d1) (d2:=d2) (d3:=d3) (d6:=d6) (d9:=d9) (d10:=d10) (d11:=d11) (d12:=d12) (d13:=d13) (d14:=d14) (d15:=d15) (d16:=d16) (d17:=d17) (d18:=d18) (d19:=d19) (d20:=d20) (d21:=d21) (d22:=d22) (d23:=d23) (d24:=d24) (d25:=d25) (d26:=d26) (d27:=d27) (d28:=d28) (d7:=.pointer (AA ⟨b2,0,AB⟩)) (d8:=.pointer (AA ⟨wg,0,AB⟩)) NT (Ps.fin ⟨rfl,rfl⟩)
 have hZ4: ∀b,(Z b\/b=wg)->b<w4.heap.size:=λb hb=>by
  have h3:=hP.sz;rcases hb with hb|rfl;have:=hZw b hb;omega;have:=(Dj.1 jwg).1;omega
 obtain⟨N6,gs6,w6,sl6,t6,q6,a6,o6,r6,z6,S6,⟨rfl,rfl⟩,I6,E6⟩:=hout (sl:=sl5) (w:=w4.at d5) S5 ⟨λp hp=>(by cases hp),Ar⟩ (λb hb=>(by rcases hb with h|h;exact h.elim;simp at h)) (λb hb=>hb.elim) hZ4;have h64: ∀b,b<w4.heap.size->w6.heap[b]? =w4.heap[b]? :=λb hb=>E6.keep b hb (λh=>by rcases h with h|h;exact h.elim;simp at h);have hz6:w4.heap.size<=w6.heap.size:=E6.sz;refine⟨_,gs6,w6,sl6,t6,q6,λb=>Z b\/b=wg,ρ1,v1,cnt,e,Ed (Ed (Ed (Ed (Ed r1 r2) r3) r4) r5) r6,?_,hnx,?_⟩;exact⟨S6.at0,S6.leavers,(S6.past.mono (Bd _)).past⟩;refine⟨hP.le,(hP.rel.alike AJa).kept h64 hz6 E6.same.2.1,⟨hP.apart,λb hb=>Em (hZ4 b hb) hz6⟩,WT.kept hP.sl h64,λb hb=>.inl hb,λb hb=>?_,λa b hab hb=>?_,Cj ACJ (Cj hP.sz hz6),λb hb hn=>?_,(E6.same.1.trans hP.same.1).trans hs3.1,(E6.same.2.1.trans hP.same.2.1).trans hs3.2.1,(E6.same.2.2.trans hP.same.2.2).trans hs3.2.2⟩
 ·rcases hb with hb|rfl;exact .inl hb;exact .inr ANd
 ·rcases hP.low a b hab (Em hb ACJ) with h|h;exact h;exfalso;have:=(ja b (by simp at h⊢;rcases h with rfl|rfl|rfl<;>simp)).1;omega
 have hb3:=Em hb ACJ
 rw[h64 b (Em hb3 hP.sz),hP.keep b hb3 hn (λh=>by
  have:=(ja b (by simp at h⊢;rcases h with rfl|rfl|rfl<;>simp)).1
  omega)]
 exact hold b hb
end
section
variable {T:Twin} {F:Fs} {N:Nat} {ρ:Rn} {v w:AL}
theorem AM1(hW:DF F N ρ v w){a a':Ag}(ha:RelA ρ a a'): ∀(n i:Nat) (acc:Array AQ),
  (∃vs:List AQ,vs.length=n/\(∀j x,vs[j]? =AA x->∃x',v.cell? (a.add (i+j))=AA x/\w.cell? (a'.add (i+j))=AA x'/\BC F ρ x x')/\(Um a i n acc).run T.v v=.ok (acc++vs.toArray) v)\/
  ∃h,(Um a i n acc).run T.v v=.halt h v/\Halt.still h:=by
 intro n
 induction n with
 |zero=>intro i acc;exact .inl ⟨[],rfl,λj x h=>(by simp at h),by simp[Um]⟩
 |succ n ih=>
  intro i acc;rcases fH hW (ha.add i) with ⟨x,x',h1,h2,h3⟩|⟨h1,h2⟩
  ·have e:(Um a i (n+1) acc).run T.v v=(Um a (i+1) n (acc.push x)).run T.v v:=by
    simp only[Um,load,Eu];rw[Sem.run,h1];rfl
   rw[e];rcases ih (i+1) (acc.push x) with ⟨vs,k1,k2,k3⟩|h
   ·refine .inl ⟨x::vs,by simp[k1],λj y hy=>?_,by rw[k3];simp⟩
    cases j with
    |zero=>
     simp only[tX,DR] at hy;subst hy;exact⟨x',h1,h2,h3⟩
    |succ j=>
     simp only[AFw] at hy;have:=k2 j y hy;rwa[show i+1+j=i+(j+1) by omega] at this
   exact .inr h
  right;obtain⟨s,hs⟩:=(ZU (T:=T) h1 h2 false).1;refine⟨.stuck s,?_,Ar⟩;simp only[Um,load,Eu];rw[Sem.run,h1];have e:(Mode.plain==Mode.atomic)=false:=rfl;simp only[e,hs];rfl
theorem AJs{P:BM}{a:Ag}{n k:Nat}{vs:List AQ}(hl:(loadCells a n).run P v=.ok vs.toArray v):(∃ks:List Int,vs=ks.map (Jq .u8))\/
  ∃h,(Px (.slice (AA a) n k)).run P v=.halt h v/\Halt.still h:=by
 unfold Px;simp only[Eu,hl,QJ,List.forIn_toArray];clear hl;generalize Ku=s0
 induction vs generalizing s0 with
 |nil=>exact .inl ⟨[],rfl⟩|cons x l ih=>
  by_cases hx: ∃k,x=.int .u8 k
  ·obtain⟨k,rfl⟩:=hx;rcases ih (s0.push (UInt8.ofNat k.toNat)) with ⟨ks,rfl⟩|⟨h,h1,h2⟩;exact .inl ⟨k::ks,rfl⟩;refine .inr ⟨h,?_,h2⟩;simp only[ADy,pure_bind];exact h1
  refine .inr ⟨.stuck "bytesToString: byte expected",?_,Ar⟩;simp only[ADy]
  cases x with
  |int k n=>cases k<;>first|exact Ak ⟨n,rfl⟩ hx|rfl
  |_=>rfl
theorem AEw(hW:DF F N ρ v w){x x':AQ}(hx:BC F ρ x x'):(∃h,(Px x).run T.v v=.halt h v/\Halt.still h)\/
  ∃ks:List Int,(Px x).run T.v v=.ok (.string (Fa ks)) v/\((∃l c,x=.slice AB l c/\x'=x/\ks=[])\/
   ∃a a' l c,x=.slice (AA a) l c/\x'=.slice (AA a') l c/\(0<l->RelA ρ a a')/\ks.length=l/\∀(i:Nat) (k:Int),ks[i]? =AA k->v.cell? (a.add i)=AA (.int .u8 k)/\w.cell? (a'.add i)=AA (.int .u8 k)):=by
 have stk: ∀s,(stuck s:Sem AQ).run T.v v=.halt (.stuck s) v:=λs=>rfl
 cases hx with
 |flat hf=>
  (cases x<;>first|exact .inl ⟨_,rfl,Ar⟩|skip);rename_i a n k
  cases a with|none=>exact .inr ⟨[],rfl,.inl ⟨n,k,rfl,rfl,rfl⟩⟩|some _=>exact Ak (show false=true from hf) AV
 | @slice a a' n k ha=>
  rcases AM1 (T:=T) hW ha n 0 #[] with ⟨vs,h1,h2,h3⟩|⟨h,h1,h2⟩
  ·rcases AJs (v:=v) (P:=T.v) (a:=a) (n:=n) (k:=k) (vs:=vs) (by unfold loadCells;rw[h3];simp) with ⟨ks,rfl⟩|⟨h,h4,h5⟩
   ·refine .inr ⟨ks,?_,.inr ⟨a,a',n,k,rfl,rfl,λ_=>ha,by simpa using h1,λi kk hk=>?_⟩⟩
    ·rw[run_bytesToString v a n k ks (by unfold loadCells;rw[h3];simp),foldl_push_bytes];simp[Fa,Ku,ByteArray.emptyWithCapacity];rfl
    obtain⟨x',k1,k2,k3⟩:=h2 i (.int .u8 kk) (by simp[hk]);obtain rfl:=BR k3 rfl;rw[Ky] at k1 k2;exact⟨k1,k2⟩
   exact .inl ⟨h,h4,h5⟩
  refine .inl ⟨h,?_,h2⟩;unfold Px loadCells;simp only[Eu,h1,QJ]
 | @emp b a hc=>exact .inr ⟨[],rfl,.inr ⟨⟨b,0,AB⟩,a,0,0,rfl,rfl,λh=>Ak h (Nat.lt_irrefl 0),rfl,λi k h=>(by cases h)⟩⟩|_=>exact .inl ⟨_,rfl,Ar⟩
end
section
variable {c l:Nat}{A:Option Ag}{w:AL}
def SX (x y:AQ) (s:ByteArray) (l i:Nat) (r12 r13 Jy IE r16 IG:AQ):Array AQ:=
 #[x,y,.string s,.int .i64 l,AU,.bool true,AU,AU,AU,AU,AU,.int .i64 i,r12,r13,Jy,IE,r16,IG,.int .i64 l,.bool true]
theorem Jd:Ae.underlying 62=AA (.slice 5):=(Aj.und _).trans Tryz.underlying62
theorem AJt{a:Ag}{i:Nat}(hi:i<l):(Instr.indexAt 62 (.slice (AA a) l c) (.int .i64 (i:Int))).run Ae w=.ok (.pointer (AA (a.add i))) w:=by
 (have he:Ae.elem 62=5:=by unfold Program.elem;rw[Jd]);rw[run_indexAt_slice _ _ _ _ _ _ _ (by rw[he];exact Jd),he];have hs:(sizeOf 5).run Ae w=.ok 1 w:=Lib.byte_size Az w;rw[hs];(have h1:(0:Int)<=(i:Int)/\(i:Int)<(l:Int):=by omega);simp[h1]
theorem wP(ty:Am):(Un #[62] ty #[.slice A l c]).run Ae w=.ok (.int .i64 (l:Int)) w:=by
 (have he:Ae.elem 62=5:=by unfold Program.elem;rw[Jd]);rw[run_len_slice _ _ _ _ _ _ (by rw[he];exact Jd)];rfl
theorem wQ:(convert 62 9 (.slice A l c)).run Ae w=(Px (.slice A l c)).run Ae w:=by
 have h1:=Jd;have h2:Ae.underlying 9=AA .string:=(Aj.und _).trans Tryz.underlying9;have h3:Ae.underlying 5=AA (.int .u8):=(Aj.und _).trans Tryz.underlying5;simp[convert,IK h1,IK h2,IK h3]
section
variable {Kp:AX->List AX->AL->Prop} (CE: ∀f ts v,Kp f ts v->ts=[]) {Good:VS->Prop} {fn:Bl} {T:Array AQ} {k:List Item} {cs:List AX} {c0:AX} {v v1:AL}
 {ops:Array BX} {i:Nat} {rest:List Nat} {op:BX}
include CE
theorem AJu(x:AQ)(ho:ops[i]? =AA op)(hw:DX op (yielded ops T)=true)(hr:(BI (ev T) op).run Ae v=.ok (.value x) v)
  (next:Vr Ae Kp Good ⟨fr fn (put T op.dst x) (.inRegion ops rest::k) [] AB,c0::cs,v⟩):Vr Ae Kp Good ⟨fr fn T (.inRegion ops (i::rest)::k) [] AB,c0::cs,v⟩:=
 (NS (λx=>by cases CE _ _ _ x) (Xb ho hw (.inl rfl) hr) next).vr
theorem Si{m:String}(h:Ev Ae Kp (fr fn T (.code (.refuse m)::k) [] AB) (c0::cs) v):False:=by
 have e: ∃o u es,Af Ae true (G (fr fn T (.code (.refuse m)::k) [] AB) (c0::cs++[door Ae])) v=.ended o u es:=⟨_,_,_,rfl⟩;obtain⟨o,u,es,e⟩:=e;exact YT CE h e
theorem YU{hh:Halt}(h:Ev Ae Kp (fr fn T (.inRegion ops (i::rest)::k) [] AB) (c0::cs) v)(ho:ops[i]? =AA op)(hw:DX op (yielded ops T)=true)(hr:(BI (ev T) op).run Ae v=.halt hh v)(hs:Halt.still hh):False:=by
 obtain⟨q,u,es,e⟩:=pK (P:=Ae) (mn:=true) (fn:=fn) (T:=T) (k:=k) (D:=[]) (cs:=c0::cs++[door Ae]) (i:=i) (rest:=rest) ho hw hr hs;exact YT CE h e
omit CE in
theorem AAD{s:VS}(h:Ev Ae Kp s.f s.ts s.v)(k:Vr Ae Kp Good s): ∃s',Good s'/\(s'=s\/Jv Ae Kp s' s)/\Ev Ae Kp s'.f s'.ts s'.v:=by
 obtain⟨s',hg,e⟩:=k;refine⟨s',hg,e,?_⟩;rcases e with rfl|e;exact h;exact Ev.PE h e
theorem AJv{x y:AQ}{s:ByteArray}{ks:List Int}(hx:x=.slice A l c)(hl:l<=1073741824)(hks:ks.length=l)(hcell: ∀(i:Nat) (k:Int),ks[i]? =AA k->∃a,A=AA a/\v.cell? (a.add i)=AA (.int .u8 k)):
  ∀(m i:Nat),m+i=l->∀(r12 r13 Jy IE r16 IG:AQ),Ev Ae Kp (fr 47 (SX x y s l i r12 r13 Jy IE r16 IG) [.code Aj.JR,.inLoop Aj.JR,.inBlock 0,.code Aj.Ia] [] AB) (c0::cs) v->
   (∃q12 q13 uf ug q16 uh,Jv Ae Kp ⟨fr 47 (SX x y s l l q12 q13 uf ug q16 uh) [.code Aj.Ia] [] AB,c0::cs,v⟩ ⟨fr 47 (SX x y s l i r12 r13 Jy IE r16 IG) [.code Aj.JR,.inLoop Aj.JR,.inBlock 0,.code Aj.Ia] [] AB,c0::cs,v⟩)/\
   ∀(j:Nat) (k:Int),i<=j->ks[j]? =AA k->0<=k/\k<=255:=by
 intro m
 induction m with
 |zero=>
  intro i hi r12 r13 Jy IE r16 IG hev;(obtain rfl:i=l:=by omega);refine⟨?_,λj k hj hk=>?_⟩
  ·have hvr:o5 Ae Kp (λs'=>∃q12 q13 uf ug q16 uh,s'=⟨fr 47 (SX x y s i i q12 q13 uf ug q16 uh) [.code Aj.Ia] [] AB,c0::cs,v⟩) ⟨fr 47 (SX x y s i i r12 r13 Jy IE r16 IG) [.code Aj.JR,.inLoop Aj.JR,.inBlock 0,.code Aj.Ia] [] AB,c0::cs,v⟩:=by
    unfold SX;refine NS (λx=>by cases CE _ _ _ x) KD ?_;(iterate 4 refine QX ?_);(have hd:decide ((i:Int)<(i:Int))=false:=by simp);refine QX ?_;refine Ib CE (λw=>s_exit rfl) ?_;exact .fin ⟨_,_,_,_,_,_,rfl⟩
   obtain⟨s',⟨q12,q13,uf,ug,q16,uh,rfl⟩,hn⟩:=hvr;exact⟨q12,q13,uf,ug,q16,uh,hn⟩
  have:=(CP.1 hk).1;omega
 |succ m ih=>
  intro i hi r12 r13 Jy IE r16 IG hev;(have hil:i<l:=by omega);obtain⟨kk,hkk⟩: ∃kk,ks[i]? =AA kk:=⟨_,Bo Aa⟩;obtain⟨a,rfl,hc⟩:=hcell i kk hkk;(have hw:IntKind.i64.wrap ((i:Int)+1)=(i:Int)+1:=by rw[IntKind.wrap_i64];omega);have hw2:((i+1:Nat):Int)=(i:Int)+1:=by omega
  have hvr:o5 Ae Kp (λs'=>s'=⟨fr 47 (SX x y s l (i+1) (.bool true) (.pointer (AA (a.add i))) (.int .u8 kk) (.bool (decide (0<=kk))) (.bool (decide (kk<=255))) (.int .i64 ((i+1:Nat):Int))) [.code (.seq (.cond (.tmp 15) .skip (.refuse "")) (.cond (.tmp 16) .skip (.refuse ""))),.inLoop Aj.JR,.inBlock 0,.code Aj.Ia] [] AB,c0::cs,v⟩) ⟨fr 47 (SX x y s l i r12 r13 Jy IE r16 IG) [.code Aj.JR,.inLoop Aj.JR,.inBlock 0,.code Aj.Ia] [] AB,c0::cs,v⟩:=by
   subst hx;unfold SX;refine NS (λx=>by cases CE _ _ _ x) KD ?_;(have hlt:decide ((i:Int)<(l:Int))=true:=by simp;omega);(iterate 8 refine QX ?_);refine AGJ CE (.pointer (AA (a.add i))) rfl rfl (λw=>?_) ?_
   ·show ((Instr.indexAt 62 (.slice (AA a) l c) (.int .i64 (i:Int))>>=λr=>pure (Next.value r)):Sem Next).run Ae w=_;rw[Eu,AJt hil];rfl
   simp only[put];walk_nrm;refine AJu CE (.int .u8 kk) rfl rfl ?_ ?_
   ·have f0:=hc;unfold ev;go_simp;try exact rfl
   simp only[put];walk_nrm;(iterate 5 refine QX ?_);rw[<- hw2];exact .fin rfl
  obtain⟨s',rfl,hn⟩:=hvr;have hev1:=Ev.PE (s:=⟨_,_,_⟩) hev hn;simp only at hev1;have hev2:=PN CE (c:=c0) (ts:=cs) hev1 KD;by_cases h0:0<=kk
  ·by_cases h5:kk<=255
   ·have AS5:Vr Ae Kp (λs'=>s'=⟨fr 47 (SX x y s l (i+1) (.bool true) (.pointer (AA (a.add i))) (.int .u8 kk) (.bool true) (.bool true) (.int .i64 ((i+1:Nat):Int))) [.code Aj.JR,.inLoop Aj.JR,.inBlock 0,.code Aj.Ia] [] AB,c0::cs,v⟩) ⟨fr 47 (SX x y s l (i+1) (.bool true) (.pointer (AA (a.add i))) (.int .u8 kk) (.bool (decide (0<=kk))) (.bool (decide (kk<=255))) (.int .i64 ((i+1:Nat):Int))) [.code (.seq (.cond (.tmp 15) .skip (.refuse "")) (.cond (.tmp 16) .skip (.refuse ""))),.inLoop Aj.JR,.inBlock 0,.code Aj.Ia] [] AB,c0::cs,v⟩:=by
     (have e1:decide (0<=kk)=true:=by simpa using h0);(have e2:decide (kk<=255)=true:=by simpa using h5);rw[e1,e2];unfold SX;(iterate 6 refine QX ?_);exact .fin rfl
    obtain⟨s',rfl,hn2⟩:=AS5
    have hn3:Jv Ae Kp ⟨fr 47 (SX x y s l (i+1) (.bool true) (.pointer (AA (a.add i))) (.int .u8 kk) (.bool true) (.bool true) (.int .i64 ((i+1:Nat):Int))) [.code Aj.JR,.inLoop Aj.JR,.inBlock 0,.code Aj.Ia] [] AB,c0::cs,v⟩ ⟨fr 47 (SX x y s l i r12 r13 Jy IE r16 IG) [.code Aj.JR,.inLoop Aj.JR,.inBlock 0,.code Aj.Ia] [] AB,c0::cs,v⟩:=by
     rcases hn2 with e|hn2;rw[e];exact hn;exact hn2.trans hn
    have AS6:=Ev.PE (s:=⟨_,_,_⟩) hev hn3;obtain⟨⟨q12,q13,uf,ug,q16,uh,hq⟩,hall⟩:=ih (i+1) Aa _ _ _ _ _ _ AS6;refine⟨⟨q12,q13,uf,ug,q16,uh,hq.trans hn3⟩,λj k hj hk=>?_⟩;rcases Nat.eq_or_lt_of_le hj with rfl|hj
    ·rw[hkk] at hk;obtain rfl:=EF hk;exact⟨h0,h5⟩
    exact hall j k hj hk
   exfalso;(have e1:decide (0<=kk)=true:=by simpa using h0);(have e2:decide (kk<=255)=false:=by simpa using h5);rw[e1,e2] at hev2;have h3:=PN CE (c:=c0) (ts:=cs) hev2 (s_cond (b:=true) rfl);have h4:=PN CE (c:=c0) (ts:=cs) h3 RQ;have h5:=PN CE (c:=c0) (ts:=cs) h4 (s_cond (b:=false) rfl);exact Si CE h5
  exfalso;(have e1:decide (0<=kk)=false:=by simpa using h0);rw[e1] at hev2;have h3:=PN CE (c:=c0) (ts:=cs) hev2 (s_cond (b:=false) rfl);exact Si CE h3
end
end
section
variable {s:ByteArray}{l:Nat}{x y:AQ}
noncomputable def ops9:Array BX:=match EP Aj.f47 with| .seq (.region _ o _) _=>o|_=>#[]
noncomputable def c9:Code:=match EP Aj.f47 with| .seq _ c=>c|_=>.skip
noncomputable def AJw:Array BX:=match Aj.Ia with| .seq (.region _ o _) _=>o|_=>#[]
noncomputable def c9p:Code:=match Aj.Ia with| .seq _ c=>c|_=>.skip
theorem AJx{w:AL}(ty:Am):(∃A l c,x=.slice A l c)\/∃h,(Un #[62] ty #[x]).run Ae w=.halt h w/\Halt.still h:=by
 by_cases hx: ∃A l c,x=.slice A l c;exact .inl hx;right;have h1:=Jd
 have key: ∃s,(Un #[62] ty #[x]).run Ae w=.halt (.stuck s) w:=by
  cases x<;>first|exact Ak ⟨_,_,_,rfl⟩ hx|(refine⟨"len: string, array, pointer to array, slice, map or channel expected",?_⟩;simp[Un,IK h1,stuck])
 obtain⟨s,e⟩:=key;exact⟨_,e,Ar⟩
section
variable {Kp:AX->List AX->AL->Prop} (CE: ∀f ts v,Kp f ts v->ts=[]) {Good:VS->Prop} {cs:List AX} {c0:AX} {v:AL}
include CE
theorem AS7{A:Option Ag}{c:Nat}(hx:x=.slice A l c)(hs:(Px x).run Ae v=.ok (.string s) v)
  (hev:Ev Ae Kp (fr 47 #[x,y,AU,AU,AU,AU,AU,AU,AU,AU,AU,AU,AU,AU,AU,AU,AU,AU,AU,AU] [.inRegion ops9 [0,1,2,3,4,5],.code c9] [] AB) (c0::cs) v):
  s.size=l/\l<=1073741824/\Vr Ae Kp (λs'=>s'=⟨fr 47 (SX x y s l 0 AU AU AU AU AU AU) [.code Aj.JR,.inLoop Aj.JR,.inBlock 0,.code Aj.Ia] [] AB,c0::cs,v⟩) ⟨fr 47 #[x,y,AU,AU,AU,AU,AU,AU,AU,AU,AU,AU,AU,AU,AU,AU,AU,AU,AU,AU] [.inRegion ops9 [0,1,2,3,4,5],.code c9] [] AB,c0::cs,v⟩:=by
 have start: ∀{G:VS->Prop},(∀(b5 b19:Bool),b5=decide ((l:Int)<=1073741824)->b19=decide ((s.size:Int)=(l:Int))->Vr Ae Kp G ⟨fr 47 #[x,y,.string s,.int .i64 l,AU,.bool b5,AU,AU,AU,AU,AU,.int .i64 0,AU,AU,AU,AU,AU,AU,.int .i64 s.size,.bool b19] [.inRegion ops9 [],.code c9] [] AB,c0::cs,v⟩)->
   Vr Ae Kp G ⟨fr 47 #[x,y,AU,AU,AU,AU,AU,AU,AU,AU,AU,AU,AU,AU,AU,AU,AU,AU,AU,AU] [.inRegion ops9 [0,1,2,3,4,5],.code c9] [] AB,c0::cs,v⟩:=λ{G} next=>by
  have NX:=AO next;clear next hev;subst hx;have el:ops9=ops9:=rfl
  conv at el=>lhs;simp only[ops9,EP,Dx]
  rw[<- el] at NX⊢;clear el;refine AGJ CE (.int .i64 (l:Int)) rfl rfl (λw=>?_) ?_
  ·rw[U8 (op:=_) rfl];simp only[J9,BN,EG];show ((Un #[62] 3 #[.slice A l c]>>=λr=>pure (Next.value r)):Sem Next).run Ae w=_;rw[Eu,wP];rfl
  simp only[put];walk_nrm;refine AJu CE (.string s) rfl rfl ?_ ?_
  ·show ((convert 62 9 (.slice A l c)>>=λr=>pure (Next.value r)):Sem Next).run Ae v=_;rw[Eu,wQ,hs];rfl
  simp only[put];walk_nrm;(iterate 4 refine QX ?_);exact NX.out _ _ rfl (by first|rfl|simp|(trace_state;rfl))
 by_cases h1:s.size=l
 ·by_cases h2:l<=1073741824
  ·refine⟨h1,h2,start λb5 b19 e5 e19=>?_⟩;(have e5:b5=true:=by rw[e5];simp;omega);(have e19:b19=true:=by rw[e19];simp[h1]);subst e5 e19;rw[h1];have el:c9=c9:=rfl
   conv at el=>lhs;simp only[c9,EP,Dx]
   rw[<- el];clear el;(iterate 9 refine QX ?_);refine Ib CE (λw=>lY) ?_;exact .fin rfl
  exfalso
  obtain⟨s',⟨T,k,rfl⟩,_,h⟩:=AAD (Good:=λs'=>∃T k,s'=⟨fr 47 T (.code (.refuse "")::k) [] AB,c0::cs,v⟩) (s:=⟨_,_,_⟩) hev (start λb5 b19 e5 e19=>by
   (have e5:b5=false:=by rw[e5];simp;omega);(have e19:b19=true:=by rw[e19];simp[h1]);subst e5 e19;have el:c9=c9:=rfl
   conv at el=>lhs;simp only[c9,EP,Dx]
   rw[<- el];clear el;iterate 6 refine QX ?_
   exact .fin ⟨_,_,rfl⟩)
  exact Si CE h
 exfalso
 obtain⟨s',⟨T,k,rfl⟩,_,h⟩:=AAD (Good:=λs'=>∃T k,s'=⟨fr 47 T (.code (.refuse "")::k) [] AB,c0::cs,v⟩) (s:=⟨_,_,_⟩) hev (start λb5 b19 e5 e19=>by
  (have e19:b19=false:=by rw[e19];simp;omega);subst e19;have el:c9=c9:=rfl
  conv at el=>lhs;simp only[c9,EP,Dx]
  rw[<- el];clear el;iterate 3 refine QX ?_
  exact .fin ⟨_,_,rfl⟩)
 exact Si CE h
theorem AS8{r12 r13 Jy IE r16 IG:AQ}(hl:l<=1073741824)(hev:Ev Ae Kp (fr 47 (SX x y s l l r12 r13 Jy IE r16 IG) [.code Aj.Ia] [] AB) (c0::cs) v):
  ∃n sz:Int,y=.int .i64 n/\(n<1->sz=if (1:Int)<l then (l:Int) else 1)/\(1<=n->sz=n)/\sz<=9223372036854775807/\
   o5 Ae Kp (λs'=>s'=⟨c0.finish (Fz 79 s sz),cs,v⟩) ⟨fr 47 (SX x y s l l r12 r13 Jy IE r16 IG) [.code Aj.Ia] [] AB,c0::cs,v⟩:=by
 have e0:Ev Ae Kp (fr 47 (SX x y s l l r12 r13 Jy IE r16 IG) [.inRegion AJw [0,1],.code c9p] [] AB) (c0::cs) v:=
  PN CE (c:=c0) (ts:=cs) (PN CE (c:=c0) (ts:=cs) hev KD) wC
 obtain⟨op,ho,hop,hw⟩: ∃op,AJw[0]? =AA op/\op.op=.binOp .lss 3 (.tmp 1) (.const (.int .i64 1)) 3/\∀T,DX op T=true:=⟨_,rfl,rfl,λ_=>rfl⟩
 have hy: ∃n,y=.int .i64 n:=by
  refine nM λhn=>?_
  have hst: ∃why,(BI (ev (SX x y s l l r12 r13 Jy IE r16 IG)) op).run Ae v=.halt why v/\Halt.still why:=by
   have e1:ev (SX x y s l l r12 r13 Jy IE r16 IG) (.tmp 1)=y:=rfl;have e2:ev (SX x y s l l r12 r13 Jy IE r16 IG) (.const (.int .i64 1))=.int .i64 1:=rfl;unfold BI;simp only[hop,e1,e2]
   cases y with
   |int kk n=>
    cases kk<;>first|exact Ak ⟨n,rfl⟩ hn|exact⟨_,rfl,Ar⟩
   |_=>first|exact⟨_,rfl,Ar⟩|(rename_i y;cases y<;>exact⟨_,rfl,Ar⟩)
  obtain⟨why,hst,hs⟩:=hst;exact YU CE e0 ho (hw _) hst hs
 obtain⟨n,rfl⟩:=hy
 have hmx: ∀w,(Builtin.max_ #[3,3] 3 #[.int .i64 1,.int .i64 (l:Int)]).run Ae w=.ok (.int .i64 (if (1:Int)<l then (l:Int) else 1)) w:=λw=>by
  simp[Builtin.max_,Builtin.max2,Sem.run_pure]
 obtain⟨b6,hb6⟩: ∃b6,b6=decide (n<1):=⟨_,rfl⟩;(obtain⟨mx,AGV⟩: ∃mx:Int,mx=if (1:Int)<l then (l:Int) else 1:=⟨_,rfl⟩);rw[<- AGV] at hmx
 have start: ∀{G:VS->Prop},(∀sz:Int,((b6=true/\sz=mx)\/(b6=false/\sz=n))->Vr Ae Kp G ⟨fr 47 #[x,.int .i64 n,.string s,.int .i64 l,AU,.bool true,.bool b6,.int .i64 mx,.int .i64 sz,.bool (decide (sz<=9223372036854775807)),AU,.int .i64 l,r12,r13,Jy,IE,r16,IG,.int .i64 l,.bool true] [.code (.seq (.cond (.tmp 9) .skip (.refuse "")) (match Aj.Ia with| .seq _ (.seq _ (.seq _ (.seq _ c)))=>c|_=>.skip))] [] AB,c0::cs,v⟩)->
   o5 Ae Kp G ⟨fr 47 (SX x (.int .i64 n) s l l r12 r13 Jy IE r16 IG) [.code Aj.Ia] [] AB,c0::cs,v⟩:=λ{G} next=>by
  have NX:=AO next;clear next hev e0 AGV;unfold SX;refine NS (λx=>by cases CE _ _ _ x) KD ?_;(iterate 2 refine QX ?_);rw[<- hb6];refine AGJ CE (.int .i64 mx) rfl rfl (λw=>?_) ?_
  ·rw[U8 (op:=_) rfl];simp only[J9,BN,EG];show ((Builtin.max_ #[3,3] 3 #[.int .i64 1,.int .i64 (l:Int)]>>=λr=>pure (Next.value r)):Sem Next).run Ae w=_;rw[Eu,hmx];rfl
  simp only[put];walk_nrm;iterate 2 refine QX ?_
  cases b6 with
  |true=>
   (iterate 8 refine QX ?_);exact NX.out mx (.inl ⟨rfl,rfl⟩)
  |false=>
   (iterate 8 refine QX ?_);exact NX.out n (.inr ⟨rfl,rfl⟩)
 have AS9:mx<=9223372036854775807:=by rw[AGV];split<;>omega
 have fin: ∀sz:Int,sz<=9223372036854775807->Vr Ae Kp (λs'=>s'=⟨c0.finish (Fz 79 s sz),cs,v⟩) ⟨fr 47 #[x,.int .i64 n,.string s,.int .i64 l,AU,.bool true,.bool b6,.int .i64 mx,.int .i64 sz,.bool true,AU,.int .i64 l,r12,r13,Jy,IE,r16,IG,.int .i64 l,.bool true] [.code (.seq (.cond (.tmp 9) .skip (.refuse "")) (match Aj.Ia with| .seq _ (.seq _ (.seq _ (.seq _ c)))=>c|_=>.skip))] [] AB,c0::cs,v⟩:=λsz hsz=>by
  clear start hev e0;(iterate 8 refine QX ?_);refine Ib CE (λw=>OZ) ?_;exact wJ CE AB7 (λw=>Md (t:=4) rfl w) (.fin rfl)
 have AEx: ∀sz:Int,((b6=true/\sz=mx)\/(b6=false/\sz=n))->sz<=9223372036854775807:=λsz h=>by
  rcases h with ⟨_,rfl⟩|⟨_,rfl⟩;exact AS9;refine nM λhlt=>?_
  obtain⟨s',⟨T,k,rfl⟩,_,h⟩:=AAD (Good:=λs'=>∃T k,s'=⟨fr 47 T (.code (.refuse "")::k) [] AB,c0::cs,v⟩) (s:=⟨_,_,_⟩) hev (start λsz' h'=>by
   (have e9:decide (sz<=9223372036854775807)=false:=by simpa using hlt);rcases h' with ⟨h1,h2⟩|⟨h1,h2⟩
   ·have h3:= ‹b6=false›;rw[h1] at h3;cases h3
   subst h2;rw[e9];iterate 2 refine QX ?_
   exact .fin ⟨_,_,rfl⟩).vr
  exact Si CE h
 (obtain⟨sz,hsz⟩: ∃sz:Int,(b6=true/\sz=mx)\/(b6=false/\sz=n):=by cases b6<;>simp);refine⟨n,sz,rfl,λh=>?_,λh=>?_,AEx sz hsz,start λsz' h'=>?_⟩
 ·rcases hsz with ⟨_,h2⟩|⟨h1,_⟩;rw[h2,AGV];rw[hb6] at h1;simp at h1;omega
 ·rcases hsz with ⟨h1,_⟩|⟨_,h2⟩;rw[hb6] at h1;simp at h1;omega;exact h2
 have e:sz'=sz:=by
  rcases hsz with ⟨h1,h2⟩|⟨h1,h2⟩<;>rcases h' with ⟨h3,h4⟩|⟨h3,h4⟩<;>first|exact h4.trans h2.symm|(rw[h1] at h3;cases h3)
 subst e;(have e9:decide (sz'<=9223372036854775807)=true:=by simpa using AEx sz' hsz);rw[e9];exact fin sz' (AEx sz' hsz)
end
end
theorem pU{ks:List Int}{i:Nat}(h:i<(Fa ks).size){k:Int}(hk:ks[i]? =AA k):(Fa ks)[i]=UInt8.ofNat k.toNat:=by
 have h1:(Fa ks).data.toList[i]? =AA (Fa ks)[i]:=by
  rw[ZN];exact FZ _
 rw[strOfNums_data,Ba,hk] at h1;exact (EF h1).symm
section
variable {Kp:AX->List AX->AL->Prop} (CE: ∀f ts v,Kp f ts v->ts=[]) {cs:List AX} {c0:AX} {v w:AL} {ρ:Rn}
include CE
theorem AM2(hW:DF K1.F 2 ρ v w){x y x' y':AQ}(hx:BC K1.F ρ x x')(hy:BC K1.F ρ y y')(hev:Ev Ae Kp (Bc Ae 47 #[x,y] .normal) (c0::cs) v):
  ∃(s:ByteArray) (n sz:Int),y'=.int .i64 n/\(n<1->sz=if (1:Int)<s.size then (s.size:Int) else 1)/\(1<=n->sz=n)/\sz<=9223372036854775807/\s.size<=1073741824/\
   Jv Ae Kp ⟨c0.finish (Fz 79 s sz),cs,v⟩ ⟨Bc Ae 47 #[x,y] .normal,c0::cs,v⟩/\
   ((∃c,x'=.slice AB 0 c/\s.size=0)\/∃a' c,x'=.slice (AA a') s.size c/\(0<s.size->∃b,ρ.r b a'.block)/\∀i (h:i<s.size),w.cell? (a'.add i)=AA (.int .u8 (s[i].toNat:Int))):=by
 have hvr:o5 Ae Kp (λs'=>s'=⟨fr 47 #[x,y,AU,AU,AU,AU,AU,AU,AU,AU,AU,AU,AU,AU,AU,AU,AU,AU,AU,AU] [.inRegion ops9 [0,1,2,3,4,5],.code c9] [] AB,c0::cs,v⟩) ⟨Bc Ae 47 #[x,y] .normal,c0::cs,v⟩:=by
  rw[IQ AB7 rfl];simp only[Iq,EY,Hg,Jp,MH,KL,MI,KN,KO,EE,Dn];refine NS (λx=>by cases CE _ _ _ x) KD ?_;refine QX ?_;exact .fin rfl
 obtain⟨s',rfl,nA⟩:=hvr;have dE:=Ev.PE (s:=⟨_,_,_⟩) hev nA;simp only at dE;obtain⟨T,hT⟩: ∃T:Array AQ,T= #[x,y,AU,AU,AU,AU,AU,AU,AU,AU,AU,AU,AU,AU,AU,AU,AU,AU,AU,AU]:=⟨_,rfl⟩;obtain⟨op0,ho0,hop0,hw0,hd0⟩: ∃op,ops9[0]? =AA op/\op.op=.call {callee:=.builtin .len,args:=#[.tmp 0],argTypes:=#[62]}/\(∀T,DX op T=true)/\op.dst=AA 3:=⟨_,rfl,rfl,λ_=>rfl,rfl⟩;obtain⟨op1,ho1,ATA,hw1⟩: ∃op,ops9[1]? =AA op/\op.op=.convert 62 9 (.tmp 0)/\∀T,DX op T=true:=⟨_,rfl,rfl,λ_=>rfl⟩
 have hx0: ∀T:Array AQ,T.getD 0 AU=x->(BI (ev T) op0)=((Un #[62] op0.type #[x]>>=λr=>pure (Go.Next.value r)):Sem Go.Next):=λT h=>by
  rw[U8 hop0];simp only[J9,BN,EG];rw[show ev T (.tmp 0)=x from h];rfl
 have hsl: ∃A l c,x=.slice A l c:=by
  rcases AJx (x:=x) (w:=v) op0.type with h|⟨h,h1,h2⟩;exact h;exfalso;refine YU CE dE ho0 (hw0 _) (hh:=h) ?_ h2;rw[hx0 _ rfl,Eu,h1];rfl
 obtain⟨A,l,c,rfl⟩:=hsl;rcases AEw (T:=T1) hW hx with ⟨h,h1,h2⟩|⟨ks,hok,hcase⟩
 ·exfalso;have AGW:=PN CE (c:=c0) (ts:=cs) dE (Xb (kd:=false) (v:=.int .i64 (l:Int)) (w':=v) ho0 (hw0 _) (.inl rfl) (by rw[hx0 _ rfl,Eu,wP];rfl));refine YU CE AGW ho1 (hw1 _) (hh:=h) ?_ h2
  have e:BI (ev (put #[.slice A l c,y,AU,AU,AU,AU,AU,AU,AU,AU,AU,AU,AU,AU,AU,AU,AU,AU,AU,AU] op0.dst (.int .i64 (l:Int)))) op1=((convert 62 9 (.slice A l c)>>=λr=>pure (Go.Next.value r)):Sem Go.Next):=by
   unfold BI;simp only[ATA,hd0];rfl
  rw[e,Eu,wQ];have h1':(Px (.slice A l c)).run Ae v=.halt h v:=h1;rw[h1'];rfl
 have hok':(Px (.slice A l c)).run Ae v=.ok (.string (Fa ks)) v:=hok;obtain⟨hsz,hl,hvr⟩:=AS7 CE (y:=y) rfl hok' dE;obtain⟨s',rfl,nB,AGW⟩:=AAD (s:=⟨_,_,_⟩) dE hvr;have AJy:ks.length=l:=by rw[<- hsz,strOfNums_size]
 have hcell: ∀(i:Nat) (k:Int),ks[i]? =AA k->∃a,A=AA a/\v.cell? (a.add i)=AA (.int .u8 k):=λi k hk=>by
  rcases hcase with ⟨_,_,_,_,rfl⟩|⟨a,a',l',c',e1,_,_,_,h⟩;(cases hk);(cases e1);exact⟨a,rfl,(h i k hk).1⟩
 obtain⟨⟨q12,q13,uf,ug,q16,uh,nC⟩,hall⟩:=AJv CE (y:=y) (s:=Fa ks) (c0:=c0) (cs:=cs) (c:=c) rfl hl AJy hcell l 0 Aa _ _ _ _ _ _ AGW;have ATB:=Ev.PE (s:=⟨_,_,_⟩) AGW nC;obtain⟨n,sz,rfl,e1,e2,e3,s',rfl,nD⟩:=AS8 CE hl ATB;obtain rfl:=BR hy rfl;refine⟨Fa ks,n,sz,rfl,by rw[hsz];exact e1,e2,e3,by rw[hsz];exact hl,?_,?_⟩
 ·rcases nB with e|nB
  ·rw[e] at nC;exact (nD.trans nC).trans nA
  exact ((nD.trans nC).trans nB).trans nA
 rcases hcase with ⟨l',c',e1,e2,rfl⟩|⟨a,a',l',c',e1,e2,e3,e4,h⟩
 ·(cases e1);refine .inl ⟨c,?_,rfl⟩;rw[e2];(have:l=0:=by rw[<- AJy];rfl);rw[this]
 (cases e1);refine .inr ⟨a',c,by rw[e2,hsz],λhp=>⟨_,(e3 Aa).1⟩,λi hi=>?_⟩;(have hi':i<ks.length:=by rw[AJy,<- hsz];exact hi);obtain⟨k,hk⟩: ∃k,ks[i]? =AA k:=⟨_,Bo hi'⟩;have hr:=hall i k (DW _) hk;rw[(h i k hk).2,pU hi hk]
 have e5:((UInt8.ofNat k.toNat).toNat:Int)=k:=by
  rw[UInt8.toNat_ofNat'];omega
 rw[e5]
end
def Rn.Rq (ρ:Rn) (s:ByteArray) (n:Int) (a b:Nat):Rn:={r:=ρ.r,c:=ρ.c,q:=λs' n' a' b'=>ρ.q s' n' a' b'\/(s'=s/\n'=n/\a'=a/\b'=b)}
theorem Rn.dF{ρ:Rn}{s:ByteArray}{n:Int}{a b:Nat}:ρ.le (ρ.Rq s n a b):=⟨λ_ _ h=>h,λ_ _ h=>h,λ_ _ _ _ h=>.inl h⟩
theorem DF.Rq{F:Fs}{N:Nat}{ρ:Rn}{v w:AL}(h:DF F N ρ v w){s:ByteArray}{n:Int}{a b:Nat}{B:List Nat}(hS:Ij w B s n a b)(hB: ∀c∈B,∀x,¬ρ.r x c):DF F N (ρ.Rq s n a b) v w:=
 ⟨⟨h.ok.fn,h.ok.inj,h.ok.cfn,h.ok.apart,h.ok.low,h.ok.hd⟩,λa b hab=>by
  obtain⟨o,o',h1,h2,h3⟩:=h.obj a b hab
  exact⟨o,o',h1,h2,h3.mono Rn.dF⟩,h.tok,h.nv,h.nw,h.os,λs' n' a' b' hq=>by
  rcases hq with hq|⟨rfl,rfl,rfl,rfl⟩;exact h.seq _ _ _ _ hq
  exact⟨B,hS,hB⟩⟩
section
variable {a:Ag}{fl:Array Bool}{Wi:AX}{c l n:Nat}{ty:Am}{w:AL}
noncomputable def ACK:Array BX:=match EP Tryz.f47 with| .seq _ (.seq (.region _ o _) _)=>o|_=>#[]
noncomputable def cC:Code:=match EP Tryz.f47 with| .seq _ (.seq _ c)=>c|_=>.skip
theorem AEy:(binOp .eql 62 (.slice AB n c) (.slice AB 0 0)).events Tryz.prog w #[]= #[]:=by rfl
theorem AAE{P:BM}{es:Array Event}{m:Mode}{b:Option Ag}:(store a (.slice b l c) m).events P w es=storedEv P w es a (.slice b l c) m:=events_store P w es a _ m rfl
theorem AGX{b:Nat}:
  (builtin .max #[3,3] ty fl #[.int .i64 1,.int .i64 (b:Int)]).run Tryz.prog w=.ok (.value (.int .i64 (if (1:Int)<(b:Int) then (b:Int) else 1))) w/\(builtin .max #[3,3] ty fl #[.int .i64 1,.int .i64 (b:Int)]).events Tryz.prog w #[]= #[]:=⟨rfl,rfl⟩
theorem ACN{a':Ag}:
  (builtin .append #[62,62] ty fl #[.slice (AA a) 0 0,.slice (AA a') 0 c]).run Tryz.prog w=.ok (.value (.slice (AA a) 0 0)) w/\(builtin .append #[62,62] ty fl #[.slice (AA a) 0 0,.slice (AA a') 0 c]).events Tryz.prog w #[]= #[]:=⟨rfl,rfl⟩
section
variable {SR:Nat->Prop} {J:Ad->Own SR->Prop} (hJ:uX Tryz.prog true J) {R:RF SR} {Gb:Nat->Prop} {L:List (Nat×Obj)} {cs:List AX}
include hJ
theorem AJz{o:Own SR}(next:J (G (Wi.finish (.slice AB 0 0)) cs) o):J (G (Bc Tryz.prog 78 #[.slice AB n c] .normal) (Wi::cs)) o:=by
 rw[IQ Tryz.func78 rfl];simp only[Tryz.f78,Iq,EY,Hg,Jp,MH,KL,MI,KN,KO,EE,Dn];(iterate 8 refine Qn ?_);refine EC hJ ?_ (he:=by intro w hw;unfold ev;simp[go_sem,AEy]);(iterate 6 refine Qn ?_);refine CX hJ (λw=>OZ) rfl ?_;exact JU (v:=.slice AB 0 0) hJ Tryz.func78 (λw=>Md (t:=2) rfl w) next
theorem AJ0(next: ∀m0,(∃w,(ow R Gb L).I w/\w.heap.size=m0)->J (G (Wi.finish (.slice (AA ⟨m0,0,AB⟩) 0 0)) cs) (ow R Gb ((m0,.cells #[] 5)::L))):
  J (G (Bc Tryz.prog 78 #[.slice (AA a) 0 c] .normal) (Wi::cs)) (ow R Gb L):=by
 rw[IQ Tryz.func78 rfl];simp only[Tryz.f78,Iq,EY,Hg,Jp,MH,KL,MI,KN,KO,EE,Dn];(iterate 8 refine Qn ?_);refine EC hJ ?_ (he:=by intro w hw;unfold ev;simp[go_sem,gV]);(iterate 5 refine Qn ?_);refine Oa hJ (λm=>.slice (AA ⟨m,0,AB⟩) 0 0) (.cells #[] 5) rfl rfl (.inl rfl) (λw hw=>?_) (λw hw=>?_) λm0 hm0=>?_
 ·unfold ev;simp[go_sem,BI,aQ,newRow,MO]
 ·unfold ev;simp[go_sem,BI,aQ,newRow,MO]
 simp only[put];walk_nrm;refine Qn ?_;refine EC hJ ?_ (hr:=λw _=>IU ACN.1) (he:=λw _=>IU (Gu ACN.2));(iterate 2 refine Qn ?_);refine CX hJ (λw=>OZ) rfl ?_;exact JU (v:=.slice (AA ⟨m0,0,AB⟩) 0 0) hJ Tryz.func78 (λw=>Md (t:=2) rfl w) (next m0 hm0)
theorem AHm{l:List UInt8}(hl:l.length=n)(hn:0<n)(hle:n<=1073741824)(hnews: ∀w,R.R w->∀j v,(Jw l)[j]? =AA v->w.cell? (a.add j)=AA v)(zq:SR a.block)
  (next: ∀m0 m cap,n<=cap->(∃w,(ow R Gb L).I w/\w.heap.size=m0)->m0<m->J (G (Wi.finish (.slice (AA ⟨m,0,AB⟩) n cap)) cs) (ow R Gb ((m,.cells ((Jw l).toArray++IM (cap - n) (.int .u8 0)) 5)::(m0,.cells #[] 5)::L))):
  J (G (Bc Tryz.prog 78 #[.slice (AA a) n c] .normal) (Wi::cs)) (ow R Gb L):=by
 rw[IQ Tryz.func78 rfl];simp only[Tryz.f78,Iq,EY,Hg,Jp,MH,KL,MI,KN,KO,EE,Dn];(iterate 8 refine Qn ?_);refine EC hJ ?_ (he:=by intro w hw;unfold ev;simp[go_sem,gV]);(iterate 5 refine Qn ?_);refine Oa hJ (λm=>.slice (AA ⟨m,0,AB⟩) 0 0) (.cells #[] 5) rfl rfl (.inl rfl) (λw hw=>?_) (λw hw=>?_) λm0 hm0=>?_
 ·unfold ev;simp[go_sem,BI,aQ,newRow,MO]
 ·unfold ev;simp[go_sem,BI,aQ,newRow,MO]
 simp only[put];walk_nrm;refine Qn ?_;refine AGI hJ (.tmp 5) (.tmp 6) rfl (t:=62) (e:=5) (z:=.int .u8 0) Tryz.underlying62 rfl rfl rfl rfl rfl (b0:=m0) rfl (Ee ..) (a:=a) (n:=n) (c:=c) rfl (news:=Jw l) (by simp[Jw,hl]) hn hle AB8 hnews zq rfl rfl rfl λm cap h1 h2 h3=>?_;simp only[put];walk_nrm;(iterate 2 refine Qn ?_);refine CX hJ (λw=>OZ) rfl ?_;refine JU hJ Tryz.func78 (λw=>Md rfl w) ?_;refine next m0 m cap h1 hm0 ?_;obtain⟨w,hw,e⟩:=h3;have:=(Dj.1 (hw.1 (m0,.cells #[] 5) (Ee ..))).1;omega
theorem AAF{A:Option Ag}{n:Int} (next: ∀p1 p2,p1<p2->(∃w,(ow R Gb L).I w/\w.heap.size=p1)->J (G (Bc Tryz.prog 78 #[.slice A l c] .normal) (fr 47 #[.slice A l c,.int .i64 n,.pointer (AA ⟨p1,0,AB⟩),.pointer (AA ⟨p2,0,AB⟩),.nilFunc,.slice A l c,AU,AU,AU,AU,AU,AU,AU] [.inRegion ACK [1,2],.code cC] [] AB::cs))
   (ow R Gb ((p2,.cells #[.int .i64 n] 3)::(p1,.cells #[.slice A l c] 62)::L))):
  J (G (Bc Tryz.prog 47 #[.slice A l c,.int .i64 n] .normal) cs) (ow R Gb L):=by
 have NX:=AO next;clear next;rw[IQ Tryz.func47 rfl];simp only[Tryz.f47,Iq,EY,Hg,Jp,MH,KL,MI,KN,KO,EE,Dn];(iterate 2 refine Qn ?_);refine Oa hJ (λm=>.pointer (AA ⟨m,0,AB⟩)) (.cells #[.slice A l c] 62) rfl rfl (.inl rfl) (λw hw=>?_) (λw hw=>?_) λp1 hp1=>?_
 ·unfold ev;simp[go_sem,BI,TR]
 ·unfold ev;simp[go_sem,BI,TR]
 simp only[put];walk_nrm;refine Oa hJ (λm=>.pointer (AA ⟨m,0,AB⟩)) (.cells #[.int .i64 n] 3) rfl rfl (.inl rfl) (λw hw=>?_) (λw hw=>?_) λp2 hp2=>?_
 ·unfold ev;simp[go_sem,BI,TR]
 ·unfold ev;simp[go_sem,BI,TR]
 simp only[put];walk_nrm
 have hpp:p1<p2:=by
  obtain⟨w,hw,e⟩:=hp2;have:=(Dj.1 (hw.1 (p1,.cells #[.slice A l c] 62) (Ee ..))).1;omega
 have fB: ∀(w:AL),(ow R Gb ((p2,.cells #[.int .i64 n] 3)::(p1,.cells #[.slice A l c] 62)::L)).I w->w.cell? ⟨p1,0,AB⟩=AA (.slice A l c):=λw hw=>by
  rw[I9 (hw.1 (p1,.cells #[.slice A l c] 62) (DD _ (Ee ..)))];rfl
 have rB:(ow R Gb ((p2,.cells #[.int .i64 n] 3)::(p1,.cells #[.slice A l c] 62)::L)).O p1:=.inr (OD (DD _ (Ee ..)));(iterate 4 refine Qn ?_);refine EC hJ ?_ (hr:=by intro w hw;have f0:=fB w hw;unfold ev;go_simp;exact rfl) (he:=by intro w hw;have f0:=fB w hw;unfold ev;simp[go_sem,f0];exact⟨.inl rB,rfl⟩);refine Ro hJ (f:=78) (args:=#[.slice A l c]) rfl rfl (.inl rfl) (λw hw=>?_) (λw hw=>?_) ?_;rw[GR (op:=_) (f:=78) (vs:=#[.slice A l c]) rfl Wu];rfl;rw[GR (op:=_) (f:=78) (vs:=#[.slice A l c]) rfl Wu,YS];intro e he;simp at he;exact NX.out p1 p2 hpp hp1
theorem pV{X:List (Nat×Obj)}{x':AQ}{D:Option Ag}{l c p1 p2:Nat}{n:Int}{cF:AX}{t5:AQ}(h12:p1≠p2)(hS1: ¬SR p1)(hS2: ¬SR p2)(hX: ∀p∈X,p.1≠p1/\p.1≠p2)
  (next: ∀sz:Int,(n<1->sz=if (1:Int)<l then (l:Int) else 1)->(1<=n->sz=n)->J (G (cF.finish (.func (.func 79) #[] #[.pointer (AA ⟨p1,0,AB⟩),.pointer (AA ⟨p2,0,AB⟩)])) cs) (ow R Gb (X++[(p2,.cells #[.int .i64 sz] 3),(p1,.cells #[.slice D l c] 62)]))):
  J (G ((fr 47 #[x',.int .i64 n,.pointer (AA ⟨p1,0,AB⟩),.pointer (AA ⟨p2,0,AB⟩),.nilFunc,t5,AU,AU,AU,AU,AU,AU,AU] [.inRegion ACK [1,2],.code cC] [] AB).finish (.slice D l c)) (cF::cs)) (ow R Gb (X++[(p2,.cells #[.int .i64 n] 3),(p1,.cells #[x'] 62)])):=by
 have NX:=AO next;clear next;have e1:ACK=ACK:=rfl
 conv at e1=>lhs;simp only[ACK,EP,Tryz.f47,Dx]
 have e2:cC=cC:=rfl
 conv at e2=>lhs;simp only[cC,EP,Tryz.f47,Dx]
 rw[<- e1,<- e2,EH (o:=_) rfl];clear e1 e2;simp only[put];walk_nrm;(have key: ∀(x v:AQ) (p:Nat×Obj),p∈X++[(p2,.cells #[x] 3),(p1,.cells #[v] 62)]↔p∈X\/p=(p2,.cells #[x] 3)\/p=(p1,.cells #[v] 62):=λx v p=>by simp);refine AEr hJ (t:=62) (L':=X++[(p2,.cells #[.int .i64 n] 3),(p1,.cells #[.slice D l c] 62)]) (b:=p1) (x:=x') (v:=.slice D l c) AV hS1 (λy=>by simp) (λp hp=>?_) rfl rfl (.inl rfl) (λw f0 f1=>?_) (λw f0 f1=>?_) ?_
 ·rcases (key _ _ _).1 hp with h|rfl|rfl;exact .inr ⟨(key _ _ _).2 (.inl h),(hX p h).1⟩;exact .inr ⟨(key _ _ _).2 (.inr (.inl rfl)),λe=>h12 e.symm⟩;exact .inl rfl
 ·unfold ev;go_simp;try exact rfl
 ·unfold ev;intro e he;simp[go_sem,f0,f1,AAE] at he;exact he
 simp only[put];walk_nrm
 have fB: ∀(w:AL),(ow R Gb (X++[(p2,.cells #[.int .i64 n] 3),(p1,.cells #[.slice D l c] 62)])).I w->w.cell? ⟨p2,0,AB⟩=AA (.int .i64 n):=λw hw=>by
  rw[I9 (hw.1 (p2,.cells #[.int .i64 n] 3) AV)];rfl
 have fA: ∀(w:AL),(ow R Gb (X++[(p2,.cells #[.int .i64 n] 3),(p1,.cells #[.slice D l c] 62)])).I w->w.cell? ⟨p1,0,AB⟩=AA (.slice D l c):=λw hw=>by
  rw[I9 (hw.1 (p1,.cells #[.slice D l c] 62) AV)];rfl
 have rB:(ow R Gb (X++[(p2,.cells #[.int .i64 n] 3),(p1,.cells #[.slice D l c] 62)])).O p2:=.inr AV;have rA:(ow R Gb (X++[(p2,.cells #[.int .i64 n] 3),(p1,.cells #[.slice D l c] 62)])).O p1:=.inr AV;(iterate 4 refine Qn ?_);refine EC hJ ?_ (hr:=by intro w hw;have f0:=fB w hw;unfold ev;go_simp;exact rfl) (he:=by intro w hw;have f0:=fB w hw;unfold ev;simp[go_sem,f0];exact⟨.inl rB,rfl⟩);(iterate 2 refine Qn ?_);by_cases hn:n<1
 ·(have hd:decide (n<1)=true:=by simpa using hn);rw[hd];(iterate 2 refine Qn ?_);refine EC hJ ?_ (hr:=by intro w hw;have f0:=fA w hw;unfold ev;go_simp;exact rfl) (he:=by intro w hw;have f0:=fA w hw;unfold ev;simp[go_sem,f0];exact⟨.inl rA,rfl⟩);refine EC hJ ?_ (hr:=λw _=>IU GH.1) (he:=λw _=>IU (Gu GH.2));refine EC hJ ?_ (hr:=λw _=>IU AGX.1) (he:=λw _=>IU (Gu AGX.2));refine AEr hJ (t:=3) (L':=X++[(p2,.cells #[.int .i64 (if (1:Int)<l then (l:Int) else 1)] 3),(p1,.cells #[.slice D l c] 62)]) (b:=p2) (x:=.int .i64 n) (v:=.int .i64 (if (1:Int)<l then (l:Int) else 1)) AV hS2 (λy=>by simp) (λp hp=>?_) rfl rfl (.inl rfl) (λw f0 f1=>?_) (λw f0 f1=>?_) ?_
  ·rcases (key _ _ _).1 hp with h|rfl|rfl;exact .inr ⟨(key _ _ _).2 (.inl h),(hX p h).2⟩;exact .inl rfl;exact .inr ⟨(key _ _ _).2 (.inr (.inr rfl)),h12⟩
  ·unfold ev;go_simp;try exact rfl
  ·unfold ev;intro e he;simp[go_sem,f0,f1] at he;exact he
  simp only[put];walk_nrm;(iterate 3 refine Qn ?_);refine EC hJ ?_ (he:=by intro w hw;unfold ev;simp[go_sem,aS]);(iterate 2 refine Qn ?_);refine CX hJ (λw=>OZ) rfl ?_;exact JU hJ Tryz.func47 (λw=>Md (t:=4) rfl w) (NX.out _ (λ_=>rfl) (λh=>Ak hn Aa))
 (have hd:decide (n<1)=false:=by simpa using hn);rw[hd];(iterate 4 refine Qn ?_);refine EC hJ ?_ (he:=by intro w hw;unfold ev;simp[go_sem,aS]);(iterate 2 refine Qn ?_);refine CX hJ (λw=>OZ) rfl ?_;exact JU hJ Tryz.func47 (λw=>Md (t:=4) rfl w) (NX.out _ (λh=>Ak h hn) (λ_=>rfl))
end
end
def pW {SR:Nat->Prop} (c0:AX) (cs:List AX) (s:ByteArray) (sz:Int) (a:Ad) (o:Own SR):Prop:=
 ∃p1 p2 B,a=G (c0.finish (vM 79 p1 p2)) cs/\(∀w,o.I w->Ij w B s sz p1 p2)/\∀c∈B,o.O c
section
variable {Z:Nat->Prop} {gs:Array Ad} {t:CJ} {q:Nat->Nat} {sl:Option (Nat×Nat)} {w v:AL} {ρ:Rn} {s:ByteArray} {sz:Int} {c0':AX} {cs0:List AX} {a:Ad}
theorem Vk{SR:Nat->Prop}{R:RF SR}(hpl:Ps Tryz.prog (pW (SR:=SR) c0' cs0 s sz) a (ow R (λ_=>False) []))(hS:Sit Tryz.prog Z gs w t a q)(hW:DF K1.F 2 ρ v w)(hZ:Apart Z ρ w)(hsl:WT Z ρ w)(hR:R.R w)(hSR: ∀b,SR b->b<w.heap.size/\¬Z b):
  ∃(N:Nat) (gs':Array Ad) (w':AL) (sl':Option (Nat×Nat)) (t':CJ) (q':Nat->Nat) (p1 p2:Nat),
   D7 Tryz.prog N (crowd gs w sl) t=(.next (crowd gs' w' sl'),t')/\Sit Tryz.prog Z gs' w' t' (G (c0'.finish (vM 79 p1 p2)) cs0) q'/\Dv Z ρ w Z (ρ.Rq s sz p1 p2) v w':=by
 have hO0: ∀b,¬(ow R (λ_=>False) []).O b:=λb h=>by
  rcases h with h|h;exact h;simp at h
 obtain⟨N,gs',w',sl',t',q',a',o',r1,z1,S1,⟨p1,p2,B,rfl,hSe,hB⟩,I1,E1⟩:=hpl (sl:=sl) hS.AJf ⟨λp hp=>(by cases hp),hR⟩ (λb hb=>Ak hb (hO0 b)) hSR hZ.z;have hold: ∀b,b<w.heap.size->w'.heap[b]? =w.heap[b]? :=λb hb=>E1.keep b hb (hO0 b);have hnew: ∀c∈B,w.heap.size<=c/\¬Z c:=λc hc=>⟨(E1.new c (hB c hc)).elim (λh=>Ak h (hO0 c)) id,(E1.own c (hB c hc)).2⟩
 have hBr: ∀c∈B,∀x,¬ρ.r x c:=λc hc x hx=>by
  have h1:=(hW.dom hx).2;have h2:=(hnew c hc).1;omega
 refine⟨N,gs',w',sl',t',q',p1,p2,r1,⟨S1.at0,S1.leavers,(S1.past.mono (Bd _)).past⟩,Rn.dF,(hW.kept hold E1.sz E1.same.2.1).Rq (hSe w' I1) hBr,⟨hZ.r,λb hb=>Em (hZ.z b hb) E1.sz⟩,λs' n' a' b' hq=>?_,λb hb=>hb,λb hb=>.inl hb,λa b hab _=>⟨a,hab⟩,E1.sz,λb hb _=>hold b hb,E1.same⟩;rcases hq with hq|⟨rfl,rfl,rfl,rfl⟩
 ·exact hsl.kept hold s' n' a' b' hq
 exact⟨B,hSe w' I1,λc hc=>⟨hBr c hc,(hnew c hc).2⟩⟩
end
theorem pX{s:ByteArray}{i:Nat}(h:i<s.size)(n:Nat):((Jw s.data.toList).toArray++IM n (Jq .u8 0))[i]? =AA (.int .u8 (s[i].toNat:Int)):=by
 have h1:s.data.toList[i]? =AA s[i]:=by
  rw[ZN];exact FZ _
 have hl:(Jw s.data.toList).toArray.size=s.size:=by
  simp only[Jw,Iq,DY,WJ];rfl
 rw[nI Aa,Wy];simp only[Jw,Ba,h1];rfl
section
variable {Z:Nat->Prop} {gs:Array Ad} {t:CJ} {q:Nat->Nat} {sl:Option (Nat×Nat)} {w v:AL} {ρ:Rn} {x y x' y':AQ} {Kp:AX->List AX->AL->Prop} {c0 c0':AX} {cs cs0:List AX}
theorem ACO(hS:Sit Tryz.prog Z gs w t (G (Bc Tryz.prog 47 #[x',y'] .normal) (c0'::cs0)) q)(hW:DF K1.F 2 ρ v w)(hZ:Apart Z ρ w)(hsl:WT Z ρ w)(hx:BC K1.F ρ x x')(hy:BC K1.F ρ y y')
  (hev:Ev Ae Kp (Bc Ae 47 #[x,y] .normal) (c0::cs) v) (CE: ∀f ts v,Kp f ts v->ts=[]):
  ∃(N:Nat) (gs':Array Ad) (w':AL) (sl':Option (Nat×Nat)) (t':CJ) (q':Nat->Nat) (s:ByteArray) (sz:Int) (p1 p2:Nat),
   D7 Tryz.prog N (crowd gs w sl) t=(.next (crowd gs' w' sl'),t')/\Sit Tryz.prog Z gs' w' t' (G (c0'.finish (vM 79 p1 p2)) cs0) q'/\
   Jv Ae Kp ⟨c0.finish (Fz 79 s sz),cs,v⟩ ⟨Bc Ae 47 #[x,y] .normal,c0::cs,v⟩/\Dv Z ρ w Z (ρ.Rq s sz p1 p2) v w':=by
 obtain⟨s,n,sz,rfl,e1,e2,e3,e4,hn,hcase⟩:=AM2 CE hW hx hy hev
 have hsz1:1<=sz:=by
  by_cases h:n<1
  ·rw[e1 h];split<;>omega
  rw[e2 Aa];omega
 have AEz: ∀sz':Int,(n<1->sz'=if (1:Int)<s.size then (s.size:Int) else 1)->(1<=n->sz'=n)->sz'=sz:=λsz' h1 h2=>by
  by_cases h:n<1;rw[h1 h,e1 h];rw[h2 Aa,e2 Aa]
 have Vl: ∀{w':AL} {b:Nat} {o:Obj},w'.heap[b]? =AA o->b<w'.heap.size:=λh=>(Dj.1 h).1;rcases hcase with ⟨c,rfl,h0⟩|⟨a',c,rfl,hab,hc⟩
 ·
  have hpl:Ps Tryz.prog (pW (SR:=λ_=>False) c0' cs0 s sz) (G (Bc Tryz.prog 47 #[.slice AB 0 c,.int .i64 n] .normal) (c0'::cs0)) (ow rfT (λ_=>False) []):=AAF NT λp1 p2 h12 hp1=>AJz NT (pV (J:=Ps Tryz.prog (pW (SR:=λ_=>False) c0' cs0 s sz)) NT (X:=[]) (au h12) (λh=>h) (λh=>h) (λp hp=>by cases hp) λsz' f1 f2=>Ps.fin ⟨p1,p2,[p1,p2],rfl,λw' hI=>by
   obtain rfl:=AEz sz' (by rw[h0];exact f1) f2;have g2:=hI.1 (p2,.cells #[.int .i64 sz'] 3) AV;have g1:=hI.1 (p1,.cells #[.slice AB 0 0] 62) AV
   exact⟨λc hc=>by simp only[BF,BH,or_false] at hc;rcases hc with rfl|rfl;exact Vl g1;exact Vl g2,AV,AV,hsz1,e3,e4,⟨AB,0,_,by rw[h0];exact g1,.inl h0⟩,_,g2⟩,
   λc hc=>.inr (by simp at hc⊢;rcases hc with rfl|rfl<;>simp)⟩)
  obtain⟨N,gs',w',sl',t',q',p1,p2,k1,k2,k3⟩:=Vk (sl:=sl) hpl hS hW hZ hsl trivial (λb hb=>hb.elim);exact⟨N,gs',w',sl',t',q',s,sz,p1,p2,k1,k2,hn,k3⟩
 by_cases hpos:s.size=0
 ·rw[hpos] at hS
  have hpl:Ps Tryz.prog (pW (SR:=λ_=>False) c0' cs0 s sz) (G (Bc Tryz.prog 47 #[.slice (AA a') 0 c,.int .i64 n] .normal) (c0'::cs0)) (ow rfT (λ_=>False) []):=AAF NT λp1 p2 h12 hp1=>AJ0 NT λm0 hm0=>by
   have hm:p2<m0:=by
    obtain⟨w1,hw1,rfl⟩:=hm0;exact Vl (hw1.1 (p2,.cells #[.int .i64 n] 3) AV)
   exact @pV (λ_=>False) (Ps Tryz.prog (pW c0' cs0 s sz)) NT rfT (λ_=>False) cs0 [(m0,.cells #[] 5)] (.slice (AA a') 0 c) (AA ⟨m0,0,AB⟩) 0 0 p1 p2 n c0' (.slice (AA a') 0 c) (au h12) (λh=>h) (λh=>h) (λp hp=>by simp only[CB] at hp;subst hp;exact⟨Aa,Aa⟩) λsz' f1 f2=>Ps.fin ⟨p1,p2,[p1,p2],rfl,λw' hI=>by
    obtain rfl:=AEz sz' (by rw[hpos];exact f1) f2;have g2:=hI.1 (p2,.cells #[.int .i64 sz'] 3) AV;have g1:=hI.1 (p1,.cells #[.slice (AA ⟨m0,0,AB⟩) 0 0] 62) AV
    exact⟨λc hc=>by simp only[BF,BH,or_false] at hc;rcases hc with rfl|rfl;exact Vl g1;exact Vl g2,AV,AV,hsz1,e3,e4,⟨_,0,_,by rw[hpos];exact g1,.inl hpos⟩,_,g2⟩,
    λc hc=>.inr (by simp at hc⊢;rcases hc with rfl|rfl<;>simp)⟩
  obtain⟨N,gs',w',sl',t',q',p1,p2,k1,k2,k3⟩:=Vk (sl:=sl) hpl hS hW hZ hsl trivial (λb hb=>hb.elim);exact⟨N,gs',w',sl',t',q',s,sz,p1,p2,k1,k2,hn,k3⟩
 obtain⟨xa,hxa⟩:=hab Aa;have hbl:a'.block<w.heap.size:=(hW.dom hxa).2;(have hll:s.data.toList.length=s.size:=by rw[WJ];rfl);obtain⟨R,hR⟩: ∃R:RF (λb=>b=a'.block),R=frz (λb=>b=a'.block) w (λb hb=>by rw[hb];exact hbl):=⟨_,rfl⟩;have hRR: ∀w',R.R w'->w'.heap[a'.block]? =w.heap[a'.block]? :=λw' h=>by rw[hR] at h;exact h _ rfl
 have hnews: ∀w',R.R w'->∀j v,(Jw s.data.toList)[j]? =AA v->w'.cell? (a'.add j)=AA v:=λw' h j v hv=>by
  have hj:j<s.size:=by
   have:=(CP.1 hv).1;simp only[Jw,DY,hll] at this;exact this
  have h1:=pX hj 0
  have h2:v=.int .u8 (s[j].toNat:Int):=by
   have h3:=(pX hj 0).symm;rw[nI (by simp only[Jw,Iq,DY,hll];exact hj),Wy,hv] at h3;exact (EF h3).symm
  have h3:(a'.add j).block=a'.block:=by unfold Q9;split<;>rfl
  have h4:w'.cell? (a'.add j)=w.cell? (a'.add j):=by
   unfold Pj;rw[h3,hRR w' h]
  rw[h4,hc j hj,h2]
 have hpl:Ps Tryz.prog (pW (SR:=λb=>b=a'.block) c0' cs0 s sz) (G (Bc Tryz.prog 47 #[.slice (AA a') s.size c,.int .i64 n] .normal) (c0'::cs0)) (ow R (λ_=>False) []):=AAF NT λp1 p2 h12 hp1=>AHm NT hll Aa e4 hnews rfl λm0 m cap hcap hm0 hm=>by
  have hm2:p2<m0:=by
   obtain⟨w1,hw1,rfl⟩:=hm0;exact Vl (hw1.1 (p2,.cells #[.int .i64 n] 3) AV)
  have hap:a'.block<p1:=by
   obtain⟨w1,hw1,rfl⟩:=hp1;exact R.lt w1 hw1.2 _ rfl
  exact @pV (λb=>b=a'.block) (Ps Tryz.prog (pW c0' cs0 s sz)) NT R (λ_=>False) cs0 [(m,.cells ((Jw s.data.toList).toArray++IM (cap - s.size) (.int .u8 0)) 5),(m0,.cells #[] 5)] (.slice (AA a') s.size c) (AA ⟨m,0,AB⟩) s.size cap p1 p2 n c0' (.slice (AA a') s.size c) (au h12) (λh=>by have h:p1=a'.block:=h;omega) (λh=>by have h:p2=a'.block:=h;omega) (λp hp=>by simp only[BF,BH,or_false] at hp;rcases hp with rfl|rfl<;>exact⟨by simp only;omega,by simp only;omega⟩) λsz' f1 f2=>Ps.fin ⟨p1,p2,[p1,p2,m],rfl,λw' hI=>by
   obtain rfl:=AEz sz' f1 f2;have g2:=hI.1 (p2,.cells #[.int .i64 sz'] 3) AV;have g1:=hI.1 (p1,.cells #[.slice (AA ⟨m,0,AB⟩) s.size cap] 62) AV;have g3:=hI.1 (m,.cells ((Jw s.data.toList).toArray++IM (cap - s.size) (.int .u8 0)) 5) AV
   exact⟨λc hc=>by simp only[BF,BH,or_false] at hc;rcases hc with rfl|rfl|rfl;exact Vl g1;exact Vl g2;exact Vl g3,AV,AV,hsz1,e3,e4,⟨_,cap,_,g1,.inr ⟨m,0,_,_,rfl,AV,g3,by simp only[Jw,nJ,Iq,DY,hll,Array.size_replicate];omega,hcap,λi hi=>by rw[Ky];exact pX hi _⟩⟩,_,g2⟩,
   λc hc=>.inr (by simp at hc⊢;rcases hc with rfl|rfl|rfl<;>simp)⟩
 obtain⟨N,gs',w',sl',t',q',p1,p2,k1,k2,k3⟩:=Vk (sl:=sl) hpl hS hW hZ hsl (by rw[hR];exact λ_ _=>rfl) (λb hb=>by rw[hb];exact⟨hbl,hZ.r _ _ hxa⟩);exact⟨N,gs',w',sl',t',q',s,sz,p1,p2,k1,k2,hn,k3⟩
end
noncomputable def AJ1:Array BX:=match EP Aj.f46 with| .seq (.region _ o _) _=>o|_=>#[]
noncomputable def c0v:Code:=match EP Aj.f46 with| .seq _ c=>c|_=>.skip
section
variable {Kp:AX->List AX->AL->Prop} (CE: ∀f ts v,Kp f ts v->ts=[]/\f.mode=.returning) {cs:List AX} {c0:AX} {v w:AL} {ρ:Rn}
include CE
theorem AJ2{x x' to:AQ}(hs:vU 79 x)(hx:BC K1.F ρ x x')(hev:Ev Ae Kp (Bc Ae 46 #[x,to] .normal) (c0::cs) v):
  ∃s n p1 p2,x=Fz 79 s n/\x'=vM 79 p1 p2/\ρ.q s n p1 p2:=by
 have Oh: ∀f ts v,Kp f ts v->ts=[]:=λf ts v x=>(CE f ts v x).1;rcases hs with rfl|⟨s,n,rfl⟩
 ·exfalso
  have hvr:o5 Ae Kp (λs'=>s'=⟨fr 46 #[AU,to,AU,AU,AU,AU,AU,AU,AU,AU,AU,AU,AU,AU,AU,AU,AU,AU,AU] [.inRegion AJ1 [0,1,2,3,4,5,6],.code c0v] [] AB,c0::cs,v⟩) ⟨Bc Ae 46 #[AU,to] .normal,c0::cs,v⟩:=by
   rw[IQ wH rfl];simp only[Aj.f46,Iq,EY,Hg,Jp,MH,KL,MI,KN,KO,EE,Dn];refine NS (λx=>by cases Oh _ _ _ x) KD ?_;refine Ib Oh (λw=>s_reg) ?_;exact .fin rfl
  obtain⟨s',rfl,nA⟩:=hvr;have dE:=Ev.PE (s:=⟨_,_,_⟩) hev nA;simp only at dE;obtain⟨op0,ho0,hop0,hw0⟩: ∃op,AJ1[0]? =AA op/\op.op=.call {callee:=.value (.tmp 0),args:=#[.const (.int .i64 0),.const (.int .i64 0),.const (.int .i64 0),.const (.int .i64 0),.const (.int .i64 0)],argTypes:=#[3,3,3,3,3]}/\∀T,DX op T=true:=⟨_,rfl,rfl,λ_=>rfl⟩;obtain⟨T,hT⟩: ∃T:Array AQ,T= #[AU,to,AU,AU,AU,AU,AU,AU,AU,AU,AU,AU,AU,AU,AU,AU,AU,AU,AU]:=⟨_,rfl⟩;rw[<- hT] at dE
  have hex: ∃m,(BI (ev T) op0).run Ae v=.halt (.stuck m) v:=by
   (have e0:ev T (.tmp 0)=AU:=by rw[hT];rfl);unfold BI;simp only[hop0,resolve,e0];exact⟨_,rfl⟩
  obtain⟨m,hex⟩:=hex;exact YU Oh dE ho0 (hw0 _) hex trivial
 generalize e:Fz 79 s n=u at hx;cases hx<;>first|(unfold Fz at e;cases e;done)|skip
 ·rename_i hf;rw[<- e] at hf;exact Ak (show false=true from hf) AV
 ·rename_i hf hv _ _ _ _;unfold Fz at e;cases e;exact Ak hv Aq
 rename_i s' n' a b hq;(have e2:s=s'/\n=n':=by unfold Fz at e;simpa using e);obtain⟨rfl,rfl⟩:=e2;exact⟨_,_,_,_,rfl,rfl,hq⟩
end
section
variable {Kp:AX->List AX->AL->Prop} (CE: ∀f ts v,Kp f ts v->ts=[]/\f.mode=.returning)
include CE
theorem drive1{s:VS}(hev:Ev Ae Kp s.f s.ts s.v)(PH:Nk Ae Kp s): ∀(ρ:Rn) (f':AX) (ts' cs':List AX) (w:AL) (gs:Array Ad) (sl:Option (Nat×Nat)) (t:CJ) (q:Nat->Nat) (Z:Nat->Prop),
  DI K1 T1 ρ s.f f'->Ce (IX K1 T1 ρ) s.ts ts'->DF K1.F 2 ρ s.v w->Apart Z ρ w->WT Z ρ w->Sit Tryz.prog Z gs w t (G f' (ts'++cs')) q->
  ∃(N:Nat) (gs1:Array Ad) (w1:AL) (sl1:Option (Nat×Nat)) (t1:CJ) (q1:Nat->Nat) (Z1:Nat->Prop) (ρ1:Rn) (v1:AL) (f1 f1':AX),
   D7 Tryz.prog N (crowd gs w sl) t=(.next (crowd gs1 w1 sl1),t1)/\Sit Tryz.prog Z1 gs1 w1 t1 (G f1' cs') q1/\Kp f1 [] v1/\DI K1 T1 ρ1 f1 f1'/\Dv Z ρ w Z1 ρ1 v1 w1:=by
 have Oh: ∀f ts v,Kp f ts v->ts=[]:=λf ts v x=>(CE f ts v x).1
 refine Ev.strong (M:=λs=>Nk Ae Kp s->∀(ρ:Rn) (f':AX) (ts' cs':List AX) (w:AL) (gs:Array Ad) (sl:Option (Nat×Nat)) (t:CJ) (q:Nat->Nat) (Z:Nat->Prop),
  DI K1 T1 ρ s.f f'->Ce (IX K1 T1 ρ) s.ts ts'->DF K1.F 2 ρ s.v w->Apart Z ρ w->WT Z ρ w->Sit Tryz.prog Z gs w t (G f' (ts'++cs')) q->
  ∃(N:Nat) (gs1:Array Ad) (w1:AL) (sl1:Option (Nat×Nat)) (t1:CJ) (q1:Nat->Nat) (Z1:Nat->Prop) (ρ1:Rn) (v1:AL) (f1 f1':AX),
   D7 Tryz.prog N (crowd gs w sl) t=(.next (crowd gs1 w1 sl1),t1)/\Sit Tryz.prog Z1 gs1 w1 t1 (G f1' cs') q1/\Kp f1 [] v1/\DI K1 T1 ρ1 f1 f1'/\Dv Z ρ w Z1 ρ1 v1 w1) (λs hev ih=>?_) hev PH
 intro PH ρ f' ts' cs' w gs sl t q Z hf hts hW hZ hsl hS;obtain⟨N,gs1,w1,sl1,t1,q1,a1,ρ1,v1,r1,z1,S1,mv,hc⟩:=lift (sl:=sl) AJY (λp k f1 Dl v hp=>ACF Oh p k f1 Dl v hp) hev PH hf hts hW (λg hg=>hW.ok.hd g (lV hg)) hZ hS;have hsz:w.heap.size<=w1.heap.size:=by have a1:=mv.sv;have a2:=mv.sw;omega
 have hr1: ∀a b,ρ1.r a b->(∃a',ρ.r a' b)\/w.heap.size<=b:=λa b hab=>by
  rcases (mv.new a b).1 hab with h|h;exact .inl ⟨a,h⟩;have:=mv.sw;exact .inr Aa
 have hA1:Apart Z ρ1 w1:=⟨λa b hab hz=>by
  rcases hr1 a b hab with ⟨a',h⟩|h
  ·exact hZ.r a' b h hz
  have:=hZ.z b hz;omega,λb hb=>Em (hZ.z b hb) hsz⟩
 have hsl1:WT Z ρ1 w1:=λs' n a b hq=>by
  rw[mv.tok.2] at hq;obtain⟨B,hB,hc⟩:=hsl s' n a b hq
  have hn: ∀c∈B,∀x,¬ρ1.r x c:=λc hcB x hx=>by
   rcases hr1 x c hx with ⟨a',h⟩|h
   ·exact (hc c hcB).1 a' h
   have:=hB.lt c hcB;omega
  exact⟨B,hB.pR λc hcB=>mv.SC c (hB.lt c hcB) (hc c hcB).1,λc hcB=>⟨hn c hcB,(hc c hcB).2⟩⟩
 have hDv:Dv Z ρ w Z ρ1 v1 w1:=⟨mv.le,mv.rel,hA1,hsl1,λb hb=>hb,λb hb=>.inl hb,λa b hab hb=>by
  rcases hr1 a b hab with h|h;exact h
  omega,hsz,mv.SC,mv.tw⟩
 rcases hc with ⟨f1,Dl,f1',G7,hk,rfl,hf1,AGY⟩|⟨X,p,p',k,f1,Dl,f1',G7,hX,hX',hk,hnx,rfl,hp,hf1,AGY⟩
 ·have e:=(CE _ _ _ hk).1;subst e;(cases AGY);exact⟨N,gs1,w1,sl1,t1,q1,Z,ρ1,v1,f1,f1',r1,S1,hk,hf1,hDv⟩
 subst hk;have AJ3: ∀s',Jv Ae Kp s' s->Nk Ae Kp s':=λs' h s'' h2=>PH s'' (h2.trans h);have hev1:=Ev.PE hev hnx;simp only at hev1
 have hX2:X=47\/X=46:=by
  have h:=hX'.1;simpa using h
 have hp2:p.size=2:=by
  have h:=hX'.2.1;unfold KT at h;rcases hX2 with rfl|rfl<;>simpa using h
 obtain⟨x,y,rfl⟩: ∃x y,p= #[x,y]:=by
  refine⟨p[0],p[1],?_⟩;apply ak;simp[hp2];intro i h1 h2;(have:i=0\/i=1:=by simp at h2;omega);rcases this with rfl|rfl<;>rfl
 obtain⟨x',y',rfl⟩: ∃x y,p'= #[x,y]:=by
  (have hp2':p'.size=2:=by rw[<- hp.1];rfl);refine⟨p'[0],p'[1],?_⟩;apply ak
  ·simp[hp2']
  intro i h1 h2;(have:i=0\/i=1:=by simp at h2;omega);rcases this with rfl|rfl<;>rfl
 have hx:BC K1.F ρ1 x x':=hp.2 0 _ _ rfl rfl;have hy:BC K1.F ρ1 y y':=hp.2 1 _ _ rfl rfl;rcases hX2 with rfl|rfl
 ·
  obtain⟨N2,gs2,w2,sl2,t2,q2,s',sz,p1,p2,r2,S2,n2,d2⟩:=ACO (sl:=sl1) S1 mv.rel hA1 hsl1 hx hy hev1 Oh;obtain⟨N3,gs3,w3,sl3,t3,q3,Z3,ρ3,v3,f3,f3',r3,S3,k3,g3,d3⟩:=ih _ (n2.trans hnx) (AJ3 _ (n2.trans hnx)) _ _ G7 cs' w2 gs2 sl2 t2 q2 _ ((hf1.mono d2.le).finish (.seq (.inr ⟨rfl,rfl,rfl,rfl⟩)) (.inr (.inr ⟨_,_,rfl⟩))) (CV (λ_ _ h=>h.mono d2.le) AGY) d2.rel d2.apart d2.sl S2;exact⟨_,gs3,w3,sl3,t3,q3,Z3,ρ3,v3,f3,f3',Ed (Ed r1 r2) r3,S3,k3,g3,(hDv.trans d2).trans d3⟩
 ·
  obtain⟨s',n,p1,p2,rfl,rfl,hq⟩:=AJ2 CE (hX'.2.2.1 rfl _ rfl) hx hev1;obtain⟨N2,gs2,w2,sl2,t2,q2,Z2,ρ2,v2,cnt,e,r2,S2,n2,d2⟩:=AHl (sl:=sl1) S1 mv.rel hA1 hq hsl1 hev1 hy CE (AJ3 _ hnx)
  obtain⟨N3,gs3,w3,sl3,t3,q3,Z3,ρ3,v3,f3,f3',r3,S3,k3,g3,d3⟩:=ih _ (n2.trans hnx) (AJ3 _ (n2.trans hnx)) _ _ G7 cs' w2 gs2 sl2 t2 q2 _ ((hf1.mono d2.le).finish (.tuple rfl λi a b h1 h2=>by
   rw[h1] at h2;obtain rfl:=EF h2;have:i=0\/i=1:=by have:=(Dj.1 h1).1;simp at this;omega
   rcases this with rfl|rfl<;>(cases h1;exact .flat rfl)) (.inl (hX'.2.2.2.resolve_left Aq))) (CV (λ_ _ h=>h.mono d2.le) AGY) d2.rel d2.apart d2.sl S2
  exact⟨_,gs3,w3,sl3,t3,q3,Z3,ρ3,v3,f3,f3',Ed (Ed r1 r2) r3,S3,k3,g3,(hDv.trans d2).trans d3⟩
end
theorem AE0(P:BM)(a:Ad)(w:AL):Sit P (λ_=>False) #[a] w #[] a (λ_=>0):=
 ⟨rfl,leavers_one P a,past_nil.clean,λi x hx=>by simp[Il,Trace.act?] at hx,past_nil.over,past_nil.hears,λop hop=>by simp at hop⟩
theorem AJ4{P:BM}: ∀{N:Nat} {m m':Machine} {t t':CJ},D7 P N m t=(.next m',t')->runN P N m=.next m':=by
 intro N
 induction N with
 |zero=>intro m m' t t' h;simp only[D7,O5] at h;rw[runN];exact h.1
 |succ n ih=>
  intro m m' t t' h;have hs:=stepT_fst P m true;simp only[D7] at h
  cases hst:stepT P m with
  |mk r ops=>
   have hst':stepT P m true=(r,ops):=hst;rw[hst'] at hs;rw[hst] at h
   cases r with
   |next m1=>
    simp only at h hs;rw[runN,<- hs];exact ih h
   |ended o w=>simp at h
theorem AHn{P:BM}{Z:Nat->Prop}{gs0 gs:Array Ad}{w0 w:AL}{sl0 sl:Option (Nat×Nat)}{t0 t:CJ}{f:AX}{q:Nat->Nat}{N0:Nat}{x:AQ}{Post:AQ->AL->Prop}(r:D7 P N0 (crowd gs0 w0 sl0) t0=(.next (crowd gs w sl),t))(h:Sit P Z gs w t (G f []) q)
  (hst: ∀dd,Af P true (G f []) (w.at dd)=.ended (.done x) (w.at dd) #[]) (pY: ∀dd,Post x (w.at dd)):
  ∃N last o w' t',D7 P (N+1) (crowd gs0 w0 sl0) t0=(.ended o w',t')/\runN P N (crowd gs0 w0 sl0)=.next last/\step P last=.ended o w'/\Good P Post last o w' t':=by
 have hG:Goes P true AtRel (λ_ _ _=>False) (AtEnd P (PG Z) w.heap.size Post) 0 (G f []) w:=by
  intro w1 hw1;obtain⟨dd,rfl⟩:=hw1;exact⟨rfl,x,#[],hst dd,AV,pY dd⟩
 obtain⟨N,last,o,w',t',h1,h2,h3,h4⟩:=beside_ends (sl:=sl) (λ_ _ _ h=>h.elim) h.at0 h.leavers h.past hG;refine⟨N0+N,last,o,w',t',?_,?_,h3,h4⟩;rw[SB,runNT_add,r];exact h1;rw[runN_add,AJ4 r];exact h2
section
variable {ts:List AQ}{r:Nat->Nat->Prop}{v x:AQ}
def rtk (r:Nat->Nat->Prop) (base:Nat) (ts:List AQ):Rn:={r:=r,c:=λa x=>base<=a/\ts[a - base]? =AA x,q:=λ_ _ _ _=>False}
theorem AM3{base:Nat}{us:List AQ}:(rtk r base ts).le (rtk r base (ts++us)):=
 ⟨λ_ _ h=>h,λa x h=>⟨h.1,by
  have h2:ts[a - base]? =AA x:=h.2
  rw[O6 (CP.1 h2).1];exact h2⟩,λ_ _ _ _ h=>h⟩
inductive Own' (r:Nat->Nat->Prop):AQ->Prop
 |flat {x:AQ}:flat x=true->Own' r x|ptr {a:Ag}:r a.block a.block->Own' r (.pointer (AA a))|slice {a:Ag} {n c:Nat}:r a.block a.block->Own' r (.slice (AA a) n c)|iface {t:Am} {x:AQ}:Own' r x->Own' r (.iface t x)|agg {p:Array AQ}:(∀(i:Nat) (x:AQ),p[i]? =AA x->Own' r x)->Own' r (.agg p)
theorem Own'.rel{F:Fs}{base:Nat}(h:Own' r x):BC F (rtk r base ts) x x:=by
 induction h with|flat h=>exact .flat h|ptr h=>exact .ptr ⟨h,rfl,rfl⟩|slice h=>exact .slice ⟨h,rfl,rfl⟩|iface _ ih=>exact .iface ih|agg _ ih=>exact .agg rfl λi v v' h1 h2=>by rw[h1] at h2;cases h2;exact ih i v h1
inductive Sh (r:Nat->Nat->Prop):AQ->AQ->Prop
 |own {x:AQ}:Own' r x->Sh r x x|emp {a b:Ag}: ¬Own' r (.slice (AA a) 0 0)->Sh r (.slice (AA b) 0 0) (.slice (AA a) 0 0)|agg {p p':Array AQ}: ¬Own' r (.agg p)->p'.size=p.size->(∀(i:Nat) (v x:AQ),p'[i]? =AA v->p[i]? =AA x->Sh r v x)->Sh r (.agg p') (.agg p)|any {v x:AQ}: ¬Own' r x->(∀a,x≠ .slice (AA a) 0 0)->(∀p,x≠ .agg p)->Sh r v x
theorem Sh.AAG(h:Sh r v x)(k:Own' r x):v=x:=by
 cases h with|own _=>rfl|emp h=>exact Ak k h|agg h _ _=>exact Ak k h|any h _ _=>exact Ak k h
theorem Sh.AM4{a:Ag}(h:Sh r v (.slice (AA a) 0 0)): ∃b,v=.slice (AA b) 0 0:=by
 cases h with|own _=>exact⟨_,rfl⟩|emp h=>exact⟨_,rfl⟩|any _ h _=>exact Ak rfl (h _)
theorem Sh.AAH{p:Array AQ}(h:Sh r v (.agg p)): ∃p',v=.agg p'/\p'.size=p.size/\∀(i:Nat) (v x:AQ),p'[i]? =AA v->p[i]? =AA x->Sh r v x:=by
 cases h with
 |own h=>
  refine⟨p,rfl,rfl,λi v x h1 h2=>?_⟩;rw[h1] at h2;cases h2
  cases h with|flat hf=>cases hf|agg h=>exact .own (h i v h1)
 |agg _ h1 h2=>exact⟨_,rfl,h1,h2⟩|any _ _ h=>exact Ak rfl (h _)
section
variable {F:Fs} (hp:F.p) {r:Nat->Nat->Prop} {base:Nat}
def RV (F:Fs) (r:Nat->Nat->Prop) (base:Nat) (ts:List AQ) (v x:AQ):Prop:=BC F (rtk r base ts) v x/\Sh r v x
theorem RV.mono{ts us:List AQ}{v x:AQ}(h:RV F r base ts v x):RV F r base (ts++us) v x:=⟨h.1.mono AM3,h.2⟩
theorem Vm{m:Nat}(ih: ∀x:AQ,SizeOf.sizeOf x<=m->∀ts:List AQ,∃us v,RV F r base (ts++us) v x): ∀(l:List AQ),(∀x∈l,SizeOf.sizeOf x<=m)->∀ts:List AQ,∃(us l':List AQ),l'.length=l.length/\∀(i:Nat) (v x:AQ),l'[i]? =AA v->l[i]? =AA x->RV F r base (ts++us) v x:=by
 intro l
 induction l with
 |nil=>exact λ_ ts=>⟨[],[],rfl,λi v x h=>by simp at h⟩|cons y l ihl=>
  intro hl ts;obtain⟨us,v,h1⟩:=ih y (hl y (Ee ..)) ts;obtain⟨us2,l',h2,h3⟩:=ihl (λx hx=>hl x (DD _ hx)) (ts++us);refine⟨us++us2,v::l',by simp[h2],λi a x ha hx=>?_⟩;rw[<- KJ]
  cases i with
  |zero=>
   simp only[tX,DR] at ha hx;subst ha hx;exact h1.mono
  |succ i=>
   simp only[AFw] at ha hx;exact h3 i a x ha hx
include hp
theorem pg: ∀(m:Nat) (x:AQ),SizeOf.sizeOf x<=m->∀ts:List AQ,∃us v,RV F r base (ts++us) v x:=by
 intro m
 induction m with
 |zero=>intro x hx;cases x<;>simp at hx
 |succ m ih=>
  intro x hx ts;by_cases hown:Own' r x;exact⟨[],x,hown.rel,.own hown⟩;have AJ5: ∀y,(ts++[y])[base+ts.length - base]? =AA y:=λy=>by simp
  have tok:nO x=true->(∀a,x≠ .slice (AA a) 0 0)->(∀p,x≠ .agg p)->∃us v,RV F r base (ts++us) v x:=λh h2 h3=>
   ⟨[x],.chan (AA (base+ts.length)),.tok ⟨Aa,AJ5 x⟩ h (.inl hp),.any hown h2 h3⟩
  have arr: ∀p:Array AQ,SizeOf.sizeOf p<=m->∃us,∃p':Array AQ,p'.size=p.size/\∀(i:Nat) (v x:AQ),p'[i]? =AA v->p[i]? =AA x->RV F r base (ts++us) v x:=λp hp=>by
   obtain⟨us,l',h1,h2⟩:=Vm ih p.toList (λx hx=>by
    have:=yh (yI.1 hx)
    omega) ts
   exact⟨us,l'.toArray,by simpa using h1,λi v x hv hx=>h2 i v x (by simpa using hv) (by simpa using hx)⟩
  have hnf:flat x=true->False:=λh=>hown (.flat h)
  cases x with
  |slice a k c=>
   cases a with
   |none=>exact (hnf rfl).elim|some a=>
    by_cases he:k=0/\c=0
    ·obtain⟨rfl,rfl⟩:=he;exact⟨[_],.slice (AA ⟨base+ts.length,0,AB⟩) 0 0,.emp ⟨Aa,AJ5 _⟩,.emp hown⟩
    exact tok (by
     cases k with
     |zero=>cases c with
      |zero=>exact Ak ⟨rfl,rfl⟩ he|succ c=>rfl
     |succ k=>rfl) (λa' e=>by cases e;exact he ⟨rfl,rfl⟩) (λp e=>by cases e)
  |agg p=>
   obtain⟨us,p',h1,h2⟩:=arr p (by simp at hx;omega);exact⟨us,.agg p',.agg h1 λi v x h3 h4=>(h2 i v x h3 h4).1,.agg hown h1 λi v x h3 h4=>(h2 i v x h3 h4).2⟩
  |tuple p=>
   obtain⟨us,p',h1,h2⟩:=arr p (by simp at hx;omega);exact⟨us,.tuple p',.tuple h1 λi v x h3 h4=>(h2 i v x h3 h4).1,.any hown (λ_ e=>by cases e) (λ_ e=>by cases e)⟩
  |func f p q=>
   by_cases hm:YJ (.func f p q)=true;exact⟨[_],nP (base+ts.length),.mf ⟨Aa,AJ5 _⟩ hm,.any hown (λ_ e=>by cases e) (λ_ e=>by cases e)⟩;exact tok (by cases f<;>first|rfl|exact Ak rfl hm) (λ_ e=>by cases e) (λ_ e=>by cases e)
  |pointer a=>cases a with
   |none=>exact (hnf rfl).elim|some a=>exact tok rfl (λ_ e=>by cases e) (λ_ e=>by cases e)
  |map a=>cases a with
   |none=>exact (hnf rfl).elim|some a=>exact tok rfl (λ_ e=>by cases e) (λ_ e=>by cases e)
  |chan a=>cases a with
   |none=>exact (hnf rfl).elim|some a=>exact tok rfl (λ_ e=>by cases e) (λ_ e=>by cases e)
  |_=>first|exact (hnf rfl).elim|exact tok rfl (λ_ e=>by cases e) (λ_ e=>by cases e)
end
end
section
variable {F:Fs} (hFp:F.p) (Bs:Nat->Prop) (W:AL)
def O3 (Bs:Nat->Prop) (a b:Nat):Prop:=a=b/\Bs a
def Uc (F:Fs) (r:Nat->Nat->Prop) (base:Nat) (ts:List AQ) (p' p:Array AQ):Prop:=p'.size=p.size/\∀(i:Nat) (v x:AQ),p'[i]? =AA v->p[i]? =AA x->RV F r base ts v x
include hFp in
theorem ACP(XW:List AQ): ∀n,n<=W.heap.size->∃(ts:List AQ) (jb:List Obj),jb.length=n/\(∃us,ts=XW++us)/\∀b,b<n->Bs b->∀p t f,W.heap[b]? =AA (.cells p t f)->∃p',jb[b]? =AA (.cells p' t f)/\Uc F (O3 Bs) W.heap.size ts p' p:=by
 classical
 intro n
 induction n with
 |zero=>exact λ_=>⟨XW,[],rfl,⟨[],AV⟩,λb hb=>Ak hb (yg _)⟩|succ n ih=>
  intro hn;obtain⟨ts,jb,h1,⟨vs,h0⟩,h2⟩:=ih Aa
  have old: ∀us (o:Obj),∀b,b<n->Bs b->∀p t f,W.heap[b]? =AA (.cells p t f)->∃p',(jb++[o])[b]? =AA (.cells p' t f)/\Uc F (O3 Bs) W.heap.size (ts++us) p' p:=λus o b hb hB p t f hp=>by
   obtain⟨p',h3,h4,h5⟩:=h2 b hb hB p t f hp;exact⟨p',by rw[O6 Aa];exact h3,h4,λi v x hv hx=>(h5 i v x hv hx).mono⟩
  by_cases hB: ∃p t f,W.heap[n]? =AA (.cells p t f)
  ·obtain⟨p,t,f,hp⟩:=hB;obtain⟨us,l',k1,k2⟩:=Vm (F:=F) (r:=O3 Bs) (base:=W.heap.size) (m:=SizeOf.sizeOf p) (λx _ ts=>pg hFp _ x (Bd _) ts) p.toList (λx hx=>Ti (yh (yI.1 hx))) ts;refine⟨ts++us,jb++[.cells l'.toArray t f],by simp[h1],⟨vs++us,by rw[h0,KJ]⟩,λb hb hBb p2 t2 f2 hp2=>?_⟩;rcases XF b n with hlt|hge;exact old us _ b hlt hBb p2 t2 f2 hp2;(obtain rfl:b=n:=by omega);rw[hp] at hp2;(cases hp2);refine⟨l'.toArray,?_,by simpa using k1,λi v x hv hx=>k2 i v x (by simpa using hv) (by simpa using hx)⟩;rw[Ig Aa,h1];simp
  refine⟨ts,jb++[YK],by simp[h1],⟨vs,h0⟩,λb hb hBb p2 t2 f2 hp2=>?_⟩;rcases XF b n with hlt|hge
  ·have:=old [] YK b hlt hBb p2 t2 f2 hp2;simpa using this
  (obtain rfl:b=n:=by omega);exact Ak ⟨_,_,_,hp2⟩ hB
include hFp in
theorem AAI{N:Nat}(hN:N<=W.heap.size)(hlow: ∀b,b<N->Bs b)(hBs: ∀b,Bs b->∃p t f,W.heap[b]? =AA (.cells p t f))(args:Array AQ): ∃(ts:List AQ) (H:Array Obj) (args':Array AQ),DF F N (rtk (O3 Bs) W.heap.size ts) {W with heap:=H} W/\H.size=W.heap.size+ts.length/\
  (∀a,W.heap.size<=a->a<H.size->H[a]? =AA YK)/\(∀b,Bs b->∀p t f,W.heap[b]? =AA (.cells p t f)->∃p',H[b]? =AA (.cells p' t f)/\Uc F (O3 Bs) W.heap.size ts p' p)/\Uc F (O3 Bs) W.heap.size ts args' args:=by
 obtain⟨XW,l',k1,k2⟩:=Vm (F:=F) (r:=O3 Bs) (base:=W.heap.size) (m:=SizeOf.sizeOf args) (λx _ ts=>pg hFp _ x (Bd _) ts) args.toList (λx hx=>Ti (yh (yI.1 hx))) [];obtain⟨ts,jb,h1,⟨us,h0⟩,h2⟩:=ACP (F:=F) hFp Bs W ([]++XW) W.heap.size (Bd _);obtain⟨H,hH⟩: ∃H:Array Obj,H=(jb++List.replicate ts.length YK).toArray:=⟨_,rfl⟩
 have lt: ∀b,Bs b->b<W.heap.size:=λb hb=>by
  obtain⟨p,t,f,h⟩:=hBs b hb;exact (Dj.1 h).1
 have hrow: ∀b,Bs b->∀p t f,W.heap[b]? =AA (.cells p t f)->∃p',H[b]? =AA (.cells p' t f)/\Uc F (O3 Bs) W.heap.size ts p' p:=λb hb p t f hp=>by
  obtain⟨p',h3,h4⟩:=h2 b (lt b hb) hb p t f hp;refine⟨p',?_,h4⟩;rw[hH,Wy,O6 (by have:=lt b hb;omega)];exact h3
 have AJ6: ∀a,W.heap.size<=a->a<W.heap.size+ts.length->H[a]? =AA YK:=λa h3 h4=>by
  rw[hH,Wy,Ig Aa,AFx];simp;omega
 have hsz:H.size=W.heap.size+ts.length:=by rw[hH];simp[h1]
 refine⟨ts,H,l'.toArray,⟨⟨λa b b' h k=>by rw[<- h.1,<- k.1],λa a' b h k=>by rw[h.1,k.1],λa x y h k=>by
   have e1:ts[a - W.heap.size]? =AA x:=h.2;have e2:ts[a - W.heap.size]? =AA y:=k.2;rw[e1] at e2
   exact EF e2,λa b x h k=>by
   have h3:=lt a h.2;have h4:W.heap.size<=a:=k.1
   omega,λa b h k=>h.1,λa ha=>⟨rfl,hlow a ha⟩⟩,λa b hab=>?_,λa x hx=>?_,(by simp only;omega),hN,rfl,λs n a b hq=>hq.elim⟩,hsz,λa h3 h4=>AJ6 a h3 Aa,hrow,by simpa using k1,λi v x hv hx=>by
   rw[h0];exact (k2 i v x (by simpa using hv) (by simpa using hx)).mono⟩
 ·obtain⟨rfl,hb⟩:=hab;obtain⟨p,t,f,hp⟩:=hBs a hb;obtain⟨p',h3,h4,h5⟩:=hrow a hb p t f hp;exact⟨_,_,h3,hp,.cells ⟨h4,λi v x hv hx=>(h5 i v x hv hx).1⟩⟩
 have h3:W.heap.size<=a:=hx.1;have h4:=(CP.1 (show ts[a - W.heap.size]? =AA x from hx.2)).1;exact AJ6 a h3 Aa
end
section
variable {p:Array AQ}{F:Fs}{N:Nat}{ρ0 ρ1:Rn}
theorem wR{ρ:Rn}(ok:ρ.Ok N){a a' b':Ag}(h:RelA ρ a a')(k:RelA ρ a b'):b'=a':=by
 obtain⟨b,o,s⟩:=a;obtain⟨b1,o1,s1⟩:=a';obtain⟨b2,o2,s2⟩:=b';obtain⟨h1,h2,h3⟩:=h;obtain⟨k1,k2,k3⟩:=k;simp only at h1 h2 h3 k1 k2 k3;rw[ok.fn _ _ _ k1 h1,k2,k3,h2,h3]
theorem Xj{p' q':Array AQ}(h:p.size=p'.size)(k:p.size=q'.size)(hd: ∀(i:Nat) (v x y:AQ),p[i]? =AA v->p'[i]? =AA x->q'[i]? =AA y->y=x):q'=p':=by
 apply ak;omega;intro i h1 h2;(have h3:i<p.size:=by omega);exact hd i p[i] p'[i] q'[i] (FZ h3) (FZ h2) (FZ h1)
theorem BC.det(hl:ρ0.le ρ1)(ok:ρ1.Ok N)(hq: ∀s n a b,¬ρ0.q s n a b)(hF:F.v F.z->∀s n a b,¬ρ1.q s n a b){v x:AQ}(k0:BC F ρ0 v x): ∀{y:AQ},BC F ρ1 v y->y=x:=by
 induction k0 with
 |flat hf=>exact λk1=>BR k1 hf|ptr ha=>
  intro y k1;generalize e:Value.pointer _=u at k1;cases k1<;>cases e
  ·rename_i hf;exact Ak (show false=true from hf) AV
  rename_i hb;rw[wR ok (ha.mono hl) hb]
 |slice ha=>
  intro y k1;generalize e:Value.slice _ _ _=u at k1;cases k1<;>cases e
  ·rename_i hf;exact Ak (show false=true from hf) AV
  ·rename_i hb;rw[wR ok (ha.mono hl) hb]
  rename_i hb;exact Ak hb (ok.apart _ _ _ (ha.mono hl).1)
 |emp hcx=>
  intro y k1;generalize e:Value.slice _ _ _=u at k1;cases k1<;>cases e
  ·rename_i hf;exact Ak (show false=true from hf) AV
  ·rename_i hb;exact Ak (hl.c _ _ hcx) (ok.apart _ _ _ hb.1)
  rename_i hb;exact ok.cfn _ _ _ hb (hl.c _ _ hcx)
 |map ha=>
  intro y k1;generalize e:Value.map _=u at k1;cases k1<;>cases e
  ·rename_i hf;exact Ak (show false=true from hf) AV
  rename_i hb;rw[ok.fn _ _ _ hb (hl.r _ _ ha)]
 |chan ha=>
  intro y k1;generalize e:Value.chan _=u at k1;cases k1<;>cases e
  ·rename_i hf;exact Ak (show false=true from hf) AV
  ·rename_i hb;rw[ok.fn _ _ _ hb (hl.r _ _ ha)]
  rename_i _ hb _;exact Ak hb (ok.apart _ _ _ (hl.r _ _ ha))
 |tok hcx _=>
  intro y k1;generalize e:Value.chan _=u at k1;cases k1<;>cases e
  ·rename_i hf;exact Ak (show false=true from hf) AV
  ·rename_i hb;exact Ak (hl.c _ _ hcx) (ok.apart _ _ _ hb)
  rename_i _ hb _;exact ok.cfn _ _ _ hb (hl.c _ _ hcx)
 |func hf hv h1 _ h2 _ i1 i2=>
  intro y k1;generalize e:Value.func _ _ _=u at k1;cases k1<;>cases e
  ·rename_i hx;exact Ak (show false=true from hx) AV
  ·rename_i _ _ k1 k2 k3 k4;rw[Xj h1 k1 λi v x y a b c=>i1 i v x a b (k2 i v y a c),Xj h2 k3 λi v x y a b c=>i2 i v x a b (k4 i v y a c)]
  exact Ak (by assumption) (hF hv _ _ _ _)
 |yield ha=>
  intro y k1;generalize e:Value.func _ _ _=u at k1;cases k1<;>cases e
  ·rename_i hf;exact Ak (show false=true from hf) AV
  rename_i hb;rw[ok.fn _ _ _ hb (hl.r _ _ ha)]
 |seq h=>exact Ak h (hq _ _ _ _)|mf hcx _=>
  intro y k1;generalize e:nP _=u at k1;cases k1<;>cases e
  ·rename_i hf;exact Ak (show false=true from hf) AV
  exact ok.cfn _ _ _ (by assumption) (hl.c _ _ hcx)
 |iface _ ih=>
  intro y k1;generalize e:Value.iface _ _=u at k1;cases k1<;>cases e
  ·rename_i hf;exact Ak (show false=true from hf) AV
  rename_i hb;rw[ih hb]
 |agg h1 _ ih=>
  intro y k1;generalize e:Value.agg _=u at k1;cases k1<;>cases e
  ·rename_i hf;exact Ak (show false=true from hf) AV
  rename_i h2 hb;rw[Xj h1 h2 λi v x y a b c=>ih i v x a b (hb i v y a c)]
 |tuple h1 _ ih=>
  intro y k1;generalize e:Value.tuple _=u at k1;cases k1<;>cases e
  ·rename_i hf;exact Ak (show false=true from hf) AV
  rename_i h2 hb;rw[Xj h1 h2 λi v x y a b c=>ih i v x a b (hb i v y a c)]
theorem AJ7{v0 w0 v1 w1:AL}(h0:DF F N ρ0 v0 w0)(h1:DF F N ρ1 v1 w1)(hl:ρ0.le ρ1)(hq: ∀s n a b,¬ρ0.q s n a b)(hF:F.v F.z->∀s n a b,¬ρ1.q s n a b){a b:Nat}(hab:ρ0.r a b)(hv:v1.heap[a]? =v0.heap[a]?){t:Am}{f:Nat×Nat}(hw:w0.heap[b]? =AA (.cells p t f)):
  w1.heap[b]? =AA (.cells p t f):=by
 obtain⟨o,o',k1,k2,k3⟩:=h0.obj a b hab;obtain⟨q,q',j1,j2,j3⟩:=h1.obj a b (hl.r _ _ hab);rw[hv,k1] at j1;obtain rfl:=EF j1;rw[hw] at k2;obtain rfl:=EF k2;rw[j2];generalize e:QI p t f=u at k3;(cases k3<;>cases e);rename_i p0 hp
 cases j3 with|cells hp2=>rw[Xj hp.1 hp2.1 λi v x y a b c=>(hp.2 i v x a b).det hl h1.ok hq hF (hp2.2 i v y a c)]
end
def KpL (X:Bl) (r:Tmp) (H:Array Obj) (f:AX) (ts:List AX) (v:AL):Prop:=
 ts=[]/\f.mode=.returning/\f.fn=X/\f.defers=[]/\f.tmps[r]? =AA (.bool true)/\∀a,a<H.size->v.heap[a]? =H[a]?
theorem AHo{P:BM}{f:AX}{fn:Func}{r:Tmp}{x:AQ}(hm:f.mode=.returning)(hd:f.defers=[])(hf:P.funcs[f.fn]? =AA fn)(hres:fn.results= #[.tmp r])(hr:f.tmps[r]? =AA x)(hk:f.kind=.normal\/f.kind=.deferred)(hi:P.inits.idxOf? f.fn=AB)(w:AL):
  Af P true (G f []) w=.ended (.done x) w #[]:=by
 have h1:(results fn f.tmps).runT P w #[]=(.ok x w,#[]):=by
  rw[Md hres w,Qz,hr];rfl
 rw[Ik] at h1;have h2:(results fn f.tmps).run P w=.ok x w:=congrArg Ac h1;have h3:(results fn f.tmps).events P w #[]= #[]:=congrArg Prod.snd h1;rcases hk with hk|hk<;>simp[Af,unwind,G,hm,hd,hf,h2,h3,doReturn,hk,hi,GStep.after,seen_none]
theorem hzV:KV.F K1.F.z/\KV.F.v K1.F.z/\∀n,KV.F.a K1.F.z n:=⟨Aq,Aq,λn=>rfl⟩
section
variable {X:Bl} (hX:S1.contains X=true) (hXn:K1.X X=false) {fn:Func} (hfn:Tryz.prog.funcs[X]? =AA fn) {r:Tmp} (hres:fn.results= #[.tmp r]) (hin:Tryz.prog.inits.idxOf? X=AB)
 {args:Array AQ} {W:AL} {Bs:Nat->Prop} (hN:2<=W.heap.size) (hlow: ∀b,b<2->Bs b) (hBs: ∀b,Bs b->∃p t f,W.heap[b]? =AA (.cells p t f))
include hX hXn hfn hres hin hN hlow hBs
theorem AHp{Post:AQ->AL->Prop}(pY: ∀w':AL,W.heap.size<=w'.heap.size->(∀b,b<W.heap.size->w'.heap[b]? =W.heap[b]?)->w'.tape=W.tape->w'.os=W.os->w'.output=W.output->Post (.bool true) w')
  (AQn: ∀(H:Array Obj) (ts:List AQ) (args':Array AQ),W.heap.size<=H.size->(∀b,Bs b->∀p t f,W.heap[b]? =AA (.cells p t f)->∃p',H[b]? =AA (.cells p' t f)/\Uc K1.F (O3 Bs) W.heap.size ts p' p)->Uc K1.F (O3 Bs) W.heap.size ts args' args->
   ∀t:Nat->Question->Nat,(∀j,j<W.drawn->t j=W.tape j)->∃n f' v',runN Ae n (lone (Bc Ae X args' .normal) [door Ae] (({W with heap:=H}:AL).DN t))=.next (lone f' [door Ae] v')/\KpL X r H f' [] v'):
  ∃M last o w' t',D7 Tryz.prog (M+1) (solo (G (Bc Tryz.prog X args .normal) []) W) #[]=(.ended o w',t')/\runN Tryz.prog M (solo (G (Bc Tryz.prog X args .normal) []) W)=.next last/\step Tryz.prog last=.ended o w'/\Conc.Good Tryz.prog Post last o w' t':=by
 obtain⟨ts,H,args',hW,hHs,_,hrow,hargs⟩:=AAI (F:=K1.F) trivial Bs W hN hlow hBs args;obtain⟨ρ0,hρ⟩: ∃ρ0,ρ0=rtk (O3 Bs) W.heap.size ts:=⟨_,rfl⟩;have ha:BB K1.F ρ0 args' args:=⟨hargs.1,λi v v' h1 h2=>by rw[hρ];exact (hargs.2 i v v' h1 h2).1⟩;rw[<- hρ] at hW;(have hq0: ∀s n a b,¬ρ0.q s n a b:=λs n a b h=>by rw[hρ] at h;exact h);(have hr0: ∀a b,ρ0.r a b↔a=b/\Bs a:=λa b=>by rw[hρ];exact nG);have CE: ∀f ts v,KpL X r H f ts v->ts=[]/\f.mode=.returning:=λf ts v h=>⟨h.1,h.2.1⟩
 have AJ8:Q3 KV TV 2 (Bc Ae X args' .normal) [] {W with heap:=H}:=
  ⟨ρ0.left,ρ0.left_id,OU (K:=KV) (T:=TV) fitsV (AGP.f X hX) rfl (ha.left AGP hzV) (.inl rfl),.nil,hW.left AGP hzV,λg hg=>(hW.left AGP hzV).ok.hd g (lV hg)⟩
 have hev:Ev Ae (KpL X r H) (Bc Ae X args' .normal) [] {W with heap:=H}:=by
  refine bar (K:=KV) (T:=TV) (N:=2) fitsV rfl ⟨λ_=>rfl,id⟩ (λf ts v t h=>h) AJ8 (λt ht=>?_);obtain⟨n,f',v',h1,h2⟩:=AQn H ts args' Aa hrow hargs t ht;exact⟨n,f',[],v',h1,h2⟩
 have PH:Nk Ae (KpL X r H) ⟨Bc Ae X args' .normal,[],{W with heap:=H}⟩:=Q3.AQT (K:=KV) (T:=TV) fitsV rfl ⟨λ_=>rfl,id⟩ CE AJ8 hev;obtain⟨N,gs1,w1,sl1,t1,q1,Z1,ρ1,v1,f1,f1',r1,S1,⟨_,km,kf,kd,kr,kh⟩,hf1,dv⟩:=drive1 CE (s:=⟨_,_,_⟩) hev PH ρ0 (Bc Tryz.prog X args .normal) [] [] W #[G (Bc Tryz.prog X args .normal) []] AB #[] (λ_=>0) (λ_=>False) (OU (K:=K1) (T:=T1) AJY hX hXn ha (.inl rfl)) .nil hW ⟨λ_ _ _ h=>h,λ_ h=>h.elim⟩ (λs n a b h=>Ak h (hq0 _ _ _ _)) (AE0 _ _ _)
 have hm':f1'.mode=.returning:=by
  have:=hf1.mode;rw[km] at this;generalize f1'.mode=m at this;(cases this);rfl
 have hd':f1'.defers=[]:=by
  have h1:=hf1.defers;rw[kd] at h1;generalize f1'.defers=l at h1;(cases h1);rfl
 have hfn':f1'.fn=X:=hf1.fn.trans kf
 have hr':f1'.tmps[r]? =AA (.bool true):=by
  obtain⟨y,hy,hyr⟩:=hf1.tmps.get kr;rw[hy,BR hyr rfl]
 have hk':f1'.kind=.normal\/f1'.kind=.deferred:=by rw[hf1.kind.1];exact hf1.kind.2
 have hold: ∀b,b<W.heap.size->w1.heap[b]? =W.heap[b]? :=λb hb=>by
  by_cases hB:Bs b
  ·obtain⟨p,t,f,hp⟩:=hBs b hB;rw[hp];exact AJ7 hW dv.rel dv.le hq0 (λh=>Ak h Aq) ((hr0 b b).2 ⟨rfl,hB⟩) (kh b Aa) hp
  exact dv.keep b hb λa h=>hB (by have:=(hr0 a b).1 h;rw[<- this.1];exact this.2)
 exact AHn (sl0:=AB) r1 S1 (λdd=>AHo hm' hd' (by rw[hfn'];exact hfn) hres hr' hk' (by rw[hfn'];exact hin) _) (λdd=>pY (w1.at dd) dv.sz hold dv.same.1 dv.same.2.1 dv.same.2.2)
end
section
variable {X:Bl} (hX:S1.contains X=true) (hXn:K1.X X=false) {fn:Func} (hfn:Tryz.prog.funcs[X]? =AA fn) (ANe:Ae.funcs[X]? =AA fn) {r:Tmp} (hres:fn.results= #[.tmp r]) (hin:Tryz.prog.inits.idxOf? X=AB)
 {args:Array AQ} {W:AL} {Bs:Nat->Prop} (hN:2<=W.heap.size) (hlow: ∀b,b<2->Bs b) (hBs: ∀b,Bs b->∃p t f,W.heap[b]? =AA (.cells p t f))
include hX hXn hfn ANe hres hin hN hlow hBs
theorem AE1{Post:AQ->AL->Prop}(pY: ∀w':AL,W.heap.size<=w'.heap.size->(∀b,b<W.heap.size->w'.heap[b]? =W.heap[b]?)->w'.tape=W.tape->w'.os=W.os->w'.output=W.output->Post (.bool true) w')
  (AM5: ∀(H:Array Obj) (ts:List AQ) (args':Array AQ),W.heap.size<=H.size->(∀b,Bs b->∀p t f,W.heap[b]? =AA (.cells p t f)->∃p',H[b]? =AA (.cells p' t f)/\Uc K1.F (O3 Bs) W.heap.size ts p' p)->Uc K1.F (O3 Bs) W.heap.size ts args' args->
   ∀t:Nat->Question->Nat,Calls Ae X args' (({W with heap:=H}:AL).DN t) fun| .returned v,w'=>v=.bool true/\∀a,a<H.size->w'.heap[a]? =H[a]?|_,_=>False):
  ∃M last o w' t',D7 Tryz.prog (M+1) (solo (G (Bc Tryz.prog X args .normal) []) W) #[]=(.ended o w',t')/\runN Tryz.prog M (solo (G (Bc Tryz.prog X args .normal) []) W)=.next last/\step Tryz.prog last=.ended o w'/\Conc.Good Tryz.prog Post last o w' t':=by
 refine AHp hX hXn hfn hres hin hN hlow hBs pY λH ts args' hz hrow hargs t _=>?_;obtain⟨e,w',f,hR,hcomes,hff,hl⟩:=AM5 H ts args' hz hrow hargs t [door Ae]
 cases e with
 |panicked chain=>exact hR.elim|outgrown=>exact hR.elim|returned v=>
  obtain⟨rfl,hh⟩:=hR;obtain⟨n,hn⟩:=hcomes;obtain⟨hm,hd,hk,fn',hf',hr⟩:=hl;rw[hff,ANe] at hf';obtain rfl:=EF hf';have h1:=Md (P:=Ae) (T:=f.tmps) hres w';rw[Ik] at h1;have h2:(results fn f.tmps).run Ae w'=.ok (f.tmps.getD r AU) w':=congrArg Ac h1;rw[hr] at h2;simp only[Result.ok.injEq,and_true] at h2;refine⟨n,f,w',hn,rfl,hm,hff,hd,?_,hh⟩;rw[Qz] at h2
  cases h3:f.tmps[r]? with|none=>rw[h3] at h2;cases h2|some y=>rw[h3] at h2;rw[h2];rfl
end
end Go.Proofs.YtkkgcebhfghdnaaGreatDoor
