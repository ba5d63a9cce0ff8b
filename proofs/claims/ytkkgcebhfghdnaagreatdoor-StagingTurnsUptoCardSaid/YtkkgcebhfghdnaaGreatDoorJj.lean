/- Part 10 of what that rests on; no condition. -/
import Derived.Test.YtkkgcebhfghdnaaGreatDoorJi
import Derived.Conc.AppendWalk
import Derived.Test.YtkkgcebhfghdnaaGreatDoorChecked
set_option maxRecDepth 100000
set_option maxHeartbeats 8000000
open Go.Extern.Rtype renaming directlyAssignable→AGR, directlyAssignable→AAh, implements→lG
open Go.Extern.ReflectliteType renaming assignableTo→Tv, implements_→lF, abiMethod→lH, relation→P6, ofRtype→AAg, toType→kz, typeOf→Vy, method→lC, elem→lD
open Go.Extern.ReflectliteValue renaming valueError→Ol, methodAny→AAi, partsAny→UA, flagAddr→AAj, unpack→Tz, method→UB, parts→Vz, isNil→Yd, elem→Ye, set→dK
open Go.Builtin renaming nextslicecap→rW, zeroCells→Nh
open Go.Region.linearise renaming go→YY
open Option renaming getD_some→Dt, map_some→FY, none→AB, some→AA
open Array renaming replicate→IK
open Go.Region renaming wanted→DV, binds→YX
open Go.Sem renaming run_bind→Eh, runT_eq→Ik
open List renaming range→FZ
open Go renaming zeroValue→GM, Deferred→EK, typeInfo→I4, Program→BL, FuncId→Bi, TypeId→Aj, execOp→BG, maxLen→EO, Value→AP, undef→AU, World→AL, Frame→AX, stepG→Ae, Addr→Ag
open Prod renaming fst→Aa
namespace Go.Proofs.YtkkgcebhfghdnaaGreatDoor
open Go Go.Conc
section
variable {fn:Bi}{x:List (Nat×Obj)}{p:Nat×Obj}
def MQ:Code->Option (Array Tmp×Code×Code)
 | .rangeFunc _ ps a b=>AA (ps,a,b)| .seq a b=>(MQ a).or (MQ b)| .block _ c| .loop c| .scope c=>MQ c|_=>AB
noncomputable def EM (f:Func):Code:=f.body.getD .skip
noncomputable def rA (f:Func):Code:=((MQ (EM f)).map (·.2.1)).getD .skip
noncomputable def rB (f:Func):Code:=((MQ (EM f)).map (·.2.2)).getD .skip
noncomputable def rP (f:Func):Array Tmp:=((MQ (EM f)).map (·.1)).getD #[]
structure LS where
 st:LoopState
 pd:Option Code
def LS.ready:LS:=⟨.ready,AB⟩
def LS.busy:LS:=⟨.busy,AB⟩
def LS.left:LS:=⟨.done,AA .ret⟩
noncomputable def lp (fn:Bi) (f:Func) (tm:Array AP) (d:Nat) (s:LS):Obj:=.loop {state:=s.st,pending:=s.pd,fn:=fn,tmps:=tm,params:=rP f,assign:=rA f,body:=rB f,defers:=d}
structure WB where
 l1:Nat
 l2:Nat
 d1:Nat
 d2:Nat
 T1:Array AP
 T2:Array AP
 bx:List (Nat×Obj)
noncomputable def Lw (W:WB) (x:List (Nat×Obj)) (s1 s2:LS):List (Nat×Obj):=
 (W.l1,lp 75 Tryz.f75 W.T1 W.d1 s1)::(W.l2,lp 79 Tryz.f79 W.T2 W.d2 s2)::(W.d1,.deferred (AA []))::(W.d2,.deferred (AA []))::(W.bx++x)
theorem ADt{W:WB}{s1 s2:LS}:(W.l1,lp 75 Tryz.f75 W.T1 W.d1 s1)∈Lw W x s1 s2:=D9 ..
theorem ADu{W:WB}{s1 s2:LS}:(W.l2,lp 79 Tryz.f79 W.T2 W.d2 s2)∈Lw W x s1 s2:=CO _ (D9 ..)
theorem eP{W:WB}{s1 s2:LS}(h:p∈W.bx):p∈Lw W x s1 s2:=CO _ (CO _ (CO _ (CO _ (Fh _ h))))
theorem AMQ{W:WB}{s1 s2:LS}(h:p∈x):p∈Lw W x s1 s2:=CO _ (CO _ (CO _ (CO _ (Gx _ h))))
def isCells (o:Obj):Prop:=∃c t f,o=.cells c t f
structure WB.Ok (W:WB):Prop where
 bx: ∀p∈W.bx,isCells p.2
 dd:W.d1≠W.d2
structure RF.Ok {SR:Nat->Prop} (R:RF SR):Prop where
 cl: ∀w,R.R w->∀b,SR b->∃o,w.heap[b]? =AA o/\isCells o
section
variable {C:Cx} {P:BL} (hP:C.P=P) {s:Bool} {kk:Nat} {R:RF C.SR} (hR:R.Ok) {Gb:Nat->Prop} {W:WB} (hW:W.Ok) {x:List (Nat×Obj)} (hx: ∀p∈x,isCells p.2) {g g':Goroutine} {s1 s2:LS}
theorem Es{f:Func}{tm:Array AP}{d:Nat}{s:LS}: ¬isCells (lp fn f tm d s):=by rintro⟨c,t,f,e⟩;cases e
theorem JP{d:Option (List EK)}: ¬isCells (.deferred d):=by rintro⟨c,t,f,e⟩;cases e
theorem Uo(hP:C.P=P)(hR:R.Ok){L L':List (Nat×Obj)}{b:Nat}{ob ob':Obj}(hb:(b,ob)∈L)(hnc: ¬isCells ob)(iM: ∀y,y∈L'.map Aa↔y∈L.map Aa)(hL: ∀p∈L',p=(b,ob')\/(p∈L/\(p.2=ob->p.1≠b))){es:Array Event}
  (hev: ∀e∈es,e=⟨.obj b,false,false⟩\/e=⟨.obj b,true,false⟩)
  (h: ∀w:AL,w.heap[b]? =AA ob->∃es',Ae P false g w=.go g' {w with heap:=w.heap.setIfInBounds b ob'} es'/\∀e∈es',e∈es) (hr:g.status=.running)
  (next:PW C (.work s) kk g' (ow R Gb L')):PW C (.work s) kk g (ow R Gb L):=by
 subst hP;refine .QG (λ_=>g') (λ_=>ow R Gb L') hr (λw hw=>?_) λ_ _=>next;have h0:=hw.1 _ hb;obtain⟨es',h1,h2⟩:=h w h0;have hlt:b<w.heap.size:=(Df.1 h0).1;have hne: ∀y,y≠b->(w.heap.setIfInBounds b ob')[y]? =w.heap[y]? :=λy hy=>Dw (Ir hy);refine⟨_,_,h1,⟨⟨λp hp=>?_,?_⟩,AV,λy=>?_,λy _ hy=>hne y λe=>hy (.inr (by rw[e];exact Nz hb)),⟨rfl,rfl,rfl⟩,λe he=>?_⟩⟩
 ·show (w.heap.setIfInBounds b ob')[p.1]? =_;rcases hL p hp with rfl|⟨hp,hn⟩;rw[WY hlt];have h3:=hw.1 p hp;rw[hne p.1 λe=>hn (by rw[e,h0] at h3;exact (EF h3).symm) e];exact h3
 ·refine R.st w _ hw.2 (λy hy=>hne y λe=>?_) AV;obtain⟨o,ho,hc⟩:=hR.cl w hw.2 y hy;rw[e,h0] at ho;(cases ho);exact hnc hc
 ·show (Gb y\/y∈L'.map Aa)↔(Gb y\/y∈L.map Aa)\/_;rw[iM];constructor;exact .inl;rintro (x|x);exact x;(have:({w with heap:=w.heap.setIfInBounds b ob'}:AL).heap.size=w.heap.size:=by simp);omega
 rcases hev e (h2 e he) with rfl|rfl;exact⟨.inr ((iM _).2 (Nz hb)),AV⟩;exact⟨.inr ((iM _).2 (Nz hb)),AV⟩
include hP hR hW hx
theorem ADv{s1':LS}(h: ∀w:AL,w.heap[W.l1]? =AA (lp 75 Tryz.f75 W.T1 W.d1 s1)->Ae P false g w=.go g' {w with heap:=w.heap.setIfInBounds W.l1 (lp 75 Tryz.f75 W.T1 W.d1 s1')} (seen P fn #[⟨.obj W.l1,false,false⟩,⟨.obj W.l1,true,false⟩]))
  (hr:g.status=.running) (next:PW C (.work s) kk g' (ow R Gb (Lw W x s1' s2))):PW C (.work s) kk g (ow R Gb (Lw W x s1 s2)):=by
 refine Uo hP hR (b:=W.l1) (D9 ..) Es (λy=>by simp[Lw]) (λp hp=>?_) (es:=#[⟨.obj W.l1,false,false⟩,⟨.obj W.l1,true,false⟩]) AV (λw hw=>⟨_,h w hw,λe he=>Du he⟩) hr next;simp only[Lw,BB,Be] at hp;rcases hp with rfl|rfl|rfl|rfl|hp|hp;exact .inl rfl
 ·refine .inr ⟨by simp[Lw],λe=>?_⟩;simp[lp] at e
 exact .inr ⟨by simp[Lw],λe=>by cases e⟩;exact .inr ⟨by simp[Lw],λe=>by cases e⟩;exact .inr ⟨by simp[Lw,hp],λe=>Ai (e▸hW.bx p hp) Es⟩;exact .inr ⟨by simp[Lw,hp],λe=>Ai (e▸hx p hp) Es⟩
theorem ADw{s2':LS}(h: ∀w:AL,w.heap[W.l2]? =AA (lp 79 Tryz.f79 W.T2 W.d2 s2)->Ae P false g w=.go g' {w with heap:=w.heap.setIfInBounds W.l2 (lp 79 Tryz.f79 W.T2 W.d2 s2')} (seen P fn #[⟨.obj W.l2,false,false⟩,⟨.obj W.l2,true,false⟩]))
  (hr:g.status=.running) (next:PW C (.work s) kk g' (ow R Gb (Lw W x s1 s2'))):PW C (.work s) kk g (ow R Gb (Lw W x s1 s2)):=by
 refine Uo hP hR (b:=W.l2) (CO _ (D9 ..)) Es (λy=>by simp[Lw]) (λp hp=>?_) (es:=#[⟨.obj W.l2,false,false⟩,⟨.obj W.l2,true,false⟩]) AV (λw hw=>⟨_,h w hw,λe he=>Du he⟩) hr next;simp only[Lw,BB,Be] at hp;rcases hp with rfl|rfl|rfl|rfl|hp|hp
 ·refine .inr ⟨by simp[Lw],λe=>?_⟩;simp[lp] at e
 exact .inl rfl;exact .inr ⟨by simp[Lw],λe=>by cases e⟩;exact .inr ⟨by simp[Lw],λe=>by cases e⟩;exact .inr ⟨by simp[Lw,hp],λe=>Ai (e▸hW.bx p hp) Es⟩;exact .inr ⟨by simp[Lw,hp],λe=>Ai (e▸hx p hp) Es⟩
end
end
section
variable {T:Twin} {F:Fs} {N:Nat} {ρ:Rn} {α β γ:Type}
theorem YB{s:String}{c c':Bool}(h:c=c'):AY T F N Ec (if c=true then unsupported (.noEntry s) else pure ():Sem Unit) ρ (if c'=true then unsupported (.noEntry s) else pure ()):=by
 subst h;(cases c);exact λ_=>rfl;exact λ_=>Am
theorem nJ{P:BL}(h:P.bearsPack=false)(t:Aj):P.packed t=false:=by
 unfold Program.packed Program.packedAs;rw[List.filter_eq_nil_iff.2];rfl;intro c hc;unfold Program.bearsPack at h;have:=Array.any_eq_false'.1 h c (ADH.2 hc);simp only[dQ,Bool.not_eq_false'] at this;simp[this]
theorem AIK(T:Twin):T.v.bearsPack=T.P.bearsPack:=rfl
theorem YC(hb:T.P.bearsPack=false)(t:Aj):T.v.packed t=T.P.packed t:=by
 rw[nJ hb,nJ (P:=T.v) (by rw[AIK];exact hb)]
theorem XN(hb:T.P.bearsPack=false): ∀(d:Nat),T.v.holdsPacked d=T.P.holdsPacked d
 |0=>rfl
 |d+1=>by
  funext t;unfold Program.holdsPacked;rw[YC hb,XN hb d];rfl
theorem XO(hb:T.P.bearsPack=false): ∀(d:Nat),T.v.namesPacked d=T.P.namesPacked d
 |0=>rfl
 |d+1=>by
  funext t;unfold Program.namesPacked;rw[YC hb,XO hb d];rfl
theorem TU(hb:T.P.bearsPack=false): ∀(d:Nat),T.v.methodsOfAPack d=T.P.methodsOfAPack d
 |0=>rfl
 |d+1=>by
  funext t;unfold Program.methodsOfAPack;rw[YC hb,TU hb d];rfl
theorem nK(T:Twin):T.v.depth=T.P.depth:=rfl
theorem TW(hb:T.P.bearsPack=false)(s:String)(t:Aj):AY T F N Ec (Extern.Rtype.noPack s t) ρ (Extern.Rtype.noPack s t):=
 CU.bind λ_ p p' _ e=>by obtain⟨rfl,rfl⟩:=e;exact YB (YC hb t)
theorem jf(hb:T.P.bearsPack=false)(s:String)(t:Aj):AY T F N Ec (Extern.Rtype.noPackHeld s t) ρ (Extern.Rtype.noPackHeld s t):=
 CU.bind λ_ p p' _ e=>by obtain⟨rfl,rfl⟩:=e;exact CU.bind λ_ q q' _ e=>by obtain⟨rfl,rfl⟩:=e;exact YB (by rw[XN hb,nK])
theorem eQ(hb:T.P.bearsPack=false)(s:String)(t:Aj):AY T F N Ec (Extern.Rtype.noPackNamed s t) ρ (Extern.Rtype.noPackNamed s t):=
 CU.bind λ_ p p' _ e=>by obtain⟨rfl,rfl⟩:=e;exact CU.bind λ_ q q' _ e=>by obtain⟨rfl,rfl⟩:=e;exact YB (by rw[XO hb,nK])
theorem IY(hb:T.P.bearsPack=false)(s:String)(t:Aj):AY T F N Ec (Extern.Rtype.noPackMethods s t) ρ (Extern.Rtype.noPackMethods s t):=
 CU.bind λ_ p p' _ e=>by obtain⟨rfl,rfl⟩:=e;exact CU.bind λ_ q q' _ e=>by obtain⟨rfl,rfl⟩:=e;exact YB (by rw[TU hb,nK])
theorem yg(t:Aj):AY T F N Ec (typeStr t) ρ (typeStr t):=
 (Cm t).bind λ_ i i' _ e=>by
  obtain⟨rfl,_⟩:=e;show AY T F N Ec (if i.str.isEmpty=true then unsupported (.noEntry "a type whose name as gc spells it is not known") else pure i.str:Sem String) _ (if i.str.isEmpty=true then unsupported (.noEntry "a type whose name as gc spells it is not known") else pure i.str);split;exact λ_=>Am;exact λ_=>rfl
theorem ZP(hb:T.P.bearsPack=false)(t:Aj):AY T F N Ec (Extern.Rtype.spelt t) ρ (Extern.Rtype.spelt t):=
 (eQ hb _ t).bind λ_ _ _ _ _=>yg t
theorem PD(t:Aj):AY T F N Ec (Extern.Rtype.under t) ρ (Extern.Rtype.under t):=
 (Cm t).bind λ_ i i' _ e=>by
  obtain⟨rfl,_⟩:=e;obtain⟨d,_⟩:=i;cases d<;>first|exact λ_=>rfl|exact (Cm _).bind λ_ j j' _ e=>by obtain⟨rfl,_⟩:=e;exact λ_=>rfl
theorem YD(t:Aj):AY T F N Ec (Extern.Rtype.kind t) ρ (Extern.Rtype.kind t):=by
 refine (PD t).bind λ_ p p' _ e=>?_;obtain rfl:p=p':=e;obtain⟨u,i⟩:=p;obtain⟨d,_⟩:=i;cases d<;>first|exact λ_=>rfl|exact λ_=>Am|(rename_i k;cases k<;>exact λ_=>rfl)
theorem ah(t:Aj):AY T F N Ec (Extern.Rtype.hasName t) ρ (Extern.Rtype.hasName t):=
 (Cm t).bind λ_ i i' _ e=>by
  obtain⟨rfl,_⟩:=e;obtain⟨d,_⟩:=i;cases d<;>exact λ_=>rfl
theorem nM(t:Aj):AY T F N Ec (Extern.Rtype.elem? t) ρ (Extern.Rtype.elem? t):=
 (PD t).bind λ_ p p' _ e=>by
  obtain rfl:p=p':=e;obtain⟨u,i⟩:=p;obtain⟨d,_⟩:=i;cases d<;>exact λ_=>rfl
theorem Qc(hb:T.P.bearsPack=false)(t u:Aj):AY T F N Ec (Extern.Rtype.implements t u) ρ (Extern.Rtype.implements t u):=by
 refine (IY hb _ u).bind λ_ _ _ _ _=>(IY hb _ t).bind λ_ _ _ _ _=>?_;refine (PD t).bind λ_ p p' _ e=>?_;obtain rfl:p=p':=e;refine (PD u).bind λ_ q q' _ e=>?_;obtain rfl:q=q':=e;obtain⟨a,i⟩:=p;obtain⟨d,_⟩:=i;obtain⟨b,j⟩:=q;obtain⟨e,_⟩:=j;(cases d<;>first|exact λ_=>rfl|skip);cases e<;>first|exact λ_=>rfl|exact (Cm u).bind λ_ j j' _ e=>by obtain⟨rfl,_⟩:=e;exact λ_=>rfl
theorem V7(t u:Aj):AY T F N Ec (AGR t u) ρ (AGR t u):=by
 unfold AGR;by_cases h:(t==u)=true;simp only[h,if_true];exact λ_=>rfl;simp only[h,if_false,C9];refine (ah t).bind λ_ x x' _ e=>?_;obtain rfl:x=x':=e;refine (ah u).bind λ_ y y' _ e=>?_;obtain rfl:y=y':=e;by_cases h:(x && y)=true;simp only[h,if_true];exact λ_=>rfl;simp only[h,if_false,C9];refine (PD t).bind λ_ p p' _ e=>?_;obtain rfl:p=p':=e;refine (PD u).bind λ_ q q' _ e=>?_;obtain rfl:q=q':=e;obtain⟨a,i⟩:=p;obtain⟨d,_⟩:=i;obtain⟨b,j⟩:=q;obtain⟨e,_⟩:=j;(cases d<;>first|exact λ_=>rfl|skip);cases e<;>first|exact λ_=>rfl|(rename_i k _;cases k<;>exact λ_=>rfl)
theorem ABV(hN:T.P.globals.size<N)(t:Aj):AY T F N (QV F) (Extern.Rtype.handle t) ρ (Extern.Rtype.handle t):=by
 intro hok;exact (CU.bind λρ₁ p p' l1 e=>by obtain⟨rfl,rfl⟩:=e;exact λhok=>iF hN hok t) hok
theorem UL(hN:T.P.globals.size<N){x x':AP}(h:Az F ρ x x'):AY T F N Ec (Extern.Rtype.ofHandle x) ρ (Extern.Rtype.ofHandle x'):=by
 intro hok;refine (AY.bind CU λρ₁ p p' l1 e=>?_) hok;obtain⟨rfl,rfl⟩:=e;by_cases hx: ∃a,x=.pointer (AA a)
 ·obtain⟨a,rfl⟩:=hx;obtain⟨p',rfl,hp⟩:=Dh h
  cases p' with
  |none=>exact hp.elim|some a'=>
   have ha:RelA ρ a a':=hp;have e1:(a.block==T.P.globals.size)=(a'.block==T.P.globals.size):=RelA.beq (N:=N) (b:=⟨T.P.globals.size,0,AB⟩) (b':=⟨T.P.globals.size,0,AB⟩) hok ha ⟨hok.hd _ hN,rfl,rfl⟩
   have e2:handleType T.v (.pointer (AA a))=handleType T.P (.pointer (AA a')):=by
    (show (if (a.block==T.P.globals.size)=true then AA a.off else AB)=if (a'.block==T.P.globals.size)=true then AA a'.off else AB);rw[e1,ha.2.1]
   rw[e2]
   cases handleType T.P (.pointer (AA a')) with|none=>exact λ_=>Am|some t=>exact λ_=>rfl
 have:handleType T.v x=AB:=by
  unfold handleType;split;exact Ai ⟨_,rfl⟩ hx;rfl
 rw[this];exact λ_=>Am
end
open Go.Extern
section
variable {f:Array AP->Sem AP}
section
variable {T:Twin} {F:Fs} {N:Nat} {ρ:Rn} {α β γ:Type}
theorem um(h1: ∀{ρ:Rn} {x x':AP},Az F ρ x x'->AY T F N (QV F) (f #[x]) ρ (f #[x']))(h2: ∀p:Array AP,(∀x,p≠ #[x])->∃s,f p=stuck s):KJ T F N f:=by
 intro ρ p p' hp;by_cases h: ∃x,p= #[x]
 ·obtain⟨x,rfl⟩:=h;obtain⟨l⟩:=p';obtain⟨e,h3⟩:=hp;rcases l with _|⟨x',_|⟨_,_⟩⟩;simp at e
  ·exact h1 (h3 0 x x' rfl rfl)
  simp at e
 obtain⟨s,hs⟩:=h2 p λx e=>h ⟨x,e⟩;rw[hs];exact λ_=>Am
theorem AMR(h1: ∀{ρ:Rn} {x x' y y':AP},Az F ρ x x'->Az F ρ y y'->AY T F N (QV F) (f #[x,y]) ρ (f #[x',y']))(h2: ∀p:Array AP,(∀x y,p≠ #[x,y])->∃s,f p=stuck s):KJ T F N f:=by
 intro ρ p p' hp;by_cases h: ∃x y,p= #[x,y]
 ·obtain⟨x,y,rfl⟩:=h;obtain⟨l⟩:=p';obtain⟨e,h3⟩:=hp;rcases l with _|⟨x',_|⟨y',_|⟨_,_⟩⟩⟩;simp at e;simp at e
  ·exact h1 (h3 0 x x' rfl rfl) (h3 1 y y' rfl rfl)
  simp at e
 obtain⟨s,hs⟩:=h2 p λx y e=>h ⟨x,y,e⟩;rw[hs];exact λ_=>Am
theorem ADx:KJ T F N MapsClone.clone:=by
 refine um (λ{ρ x x'} h=>?_) λp hp=>?_
 ·unfold MapsClone.clone
  cases h with
  |flat hf=>cases x<;>first|exact Ai (show false=true from hf) AV|exact λ_=>Am
  | @iface t v v' hv=>
   cases hv with
   |flat hf=>
    (cases v<;>first|exact λ_=>Am|exact Ai (show false=true from hf) AV|skip);rename_i a;cases a<;>first|exact Ai (show false=true from hf) AV|exact λ_=>Am
   |map hb=>
    intro hok;refine⟨hb,λo o' ho=>?_⟩
    cases ho with
    | @map es es' c hs he=>
     have fin:AY T F N (QV F) (newObj (.map es c)>>=λb=>pure (.iface t (.map (AA b))):Sem AP) ρ (newObj (.map es' c)>>=λb=>pure (.iface t (.map (AA b)))):=
      (XB (.map hs he)).bind λ_ _ _ _ hb=>λ_=>.iface (.map hb)
     exact fin hok
    |_=>exact Am
   |_=>exact λ_=>Am
  |_=>exact λ_=>Am
 obtain⟨l⟩:=p;rcases l with _|⟨x,_|⟨y,l⟩⟩;exact⟨_,rfl⟩;exact Ai rfl (hp x);exact⟨_,rfl⟩
theorem ai(s:String):AY T F N Ec (cutType s) ρ (cutType s):=by
 refine CU.bind λρ₁ p p' l1 e=>?_;obtain⟨rfl,rfl⟩:=e;show AY T F N Ec (match T.P.cutTypes.find? (·.1==s) with|some (_,t)=>pure t|none=>stuck ("the program has no row for the type " ++s):Sem Aj) ρ₁ (match T.P.cutTypes.find? (·.1==s) with|some (_,t)=>pure t|none=>stuck ("the program has no row for the type " ++s))
 cases T.P.cutTypes.find? (·.1==s) with|none=>exact λ_=>Am|some q=>exact λ_=>rfl
theorem XP(hN:T.P.globals.size<N)(t:Aj):AY T F N (QV F) (kz t) ρ (kz t):=by
 refine (ai _).bind λρ₁ u u' l1 e=>?_;obtain rfl:u=u':=e;refine (ABV hN t).bind λρ₂ h h' l2 hh=>λ_=>.iface ?_;have:=Au.one hh;exact .agg this.1 this.2
theorem VM(hN:T.P.globals.size<N)(hb:T.P.bearsPack=false){x x':AP}(h:Az F ρ x x'):AY T F N Ec (AAg x) ρ (AAg x'):=by
 have key: ∀{p p':Array AP},Au F ρ p p'->AY T F N Ec (AAg (.agg p)) ρ (AAg (.agg p')):=by
  intro p p' hp;obtain⟨l⟩:=p;obtain⟨l'⟩:=p';obtain⟨e,h3⟩:=hp;(rcases l with _|⟨y,_|⟨_,_⟩⟩<;>rcases l' with _|⟨y',_|⟨_,_⟩⟩<;>first|exact λ_=>Am|(simp at e;done)|skip);refine (UL hN (h3 0 y y' rfl rfl)).bind λρ₁ t t' l1 e=>?_;obtain rfl:t=t':=e;exact (TW hb _ t).bind λ_ _ _ _ _=>λ_=>rfl
 cases h with
 |flat hf=>cases x<;>first|exact λ_=>Am|exact Ai (show false=true from hf) AV
 |agg h1 h2=>exact key ⟨h1,h2⟩|_=>exact λ_=>Am
theorem ABW(hN:T.P.globals.size<N):KJ T F N Vy:=by
 refine um (λ{ρ x x'} h=>?_) λp hp=>?_
 ·unfold Vy
  cases h with
  |flat hf=>cases x<;>first|exact Ai (show false=true from hf) AV|exact λ_=>Am|exact λ_=>.flat rfl
  |iface=>exact XP hN _|_=>exact λ_=>Am
 obtain⟨l⟩:=p;rcases l with _|⟨x,_|⟨y,l⟩⟩;exact⟨_,rfl⟩;exact Ai rfl (hp x);exact⟨_,rfl⟩
theorem iO(hN:T.P.globals.size<N)(hb:T.P.bearsPack=false){f:Aj->Sem AP}(hf: ∀{ρ:Rn} (t:Aj),AY T F N (QV F) (f t) ρ (f t)):KJ T F N (lC f):=by
 refine um (λ{ρ x x'} h=>?_) λp hp=>?_
 ·exact (VM hN hb h).bind λρ₁ t t' l1 e=>by obtain rfl:t=t':=e;exact hf t
 obtain⟨l⟩:=p;rcases l with _|⟨x,_|⟨y,l⟩⟩;exact⟨_,rfl⟩;exact Ai rfl (hp x);exact⟨_,rfl⟩
theorem LZ{Q:Rn->α->β->Prop}(m:String):AY T F N Q (panicString m:Sem α) ρ (panicString m:Sem β):=
 CU.bind λρ₁ p p' l1 e=>by obtain⟨rfl,rfl⟩:=e;exact Qz (.iface (.flat rfl))
theorem ADy(hN:T.P.globals.size<N)(hb:T.P.bearsPack=false)(t:Aj):AY T F N (QV F) (lD t) ρ (lD t):=by
 refine (nM t).bind λρ₁ q q' l1 e=>?_;obtain rfl:q=q':=e
 cases q with
 |none=>exact (ZP hb t).bind λ_ s s' _ e=>by obtain rfl:s=s':=e;exact LZ _
 |some u=>exact XP hN u
theorem ADz(hb:T.P.bearsPack=false)(u t:Aj):AY T F N Ec (lF u t) ρ (lF u t):=by
 refine (YD u).bind λρ₁ k k' l1 e=>?_;obtain rfl:k=k':=e
 have rest:AY T F N Ec (do Rtype.noPackMethods "Implements" t;Rtype.noPack "Implements" u;lG u t:Sem Bool) ρ₁ (do Rtype.noPackMethods "Implements" t;Rtype.noPack "Implements" u;lG u t):=
  (IY hb _ t).bind λ_ _ _ _ _=>(TW hb _ u).bind λ_ _ _ _ _=>Qc hb u t
 by_cases h:(k !=20)=true
 ·simp only[h,if_true];exact AY.bind (Q:=λ_ _ _=>False) (LZ _) λ_ _ _ _ e=>e.elim
 simp only[h,if_false,C9];exact rest
theorem yh(hb:T.P.bearsPack=false)(u t:Aj):AY T F N Ec (Tv u t) ρ (Tv u t):=by
 have rest: ∀{ρ:Rn},AY T F N Ec (do pure ((<- AAh u t) || (<- lG u t)):Sem Bool) ρ (do pure ((<- AAh u t) || (<- lG u t))):=by
  intro ρ;refine (V7 u t).bind λρ₁ x x' l1 e=>?_;obtain rfl:x=x':=e;exact (Qc hb u t).bind λ_ y y' _ e=>by obtain rfl:y=y':=e;exact λ_=>rfl
 unfold Tv;by_cases h:(u !=t)=true
 ·simp only[h,if_true];exact (IY hb _ t).bind λ_ _ _ _ _=>(IY hb _ u).bind λ_ _ _ _ _=>rest
 simp only[h,if_false,C9];exact rest
theorem Yq(hN:T.P.globals.size<N)(hb:T.P.bearsPack=false)(w:String){f:Aj->Aj->Sem Bool}(hf: ∀{ρ:Rn} (u t:Aj),AY T F N Ec (f u t) ρ (f u t)):KJ T F N (P6 w f):=by
 refine AMR (λ{ρ x x' y y'} h k=>?_) λp hp=>?_
 ·unfold P6
  cases k with
  |flat hf=>cases y<;>first|exact Ai (show false=true from hf) AV|exact λ_=>Am|exact LZ _
  | @iface t v v' hv=>
   refine (VM hN hb hv).bind λρ₁ u u' l1 e=>?_;obtain rfl:u=u':=e;refine (VM hN hb (h.mono l1)).bind λρ₂ t t' l2 e=>?_;obtain rfl:t=t':=e;exact (hf u t).bind λ_ x x' _ e=>by obtain rfl:x=x':=e;exact λ_=>.flat rfl
  |_=>exact λ_=>Am
 obtain⟨l⟩:=p;rcases l with _|⟨x,_|⟨y,_|⟨z,l⟩⟩⟩;exact⟨_,rfl⟩;exact⟨_,rfl⟩;exact Ai rfl (hp x y);exact⟨_,rfl⟩
theorem AIL(hN:T.P.globals.size<N)(hb:T.P.bearsPack=false){f:Aj->Sem AP}(hf: ∀{ρ:Rn} (t:Aj),AY T F N (QV F) (f t) ρ (f t)):KJ T F N (lH f):=by
 refine um (λ{ρ x x'} h=>?_) λp hp=>?_
 ·refine (UL hN h).bind λρ₁ t t' l1 e=>?_;obtain rfl:t=t':=e;exact (TW hb _ t).bind λ_ _ _ _ _=>hf t
 obtain⟨l⟩:=p;rcases l with _|⟨x,_|⟨y,l⟩⟩;exact⟨_,rfl⟩;exact Ai rfl (hp x);exact⟨_,rfl⟩
theorem AD0(t:Aj):AY T F N (QV F) (do pure (.int .u8 (<- Rtype.kind t)):Sem AP) ρ (do pure (.int .u8 (<- Rtype.kind t))):=
 (YD t).bind λ_ k k' _ e=>by obtain rfl:k=k':=e;exact λ_=>.flat rfl
theorem jg(hb:T.P.bearsPack=false)(t:Aj):AY T F N (QV F) (do Rtype.noPackHeld "Comparable" t;pure (.bool (<- I4 t).comparable):Sem AP) ρ (do Rtype.noPackHeld "Comparable" t;pure (.bool (<- I4 t).comparable)):=
 (jf hb _ t).bind λ_ _ _ _ _=>(Cm t).bind λ_ i i' _ e=>by obtain⟨rfl,_⟩:=e;exact λ_=>.flat rfl
end
end
section
variable {a a':Ag}{z:Sem AP}{f:Aj->Ag->Nat->Nat->Sem AP}{x x':AP}
section
variable {T:Twin} {F:Fs} {N:Nat} {ρ:Rn} {α β γ:Type}
theorem AFV(hN:T.P.globals.size<N)(t:Aj)(h:RelA ρ a a')(fl:Nat):AY T F N (QV F) (ReflectliteValue.mk t a fl) ρ (ReflectliteValue.mk t a' fl):=by
 refine (ABV hN t).bind λρ₁ x x' l1 hx=>?_;refine (YD t).bind λρ₂ k k' l2 e=>?_;obtain rfl:k=k':=e;have:=((Au.one (hx.mono l2)).push (Az.ptr ((h.mono l1).mono l2))).push (Az.flat (F:=F) (ρ:=ρ₂) (v:=.int .u64 (Int.ofNat (k+ReflectliteValue.flagIndir+fl))) rfl);exact λ_=>.agg this.1 this.2
theorem nN:Az F ρ ReflectliteValue.zeroV ReflectliteValue.zeroV:=by
 have:=Au.VA (F:=F) (ρ:=ρ) (p:=#[.pointer AB,.pointer AB,.int .u64 0]) (by intro z hz;simp at hz;rcases hz with rfl|rfl<;>rfl);exact .agg this.1 this.2
theorem iP(hN:T.P.globals.size<N)(h:Az F ρ x x'):AY T F N (QV F) (Tz x) ρ (Tz x'):=by
 unfold Tz
 cases h with
 |flat hf=>cases x<;>first|exact Ai (show false=true from hf) AV|exact λ_=>Am|exact λ_=>nN
 | @iface t v v' hv=>exact (Nj t hv).bind λρ₁ a a' l1 ha=>AFV hN t ha 0|_=>exact λ_=>Am
theorem yj(hN:T.P.globals.size<N):KJ T F N (λargs=>Tz (args.getD 0 (.tuple #[]))):=λhp=>iP hN (hp.getD 0)
theorem Et{Q:Rn->α->β->Prop}(m:String)(k:Nat):AY T F N Q (Ol m k:Sem α) ρ (Ol m k:Sem β):=by
 refine (ai _).bind λρ₁ t t' l1 e=>?_;obtain rfl:t=t':=e;refine (Wn t).bind λρ₂ u u' l2 e=>?_;obtain rfl:u=u':=e;have:=Au.VA (F:=F) (ρ:=ρ₂) (p:=#[strVal m,.int .u8 (Int.ofNat k)]) (by intro z hz;simp at hz;rcases hz with rfl|rfl<;>rfl);exact (Nj u (.agg this.1 this.2)).bind λρ₃ a a' l3 ha=>Qz (.iface (.ptr ha))
def QPa (ρ:Rn) (x y:Option (Aj×Ag×Nat)):Prop:=match x,y with
 |some p,AA q=>p.1=q.1/\RelA ρ p.2.1 q.2.1/\p.2.2=q.2.2|none,AB=>True|_,_=>False
theorem Yr(hN:T.P.globals.size<N)(h:Az F ρ x x'):AY T F N QPa (UA x) ρ (UA x'):=by
 have key: ∀{p p':Array AP},Au F ρ p p'->AY T F N QPa (UA (.agg p)) ρ (UA (.agg p')):=by
  intro p p' hp;obtain⟨l⟩:=p;obtain⟨l'⟩:=p';obtain⟨e,h3⟩:=hp;(rcases l with _|⟨a,_|⟨b,_|⟨c,_|⟨_,_⟩⟩⟩⟩<;>first|exact λ_=>Am|skip);(rcases l' with _|⟨a',_|⟨b',_|⟨c',_|⟨_,_⟩⟩⟩⟩<;>first|(simp at e;done)|skip);have ha:=h3 0 a a' rfl rfl;have hb:=h3 1 b b' rfl rfl;have hc:=h3 2 c c' rfl rfl;clear e h3;(cases c<;>first|exact λ_=>Am|skip);rename_i kd n;rw[BP hc rfl];cases kd<;>first|exact λ_=>Am|skip
  have go: ∀m:Int,(∀(y:AP) (r:Ag),UA (.agg #[y,.pointer (AA r),.int .u64 m])=(Rtype.ofHandle y>>=λt=>pure (AA (t,r,m.toNat))))->
    (∀y z:AP,(∀r,z≠ .pointer (AA r))->UA (.agg #[y,z,.int .u64 m])=stuck "reflectlite: a Value expected")->
    AY T F N QPa (UA (.agg #[a,b,.int .u64 m])) ρ (UA (.agg #[a',b',.int .u64 m])):=by
   intro m e1 e2;by_cases hbp: ∃q,b=.pointer (AA q)
   ·obtain⟨q,rfl⟩:=hbp;obtain⟨q',rfl,hq⟩:=Dh hb
    cases q' with
    |none=>exact hq.elim|some q'=>
     rw[e1,e1];exact (UL hN ha).bind λρ₁ t t' l1 e=>by obtain rfl:t=t':=e;exact λ_=>⟨rfl,RelA.mono l1 hq,rfl⟩
   rw[e2 a b λr e=>hbp ⟨r,e⟩];exact λ_=>Am
  have no: ∀(m:Int) (z:AP),(∀r,z≠ .pointer (AA r))->∀y,m≠0->UA (.agg #[y,z,.int .u64 m])=stuck "reflectlite: a Value expected" :=by
   intro m z hz y hm
   cases m with
   |ofNat k=>cases k with
    |zero=>exact Ai rfl hm|succ k=>cases z<;>first|rfl|(rename_i r;cases r<;>first|rfl|exact Ai rfl (hz _))
   |negSucc k=>cases z<;>first|rfl|(rename_i r;cases r<;>first|rfl|exact Ai rfl (hz _))
  cases n with
  |ofNat k=>cases k with
   |zero=>exact λ_=>Am|succ k=>exact go _ (λ_ _=>rfl) λy z hz=>no _ z hz y (λe=>by cases e)
  |negSucc k=>exact go _ (λ_ _=>rfl) λy z hz=>no _ z hz y AV
 cases h with
 |flat hf=>cases x<;>first|exact λ_=>Am|exact Ai (show false=true from hf) AV
 |agg h1 h2=>exact key ⟨h1,h2⟩|_=>exact λ_=>Am
theorem QPa.mono{ρ':Rn}(h:ρ.le ρ'){x y:Option (Aj×Ag×Nat)}(k:QPa ρ x y):QPa ρ' x y:=by
 rcases x with _|p<;>rcases y with _|q<;>first|exact k.elim|trivial|exact⟨k.1,RelA.mono h k.2.1,k.2.2⟩
theorem ZQ(hN:T.P.globals.size<N)(hb:T.P.bearsPack=false)(h:Az F ρ x x'):AY T F N QPa (Vz x) ρ (Vz x'):=by
 refine (Yr hN h).bind λρ₁ q q' l1 hq=>?_;(rcases q with _|⟨t,a,fl⟩<;>rcases q' with _|⟨t',a',fl'⟩<;>first|exact hq.elim|exact λ_=>Am|skip);obtain⟨e1,ha,e2⟩:=hq;simp only at e1 ha e2;subst e1 e2;exact (TW hb _ t).bind λρ₂ _ _ l2 _=>λ_=>⟨rfl,RelA.mono l2 ha,rfl⟩
theorem VN(hN:T.P.globals.size<N)(hb:T.P.bearsPack=false)(hz: ∀{ρ:Rn},AY T F N (QV F) z ρ z)
  (hf: ∀{ρ:Rn} (t:Aj) (a a':Ag) (fl k:Nat),RelA ρ a a'->AY T F N (QV F) (f t a fl k) ρ (f t a' fl k)):KJ T F N (UB z f):=by
 refine um (λ{ρ x x'} h=>?_) λp hp=>?_
 ·refine (ZQ hN hb h).bind λρ₁ q q' l1 hq=>?_;(rcases q with _|⟨t,a,fl⟩<;>rcases q' with _|⟨t',a',fl'⟩<;>first|exact hq.elim|exact hz|skip);obtain⟨e1,ha,e2⟩:=hq;simp only at e1 ha e2;subst e1 e2;exact hf t a a' fl _ ha
 obtain⟨l⟩:=p;rcases l with _|⟨x,_|⟨y,l⟩⟩;exact⟨_,rfl⟩;exact Ai rfl (hp x);exact⟨_,rfl⟩
theorem jh(hN:T.P.globals.size<N)(hz: ∀{ρ:Rn},AY T F N (QV F) z ρ z)
  (hf: ∀{ρ:Rn} (t:Aj) (a a':Ag) (fl k:Nat),RelA ρ a a'->AY T F N (QV F) (f t a fl k) ρ (f t a' fl k)):KJ T F N (AAi z f):=by
 refine um (λ{ρ x x'} h=>?_) λp hp=>?_
 ·refine (Yr hN h).bind λρ₁ q q' l1 hq=>?_;(rcases q with _|⟨t,a,fl⟩<;>rcases q' with _|⟨t',a',fl'⟩<;>first|exact hq.elim|exact hz|skip);obtain⟨e1,ha,e2⟩:=hq;simp only at e1 ha e2;subst e1 e2;exact hf t a a' fl _ ha
 obtain⟨l⟩:=p;rcases l with _|⟨x,_|⟨y,l⟩⟩;exact⟨_,rfl⟩;exact Ai rfl (hp x);exact⟨_,rfl⟩
def Ur:AP->Bool
 | .chan AB| .nilFunc| .nilIface| .map AB| .pointer AB| .slice AB _ _=>true|_=>false
theorem yl(h:Az F ρ x x'):Ur x=Ur x':=by
 have nf: ∀z:AP,flat z=false->Ur z=false:=by
  intro z hz;unfold Ur;split<;>first|rfl|cases hz
 by_cases hx:flat x=true;rw[BP h hx];rw[nf x (by simpa using hx),nf x' (by cases e:flat x' with|false=>rfl|true=>exact Ai (Po h e) hx)]
theorem AD1(t:Aj)(fl k:Nat)(h:RelA ρ a a'):AY T F N (QV F) (Yd t a fl k) ρ (Yd t a' fl k):=by
 have rest: ∀{ρ:Rn},RelA ρ a a'->AY T F N (QV F) (loadVar t a>>=λv=>match v with
   | .chan AB| .nilFunc| .nilIface| .map AB| .pointer AB| .slice AB _ _=>pure (.bool true)
   |_=>pure (.bool false):Sem AP) ρ (loadVar t a'>>=λv=>match v with
   | .chan AB| .nilFunc| .nilIface| .map AB| .pointer AB| .slice AB _ _=>pure (.bool true)
   |_=>pure (.bool false)):=by
  intro ρ h;refine (OC t h).bind λρ₁ v v' l1 hv=>?_
  have e1: ∀z:AP,(match z with
   | .chan AB| .nilFunc| .nilIface| .map AB| .pointer AB| .slice AB _ _=>pure (.bool true)
   |_=>pure (.bool false):Sem AP)=pure (.bool (Ur z)):=by
   intro z;unfold Ur;cases z<;>first|rfl|(rename_i a;cases a<;>rfl)|(rename_i a _ _;cases a<;>rfl)
  rw[e1,e1,yl hv];exact λ_=>.flat rfl
 unfold Yd;by_cases hk:(!([18,19,20,21,22,23,26].contains k))=true
 ·simp only[hk,if_true];exact AY.bind (Q:=λ_ _ _=>False) (Et _ _) λ_ _ _ _ e=>e.elim
 simp only[hk,if_false,C9];exact rest h
def Calm {α:Type} (T:Twin):Sem α->Prop
 | .pure _=>True| .halt h=>Halt.dead T.p h| .new _ k=>T.p/\∀n,Calm T (k n)| .program k=>Calm T (k T.v)|_=>False
theorem Calm.dead{s:Sem α}{f:α->Sem β}:Calm T s->(∀a,CW T (f a))->CW T (s.bind f):=by
 intro hs hf
 induction s with|pure a=>exact hf a|halt h=>exact hs|new o k ih=>exact⟨hs.1,λn=>ih n (hs.2 n)⟩|program k ih=>exact ih _ hs|_=>exact hs.elim
theorem Calm.bind{s:Sem α}{f:α->Sem β}:Calm T s->(∀a,Calm T (f a))->Calm T (s.bind f):=by
 intro hs hf
 induction s with|pure a=>exact hf a|halt h=>exact hs|new o k ih=>exact⟨hs.1,λn=>ih n (hs.2 n)⟩|program k ih=>exact ih _ hs|_=>exact hs.elim
theorem eU(hp:T.p)(m:String)(k:Nat):CW T (Ol m k:Sem α):=by
 refine Calm.dead (s:=cutType _) ?_ λt=>?_
 ·show Calm T (match T.P.cutTypes.find? _ with|some (_,t)=>pure t|none=>stuck _:Sem Aj);cases T.P.cutTypes.find? (·.1== "*internal/reflectlite.ValueError")<;>exact Am
 refine Calm.dead (s:=elemOf t) ?_ λu=>?_
 ·show Calm T ((match T.P.underlying t with|some d=>pure d|none=>stuck "no such type" :Sem TypeDesc).bind _);refine Calm.bind ?_ λd=>?_
  ·cases T.P.underlying t<;>exact Am
  cases d<;>exact Am
 exact⟨hp,λn=>hp⟩
theorem AD2(hp:F.p->T.p)(hN:T.P.globals.size<N)(t:Aj)(fl k:Nat)(h:RelA ρ a a'):AY T F N (QV F) (Ye t a fl k) ρ (Ye t a' fl k):=by
 unfold Ye;by_cases hk:(k !=20 && k !=22)=true
 ·simp only[hk,if_true];exact AY.bind (Q:=λ_ _ _=>False) (Et _ _) λ_ _ _ _ e=>e.elim
 simp only[hk,if_false,C9];refine (OC t h).bind λρ₁ v v' l1 hv=>?_;refine (nM t).bind λρ₂ q q' l2 e=>?_;obtain rfl:q=q':=e;have hv:=hv.mono l2
 have hk2:k=20\/k=22:=by
  simp only[DU,bne_iff_ne,ne_eq,not_and,xH] at hk;exact (Classical.em (k=20)).imp id hk
 rcases hk2 with rfl|rfl;exact iP hN hv
 cases hv with
 |flat hf=>
  (cases v<;>first|exact Et _ _|skip);rename_i r
  cases r with|none=>exact λ_=>nN|some _=>exact Ai (show false=true from hf) AV
 |ptr ha=>
  cases q with|none=>exact Et _ _|some e=>exact AFV hN e ha _
 |tok hc ht hq=>
  rcases hq with hq|rfl;exact RU (eU (hp hq) _ _) _;exact Et _ _
 |mf hx hm=>cases v'<;>first|exact Ai (show false=true from hm) AV|exact Et _ _
 |_=>exact Et _ _
theorem AIM(hN:T.P.globals.size<N)(hb:T.P.bearsPack=false):KJ T F N dK:=by
 refine AMR (λ{ρ x x' y y'} h k=>?_) λp hp=>?_
 ·unfold dK;refine (ZQ hN hb h).bind λρ₁ q q' l1 hq=>?_;refine (ZQ hN hb (k.mono l1)).bind λρ₂ r r' l2 hr=>?_;have hq:=hq.mono l2;(rcases q with _|⟨t,a,fl⟩<;>rcases q' with _|⟨t',a',fl'⟩<;>first|exact hq.elim|exact λ_=>Am|skip);(rcases r with _|⟨u,b,gl⟩<;>rcases r' with _|⟨u',b',gl'⟩<;>first|exact hr.elim|exact λ_=>Am|skip);obtain⟨e1,ha,e2⟩:=hq;obtain⟨e3,hb',e4⟩:=hr;simp only at e1 ha e2 e3 hb' e4;subst e1 e2 e3 e4;have over: ∀{ρ:Rn},AY T F N (QV F) (pure (.tuple #[]):Sem AP) ρ (pure (.tuple #[])):=λ_=>.undef;by_cases hfl:(fl/AAj % 2==0)=true
  ·simp only[hfl,if_true];exact λ_=>Am
  simp only[hfl,if_false,C9];refine (OC u hb').bind λρ₃ v v' l3 hv=>?_;refine (V7 t u).bind λρ₄ c c' l4 e=>?_;obtain rfl:c=c':=e;have ha4:=(RelA.mono l3 ha).mono l4;have hv4:=hv.mono l4;cases c
  ·simp only[if_false,C9];refine (Qc hb t u).bind λρ₅ d d' l5 e=>?_;obtain rfl:d=d':=e;cases d
   ·simp only[if_false,C9];refine (ZP hb u).bind λρ₆ s s' l6 e=>?_;obtain rfl:s=s':=e;refine (ZP hb t).bind λρ₇ s2 s2' l7 e=>?_;obtain rfl:s2=s2':=e;exact AY.bind (Q:=λ_ _ _=>False) (LZ _) λ_ _ _ _ e=>e.elim
   simp only[if_true];refine (YD u).bind λρ₆ kd kd' l6 e=>?_;obtain rfl:kd=kd':=e;have ha6:=(RelA.mono l5 ha4).mono l6;have hv6:=(hv4.mono l5).mono l6;by_cases hk:(kd==20)=true
   ·simp only[hk,if_true];have st:AY T F N (QV F) (storeVar t a v>>=λ_=>pure (.tuple #[]):Sem AP) ρ₆ (storeVar t a' v'>>=λ_=>pure (.tuple #[])):=(Pm t ha6 hv6).bind λ_ _ _ _ _=>over;by_cases hn:v=.nilIface
    ·subst hn;rw[BP hv6 rfl];exact λ_=>Am
    have hn':v'≠ .nilIface:=λe=>hn ((VC hv6).2 e);split;exact Ai rfl hn;cases v'<;>first|exact Ai rfl hn'|exact st
   simp only[hk,if_false,C9];exact (Pm t ha6 (.iface hv6)).bind λ_ _ _ _ _=>over
  simp only[if_true];exact (Pm t ha4 hv4).bind λ_ _ _ _ _=>over
 obtain⟨l⟩:=p;rcases l with _|⟨x,_|⟨y,_|⟨z,l⟩⟩⟩;exact⟨_,rfl⟩;exact⟨_,rfl⟩;exact Ai rfl (hp x y);exact⟨_,rfl⟩
end
end
section
variable {f:Nat}{P:BL}
abbrev Ry:Array Oper:=#[{dst:=AA 15,op:=.call {callee:=.invoke (.tmp 1) "Take",args:=#[(.tmp 14)],argTypes:=#[62]},type:=51,pos:= "",after:=#[],guard:=AB}]
abbrev Us:Code:=(.seq (.region 4 #[{dst:=AA 16,op:=.binOp .mul 51 (.tmp 15) (.const (.int .i64 1)) 51,type:=51,pos:= "",after:=#[],guard:=AB},{dst:=AA 5,op:=.assign (.tmp 15),type:=51,pos:= "",after:=#[],guard:=AB},{dst:=AA 17,op:=.binOp .neq 51 (.tmp 15) (.const (.int .i64 0)) 51,type:=4,pos:= "",after:=#[],guard:=AB}] false) (.seq (.cond (.tmp 17) (.exit 0) .skip) (.region 5 #[{dst:=AA 18,op:=.binOp .add 3 (.tmp 4) (.const (.int .i64 1)) 3,type:=3,pos:= "",after:=#[],guard:=AB},{dst:=AA 4,op:=.assign (.tmp 18),type:=3,pos:= "",after:=#[],guard:=AB},{dst:=AA 8,op:=.assign (.tmp 12),type:=3,pos:= "",after:=#[],guard:=AB}] false)))
abbrev Ah.loop:Code:=(.seq (.region 1 #[{dst:=AA 9,op:=.binOp .lss 3 (.tmp 8) (.tmp 7) 3,type:=4,pos:= "",after:=#[],guard:=AB}] false) (.seq (.cond (.tmp 9) .skip (.exit 0)) (.seq (.region 2 #[{dst:=AA 10,op:=.binOp .sub 3 (.tmp 7) (.tmp 8) 3,type:=3,pos:= "",after:=#[],guard:=AB},{dst:=AA 11,op:=.call {callee:=.builtin .min,args:=#[(.tmp 6),(.tmp 10)],argTypes:=#[3,3]},type:=3,pos:= "",after:=#[],guard:=AB},{dst:=AA 12,op:=.binOp .add 3 (.tmp 8) (.tmp 11) 3,type:=3,pos:= "",after:=#[],guard:=AB},{dst:=AA 13,op:=.slice 9 (.tmp 3) (AA (.tmp 8)) (AA (.tmp 12)) AB,type:=9,pos:= "",after:=#[],guard:=AB},{dst:=AA 14,op:=.call {callee:=.builtin .append,args:=#[(.const (.slice AB 0 0)),(.tmp 13)],argTypes:=#[62,9]},type:=62,pos:= "",after:=#[],guard:=AB}] false) (.seq (.region 3 #[{dst:=AA 15,op:=.call {callee:=.invoke (.tmp 1) "Take",args:=#[(.tmp 14)],argTypes:=#[62]},type:=51,pos:= "",after:=#[],guard:=AB}] false) (.seq (.region 4 #[{dst:=AA 16,op:=.binOp .mul 51 (.tmp 15) (.const (.int .i64 1)) 51,type:=51,pos:= "",after:=#[],guard:=AB},{dst:=AA 5,op:=.assign (.tmp 15),type:=51,pos:= "",after:=#[],guard:=AB},{dst:=AA 17,op:=.binOp .neq 51 (.tmp 15) (.const (.int .i64 0)) 51,type:=4,pos:= "",after:=#[],guard:=AB}] false) (.seq (.cond (.tmp 17) (.exit 0) .skip) (.region 5 #[{dst:=AA 18,op:=.binOp .add 3 (.tmp 4) (.const (.int .i64 1)) 3,type:=3,pos:= "",after:=#[],guard:=AB},{dst:=AA 4,op:=.assign (.tmp 18),type:=3,pos:= "",after:=#[],guard:=AB},{dst:=AA 8,op:=.assign (.tmp 12),type:=3,pos:= "",after:=#[],guard:=AB}] false)))))))
abbrev Ah.JQ:Code:=(.seq (.region 6 #[{dst:=AA 12,op:=.binOp .lss 3 (.tmp 11) (.tmp 3) 3,type:=4,pos:= "",after:=#[],guard:=AB}] false) (.seq (.cond (.tmp 12) .skip (.exit 0)) (.seq (.region 7 #[{dst:=AA 13,op:=.indexAddr 62 (.tmp 0) (.tmp 11),type:=0,pos:= "",after:=#[],guard:=AB},{dst:=AA 14,op:=.load 5 (.tmp 13),type:=5,pos:= "",after:=#[],guard:=AB},{dst:=AA 15,op:=.binOp .leq 5 (.const (.int .u8 0)) (.tmp 14) 5,type:=4,pos:= "",after:=#[],guard:=AB},{dst:=AA 16,op:=.binOp .leq 5 (.tmp 14) (.const (.int .u8 255)) 5,type:=4,pos:= "",after:=#[],guard:=AB},{dst:=AA 17,op:=.binOp .add 3 (.tmp 11) (.const (.int .i64 1)) 3,type:=3,pos:= "",after:=#[],guard:=AB},{dst:=AA 11,op:=.assign (.tmp 17),type:=3,pos:= "",after:=#[],guard:=AB}] false) (.seq (.cond (.tmp 15) .skip (.refuse "")) (.cond (.tmp 16) .skip (.refuse ""))))))
abbrev Ah.IZ:Code:=(.seq (.region 1 #[{dst:=AA 6,op:=.binOp .lss 3 (.tmp 1) (.const (.int .i64 1)) 3,type:=4,pos:= "",after:=#[],guard:=AB},{dst:=AA 7,op:=.call {callee:=.builtin .max,args:=#[(.const (.int .i64 1)),(.tmp 3)],argTypes:=#[3,3]},type:=3,pos:= "",after:=#[],guard:=AB}] false) (.seq (.cond (.tmp 6) (.region 2 #[{dst:=AA 8,op:=.move (.tmp 7),type:=3,pos:= "",after:=#[],guard:=AB}] false) (.region 3 #[{dst:=AA 8,op:=.move (.tmp 1),type:=3,pos:= "",after:=#[],guard:=AB}] false)) (.seq (.region 4 #[{dst:=AA 9,op:=.binOp .leq 3 (.tmp 8) (.const (.int .i64 9223372036854775807)) 3,type:=4,pos:= "",after:=#[],guard:=AB}] false) (.seq (.cond (.tmp 9) .skip (.refuse "")) (.seq (.region 5 #[{dst:=AA 10,op:=.makeFunc (.func 79) #[] #[(.tmp 2),(.tmp 8)],type:=106,pos:= "",after:=#[],guard:=AB},{dst:=AA 4,op:=.assign (.tmp 10),type:=106,pos:= "",after:=#[],guard:=AB}] false) .ret)))))
abbrev Ah.f47:Func:={name:= "Chunks",origin:= "",params:=#[62,3],resultTypes:=#[106],nfree:=0,ntmps:=20,results:=#[.tmp 4],body:=AA (.seq (.region 0 #[{dst:=AA 3,op:=.call {callee:=.builtin .len,args:=#[(.tmp 0)],argTypes:=#[62]},type:=3,pos:= "",after:=#[],guard:=AB},{dst:=AA 2,op:=.convert 62 9 (.tmp 0),type:=9,pos:= "",after:=#[],guard:=AB},{dst:=AA 18,op:=.call {callee:=.builtin .len,args:=#[(.tmp 2)],argTypes:=#[9]},type:=3,pos:= "",after:=#[],guard:=AB},{dst:=AA 19,op:=.binOp .eql 3 (.tmp 18) (.tmp 3) 3,type:=4,pos:= "",after:=#[],guard:=AB},{dst:=AA 5,op:=.binOp .leq 3 (.tmp 3) (.const (.int .i64 1073741824)) 3,type:=4,pos:= "",after:=#[],guard:=AB},{dst:=AA 11,op:=.move (.const (.int .i64 0)),type:=3,pos:= "",after:=#[],guard:=AB}] false) (.seq (.cond (.tmp 19) .skip (.refuse "")) (.seq (.cond (.tmp 5) .skip (.refuse "")) (.seq (.block 0 (.loop Ah.JQ)) Ah.IZ)))),norace:=false,tmpNames:=#[]}
abbrev Ah.f46:Func:={name:= "Copy",origin:= "",params:=#[106,156],resultTypes:=#[3,51],nfree:=0,ntmps:=19,results:=#[.tmp 4,.tmp 5],body:=AA (.seq (.region 0 #[{dst:=AA 2,op:=.call {callee:=.value (.tmp 0),args:=#[(.const (.int .i64 0)),(.const (.int .i64 0)),(.const (.int .i64 0)),(.const (.int .i64 0)),(.const (.int .i64 0))],argTypes:=#[3,3,3,3,3]},type:=0,pos:= "",after:=#[],guard:=AB},{dst:=AA 3,op:=.extract (.tmp 2) 0,type:=9,pos:= "",after:=#[],guard:=AB},{dst:=AA 6,op:=.extract (.tmp 2) 1,type:=3,pos:= "",after:=#[],guard:=AB},{dst:=AA 7,op:=.call {callee:=.builtin .len,args:=#[(.tmp 3)],argTypes:=#[9]},type:=3,pos:= "",after:=#[],guard:=AB},{dst:=AA 8,op:=.move (.const (.int .i64 0)),type:=3,pos:= "",after:=#[],guard:=AB},{dst:=AA 4,op:=.assign (.const (.int .i64 0)),type:=3,pos:= "",after:=#[],guard:=AB},{dst:=AA 5,op:=.assign (.const (.int .i64 0)),type:=51,pos:= "",after:=#[],guard:=AB}] false) (.seq (.block 0 (.loop Ah.loop)) .ret)),norace:=false,tmpNames:=#[]}
abbrev Ah.f79:Func:={name:= "Chunks$1",origin:= "",params:=#[3,3,3,3,3],resultTypes:=#[9,3],nfree:=2,ntmps:=8,results:=#[.tmp 5,.tmp 6],body:=AA (.seq (.region 0 #[{dst:=AA 7,op:=.binOp .add 3 (.tmp 6) (.const (.int .i64 0)) 3,type:=3,pos:= "",after:=#[],guard:=AB}] false) .ret),norace:=false,tmpNames:=#[]}
noncomputable def Ah.funcs:Array Func:=((Tryz.prog.funcs.setIfInBounds 47 Ah.f47).setIfInBounds 46 Ah.f46).setIfInBounds 79 Ah.f79
noncomputable def Af:BL:={Tryz.prog with funcs:=Ah.funcs}
theorem ABX:Af.funcs[(47:Nat)]? =AA Ah.f47:=by kernel_rfl
theorem uo:Af.funcs[(46:Nat)]? =AA Ah.f46:=by kernel_rfl
theorem nO:Af.funcs[(79:Nat)]? =AA Ah.f79:=by kernel_rfl
@[simp] theorem Ah.tab:Af.toTables=Tryz.prog.toTables:=rfl
@[simp] theorem Ah.und(t:Aj):Af.underlying t=Tryz.prog.underlying t:=rfl
@[simp] theorem Ah.info(t:Aj):Af.info? t=Tryz.prog.info? t:=rfl
theorem nP(P:BL)(F:Array Func)(t:Aj)(w:AL):(I4 t).run {P with funcs:=F} w=(I4 t).run P w:=by
 have h: ∀Q:BL,(I4 t).run Q w=(match Q.toTables.info? t with|some d=>pure d|none=>stuck "no such type" :Sem TypeInfo).run Q w:=λQ=>rfl;rw[h,h];have e:({P with funcs:=F}:BL).toTables.info? t=P.toTables.info? t:=rfl;rw[e];cases P.toTables.info? t<;>simp[Sem.run,stuck]
@[simp] theorem Ah.AUD(t:Aj)(w:AL):(I4 t).run Af w=(I4 t).run Tryz.prog w:=nP Tryz.prog Ah.funcs t w
theorem AFW(P:BL)(F:Array Func)(t:Aj)(w:AL):(underlying t).run {P with funcs:=F} w=(underlying t).run P w:=by
 have h: ∀Q:BL,(underlying t).run Q w=(match Q.underlying t with|some d=>pure d|none=>stuck "no such type" :Sem TypeDesc).run Q w:=λQ=>rfl;rw[h,h];have e:Program.underlying {P with funcs:=F} t=P.underlying t:=rfl;rw[e];cases P.underlying t<;>simp[Sem.run,stuck]
@[simp] theorem Ah.AUM(t:Aj)(w:AL):(underlying t).run Af w=(underlying t).run Tryz.prog w:=AFW Tryz.prog Ah.funcs t w
theorem AIN(P:BL)(F:Array Func)(t:Aj)(w:AL):(sizeOf t).run {P with funcs:=F} w=(sizeOf t).run P w:=by
 unfold sizeOf;simp only[Eh,nP];(have h: ∀{α β:Type} (r:Result α) (f g:α->AL->Result β),(∀a v,f a v=g a v)->r.andThen f=r.andThen g:=λr f g e=>by cases r with|ok a v=>exact e a v|halt h v=>rfl);refine h _ _ _ λa v=>?_;first|rfl|(cases a<;>rfl)|(cases a.zero<;>simp[unsupported])|simp
@[simp] theorem Ah.Iu(t:Aj)(w:AL):(sizeOf t).run Af w=(sizeOf t).run Tryz.prog w:=AIN Tryz.prog Ah.funcs t w
theorem ALh(P:BL)(F:Array Func)(t:Aj)(w:AL):(isAgg t).run {P with funcs:=F} w=(isAgg t).run P w:=by
 unfold isAgg;simp only[Eh,AFW];(have h: ∀{α β:Type} (r:Result α) (f g:α->AL->Result β),(∀a v,f a v=g a v)->r.andThen f=r.andThen g:=λr f g e=>by cases r with|ok a v=>exact e a v|halt h v=>rfl);refine h _ _ _ λa v=>?_;first|rfl|(cases a<;>rfl)|(cases a.zero<;>simp[unsupported])|simp
@[simp] theorem Ah.MC(t:Aj)(w:AL):(isAgg t).run Af w=(isAgg t).run Tryz.prog w:=ALh Tryz.prog Ah.funcs t w
theorem AIO(P:BL)(F:Array Func)(t:Aj)(w:AL):(GM t).run {P with funcs:=F} w=(GM t).run P w:=by
 unfold GM;simp only[Eh,nP];(have h: ∀{α β:Type} (r:Result α) (f g:α->AL->Result β),(∀a v,f a v=g a v)->r.andThen f=r.andThen g:=λr f g e=>by cases r with|ok a v=>exact e a v|halt h v=>rfl);refine h _ _ _ λa v=>?_;first|rfl|(cases a<;>rfl)|(cases a.zero<;>simp[unsupported])|simp
@[simp] theorem Ah.Iw(t:Aj)(w:AL):(GM t).run Af w=(GM t).run Tryz.prog w:=AIO Tryz.prog Ah.funcs t w
def S1:List Nat:=[3,4,5,6,8,9,10,11,12,13,14,15,16,17,18,19,20,21,22,23,24,25,26,27,28,29,31,32,33,34,35,36,37,38,39,40,41,42,43,44,45,46,47,48,49,50,51,52,53,54,55,56,57,58,59,60,61,62,63,64,65,66,67,70,71,72,73,78,81,82,83,84,85,86,87,88,89,90,94,95,96,97,98,99,100,120,122,123,124,125,128,129,130,136,137,138,139,140,141,142,143,144,145,146,147,148,149,150,151,152,153,154,155,156,177,178,179,180,181,183,185]
def SV:List Nat:=[39,41,43,45,48,50,51,56,62,72,73,84,85,124,125,129,130]
def SE:List Nat:=[68,91,92,93,121,126,127,170,171,187,190,191,192,193]
def SL:List Nat:=[136]
def S2:List Nat:=[36,61,70,81,177,178,179,180,181]
abbrev fb1:Fb:={c:=λf=>S1.contains f,v:=λf=>SV.contains f,l:=true,d:=true,m:=2,a:=λf=>if f==47 || f==46 then AA 2 else AB,lr:=λf=>SL.contains f,e:=λf=>SE.contains f,ch:=AA 47,cp:=AA 46}
abbrev fbV:Fb:={fb1 with ch:=AB,cp:=AB,c:=λf=>S1.contains f || f==79,v:=λf=>SV.contains f || f==79,m:=5,a:=λ_=>AB}
abbrev fb2:Fb:={c:=λf=>S2.contains f || SV.contains f,v:=λf=>SV.contains f,l:=true,d:=false,m:=2,a:=λf=>if SV.contains f then AA 1000 else AB,lr:=λf=>SL.contains f,e:=λ_=>false,h:=false}
noncomputable abbrev T1:Twin:={P:=Tryz.prog,F:=Ah.funcs,p:=True}
noncomputable abbrev K1:Kit:={P:=Tryz.prog,fb:=fb1,G:=1,X:=λf=>f==47 || f==46,z:=79,p:=True}
noncomputable abbrev TV:Twin:={P:=Af,F:=Ah.funcs}
noncomputable abbrev KV:Kit:={P:=Af,fb:=fbV,G:=1,X:=λ_=>false,z:=79}
noncomputable abbrev K2:Kit:={P:=Tryz.prog,fb:=fb2,G:=1,X:=λf=>SV.contains f,z:=79,p:=True}
theorem m0: ∀i,Tryz.prog.info? 0=AA i->i.methods.find? (·.name== "")=AB:=by
 intro i h;(have:(Tryz.prog.info? 0).map (λi=>(i.methods.find? (·.name== "")).isNone)=AA true:=by kernel_rfl);rw[h] at this;simpa using this
def JR (P:BL) (f:Nat):Bool:=match P.funcs[f]? with|some fn=> !fn.body.isNone && !(fn.name== "runtime.NumGoroutine")|none=>false
theorem Fe(h:JR P f=true): ∃fn,P.funcs[f]? =AA fn/\fn.body.isNone=false/\(fn.name== "runtime.NumGoroutine")=false:=by
 unfold JR at h;split at h
 ·rename_i fn e;simp only[DU,Y8] at h;exact⟨fn,e,h.1,h.2⟩
 cases h
def YE (P:BL) (fb:Fb) (G:Nat) (f:Nat):Bool:=match P.funcs[f]? with|some fn=>(match fn.body with|some c=>JZ P fb G true (fb.lr f) c|none=>true)|none=>true
theorem TY{fb:Fb}{G:Nat}(h:YE P fb G f=true){fn:Func}(e:P.funcs[f]? =AA fn){c:Code}(k:fn.body=AA c):JZ P fb G true (fb.lr f) c=true:=by
 unfold YE at h;rw[e] at h;simp only[k] at h;exact h
theorem Ah.same(h:f≠47/\f≠46/\f≠79):Af.funcs[f]? =Tryz.prog.funcs[f]? :=by
 show Ah.funcs[f]? =_;unfold Ah.funcs;rw[Dw h.2.2.symm,Dw h.2.1.symm,Dw h.1.symm]
theorem text1:(S1.all λf=>JR Tryz.prog f)=true:=by kernel_rfl
theorem ok1:(S1.all λf=>f==47 || (f==46 || YE Tryz.prog fb1 1 f))=true:=by kernel_rfl
end
open Go.RowKit
noncomputable def iQ (wg cb xb sb bc:Nat) (src c:AP):Array AP:=
 #[.pointer (AA ⟨wg,0,AB⟩),.pointer (AA ⟨cb,0,AB⟩),.pointer (AA ⟨xb,0,AB⟩),.pointer (AA ⟨sb,0,AB⟩),AU,.chan (AA bc),src,c,AU,AU,AU,AU,AU,AU,AU]
structure kU (C:Cx) (R:RF C.SR) (cb sb:Nat):Prop where
 cbS:C.SR cb
 sbS:C.SR sb
 cb: ∀w,R.R w->w.cell? ⟨cb,0,AB⟩=AA (.chan (AA C.bc))
 sb: ∀w,R.R w->w.cell? ⟨sb,0,AB⟩=AA (.chan (AA C.bs))
section
variable {C:Cx} (hP:C.P=Tryz.prog) {k:Nat} {R:RF C.SR} (hR:R.Ok) {Gb:Nat->Prop} {W:WB} (hW:W.Ok) {x:List (Nat×Obj)} (hx: ∀p∈x,isCells p.2) {s2:LS} {wg cb xb sb:Nat} (hS:kU C R cb sb) {src:AP}
 (hT:W.T1=iQ wg cb xb sb C.bc src AU) {WO:AX} {cs:List AX}
include hP hR hW hx hS
theorem w25{xv:AP}{bk:Nat}{ob:Obj}(hob:isCells ob)(hcs:C.Cs k xv bk ob)(hbk:bk∉(Lw W x LS.ready s2).map Aa/\¬Gb bk)
  (hgo:PW C (.work false) (k+1) (G (WO.finish (.bool true)) cs) (ow R Gb (Lw W x LS.ready s2)))
  (hstop:PW C (.work true) k (G (WO.finish (.bool false)) cs) (ow R Gb (Lw W ((bk,ob)::x) LS.left s2))):
  PW C (.work false) k (G (fr 75 (iQ wg cb xb sb C.bc src xv) [.code (rA Tryz.f75),.beginRound,.code (rB Tryz.f75)] [] (AA W.l1)) (WO::cs)) (ow R Gb (Lw W ((bk,ob)::x) LS.ready s2)):=by
 (have hx': ∀p∈(bk,ob)::x,isCells p.2:=λp hp=>by rcases BB.1 hp with rfl|hp<;>first|exact hob|exact hx p hp);have fc: ∀{s1:LS} {y:List (Nat×Obj)} (w:AL),(ow R Gb (Lw W y s1 s2)).I w->w.cell? ⟨cb,0,AB⟩=AA (.chan (AA C.bc)):=λw hw=>hS.cb w hw.2;have fs: ∀{s1:LS} {y:List (Nat×Obj)} (w:AL),(ow R Gb (Lw W y s1 s2)).I w->w.cell? ⟨sb,0,AB⟩=AA (.chan (AA C.bs)):=λw hw=>hS.sb w hw.2;simp only[iQ];have ea:rA Tryz.f75=rA Tryz.f75:=rfl
 conv at ea=>lhs;simp only[rA,EM,MQ,Tryz.f75,Dt,Option.or,FY]
 have eb:rB Tryz.f75=rB Tryz.f75:=rfl
 conv at eb=>lhs;simp only[rB,EM,MQ,Tryz.f75,Dt,Option.or,FY]
 rw[<- ea,<- eb];clear ea eb;(iterate 3 refine Fa ?_);refine ADv (fn:=75) (s1:=LS.ready) (s1':=LS.busy) hP hR hW hx' (λw h=>ABT h rfl) rfl ?_;(iterate 5 refine Fa ?_);refine EC (Ce hP) ?_ (hr:=by intro w hw;have f0:=fc w hw;have f1:=fs w hw;unfold ev;go_simp;exact rfl) (he:=by intro w hw;have f0:=fc w hw;have f1:=fs w hw;unfold ev;simp[go_sem,f0];exact⟨.inr hS.cbS,rfl⟩);(iterate 5 refine Fa ?_);refine EC (Ce hP) ?_ (hr:=by intro w hw;have f0:=fc w hw;have f1:=fs w hw;unfold ev;go_simp;exact rfl) (he:=by intro w hw;have f0:=fc w hw;have f1:=fs w hw;unfold ev;simp[go_sem,f1];exact⟨.inr hS.sbS,rfl⟩);(iterate 3 refine Fa ?_);refine ALg hP (xv:=xv) (z1:=.slice AB 0 0) (z2:=.agg #[]) (bk:=bk) (ob:=ob) (o':=ow R Gb (Lw W x LS.busy s2)) rfl rfl (.inr (λc h=>by cases h)) (λw hw=>?_) (λw hw=>?_) hcs (.inr (Nz (AMQ (p:=(bk,ob)) (D9 ..)))) (λw hw=>hw.1 (bk,ob) (AMQ (D9 ..))) (λy hy=>?_) (λw hw=>⟨λp hp=>hw.1 p ?_,hw.2⟩) ?_ ?_
 ·unfold ev;simp[go_sem,BG,EL,scase,rcase]
 ·unfold ev;simp[go_sem]
 ·rcases hy with hy|hy;exact⟨.inl hy,λe=>hbk.2 (e▸hy)⟩;refine⟨.inr ?_,λe=>hbk.1 (by rw[<- e];exact hy)⟩;simp only[Lw,BK,Em,BB,Be] at hy⊢;rcases hy with h|h|h|h|h|h<;>simp[h]
 ·simp only[Lw,BB,Be] at hp⊢;rcases hp with h|h|h|h|h|h<;>simp[h]
 ·simp only[put];walk_nrm;(iterate 5 refine Fa ?_);refine CZ (Ce hP) (λw=>s_cond (b:=true) rfl) rfl ?_;simp only[if_true,C9,↓reduceIte];(iterate 3 refine Fa ?_);exact ADv (fn:=75) (s1:=LS.busy) (s1':=LS.ready) hP hR hW hx (λw h=>kT (.inl ⟨rfl,rfl⟩) h) rfl hgo
 simp only[put];walk_nrm;(iterate 5 refine Fa ?_);refine CZ (Ce hP) (λw=>s_cond (b:=false) rfl) rfl ?_;simp only[if_false,C9,↓reduceIte];refine CZ (Ce hP) (λw=>s_cond (b:=true) rfl) rfl ?_;simp only[if_true,if_false,↓reduceIte];exact ADv (fn:=75) (s1:=LS.busy) (s1':=LS.left) hP hR hW hx' (λw h=>kT (.inr ⟨_,rfl,rfl⟩) h) rfl hstop
end
section
variable {T:Array AP}{mn:Bool}{c:AX}{f:Func}{P:BL}{q:Prop}{v:AP}{w:AL}
def aj (m:Region.Mode) (ops:Array Oper):Nat->Array Bool->List Nat->List (List Nat)
 |0,_,acc=>[acc.reverse]|f+1,listed,acc=>
  let rs:=(FZ ops.size).filter λi=> !listed.getD i true && ((ops[i]?).map (·.after.all λe=> !YX m e || listed.getD e.on false)).getD false
  if rs.isEmpty then [acc.reverse] else rs.flatMap λi=>aj m ops f (listed.setIfInBounds i true) (i::acc)
theorem go_mem{m:Region.Mode}{ops:Array Oper}: ∀(f t:Nat) (listed:Array Bool) (acc:List Nat),YY m ops f t listed acc∈aj m ops f listed acc:=by
 intro f
 induction f with
 |zero=>intro t listed acc;simp[YY,aj]
 |succ f ih=>
  intro t listed acc;unfold YY aj;simp only;generalize (FZ ops.size).filter (λi=> !listed.getD i true && ((ops[i]?).map (·.after.all λe=> !YX m e || listed.getD e.on false)).getD false)=rs
  cases rs with
  |nil=>simp|cons r rs=>
   simp only[List.isEmpty_cons,C9,if_false];have hlt:t % (r::rs).length<(r::rs).length:=Z8 _ AV;rw[CQ hlt];exact FI.2 ⟨_,List.getElem_mem hlt,ih _ _ _⟩
theorem AGm{C:Cx}{ws:WS}{kk:Nat}{fn:Bi}{x:Item}{k:List Item}{D:List EK}{ro:Option Nat}{cs:List AX}{o:Own C.SR}(h: ∀k',Go.RowKit.Hid (k'=k)->PW C ws kk (G (fr fn T (x::k') D ro) cs) o):PW C ws kk (G (fr fn T (x::k) D ro) cs) o:=h k rfl
theorem ALi(H:Nat->Nat->Nat->Prop){p:Nat->Nat->Nat->Prop}(k:(∀a b c,H a b c->p a b c)->q)(h: ∀a b c,H a b c->p a b c):q:=k h
theorem ALj{p:Prop}(k:p->q)(h:p):q:=k h
section
variable {P:BL} {fn:Bi} {T:Array AP} {k:List Item} {D:List EK} {ro:Option Nat} {cs:List AX} {ops:Array Oper}
theorem ALk{id:Nat}:Ae P mn (G (fr fn T (.code (.region id ops true)::k) D ro) cs) w=
  .go (G (fr fn T (.inRegion ops (Region.schedule (P.follows .mixedOrders) ops ((Question.order fn id).cut (w.tape w.drawn (.order fn id))))::k) D ro) cs) {w with drawn:=w.drawn+1}:=rfl
theorem MR{t:Tmp}(h:f.results= #[.tmp t])(w:AL):(results f T).runT P w #[]=(.ok (T.getD t AU) w,#[]):=by
 rw[Ik];simp[results,h]
theorem YF(h:f.results= #[])(w:AL):(results f T).runT P w #[]=(.ok (.tuple #[]) w,#[]):=by
 rw[Ik];simp[results,h]
theorem nR(hf:P.funcs[fn]? =AA f)(hr:(results f T).runT P w #[]=(.ok v w,#[])):
  Ae P mn (G {fr fn T k [] AB with mode:=.returning} (c::cs)) w=.go (G (c.finish v) cs) w #[]:=by
 show unwind P mn {fr fn T k [] AB with mode:=.returning} (c::cs) AB w=_;unfold unwind;simp only[fr,hf,hr,doReturn,GStep.after,G];rfl
end
def VO (n:Nat) (e:Aj) (cap:Nat):Prop:=cap<=EO/\∃x,cap=(Question.appendCap n 0 e).cut x
section
variable {P:BL} {mn:Bool} {SR:Nat->Prop} {J:Goroutine->Own SR->Prop} (hJ:tH P mn J) {R:RF SR} {Gb:Nat->Prop} {L:List (Nat×Obj)}
 {fn:Bi} {T:Array AP} {k:List Item} {D:List EK} {ro:Option Nat} {cs:List AX} {ops:Array Oper} {i:Nat} {rest:List Nat} {op:Oper} {o:Own SR}
include hJ
theorem nS{Ou:Nat}(orders:List (List Nat))(h1:Region.departs ops=false\/P.follows .mixedOrders=true)(h2:aj .any ops ops.size (IK ops.size false) []=orders)(next: ∀l∈orders,J (G (fr fn T (.inRegion ops l::k) D ro) cs) o):
  J (G (fr fn T (.code (.region Ou ops true)::k) D ro) cs) o:=by
 refine hJ.QG (λw=>G (fr fn T (.inRegion ops (Region.schedule (P.follows .mixedOrders) ops ((Question.order fn Ou).cut (w.tape w.drawn (.order fn Ou))))::k) D ro) cs) (λ_=>o) rfl (λw hw=>⟨_,_,ALk,⟨?_,Ba _,λb=>⟨.inl,λx=>x.elim id λy=>?_⟩,λ_ _ _=>rfl,⟨rfl,rfl,rfl⟩,AV⟩⟩) λw _=>next _ ?_;exact o.st w _ hw (λ_ _=>rfl) (Ba _) rfl rfl
 ·have:w.heap.size<=b/\b<w.heap.size:=y;omega
 rw[<- h2];unfold Region.schedule;(have h3:(P.follows .mixedOrders || !Region.departs ops)=true:=by rcases h1 with h|h<;>rw[h]<;>simp);rw[BZ h3];exact go_mem _ _ _ _
theorem JS(hf:P.funcs[fn]? =AA f)(hr: ∀w,(results f T).runT P w #[]=(.ok v w,#[]))(next:J (G (c.finish v) cs) o):J (G {fr fn T k [] AB with mode:=.returning} (c::cs)) o:=
 CZ hJ (λw=>nR hf (hr w)) rfl next
theorem OO(v:Nat->AP)(ob:Obj)(ho:ops[i]? =AA op)(hw:DV op (yielded ops T)=true)(hd:ro=AB\/∀c,op.op≠ .defer c)(hr: ∀w,(ow R Gb L).I w->(BG (ev T) op).run P w=.ok (.value (v w.heap.size)) (w.alloc ob))(he: ∀w,(ow R Gb L).I w->(BG (ev T) op).events P w #[]= #[])
  (next: ∀n,(∃w,(ow R Gb L).I w/\w.heap.size=n)->J (G (fr fn (put T op.dst (v n)) (.inRegion ops rest::k) D ro) cs) (ow R Gb ((n,ob)::L))):
  J (G (fr fn T (.inRegion ops (i::rest)::k) D ro) cs) (ow R Gb L):=by
 refine ABU hJ (λ_=>[ob]) (λ_ _=>rfl) (λn=>G (fr fn (put T op.dst (v n)) (.inRegion ops rest::k) D ro) cs) (λw hw'=>?_) rfl λn hn=>?_
 ·rw[XM ho hw hd (hr w hw'),he w hw']
  have:w.alloc ob={w with heap:=w.heap++[ob].toArray}:=by
   show ({w with heap:=w.heap.push ob}:AL)=_;congr 1
  rw[this];rfl
 simpa using next n hn
theorem AFX{t e:Aj}{ie:TypeInfo}{z:AP}(si xi:Operand)(hop:op.op=.call {callee:=.builtin .append,args:=#[si,xi],argTypes:=#[t,t]})(ht:P.underlying t=AA (.slice e))(hi:P.info? e=AA ie)(hz:ie.zero=AA z)(hsz:ie.size=1)(hby:ie.bytes=1)(hzc:z.cells= #[.int .u8 0])
  {b0:Nat} (hs:ev T si=.slice (AA ⟨b0,0,AB⟩) 0 0) (hb0:(b0,.cells #[] e)∈L) {a:Ag} {n c:Nat} (hx:ev T xi=.slice (AA a) n c) {news:List AP} (hl:news.length=n) (hn:0<n) (hle:n<=1073741824) (APT: ∀u∈news,u.oneCell'=true)
  (hnews: ∀w,R.R w->∀j v,news[j]? =AA v->w.cell? (a.add j)=AA v) (yt:SR a.block)
  (ho:ops[i]? =AA op) (hw:DV op (yielded ops T)=true) (hd:ro=AB)
  (next: ∀m cap,n<=cap->VO n e cap->(∃w,(ow R Gb L).I w/\w.heap.size=m)->J (G (fr fn (put T op.dst (.slice (AA ⟨m,0,AB⟩) n cap)) (.inRegion ops rest::k) D ro) cs) (ow R Gb ((m,.cells (news.toArray++IK (cap - n) (.int .u8 0)) e)::L))):
  J (G (fr fn T (.inRegion ops (i::rest)::k) D ro) cs) (ow R Gb L):=by
 subst hd
 have hrun: ∀w,(ow R Gb L).I w->(BG (ev T) op).run P w=.ok (.value (.slice (AA ⟨w.heap.size,0,AB⟩) n (grownCap w n 0 e))) {w with heap:=w.heap.push (.cells (news.toArray++IK (grownCap w n 0 e - n) (.int .u8 0)) e),drawn:=w.drawn+1}:=by
  intro w hw'
  have h1:=run_append_grow (P:=P) w t op.type e ie z ht hi hz ⟨b0,0,AB⟩ 0 0 [] AV AV a n c news (by rw[hl,hsz,N8]) (hnews w hw'.2) Ad (by simp;omega) (by
   rw[hby];have:rW (0+n) 0=n:=by unfold rW;simp;omega
   omega)
  unfold BG;simp only[hop,resolve,invoke,builtin,Eh,Sem.run_pure,Result.andThen_ok,J3,BK,EG,hs,hx,h1]
  have hzz: ∀m,Nh z.cells m=IK m (.int .u8 0):=by
   intro m;unfold Nh;rw[hzc];apply Z9;simp;intro j h1 h2;simp[xQ]
  rw[hzz];simp only[Array.empty_append,Ny];rfl
 have hcap: ∀w:AL,n<=grownCap w n 0 e/\grownCap w n 0 e<=EO:=λw=>⟨grownCap_ge w n 0 e,grownCap_le_maxLen w n 0 e (by simp only[EO];omega)⟩;refine hJ.QG (λw=>G (fr fn (put T op.dst (.slice (AA ⟨w.heap.size,0,AB⟩) n (grownCap w n 0 e))) (.inRegion ops rest::k) D AB) cs) (λw=>ow R Gb ((w.heap.size,.cells (news.toArray++IK (grownCap w n 0 e - n) (.int .u8 0)) e)::L)) rfl (λw hw'=>⟨_,_,XM ho hw (.inl rfl) (hrun w hw'),?_⟩) λw hw'=>next _ _ (hcap w).1 ⟨(hcap w).2,_,rfl⟩ ⟨w,hw',rfl⟩;(have hold: ∀b,b<w.heap.size->(w.heap.push (.cells (news.toArray++IK (grownCap w n 0 e - n) (.int .u8 0)) e))[b]? =w.heap[b]? :=λb hb=>by rw[Rk hb,FD hb]);refine⟨⟨λp hp=>?_,?_⟩,AV,λb=>?_,λb hb _=>hold b hb,⟨rfl,rfl,rfl⟩,λx hx'=>?_⟩
 ·rcases BB.1 hp with rfl|hp;simp;show (w.heap.push _)[p.1]? =_;have h1:=hw'.1 p hp;rw[hold _ (Df.1 h1).1];exact h1
 ·exact R.st w _ hw'.2 (λb hb=>hold b (R.lt w hw'.2 b hb)) AV
 ·simp only[ow,BK,BB,ADB];constructor
  ·rintro (x|x|x);exact .inl (.inl x);exact .inr Ad;exact .inl (.inr x)
  rintro ((x|x)|x);exact .inl x;exact .inr (.inr x);exact .inr (.inl Ad)
 have hx':=Du hx';rw[show (BG (ev T) op).events P w #[]=(Builtin.append_ #[t,t] op.type #[.slice (AA ⟨b0,0,AB⟩) 0 0,.slice (AA a) n c]).events P w #[] from events_append_op (a:=⟨T,[]⟩) si xi t hop hs hx #[]] at hx';have hown:w.ownsRow 0 e 1 (.slice (AA ⟨b0,0,AB⟩) 0 0) 0 []:=⟨AV,.inr ⟨b0,0,#[],rfl,D5 _,hw'.1 _ hb0,Ba _,D5 _,AV,AV⟩⟩;rcases events_append_where (P:=P) w 0 t op.type e ie z 1 1 ht hi hz hsz hby _ 0 [] hown a n c news (by rw[hl,N8]) (hnews w hw'.2) APT (by simp only[EO];omega) Ad x hx' with ⟨ad,h1,h2⟩|⟨m,rfl,h2⟩
 ·rw[h1];rcases h2 with ⟨h2,h3⟩|h2;exact .inr ⟨by rw[h3];exact yt,h2⟩;refine .inl (.inr ?_);simp only[Value.ownBlock,DN] at h2;rw[h2];simp only[BK,BB];exact .inr (Nz hb0)
 unfold Neutral at h2;subst h2;trivial
end
end
end Go.Proofs.YtkkgcebhfghdnaaGreatDoor
