/- Part 10 of what that rests on; no condition. -/
import Derived.Test.YtkkgcebhfghdnaaGreatDoorKi
import Derived.Conc.AppendWalk
import Derived.Test.YtkkgcebhfghdnaaGreatDoorChecked
set_option maxRecDepth 100000
set_option maxHeartbeats 8000000
namespace Go.Proofs.YtkkgcebhfghdnaaGreatDoor
open Go Go.Conc
def MC:Code->Option (Array Tmp×Code×Code)
 | .rangeFunc _ ps a b=>some (ps,a,b)| .seq a b=>(MC a).or (MC b)| .block _ c| .loop c| .scope c=>MC c|_=>none
noncomputable def EH (f:Func):Code:=f.body.getD .skip
noncomputable def rA (f:Func):Code:=((MC (EH f)).map (·.2.1)).getD .skip
noncomputable def rB (f:Func):Code:=((MC (EH f)).map (·.2.2)).getD .skip
noncomputable def rP (f:Func):Array Tmp:=((MC (EH f)).map (·.1)).getD #[]
structure LS where
 st:LoopState
 pd:Option Code
def LS.ready:LS:=⟨.ready,none⟩
def LS.busy:LS:=⟨.busy,none⟩
def LS.left:LS:=⟨.done,some .ret⟩
noncomputable def lp (fn:FuncId) (f:Func) (tm:Array Value) (d:Nat) (s:LS):Obj:=.loop {state:=s.st,pending:=s.pd,fn:=fn,tmps:=tm,params:=rP f,assign:=rA f,body:=rB f,defers:=d}
structure WB where
 l1:Nat
 l2:Nat
 d1:Nat
 d2:Nat
 T1:Array Value
 T2:Array Value
 bx:List (Nat×Obj)
noncomputable def Lw (W:WB) (x:List (Nat×Obj)) (s1 s2:LS):List (Nat×Obj):=
 (W.l1,lp 75 Tryz.f75 W.T1 W.d1 s1)::(W.l2,lp 79 Tryz.f79 W.T2 W.d2 s2)::(W.d1,.deferred (some []))::(W.d2,.deferred (some []))::(W.bx++x)
theorem ACH{W:WB}{x:List (Nat×Obj)}{s1 s2:LS}:(W.l1,lp 75 Tryz.f75 W.T1 W.d1 s1)∈Lw W x s1 s2:=BZ ..
theorem ACI{W:WB}{x:List (Nat×Obj)}{s1 s2:LS}:(W.l2,lp 79 Tryz.f79 W.T2 W.d2 s2)∈Lw W x s1 s2:=Aj _ (BZ ..)
theorem bJ{W:WB}{x:List (Nat×Obj)}{s1 s2:LS}{p:Nat×Obj}(h:p∈W.bx):p∈Lw W x s1 s2:=Aj _ (Aj _ (Aj _ (Aj _ (Bh _ h))))
theorem AKA{W:WB}{x:List (Nat×Obj)}{s1 s2:LS}{p:Nat×Obj}(h:p∈x):p∈Lw W x s1 s2:=Aj _ (Aj _ (Aj _ (Aj _ (Bi _ h))))
def isCells (o:Obj):Prop:=∃c t f,o=.cells c t f
structure WB.Ok (W:WB):Prop where
 bx: ∀p∈W.bx,isCells p.2
 dd:W.d1≠W.d2
structure RF.Ok {SR:Nat->Prop} (R:RF SR):Prop where
 cl: ∀w,R.R w->∀b,SR b->∃o,w.heap[b]? =some o/\isCells o
section
variable {C:Cx} {P:Program} (hP:C.P=P) {s:Bool} {kk:Nat} {R:RF C.SR} (hR:R.Ok) {Gb:Nat->Prop} {W:WB} (hW:W.Ok) {x:List (Nat×Obj)} (hx: ∀p∈x,isCells p.2) {g g':Goroutine} {s1 s2:LS}
theorem Ec{fn:FuncId}{f:Func}{tm:Array Value}{d:Nat}{s:LS}: ¬isCells (lp fn f tm d s):=by rintro⟨c,t,f,e⟩;cases e
theorem JA{d:Option (List Deferred)}: ¬isCells (.deferred d):=by rintro⟨c,t,f,e⟩;cases e
theorem UK(hP:C.P=P)(hR:R.Ok){L L':List (Nat×Obj)}{b:Nat}{ob ob':Obj}(hb:(b,ob)∈L)(hnc: ¬isCells ob)(eY: ∀y,y∈L'.map Prod.fst↔y∈L.map Prod.fst)(hL: ∀p∈L',p=(b,ob')\/(p∈L/\(p.2=ob->p.1≠b))){es:Array Event}
  (hev: ∀e∈es,e=⟨.obj b,false,false⟩\/e=⟨.obj b,true,false⟩)
  (h: ∀w:World,w.heap[b]? =some ob->∃es',stepG P false g w=.go g' {w with heap:=w.heap.setIfInBounds b ob'} es'/\∀e∈es',e∈es) (hr:g.status=.running)
  (next:PW C (.work s) kk g' (ow R Gb L')):PW C (.work s) kk g (ow R Gb L):=by
 subst hP;refine .Ph (λ_=>g') (λ_=>ow R Gb L') hr (λw hw=>?_) λ_ _=>next;have h0:=hw.1 _ hb;obtain⟨es',h1,h2⟩:=h w h0;have hlt:b<w.heap.size:=(BK.1 h0).1;have hne: ∀y,y≠b->(w.heap.setIfInBounds b ob')[y]? =w.heap[y]? :=λy hy=>BO (CJ hy);refine⟨_,_,h1,⟨⟨λp hp=>?_,?_⟩,AY,λy=>?_,λy _ hy=>hne y λe=>hy (.inr (by rw[e];exact Dz hb)),⟨rfl,rfl,rfl⟩,λe he=>?_⟩⟩
 ·show (w.heap.setIfInBounds b ob')[p.1]? =_;rcases hL p hp with rfl|⟨hp,hn⟩;rw[F9 hlt];have h3:=hw.1 p hp;rw[hne p.1 λe=>hn (by rw[e,h0] at h3;exact (BQ h3).symm) e];exact h3
 ·refine R.st w _ hw.2 (λy hy=>hne y λe=>?_) AY;obtain⟨o,ho,hc⟩:=hR.cl w hw.2 y hy;rw[e,h0] at ho;(cases ho);exact hnc hc
 ·show (Gb y\/y∈L'.map Prod.fst)↔(Gb y\/y∈L.map Prod.fst)\/_;rw[eY];constructor;exact .inl;rintro (x|x);exact x;(have:({w with heap:=w.heap.setIfInBounds b ob'}:World).heap.size=w.heap.size:=by simp);omega
 rcases hev e (h2 e he) with rfl|rfl;exact⟨.inr ((eY _).2 (Dz hb)),AY⟩;exact⟨.inr ((eY _).2 (Dz hb)),AY⟩
include hP hR hW hx
theorem ACJ{s1':LS}{fn:FuncId}(h: ∀w:World,w.heap[W.l1]? =some (lp 75 Tryz.f75 W.T1 W.d1 s1)->stepG P false g w=.go g' {w with heap:=w.heap.setIfInBounds W.l1 (lp 75 Tryz.f75 W.T1 W.d1 s1')} (seen P fn #[⟨.obj W.l1,false,false⟩,⟨.obj W.l1,true,false⟩]))
  (hr:g.status=.running) (next:PW C (.work s) kk g' (ow R Gb (Lw W x s1' s2))):PW C (.work s) kk g (ow R Gb (Lw W x s1 s2)):=by
 refine UK hP hR (b:=W.l1) (BZ ..) Ec (λy=>by simp[Lw]) (λp hp=>?_) (es:=#[⟨.obj W.l1,false,false⟩,⟨.obj W.l1,true,false⟩]) AY (λw hw=>⟨_,h w hw,λe he=>Du he⟩) hr next;simp only[Lw,AA,AU] at hp;rcases hp with rfl|rfl|rfl|rfl|hp|hp;exact .inl rfl
 ·refine .inr ⟨by simp[Lw],λe=>?_⟩;simp[lp] at e
 exact .inr ⟨by simp[Lw],λe=>by cases e⟩;exact .inr ⟨by simp[Lw],λe=>by cases e⟩;exact .inr ⟨by simp[Lw,hp],λe=>absurd (e▸hW.bx p hp) Ec⟩;exact .inr ⟨by simp[Lw,hp],λe=>absurd (e▸hx p hp) Ec⟩
theorem ACK{s2':LS}{fn:FuncId}(h: ∀w:World,w.heap[W.l2]? =some (lp 79 Tryz.f79 W.T2 W.d2 s2)->stepG P false g w=.go g' {w with heap:=w.heap.setIfInBounds W.l2 (lp 79 Tryz.f79 W.T2 W.d2 s2')} (seen P fn #[⟨.obj W.l2,false,false⟩,⟨.obj W.l2,true,false⟩]))
  (hr:g.status=.running) (next:PW C (.work s) kk g' (ow R Gb (Lw W x s1 s2'))):PW C (.work s) kk g (ow R Gb (Lw W x s1 s2)):=by
 refine UK hP hR (b:=W.l2) (Aj _ (BZ ..)) Ec (λy=>by simp[Lw]) (λp hp=>?_) (es:=#[⟨.obj W.l2,false,false⟩,⟨.obj W.l2,true,false⟩]) AY (λw hw=>⟨_,h w hw,λe he=>Du he⟩) hr next;simp only[Lw,AA,AU] at hp;rcases hp with rfl|rfl|rfl|rfl|hp|hp
 ·refine .inr ⟨by simp[Lw],λe=>?_⟩;simp[lp] at e
 exact .inl rfl;exact .inr ⟨by simp[Lw],λe=>by cases e⟩;exact .inr ⟨by simp[Lw],λe=>by cases e⟩;exact .inr ⟨by simp[Lw,hp],λe=>absurd (e▸hW.bx p hp) Ec⟩;exact .inr ⟨by simp[Lw,hp],λe=>absurd (e▸hx p hp) Ec⟩
end
section
variable {T:Twin} {F:Fs} {N:Nat} {ρ:Rn} {α β γ:Type}
theorem XV{s:String}{c c':Bool}(h:c=c'):AX T F N ET (if c=true then unsupported (.noEntry s) else pure ():Sem Unit) ρ (if c'=true then unsupported (.noEntry s) else pure ()):=by
 subst h;(cases c);exact λ_=>rfl;exact λ_=>trivial
theorem kC{P:Program}(h:P.bearsPack=false)(t:TypeId):P.packed t=false:=by
 unfold Program.packed Program.packedAs;rw[List.filter_eq_nil_iff.2];rfl;intro c hc;unfold Program.bearsPack at h;have:=Array.any_eq_false'.1 h c (PX.2 hc);simp only[I7,Bool.not_eq_false'] at this;simp[this]
theorem AGN(T:Twin):T.v.bearsPack=T.P.bearsPack:=rfl
theorem XW(hb:T.P.bearsPack=false)(t:TypeId):T.v.packed t=T.P.packed t:=by
 rw[kC hb,kC (P:=T.v) (by rw[AGN];exact hb)]
theorem WW(hb:T.P.bearsPack=false): ∀(d:Nat),T.v.holdsPacked d=T.P.holdsPacked d
 |0=>rfl
 |d+1=>by
  funext t;unfold Program.holdsPacked;rw[XW hb,WW hb d];rfl
theorem WX(hb:T.P.bearsPack=false): ∀(d:Nat),T.v.namesPacked d=T.P.namesPacked d
 |0=>rfl
 |d+1=>by
  funext t;unfold Program.namesPacked;rw[XW hb,WX hb d];rfl
theorem SK(hb:T.P.bearsPack=false): ∀(d:Nat),T.v.methodsOfAPack d=T.P.methodsOfAPack d
 |0=>rfl
 |d+1=>by
  funext t;unfold Program.methodsOfAPack;rw[XW hb,SK hb d];rfl
theorem kD(T:Twin):T.v.depth=T.P.depth:=rfl
theorem SN(hb:T.P.bearsPack=false)(s:String)(t:TypeId):AX T F N ET (Extern.Rtype.noPack s t) ρ (Extern.Rtype.noPack s t):=
 CV.bind λ_ p p' _ e=>by obtain⟨rfl,rfl⟩:=e;exact XV (XW hb t)
theorem iI(hb:T.P.bearsPack=false)(s:String)(t:TypeId):AX T F N ET (Extern.Rtype.noPackHeld s t) ρ (Extern.Rtype.noPackHeld s t):=
 CV.bind λ_ p p' _ e=>by obtain⟨rfl,rfl⟩:=e;exact CV.bind λ_ q q' _ e=>by obtain⟨rfl,rfl⟩:=e;exact XV (by rw[WW hb,kD])
theorem bK(hb:T.P.bearsPack=false)(s:String)(t:TypeId):AX T F N ET (Extern.Rtype.noPackNamed s t) ρ (Extern.Rtype.noPackNamed s t):=
 CV.bind λ_ p p' _ e=>by obtain⟨rfl,rfl⟩:=e;exact CV.bind λ_ q q' _ e=>by obtain⟨rfl,rfl⟩:=e;exact XV (by rw[WX hb,kD])
theorem IE(hb:T.P.bearsPack=false)(s:String)(t:TypeId):AX T F N ET (Extern.Rtype.noPackMethods s t) ρ (Extern.Rtype.noPackMethods s t):=
 CV.bind λ_ p p' _ e=>by obtain⟨rfl,rfl⟩:=e;exact CV.bind λ_ q q' _ e=>by obtain⟨rfl,rfl⟩:=e;exact XV (by rw[SK hb,kD])
theorem vS(t:TypeId):AX T F N ET (typeStr t) ρ (typeStr t):=
 (C9 t).bind λ_ i i' _ e=>by
  obtain⟨rfl,_⟩:=e;show AX T F N ET (if i.str.isEmpty=true then unsupported (.noEntry "a type whose name as gc spells it is not known") else pure i.str:Sem String) _ (if i.str.isEmpty=true then unsupported (.noEntry "a type whose name as gc spells it is not known") else pure i.str);split;exact λ_=>trivial;exact λ_=>rfl
theorem Yk(hb:T.P.bearsPack=false)(t:TypeId):AX T F N ET (Extern.Rtype.spelt t) ρ (Extern.Rtype.spelt t):=
 (bK hb _ t).bind λ_ _ _ _ _=>vS t
theorem OZ(t:TypeId):AX T F N ET (Extern.Rtype.under t) ρ (Extern.Rtype.under t):=
 (C9 t).bind λ_ i i' _ e=>by
  obtain⟨rfl,_⟩:=e;obtain⟨d,_⟩:=i;cases d<;>first|exact λ_=>rfl|exact (C9 _).bind λ_ j j' _ e=>by obtain⟨rfl,_⟩:=e;exact λ_=>rfl
theorem XX(t:TypeId):AX T F N ET (Extern.Rtype.kind t) ρ (Extern.Rtype.kind t):=by
 refine (OZ t).bind λ_ p p' _ e=>?_;obtain rfl:p=p':=e;obtain⟨u,i⟩:=p;obtain⟨d,_⟩:=i;cases d<;>first|exact λ_=>rfl|exact λ_=>trivial|(rename_i k;cases k<;>exact λ_=>rfl)
theorem Zg(t:TypeId):AX T F N ET (Extern.Rtype.hasName t) ρ (Extern.Rtype.hasName t):=
 (C9 t).bind λ_ i i' _ e=>by
  obtain⟨rfl,_⟩:=e;obtain⟨d,_⟩:=i;cases d<;>exact λ_=>rfl
theorem kE(t:TypeId):AX T F N ET (Extern.Rtype.elem? t) ρ (Extern.Rtype.elem? t):=
 (OZ t).bind λ_ p p' _ e=>by
  obtain rfl:p=p':=e;obtain⟨u,i⟩:=p;obtain⟨d,_⟩:=i;cases d<;>exact λ_=>rfl
theorem QD(hb:T.P.bearsPack=false)(t u:TypeId):AX T F N ET (Extern.Rtype.implements t u) ρ (Extern.Rtype.implements t u):=by
 refine (IE hb _ u).bind λ_ _ _ _ _=>(IE hb _ t).bind λ_ _ _ _ _=>?_;refine (OZ t).bind λ_ p p' _ e=>?_;obtain rfl:p=p':=e;refine (OZ u).bind λ_ q q' _ e=>?_;obtain rfl:q=q':=e;obtain⟨a,i⟩:=p;obtain⟨d,_⟩:=i;obtain⟨b,j⟩:=q;obtain⟨e,_⟩:=j;(cases d<;>first|exact λ_=>rfl|skip);cases e<;>first|exact λ_=>rfl|exact (C9 u).bind λ_ j j' _ e=>by obtain⟨rfl,_⟩:=e;exact λ_=>rfl
theorem Vb(t u:TypeId):AX T F N ET (Extern.Rtype.directlyAssignable t u) ρ (Extern.Rtype.directlyAssignable t u):=by
 unfold Extern.Rtype.directlyAssignable;by_cases h:(t==u)=true;simp only[h,if_true];exact λ_=>rfl;simp only[h,if_false,Ak];refine (Zg t).bind λ_ x x' _ e=>?_;obtain rfl:x=x':=e;refine (Zg u).bind λ_ y y' _ e=>?_;obtain rfl:y=y':=e;by_cases h:(x && y)=true;simp only[h,if_true];exact λ_=>rfl;simp only[h,if_false,Ak];refine (OZ t).bind λ_ p p' _ e=>?_;obtain rfl:p=p':=e;refine (OZ u).bind λ_ q q' _ e=>?_;obtain rfl:q=q':=e;obtain⟨a,i⟩:=p;obtain⟨d,_⟩:=i;obtain⟨b,j⟩:=q;obtain⟨e,_⟩:=j;(cases d<;>first|exact λ_=>rfl|skip);cases e<;>first|exact λ_=>rfl|(rename_i k _;cases k<;>exact λ_=>rfl)
theorem zy(hN:T.P.globals.size<N)(t:TypeId):AX T F N (QV F) (Extern.Rtype.handle t) ρ (Extern.Rtype.handle t):=by
 intro hok;exact (CV.bind λρ₁ p p' l1 e=>by obtain⟨rfl,rfl⟩:=e;exact λhok=>eF hN hok t) hok
theorem TW(hN:T.P.globals.size<N){x x':Value}(h:Au F ρ x x'):AX T F N ET (Extern.Rtype.ofHandle x) ρ (Extern.Rtype.ofHandle x'):=by
 intro hok;refine (AX.bind CV λρ₁ p p' l1 e=>?_) hok;obtain⟨rfl,rfl⟩:=e;by_cases hx: ∃a,x=.pointer (some a)
 ·obtain⟨a,rfl⟩:=hx;obtain⟨p',rfl,hp⟩:=Di h
  cases p' with
  |none=>exact hp.elim|some a'=>
   have ha:RelA ρ a a':=hp;have e1:(a.block==T.P.globals.size)=(a'.block==T.P.globals.size):=RelA.beq (N:=N) (b:=⟨T.P.globals.size,0,none⟩) (b':=⟨T.P.globals.size,0,none⟩) hok ha ⟨hok.hd _ hN,rfl,rfl⟩
   have e2:handleType T.v (.pointer (some a))=handleType T.P (.pointer (some a')):=by
    (show (if (a.block==T.P.globals.size)=true then some a.off else none)=if (a'.block==T.P.globals.size)=true then some a'.off else none);rw[e1,ha.2.1]
   rw[e2]
   cases handleType T.P (.pointer (some a')) with|none=>exact λ_=>trivial|some t=>exact λ_=>rfl
 have:handleType T.v x=none:=by
  unfold handleType;split;exact absurd ⟨_,rfl⟩ hx;rfl
 rw[this];exact λ_=>trivial
end
open Go.Extern
section
variable {T:Twin} {F:Fs} {N:Nat} {ρ:Rn} {α β γ:Type}
theorem rG{f:Array Value->Sem Value}(h1: ∀{ρ:Rn} {x x':Value},Au F ρ x x'->AX T F N (QV F) (f #[x]) ρ (f #[x']))(h2: ∀p:Array Value,(∀x,p≠ #[x])->∃s,f p=stuck s):Jo T F N f:=by
 intro ρ p p' hp;by_cases h: ∃x,p= #[x]
 ·obtain⟨x,rfl⟩:=h;obtain⟨l⟩:=p';obtain⟨e,h3⟩:=hp;rcases l with _|⟨x',_|⟨_,_⟩⟩;simp at e
  ·exact h1 (h3 0 x x' rfl rfl)
  simp at e
 obtain⟨s,hs⟩:=h2 p λx e=>h ⟨x,e⟩;rw[hs];exact λ_=>trivial
theorem AKB{f:Array Value->Sem Value}(h1: ∀{ρ:Rn} {x x' y y':Value},Au F ρ x x'->Au F ρ y y'->AX T F N (QV F) (f #[x,y]) ρ (f #[x',y']))(h2: ∀p:Array Value,(∀x y,p≠ #[x,y])->∃s,f p=stuck s):Jo T F N f:=by
 intro ρ p p' hp;by_cases h: ∃x y,p= #[x,y]
 ·obtain⟨x,y,rfl⟩:=h;obtain⟨l⟩:=p';obtain⟨e,h3⟩:=hp;rcases l with _|⟨x',_|⟨y',_|⟨_,_⟩⟩⟩;simp at e;simp at e
  ·exact h1 (h3 0 x x' rfl rfl) (h3 1 y y' rfl rfl)
  simp at e
 obtain⟨s,hs⟩:=h2 p λx y e=>h ⟨x,y,e⟩;rw[hs];exact λ_=>trivial
theorem ACN:Jo T F N MapsClone.clone:=by
 refine rG (λ{ρ x x'} h=>?_) λp hp=>?_
 ·unfold MapsClone.clone
  cases h with
  |flat hf=>cases x<;>first|exact CU hf|exact λ_=>trivial
  | @iface t v v' hv=>
   cases hv with
   |flat hf=>
    (cases v<;>first|exact λ_=>trivial|exact CU hf|skip);rename_i a;cases a<;>first|exact CU hf|exact λ_=>trivial
   |map hb=>
    intro hok;refine⟨hb,λo o' ho=>?_⟩
    cases ho with
    | @map es es' c hs he=>
     have fin:AX T F N (QV F) (newObj (.map es c)>>=λb=>pure (.iface t (.map (some b))):Sem Value) ρ (newObj (.map es' c)>>=λb=>pure (.iface t (.map (some b)))):=
      (WH (.map hs he)).bind λ_ _ _ _ hb=>λ_=>.iface (.map hb)
     exact fin hok
    |_=>exact trivial
   |_=>exact λ_=>trivial
  |_=>exact λ_=>trivial
 obtain⟨l⟩:=p;rcases l with _|⟨x,_|⟨y,l⟩⟩;exact⟨_,rfl⟩;exact absurd rfl (hp x);exact⟨_,rfl⟩
theorem Zh(s:String):AX T F N ET (cutType s) ρ (cutType s):=by
 refine CV.bind λρ₁ p p' l1 e=>?_;obtain⟨rfl,rfl⟩:=e;show AX T F N ET (match T.P.cutTypes.find? (·.1==s) with|some (_,t)=>pure t|none=>stuck ("the program has no row for the type " ++s):Sem TypeId) ρ₁ (match T.P.cutTypes.find? (·.1==s) with|some (_,t)=>pure t|none=>stuck ("the program has no row for the type " ++s))
 cases T.P.cutTypes.find? (·.1==s) with|none=>exact λ_=>trivial|some q=>exact λ_=>rfl
theorem WY(hN:T.P.globals.size<N)(t:TypeId):AX T F N (QV F) (ReflectliteType.toType t) ρ (ReflectliteType.toType t):=by
 refine (Zh _).bind λρ₁ u u' l1 e=>?_;obtain rfl:u=u':=e;refine (zy hN t).bind λρ₂ h h' l2 hh=>λ_=>.iface ?_;have:=Ar.one hh;exact .agg this.1 this.2
theorem Ur(hN:T.P.globals.size<N)(hb:T.P.bearsPack=false){x x':Value}(h:Au F ρ x x'):AX T F N ET (ReflectliteType.ofRtype x) ρ (ReflectliteType.ofRtype x'):=by
 have key: ∀{p p':Array Value},Ar F ρ p p'->AX T F N ET (ReflectliteType.ofRtype (.agg p)) ρ (ReflectliteType.ofRtype (.agg p')):=by
  intro p p' hp;obtain⟨l⟩:=p;obtain⟨l'⟩:=p';obtain⟨e,h3⟩:=hp;(rcases l with _|⟨y,_|⟨_,_⟩⟩<;>rcases l' with _|⟨y',_|⟨_,_⟩⟩<;>first|exact λ_=>trivial|(simp at e;done)|skip);refine (TW hN (h3 0 y y' rfl rfl)).bind λρ₁ t t' l1 e=>?_;obtain rfl:t=t':=e;exact (SN hb _ t).bind λ_ _ _ _ _=>λ_=>rfl
 cases h with
 |flat hf=>cases x<;>first|exact λ_=>trivial|exact CU hf
 |agg h1 h2=>exact key ⟨h1,h2⟩|_=>exact λ_=>trivial
theorem AAA(hN:T.P.globals.size<N):Jo T F N ReflectliteType.typeOf:=by
 refine rG (λ{ρ x x'} h=>?_) λp hp=>?_
 ·unfold ReflectliteType.typeOf
  cases h with
  |flat hf=>cases x<;>first|exact CU hf|exact λ_=>trivial|exact λ_=>.flat rfl
  |iface=>exact WY hN _|_=>exact λ_=>trivial
 obtain⟨l⟩:=p;rcases l with _|⟨x,_|⟨y,l⟩⟩;exact⟨_,rfl⟩;exact absurd rfl (hp x);exact⟨_,rfl⟩
theorem fC(hN:T.P.globals.size<N)(hb:T.P.bearsPack=false){f:TypeId->Sem Value}(hf: ∀{ρ:Rn} (t:TypeId),AX T F N (QV F) (f t) ρ (f t)):Jo T F N (ReflectliteType.method f):=by
 refine rG (λ{ρ x x'} h=>?_) λp hp=>?_
 ·exact (Ur hN hb h).bind λρ₁ t t' l1 e=>by obtain rfl:t=t':=e;exact hf t
 obtain⟨l⟩:=p;rcases l with _|⟨x,_|⟨y,l⟩⟩;exact⟨_,rfl⟩;exact absurd rfl (hp x);exact⟨_,rfl⟩
theorem KZ{Q:Rn->α->β->Prop}(m:String):AX T F N Q (panicString m:Sem α) ρ (panicString m:Sem β):=
 CV.bind λρ₁ p p' l1 e=>by obtain⟨rfl,rfl⟩:=e;exact QZ (.iface (.flat rfl))
theorem ACO(hN:T.P.globals.size<N)(hb:T.P.bearsPack=false)(t:TypeId):AX T F N (QV F) (ReflectliteType.elem t) ρ (ReflectliteType.elem t):=by
 refine (kE t).bind λρ₁ q q' l1 e=>?_;obtain rfl:q=q':=e
 cases q with
 |none=>exact (Yk hb t).bind λ_ s s' _ e=>by obtain rfl:s=s':=e;exact KZ _
 |some u=>exact WY hN u
theorem ACP(hb:T.P.bearsPack=false)(u t:TypeId):AX T F N ET (ReflectliteType.implements_ u t) ρ (ReflectliteType.implements_ u t):=by
 refine (XX u).bind λρ₁ k k' l1 e=>?_;obtain rfl:k=k':=e
 have rest:AX T F N ET (do Rtype.noPackMethods "Implements" t;Rtype.noPack "Implements" u;Rtype.implements u t:Sem Bool) ρ₁ (do Rtype.noPackMethods "Implements" t;Rtype.noPack "Implements" u;Rtype.implements u t):=
  (IE hb _ t).bind λ_ _ _ _ _=>(SN hb _ u).bind λ_ _ _ _ _=>QD hb u t
 by_cases h:(k !=20)=true
 ·simp only[h,if_true];exact AX.bind (Q:=λ_ _ _=>False) (KZ _) λ_ _ _ _ e=>e.elim
 simp only[h,if_false,Ak];exact rest
theorem vT(hb:T.P.bearsPack=false)(u t:TypeId):AX T F N ET (ReflectliteType.assignableTo u t) ρ (ReflectliteType.assignableTo u t):=by
 have rest: ∀{ρ:Rn},AX T F N ET (do pure ((<- Rtype.directlyAssignable u t) || (<- Rtype.implements u t)):Sem Bool) ρ (do pure ((<- Rtype.directlyAssignable u t) || (<- Rtype.implements u t))):=by
  intro ρ;refine (Vb u t).bind λρ₁ x x' l1 e=>?_;obtain rfl:x=x':=e;exact (QD hb u t).bind λ_ y y' _ e=>by obtain rfl:y=y':=e;exact λ_=>rfl
 unfold ReflectliteType.assignableTo;by_cases h:(u !=t)=true
 ·simp only[h,if_true];exact (IE hb _ t).bind λ_ _ _ _ _=>(IE hb _ u).bind λ_ _ _ _ _=>rest
 simp only[h,if_false,Ak];exact rest
theorem YI(hN:T.P.globals.size<N)(hb:T.P.bearsPack=false)(w:String){f:TypeId->TypeId->Sem Bool}(hf: ∀{ρ:Rn} (u t:TypeId),AX T F N ET (f u t) ρ (f u t)):Jo T F N (ReflectliteType.relation w f):=by
 refine AKB (λ{ρ x x' y y'} h k=>?_) λp hp=>?_
 ·unfold ReflectliteType.relation
  cases k with
  |flat hf=>cases y<;>first|exact CU hf|exact λ_=>trivial|exact KZ _
  | @iface t v v' hv=>
   refine (Ur hN hb hv).bind λρ₁ u u' l1 e=>?_;obtain rfl:u=u':=e;refine (Ur hN hb (h.mono l1)).bind λρ₂ t t' l2 e=>?_;obtain rfl:t=t':=e;exact (hf u t).bind λ_ x x' _ e=>by obtain rfl:x=x':=e;exact λ_=>.flat rfl
  |_=>exact λ_=>trivial
 obtain⟨l⟩:=p;rcases l with _|⟨x,_|⟨y,_|⟨z,l⟩⟩⟩;exact⟨_,rfl⟩;exact⟨_,rfl⟩;exact absurd rfl (hp x y);exact⟨_,rfl⟩
theorem AGO(hN:T.P.globals.size<N)(hb:T.P.bearsPack=false){f:TypeId->Sem Value}(hf: ∀{ρ:Rn} (t:TypeId),AX T F N (QV F) (f t) ρ (f t)):Jo T F N (ReflectliteType.abiMethod f):=by
 refine rG (λ{ρ x x'} h=>?_) λp hp=>?_
 ·refine (TW hN h).bind λρ₁ t t' l1 e=>?_;obtain rfl:t=t':=e;exact (SN hb _ t).bind λ_ _ _ _ _=>hf t
 obtain⟨l⟩:=p;rcases l with _|⟨x,_|⟨y,l⟩⟩;exact⟨_,rfl⟩;exact absurd rfl (hp x);exact⟨_,rfl⟩
theorem ACQ(t:TypeId):AX T F N (QV F) (do pure (.int .u8 (<- Rtype.kind t)):Sem Value) ρ (do pure (.int .u8 (<- Rtype.kind t))):=
 (XX t).bind λ_ k k' _ e=>by obtain rfl:k=k':=e;exact λ_=>.flat rfl
theorem iJ(hb:T.P.bearsPack=false)(t:TypeId):AX T F N (QV F) (do Rtype.noPackHeld "Comparable" t;pure (.bool (<- typeInfo t).comparable):Sem Value) ρ (do Rtype.noPackHeld "Comparable" t;pure (.bool (<- typeInfo t).comparable)):=
 (iI hb _ t).bind λ_ _ _ _ _=>(C9 t).bind λ_ i i' _ e=>by obtain⟨rfl,_⟩:=e;exact λ_=>.flat rfl
end
section
variable {T:Twin} {F:Fs} {N:Nat} {ρ:Rn} {α β γ:Type}
theorem ADk(hN:T.P.globals.size<N)(t:TypeId){a a':Addr}(h:RelA ρ a a')(fl:Nat):AX T F N (QV F) (ReflectliteValue.mk t a fl) ρ (ReflectliteValue.mk t a' fl):=by
 refine (zy hN t).bind λρ₁ x x' l1 hx=>?_;refine (XX t).bind λρ₂ k k' l2 e=>?_;obtain rfl:k=k':=e;have:=((Ar.one (hx.mono l2)).push (Au.ptr ((h.mono l1).mono l2))).push (Au.flat (F:=F) (ρ:=ρ₂) (v:=.int .u64 (Int.ofNat (k+ReflectliteValue.flagIndir+fl))) rfl);exact λ_=>.agg this.1 this.2
theorem kF:Au F ρ ReflectliteValue.zeroV ReflectliteValue.zeroV:=by
 have:=Ar.Ud (F:=F) (ρ:=ρ) (p:=#[.pointer none,.pointer none,.int .u64 0]) (by intro z hz;simp at hz;rcases hz with rfl|rfl<;>rfl);exact .agg this.1 this.2
theorem fD(hN:T.P.globals.size<N){x x':Value}(h:Au F ρ x x'):AX T F N (QV F) (ReflectliteValue.unpack x) ρ (ReflectliteValue.unpack x'):=by
 unfold ReflectliteValue.unpack
 cases h with
 |flat hf=>cases x<;>first|exact CU hf|exact λ_=>trivial|exact λ_=>kF
 | @iface t v v' hv=>exact (NM t hv).bind λρ₁ a a' l1 ha=>ADk hN t ha 0|_=>exact λ_=>trivial
theorem vU(hN:T.P.globals.size<N):Jo T F N (λargs=>ReflectliteValue.unpack (args.getD 0 (.tuple #[]))):=λhp=>fD hN (hp.getD 0)
theorem Ed{Q:Rn->α->β->Prop}(m:String)(k:Nat):AX T F N Q (ReflectliteValue.valueError m k:Sem α) ρ (ReflectliteValue.valueError m k:Sem β):=by
 refine (Zh _).bind λρ₁ t t' l1 e=>?_;obtain rfl:t=t':=e;refine (V5 t).bind λρ₂ u u' l2 e=>?_;obtain rfl:u=u':=e;have:=Ar.Ud (F:=F) (ρ:=ρ₂) (p:=#[strVal m,.int .u8 (Int.ofNat k)]) (by intro z hz;simp at hz;rcases hz with rfl|rfl<;>rfl);exact (NM u (.agg this.1 this.2)).bind λρ₃ a a' l3 ha=>QZ (.iface (.ptr ha))
def Qn (ρ:Rn) (x y:Option (TypeId×Addr×Nat)):Prop:=match x,y with
 |some p,some q=>p.1=q.1/\RelA ρ p.2.1 q.2.1/\p.2.2=q.2.2|none,none=>True|_,_=>False
theorem YJ(hN:T.P.globals.size<N){x x':Value}(h:Au F ρ x x'):AX T F N Qn (ReflectliteValue.partsAny x) ρ (ReflectliteValue.partsAny x'):=by
 have key: ∀{p p':Array Value},Ar F ρ p p'->AX T F N Qn (ReflectliteValue.partsAny (.agg p)) ρ (ReflectliteValue.partsAny (.agg p')):=by
  intro p p' hp;obtain⟨l⟩:=p;obtain⟨l'⟩:=p';obtain⟨e,h3⟩:=hp;(rcases l with _|⟨a,_|⟨b,_|⟨c,_|⟨_,_⟩⟩⟩⟩<;>first|exact λ_=>trivial|skip);(rcases l' with _|⟨a',_|⟨b',_|⟨c',_|⟨_,_⟩⟩⟩⟩<;>first|(simp at e;done)|skip);have ha:=h3 0 a a' rfl rfl;have hb:=h3 1 b b' rfl rfl;have hc:=h3 2 c c' rfl rfl;clear e h3;(cases c<;>first|exact λ_=>trivial|skip);rename_i kd n;rw[BN hc rfl];cases kd<;>first|exact λ_=>trivial|skip
  have go: ∀m:Int,(∀(y:Value) (r:Addr),ReflectliteValue.partsAny (.agg #[y,.pointer (some r),.int .u64 m])=(Rtype.ofHandle y>>=λt=>pure (some (t,r,m.toNat))))->
    (∀y z:Value,(∀r,z≠ .pointer (some r))->ReflectliteValue.partsAny (.agg #[y,z,.int .u64 m])=stuck "reflectlite: a Value expected")->
    AX T F N Qn (ReflectliteValue.partsAny (.agg #[a,b,.int .u64 m])) ρ (ReflectliteValue.partsAny (.agg #[a',b',.int .u64 m])):=by
   intro m e1 e2;by_cases hbp: ∃q,b=.pointer (some q)
   ·obtain⟨q,rfl⟩:=hbp;obtain⟨q',rfl,hq⟩:=Di hb
    cases q' with
    |none=>exact hq.elim|some q'=>
     rw[e1,e1];exact (TW hN ha).bind λρ₁ t t' l1 e=>by obtain rfl:t=t':=e;exact λ_=>⟨rfl,RelA.mono l1 hq,rfl⟩
   rw[e2 a b λr e=>hbp ⟨r,e⟩];exact λ_=>trivial
  have no: ∀(m:Int) (z:Value),(∀r,z≠ .pointer (some r))->∀y,m≠0->ReflectliteValue.partsAny (.agg #[y,z,.int .u64 m])=stuck "reflectlite: a Value expected" :=by
   intro m z hz y hm
   cases m with
   |ofNat k=>cases k with
    |zero=>exact absurd rfl hm|succ k=>cases z<;>first|rfl|(rename_i r;cases r<;>first|rfl|exact absurd rfl (hz _))
   |negSucc k=>cases z<;>first|rfl|(rename_i r;cases r<;>first|rfl|exact absurd rfl (hz _))
  cases n with
  |ofNat k=>cases k with
   |zero=>exact λ_=>trivial|succ k=>exact go _ (λ_ _=>rfl) λy z hz=>no _ z hz y (λe=>by cases e)
  |negSucc k=>exact go _ (λ_ _=>rfl) λy z hz=>no _ z hz y AY
 cases h with
 |flat hf=>cases x<;>first|exact λ_=>trivial|exact CU hf
 |agg h1 h2=>exact key ⟨h1,h2⟩|_=>exact λ_=>trivial
theorem Qn.mono{ρ':Rn}(h:ρ.le ρ'){x y:Option (TypeId×Addr×Nat)}(k:Qn ρ x y):Qn ρ' x y:=by
 rcases x with _|p<;>rcases y with _|q<;>first|exact k.elim|trivial|exact⟨k.1,RelA.mono h k.2.1,k.2.2⟩
theorem Yl(hN:T.P.globals.size<N)(hb:T.P.bearsPack=false){x x':Value}(h:Au F ρ x x'):AX T F N Qn (ReflectliteValue.parts x) ρ (ReflectliteValue.parts x'):=by
 refine (YJ hN h).bind λρ₁ q q' l1 hq=>?_;(rcases q with _|⟨t,a,fl⟩<;>rcases q' with _|⟨t',a',fl'⟩<;>first|exact hq.elim|exact λ_=>trivial|skip);obtain⟨e1,ha,e2⟩:=hq;simp only at e1 ha e2;subst e1 e2;exact (SN hb _ t).bind λρ₂ _ _ l2 _=>λ_=>⟨rfl,RelA.mono l2 ha,rfl⟩
theorem Us(hN:T.P.globals.size<N)(hb:T.P.bearsPack=false){z:Sem Value}{f:TypeId->Addr->Nat->Nat->Sem Value}(hz: ∀{ρ:Rn},AX T F N (QV F) z ρ z)
  (hf: ∀{ρ:Rn} (t:TypeId) (a a':Addr) (fl k:Nat),RelA ρ a a'->AX T F N (QV F) (f t a fl k) ρ (f t a' fl k)):Jo T F N (ReflectliteValue.method z f):=by
 refine rG (λ{ρ x x'} h=>?_) λp hp=>?_
 ·refine (Yl hN hb h).bind λρ₁ q q' l1 hq=>?_;(rcases q with _|⟨t,a,fl⟩<;>rcases q' with _|⟨t',a',fl'⟩<;>first|exact hq.elim|exact hz|skip);obtain⟨e1,ha,e2⟩:=hq;simp only at e1 ha e2;subst e1 e2;exact hf t a a' fl _ ha
 obtain⟨l⟩:=p;rcases l with _|⟨x,_|⟨y,l⟩⟩;exact⟨_,rfl⟩;exact absurd rfl (hp x);exact⟨_,rfl⟩
theorem iK(hN:T.P.globals.size<N){z:Sem Value}{f:TypeId->Addr->Nat->Nat->Sem Value}(hz: ∀{ρ:Rn},AX T F N (QV F) z ρ z)
  (hf: ∀{ρ:Rn} (t:TypeId) (a a':Addr) (fl k:Nat),RelA ρ a a'->AX T F N (QV F) (f t a fl k) ρ (f t a' fl k)):Jo T F N (ReflectliteValue.methodAny z f):=by
 refine rG (λ{ρ x x'} h=>?_) λp hp=>?_
 ·refine (YJ hN h).bind λρ₁ q q' l1 hq=>?_;(rcases q with _|⟨t,a,fl⟩<;>rcases q' with _|⟨t',a',fl'⟩<;>first|exact hq.elim|exact hz|skip);obtain⟨e1,ha,e2⟩:=hq;simp only at e1 ha e2;subst e1 e2;exact hf t a a' fl _ ha
 obtain⟨l⟩:=p;rcases l with _|⟨x,_|⟨y,l⟩⟩;exact⟨_,rfl⟩;exact absurd rfl (hp x);exact⟨_,rfl⟩
def UL:Value->Bool
 | .chan none| .nilFunc| .nilIface| .map none| .pointer none| .slice none _ _=>true|_=>false
theorem vV{x x':Value}(h:Au F ρ x x'):UL x=UL x':=by
 have nf: ∀z:Value,flat z=false->UL z=false:=by
  intro z hz;unfold UL;split<;>first|rfl|cases hz
 by_cases hx:flat x=true;rw[BN h hx];rw[nf x (by simpa using hx),nf x' (by cases e:flat x' with|false=>rfl|true=>exact absurd (O8 h e) hx)]
theorem ACR(t:TypeId){a a':Addr}(fl k:Nat)(h:RelA ρ a a'):AX T F N (QV F) (ReflectliteValue.isNil t a fl k) ρ (ReflectliteValue.isNil t a' fl k):=by
 have rest: ∀{ρ:Rn},RelA ρ a a'->AX T F N (QV F) (loadVar t a>>=λv=>match v with
   | .chan none| .nilFunc| .nilIface| .map none| .pointer none| .slice none _ _=>pure (.bool true)
   |_=>pure (.bool false):Sem Value) ρ (loadVar t a'>>=λv=>match v with
   | .chan none| .nilFunc| .nilIface| .map none| .pointer none| .slice none _ _=>pure (.bool true)
   |_=>pure (.bool false)):=by
  intro ρ h;refine (NW t h).bind λρ₁ v v' l1 hv=>?_
  have e1: ∀z:Value,(match z with
   | .chan none| .nilFunc| .nilIface| .map none| .pointer none| .slice none _ _=>pure (.bool true)
   |_=>pure (.bool false):Sem Value)=pure (.bool (UL z)):=by
   intro z;unfold UL;cases z<;>first|rfl|(rename_i a;cases a<;>rfl)|(rename_i a _ _;cases a<;>rfl)
  rw[e1,e1,vV hv];exact λ_=>.flat rfl
 unfold ReflectliteValue.isNil;by_cases hk:(!([18,19,20,21,22,23,26].contains k))=true
 ·simp only[hk,if_true];exact AX.bind (Q:=λ_ _ _=>False) (Ed _ _) λ_ _ _ _ e=>e.elim
 simp only[hk,if_false,Ak];exact rest h
def Calm {α:Type} (T:Twin):Sem α->Prop
 | .pure _=>True| .halt h=>Halt.dead T.p h| .new _ k=>T.p/\∀n,Calm T (k n)| .program k=>Calm T (k T.v)|_=>False
theorem Calm.dead{s:Sem α}{f:α->Sem β}:Calm T s->(∀a,CZ T (f a))->CZ T (s.bind f):=by
 intro hs hf
 induction s with|pure a=>exact hf a|halt h=>exact hs|new o k ih=>exact⟨hs.1,λn=>ih n (hs.2 n)⟩|program k ih=>exact ih _ hs|_=>exact hs.elim
theorem Calm.bind{s:Sem α}{f:α->Sem β}:Calm T s->(∀a,Calm T (f a))->Calm T (s.bind f):=by
 intro hs hf
 induction s with|pure a=>exact hf a|halt h=>exact hs|new o k ih=>exact⟨hs.1,λn=>ih n (hs.2 n)⟩|program k ih=>exact ih _ hs|_=>exact hs.elim
theorem bM(hp:T.p)(m:String)(k:Nat):CZ T (ReflectliteValue.valueError m k:Sem α):=by
 refine Calm.dead (s:=cutType _) ?_ λt=>?_
 ·show Calm T (match T.P.cutTypes.find? _ with|some (_,t)=>pure t|none=>stuck _:Sem TypeId);cases T.P.cutTypes.find? (·.1== "*internal/reflectlite.ValueError")<;>exact trivial
 refine Calm.dead (s:=elemOf t) ?_ λu=>?_
 ·show Calm T ((match T.P.underlying t with|some d=>pure d|none=>stuck "no such type" :Sem TypeDesc).bind _);refine Calm.bind ?_ λd=>?_
  ·cases T.P.underlying t<;>exact trivial
  cases d<;>exact trivial
 exact⟨hp,λn=>hp⟩
theorem ACS(hp:F.p->T.p)(hN:T.P.globals.size<N)(t:TypeId){a a':Addr}(fl k:Nat)(h:RelA ρ a a'):AX T F N (QV F) (ReflectliteValue.elem t a fl k) ρ (ReflectliteValue.elem t a' fl k):=by
 unfold ReflectliteValue.elem;by_cases hk:(k !=20 && k !=22)=true
 ·simp only[hk,if_true];exact AX.bind (Q:=λ_ _ _=>False) (Ed _ _) λ_ _ _ _ e=>e.elim
 simp only[hk,if_false,Ak];refine (NW t h).bind λρ₁ v v' l1 hv=>?_;refine (kE t).bind λρ₂ q q' l2 e=>?_;obtain rfl:q=q':=e;have hv:=hv.mono l2
 have hk2:k=20\/k=22:=by
  simp only[BF,bne_iff_ne,ne_eq,not_and,LP] at hk;exact (Classical.em (k=20)).imp id hk
 rcases hk2 with rfl|rfl;exact fD hN hv
 cases hv with
 |flat hf=>
  (cases v<;>first|exact Ed _ _|skip);rename_i r
  cases r with|none=>exact λ_=>kF|some _=>exact CU hf
 |ptr ha=>
  cases q with|none=>exact Ed _ _|some e=>exact ADk hN e ha _
 |tok hc ht hq=>
  rcases hq with hq|rfl;exact Qv (bM (hp hq) _ _) _;exact Ed _ _
 |mf hx hm=>cases v'<;>first|exact CU hm|exact Ed _ _
 |_=>exact Ed _ _
theorem AGP(hN:T.P.globals.size<N)(hb:T.P.bearsPack=false):Jo T F N ReflectliteValue.set:=by
 refine AKB (λ{ρ x x' y y'} h k=>?_) λp hp=>?_
 ·unfold ReflectliteValue.set;refine (Yl hN hb h).bind λρ₁ q q' l1 hq=>?_;refine (Yl hN hb (k.mono l1)).bind λρ₂ r r' l2 hr=>?_;have hq:=hq.mono l2;(rcases q with _|⟨t,a,fl⟩<;>rcases q' with _|⟨t',a',fl'⟩<;>first|exact hq.elim|exact λ_=>trivial|skip);(rcases r with _|⟨u,b,gl⟩<;>rcases r' with _|⟨u',b',gl'⟩<;>first|exact hr.elim|exact λ_=>trivial|skip);obtain⟨e1,ha,e2⟩:=hq;obtain⟨e3,hb',e4⟩:=hr;simp only at e1 ha e2 e3 hb' e4;subst e1 e2 e3 e4;have over: ∀{ρ:Rn},AX T F N (QV F) (pure (.tuple #[]):Sem Value) ρ (pure (.tuple #[])):=λ_=>.undef;by_cases hfl:(fl/ReflectliteValue.flagAddr % 2==0)=true
  ·simp only[hfl,if_true];exact λ_=>trivial
  simp only[hfl,if_false,Ak];refine (NW u hb').bind λρ₃ v v' l3 hv=>?_;refine (Vb t u).bind λρ₄ c c' l4 e=>?_;obtain rfl:c=c':=e;have ha4:=(RelA.mono l3 ha).mono l4;have hv4:=hv.mono l4;cases c
  ·simp only[if_false,Ak];refine (QD hb t u).bind λρ₅ d d' l5 e=>?_;obtain rfl:d=d':=e;cases d
   ·simp only[if_false,Ak];refine (Yk hb u).bind λρ₆ s s' l6 e=>?_;obtain rfl:s=s':=e;refine (Yk hb t).bind λρ₇ s2 s2' l7 e=>?_;obtain rfl:s2=s2':=e;exact AX.bind (Q:=λ_ _ _=>False) (KZ _) λ_ _ _ _ e=>e.elim
   simp only[if_true];refine (XX u).bind λρ₆ kd kd' l6 e=>?_;obtain rfl:kd=kd':=e;have ha6:=(RelA.mono l5 ha4).mono l6;have hv6:=(hv4.mono l5).mono l6;by_cases hk:(kd==20)=true
   ·simp only[hk,if_true];have st:AX T F N (QV F) (storeVar t a v>>=λ_=>pure (.tuple #[]):Sem Value) ρ₆ (storeVar t a' v'>>=λ_=>pure (.tuple #[])):=(O6 t ha6 hv6).bind λ_ _ _ _ _=>over;by_cases hn:v=.nilIface
    ·subst hn;rw[BN hv6 rfl];exact λ_=>trivial
    have hn':v'≠ .nilIface:=λe=>hn ((Uf hv6).2 e);split;exact absurd rfl hn;cases v'<;>first|exact absurd rfl hn'|exact st
   simp only[hk,if_false,Ak];exact (O6 t ha6 (.iface hv6)).bind λ_ _ _ _ _=>over
  simp only[if_true];exact (O6 t ha4 hv4).bind λ_ _ _ _ _=>over
 obtain⟨l⟩:=p;rcases l with _|⟨x,_|⟨y,_|⟨z,l⟩⟩⟩;exact⟨_,rfl⟩;exact⟨_,rfl⟩;exact absurd rfl (hp x y);exact⟨_,rfl⟩
end
abbrev RN:Array Oper:=#[{dst:=some 15,op:=.call {callee:=.invoke (.tmp 1) "Take",args:=#[(.tmp 14)],argTypes:=#[62]},type:=51,pos:= "",after:=#[],guard:=none}]
abbrev UM:Code:=(.seq (.region 4 #[{dst:=some 16,op:=.binOp .mul 51 (.tmp 15) (.const (.int .i64 1)) 51,type:=51,pos:= "",after:=#[],guard:=none},{dst:=some 5,op:=.assign (.tmp 15),type:=51,pos:= "",after:=#[],guard:=none},{dst:=some 17,op:=.binOp .neq 51 (.tmp 15) (.const (.int .i64 0)) 51,type:=4,pos:= "",after:=#[],guard:=none}] false) (.seq (.cond (.tmp 17) (.exit 0) .skip) (.region 5 #[{dst:=some 18,op:=.binOp .add 3 (.tmp 4) (.const (.int .i64 1)) 3,type:=3,pos:= "",after:=#[],guard:=none},{dst:=some 4,op:=.assign (.tmp 18),type:=3,pos:= "",after:=#[],guard:=none},{dst:=some 8,op:=.assign (.tmp 12),type:=3,pos:= "",after:=#[],guard:=none}] false)))
abbrev Ai.loop:Code:=(.seq (.region 1 #[{dst:=some 9,op:=.binOp .lss 3 (.tmp 8) (.tmp 7) 3,type:=4,pos:= "",after:=#[],guard:=none}] false) (.seq (.cond (.tmp 9) .skip (.exit 0)) (.seq (.region 2 #[{dst:=some 10,op:=.binOp .sub 3 (.tmp 7) (.tmp 8) 3,type:=3,pos:= "",after:=#[],guard:=none},{dst:=some 11,op:=.call {callee:=.builtin .min,args:=#[(.tmp 6),(.tmp 10)],argTypes:=#[3,3]},type:=3,pos:= "",after:=#[],guard:=none},{dst:=some 12,op:=.binOp .add 3 (.tmp 8) (.tmp 11) 3,type:=3,pos:= "",after:=#[],guard:=none},{dst:=some 13,op:=.slice 9 (.tmp 3) (some (.tmp 8)) (some (.tmp 12)) none,type:=9,pos:= "",after:=#[],guard:=none},{dst:=some 14,op:=.call {callee:=.builtin .append,args:=#[(.const (.slice none 0 0)),(.tmp 13)],argTypes:=#[62,9]},type:=62,pos:= "",after:=#[],guard:=none}] false) (.seq (.region 3 #[{dst:=some 15,op:=.call {callee:=.invoke (.tmp 1) "Take",args:=#[(.tmp 14)],argTypes:=#[62]},type:=51,pos:= "",after:=#[],guard:=none}] false) (.seq (.region 4 #[{dst:=some 16,op:=.binOp .mul 51 (.tmp 15) (.const (.int .i64 1)) 51,type:=51,pos:= "",after:=#[],guard:=none},{dst:=some 5,op:=.assign (.tmp 15),type:=51,pos:= "",after:=#[],guard:=none},{dst:=some 17,op:=.binOp .neq 51 (.tmp 15) (.const (.int .i64 0)) 51,type:=4,pos:= "",after:=#[],guard:=none}] false) (.seq (.cond (.tmp 17) (.exit 0) .skip) (.region 5 #[{dst:=some 18,op:=.binOp .add 3 (.tmp 4) (.const (.int .i64 1)) 3,type:=3,pos:= "",after:=#[],guard:=none},{dst:=some 4,op:=.assign (.tmp 18),type:=3,pos:= "",after:=#[],guard:=none},{dst:=some 8,op:=.assign (.tmp 12),type:=3,pos:= "",after:=#[],guard:=none}] false)))))))
abbrev Ai.JB:Code:=(.seq (.region 6 #[{dst:=some 12,op:=.binOp .lss 3 (.tmp 11) (.tmp 3) 3,type:=4,pos:= "",after:=#[],guard:=none}] false) (.seq (.cond (.tmp 12) .skip (.exit 0)) (.seq (.region 7 #[{dst:=some 13,op:=.indexAddr 62 (.tmp 0) (.tmp 11),type:=0,pos:= "",after:=#[],guard:=none},{dst:=some 14,op:=.load 5 (.tmp 13),type:=5,pos:= "",after:=#[],guard:=none},{dst:=some 15,op:=.binOp .leq 5 (.const (.int .u8 0)) (.tmp 14) 5,type:=4,pos:= "",after:=#[],guard:=none},{dst:=some 16,op:=.binOp .leq 5 (.tmp 14) (.const (.int .u8 255)) 5,type:=4,pos:= "",after:=#[],guard:=none},{dst:=some 17,op:=.binOp .add 3 (.tmp 11) (.const (.int .i64 1)) 3,type:=3,pos:= "",after:=#[],guard:=none},{dst:=some 11,op:=.assign (.tmp 17),type:=3,pos:= "",after:=#[],guard:=none}] false) (.seq (.cond (.tmp 15) .skip (.refuse "")) (.cond (.tmp 16) .skip (.refuse ""))))))
abbrev Ai.IG:Code:=(.seq (.region 1 #[{dst:=some 6,op:=.binOp .lss 3 (.tmp 1) (.const (.int .i64 1)) 3,type:=4,pos:= "",after:=#[],guard:=none},{dst:=some 7,op:=.call {callee:=.builtin .max,args:=#[(.const (.int .i64 1)),(.tmp 3)],argTypes:=#[3,3]},type:=3,pos:= "",after:=#[],guard:=none}] false) (.seq (.cond (.tmp 6) (.region 2 #[{dst:=some 8,op:=.move (.tmp 7),type:=3,pos:= "",after:=#[],guard:=none}] false) (.region 3 #[{dst:=some 8,op:=.move (.tmp 1),type:=3,pos:= "",after:=#[],guard:=none}] false)) (.seq (.region 4 #[{dst:=some 9,op:=.binOp .leq 3 (.tmp 8) (.const (.int .i64 9223372036854775807)) 3,type:=4,pos:= "",after:=#[],guard:=none}] false) (.seq (.cond (.tmp 9) .skip (.refuse "")) (.seq (.region 5 #[{dst:=some 10,op:=.makeFunc (.func 79) #[] #[(.tmp 2),(.tmp 8)],type:=106,pos:= "",after:=#[],guard:=none},{dst:=some 4,op:=.assign (.tmp 10),type:=106,pos:= "",after:=#[],guard:=none}] false) .ret)))))
abbrev Ai.f47:Func:={name:= "Chunks",origin:= "",params:=#[62,3],resultTypes:=#[106],nfree:=0,ntmps:=20,results:=#[.tmp 4],body:=some (.seq (.region 0 #[{dst:=some 3,op:=.call {callee:=.builtin .len,args:=#[(.tmp 0)],argTypes:=#[62]},type:=3,pos:= "",after:=#[],guard:=none},{dst:=some 2,op:=.convert 62 9 (.tmp 0),type:=9,pos:= "",after:=#[],guard:=none},{dst:=some 18,op:=.call {callee:=.builtin .len,args:=#[(.tmp 2)],argTypes:=#[9]},type:=3,pos:= "",after:=#[],guard:=none},{dst:=some 19,op:=.binOp .eql 3 (.tmp 18) (.tmp 3) 3,type:=4,pos:= "",after:=#[],guard:=none},{dst:=some 5,op:=.binOp .leq 3 (.tmp 3) (.const (.int .i64 1073741824)) 3,type:=4,pos:= "",after:=#[],guard:=none},{dst:=some 11,op:=.move (.const (.int .i64 0)),type:=3,pos:= "",after:=#[],guard:=none}] false) (.seq (.cond (.tmp 19) .skip (.refuse "")) (.seq (.cond (.tmp 5) .skip (.refuse "")) (.seq (.block 0 (.loop Ai.JB)) Ai.IG)))),norace:=false,tmpNames:=#[]}
abbrev Ai.f46:Func:={name:= "Copy",origin:= "",params:=#[106,156],resultTypes:=#[3,51],nfree:=0,ntmps:=19,results:=#[.tmp 4,.tmp 5],body:=some (.seq (.region 0 #[{dst:=some 2,op:=.call {callee:=.value (.tmp 0),args:=#[(.const (.int .i64 0)),(.const (.int .i64 0)),(.const (.int .i64 0)),(.const (.int .i64 0)),(.const (.int .i64 0))],argTypes:=#[3,3,3,3,3]},type:=0,pos:= "",after:=#[],guard:=none},{dst:=some 3,op:=.extract (.tmp 2) 0,type:=9,pos:= "",after:=#[],guard:=none},{dst:=some 6,op:=.extract (.tmp 2) 1,type:=3,pos:= "",after:=#[],guard:=none},{dst:=some 7,op:=.call {callee:=.builtin .len,args:=#[(.tmp 3)],argTypes:=#[9]},type:=3,pos:= "",after:=#[],guard:=none},{dst:=some 8,op:=.move (.const (.int .i64 0)),type:=3,pos:= "",after:=#[],guard:=none},{dst:=some 4,op:=.assign (.const (.int .i64 0)),type:=3,pos:= "",after:=#[],guard:=none},{dst:=some 5,op:=.assign (.const (.int .i64 0)),type:=51,pos:= "",after:=#[],guard:=none}] false) (.seq (.block 0 (.loop Ai.loop)) .ret)),norace:=false,tmpNames:=#[]}
abbrev Ai.f79:Func:={name:= "Chunks$1",origin:= "",params:=#[3,3,3,3,3],resultTypes:=#[9,3],nfree:=2,ntmps:=8,results:=#[.tmp 5,.tmp 6],body:=some (.seq (.region 0 #[{dst:=some 7,op:=.binOp .add 3 (.tmp 6) (.const (.int .i64 0)) 3,type:=3,pos:= "",after:=#[],guard:=none}] false) .ret),norace:=false,tmpNames:=#[]}
noncomputable def Ai.funcs:Array Func:=((Tryz.prog.funcs.setIfInBounds 47 Ai.f47).setIfInBounds 46 Ai.f46).setIfInBounds 79 Ai.f79
noncomputable def Ae:Program:={Tryz.prog with funcs:=Ai.funcs}
theorem AAB:Ae.funcs[(47:Nat)]? =some Ai.f47:=by kernel_rfl
theorem rH:Ae.funcs[(46:Nat)]? =some Ai.f46:=by kernel_rfl
theorem kG:Ae.funcs[(79:Nat)]? =some Ai.f79:=by kernel_rfl
@[simp] theorem Ai.tab:Ae.toTables=Tryz.prog.toTables:=rfl
@[simp] theorem Ai.und(t:TypeId):Ae.underlying t=Tryz.prog.underlying t:=rfl
@[simp] theorem Ai.info(t:TypeId):Ae.info? t=Tryz.prog.info? t:=rfl
theorem kH(P:Program)(F:Array Func)(t:TypeId)(w:World):(typeInfo t).run {P with funcs:=F} w=(typeInfo t).run P w:=by
 have h: ∀Q:Program,(typeInfo t).run Q w=(match Q.toTables.info? t with|some d=>pure d|none=>stuck "no such type" :Sem TypeInfo).run Q w:=λQ=>rfl;rw[h,h];have e:({P with funcs:=F}:Program).toTables.info? t=P.toTables.info? t:=rfl;rw[e];cases P.toTables.info? t<;>simp[Sem.run,stuck]
@[simp] theorem Ai.ARl(t:TypeId)(w:World):(typeInfo t).run Ae w=(typeInfo t).run Tryz.prog w:=kH Tryz.prog Ai.funcs t w
theorem ADl(P:Program)(F:Array Func)(t:TypeId)(w:World):(underlying t).run {P with funcs:=F} w=(underlying t).run P w:=by
 have h: ∀Q:Program,(underlying t).run Q w=(match Q.underlying t with|some d=>pure d|none=>stuck "no such type" :Sem TypeDesc).run Q w:=λQ=>rfl;rw[h,h];have e:Program.underlying {P with funcs:=F} t=P.underlying t:=rfl;rw[e];cases P.underlying t<;>simp[Sem.run,stuck]
@[simp] theorem Ai.ARt(t:TypeId)(w:World):(underlying t).run Ae w=(underlying t).run Tryz.prog w:=ADl Tryz.prog Ai.funcs t w
theorem AGQ(P:Program)(F:Array Func)(t:TypeId)(w:World):(sizeOf t).run {P with funcs:=F} w=(sizeOf t).run P w:=by
 unfold sizeOf;simp only[Sem.run_bind,kH];(have h: ∀{α β:Type} (r:Result α) (f g:α->World->Result β),(∀a v,f a v=g a v)->r.andThen f=r.andThen g:=λr f g e=>by cases r with|ok a v=>exact e a v|halt h v=>rfl);refine h _ _ _ λa v=>?_;first|rfl|(cases a<;>rfl)|(cases a.zero<;>simp[unsupported])|simp
@[simp] theorem Ai.IX(t:TypeId)(w:World):(sizeOf t).run Ae w=(sizeOf t).run Tryz.prog w:=AGQ Tryz.prog Ai.funcs t w
theorem AJU(P:Program)(F:Array Func)(t:TypeId)(w:World):(isAgg t).run {P with funcs:=F} w=(isAgg t).run P w:=by
 unfold isAgg;simp only[Sem.run_bind,ADl];(have h: ∀{α β:Type} (r:Result α) (f g:α->World->Result β),(∀a v,f a v=g a v)->r.andThen f=r.andThen g:=λr f g e=>by cases r with|ok a v=>exact e a v|halt h v=>rfl);refine h _ _ _ λa v=>?_;first|rfl|(cases a<;>rfl)|(cases a.zero<;>simp[unsupported])|simp
@[simp] theorem Ai.La(t:TypeId)(w:World):(isAgg t).run Ae w=(isAgg t).run Tryz.prog w:=AJU Tryz.prog Ai.funcs t w
theorem AGR(P:Program)(F:Array Func)(t:TypeId)(w:World):(zeroValue t).run {P with funcs:=F} w=(zeroValue t).run P w:=by
 unfold zeroValue;simp only[Sem.run_bind,kH];(have h: ∀{α β:Type} (r:Result α) (f g:α->World->Result β),(∀a v,f a v=g a v)->r.andThen f=r.andThen g:=λr f g e=>by cases r with|ok a v=>exact e a v|halt h v=>rfl);refine h _ _ _ λa v=>?_;first|rfl|(cases a<;>rfl)|(cases a.zero<;>simp[unsupported])|simp
@[simp] theorem Ai.IY(t:TypeId)(w:World):(zeroValue t).run Ae w=(zeroValue t).run Tryz.prog w:=AGR Tryz.prog Ai.funcs t w
def S1:List Nat:=[3,4,5,6,8,9,10,11,12,13,14,15,16,17,18,19,20,21,22,23,24,25,26,27,28,29,31,32,33,34,35,36,37,38,39,40,41,42,43,44,45,46,47,48,49,50,51,52,53,54,55,56,57,58,59,60,61,62,63,64,65,66,67,70,71,72,73,78,81,82,83,84,85,86,87,88,89,90,94,95,96,97,98,99,100,120,122,123,124,125,128,129,130,136,137,138,139,140,141,142,143,144,145,146,147,148,149,150,151,152,153,154,155,156,177,178,179,180,181,183,185]
def SV:List Nat:=[39,41,43,45,48,50,51,56,62,72,73,84,85,124,125,129,130]
def SE:List Nat:=[68,91,92,93,121,126,127,170,171,187,190,191,192,193]
def SL:List Nat:=[136]
def S2:List Nat:=[36,61,70,81,177,178,179,180,181]
abbrev N9:Fb:={c:=λf=>S1.contains f,v:=λf=>SV.contains f,l:=true,d:=true,m:=2,a:=λf=>if f==47 || f==46 then some 2 else none,lr:=λf=>SL.contains f,e:=λf=>SE.contains f,ch:=some 47,cp:=some 46}
abbrev dR:Fb:={N9 with ch:=none,cp:=none,c:=λf=>S1.contains f || f==79,v:=λf=>SV.contains f || f==79,m:=5,a:=λ_=>none}
abbrev Qo:Fb:={c:=λf=>S2.contains f || SV.contains f,v:=λf=>SV.contains f,l:=true,d:=false,m:=2,a:=λf=>if SV.contains f then some 1000 else none,lr:=λf=>SL.contains f,e:=λ_=>false,h:=false}
noncomputable abbrev T1:Twin:={P:=Tryz.prog,F:=Ai.funcs,p:=True}
noncomputable abbrev K1:Kit:={P:=Tryz.prog,fb:=N9,G:=1,X:=λf=>f==47 || f==46,z:=79,p:=True}
noncomputable abbrev TV:Twin:={P:=Ae,F:=Ai.funcs}
noncomputable abbrev KV:Kit:={P:=Ae,fb:=dR,G:=1,X:=λ_=>false,z:=79}
noncomputable abbrev K2:Kit:={P:=Tryz.prog,fb:=Qo,G:=1,X:=λf=>SV.contains f,z:=79,p:=True}
theorem m0: ∀i,Tryz.prog.info? 0=some i->i.methods.find? (·.name== "")=none:=by
 intro i h;(have:(Tryz.prog.info? 0).map (λi=>(i.methods.find? (·.name== "")).isNone)=some true:=by kernel_rfl);rw[h] at this;simpa using this
def JC (P:Program) (f:Nat):Bool:=match P.funcs[f]? with|some fn=> !fn.body.isNone && !(fn.name== "runtime.NumGoroutine")|none=>false
theorem Ew{P:Program}{f:Nat}(h:JC P f=true): ∃fn,P.funcs[f]? =some fn/\fn.body.isNone=false/\(fn.name== "runtime.NumGoroutine")=false:=by
 unfold JC at h;split at h
 ·rename_i fn e;simp only[BF,Hu] at h;exact⟨fn,e,h.1,h.2⟩
 cases h
def XY (P:Program) (fb:Fb) (G:Nat) (f:Nat):Bool:=match P.funcs[f]? with|some fn=>(match fn.body with|some c=>JI P fb G true (fb.lr f) c|none=>true)|none=>true
theorem SQ{P:Program}{fb:Fb}{G:Nat}{f:Nat}(h:XY P fb G f=true){fn:Func}(e:P.funcs[f]? =some fn){c:Code}(k:fn.body=some c):JI P fb G true (fb.lr f) c=true:=by
 unfold XY at h;rw[e] at h;simp only[k] at h;exact h
theorem Ai.same{f:Nat}(h:f≠47/\f≠46/\f≠79):Ae.funcs[f]? =Tryz.prog.funcs[f]? :=by
 show Ai.funcs[f]? =_;unfold Ai.funcs;rw[BO h.2.2.symm,BO h.2.1.symm,BO h.1.symm]
theorem text1:(S1.all λf=>JC Tryz.prog f)=true:=by kernel_rfl
theorem ok1:(S1.all λf=>f==47 || (f==46 || XY Tryz.prog N9 1 f))=true:=by kernel_rfl
open Go.RowKit
noncomputable def fE (wg cb xb sb bc:Nat) (src c:Value):Array Value:=
 #[.pointer (some ⟨wg,0,none⟩),.pointer (some ⟨cb,0,none⟩),.pointer (some ⟨xb,0,none⟩),.pointer (some ⟨sb,0,none⟩),undef,.chan (some bc),src,c,undef,undef,undef,undef,undef,undef,undef]
structure ig (C:Cx) (R:RF C.SR) (cb sb:Nat):Prop where
 cbS:C.SR cb
 sbS:C.SR sb
 cb: ∀w,R.R w->w.cell? ⟨cb,0,none⟩=some (.chan (some C.bc))
 sb: ∀w,R.R w->w.cell? ⟨sb,0,none⟩=some (.chan (some C.bs))
section
variable {C:Cx} (hP:C.P=Tryz.prog) {k:Nat} {R:RF C.SR} (hR:R.Ok) {Gb:Nat->Prop} {W:WB} (hW:W.Ok) {x:List (Nat×Obj)} (hx: ∀p∈x,isCells p.2) {s2:LS} {wg cb xb sb:Nat} (hS:ig C R cb sb) {src:Value}
 (hT:W.T1=fE wg cb xb sb C.bc src undef) {Vq:Frame} {cs:List Frame}
include hP hR hW hx hS
theorem w25{xv:Value}{bk:Nat}{ob:Obj}(hob:isCells ob)(hcs:C.Cs k xv bk ob)(hbk:bk∉(Lw W x LS.ready s2).map Prod.fst/\¬Gb bk)
  (hgo:PW C (.work false) (k+1) (G (Vq.finish (.bool true)) cs) (ow R Gb (Lw W x LS.ready s2)))
  (hstop:PW C (.work true) k (G (Vq.finish (.bool false)) cs) (ow R Gb (Lw W ((bk,ob)::x) LS.left s2))):
  PW C (.work false) k (G (fr 75 (fE wg cb xb sb C.bc src xv) [.code (rA Tryz.f75),.beginRound,.code (rB Tryz.f75)] [] (some W.l1)) (Vq::cs)) (ow R Gb (Lw W ((bk,ob)::x) LS.ready s2)):=by
 (have hx': ∀p∈(bk,ob)::x,isCells p.2:=λp hp=>by rcases AA.1 hp with rfl|hp<;>first|exact hob|exact hx p hp);have fc: ∀{s1:LS} {y:List (Nat×Obj)} (w:World),(ow R Gb (Lw W y s1 s2)).I w->w.cell? ⟨cb,0,none⟩=some (.chan (some C.bc)):=λw hw=>hS.cb w hw.2;have fs: ∀{s1:LS} {y:List (Nat×Obj)} (w:World),(ow R Gb (Lw W y s1 s2)).I w->w.cell? ⟨sb,0,none⟩=some (.chan (some C.bs)):=λw hw=>hS.sb w hw.2;simp only[fE];have ea:rA Tryz.f75=rA Tryz.f75:=rfl
 conv at ea=>lhs;simp only[rA,EH,MC,Tryz.f75,Option.getD_some,Option.or,Option.map_some]
 have eb:rB Tryz.f75=rB Tryz.f75:=rfl
 conv at eb=>lhs;simp only[rB,EH,MC,Tryz.f75,Option.getD_some,Option.or,Option.map_some]
 rw[<- ea,<- eb];clear ea eb;(iterate 3 refine Eu ?_);refine ACJ (fn:=75) (s1:=LS.ready) (s1':=LS.busy) hP hR hW hx' (λw h=>zu h rfl) rfl ?_;(iterate 5 refine Eu ?_);refine D9 (Cj hP) ?_ (hr:=by intro w hw;have f0:=fc w hw;have f1:=fs w hw;unfold ev;go_simp;exact rfl) (he:=by intro w hw;have f0:=fc w hw;have f1:=fs w hw;unfold ev;simp[go_sem,f0];exact⟨.inr hS.cbS,rfl⟩);(iterate 5 refine Eu ?_);refine D9 (Cj hP) ?_ (hr:=by intro w hw;have f0:=fc w hw;have f1:=fs w hw;unfold ev;go_simp;exact rfl) (he:=by intro w hw;have f0:=fc w hw;have f1:=fs w hw;unfold ev;simp[go_sem,f1];exact⟨.inr hS.sbS,rfl⟩);(iterate 3 refine Eu ?_);refine AJT hP (xv:=xv) (z1:=.slice none 0 0) (z2:=.agg #[]) (bk:=bk) (ob:=ob) (o':=ow R Gb (Lw W x LS.busy s2)) rfl rfl (.inr (λc h=>by cases h)) (λw hw=>?_) (λw hw=>?_) hcs (.inr (Dz (AKA (p:=(bk,ob)) (BZ ..)))) (λw hw=>hw.1 (bk,ob) (AKA (BZ ..))) (λy hy=>?_) (λw hw=>⟨λp hp=>hw.1 p ?_,hw.2⟩) ?_ ?_
 ·unfold ev;simp[go_sem,execOp,EG,scase,rcase]
 ·unfold ev;simp[go_sem]
 ·rcases hy with hy|hy;exact⟨.inl hy,λe=>hbk.2 (e▸hy)⟩;refine⟨.inr ?_,λe=>hbk.1 (by rw[<- e];exact hy)⟩;simp only[Lw,AL,Bf,AA,AU] at hy⊢;rcases hy with h|h|h|h|h|h<;>simp[h]
 ·simp only[Lw,AA,AU] at hp⊢;rcases hp with h|h|h|h|h|h<;>simp[h]
 ·simp only[put];walk_nrm;(iterate 5 refine Eu ?_);refine Cc (Cj hP) (λw=>s_cond (b:=true) rfl) rfl ?_;simp only[if_true,Ak,↓reduceIte];(iterate 3 refine Eu ?_);exact ACJ (fn:=75) (s1:=LS.busy) (s1':=LS.ready) hP hR hW hx (λw h=>iZ (.inl ⟨rfl,rfl⟩) h) rfl hgo
 simp only[put];walk_nrm;(iterate 5 refine Eu ?_);refine Cc (Cj hP) (λw=>s_cond (b:=false) rfl) rfl ?_;simp only[if_false,Ak,↓reduceIte];refine Cc (Cj hP) (λw=>s_cond (b:=true) rfl) rfl ?_;simp only[if_true,if_false,↓reduceIte];exact ACJ (fn:=75) (s1:=LS.busy) (s1':=LS.left) hP hR hW hx' (λw h=>iZ (.inr ⟨_,rfl,rfl⟩) h) rfl hstop
end
def Zi (m:Region.Mode) (ops:Array Oper):Nat->Array Bool->List Nat->List (List Nat)
 |0,_,acc=>[acc.reverse]|f+1,listed,acc=>
  let rs:=(List.range ops.size).filter λi=> !listed.getD i true && ((ops[i]?).map (·.after.all λe=> !Region.binds m e || listed.getD e.on false)).getD false
  if rs.isEmpty then [acc.reverse] else rs.flatMap λi=>Zi m ops f (listed.setIfInBounds i true) (i::acc)
theorem go_mem{m:Region.Mode}{ops:Array Oper}: ∀(f t:Nat) (listed:Array Bool) (acc:List Nat),Region.linearise.go m ops f t listed acc∈Zi m ops f listed acc:=by
 intro f
 induction f with
 |zero=>intro t listed acc;simp[Region.linearise.go,Zi]
 |succ f ih=>
  intro t listed acc;unfold Region.linearise.go Zi;simp only;generalize (List.range ops.size).filter (λi=> !listed.getD i true && ((ops[i]?).map (·.after.all λe=> !Region.binds m e || listed.getD e.on false)).getD false)=rs
  cases rs with
  |nil=>simp|cons r rs=>
   simp only[List.isEmpty_cons,Ak,if_false];have hlt:t % (r::rs).length<(r::rs).length:=Ib _ AY;rw[Af hlt];exact Bd.2 ⟨_,List.getElem_mem hlt,ih _ _ _⟩
theorem AE3{C:Cx}{ws:WS}{kk:Nat}{fn:FuncId}{T:Array Value}{x:Item}{k:List Item}{D:List Deferred}{ro:Option Nat}{cs:List Frame}{o:Own C.SR}(h: ∀k',Go.RowKit.Hid (k'=k)->PW C ws kk (G (fr fn T (x::k') D ro) cs) o):PW C ws kk (G (fr fn T (x::k) D ro) cs) o:=h k rfl
theorem AJV{q:Prop}(H:Nat->Nat->Nat->Prop){p:Nat->Nat->Nat->Prop}(k:(∀a b c,H a b c->p a b c)->q)(h: ∀a b c,H a b c->p a b c):q:=k h
theorem AJW{q p:Prop}(k:p->q)(h:p):q:=k h
section
variable {P:Program} {fn:FuncId} {T:Array Value} {k:List Item} {D:List Deferred} {ro:Option Nat} {cs:List Frame} {ops:Array Oper}
theorem AJX{mn:Bool}{id:Nat}{w:World}:stepG P mn (G (fr fn T (.code (.region id ops true)::k) D ro) cs) w=
  .go (G (fr fn T (.inRegion ops (Region.schedule (P.follows .mixedOrders) ops ((Question.order fn id).cut (w.tape w.drawn (.order fn id))))::k) D ro) cs) {w with drawn:=w.drawn+1}:=rfl
theorem MF{P:Program}{f:Func}{T:Array Value}{t:Tmp}(h:f.results= #[.tmp t])(w:World):(results f T).runT P w #[]=(.ok (T.getD t undef) w,#[]):=by
 rw[Sem.runT_eq];simp[results,h]
theorem XZ{P:Program}{f:Func}{T:Array Value}(h:f.results= #[])(w:World):(results f T).runT P w #[]=(.ok (.tuple #[]) w,#[]):=by
 rw[Sem.runT_eq];simp[results,h]
theorem kJ{mn:Bool}{f:Func}{v:Value}{c:Frame}{w:World}(hf:P.funcs[fn]? =some f)(hr:(results f T).runT P w #[]=(.ok v w,#[])):
  stepG P mn (G {fr fn T k [] none with mode:=.returning} (c::cs)) w=.go (G (c.finish v) cs) w #[]:=by
 show unwind P mn {fr fn T k [] none with mode:=.returning} (c::cs) none w=_;unfold unwind;simp only[fr,hf,hr,doReturn,GStep.after,G];rfl
end
def Ut (n:Nat) (e:TypeId) (cap:Nat):Prop:=cap<=maxLen/\∃x,cap=(Question.appendCap n 0 e).cut x
section
variable {P:Program} {mn:Bool} {SR:Nat->Prop} {J:Goroutine->Own SR->Prop} (hJ:pq P mn J) {R:RF SR} {Gb:Nat->Prop} {L:List (Nat×Obj)}
 {fn:FuncId} {T:Array Value} {k:List Item} {D:List Deferred} {ro:Option Nat} {cs:List Frame} {ops:Array Oper} {i:Nat} {rest:List Nat} {op:Oper} {o:Own SR}
include hJ
theorem kK{OI:Nat}(orders:List (List Nat))(h1:Region.departs ops=false\/P.follows .mixedOrders=true)(h2:Zi .any ops ops.size (Array.replicate ops.size false) []=orders)(next: ∀l∈orders,J (G (fr fn T (.inRegion ops l::k) D ro) cs) o):
  J (G (fr fn T (.code (.region OI ops true)::k) D ro) cs) o:=by
 refine hJ.Ph (λw=>G (fr fn T (.inRegion ops (Region.schedule (P.follows .mixedOrders) ops ((Question.order fn OI).cut (w.tape w.drawn (.order fn OI))))::k) D ro) cs) (λ_=>o) rfl (λw hw=>⟨_,_,AJX,⟨?_,AP _,λb=>⟨.inl,λx=>x.elim id λy=>?_⟩,λ_ _ _=>rfl,⟨rfl,rfl,rfl⟩,AY⟩⟩) λw _=>next _ ?_;exact o.st w _ hw (λ_ _=>rfl) (AP _) rfl rfl
 ·have:w.heap.size<=b/\b<w.heap.size:=y;omega
 rw[<- h2];unfold Region.schedule;(have h3:(P.follows .mixedOrders || !Region.departs ops)=true:=by rcases h1 with h|h<;>rw[h]<;>simp);rw[if_pos h3];exact go_mem _ _ _ _
theorem JD{f:Func}{v:Value}{c:Frame}(hf:P.funcs[fn]? =some f)(hr: ∀w,(results f T).runT P w #[]=(.ok v w,#[]))(next:J (G (c.finish v) cs) o):J (G {fr fn T k [] none with mode:=.returning} (c::cs)) o:=
 Cc hJ (λw=>kJ hf (hr w)) rfl next
theorem Nk(v:Nat->Value)(ob:Obj)(ho:ops[i]? =some op)(hw:Region.wanted op (yielded ops T)=true)(hd:ro=none\/∀c,op.op≠ .defer c)(hr: ∀w,(ow R Gb L).I w->(execOp (ev T) op).run P w=.ok (.value (v w.heap.size)) (w.alloc ob))(he: ∀w,(ow R Gb L).I w->(execOp (ev T) op).events P w #[]= #[])
  (next: ∀n,(∃w,(ow R Gb L).I w/\w.heap.size=n)->J (G (fr fn (put T op.dst (v n)) (.inRegion ops rest::k) D ro) cs) (ow R Gb ((n,ob)::L))):
  J (G (fr fn T (.inRegion ops (i::rest)::k) D ro) cs) (ow R Gb L):=by
 refine zx hJ (λ_=>[ob]) (λ_ _=>rfl) (λn=>G (fr fn (put T op.dst (v n)) (.inRegion ops rest::k) D ro) cs) (λw hw'=>?_) rfl λn hn=>?_
 ·rw[WV ho hw hd (hr w hw'),he w hw']
  have:w.alloc ob={w with heap:=w.heap++[ob].toArray}:=by
   show ({w with heap:=w.heap.push ob}:World)=_;congr 1
  rw[this];rfl
 simpa using next n hn
theorem ADm{t e:TypeId}{ie:TypeInfo}{z:Value}(si xi:Operand)(hop:op.op=.call {callee:=.builtin .append,args:=#[si,xi],argTypes:=#[t,t]})(ht:P.underlying t=some (.slice e))(hi:P.info? e=some ie)(hz:ie.zero=some z)(hsz:ie.size=1)(hby:ie.bytes=1)(hzc:z.cells= #[.int .u8 0])
  {b0:Nat} (hs:ev T si=.slice (some ⟨b0,0,none⟩) 0 0) (hb0:(b0,.cells #[] e)∈L) {a:Addr} {n c:Nat} (hx:ev T xi=.slice (some a) n c) {news:List Value} (hl:news.length=n) (hn:0<n) (hle:n<=1073741824) (AMz: ∀u∈news,u.oneCell'=true)
  (hnews: ∀w,R.R w->∀j v,news[j]? =some v->w.cell? (a.add j)=some v) (vW:SR a.block)
  (ho:ops[i]? =some op) (hw:Region.wanted op (yielded ops T)=true) (hd:ro=none)
  (next: ∀m cap,n<=cap->Ut n e cap->(∃w,(ow R Gb L).I w/\w.heap.size=m)->J (G (fr fn (put T op.dst (.slice (some ⟨m,0,none⟩) n cap)) (.inRegion ops rest::k) D ro) cs) (ow R Gb ((m,.cells (news.toArray++Array.replicate (cap - n) (.int .u8 0)) e)::L))):
  J (G (fr fn T (.inRegion ops (i::rest)::k) D ro) cs) (ow R Gb L):=by
 subst hd
 have hrun: ∀w,(ow R Gb L).I w->(execOp (ev T) op).run P w=.ok (.value (.slice (some ⟨w.heap.size,0,none⟩) n (grownCap w n 0 e))) {w with heap:=w.heap.push (.cells (news.toArray++Array.replicate (grownCap w n 0 e - n) (.int .u8 0)) e),drawn:=w.drawn+1}:=by
  intro w hw'
  have h1:=run_append_grow (P:=P) w t op.type e ie z ht hi hz ⟨b0,0,none⟩ 0 0 [] AY AY a n c news (by rw[hl,hsz,D7]) (hnews w hw'.2) Ac (by simp;omega) (by
   rw[hby];have:Builtin.nextslicecap (0+n) 0=n:=by unfold Builtin.nextslicecap;simp;omega
   omega)
  unfold execOp;simp only[hop,resolve,invoke,builtin,Sem.run_bind,Sem.run_pure,Result.andThen_ok,BX,AL,BC,hs,hx,h1]
  have hzz: ∀m,Builtin.zeroCells z.cells m=Array.replicate m (.int .u8 0):=by
   intro m;unfold Builtin.zeroCells;rw[hzc];apply Ic;simp;intro j h1 h2;simp[Lj]
  rw[hzz];simp only[Array.empty_append,Dx];rfl
 have hcap: ∀w:World,n<=grownCap w n 0 e/\grownCap w n 0 e<=maxLen:=λw=>⟨grownCap_ge w n 0 e,grownCap_le_maxLen w n 0 e (by simp only[maxLen];omega)⟩;refine hJ.Ph (λw=>G (fr fn (put T op.dst (.slice (some ⟨w.heap.size,0,none⟩) n (grownCap w n 0 e))) (.inRegion ops rest::k) D none) cs) (λw=>ow R Gb ((w.heap.size,.cells (news.toArray++Array.replicate (grownCap w n 0 e - n) (.int .u8 0)) e)::L)) rfl (λw hw'=>⟨_,_,WV ho hw (.inl rfl) (hrun w hw'),?_⟩) λw hw'=>next _ _ (hcap w).1 ⟨(hcap w).2,_,rfl⟩ ⟨w,hw',rfl⟩;(have hold: ∀b,b<w.heap.size->(w.heap.push (.cells (news.toArray++Array.replicate (grownCap w n 0 e - n) (.int .u8 0)) e))[b]? =w.heap[b]? :=λb hb=>by rw[Ey hb,Ba hb]);refine⟨⟨λp hp=>?_,?_⟩,AY,λb=>?_,λb hb _=>hold b hb,⟨rfl,rfl,rfl⟩,λx hx'=>?_⟩
 ·rcases AA.1 hp with rfl|hp;simp;show (w.heap.push _)[p.1]? =_;have h1:=hw'.1 p hp;rw[hold _ (BK.1 h1).1];exact h1
 ·exact R.st w _ hw'.2 (λb hb=>hold b (R.lt w hw'.2 b hb)) AY
 ·simp only[ow,AL,AA,PR];constructor
  ·rintro (x|x|x);exact .inl (.inl x);exact .inr Ac;exact .inl (.inr x)
  rintro ((x|x)|x);exact .inl x;exact .inr (.inr x);exact .inr (.inl Ac)
 have hx':=Du hx';rw[show (execOp (ev T) op).events P w #[]=(Builtin.append_ #[t,t] op.type #[.slice (some ⟨b0,0,none⟩) 0 0,.slice (some a) n c]).events P w #[] from events_append_op (a:=⟨T,[]⟩) si xi t hop hs hx #[]] at hx';have hown:w.ownsRow 0 e 1 (.slice (some ⟨b0,0,none⟩) 0 0) 0 []:=⟨AY,.inr ⟨b0,0,#[],rfl,BP _,hw'.1 _ hb0,AP _,BP _,AY,AY⟩⟩;rcases events_append_where (P:=P) w 0 t op.type e ie z 1 1 ht hi hz hsz hby _ 0 [] hown a n c news (by rw[hl,D7]) (hnews w hw'.2) AMz (by simp only[maxLen];omega) Ac x hx' with ⟨ad,h1,h2⟩|⟨m,rfl,h2⟩
 ·rw[h1];rcases h2 with ⟨h2,h3⟩|h2;exact .inr ⟨by rw[h3];exact vW,h2⟩;refine .inl (.inr ?_);simp only[Value.ownBlock,BD] at h2;rw[h2];simp only[AL,AA];exact .inr (Dz hb0)
 unfold Neutral at h2;subst h2;trivial
end
end Go.Proofs.YtkkgcebhfghdnaaGreatDoor
