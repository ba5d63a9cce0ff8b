/- Part 2 of what that rests on; no condition. -/
import Derived.Test.YtkkgcebhfghdnaaGreatDoorJa
set_option maxRecDepth 100000
set_option maxHeartbeats 8000000
open List renaming getElem?_cons_zero→Vt
open Go.Builtin renaming nextslicecap→rW, firstCells→MJ, unsafeAdd_→gW, zeroCells→Nh, append_→PX, len_→UZ
open Go.Instr renaming sliceBounds→Qm, buildSlice→Zr, sliceBound→PV, makeFunc→Zt, sliceAt→LJ, slice→Vs, fill→MI, box→Su
open Go renaming loadCellsFrom→UY, runtimePanic→Ql, behindNumber→Xx, zeroValue→GM, typeInfo→I4, TypeInfo→Qk, TypeId→Aj, Value→AP, Addr→Ag
open Array renaming range→Zq
open Go.Sem renaming bind→JY
open Option renaming none→AB, some→AA
namespace Go.Proofs.YtkkgcebhfghdnaaGreatDoor
open Go Go.Conc
section
variable {a a':Ag}{p p':Array AP}{b b':Nat}{x x':AP}
section
variable {T:Twin} {F:Fs} {N:Nat} {ρ:Rn} {α β γ:Type}
abbrev Ec {α:Type}:Rn->α->α->Prop:=λ_ a b=>a=b
abbrev QV (F:Fs):Rn->AP->AP->Prop:=λρ=>Az F ρ
abbrev QVs (F:Fs):Rn->Array AP->Array AP->Prop:=λρ=>Au F ρ
abbrev QA:Rn->Ag->Ag->Prop:=λρ=>RelA ρ
theorem RU{Q:Rn->α->β->Prop}{s:Sem α}(h:CW T s)(s':Sem β):AY T F N Q s ρ s':=by
 intro _;(cases s<;>first|exact h.elim|skip);(all_goals first|exact gm h|exact Yj h|exact Wl h|exact .inl h|skip);rename_i x;cases x<;>first|exact h|exact .inl h|exact h.elim
theorem CU:AY T F N (λ_ a b=>a=T.v/\b=T.P) program ρ program:=λ_=>.inr ⟨rfl,rfl⟩
theorem BN(t:Aj):AY T F N (λ_ a b=>a=b/\T.P.underlying t=AA a) (underlying t) ρ (underlying t):=by
 have key:AY T F N (λ_ a b=>a=b/\T.P.underlying t=AA a) (match T.P.underlying t with|some d=>pure d|none=>stuck "no such type" :Sem TypeDesc) ρ (match T.P.underlying t with|some d=>pure d|none=>stuck "no such type" :Sem TypeDesc):=by
  cases h:T.P.underlying t with|none=>exact λ_=>Am|some d=>exact λ_=>⟨rfl,rfl⟩
 exact λhok=>.inr (key hok)
theorem Cm(t:Aj):AY T F N (λ_ a b=>a=b/\T.P.info? t=AA a) (I4 t) ρ (I4 t):=by
 have key:AY T F N (λ_ a b=>a=b/\T.P.info? t=AA a) (match T.P.info? t with|some d=>pure d|none=>stuck "no such type" :Sem Qk) ρ (match T.P.info? t with|some d=>pure d|none=>stuck "no such type" :Sem Qk):=by
  cases h:T.P.info? t with|none=>exact λ_=>Am|some d=>exact λ_=>⟨rfl,rfl⟩
 exact λhok=>.inr (key hok)
theorem EY(t:Aj):AY T F N Ec (sizeOf t) ρ (sizeOf t):=(Cm t).bind λ_ a b _ h=>by rw[h.1];exact λ_=>rfl
theorem mD(t:Aj):AY T F N Ec (isAgg t) ρ (isAgg t):=(BN t).bind λ_ a b _ h=>by obtain⟨rfl,_⟩:=h;cases a<;>exact λ_=>rfl
theorem Wn(t:Aj):AY T F N Ec (elemOf t) ρ (elemOf t):=(BN t).bind λ_ a b _ h=>by obtain⟨rfl,_⟩:=h;cases a<;>first|exact λ_=>rfl|exact λ_=>Am
theorem aG(n:Nat):AY T F N Ec (askRoom n) ρ (askRoom n):=by
 unfold askRoom;split;exact λ_=>.inr ⟨rfl,Am,rfl⟩;exact λ_=>rfl
theorem Ja(q:Question):AY T F N Ec (choose q) ρ (choose q):=λ_=>⟨rfl,λ_=>rfl⟩
def closed:AP->Bool
 | .agg cs=>cs.all flat|v=>flat v
theorem gq{v:AP}(h:closed v=true):Az F ρ v v:=by
 cases v<;>first
  |exact .flat h|skip
 rename_i cs
 have h': ∀x∈cs,flat x=true:=by
  intro x hx;have:=U5.1 (show cs.all flat=true from h) x hx;exact this
 exact .agg rfl (Au.VA h').2
def Hg (P:Program) (t:Aj):Bool:=
 match P.info? t with
 |some i=>match i.zero with
  |some z=>closed z|none=>true
 |none=>true
theorem OB(t:Aj)(h:Hg T.P t=true):AY T F N (λρ a b=>a=b/\Az F ρ a a) (GM t) ρ (GM t):=(Cm t).bind λ_ a b _ hb=>by
 obtain⟨rfl,hi⟩:=hb;unfold Hg at h;rw[hi] at h;simp only at h
 cases hz:a.zero with
 |none=>exact λ_=>Am|some z=>
  rw[hz] at h;exact λ_=>⟨rfl,gq h⟩
theorem uK(h:RelA ρ a a')(m:Mode):AY T F N (QV F) (load a m) ρ (load a' m):=λ_=>⟨rfl,h,λ_ _ hx=>hx⟩
theorem ADN(h:RelA ρ a a')(hx:Az F ρ x x')(m:Mode):AY T F N Ec (store a x m) ρ (store a' x' m):=λ_=>⟨rfl,h,hx,rfl⟩
theorem ZC: ∀(n i:Nat) {ρ:Rn},RelA ρ a a'->∀{acc acc':Array AP},Au F ρ acc acc'->AY T F N (QVs F) (UY a i n acc) ρ (UY a' i n acc'):=by
 intro n
 induction n with
 |zero=>intro i ρ _ acc acc' h;exact λ_=>h
 |succ n ih=>
  intro i ρ h acc acc' hacc;exact (uK (h.add i) .plain).bind λρ' x x' hl hx=>ih (i+1) (h.mono hl) ((hacc.mono hl).push hx)
theorem Ro(h:RelA ρ a a')(n:Nat):AY T F N (QVs F) (loadCells a n) ρ (loadCells a' n):=ZC n 0 h Au.nil
theorem Mc: ∀(l l':List AP) (i:Nat) {ρ:Rn},RelA ρ a a'->Au F ρ l.toArray l'.toArray->AY T F N Ec (storeCells a l i) ρ (storeCells a' l' i):=by
 intro l
 induction l with
 |nil=>
  intro l' i ρ h hl;(have:l'=[]:=by have:=hl.1;simp at this;exact dN.1 this.symm);subst this;exact λ_=>rfl
 |cons v l ih=>
  intro l' i ρ h hl
  cases l' with
  |nil=>have:=hl.1;simp at this|cons v' l'=>
   have hv:Az F ρ v v':=hl.2 0 v v' AV AV;refine (ADN (h.add i) hv .plain).bind λρ' _ _ hle _=>ih l' (i+1) (h.mono hle) ⟨?_,λj x x' hx hx'=>?_⟩;have:=hl.1;simpa using this;exact (hl.2 (j+1) x x' (by simpa using hx) (by simpa using hx')).mono hle
theorem OC(t:Aj)(h:RelA ρ a a'):AY T F N (QV F) (loadVar t a) ρ (loadVar t a'):=by
 refine (mD t).bind λρ' b b' hl hb=>?_;obtain rfl:b=b':=hb
 cases b with
 |true=>
  refine (EY t).bind λlu n n' hl' hn=>?_;obtain rfl:n=n':=hn;exact (Ro ((h.mono hl).mono hl') n).bind λρ₃ x x' _ hx _=>Az.agg hx.1 hx.2
 |false=>exact uK (h.mono hl) .plain
theorem Pm(t:Aj)(h:RelA ρ a a')(hx:Az F ρ x x'):AY T F N Ec (storeVar t a x) ρ (storeVar t a' x'):=by
 refine (EY t).bind λρ' n n' hl hn=>?_;obtain rfl:n=n':=hn;have hc:=(hx.mono hl).cells;by_cases hs:x.cells.size≠n
 ·simp only[hs,if_true,ne_eq,not_false_eq_true];exact λ_=>Am
 (have hs': ¬x'.cells.size≠n:=by rw[<- hc.1];exact hs);simp only[hs,hs',if_false];exact Mc _ _ 0 (h.mono hl) (by simpa using hc)
theorem TK(t:Aj)(h:Au F ρ p p'):AY T F N QA (newRow t p) ρ (newRow t p'):=
 λ_=>.inr ⟨.cells h,λ_ _ _=>⟨.inr ⟨rfl,rfl⟩,rfl,rfl⟩⟩
theorem Nj(t:Aj)(h:Az F ρ x x'):AY T F N QA (newVar t x) ρ (newVar t x'):=TK t h.cells
theorem uM(t:Aj)(h:Au F ρ p p')(o:Nat):AY T F N (QV F) (part t p o) ρ (part t p' o):=by
 refine (mD t).bind λρ' b b' hl hb=>?_;obtain rfl:b=b':=hb
 cases b with
 |true=>
  refine (EY t).bind λlu n n' hl' hn=>?_;obtain rfl:n=n':=hn;have:=((h.mono hl).mono hl').extract o (o+n);exact λ_=>Az.agg this.1 this.2
 |false=>
  show AY T F N (QV F) (match p[o]? with|some v=>pure v|none=>stuck "part: no such cell" :Sem AP) ρ' (match p'[o]? with|some v=>pure v|none=>stuck "part: no such cell" :Sem AP)
  cases hv:p[o]? with
  |none=>exact λ_=>Am|some v=>
   obtain⟨v',hv',hr⟩:=h.get hv;rw[hv'];exact λ_=>hr.mono hl
theorem OD(h:Az F ρ x x'):AY T F N Ec (asIntOf x) ρ (asIntOf x'):=by
 cases h with
 |flat hf=>cases x<;>first|exact λ_=>rfl|exact λ_=>Am|(rename_i a;cases a<;>exact λ_=>Am)
 |_=>exact λ_=>Am
theorem mF(h:Az F ρ x x'):AY T F N Ec (asInt x) ρ (asInt x'):=(OD h).bind λ_ a b _ e=>by obtain rfl:a=b:=e;exact λ_=>rfl
theorem AAm(h:Az F ρ x x'):AY T F N Ec (asBool x) ρ (asBool x'):=by
 cases h with
 |flat hf=>cases x<;>first|exact λ_=>rfl|exact λ_=>Am
 |_=>exact λ_=>Am
theorem MK(h:Az F ρ x x'):AY T F N QA (Instr.sureAddr x) ρ (Instr.sureAddr x'):=by
 cases h with
 |flat hf=>cases x<;>first|exact λ_=>Am|(rename_i a;cases a<;>first|exact λ_=>Am|exact Ai (show false=true from hf) AV)
 |ptr h=>exact λ_=>h|_=>exact λ_=>Am
theorem Bj{Q:Rn->α->β->Prop}{e:RuntimeError}(h:match e with| .typeAssertion .. | .unhashable _=>False|_=>True):
  AY T F N Q (Ql e:Sem α) ρ (Ql e:Sem β):=by
 have ARd: ∀(x y:Int) (s:Bool) (c:Nat),Az F ρ (.agg #[.int .i64 x,.int .i64 y,.bool s,.int .u8 c]) (.agg #[.int .i64 x,.int .i64 y,.bool s,.int .u8 c]):=λx y s c=>by
  have:=Au.VA (F:=F) (ρ:=ρ) (p:=#[.int .i64 x,.int .i64 y,.bool s,.int .u8 c]) (by intro z hz;simp at hz;rcases hz with rfl|rfl|rfl|rfl<;>rfl);exact Az.agg this.1 this.2
 cases e with
 |bounds x y s c=>exact λ_=>.inr (.inr ⟨_,rfl,.iface (ARd _ _ _ _)⟩)|error m=>exact λ_=>.inr (.inr ⟨_,rfl,.iface (.flat rfl)⟩)|plain m=>exact λ_=>.inr (.inr ⟨_,rfl,.iface (.flat rfl)⟩)|nilDeref=>exact λ_=>.inr (.inr ⟨_,rfl,.iface (.flat rfl)⟩)|typeAssertion _ _ _ _=>exact h.elim|panicNil=>
  refine CU.bind λρ₁ p p' l1 e=>?_;obtain⟨rfl,rfl⟩:=e;refine (Wn _).bind λρ₂ t t' l2 e=>?_;obtain rfl:t=t':=e;refine (Nj t (x:=.agg #[]) (x':=.agg #[]) (.agg rfl λi v v' h=>by simp at h)).bind λρ₃ a a' l3 ha=>?_;exact λ_=>.inr ⟨_,rfl,.iface (.ptr ha)⟩
 |unhashable _=>exact h.elim
theorem gu(h:Az F ρ x x'):AY T F N QA (asAddr x) ρ (asAddr x'):=by
 cases h with
 |flat hf=>cases x<;>first|exact λ_=>Am|(rename_i a;cases a<;>first|exact Bj (e:=.nilDeref) trivial|exact Ai (show false=true from hf) AV)
 |ptr h=>exact λ_=>h|_=>exact λ_=>Am
theorem IL{Q:Rn->α->β->Prop}(k:IntKind)(x y:Int)(c:BoundsCode):AY T F N Q (boundsPanic k x y c:Sem α) ρ (boundsPanic k x y c:Sem β):=by
 unfold boundsPanic;by_cases hc:(k != .u64 && decide (0<=x) && decide (x<=31))=true
 ·simp only[hc,if_true];exact λhok=>⟨rfl,λn=>Bj (e:=.bounds (IntKind.i64.wrap x) y (n==1) c) trivial hok⟩
 simp only[hc,if_false,C9];exact Bj (e:=.bounds (IntKind.i64.wrap x) y (k != .u64) c) trivial
theorem Qz{Q:Rn->α->β->Prop}(h:Az F ρ x x'):AY T F N Q (goPanic x:Sem α) ρ (goPanic x':Sem β):=λ_=>.inr ⟨x',rfl,h⟩
theorem NM(h:ρ.r b b'):AY T F N Ec (shape b) ρ (shape b'):=λ_=>aC h λ_=>rfl
theorem gy(h:ρ.r b b'):AY T F N (λ_ a c=>a=AB/\c=AB) (viewAt b) ρ (viewAt b'):=by
 refine (NM h).bind λρ' x x' hl e=>?_;obtain rfl:x=x':=e;by_cases hs:x.isSome=true;simp only[hs,if_true];exact λ_=>⟨rfl,rfl⟩;simp only[hs,if_false,C9];exact λ_=>⟨hl.r _ _ h,λo o' ho=>by cases ho<;>exact⟨rfl,rfl⟩⟩
def QN:Rn->Option (Ag×Bool)->Option (Ag×Bool)->Prop:=λρ x y=>match x,y with
 |none,AB=>True|some p,AA q=>RelA ρ p.1 q.1/\p.2=q.2|_,_=>False
theorem rf(h:ρ.r b b'):AY T F N QN (numberAt b) ρ (numberAt b'):=by
 refine (NM h).bind λρ' x x' hl e=>?_;obtain rfl:x=x':=e;by_cases hs:x.isSome=true;simp only[hs,if_true];exact λ_=>Am;simp only[hs,if_false,C9]
 exact λ_=>⟨hl.r _ _ h,λo o' ho=>by
  cases ho with|number ha=>exact⟨ha,rfl⟩|_=>exact Am⟩
theorem Hl(h:RelA ρ a a'):AY T F N (λρ x y=>RelA ρ x.1 y.1/\x.2=y.2) (Xx a) ρ (Xx a'):=
 (rf h.1).bind λρ' x x' hl e=>by
  (cases x<;>cases x'<;>first|exact e.elim|skip);exact λ_=>⟨h.mono hl,rfl⟩;exact λ_=>e
theorem Wp(h:RelA ρ a a'):AY T F N Ec (noView a) ρ (noView a'):=by
 refine (gy h.1).bind λρ' x x' _ e=>?_;obtain⟨rfl,rfl⟩:=e;exact λ_=>rfl
theorem UH(T:Twin): ∀(d:Nat) (t:Aj) (off:Nat),byteOfCell T.v d t off=byteOfCell T.P d t off
 |0,_,_=>rfl
 |d+1,t,off=>by
  have e1:T.v.underlying t=T.P.underlying t:=rfl;have e2: ∀x,T.v.cellsOf x=T.P.cellsOf x:=λ_=>rfl;have e3: ∀x,T.v.bytesOf x=T.P.bytesOf x:=λ_=>rfl;unfold byteOfCell;rw[e1];simp only[UH T d,e2,e3]
theorem Ku(h:RelA ρ a a'):AY T F N Ec (byteOf a) ρ (byteOf a'):=by
 obtain⟨b,o,s⟩:=a;obtain⟨b',o',s'⟩:=a';obtain⟨h1,h2,h3⟩:=h;simp only at h1 h2 h3;subst h2 h3;unfold byteOf
 cases s' with
 |some s=>exact λ_=>rfl|none=>
  refine CU.bind λρ₁ p p' l1 e=>?_;obtain⟨rfl,rfl⟩:=e;refine (Wp (a:=⟨b,o',AB⟩) (a':=⟨b',o',AB⟩) ⟨l1.r _ _ h1,rfl,rfl⟩).bind λρ₂ _ _ l2 _=>?_;refine (NM (b:=b) (b':=b') (l2.r _ _ (l1.r _ _ h1))).bind λρ₃ x x' _ e=>?_;obtain rfl:x=x':=e
  cases x with
  |none=>exact λ_=>Am|some q=>
   obtain⟨e,n⟩:=q;show AY _ F N Ec (if T.P.cellsOf e=0 then _ else _:Sem Nat) _ (if T.P.cellsOf e=0 then _ else _:Sem Nat);have hb:byteOfCell T.v T.v.depth e (o' % T.v.cellsOf e)=byteOfCell T.P T.P.depth e (o' % T.P.cellsOf e):=UH T _ _ _;by_cases h0:T.P.cellsOf e=0;simp only[h0,if_true];exact λ_=>rfl;simp only[h0,if_false,hb]
   cases hc:byteOfCell T.P T.P.depth e (o' % T.P.cellsOf e) with|none=>exact λ_=>Am|some b=>exact λ_=>rfl
theorem AAn(h:RelA ρ a a')(n m:Nat):AY T F N QA (partAt a n m) ρ (partAt a' n m):=by
 refine (Ku h).bind λρ₁ x x' l1 e=>?_;obtain rfl:x=x':=e;have h1:=h.mono l1;refine (Ku (a:={block:=a.block,off:=a.off+n}) (a':={block:=a'.block,off:=a'.off+n}) ⟨h1.1,by simp[h.2.1],rfl⟩).bind λρ₂ y y' l2 e=>?_;obtain rfl:y=y':=e;have h2:=h1.mono l2;show AY T F N QA (pure (if y=x+m then _ else _)) _ (pure (if y=x+m then _ else _));by_cases hy:y=x+m;simp only[hy,if_true];exact λ_=>⟨h2.1,by simp[h.2.1],rfl⟩;simp only[hy,if_false];exact λ_=>⟨h2.1,by simp[h.2.1],rfl⟩
theorem jT(h:RelA ρ a a')(f:Field):AY T F N QA (fieldPlace a f) ρ (fieldPlace a' f):=by
 refine (EY f.type).bind λρ₁ n n' l1 e=>?_;obtain rfl:n=n':=e;by_cases hn:n=0;simp only[hn,if_true];exact AAn (h.mono l1) _ _;simp only[hn,if_false];exact λ_=>(h.mono l1).add _
end
end
section
variable {l l':Array (Nat×AP)}{p:Array AP}{hi hi' lo lo' mx mx':Option AP}{x x':AP}
section
variable {T:Twin} {F:Fs} {N:Nat} {ρ:Rn} {α β γ:Type}
theorem ADO(t:Aj)(h:Hg T.P t=true):AY T F N (QV F) (Instr.alloc t true (.tuple #[])) ρ (Instr.alloc t true (.tuple #[])):=by
 refine (OB t h).bind λρ₁ z z' l1 e=>?_;obtain⟨rfl,hz⟩:=e;exact (Nj t hz).bind λρ₂ a a' _ ha _=>.ptr ha
theorem AH0(t:Aj)(h:Az F ρ x x'):AY T F N (QV F) (Su t x) ρ (Su t x'):=
 (Nj t h).bind λ_ _ _ _ ha _=>.ptr ha
theorem AAo(t:Aj)(h:Az F ρ x x'):AY T F N (QV F) (Instr.loadAt t x) ρ (Instr.loadAt t x'):=
 (MK h).bind λ_ _ _ _ ha=>OC t ha
theorem xq(t:Aj){y y':AP}(h:Az F ρ x x')(k:Az F ρ y y'):AY T F N Ec (Instr.storeAt t x y) ρ (Instr.storeAt t x' y'):=
 (MK h).bind λ_ _ _ l1 ha=>Pm t ha (k.mono l1)
theorem xu(t:Aj)(h:Az F ρ x x')(f:Nat):AY T F N (QV F) (Instr.fieldAt t x f) ρ (Instr.fieldAt t x' f):=by
 refine (BN t).bind λρ₁ d d' l1 e=>?_;obtain⟨rfl,_⟩:=e
 cases d with
 |struct fs=>
  simp only
  cases hf:fs[f]? with
  |none=>exact λ_=>Am|some fd=>
   refine (MK (h.mono l1)).bind λρ₂ a a' l2 ha=>?_;exact (jT ha fd).bind λρ₃ b b' _ hb _=>.ptr hb
 |_=>exact λ_=>Am
def AAp (d:TypeDesc) (x:AP):Sem (Option Ag×Nat×Aj):=
 match d,x with| .array len elem,x=>do pure (AA (<- Instr.sureAddr x),len,elem)| .slice elem,.slice base len _=>pure (base,len,elem)|_,_=>stuck "indexAddr: an array's address or a slice expected"
def mG (t:Aj) (k:IntKind) (i:Int) (base:Option Ag) (len:Nat) (elem:Aj):Sem AP:=do
 let tiny:=len<=1 && (match <- underlying t with| .array .. =>true|_=>false)
 match base with
 |some a=>
  if 0<=i/\i<len then pure (.pointer (AA (a.add (i.toNat*(<- sizeOf elem)))))
  else if tiny then unsupported (.noEntry "op/indexAddr.an index out of range at an array of length 0 or 1 (ledger 616)")
  else boundsPanic k i len .index
 |none=>boundsPanic k i 0 .index
theorem gz(t:Aj)(x ix:AP):Instr.indexAt t x ix=(asIntOf ix>>=λq=>underlying t>>=λd=>AAp d x>>=λb=>mG t q.1 q.2 b.1 b.2.1 b.2.2):=by
 unfold Instr.indexAt AAp mG;refine congrArg (Bind.bind (asIntOf ix)) (funext λq=>?_);refine congrArg (Bind.bind (underlying t)) (funext λd=>?_);cases d<;>cases x<;>first|rfl|(rename_i a;cases a<;>rfl)
theorem xw(t:Aj){i i':AP}(h:Az F ρ x x')(k:Az F ρ i i'):AY T F N (QV F) (Instr.indexAt t x i) ρ (Instr.indexAt t x' i'):=by
 rw[gz,gz];refine (OD k).bind λρ₁ n n' l1 e=>?_;obtain rfl:n=n':=e;obtain⟨kd,n⟩:=n;refine (BN t).bind λρ₂ d d' l2 e=>?_;obtain⟨rfl,_⟩:=e;have hx:=(h.mono l1).mono l2;refine AY.bind (Q:=λ(ρ:Rn) (p q:Option Ag×Nat×Aj)=>(match p.1,q.1 with|none,AB=>True|some a,AA a'=>RelA ρ a a'\/p.2.1=0|_,_=>False)/\p.2=q.2) ?_ ?_
 ·cases d with
  |array len el=>
   refine AY.bind (MK hx) λρ₃ a a' _ ha=>?_;exact λ_=>⟨.inl ha,rfl⟩
  |slice el=>
   cases hx with
   |flat hf=>
    (cases x<;>first|exact λ_=>Am|skip);rename_i a n c;cases a<;>first|exact Ai (show false=true from hf) AV|exact λ_=>⟨Am,rfl⟩
   |slice ha=>exact λ_=>⟨.inl ha,rfl⟩|emp=>exact λ_=>⟨.inr rfl,rfl⟩|_=>exact λ_=>Am
  |_=>exact λ_=>Am
 intro ρ₃ p q l3 hpq;obtain⟨b,len,el⟩:=p;obtain⟨b',len',el'⟩:=q;obtain⟨hb,he⟩:=hpq;simp only[Nw] at he;obtain⟨rfl,rfl⟩:=he;simp only;unfold mG;refine (BN t).bind λρ₄ d d' l4 e=>?_;obtain⟨rfl,_⟩:=e
 cases b with
 |none=>cases b' with
  |none=>exact IL _ _ _ _|some _=>exact hb.elim
 |some a=>cases b' with
  |none=>exact hb.elim|some a'=>
   simp only;by_cases hn:0<=n/\n<(len:Int)
   ·simp only[hn,and_self,if_true];refine (EY el).bind λρ₅ s s' l5 e=>?_;obtain rfl:s=s':=e;exact λ_=>.ptr (((RelA.mono l4 (hb.resolve_right (by simp only at*;omega))).mono l5).add _)
   simp only[hn,if_false];split<;>(by_cases hl:len<=1<;>simp only[hl,decide_true,decide_false,Bool.true_and,Bool.false_and,if_true,if_false,C9]<;>first|exact λ_=>Am|exact IL _ _ _ _)
def QP (F:Fs) (ρ:Rn):List (Nat×AP)->List (Nat×AP)->Prop:=Cc λp q=>p.1=q.1/\Az F ρ p.2 q.2
theorem AAq{l l':List AP}: ∀(k off:Nat) {p p':Array AP},Au F ρ l.toArray l'.toArray->Au F ρ p p'->
  Au F ρ ((l.zipIdx k).foldl (λcs (c,j)=>cs.setIfInBounds (off+j) c) p) ((l'.zipIdx k).foldl (λcs (c,j)=>cs.setIfInBounds (off+j) c) p'):=by
 induction l generalizing l' with
 |nil=>
  intro k off p p' h hp;(have:l'=[]:=by have:=h.1;simp at this;exact dN.1 this.symm);subst this;exact hp
 |cons v l ih=>
  intro k off p p' h hp
  cases l' with
  |nil=>have:=h.1;simp at this|cons v' l'=>
   simp only[List.zipIdx_cons,List.foldl_cons];refine ih _ _ ⟨by have:=h.1;simpa using this,λj x x' hx hx'=>h.2 (j+1) x x' (by simpa using hx) (by simpa using hx')⟩ (hp.set (h.2 0 v v' AV AV) _)
theorem dS(place:Nat->Option (Nat×Nat)): ∀{l l':List (Nat×AP)} {p p':Array AP},QP F ρ l l'->Au F ρ p p'->
  match MI place p l,MI place p' l' with|some a,AA b=>Au F ρ a b|none,AB=>True|_,_=>False:=by
 intro l
 induction l with
 |nil=>intro l' p p' h hp;cases h;exact hp
 |cons x l ih=>
  intro l' p p' h hp
  cases h with
  | @cons _ y _ l' hxy hl=>
   obtain⟨i,v⟩:=x;obtain⟨i',v'⟩:=y;obtain⟨e,hv⟩:=hxy;simp only at e hv;subst e;simp only[MI]
   cases place i with
   |none=>trivial|some q=>
    obtain⟨off,size⟩:=q;have hc:=hv.cells;simp only[<- hc.1,<- hp.1];by_cases hcd:(decide (v.cells.size≠size) || decide (off+v.cells.size>p.size))=true;simp only[hcd,if_true];simp only[hcd,if_false,C9];rw[<- xG,<- xG,AHt,AHt];exact ih hl (AAq 0 off (by simpa using hc) hp)
theorem rq{v:AP}(h:closed v=true): ∀x∈v.cells,flat x=true:=by
 cases v with|agg cs=>exact λx hx=>U5.1 (show cs.all flat=true from h) x hx|_=>intro x hx;simp[Value.cells] at hx;subst hx;exact h
theorem flat_get(h: ∀x∈p,flat x=true)(i:Nat):flat p[i]! =true:=by
 rw[getElem!_def]
 cases hx:p[i]? with|none=>rfl|some x=>exact h x (lK hx)
theorem VB(h: ∀x∈p,flat x=true)(n m:Nat):Au F ρ ((Zq n).map (p[· % m]!)) ((Zq n).map (p[· % m]!)):=
 Au.ofFn λ_=>.flat (flat_get h _)
theorem Kv(t:Aj)(h:Hg T.P t=true):AY T F N (λ_ a b=>a=b/\∀x∈a.cells,flat x=true) (GM t) ρ (GM t):=(Cm t).bind λ_ a b _ hb=>by
 obtain⟨rfl,hi⟩:=hb;unfold Hg at h;rw[hi] at h;simp only at h
 cases hz:a.zero with
 |none=>exact λ_=>Am|some z=>
  rw[hz] at h;exact λ_=>⟨rfl,rq h⟩
theorem ADP(fs:Array Field):AY T F N Ec (fs.mapM λf=>do pure (f.offset,<- sizeOf f.type):Sem (Array (Nat×Nat))) ρ (fs.mapM λf=>do pure (f.offset,<- sizeOf f.type)):=by
 rw[ADC];refine AY.bind (Q:=Ec) ?_ λ_ a b _ e=>by obtain rfl:a=b:=e;exact λ_=>rfl
 induction fs.toList generalizing ρ with
 |nil=>exact λ_=>rfl|cons f l ih=>
  rw[ADE];refine AY.bind (Q:=Ec) ((EY f.type).bind λ_ a b _ e=>by obtain rfl:a=b:=e;exact λ_=>rfl) λρ₁ a b _ e=>?_;obtain rfl:a=b:=e;exact ih.bind λρ₂ a b _ e=>by obtain rfl:a=b:=e;exact λ_=>rfl
theorem ADQ(t:Aj)(h:Hg T.P t=true)(hl:QP F ρ l.toList l'.toList):AY T F N (QV F) (Instr.build t l) ρ (Instr.build t l'):=by
 have mono: ∀{ρ₁:Rn},ρ.le ρ₁->QP F ρ₁ l.toList l'.toList:=λk=>by
  have: ∀{a b:List (Nat×AP)},QP F ρ a b->QP F _ a b:=λ{a b} q=>by
   induction q with|nil=>exact .nil|cons x _ i=>exact .cons ⟨x.1,x.2.mono k⟩ i
  exact this hl
 refine (Kv t h).bind λρ₁ z z' l1 e=>?_;obtain⟨rfl,hz⟩:=e;refine (BN t).bind λρ₂ d d' l2 e=>?_;obtain⟨rfl,_⟩:=e
 cases d with
 |struct fs=>
  refine (ADP fs).bind λρ₃ pl pl' l3 e=>?_;obtain rfl:pl=pl':=e;have:=dS (F:=F) (ρ:=ρ₃) (pl[·]?) (mono ((l1.trans l2).trans l3)) (Au.VA hz)
  cases h1:MI (pl[·]?) z.cells l.toList with
  |none=>exact λ_=>Am
  |some a=>cases h2:MI (pl[·]?) z.cells l'.toList with
   |none=>simp only[h1,h2] at this|some b=>simp only[h1,h2] at this⊢;exact λ_=>.agg this.1 this.2
 |array n el=>
  refine (EY el).bind λρ₃ s s' l3 e=>?_;obtain rfl:s=s':=e;have:=dS (F:=F) (ρ:=ρ₃) (λi=>AA (i*s,s)) (mono ((l1.trans l2).trans l3)) (Au.VA hz)
  cases h1:MI (λi=>AA (i*s,s)) z.cells l.toList with
  |none=>exact λ_=>Am
  |some a=>cases h2:MI (λi=>AA (i*s,s)) z.cells l'.toList with
   |none=>simp only[h1,h2] at this|some b=>simp only[h1,h2] at this⊢;exact λ_=>.agg this.1 this.2
 |_=>exact λ_=>Am
theorem jU(t:Aj)(n:Nat)(h: ∀el,T.P.underlying t=AA (.slice el)->Hg T.P el=true)(hl:QP F ρ l.toList l'.toList):
  AY T F N (QV F) (Zr t n l) ρ (Zr t n l'):=by
 have mono: ∀{ρ₁:Rn},ρ.le ρ₁->QP F ρ₁ l.toList l'.toList:=λk=>by
  have: ∀{a b:List (Nat×AP)},QP F ρ a b->QP F _ a b:=λ{a b} q=>by
   induction q with|nil=>exact .nil|cons x _ i=>exact .cons ⟨x.1,x.2.mono k⟩ i
  exact this hl
 refine (BN t).bind λρ₂ d d' l2 e=>?_;obtain⟨rfl,hd⟩:=e
 cases d with
 |slice el=>
  refine (EY el).bind λρ₃ s s' l3 e=>?_;obtain rfl:s=s':=e;by_cases hbig:n*s>2 ^ 24;simp only[hbig,if_true];exact λ_=>Am;simp only[hbig,if_false]
  have key: ∀(ρ₄:Rn) (z:Array AP),ρ₃.le ρ₄->(∀x∈z,flat x=true)->
    AY T F N (QV F) (do
     let AA cells:=MI (λi=>AA (i*s,s)) ((Zq (n*s)).map (z[· % z.size]!)) l.toList|stuck "buildSlice: a part of the wrong size"
     pure (.slice (AA (<- newRow el cells)) n n):Sem AP) ρ₄ (do
     let AA cells:=MI (λi=>AA (i*s,s)) ((Zq (n*s)).map (z[· % z.size]!)) l'.toList|stuck "buildSlice: a part of the wrong size"
     pure (.slice (AA (<- newRow el cells)) n n):Sem AP):=by
   intro ρ₄ z l4 hz;have:=dS (F:=F) (ρ:=ρ₄) (λi=>AA (i*s,s)) (mono ((l2.trans l3).trans l4)) (VB hz (n*s) z.size)
   cases h1:MI (λi=>AA (i*s,s)) ((Zq (n*s)).map (z[· % z.size]!)) l.toList with
   |none=>exact λ_=>Am
   |some a=>cases h2:MI (λi=>AA (i*s,s)) ((Zq (n*s)).map (z[· % z.size]!)) l'.toList with
    |none=>simp only[h1,h2] at this|some b=>
     simp only[h1,h2] at this⊢;exact (TK el this).bind λ_ a b _ e=>λ_=>.slice e
  by_cases h0:n*s=0
  ·simp only[h0,if_true];have:=key ρ₃ #[] (.refl _) AV;simp only[h0] at this;exact this
  simp only[h0,if_false];refine (Kv el (h el hd)).bind λρ₄ z z' l4 e=>?_;obtain⟨rfl,hz⟩:=e;exact key ρ₄ _ l4 hz
 |_=>exact λ_=>Am
theorem xy(h:Az F ρ x x')(i:Nat):AY T F N (QV F) (Instr.extract x i) ρ (Instr.extract x' i):=by
 cases h with
 |flat hf=>cases x<;>first|exact λ_=>Am|exact Ai (show false=true from hf) AV
 |tuple h1 h2=>
  rename_i p p';simp only[Instr.extract]
  cases hv:p[i]? with
  |none=>exact λ_=>Am|some v=>
   obtain⟨v',hv',hr⟩:=Au.get ⟨h1,h2⟩ hv;rw[hv'];exact λ_=>hr
 |_=>exact λ_=>Am
theorem ZE(t:Aj)(h:Az F ρ x x'):AY T F N (QV F) (Instr.makeInterface t x) ρ (Instr.makeInterface t x'):=by
 refine (BN t).bind λρ₁ d d' l1 e=>?_;obtain⟨rfl,_⟩:=e;cases d<;>first|exact λ_=>Am|exact λ_=>.iface (h.mono l1)
theorem ru(f:FuncId)(hf:F f)(hv:F.v f){p' q q':Array AP}(h:Au F ρ p p')(k:Au F ρ q q'):AY T F N (QV F) (Zt (.func f) p q) ρ (Zt (.func f) p' q'):=
 λ_=>.func hf hv h.1 h.2 k.1 k.2
theorem QX(h:Az F ρ x x')(y:Nat)(c:BoundsCode):AY T F N Ec (PV x y c) ρ (PV x' y c):=by
 refine (OD h).bind λρ₁ n n' l1 e=>?_;obtain rfl:n=n':=e;obtain⟨k,n⟩:=n;simp only;split;exact λ_=>rfl;exact IL _ _ _ _
def QO (F:Fs) (ρ:Rn) (x y:Option AP):Prop:=match x,y with
 |none,AB=>True|some a,AA b=>Az F ρ a b|_,_=>False
theorem QO.mono{ρ':Rn}(h:ρ.le ρ'){x y:Option AP}(k:QO F ρ x y):QO F ρ' x y:=by
 cases x<;>cases y<;>first|exact k.elim|trivial|exact Az.mono h k
theorem Md(s:Bool)(n k:Nat)(lo hi mx:Option AP):Qm s n k lo hi mx=
  ((match mx with|some v=>PV v k (if s then .slice3Acap else .slice3Alen)|none=>pure k:Sem Nat)>>=λm=>
   (match hi,mx with|some v,AA _=>PV v m .slice3B|some v,AB=>PV v m (if s then .sliceAcap else .sliceAlen)|none,AB=>pure n|none,AA _=>stuck "Slice: max without high" :Sem Nat)>>=λh=>
    (match lo with|some v=>PV v h (if mx.isSome then .slice3C else .sliceB)|none=>pure 0:Sem Nat)>>=λl=>pure (l,h,m)):=by
 cases mx<;>cases hi<;>cases lo<;>rfl
theorem LW(s:Bool)(n k:Nat)(h1:QO F ρ lo lo')(h2:QO F ρ hi hi')(h3:QO F ρ mx mx'):
  AY T F N Ec (Qm s n k lo hi mx) ρ (Qm s n k lo' hi' mx'):=by
 rw[Md,Md];(have hs:mx.isSome=mx'.isSome:=by cases mx<;>cases mx'<;>first|rfl|exact h3.elim);refine AY.bind (Q:=Ec) ?_ λρ₁ m m' l1 e=>?_
 ·cases mx<;>cases mx'<;>first|exact h3.elim|exact λ_=>rfl|exact QX h3 _ _
 obtain rfl:m=m':=e;refine AY.bind (Q:=Ec) ?_ λρ₂ a a' l2 e=>?_
 ·have h2:=h2.mono l1
  cases hi<;>cases hi'<;>first
   |exact h2.elim|(cases mx<;>cases mx'<;>first|exact h3.elim|exact λ_=>rfl|exact λ_=>Am|exact QX h2 _ _)
 obtain rfl:a=a':=e;refine AY.bind (Q:=Ec) ?_ λρ₃ b b' l3 e=>?_
 ·have h1:=(h1.mono l1).mono l2;rw[<- hs];cases lo<;>cases lo'<;>first|exact h1.elim|exact λ_=>rfl|exact QX h1 _ _
 obtain rfl:b=b':=e;exact λ_=>rfl
theorem O3(h:Az F ρ x x')(y:Nat)(c:BoundsCode):AY T F N (λ_ p q=>p=q/\p<=y) (PV x y c) ρ (PV x' y c):=by
 refine (OD h).bind λρ₁ n n' l1 e=>?_;obtain rfl:n=n':=e;obtain⟨k,n⟩:=n;simp only;split;exact λ_=>⟨rfl,Ad⟩;exact IL _ _ _ _
theorem aH(s:Bool)(h1:QO F ρ lo lo')(h2:QO F ρ hi hi')(h3:QO F ρ mx mx'):
  AY T F N (λ_ p q=>p=q/\p=(0,0,0)) (Qm s 0 0 lo hi mx) ρ (Qm s 0 0 lo' hi' mx'):=by
 rw[Md,Md];(have hs:mx.isSome=mx'.isSome:=by cases mx<;>cases mx'<;>first|rfl|exact h3.elim);refine AY.bind (Q:=λ_ p q=>p=q/\p<=0) ?_ λρ₁ m m' l1 e=>?_
 ·cases mx<;>cases mx'<;>first|exact h3.elim|exact λ_=>⟨rfl,Ba _⟩|exact O3 h3 _ _
 obtain⟨rfl,e⟩:=e;obtain rfl:m=0:=ADF.1 e;refine AY.bind (Q:=λ_ p q=>p=q/\p<=0) ?_ λρ₂ a a' l2 e=>?_
 ·have h2:=h2.mono l1
  cases hi<;>cases hi'<;>first
   |exact h2.elim|(cases mx<;>cases mx'<;>first|exact h3.elim|exact λ_=>⟨rfl,Ba _⟩|exact λ_=>Am|exact O3 h2 _ _)
 obtain⟨rfl,e⟩:=e;obtain rfl:a=0:=ADF.1 e;refine AY.bind (Q:=λ_ p q=>p=q/\p<=0) ?_ λρ₃ b b' l3 e=>?_
 ·have h1:=(h1.mono l1).mono l2;rw[<- hs];cases lo<;>cases lo'<;>first|exact h1.elim|exact λ_=>⟨rfl,Ba _⟩|exact O3 h1 _ _
 obtain⟨rfl,e⟩:=e;obtain rfl:b=0:=ADF.1 e;exact λ_=>⟨rfl,rfl⟩
theorem ADR(t:Aj)(h:Az F ρ x x')(h1:QO F ρ lo lo')(h2:QO F ρ hi hi')(h3:QO F ρ mx mx'):
  AY T F N (QV F) (Vs t x lo hi mx) ρ (Vs t x' lo' hi' mx'):=by
 unfold Vs;refine (BN t).bind λρ₁ d d' l1 e=>?_;obtain⟨rfl,_⟩:=e;have hx:=h.mono l1;have h1:=h1.mono l1;have h2:=h2.mono l1;have h3:=h3.mono l1
 cases d with
 |string=>
  cases hx with
  |flat hf=>
   (cases x<;>first|exact λ_=>Am|skip);rename_i b;(have hs:mx.isSome=mx'.isSome:=by cases mx<;>cases mx'<;>first|rfl|exact h3.elim);simp only[<- hs];split;exact λ_=>Am;refine (LW false _ _ h1 h2 (mx:=AB) (mx':=AB) trivial).bind λρ₂ q q' _ e=>?_;obtain rfl:q=q':=e;exact λ_=>.flat rfl
  |_=>exact λ_=>Am
 |slice el=>
  have key: ∀{a a':Option Ag} {n k:Nat},(match a,a' with|none,AB=>True|some p,AA q=>RelA ρ₁ p q|_,_=>False)->
    AY T F N (QV F) (do let (l,h,m) <- Qm true n k lo hi mx;let size <- sizeOf el;pure (.slice (if m=l then a else a.map (·.add (l*size))) (h - l) (m - l)):Sem AP) ρ₁
     (do let (l,h,m) <- Qm true n k lo' hi' mx';let size <- sizeOf el;pure (.slice (if m=l then a' else a'.map (·.add (l*size))) (h - l) (m - l)):Sem AP):=by
   intro a a' n k ha;refine (LW true _ _ h1 h2 h3).bind λρ₂ q q' l2 e=>?_;obtain rfl:q=q':=e;obtain⟨l,hh,m⟩:=q;refine (EY el).bind λρ₃ s s' l3 e=>?_;obtain rfl:s=s':=e;(cases a<;>cases a'<;>first|exact ha.elim|skip);intro _;simp only[Option.map_none,ite_self];exact .flat rfl;have ha:RelA ρ₁ _ _:=ha;by_cases hm:m=l;simp only[hm,if_true];exact λ_=>.slice ((ha.mono l2).mono l3);simp only[hm,if_false,Option.map_some];exact λ_=>.slice (((ha.mono l2).mono l3).add _)
  cases hx with
  |flat hf=>
   (cases x<;>first|exact λ_=>Am|skip);rename_i a n k
   cases a with|none=>exact key trivial|some _=>exact Ai (show false=true from hf) AV
  |slice ha=>exact key (a:=AA _) (a':=AA _) ha|emp hc=>
   refine (aH true h1 h2 h3).bind λρ₂ q q' l2 e=>?_;obtain⟨rfl,rfl⟩:=e;refine (EY el).bind λρ₃ s s' l3 e=>?_;exact λ_=>.emp (l3.c _ _ (l2.c _ _ hc))
  |_=>exact λ_=>Am
 |pointer el=>
  refine AY.bind (Q:=QA) (gu hx) λρ₂ a a' l2 ha=>?_;refine (BN el).bind λρ₃ d d' l3 e=>?_;obtain⟨rfl,_⟩:=e
  cases d with
  |array n elem=>
   refine (LW false _ _ ((h1.mono l2).mono l3) ((h2.mono l2).mono l3) ((h3.mono l2).mono l3)).bind λρ₄ q q' l4 e=>?_;obtain rfl:q=q':=e;obtain⟨l,hh,m⟩:=q;refine (EY elem).bind λρ₅ s s' l5 e=>?_;obtain rfl:s=s':=e;have ha:=((ha.mono l3).mono l4).mono l5;by_cases hm:m=l;simp only[hm,if_true];exact λ_=>.slice ha;simp only[hm,if_false];exact λ_=>.slice (ha.add _)
  |_=>exact λ_=>Am
 |_=>exact λ_=>Am
theorem x8(t:Aj)(h:Az F ρ x x')(h1:QO F ρ lo lo')(h2:QO F ρ hi hi')(h3:QO F ρ mx mx'):
  AY T F N (QV F) (LJ t x lo hi mx) ρ (LJ t x' lo' hi' mx'):=by
 unfold LJ;refine (BN t).bind λρ₁ d d' l1 e=>?_;obtain⟨rfl,_⟩:=e
 cases d with
 |array n elem=>
  refine (MK (h.mono l1)).bind λρ₂ a a' l2 ha=>?_;refine (LW false _ _ ((h1.mono l1).mono l2) ((h2.mono l1).mono l2) ((h3.mono l1).mono l2)).bind λρ₄ q q' l4 e=>?_;obtain rfl:q=q':=e;obtain⟨l,hh,m⟩:=q;refine (EY elem).bind λρ₅ s s' l5 e=>?_;obtain rfl:s=s':=e;have ha:=(ha.mono l4).mono l5;by_cases hm:m=l;simp only[hm,if_true];exact λ_=>.slice ha;simp only[hm,if_false];exact λ_=>.slice (ha.add _)
 |_=>exact ADR t (h.mono l1) (h1.mono l1) (h2.mono l1) (h3.mono l1)
theorem mJ(h0: ∀i,T.P.info? 0=AA i->i.methods.find? (·.name== "")=AB){b:Nat}{β:Type}{Q:Rn->Next->β->Prop}(s':Sem β):
  DR T F N Q (do
   if (<- nilAhead ((<- program).types.size+Made.depth) 0 (.chan (AA b)) "") !=AA false then
    unsupported (.noEntry "op/nilCheck.the method's receiver behind this interface value is a nil pointer, or cannot be seen to be none, and the arguments act or may panic (ledger 612)")
   pure (.value (.func (.method "") #[.iface 0 (.chan (AA b))] #[])):Sem Next) ρ s':=by
 refine .inl ?_;show CW T ((nilAhead (T.P.types.size+Made.depth) 0 (.chan (AA b)) "").bind _)
 cases T.P.types.size+Made.depth with
 |zero=>exact Am|succ n=>
  have e:CW T (nilAhead (n+1) 0 (.chan (AA b)) ""):=by
   rw[nilAhead];show CW T ((match T.P.info? 0 with|some d=>pure d|none=>stuck "no such type" :Sem Qk).bind _)
   cases h:T.P.info? 0 with
   |none=>exact Am|some i=>
    simp only[pure,JY,h0 i h];exact Am
  exact e.bind
theorem sD(h0: ∀i,T.P.info? 0=AA i->i.methods.find? (·.name== "")=AB)(h:Az F ρ x x')(f f':AP->Sem Next)
  (hf:f=λx=>match x with
   | .pointer AB| .nilIface| .nilFunc=>Ql .nilDeref| .func (.method name) first captured=>
    match (first[0]? :Option AP) with
    |some .nilIface=>Ql .nilDeref
    |some (.iface t w)=>do
     if (<- nilAhead ((<- program).types.size+Made.depth) t w name) !=AA false then
      unsupported (.noEntry "op/nilCheck.the method's receiver behind this interface value is a nil pointer, or cannot be seen to be none, and the arguments act or may panic (ledger 612)")
     pure (.value (.func (.method name) first captured))
    |_=>pure (.value (.func (.method name) first captured))
   |x=>pure (.value x)) (e:f'=f) {Q:Rn->Next->Next->Prop} (hQ: ∀ρ x x',Az F ρ x x'->Q ρ (.value x) (.value x')):AY T F N Q (f x) ρ (f' x'):=by
 subst e hf
 cases h with
 |flat hf=>
  cases x<;>first
   |exact Bj (e:=.nilDeref) trivial|exact λ_=>hQ _ _ _ (.flat hf)|exact Ai (show false=true from hf) AV|(rename_i a;cases a<;>first|exact Bj (e:=.nilDeref) trivial|exact λ_=>hQ _ _ _ (.flat hf))
 |tok hc ht hp=>
  cases x'<;>first|exact Ai (show false=true from ht) AV|exact λ_=>hQ _ _ _ (.tok hc ht hp)|skip
  ·rename_i a;cases a<;>first|exact Ai (show false=true from ht) AV|exact λ_=>hQ _ _ _ (.tok hc ht hp)
  rename_i fn p q;cases fn<;>first|exact Ai (show false=true from ht) AV|exact λ_=>hQ _ _ _ (.tok hc ht hp)
 |mf hx hm=>exact λ_=>mJ h0 _|ptr ha=>exact λ_=>hQ _ _ _ (.ptr ha)|slice ha=>exact λ_=>hQ _ _ _ (.slice ha)|emp hc=>exact λ_=>hQ _ _ _ (.emp hc)|map ha=>exact λ_=>hQ _ _ _ (.map ha)|chan ha=>exact λ_=>hQ _ _ _ (.chan ha)|func h1 h6 h2 h3 h4 h5=>exact λ_=>hQ _ _ _ (.func h1 h6 h2 h3 h4 h5)|yield ha=>exact λ_=>hQ _ _ _ (.yield ha)|seq ha=>exact λ_=>hQ _ _ _ (.seq ha)|iface ha=>exact λ_=>hQ _ _ _ (.iface ha)|agg h1 h2=>exact λ_=>hQ _ _ _ (.agg h1 h2)|tuple h1 h2=>exact λ_=>hQ _ _ _ (.tuple h1 h2)
theorem ADS{Q:Rn->AP->AP->Prop}(h:Az F ρ x x'):AY T F N Q (Instr.panic x) ρ (Instr.panic x'):=by
 cases h with
 |flat hf=>
  (cases x<;>first|exact λ_=>Am|exact Ai (show false=true from hf) AV|skip);refine AY.bind (Q:=Ec) ?_ λρ₁ a b _ e=>?_
  ·refine AY.bind (Q:=Ec) (s:=sys .env) (s':=sys .env) (λ_ x=>rfl) λρ₁ a b _ e=>?_;obtain rfl:a=b:=e;(cases a<;>first|exact λ_=>Am|skip);exact CU.bind λρ₂ p p' _ e=>by obtain⟨rfl,rfl⟩:=e;exact λ_=>rfl
  obtain rfl:a=b:=e;split;exact Qz (.flat rfl);exact Bj (e:=.panicNil) trivial
 |iface h=>exact Qz (.iface h)|_=>exact λ_=>Am
end
end
section
variable {a a' b b':Ag}{x x':AP}
section
variable {T:Twin} {F:Fs} {N:Nat} {ρ:Rn} {α β γ:Type}
theorem RelA.beq(hok:ρ.Ok N)(h:RelA ρ a a')(k:RelA ρ b b'):(a.block==b.block)=(a'.block==b'.block):=by
 rw[lN,beq_iff_eq,beq_iff_eq];constructor;intro e;exact hok.fn _ _ _ h.1 (e▸k.1);intro e;exact hok.inj _ _ _ h.1 (e▸k.1)
theorem RelA.beq'(hok:ρ.Ok N)(h:RelA ρ a a')(k:RelA ρ b b'):(a==b)=(a'==b'):=by
 rw[lN,beq_iff_eq,beq_iff_eq];obtain⟨b1,o1,s1⟩:=a;obtain⟨b2,o2,s2⟩:=b;obtain⟨b3,o3,s3⟩:=a';obtain⟨b4,o4,s4⟩:=b';obtain⟨h1,h2,h3⟩:=h;obtain⟨k1,k2,k3⟩:=k;simp only at h1 h2 h3 k1 k2 k3;subst h2 h3 k2 k3;simp only[Addr.mk.injEq];constructor
 ·rintro⟨rfl,rfl,rfl⟩;exact⟨hok.fn _ _ _ h1 k1,rfl,rfl⟩
 rintro⟨rfl,rfl,rfl⟩;exact⟨hok.inj _ _ _ h1 k1,rfl,rfl⟩
theorem ADT(h:Az F ρ x x'):AY T F N Ec (Builtin.lenOf x) ρ (Builtin.lenOf x'):=by
 cases h with
 |flat hf=>cases x<;>first|exact λ_=>rfl|exact λ_=>Am
 |slice _=>exact λ_=>rfl|emp=>exact λ_=>rfl|_=>exact λ_=>Am
def AAr:AP->Bool
 | .slice _ _ _| .string _=>true|_=>false
theorem AAs(h:Az F ρ x x'):AY T F N (λ_ a b=>a=b/\AAr x=true/\∀p,x=.slice (AA p) 0 0->a=0) (Builtin.lenOf x) ρ (Builtin.lenOf x'):=by
 by_cases he: ∃p,x=.slice (AA p) 0 0
 ·obtain⟨p,rfl⟩:=he
  cases h with|flat hf=>exact Ai (show false=true from hf) AV|slice _=>exact λ_=>⟨rfl,rfl,λ_ _=>rfl⟩|emp=>exact λ_=>⟨rfl,rfl,λ_ _=>rfl⟩
 by_cases hs:AAr x=true;exact (ADT h).mono λ_ _ _ _ e=>⟨e,hs,λp hp=>Ai ⟨p,hp⟩ he⟩
 have e: ∃s,Builtin.lenOf x=.halt (.stuck s):=by
  cases x<;>first|exact Ai rfl hs|exact⟨_,rfl⟩
 obtain⟨s,e⟩:=e;rw[e];exact λ_=>Am
theorem LX(size:Nat)(h:AAr x=true):MJ size 0 x=pure #[]:=by
 (cases x<;>first|exact Ai (show false=true from h) AV|skip);unfold MJ;simp;rename_i a n c
 cases a with|none=>rfl|some a=>unfold MJ;simp only[lQ];rfl
theorem AGS(h:Az F ρ x x')(hs:AAr x=true):AAr x'=true:=by
 cases h<;>first|exact hs|rfl|exact Ai (show false=true from hs) AV
theorem Me(size n:Nat)(h:Az F ρ x x')(hn: ∀p,x=.slice (AA p) 0 0->n=0):AY T F N (QVs F) (MJ size n x) ρ (MJ size n x'):=by
 cases h with
 |flat hf=>
  cases x<;>first|exact λ_=>Am|skip
  ·rename_i s;refine λ_=>Au.VA λx hx=>?_;obtain⟨b,_,rfl⟩:=Array.mem_map.1 hx;rfl
  rename_i a n k
  cases a with|none=>exact λ_=>Au.nil|some _=>exact Ai (show false=true from hf) AV
 |slice ha=>exact Ro ha _|emp=>
  obtain rfl:=hn _ rfl;rw[LX size (x:=.slice (AA _) 0 0) rfl,LX size (x:=.slice (AA _) 0 0) rfl];exact λ_=>Au.nil
 |_=>exact λ_=>Am
theorem TL(h:RelA ρ a a'):AY T F N Ec (frozen a) ρ (frozen a'):=λ_=>Yk h λ_=>rfl
def QB (ρ:Rn) (b b':Option Ag):Prop:=match b,b' with
 |none,AB=>True|some a,AA a'=>RelA ρ a a'|_,_=>False
theorem QB.mono{ρ':Rn}(h:ρ.le ρ'){b b':Option Ag}(k:QB ρ b b'):QB ρ' b b':=by
 cases b<;>cases b'<;>first|exact k.elim|trivial|exact RelA.mono h k
theorem aI{s s':AP}(h:Az F ρ s s'):(∃b b' n k,s=.slice b n k/\s'=.slice b' n k/\(QB ρ b b'\/∃c a,ρ.c c (.slice (AA a) 0 0)/\n=0/\k=0/\b=AA ⟨c,0,AB⟩/\b'=AA a))\/(∀b n k,s≠ .slice b n k):=by
 cases h with
 |flat hf=>
  cases s with
  |slice a n k=>
   cases a with|none=>exact .inl ⟨AB,AB,n,k,rfl,rfl,.inl trivial⟩|some _=>exact Ai (show false=true from hf) AV
  |_=>exact .inr nofun
 |slice ha=>exact .inl ⟨AA _,AA _,_,_,rfl,rfl,.inl ha⟩|emp hc=>exact .inl ⟨AA _,AA _,_,_,rfl,rfl,.inr ⟨_,_,hc,rfl,rfl,rfl,rfl⟩⟩|_=>exact .inr nofun
theorem AAt{α:Type}(size sLen n:Nat)(b:Option Ag)(x:AP)(t:String):CW T (do
  if !(<- Builtin.mayShare size sLen n b x) then mark .noRoom
  unsupported (.resourceLimit t):Sem α):=by
 have h1: ∀y:Bool,CW T (do
   if !y then mark .noRoom
   unsupported (.resourceLimit t):Sem α):=λy=>by cases y<;>trivial
 have h2: ∀{f:Bool->Sem α},(∀y,CW T (f y))->CW T (JY (match x with
   | .slice (AA b₁) _ _=>do pure (!(<- Builtin.holdsCells b₁ (n*size)) || b.any (·.block==b₁.block))
   |_=>pure false:Sem Bool) f):=λ{f} h=>by
  (cases x<;>first|exact h _|skip);rename_i a _ _
  cases a with
  |none=>exact h _|some a=>
   intro z;cases z<;>exact h _
 unfold Builtin.mayShare
 cases b with
 |none=>exact h2 h1|some a=>
  intro z
  cases z with
  |none=>
   intro y;exact h1 true
  |some q=>
   intro y;obtain⟨q1,q2⟩:=q;show CW T (JY (if !(_ && !y) then pure true else _) _);by_cases hc:(!((a.spot.isNone && decide (a.off+sLen*size<=q2)) && !y))=true;simp only[hc,if_true];exact h1 true;simp only[hc,if_false,C9];exact h2 h1
theorem AAu(t xt ty:Aj)(hint: ∀k,T.P.underlying xt≠AA (.int k))(hz: ∀el,T.P.underlying t=AA (.slice el)->Hg T.P el=true)
  {s s' x x':AP} (hs:Az F ρ s s') (hx:Az F ρ x x'):AY T F N (QV F) (PX #[t,xt] ty #[s,x]) ρ (PX #[t,xt] ty #[s',x']):=by
 have hsl:=aI hs;unfold PX;simp only[QW,Vt,List.getElem?_cons_succ];refine (BN t).bind λρ₁ d d' l1 e=>?_;obtain⟨rfl,hd⟩:=e
 cases d with
 |slice el=>
  simp only;rcases hsl with ⟨b,b',sLen,sCap,rfl,rfl,hb⟩|hns
  ·simp only;refine (EY el).bind λρ₂ size size' l2 e=>?_;obtain rfl:size=size':=e;refine (BN xt).bind λρ₃ dx dx' l3 e=>?_;obtain⟨rfl,sF⟩:=e;refine AY.bind (Q:=λ_ a b=>a=false/\b=false) ?_ λρ₄ z z' l4 e=>?_
   ·cases dx<;>first|exact λ_=>⟨rfl,rfl⟩|exact Ai sF (hint _)
   obtain⟨rfl,rfl⟩:=e;simp only[C9,if_false,AHu,if_true,false_or];refine (AAs ((((hx.mono l1).mono l2).mono l3).mono l4)).bind λρ₅ n n' l5 e=>?_;obtain⟨e,hsl,hn0⟩:=e;obtain rfl:n=n':=e;have hs5:=((((hs.mono l1).mono l2).mono l3).mono l4).mono l5;have hx:=((((hx.mono l1).mono l2).mono l3).mono l4).mono l5;by_cases hn:sLen+n<=sCap
   ·simp only[hn,if_true];rcases hb with hb|⟨c0,a0,hc0,rfl,rfl,rfl,rfl⟩;rotate_left
    ·(obtain rfl:n=0:=by omega);rw[LX size hsl,LX size (AGS hx hsl)];exact λ_=>.emp (l5.c _ _ (l4.c _ _ (l3.c _ _ (l2.c _ _ (l1.c _ _ hc0)))))
    have hb:=((((hb.mono l1).mono l2).mono l3).mono l4).mono l5;refine (Me size n hx hn0).bind λρ₆ c c' l6 hc=>?_;have hb:=hb.mono l6
    cases b with
    |none=>cases b' with
     |none=>exact λ_=>.flat rfl|some _=>exact hb.elim
    |some a=>cases b' with
     |none=>exact hb.elim|some a'=>
      simp only;have ha:RelA ρ₆ a a':=hb;exact (Mc c.toList c'.toList 0 (ha.add _) (by simpa using hc)).bind λρ₇ _ _ l7 _=>λ_=>.slice (ha.mono l7)
   simp only[hn,if_false]
   have key: ∀ρ₆,ρ₅.le ρ₆->AY T F N (QV F) (do
      let newCap <- choose (.appendCap (sLen+n) sCap el)
      askRoom (newCap*(<- I4 el).bytes)
      let old <- MJ size sLen (.slice b sLen sCap);let new <- MJ size n x;let rest:=Nh (<- GM el).cells (newCap - (sLen+n))
      pure (.slice (AA (<- newRow el (old++new++rest))) (sLen+n) newCap):Sem AP) ρ₆ (do
      let newCap <- choose (.appendCap (sLen+n) sCap el)
      askRoom (newCap*(<- I4 el).bytes)
      let old <- MJ size sLen (.slice b' sLen sCap);let new <- MJ size n x';let rest:=Nh (<- GM el).cells (newCap - (sLen+n))
      pure (.slice (AA (<- newRow el (old++new++rest))) (sLen+n) newCap):Sem AP):=by
    intro ρ₆ l6;refine (Ja _).bind λρ₇ nc nc' l7 e=>?_;obtain rfl:nc=nc':=e;refine (Cm el).bind λρ₈ i i' l8 e=>?_;obtain⟨rfl,_⟩:=e;refine (aG _).bind λρ₉ _ _ l9 _=>?_;have lt:=((l6.trans l7).trans l8).trans l9;refine (Me size sLen (hs5.mono lt) (λp hp=>by injection hp)).bind λρ₁₀ o o' l10 ho=>?_;refine (Me size n (hx.mono (lt.trans l10)) hn0).bind λρ₁₁ c c' l11 hc=>?_;refine (Kv el (hz el hd)).bind λρ₁₂ z z' l12 e=>?_;obtain⟨rfl,hz⟩:=e;exact (TK el (((ho.mono (l11.trans l12)).append (hc.mono l12)).append (VB hz _ _))).bind λ_ a a' _ ha=>λ_=>.slice ha
   refine (Cm el).bind λρ₆ i i' l6 e=>?_;obtain⟨rfl,_⟩:=e
   have ARe: ∀ρ₇,ρ₆.le ρ₇->AY T F N (QV F) (do
      if rW (sLen+n) sCap*(<- I4 el).bytes>2 ^ 48 then (do
       if !(<- Builtin.mayShare size sLen n b x) then mark .noRoom
       unsupported (.resourceLimit "append: a slice or a string whose bytes no memory bears"))
      let newCap <- choose (.appendCap (sLen+n) sCap el)
      askRoom (newCap*(<- I4 el).bytes)
      let old <- MJ size sLen (.slice b sLen sCap);let new <- MJ size n x;let rest:=Nh (<- GM el).cells (newCap - (sLen+n))
      pure (.slice (AA (<- newRow el (old++new++rest))) (sLen+n) newCap):Sem AP) ρ₇ (do
      if rW (sLen+n) sCap*(<- I4 el).bytes>2 ^ 48 then (do
       if !(<- Builtin.mayShare size sLen n b' x') then mark .noRoom
       unsupported (.resourceLimit "append: a slice or a string whose bytes no memory bears"))
      let newCap <- choose (.appendCap (sLen+n) sCap el)
      askRoom (newCap*(<- I4 el).bytes)
      let old <- MJ size sLen (.slice b' sLen sCap);let new <- MJ size n x';let rest:=Nh (<- GM el).cells (newCap - (sLen+n))
      pure (.slice (AA (<- newRow el (old++new++rest))) (sLen+n) newCap):Sem AP):=by
    intro ρ₇ l7;refine (Cm el).bind λρ₈ j j' l8 e=>?_;obtain⟨rfl,_⟩:=e;by_cases hbig:rW (sLen+n) sCap*j.bytes>2 ^ 48
    ·simp only[hbig,if_true];exact AY.bind (Q:=λ_ _ _=>False) (RU (AAt _ _ _ _ _ _) _) λ_ _ _ _ e=>e.elim
    simp only[hbig,if_false];exact key ρ₈ ((l6.trans l7).trans l8)
   by_cases hov:((sLen+n:Nat):Int)>IntKind.i64.max/\i.bytes=0
   ·simp only[hov,and_self,if_true];exact AY.bind (Q:=λ_ _ _=>False) (Bj (e:=.error _) trivial) λ_ _ _ _ e=>e.elim
   simp only[hov,if_false];exact ARe ρ₆ (.refl _)
  cases s<;>first|exact λ_=>Am|exact Ai rfl (hns _ _ _)
 |_=>exact λ_=>Am
end
end
section
variable {p p':Array AP}{x x' y y':AP}
section
variable {T:Twin} {F:Fs} {N:Nat} {ρ:Rn} {α β γ:Type}
theorem AH1(t ty:Aj)(hc: ∀d e,T.P.underlying t≠AA (.chan d e))(h:Az F ρ x x'):AY T F N (QV F) (UZ #[t] ty #[x]) ρ (UZ #[t] ty #[x']):=by
 unfold UZ;simp only[QW,Vt];refine (BN t).bind λρ₁ d d' l1 e=>?_;obtain⟨rfl,hd⟩:=e;have hx:=h.mono l1
 cases d with
 |array n e=>cases x<;>cases x'<;>exact λ_=>.flat rfl|pointer arr=>
  have:AY T F N (QV F) (do
    let .array n _ <- underlying arr|stuck "len: pointer to array expected"
    pure (goInt n):Sem AP) ρ₁ (do
    let .array n _ <- underlying arr|stuck "len: pointer to array expected"
    pure (goInt n):Sem AP):=by
   refine (BN arr).bind λρ₂ d d' l2 e=>?_;obtain⟨rfl,_⟩:=e;cases d<;>first|exact λ_=>Am|exact λ_=>.flat rfl
  cases x<;>cases x'<;>exact this
 |string=>
  cases hx with
  |flat hf=>cases x<;>first|exact λ_=>Am|exact λ_=>.flat rfl
  |_=>exact λ_=>Am
 |slice el=>
  cases hx with
  |flat hf=>cases x<;>first|exact λ_=>Am|exact λ_=>.flat rfl
  |slice _=>exact λ_=>.flat rfl|emp _=>exact λ_=>.flat rfl|_=>exact λ_=>Am
 |map k el=>
  cases hx with
  |flat hf=>
   (cases x<;>first|exact λ_=>Am|skip);rename_i r
   cases r with|none=>exact λ_=>.flat rfl|some _=>exact Ai (show false=true from hf) AV
  |map hb=>
   exact λ_=>⟨hb,λo o' ho=>by
    cases ho with
    | @map es es' k hs _=>
     show Az F _ (goInt es.size) (goInt es'.size);rw[hs];exact .flat rfl
    |_=>exact Am⟩
  |_=>exact λ_=>Am
 |chan d e=>exact Ai hd (hc _ _)|_=>cases x<;>exact λ_=>Am
theorem sG(op:BinOp)(x y:ByteArray):AY T F N (QV F) (Op.stringOp op x y) ρ (Op.stringOp op x y):=by
 unfold Op.stringOp;(cases op<;>first|exact λ_=>.flat rfl|exact λ_=>Am|skip);simp only;split;exact λ_=>Am;exact λ_=>.flat rfl
theorem BP(h:Az F ρ x x')(hf:flat x=true):x'=x:=by
 cases h<;>first|rfl|exact Ai (show false=true from hf) AV
theorem mM(o:BinOp)(k:IntKind)(a:Int)(k':IntKind)(b:Int):AY T F N (QV F) (Op.shift o k a k' b) ρ (Op.shift o k a k' b):=by
 unfold Op.shift;split;exact Bj (e:=.error _) trivial;cases o<;>first|exact λ_=>.flat rfl|exact λ_=>Am
theorem AAv(o:BinOp)(k:IntKind)(a b:Int):AY T F N (QV F) (Op.intDiv o k a b) ρ (Op.intDiv o k a b):=by
 unfold Op.intDiv;split;exact Bj (e:=.error _) trivial;cases o<;>first|exact λ_=>.flat rfl|exact λ_=>Am
theorem AAw(x y:AP):(∃k a k' b,x=.int k a/\y=.int k' b)\/(∃k a k' b,x=.float k a/\y=.float k' b)\/(∃a b,x=.string a/\y=.string b)\/
  ∃h,Builtin.max2 x y=.halt h/\Halt.still h:=by
 unfold Builtin.max2;split;exact .inl ⟨_,_,_,_,rfl,rfl⟩;exact .inr (.inl ⟨_,_,_,_,rfl,rfl⟩);exact .inr (.inr (.inl ⟨_,_,rfl,rfl⟩));exact .inr (.inr (.inr ⟨_,rfl,Am⟩));exact .inr (.inr (.inr ⟨_,rfl,Am⟩));exact .inr (.inr (.inr ⟨_,rfl,Am⟩))
theorem AAx(x y:AP):(∃k a k' b,x=.int k a/\y=.int k' b)\/(∃k a k' b,x=.float k a/\y=.float k' b)\/(∃a b,x=.string a/\y=.string b)\/
  ∃h,Builtin.min2 x y=.halt h/\Halt.still h:=by
 unfold Builtin.min2;split;exact .inl ⟨_,_,_,_,rfl,rfl⟩;exact .inr (.inl ⟨_,_,_,_,rfl,rfl⟩);exact .inr (.inr (.inl ⟨_,_,rfl,rfl⟩));exact .inr (.inr (.inr ⟨_,rfl,Am⟩));exact .inr (.inr (.inr ⟨_,rfl,Am⟩));exact .inr (.inr (.inr ⟨_,rfl,Am⟩))
theorem dU{Q:Rn->α->β->Prop}{s:Sem α}{s':Sem β}{h:Halt}(e:s=.halt h)(k:Halt.still h):AY T F N Q s ρ s':=by
 subst e;intro _;cases h<;>first|exact k.elim|exact k
theorem AGT(h:Az F ρ x x')(k:Az F ρ y y'):AY T F N (QV F) (Builtin.max2 x y) ρ (Builtin.max2 x' y'):=by
 rcases AAw x y with ⟨k₁,a,k₂,b,rfl,rfl⟩|⟨k₁,a,k₂,b,rfl,rfl⟩|⟨a,b,rfl,rfl⟩|⟨hh,e,hs⟩;rw[BP h rfl,BP k rfl];exact λ_=>.flat rfl
 ·cases h with
  |flat hf=>exact Ai (show false=true from hf) AV
 ·rw[BP h rfl,BP k rfl];simp only[Builtin.max2,Op.stringOp];exact λ_=>.flat rfl
 exact dU e hs
theorem AGU(h:Az F ρ x x')(k:Az F ρ y y'):AY T F N (QV F) (Builtin.min2 x y) ρ (Builtin.min2 x' y'):=by
 rcases AAx x y with ⟨k₁,a,k₂,b,rfl,rfl⟩|⟨k₁,a,k₂,b,rfl,rfl⟩|⟨a,b,rfl,rfl⟩|⟨hh,e,hs⟩;rw[BP h rfl,BP k rfl];exact λ_=>.flat rfl
 ·cases h with
  |flat hf=>exact Ai (show false=true from hf) AV
 ·rw[BP h rfl,BP k rfl];simp only[Builtin.min2,Op.stringOp];exact λ_=>.flat rfl
 exact dU e hs
theorem iC{f f':AP->AP->Sem AP}(hf: ∀{ρ:Rn} {x x' y y':AP},Az F ρ x x'->Az F ρ y y'->AY T F N (QV F) (f x y) ρ (f' x' y')):
  ∀(l l':List AP) {ρ:Rn} {x x':AP},Au F ρ l.toArray l'.toArray->Az F ρ x x'->AY T F N (QV F) (l.foldlM f x) ρ (l'.foldlM f' x'):=by
 intro l
 induction l with
 |nil=>
  intro l' ρ x x' h hx;(have:l'=[]:=by have:=h.1;simp at this;exact dN.1 this.symm);subst this;exact λ_=>hx
 |cons v l ih=>
  intro l' ρ x x' h hx
  cases l' with
  |nil=>have:=h.1;simp at this|cons v' l'=>
   rw[List.foldlM_cons,List.foldlM_cons];refine (hf hx (h.2 0 v v' AV AV)).bind λρ₁ a a' l1 ha=>ih l' ⟨by have:=h.1;simpa using this,λj x x' hx hx'=>?_⟩ ha;exact (h.2 (j+1) x x' (by simpa using hx) (by simpa using hx')).mono l1
theorem AH2(ts:Array Aj)(ty:Aj)(h:Au F ρ p p'):AY T F N (QV F) (Builtin.max_ ts ty p) ρ (Builtin.max_ ts ty p'):=by
 obtain⟨l⟩:=p;obtain⟨l'⟩:=p';unfold Builtin.max_
 cases l with
 |nil=>exact λ_=>Am|cons v l=>
  cases l' with
  |nil=>have:=h.1;simp at this|cons v' l'=>
   exact iC (λh k=>AGT h k) l l' ⟨by have:=h.1;simpa using this,λj x x' hx hx'=>h.2 (j+1) x x' (by simpa using hx) (by simpa using hx')⟩ (h.2 0 v v' AV AV)
theorem AH3(ts:Array Aj)(ty:Aj)(h:Au F ρ p p'):AY T F N (QV F) (Builtin.min_ ts ty p) ρ (Builtin.min_ ts ty p'):=by
 obtain⟨l⟩:=p;obtain⟨l'⟩:=p';unfold Builtin.min_
 cases l with
 |nil=>exact λ_=>Am|cons v l=>
  cases l' with
  |nil=>have:=h.1;simp at this|cons v' l'=>
   exact iC (λh k=>AGU h k) l l' ⟨by have:=h.1;simpa using this,λj x x' hx hx'=>h.2 (j+1) x x' (by simpa using hx) (by simpa using hx')⟩ (h.2 0 v v' AV AV)
def QPt (ρ:Rn) (x y:AP):Prop:=∃p p',x=.pointer p/\y=.pointer p'/\QB ρ p p'
theorem QPt.rel(h:QPt ρ x y):Az F ρ x y:=by
 obtain⟨p,p',rfl,rfl,h⟩:=h;cases p<;>cases p'<;>first|exact h.elim|exact .flat rfl|exact .ptr h
theorem Yl(T:Twin): ∀(d:Nat) (t:Aj) (off:Nat),cellOfByte T.v d t off=cellOfByte T.P d t off
 |0,_,_=>rfl
 |d+1,t,off=>by
  have e1:T.v.underlying t=T.P.underlying t:=rfl;have e2: ∀x,T.v.cellsOf x=T.P.cellsOf x:=λ_=>rfl;have e3: ∀x,T.v.bytesOf x=T.P.bytesOf x:=λ_=>rfl;unfold cellOfByte;rw[e1];simp only[Yl T d,e2,e3]
theorem mO(T:Twin)(d:Nat)(e:Aj)(k off:Nat)(b:Int):cellAtBytes T.v d e k off b=cellAtBytes T.P d e k off b:=by
 have e2: ∀x,T.v.cellsOf x=T.P.cellsOf x:=λ_=>rfl;have e3: ∀x,T.v.bytesOf x=T.P.bytesOf x:=λ_=>rfl;unfold cellAtBytes;simp only[UH,Yl,e2,e3]
theorem Wq(t:Aj)(h:Az F ρ x x')(k:Az F ρ y y'):AY T F N QPt (gW #[] t #[x,y]) ρ (gW #[] t #[x',y']):=by
 unfold gW
 have hp:(∃b b',x=.pointer b/\x'=.pointer b'/\QB ρ b b')\/∀b,x≠ .pointer b:=by
  cases h with
  |flat hf=>
   cases x with
   |pointer a=>cases a with
    |none=>exact .inl ⟨AB,AB,rfl,rfl,Am⟩|some _=>exact Ai (show false=true from hf) AV
   |_=>exact .inr nofun
  |ptr ha=>exact .inl ⟨AA _,AA _,rfl,rfl,ha⟩|_=>exact .inr nofun
 rcases hp with ⟨b,b',rfl,rfl,hb⟩|hn
 ·refine (mF k).bind λρ₁ n n' l1 e=>?_;obtain rfl:n=n':=e;have hb:=hb.mono l1;by_cases h0:n=0
  ·simp only[h0,if_true]
   cases b with
   |none=>exact λ_=>Am
   |some a=>cases b' with
    |none=>exact hb.elim|some a'=>
     simp only;have ha:RelA ρ₁ a a':=hb;refine (gy ha.1).bind λρ₂ z z' l2 e=>?_;obtain⟨rfl,rfl⟩:=e;exact λ_=>⟨AA a,AA a',rfl,rfl,ha.mono l2⟩
  simp only[h0,if_false];by_cases hneg:n<0;simp only[hneg,if_true];exact λ_=>Am;simp only[hneg,if_false]
  cases b with
  |none=>exact λ_=>Am
  |some a=>cases b' with
   |none=>exact hb.elim|some a'=>
    simp only;have ha:RelA ρ₁ a a':=hb;refine (NM ha.1).bind λρ₂ z z' l2 e=>?_;obtain rfl:z=z':=e
    cases z with
    |none=>exact λ_=>Am|some q=>
     obtain⟨e,cells⟩:=q;simp only;refine CU.bind λρ₃ p p' l3 e=>?_;obtain⟨rfl,rfl⟩:=e;rw[ha.2.1];have hb:cellAtBytes T.v T.v.depth e (cells/T.v.cellsOf e) a.off n=cellAtBytes T.P T.P.depth e (cells/T.P.cellsOf e) a.off n:=mO T _ _ _ _ _;rw[hb]
     cases cellAtBytes T.P T.P.depth e (cells/T.P.cellsOf e) a.off n with|some o=>exact λ_=>⟨AA _,AA _,rfl,rfl,l3.r _ _ (l2.r _ _ ha.1),rfl,ha.2.2⟩|none=>exact λ_=>Am
 cases x<;>first|exact λ_=>Am|exact Ai rfl (hn _)
theorem sH{a a':Ag}(h:RelA ρ a a')(b:Bool):AY T F N (QV F) (asNumber a b) ρ (asNumber a' b):=
 λ_=>.inr ⟨.number h,λ_ _ _=>.ptr ⟨.inr ⟨rfl,rfl⟩,rfl,rfl⟩⟩
theorem V5(t:Aj)(x y:AP):movedNumber t x y=(underlying t>>=λd=>(if (match d with| .unsafePointer=>true|_=>false)=true then unsupported (.unsafePointer "arithmetic at a pointer's type") else pure ():Sem Unit)>>=λ_=>
  match x with
  | .pointer (AA n)=>Xx n>>=λq=>gW #[] t #[.pointer (AA q.1),y]>>=λz=>match z with
   | .pointer (AA b)=>asNumber b q.2|v=>pure v
  |_=>gW #[] t #[x,y]):=by
 unfold movedNumber;refine congrArg (Bind.bind (underlying t)) (funext λd=>?_);cases d<;>rfl
theorem O4(t:Aj)(h:Az F ρ x x')(k:Az F ρ y y'):AY T F N (QV F) (movedNumber t x y) ρ (movedNumber t x' y'):=by
 rw[V5,V5];refine (BN t).bind λρ₁ d d' l1 e=>?_;obtain⟨rfl,_⟩:=e;refine AY.bind (Q:=Ec) ?_ λρ₂ _ _ l2 _=>?_
 ·split;exact λ_=>Am;exact λ_=>rfl
 have h:=(h.mono l1).mono l2;have k:=(k.mono l1).mono l2;have other:AY T F N (QV F) (gW #[] t #[x,y]) ρ₂ (gW #[] t #[x',y']):=(Wq t h k).mono λ_ _ _ _ q=>q.rel
 cases h with
 |ptr ha=>
  refine (Hl ha).bind λρ₃ q q' l3 hq=>?_;refine (Wq t (.ptr hq.1) (k.mono l3)).bind λρ₄ z z' l4 hz=>?_;rw[<- hq.2];obtain⟨p,p',rfl,rfl,hp⟩:=hz;cases p<;>cases p'<;>first|exact hp.elim|exact λ_=>.flat rfl|exact sH hp _
 |flat hf=>
  (cases x<;>first|exact other|skip);rename_i a
  cases a with|none=>exact other|some _=>exact Ai (show false=true from hf) AV
 |tok hc ht=>
  exact dU (h:=.stuck _) rfl trivial
 |_=>exact other
end
end
end Go.Proofs.YtkkgcebhfghdnaaGreatDoor
