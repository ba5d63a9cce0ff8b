/- Part 2 of what that rests on; no condition. -/
import Derived.Test.YtkkgcebhfghdnaaGreatDoorKa
set_option maxRecDepth 100000
set_option maxHeartbeats 8000000
namespace Go.Proofs.YtkkgcebhfghdnaaGreatDoor
open Go Go.Conc
section
variable {T:Twin} {F:Fs} {N:Nat} {ρ:Rn} {α β γ:Type}
abbrev ET {α:Type}:Rn->α->α->Prop:=λ_ a b=>a=b
abbrev QV (F:Fs):Rn->Value->Value->Prop:=λρ=>Au F ρ
abbrev QVs (F:Fs):Rn->Array Value->Array Value->Prop:=λρ=>Ar F ρ
abbrev QA:Rn->Addr->Addr->Prop:=λρ=>RelA ρ
theorem Qv{Q:Rn->α->β->Prop}{s:Sem α}(h:CZ T s)(s':Sem β):AX T F N Q s ρ s':=by
 intro _;(cases s<;>first|exact h.elim|skip);(all_goals first|exact dS h|exact YB h|exact V4 h|exact .inl h|skip);rename_i x;cases x<;>first|exact h|exact .inl h|exact h.elim
theorem CV:AX T F N (λ_ a b=>a=T.v/\b=T.P) program ρ program:=λ_=>.inr ⟨rfl,rfl⟩
theorem BL(t:TypeId):AX T F N (λ_ a b=>a=b/\T.P.underlying t=some a) (underlying t) ρ (underlying t):=by
 have key:AX T F N (λ_ a b=>a=b/\T.P.underlying t=some a) (match T.P.underlying t with|some d=>pure d|none=>stuck "no such type" :Sem TypeDesc) ρ (match T.P.underlying t with|some d=>pure d|none=>stuck "no such type" :Sem TypeDesc):=by
  cases h:T.P.underlying t with|none=>exact λ_=>trivial|some d=>exact λ_=>⟨rfl,rfl⟩
 exact λhok=>.inr (key hok)
theorem C9(t:TypeId):AX T F N (λ_ a b=>a=b/\T.P.info? t=some a) (typeInfo t) ρ (typeInfo t):=by
 have key:AX T F N (λ_ a b=>a=b/\T.P.info? t=some a) (match T.P.info? t with|some d=>pure d|none=>stuck "no such type" :Sem TypeInfo) ρ (match T.P.info? t with|some d=>pure d|none=>stuck "no such type" :Sem TypeInfo):=by
  cases h:T.P.info? t with|none=>exact λ_=>trivial|some d=>exact λ_=>⟨rfl,rfl⟩
 exact λhok=>.inr (key hok)
theorem EO(t:TypeId):AX T F N ET (sizeOf t) ρ (sizeOf t):=(C9 t).bind λ_ a b _ h=>by rw[h.1];exact λ_=>rfl
theorem jZ(t:TypeId):AX T F N ET (isAgg t) ρ (isAgg t):=(BL t).bind λ_ a b _ h=>by obtain⟨rfl,_⟩:=h;cases a<;>exact λ_=>rfl
theorem V5(t:TypeId):AX T F N ET (elemOf t) ρ (elemOf t):=(BL t).bind λ_ a b _ h=>by obtain⟨rfl,_⟩:=h;cases a<;>first|exact λ_=>rfl|exact λ_=>trivial
theorem ZM(n:Nat):AX T F N ET (askRoom n) ρ (askRoom n):=by
 unfold askRoom;split;exact λ_=>.inr ⟨rfl,trivial,rfl⟩;exact λ_=>rfl
theorem JJ(q:Question):AX T F N ET (choose q) ρ (choose q):=λ_=>⟨rfl,λ_=>rfl⟩
def closed:Value->Bool
 | .agg cs=>cs.all flat|v=>flat v
theorem dV{v:Value}(h:closed v=true):Au F ρ v v:=by
 cases v<;>first
  |exact .flat h|skip
 rename_i cs
 have h': ∀x∈cs,flat x=true:=by
  intro x hx;have:=F6.1 (show cs.all flat=true from h) x hx;exact this
 exact .agg rfl (Ar.Ud h').2
def Gt (P:Program) (t:TypeId):Bool:=
 match P.info? t with
 |some i=>match i.zero with
  |some z=>closed z|none=>true
 |none=>true
theorem NV(t:TypeId)(h:Gt T.P t=true):AX T F N (λρ a b=>a=b/\Au F ρ a a) (zeroValue t) ρ (zeroValue t):=(C9 t).bind λ_ a b _ hb=>by
 obtain⟨rfl,hi⟩:=hb;unfold Gt at h;rw[hi] at h;simp only at h
 cases hz:a.zero with
 |none=>exact λ_=>trivial|some z=>
  rw[hz] at h;exact λ_=>⟨rfl,dV h⟩
theorem qX{a a':Addr}(h:RelA ρ a a')(m:Mode):AX T F N (QV F) (load a m) ρ (load a' m):=λ_=>⟨rfl,h,λ_ _ hx=>hx⟩
theorem ABl{a a':Addr}(h:RelA ρ a a'){x x':Value}(hx:Au F ρ x x')(m:Mode):AX T F N ET (store a x m) ρ (store a' x' m):=λ_=>⟨rfl,h,hx,rfl⟩
theorem YY{a a':Addr}: ∀(n i:Nat) {ρ:Rn},RelA ρ a a'->∀{acc acc':Array Value},Ar F ρ acc acc'->AX T F N (QVs F) (loadCellsFrom a i n acc) ρ (loadCellsFrom a' i n acc'):=by
 intro n
 induction n with
 |zero=>intro i ρ _ acc acc' h;exact λ_=>h
 |succ n ih=>
  intro i ρ h acc acc' hacc;exact (qX (h.add i) .plain).bind λρ' x x' hl hx=>ih (i+1) (h.mono hl) ((hacc.mono hl).push hx)
theorem Q8{a a':Addr}(h:RelA ρ a a')(n:Nat):AX T F N (QVs F) (loadCells a n) ρ (loadCells a' n):=YY n 0 h Ar.nil
theorem ML{a a':Addr}: ∀(l l':List Value) (i:Nat) {ρ:Rn},RelA ρ a a'->Ar F ρ l.toArray l'.toArray->AX T F N ET (storeCells a l i) ρ (storeCells a' l' i):=by
 intro l
 induction l with
 |nil=>
  intro l' i ρ h hl;(have:l'=[]:=by have:=hl.1;simp at this;exact Il.1 this.symm);subst this;exact λ_=>rfl
 |cons v l ih=>
  intro l' i ρ h hl
  cases l' with
  |nil=>have:=hl.1;simp at this|cons v' l'=>
   have hv:Au F ρ v v':=hl.2 0 v v' AY AY;refine (ABl (h.add i) hv .plain).bind λρ' _ _ hle _=>ih l' (i+1) (h.mono hle) ⟨?_,λj x x' hx hx'=>?_⟩;have:=hl.1;simpa using this;exact (hl.2 (j+1) x x' (by simpa using hx) (by simpa using hx')).mono hle
theorem NW(t:TypeId){a a':Addr}(h:RelA ρ a a'):AX T F N (QV F) (loadVar t a) ρ (loadVar t a'):=by
 refine (jZ t).bind λρ' b b' hl hb=>?_;obtain rfl:b=b':=hb
 cases b with
 |true=>
  refine (EO t).bind λjY n n' hl' hn=>?_;obtain rfl:n=n':=hn;exact (Q8 ((h.mono hl).mono hl') n).bind λρ₃ x x' _ hx _=>Au.agg hx.1 hx.2
 |false=>exact qX (h.mono hl) .plain
theorem O6(t:TypeId){a a':Addr}(h:RelA ρ a a'){x x':Value}(hx:Au F ρ x x'):AX T F N ET (storeVar t a x) ρ (storeVar t a' x'):=by
 refine (EO t).bind λρ' n n' hl hn=>?_;obtain rfl:n=n':=hn;have hc:=(hx.mono hl).cells;by_cases hs:x.cells.size≠n
 ·simp only[hs,if_true,ne_eq,not_false_eq_true];exact λ_=>trivial
 (have hs': ¬x'.cells.size≠n:=by rw[<- hc.1];exact hs);simp only[hs,hs',if_false];exact ML _ _ 0 (h.mono hl) (by simpa using hc)
theorem Rz(t:TypeId){p p':Array Value}(h:Ar F ρ p p'):AX T F N QA (newRow t p) ρ (newRow t p'):=
 λ_=>.inr ⟨.cells h,λ_ _ _=>⟨.inr ⟨rfl,rfl⟩,rfl,rfl⟩⟩
theorem NM(t:TypeId){x x':Value}(h:Au F ρ x x'):AX T F N QA (newVar t x) ρ (newVar t x'):=Rz t h.cells
theorem qY(t:TypeId){p p':Array Value}(h:Ar F ρ p p')(o:Nat):AX T F N (QV F) (part t p o) ρ (part t p' o):=by
 refine (jZ t).bind λρ' b b' hl hb=>?_;obtain rfl:b=b':=hb
 cases b with
 |true=>
  refine (EO t).bind λjY n n' hl' hn=>?_;obtain rfl:n=n':=hn;have:=((h.mono hl).mono hl').extract o (o+n);exact λ_=>Au.agg this.1 this.2
 |false=>
  show AX T F N (QV F) (match p[o]? with|some v=>pure v|none=>stuck "part: no such cell" :Sem Value) ρ' (match p'[o]? with|some v=>pure v|none=>stuck "part: no such cell" :Sem Value)
  cases hv:p[o]? with
  |none=>exact λ_=>trivial|some v=>
   obtain⟨v',hv',hr⟩:=h.get hv;rw[hv'];exact λ_=>hr.mono hl
theorem NY{x x':Value}(h:Au F ρ x x'):AX T F N ET (asIntOf x) ρ (asIntOf x'):=by
 cases h with
 |flat hf=>cases x<;>first|exact λ_=>rfl|exact λ_=>trivial|(rename_i a;cases a<;>exact λ_=>trivial)
 |_=>exact λ_=>trivial
theorem ja{x x':Value}(h:Au F ρ x x'):AX T F N ET (asInt x) ρ (asInt x'):=(NY h).bind λ_ a b _ e=>by obtain rfl:a=b:=e;exact λ_=>rfl
theorem yf{x x':Value}(h:Au F ρ x x'):AX T F N ET (asBool x) ρ (asBool x'):=by
 cases h with
 |flat hf=>cases x<;>first|exact λ_=>rfl|exact λ_=>trivial
 |_=>exact λ_=>trivial
theorem Lm{x x':Value}(h:Au F ρ x x'):AX T F N QA (Instr.sureAddr x) ρ (Instr.sureAddr x'):=by
 cases h with
 |flat hf=>cases x<;>first|exact λ_=>trivial|(rename_i a;cases a<;>first|exact λ_=>trivial|exact CU hf)
 |ptr h=>exact λ_=>h|_=>exact λ_=>trivial
theorem Bl{Q:Rn->α->β->Prop}{e:RuntimeError}(h:match e with| .typeAssertion .. | .unhashable _=>False|_=>True):
  AX T F N Q (runtimePanic e:Sem α) ρ (runtimePanic e:Sem β):=by
 have AO8: ∀(x y:Int) (s:Bool) (c:Nat),Au F ρ (.agg #[.int .i64 x,.int .i64 y,.bool s,.int .u8 c]) (.agg #[.int .i64 x,.int .i64 y,.bool s,.int .u8 c]):=λx y s c=>by
  have:=Ar.Ud (F:=F) (ρ:=ρ) (p:=#[.int .i64 x,.int .i64 y,.bool s,.int .u8 c]) (by intro z hz;simp at hz;rcases hz with rfl|rfl|rfl|rfl<;>rfl);exact Au.agg this.1 this.2
 cases e with
 |bounds x y s c=>exact λ_=>.inr (.inr ⟨_,rfl,.iface (AO8 _ _ _ _)⟩)|error m=>exact λ_=>.inr (.inr ⟨_,rfl,.iface (.flat rfl)⟩)|plain m=>exact λ_=>.inr (.inr ⟨_,rfl,.iface (.flat rfl)⟩)|nilDeref=>exact λ_=>.inr (.inr ⟨_,rfl,.iface (.flat rfl)⟩)|typeAssertion _ _ _ _=>exact h.elim|panicNil=>
  refine CV.bind λρ₁ p p' l1 e=>?_;obtain⟨rfl,rfl⟩:=e;refine (V5 _).bind λρ₂ t t' l2 e=>?_;obtain rfl:t=t':=e;refine (NM t (x:=.agg #[]) (x':=.agg #[]) (.agg rfl λi v v' h=>by simp at h)).bind λρ₃ a a' l3 ha=>?_;exact λ_=>.inr ⟨_,rfl,.iface (.ptr ha)⟩
 |unhashable _=>exact h.elim
theorem dX{x x':Value}(h:Au F ρ x x'):AX T F N QA (asAddr x) ρ (asAddr x'):=by
 cases h with
 |flat hf=>cases x<;>first|exact λ_=>trivial|(rename_i a;cases a<;>first|exact Bl (e:=.nilDeref) trivial|exact CU hf)
 |ptr h=>exact λ_=>h|_=>exact λ_=>trivial
theorem H7{Q:Rn->α->β->Prop}(k:IntKind)(x y:Int)(c:BoundsCode):AX T F N Q (boundsPanic k x y c:Sem α) ρ (boundsPanic k x y c:Sem β):=by
 unfold boundsPanic;by_cases hc:(k != .u64 && decide (0<=x) && decide (x<=31))=true
 ·simp only[hc,if_true];exact λhok=>⟨rfl,λn=>Bl (e:=.bounds (IntKind.i64.wrap x) y (n==1) c) trivial hok⟩
 simp only[hc,if_false,Ak];exact Bl (e:=.bounds (IntKind.i64.wrap x) y (k != .u64) c) trivial
theorem QZ{Q:Rn->α->β->Prop}{x x':Value}(h:Au F ρ x x'):AX T F N Q (goPanic x:Sem α) ρ (goPanic x':Sem β):=λ_=>.inr ⟨x',rfl,h⟩
theorem Md{b b':Nat}(h:ρ.r b b'):AX T F N ET (shape b) ρ (shape b'):=λ_=>ZK h λ_=>rfl
theorem dY{b b':Nat}(h:ρ.r b b'):AX T F N (λ_ a c=>a=none/\c=none) (viewAt b) ρ (viewAt b'):=by
 refine (Md h).bind λρ' x x' hl e=>?_;obtain rfl:x=x':=e;by_cases hs:x.isSome=true;simp only[hs,if_true];exact λ_=>⟨rfl,rfl⟩;simp only[hs,if_false,Ak];exact λ_=>⟨hl.r _ _ h,λo o' ho=>by cases ho<;>exact⟨rfl,rfl⟩⟩
def QN:Rn->Option (Addr×Bool)->Option (Addr×Bool)->Prop:=λρ x y=>match x,y with
 |none,none=>True|some p,some q=>RelA ρ p.1 q.1/\p.2=q.2|_,_=>False
theorem oz{b b':Nat}(h:ρ.r b b'):AX T F N QN (numberAt b) ρ (numberAt b'):=by
 refine (Md h).bind λρ' x x' hl e=>?_;obtain rfl:x=x':=e;by_cases hs:x.isSome=true;simp only[hs,if_true];exact λ_=>trivial;simp only[hs,if_false,Ak]
 exact λ_=>⟨hl.r _ _ h,λo o' ho=>by
  cases ho with|number ha=>exact⟨ha,rfl⟩|_=>exact trivial⟩
theorem Gu{a a':Addr}(h:RelA ρ a a'):AX T F N (λρ x y=>RelA ρ x.1 y.1/\x.2=y.2) (behindNumber a) ρ (behindNumber a'):=
 (oz h.1).bind λρ' x x' hl e=>by
  (cases x<;>cases x'<;>first|exact e.elim|skip);exact λ_=>⟨h.mono hl,rfl⟩;exact λ_=>e
theorem V6{a a':Addr}(h:RelA ρ a a'):AX T F N ET (noView a) ρ (noView a'):=by
 refine (dY h.1).bind λρ' x x' _ e=>?_;obtain⟨rfl,rfl⟩:=e;exact λ_=>rfl
theorem TQ(T:Twin): ∀(d:Nat) (t:TypeId) (off:Nat),byteOfCell T.v d t off=byteOfCell T.P d t off
 |0,_,_=>rfl
 |d+1,t,off=>by
  have e1:T.v.underlying t=T.P.underlying t:=rfl;have e2: ∀x,T.v.cellsOf x=T.P.cellsOf x:=λ_=>rfl;have e3: ∀x,T.v.bytesOf x=T.P.bytesOf x:=λ_=>rfl;unfold byteOfCell;rw[e1];simp only[TQ T d,e2,e3]
theorem J7{a a':Addr}(h:RelA ρ a a'):AX T F N ET (byteOf a) ρ (byteOf a'):=by
 obtain⟨b,o,s⟩:=a;obtain⟨b',o',s'⟩:=a';obtain⟨h1,h2,h3⟩:=h;simp only at h1 h2 h3;subst h2 h3;unfold byteOf
 cases s' with
 |some s=>exact λ_=>rfl|none=>
  refine CV.bind λρ₁ p p' l1 e=>?_;obtain⟨rfl,rfl⟩:=e;refine (V6 (a:=⟨b,o',none⟩) (a':=⟨b',o',none⟩) ⟨l1.r _ _ h1,rfl,rfl⟩).bind λρ₂ _ _ l2 _=>?_;refine (Md (b:=b) (b':=b') (l2.r _ _ (l1.r _ _ h1))).bind λρ₃ x x' _ e=>?_;obtain rfl:x=x':=e
  cases x with
  |none=>exact λ_=>trivial|some q=>
   obtain⟨e,n⟩:=q;show AX _ F N ET (if T.P.cellsOf e=0 then _ else _:Sem Nat) _ (if T.P.cellsOf e=0 then _ else _:Sem Nat);have hb:byteOfCell T.v T.v.depth e (o' % T.v.cellsOf e)=byteOfCell T.P T.P.depth e (o' % T.P.cellsOf e):=TQ T _ _ _;by_cases h0:T.P.cellsOf e=0;simp only[h0,if_true];exact λ_=>rfl;simp only[h0,if_false,hb]
   cases hc:byteOfCell T.P T.P.depth e (o' % T.P.cellsOf e) with|none=>exact λ_=>trivial|some b=>exact λ_=>rfl
theorem yg{a a':Addr}(h:RelA ρ a a')(n m:Nat):AX T F N QA (partAt a n m) ρ (partAt a' n m):=by
 refine (J7 h).bind λρ₁ x x' l1 e=>?_;obtain rfl:x=x':=e;have h1:=h.mono l1;refine (J7 (a:={block:=a.block,off:=a.off+n}) (a':={block:=a'.block,off:=a'.off+n}) ⟨h1.1,by simp[h.2.1],rfl⟩).bind λρ₂ y y' l2 e=>?_;obtain rfl:y=y':=e;have h2:=h1.mono l2;show AX T F N QA (pure (if y=x+m then _ else _)) _ (pure (if y=x+m then _ else _));by_cases hy:y=x+m;simp only[hy,if_true];exact λ_=>⟨h2.1,by simp[h.2.1],rfl⟩;simp only[hy,if_false];exact λ_=>⟨h2.1,by simp[h.2.1],rfl⟩
theorem gm{a a':Addr}(h:RelA ρ a a')(f:Field):AX T F N QA (fieldPlace a f) ρ (fieldPlace a' f):=by
 refine (EO f.type).bind λρ₁ n n' l1 e=>?_;obtain rfl:n=n':=e;by_cases hn:n=0;simp only[hn,if_true];exact yg (h.mono l1) _ _;simp only[hn,if_false];exact λ_=>(h.mono l1).add _
end
section
variable {T:Twin} {F:Fs} {N:Nat} {ρ:Rn} {α β γ:Type}
theorem ABm(t:TypeId)(h:Gt T.P t=true):AX T F N (QV F) (Instr.alloc t true (.tuple #[])) ρ (Instr.alloc t true (.tuple #[])):=by
 refine (NV t h).bind λρ₁ z z' l1 e=>?_;obtain⟨rfl,hz⟩:=e;exact (NM t hz).bind λρ₂ a a' _ ha _=>.ptr ha
theorem AF4(t:TypeId){x x':Value}(h:Au F ρ x x'):AX T F N (QV F) (Instr.box t x) ρ (Instr.box t x'):=
 (NM t h).bind λ_ _ _ _ ha _=>.ptr ha
theorem yh(t:TypeId){x x':Value}(h:Au F ρ x x'):AX T F N (QV F) (Instr.loadAt t x) ρ (Instr.loadAt t x'):=
 (Lm h).bind λ_ _ _ _ ha=>NW t ha
theorem uP(t:TypeId){x x' y y':Value}(h:Au F ρ x x')(k:Au F ρ y y'):AX T F N ET (Instr.storeAt t x y) ρ (Instr.storeAt t x' y'):=
 (Lm h).bind λ_ _ _ l1 ha=>O6 t ha (k.mono l1)
theorem uQ(t:TypeId){x x':Value}(h:Au F ρ x x')(f:Nat):AX T F N (QV F) (Instr.fieldAt t x f) ρ (Instr.fieldAt t x' f):=by
 refine (BL t).bind λρ₁ d d' l1 e=>?_;obtain⟨rfl,_⟩:=e
 cases d with
 |struct fs=>
  simp only
  cases hf:fs[f]? with
  |none=>exact λ_=>trivial|some fd=>
   refine (Lm (h.mono l1)).bind λρ₂ a a' l2 ha=>?_;exact (gm ha fd).bind λρ₃ b b' _ hb _=>.ptr hb
 |_=>exact λ_=>trivial
def yj (d:TypeDesc) (x:Value):Sem (Option Addr×Nat×TypeId):=
 match d,x with| .array len elem,x=>do pure (some (<- Instr.sureAddr x),len,elem)| .slice elem,.slice base len _=>pure (base,len,elem)|_,_=>stuck "indexAddr: an array's address or a slice expected"
def jb (t:TypeId) (k:IntKind) (i:Int) (base:Option Addr) (len:Nat) (elem:TypeId):Sem Value:=do
 let tiny:=len<=1 && (match <- underlying t with| .array .. =>true|_=>false)
 match base with
 |some a=>
  if 0<=i/\i<len then pure (.pointer (some (a.add (i.toNat*(<- sizeOf elem)))))
  else if tiny then unsupported (.noEntry "op/indexAddr.an index out of range at an array of length 0 or 1 (ledger 616)")
  else boundsPanic k i len .index
 |none=>boundsPanic k i 0 .index
theorem dZ(t:TypeId)(x ix:Value):Instr.indexAt t x ix=(asIntOf ix>>=λq=>underlying t>>=λd=>yj d x>>=λb=>jb t q.1 q.2 b.1 b.2.1 b.2.2):=by
 unfold Instr.indexAt yj jb;refine congrArg (Bind.bind (asIntOf ix)) (funext λq=>?_);refine congrArg (Bind.bind (underlying t)) (funext λd=>?_);cases d<;>cases x<;>first|rfl|(rename_i a;cases a<;>rfl)
theorem uS(t:TypeId){x x' i i':Value}(h:Au F ρ x x')(k:Au F ρ i i'):AX T F N (QV F) (Instr.indexAt t x i) ρ (Instr.indexAt t x' i'):=by
 rw[dZ,dZ];refine (NY k).bind λρ₁ n n' l1 e=>?_;obtain rfl:n=n':=e;obtain⟨kd,n⟩:=n;refine (BL t).bind λρ₂ d d' l2 e=>?_;obtain⟨rfl,_⟩:=e;have hx:=(h.mono l1).mono l2;refine AX.bind (Q:=λ(ρ:Rn) (p q:Option Addr×Nat×TypeId)=>(match p.1,q.1 with|none,none=>True|some a,some a'=>RelA ρ a a'\/p.2.1=0|_,_=>False)/\p.2=q.2) ?_ ?_
 ·cases d with
  |array len el=>
   refine AX.bind (Lm hx) λρ₃ a a' _ ha=>?_;exact λ_=>⟨.inl ha,rfl⟩
  |slice el=>
   cases hx with
   |flat hf=>
    (cases x<;>first|exact λ_=>trivial|skip);rename_i a n c;cases a<;>first|exact CU hf|exact λ_=>⟨trivial,rfl⟩
   |slice ha=>exact λ_=>⟨.inl ha,rfl⟩|emp=>exact λ_=>⟨.inr rfl,rfl⟩|_=>exact λ_=>trivial
  |_=>exact λ_=>trivial
 intro ρ₃ p q l3 hpq;obtain⟨b,len,el⟩:=p;obtain⟨b',len',el'⟩:=q;obtain⟨hb,he⟩:=hpq;simp only[EW] at he;obtain⟨rfl,rfl⟩:=he;simp only;unfold jb;refine (BL t).bind λρ₄ d d' l4 e=>?_;obtain⟨rfl,_⟩:=e
 cases b with
 |none=>cases b' with
  |none=>exact H7 _ _ _ _|some _=>exact hb.elim
 |some a=>cases b' with
  |none=>exact hb.elim|some a'=>
   simp only;by_cases hn:0<=n/\n<(len:Int)
   ·simp only[hn,and_self,if_true];refine (EO el).bind λρ₅ s s' l5 e=>?_;obtain rfl:s=s':=e;exact λ_=>.ptr (((RelA.mono l4 (hb.resolve_right (by simp only at*;omega))).mono l5).add _)
   simp only[hn,if_false];split<;>(by_cases hl:len<=1<;>simp only[hl,decide_true,decide_false,Bool.true_and,Bool.false_and,if_true,if_false,Ak]<;>first|exact λ_=>trivial|exact H7 _ _ _ _)
def QP (F:Fs) (ρ:Rn):List (Nat×Value)->List (Nat×Value)->Prop:=Ci λp q=>p.1=q.1/\Au F ρ p.2 q.2
theorem yl{l l':List Value}: ∀(k off:Nat) {p p':Array Value},Ar F ρ l.toArray l'.toArray->Ar F ρ p p'->
  Ar F ρ ((l.zipIdx k).foldl (λcs (c,j)=>cs.setIfInBounds (off+j) c) p) ((l'.zipIdx k).foldl (λcs (c,j)=>cs.setIfInBounds (off+j) c) p'):=by
 induction l generalizing l' with
 |nil=>
  intro k off p p' h hp;(have:l'=[]:=by have:=h.1;simp at this;exact Il.1 this.symm);subst this;exact hp
 |cons v l ih=>
  intro k off p p' h hp
  cases l' with
  |nil=>have:=h.1;simp at this|cons v' l'=>
   simp only[List.zipIdx_cons,List.foldl_cons];refine ih _ _ ⟨by have:=h.1;simpa using this,λj x x' hx hx'=>h.2 (j+1) x x' (by simpa using hx) (by simpa using hx')⟩ (hp.set (h.2 0 v v' AY AY) _)
theorem ai(place:Nat->Option (Nat×Nat)): ∀{l l':List (Nat×Value)} {p p':Array Value},QP F ρ l l'->Ar F ρ p p'->
  match Instr.fill place p l,Instr.fill place p' l' with|some a,some b=>Ar F ρ a b|none,none=>True|_,_=>False:=by
 intro l
 induction l with
 |nil=>intro l' p p' h hp;cases h;exact hp
 |cons x l ih=>
  intro l' p p' h hp
  cases h with
  | @cons _ y _ l' hxy hl=>
   obtain⟨i,v⟩:=x;obtain⟨i',v'⟩:=y;obtain⟨e,hv⟩:=hxy;simp only at e hv;subst e;simp only[Instr.fill]
   cases place i with
   |none=>trivial|some q=>
    obtain⟨off,size⟩:=q;have hc:=hv.cells;simp only[<- hc.1,<- hp.1];by_cases hcd:(decide (v.cells.size≠size) || decide (off+v.cells.size>p.size))=true;simp only[hcd,if_true];simp only[hcd,if_false,Ak];rw[<- LM,<- LM,aW,aW];exact ih hl (yl 0 off (by simpa using hc) hp)
theorem o5{v:Value}(h:closed v=true): ∀x∈v.cells,flat x=true:=by
 cases v with|agg cs=>exact λx hx=>F6.1 (show cs.all flat=true from h) x hx|_=>intro x hx;simp[Value.cells] at hx;subst hx;exact h
theorem flat_get{p:Array Value}(h: ∀x∈p,flat x=true)(i:Nat):flat p[i]! =true:=by
 rw[getElem!_def]
 cases hx:p[i]? with|none=>rfl|some x=>exact h x (Jy hx)
theorem Ue{p:Array Value}(h: ∀x∈p,flat x=true)(n m:Nat):Ar F ρ ((Array.range n).map (p[· % m]!)) ((Array.range n).map (p[· % m]!)):=
 Ar.ofFn λ_=>.flat (flat_get h _)
theorem J8(t:TypeId)(h:Gt T.P t=true):AX T F N (λ_ a b=>a=b/\∀x∈a.cells,flat x=true) (zeroValue t) ρ (zeroValue t):=(C9 t).bind λ_ a b _ hb=>by
 obtain⟨rfl,hi⟩:=hb;unfold Gt at h;rw[hi] at h;simp only at h
 cases hz:a.zero with
 |none=>exact λ_=>trivial|some z=>
  rw[hz] at h;exact λ_=>⟨rfl,o5 h⟩
theorem ABn(fs:Array Field):AX T F N ET (fs.mapM λf=>do pure (f.offset,<- sizeOf f.type):Sem (Array (Nat×Nat))) ρ (fs.mapM λf=>do pure (f.offset,<- sizeOf f.type)):=by
 rw[PS];refine AX.bind (Q:=ET) ?_ λ_ a b _ e=>by obtain rfl:a=b:=e;exact λ_=>rfl
 induction fs.toList generalizing ρ with
 |nil=>exact λ_=>rfl|cons f l ih=>
  rw[PT];refine AX.bind (Q:=ET) ((EO f.type).bind λ_ a b _ e=>by obtain rfl:a=b:=e;exact λ_=>rfl) λρ₁ a b _ e=>?_;obtain rfl:a=b:=e;exact ih.bind λρ₂ a b _ e=>by obtain rfl:a=b:=e;exact λ_=>rfl
theorem ABo(t:TypeId)(h:Gt T.P t=true){l l':Array (Nat×Value)}(hl:QP F ρ l.toList l'.toList):AX T F N (QV F) (Instr.build t l) ρ (Instr.build t l'):=by
 have mono: ∀{ρ₁:Rn},ρ.le ρ₁->QP F ρ₁ l.toList l'.toList:=λk=>by
  have: ∀{a b:List (Nat×Value)},QP F ρ a b->QP F _ a b:=λ{a b} q=>by
   induction q with|nil=>exact .nil|cons x _ i=>exact .cons ⟨x.1,x.2.mono k⟩ i
  exact this hl
 refine (J8 t h).bind λρ₁ z z' l1 e=>?_;obtain⟨rfl,hz⟩:=e;refine (BL t).bind λρ₂ d d' l2 e=>?_;obtain⟨rfl,_⟩:=e
 cases d with
 |struct fs=>
  refine (ABn fs).bind λρ₃ pl pl' l3 e=>?_;obtain rfl:pl=pl':=e;have:=ai (F:=F) (ρ:=ρ₃) (pl[·]?) (mono ((l1.trans l2).trans l3)) (Ar.Ud hz)
  cases h1:Instr.fill (pl[·]?) z.cells l.toList with
  |none=>exact λ_=>trivial
  |some a=>cases h2:Instr.fill (pl[·]?) z.cells l'.toList with
   |none=>simp only[h1,h2] at this|some b=>simp only[h1,h2] at this⊢;exact λ_=>.agg this.1 this.2
 |array n el=>
  refine (EO el).bind λρ₃ s s' l3 e=>?_;obtain rfl:s=s':=e;have:=ai (F:=F) (ρ:=ρ₃) (λi=>some (i*s,s)) (mono ((l1.trans l2).trans l3)) (Ar.Ud hz)
  cases h1:Instr.fill (λi=>some (i*s,s)) z.cells l.toList with
  |none=>exact λ_=>trivial
  |some a=>cases h2:Instr.fill (λi=>some (i*s,s)) z.cells l'.toList with
   |none=>simp only[h1,h2] at this|some b=>simp only[h1,h2] at this⊢;exact λ_=>.agg this.1 this.2
 |_=>exact λ_=>trivial
theorem gp(t:TypeId)(n:Nat)(h: ∀el,T.P.underlying t=some (.slice el)->Gt T.P el=true){l l':Array (Nat×Value)}(hl:QP F ρ l.toList l'.toList):
  AX T F N (QV F) (Instr.buildSlice t n l) ρ (Instr.buildSlice t n l'):=by
 have mono: ∀{ρ₁:Rn},ρ.le ρ₁->QP F ρ₁ l.toList l'.toList:=λk=>by
  have: ∀{a b:List (Nat×Value)},QP F ρ a b->QP F _ a b:=λ{a b} q=>by
   induction q with|nil=>exact .nil|cons x _ i=>exact .cons ⟨x.1,x.2.mono k⟩ i
  exact this hl
 refine (BL t).bind λρ₂ d d' l2 e=>?_;obtain⟨rfl,hd⟩:=e
 cases d with
 |slice el=>
  refine (EO el).bind λρ₃ s s' l3 e=>?_;obtain rfl:s=s':=e;by_cases hbig:n*s>2 ^ 24;simp only[hbig,if_true];exact λ_=>trivial;simp only[hbig,if_false]
  have key: ∀(ρ₄:Rn) (z:Array Value),ρ₃.le ρ₄->(∀x∈z,flat x=true)->
    AX T F N (QV F) (do
     let some cells:=Instr.fill (λi=>some (i*s,s)) ((Array.range (n*s)).map (z[· % z.size]!)) l.toList|stuck "buildSlice: a part of the wrong size"
     pure (.slice (some (<- newRow el cells)) n n):Sem Value) ρ₄ (do
     let some cells:=Instr.fill (λi=>some (i*s,s)) ((Array.range (n*s)).map (z[· % z.size]!)) l'.toList|stuck "buildSlice: a part of the wrong size"
     pure (.slice (some (<- newRow el cells)) n n):Sem Value):=by
   intro ρ₄ z l4 hz;have:=ai (F:=F) (ρ:=ρ₄) (λi=>some (i*s,s)) (mono ((l2.trans l3).trans l4)) (Ue hz (n*s) z.size)
   cases h1:Instr.fill (λi=>some (i*s,s)) ((Array.range (n*s)).map (z[· % z.size]!)) l.toList with
   |none=>exact λ_=>trivial
   |some a=>cases h2:Instr.fill (λi=>some (i*s,s)) ((Array.range (n*s)).map (z[· % z.size]!)) l'.toList with
    |none=>simp only[h1,h2] at this|some b=>
     simp only[h1,h2] at this⊢;exact (Rz el this).bind λ_ a b _ e=>λ_=>.slice e
  by_cases h0:n*s=0
  ·simp only[h0,if_true];have:=key ρ₃ #[] (.refl _) AY;simp only[h0] at this;exact this
  simp only[h0,if_false];refine (J8 el (h el hd)).bind λρ₄ z z' l4 e=>?_;obtain⟨rfl,hz⟩:=e;exact key ρ₄ _ l4 hz
 |_=>exact λ_=>trivial
theorem uT{x x':Value}(h:Au F ρ x x')(i:Nat):AX T F N (QV F) (Instr.extract x i) ρ (Instr.extract x' i):=by
 cases h with
 |flat hf=>cases x<;>first|exact λ_=>trivial|exact CU hf
 |tuple h1 h2=>
  rename_i p p';simp only[Instr.extract]
  cases hv:p[i]? with
  |none=>exact λ_=>trivial|some v=>
   obtain⟨v',hv',hr⟩:=Ar.get ⟨h1,h2⟩ hv;rw[hv'];exact λ_=>hr
 |_=>exact λ_=>trivial
theorem YZ(t:TypeId){x x':Value}(h:Au F ρ x x'):AX T F N (QV F) (Instr.makeInterface t x) ρ (Instr.makeInterface t x'):=by
 refine (BL t).bind λρ₁ d d' l1 e=>?_;obtain⟨rfl,_⟩:=e;cases d<;>first|exact λ_=>trivial|exact λ_=>.iface (h.mono l1)
theorem o7(f:FuncId)(hf:F f)(hv:F.v f){p p' q q':Array Value}(h:Ar F ρ p p')(k:Ar F ρ q q'):AX T F N (QV F) (Instr.makeFunc (.func f) p q) ρ (Instr.makeFunc (.func f) p' q'):=
 λ_=>.func hf hv h.1 h.2 k.1 k.2
theorem P6{x x':Value}(h:Au F ρ x x')(y:Nat)(c:BoundsCode):AX T F N ET (Instr.sliceBound x y c) ρ (Instr.sliceBound x' y c):=by
 refine (NY h).bind λρ₁ n n' l1 e=>?_;obtain rfl:n=n':=e;obtain⟨k,n⟩:=n;simp only;split;exact λ_=>rfl;exact H7 _ _ _ _
def QO (F:Fs) (ρ:Rn) (x y:Option Value):Prop:=match x,y with
 |none,none=>True|some a,some b=>Au F ρ a b|_,_=>False
theorem QO.mono{ρ':Rn}(h:ρ.le ρ'){x y:Option Value}(k:QO F ρ x y):QO F ρ' x y:=by
 cases x<;>cases y<;>first|exact k.elim|trivial|exact Au.mono h k
theorem MM(s:Bool)(n k:Nat)(lo hi mx:Option Value):Instr.sliceBounds s n k lo hi mx=
  ((match mx with|some v=>Instr.sliceBound v k (if s then .slice3Acap else .slice3Alen)|none=>pure k:Sem Nat)>>=λm=>
   (match hi,mx with|some v,some _=>Instr.sliceBound v m .slice3B|some v,none=>Instr.sliceBound v m (if s then .sliceAcap else .sliceAlen)|none,none=>pure n|none,some _=>stuck "Slice: max without high" :Sem Nat)>>=λh=>
    (match lo with|some v=>Instr.sliceBound v h (if mx.isSome then .slice3C else .sliceB)|none=>pure 0:Sem Nat)>>=λl=>pure (l,h,m)):=by
 cases mx<;>cases hi<;>cases lo<;>rfl
theorem KT(s:Bool)(n k:Nat){lo lo' hi hi' mx mx':Option Value}(h1:QO F ρ lo lo')(h2:QO F ρ hi hi')(h3:QO F ρ mx mx'):
  AX T F N ET (Instr.sliceBounds s n k lo hi mx) ρ (Instr.sliceBounds s n k lo' hi' mx'):=by
 rw[MM,MM];(have hs:mx.isSome=mx'.isSome:=by cases mx<;>cases mx'<;>first|rfl|exact h3.elim);refine AX.bind (Q:=ET) ?_ λρ₁ m m' l1 e=>?_
 ·cases mx<;>cases mx'<;>first|exact h3.elim|exact λ_=>rfl|exact P6 h3 _ _
 obtain rfl:m=m':=e;refine AX.bind (Q:=ET) ?_ λρ₂ a a' l2 e=>?_
 ·have h2:=h2.mono l1
  cases hi<;>cases hi'<;>first
   |exact h2.elim|(cases mx<;>cases mx'<;>first|exact h3.elim|exact λ_=>rfl|exact λ_=>trivial|exact P6 h2 _ _)
 obtain rfl:a=a':=e;refine AX.bind (Q:=ET) ?_ λρ₃ b b' l3 e=>?_
 ·have h1:=(h1.mono l1).mono l2;rw[<- hs];cases lo<;>cases lo'<;>first|exact h1.elim|exact λ_=>rfl|exact P6 h1 _ _
 obtain rfl:b=b':=e;exact λ_=>rfl
theorem OO{x x':Value}(h:Au F ρ x x')(y:Nat)(c:BoundsCode):AX T F N (λ_ p q=>p=q/\p<=y) (Instr.sliceBound x y c) ρ (Instr.sliceBound x' y c):=by
 refine (NY h).bind λρ₁ n n' l1 e=>?_;obtain rfl:n=n':=e;obtain⟨k,n⟩:=n;simp only;split;exact λ_=>⟨rfl,Ac⟩;exact H7 _ _ _ _
theorem ZN(s:Bool){lo lo' hi hi' mx mx':Option Value}(h1:QO F ρ lo lo')(h2:QO F ρ hi hi')(h3:QO F ρ mx mx'):
  AX T F N (λ_ p q=>p=q/\p=(0,0,0)) (Instr.sliceBounds s 0 0 lo hi mx) ρ (Instr.sliceBounds s 0 0 lo' hi' mx'):=by
 rw[MM,MM];(have hs:mx.isSome=mx'.isSome:=by cases mx<;>cases mx'<;>first|rfl|exact h3.elim);refine AX.bind (Q:=λ_ p q=>p=q/\p<=0) ?_ λρ₁ m m' l1 e=>?_
 ·cases mx<;>cases mx'<;>first|exact h3.elim|exact λ_=>⟨rfl,AP _⟩|exact OO h3 _ _
 obtain⟨rfl,e⟩:=e;obtain rfl:m=0:=PU.1 e;refine AX.bind (Q:=λ_ p q=>p=q/\p<=0) ?_ λρ₂ a a' l2 e=>?_
 ·have h2:=h2.mono l1
  cases hi<;>cases hi'<;>first
   |exact h2.elim|(cases mx<;>cases mx'<;>first|exact h3.elim|exact λ_=>⟨rfl,AP _⟩|exact λ_=>trivial|exact OO h2 _ _)
 obtain⟨rfl,e⟩:=e;obtain rfl:a=0:=PU.1 e;refine AX.bind (Q:=λ_ p q=>p=q/\p<=0) ?_ λρ₃ b b' l3 e=>?_
 ·have h1:=(h1.mono l1).mono l2;rw[<- hs];cases lo<;>cases lo'<;>first|exact h1.elim|exact λ_=>⟨rfl,AP _⟩|exact OO h1 _ _
 obtain⟨rfl,e⟩:=e;obtain rfl:b=0:=PU.1 e;exact λ_=>⟨rfl,rfl⟩
theorem ABp(t:TypeId){x x':Value}(h:Au F ρ x x'){lo lo' hi hi' mx mx':Option Value}(h1:QO F ρ lo lo')(h2:QO F ρ hi hi')(h3:QO F ρ mx mx'):
  AX T F N (QV F) (Instr.slice t x lo hi mx) ρ (Instr.slice t x' lo' hi' mx'):=by
 unfold Instr.slice;refine (BL t).bind λρ₁ d d' l1 e=>?_;obtain⟨rfl,_⟩:=e;have hx:=h.mono l1;have h1:=h1.mono l1;have h2:=h2.mono l1;have h3:=h3.mono l1
 cases d with
 |string=>
  cases hx with
  |flat hf=>
   (cases x<;>first|exact λ_=>trivial|skip);rename_i b;(have hs:mx.isSome=mx'.isSome:=by cases mx<;>cases mx'<;>first|rfl|exact h3.elim);simp only[<- hs];split;exact λ_=>trivial;refine (KT false _ _ h1 h2 (mx:=none) (mx':=none) trivial).bind λρ₂ q q' _ e=>?_;obtain rfl:q=q':=e;exact λ_=>.flat rfl
  |_=>exact λ_=>trivial
 |slice el=>
  have key: ∀{a a':Option Addr} {n k:Nat},(match a,a' with|none,none=>True|some p,some q=>RelA ρ₁ p q|_,_=>False)->
    AX T F N (QV F) (do let (l,h,m) <- Instr.sliceBounds true n k lo hi mx;let size <- sizeOf el;pure (.slice (if m=l then a else a.map (·.add (l*size))) (h - l) (m - l)):Sem Value) ρ₁
     (do let (l,h,m) <- Instr.sliceBounds true n k lo' hi' mx';let size <- sizeOf el;pure (.slice (if m=l then a' else a'.map (·.add (l*size))) (h - l) (m - l)):Sem Value):=by
   intro a a' n k ha;refine (KT true _ _ h1 h2 h3).bind λρ₂ q q' l2 e=>?_;obtain rfl:q=q':=e;obtain⟨l,hh,m⟩:=q;refine (EO el).bind λρ₃ s s' l3 e=>?_;obtain rfl:s=s':=e;(cases a<;>cases a'<;>first|exact ha.elim|skip);intro _;simp only[Option.map_none,ite_self];exact .flat rfl;have ha:RelA ρ₁ _ _:=ha;by_cases hm:m=l;simp only[hm,if_true];exact λ_=>.slice ((ha.mono l2).mono l3);simp only[hm,if_false,Option.map_some];exact λ_=>.slice (((ha.mono l2).mono l3).add _)
  cases hx with
  |flat hf=>
   (cases x<;>first|exact λ_=>trivial|skip);rename_i a n k
   cases a with|none=>exact key trivial|some _=>exact CU hf
  |slice ha=>exact key (a:=some _) (a':=some _) ha|emp hc=>
   refine (ZN true h1 h2 h3).bind λρ₂ q q' l2 e=>?_;obtain⟨rfl,rfl⟩:=e;refine (EO el).bind λρ₃ s s' l3 e=>?_;exact λ_=>.emp (l3.c _ _ (l2.c _ _ hc))
  |_=>exact λ_=>trivial
 |pointer el=>
  refine AX.bind (Q:=QA) (dX hx) λρ₂ a a' l2 ha=>?_;refine (BL el).bind λρ₃ d d' l3 e=>?_;obtain⟨rfl,_⟩:=e
  cases d with
  |array n elem=>
   refine (KT false _ _ ((h1.mono l2).mono l3) ((h2.mono l2).mono l3) ((h3.mono l2).mono l3)).bind λρ₄ q q' l4 e=>?_;obtain rfl:q=q':=e;obtain⟨l,hh,m⟩:=q;refine (EO elem).bind λρ₅ s s' l5 e=>?_;obtain rfl:s=s':=e;have ha:=((ha.mono l3).mono l4).mono l5;by_cases hm:m=l;simp only[hm,if_true];exact λ_=>.slice ha;simp only[hm,if_false];exact λ_=>.slice (ha.add _)
  |_=>exact λ_=>trivial
 |_=>exact λ_=>trivial
theorem uU(t:TypeId){x x':Value}(h:Au F ρ x x'){lo lo' hi hi' mx mx':Option Value}(h1:QO F ρ lo lo')(h2:QO F ρ hi hi')(h3:QO F ρ mx mx'):
  AX T F N (QV F) (Instr.sliceAt t x lo hi mx) ρ (Instr.sliceAt t x' lo' hi' mx'):=by
 unfold Instr.sliceAt;refine (BL t).bind λρ₁ d d' l1 e=>?_;obtain⟨rfl,_⟩:=e
 cases d with
 |array n elem=>
  refine (Lm (h.mono l1)).bind λρ₂ a a' l2 ha=>?_;refine (KT false _ _ ((h1.mono l1).mono l2) ((h2.mono l1).mono l2) ((h3.mono l1).mono l2)).bind λρ₄ q q' l4 e=>?_;obtain rfl:q=q':=e;obtain⟨l,hh,m⟩:=q;refine (EO elem).bind λρ₅ s s' l5 e=>?_;obtain rfl:s=s':=e;have ha:=(ha.mono l4).mono l5;by_cases hm:m=l;simp only[hm,if_true];exact λ_=>.slice ha;simp only[hm,if_false];exact λ_=>.slice (ha.add _)
 |_=>exact ABp t (h.mono l1) (h1.mono l1) (h2.mono l1) (h3.mono l1)
theorem jc(h0: ∀i,T.P.info? 0=some i->i.methods.find? (·.name== "")=none){b:Nat}{β:Type}{Q:Rn->Next->β->Prop}(s':Sem β):
  DN T F N Q (do
   if (<- nilAhead ((<- program).types.size+Made.depth) 0 (.chan (some b)) "") !=some false then
    unsupported (.noEntry "op/nilCheck.the method's receiver behind this interface value is a nil pointer, or cannot be seen to be none, and the arguments act or may panic (ledger 612)")
   pure (.value (.func (.method "") #[.iface 0 (.chan (some b))] #[])):Sem Next) ρ s':=by
 refine .inl ?_;show CZ T ((nilAhead (T.P.types.size+Made.depth) 0 (.chan (some b)) "").bind _)
 cases T.P.types.size+Made.depth with
 |zero=>exact trivial|succ n=>
  have e:CZ T (nilAhead (n+1) 0 (.chan (some b)) ""):=by
   rw[nilAhead];show CZ T ((match T.P.info? 0 with|some d=>pure d|none=>stuck "no such type" :Sem TypeInfo).bind _)
   cases h:T.P.info? 0 with
   |none=>exact trivial|some i=>
    simp only[pure,Sem.bind,h0 i h];exact trivial
  exact e.bind
theorem o8(h0: ∀i,T.P.info? 0=some i->i.methods.find? (·.name== "")=none){x x':Value}(h:Au F ρ x x')(f f':Value->Sem Next)
  (hf:f=λx=>match x with
   | .pointer none| .nilIface| .nilFunc=>runtimePanic .nilDeref| .func (.method name) first captured=>
    match (first[0]? :Option Value) with
    |some .nilIface=>runtimePanic .nilDeref
    |some (.iface t w)=>do
     if (<- nilAhead ((<- program).types.size+Made.depth) t w name) !=some false then
      unsupported (.noEntry "op/nilCheck.the method's receiver behind this interface value is a nil pointer, or cannot be seen to be none, and the arguments act or may panic (ledger 612)")
     pure (.value (.func (.method name) first captured))
    |_=>pure (.value (.func (.method name) first captured))
   |x=>pure (.value x)) (e:f'=f) {Q:Rn->Next->Next->Prop} (hQ: ∀ρ x x',Au F ρ x x'->Q ρ (.value x) (.value x')):AX T F N Q (f x) ρ (f' x'):=by
 subst e hf
 cases h with
 |flat hf=>
  cases x<;>first
   |exact Bl (e:=.nilDeref) trivial|exact λ_=>hQ _ _ _ (.flat hf)|exact CU hf|(rename_i a;cases a<;>first|exact Bl (e:=.nilDeref) trivial|exact λ_=>hQ _ _ _ (.flat hf))
 |tok hc ht hp=>
  cases x'<;>first|exact CU ht|exact λ_=>hQ _ _ _ (.tok hc ht hp)|skip
  ·rename_i a;cases a<;>first|exact CU ht|exact λ_=>hQ _ _ _ (.tok hc ht hp)
  rename_i fn p q;cases fn<;>first|exact CU ht|exact λ_=>hQ _ _ _ (.tok hc ht hp)
 |mf hx hm=>exact λ_=>jc h0 _|ptr ha=>exact λ_=>hQ _ _ _ (.ptr ha)|slice ha=>exact λ_=>hQ _ _ _ (.slice ha)|emp hc=>exact λ_=>hQ _ _ _ (.emp hc)|map ha=>exact λ_=>hQ _ _ _ (.map ha)|chan ha=>exact λ_=>hQ _ _ _ (.chan ha)|func h1 h6 h2 h3 h4 h5=>exact λ_=>hQ _ _ _ (.func h1 h6 h2 h3 h4 h5)|yield ha=>exact λ_=>hQ _ _ _ (.yield ha)|seq ha=>exact λ_=>hQ _ _ _ (.seq ha)|iface ha=>exact λ_=>hQ _ _ _ (.iface ha)|agg h1 h2=>exact λ_=>hQ _ _ _ (.agg h1 h2)|tuple h1 h2=>exact λ_=>hQ _ _ _ (.tuple h1 h2)
theorem ABq{Q:Rn->Value->Value->Prop}{x x':Value}(h:Au F ρ x x'):AX T F N Q (Instr.panic x) ρ (Instr.panic x'):=by
 cases h with
 |flat hf=>
  (cases x<;>first|exact λ_=>trivial|exact CU hf|skip);refine AX.bind (Q:=ET) ?_ λρ₁ a b _ e=>?_
  ·refine AX.bind (Q:=ET) (s:=sys .env) (s':=sys .env) (λ_ x=>rfl) λρ₁ a b _ e=>?_;obtain rfl:a=b:=e;(cases a<;>first|exact λ_=>trivial|skip);exact CV.bind λρ₂ p p' _ e=>by obtain⟨rfl,rfl⟩:=e;exact λ_=>rfl
  obtain rfl:a=b:=e;split;exact QZ (.flat rfl);exact Bl (e:=.panicNil) trivial
 |iface h=>exact QZ (.iface h)|_=>exact λ_=>trivial
end
section
variable {T:Twin} {F:Fs} {N:Nat} {ρ:Rn} {α β γ:Type}
theorem RelA.beq{a b a' b':Addr}(hok:ρ.Ok N)(h:RelA ρ a a')(k:RelA ρ b b'):(a.block==b.block)=(a'.block==b'.block):=by
 rw[J3,beq_iff_eq,beq_iff_eq];constructor;intro e;exact hok.fn _ _ _ h.1 (e▸k.1);intro e;exact hok.inj _ _ _ h.1 (e▸k.1)
theorem RelA.beq'{a b a' b':Addr}(hok:ρ.Ok N)(h:RelA ρ a a')(k:RelA ρ b b'):(a==b)=(a'==b'):=by
 rw[J3,beq_iff_eq,beq_iff_eq];obtain⟨b1,o1,s1⟩:=a;obtain⟨b2,o2,s2⟩:=b;obtain⟨b3,o3,s3⟩:=a';obtain⟨b4,o4,s4⟩:=b';obtain⟨h1,h2,h3⟩:=h;obtain⟨k1,k2,k3⟩:=k;simp only at h1 h2 h3 k1 k2 k3;subst h2 h3 k2 k3;simp only[Addr.mk.injEq];constructor
 ·rintro⟨rfl,rfl,rfl⟩;exact⟨hok.fn _ _ _ h1 k1,rfl,rfl⟩
 rintro⟨rfl,rfl,rfl⟩;exact⟨hok.inj _ _ _ h1 k1,rfl,rfl⟩
theorem ABr{x x':Value}(h:Au F ρ x x'):AX T F N ET (Builtin.lenOf x) ρ (Builtin.lenOf x'):=by
 cases h with
 |flat hf=>cases x<;>first|exact λ_=>rfl|exact λ_=>trivial
 |slice _=>exact λ_=>rfl|emp=>exact λ_=>rfl|_=>exact λ_=>trivial
def yt:Value->Bool
 | .slice _ _ _| .string _=>true|_=>false
theorem yu{x x':Value}(h:Au F ρ x x'):AX T F N (λ_ a b=>a=b/\yt x=true/\∀p,x=.slice (some p) 0 0->a=0) (Builtin.lenOf x) ρ (Builtin.lenOf x'):=by
 by_cases he: ∃p,x=.slice (some p) 0 0
 ·obtain⟨p,rfl⟩:=he
  cases h with|flat hf=>exact CU hf|slice _=>exact λ_=>⟨rfl,rfl,λ_ _=>rfl⟩|emp=>exact λ_=>⟨rfl,rfl,λ_ _=>rfl⟩
 by_cases hs:yt x=true;exact (ABr h).mono λ_ _ _ _ e=>⟨e,hs,λp hp=>absurd ⟨p,hp⟩ he⟩
 have e: ∃s,Builtin.lenOf x=.halt (.stuck s):=by
  cases x<;>first|exact absurd rfl hs|exact⟨_,rfl⟩
 obtain⟨s,e⟩:=e;rw[e];exact λ_=>trivial
theorem KU(size:Nat){x:Value}(h:yt x=true):Builtin.firstCells size 0 x=pure #[]:=by
 (cases x<;>first|exact CU h|skip);unfold Builtin.firstCells;simp;rename_i a n c
 cases a with|none=>rfl|some a=>unfold Builtin.firstCells;simp only[KL];rfl
theorem AEj{x x':Value}(h:Au F ρ x x')(hs:yt x=true):yt x'=true:=by
 cases h<;>first|exact hs|rfl|exact CU hs
theorem MN(size n:Nat){x x':Value}(h:Au F ρ x x')(hn: ∀p,x=.slice (some p) 0 0->n=0):AX T F N (QVs F) (Builtin.firstCells size n x) ρ (Builtin.firstCells size n x'):=by
 cases h with
 |flat hf=>
  cases x<;>first|exact λ_=>trivial|skip
  ·rename_i s;refine λ_=>Ar.Ud λx hx=>?_;obtain⟨b,_,rfl⟩:=Array.mem_map.1 hx;rfl
  rename_i a n k
  cases a with|none=>exact λ_=>Ar.nil|some _=>exact CU hf
 |slice ha=>exact Q8 ha _|emp=>
  obtain rfl:=hn _ rfl;rw[KU size (x:=.slice (some _) 0 0) rfl,KU size (x:=.slice (some _) 0 0) rfl];exact λ_=>Ar.nil
 |_=>exact λ_=>trivial
theorem SA{a a':Addr}(h:RelA ρ a a'):AX T F N ET (frozen a) ρ (frozen a'):=λ_=>YC h λ_=>rfl
def QB (ρ:Rn) (b b':Option Addr):Prop:=match b,b' with
 |none,none=>True|some a,some a'=>RelA ρ a a'|_,_=>False
theorem QB.mono{ρ':Rn}(h:ρ.le ρ'){b b':Option Addr}(k:QB ρ b b'):QB ρ' b b':=by
 cases b<;>cases b'<;>first|exact k.elim|trivial|exact RelA.mono h k
theorem ZO{s s':Value}(h:Au F ρ s s'):(∃b b' n k,s=.slice b n k/\s'=.slice b' n k/\(QB ρ b b'\/∃c a,ρ.c c (.slice (some a) 0 0)/\n=0/\k=0/\b=some ⟨c,0,none⟩/\b'=some a))\/(∀b n k,s≠ .slice b n k):=by
 cases h with
 |flat hf=>
  cases s with
  |slice a n k=>
   cases a with|none=>exact .inl ⟨none,none,n,k,rfl,rfl,.inl trivial⟩|some _=>exact CU hf
  |_=>exact .inr nofun
 |slice ha=>exact .inl ⟨some _,some _,_,_,rfl,rfl,.inl ha⟩|emp hc=>exact .inl ⟨some _,some _,_,_,rfl,rfl,.inr ⟨_,_,hc,rfl,rfl,rfl,rfl⟩⟩|_=>exact .inr nofun
theorem yw{α:Type}(size sLen n:Nat)(b:Option Addr)(x:Value)(t:String):CZ T (do
  if !(<- Builtin.mayShare size sLen n b x) then mark .noRoom
  unsupported (.resourceLimit t):Sem α):=by
 have h1: ∀y:Bool,CZ T (do
   if !y then mark .noRoom
   unsupported (.resourceLimit t):Sem α):=λy=>by cases y<;>trivial
 have h2: ∀{f:Bool->Sem α},(∀y,CZ T (f y))->CZ T (Sem.bind (match x with
   | .slice (some b₁) _ _=>do pure (!(<- Builtin.holdsCells b₁ (n*size)) || b.any (·.block==b₁.block))
   |_=>pure false:Sem Bool) f):=λ{f} h=>by
  (cases x<;>first|exact h _|skip);rename_i a _ _
  cases a with
  |none=>exact h _|some a=>
   intro z;cases z<;>exact h _
 unfold Builtin.mayShare
 cases b with
 |none=>exact h2 h1|some a=>
  intro z
  cases z with
  |none=>
   intro y;exact h1 true
  |some q=>
   intro y;obtain⟨q1,q2⟩:=q;show CZ T (Sem.bind (if !(_ && !y) then pure true else _) _);by_cases hc:(!((a.spot.isNone && decide (a.off+sLen*size<=q2)) && !y))=true;simp only[hc,if_true];exact h1 true;simp only[hc,if_false,Ak];exact h2 h1
theorem yx(t xt ty:TypeId)(hint: ∀k,T.P.underlying xt≠some (.int k))(hz: ∀el,T.P.underlying t=some (.slice el)->Gt T.P el=true)
  {s s' x x':Value} (hs:Au F ρ s s') (hx:Au F ρ x x'):AX T F N (QV F) (Builtin.append_ #[t,xt] ty #[s,x]) ρ (Builtin.append_ #[t,xt] ty #[s',x']):=by
 have hsl:=ZO hs;unfold Builtin.append_;simp only[EX,List.getElem?_cons_zero,List.getElem?_cons_succ];refine (BL t).bind λρ₁ d d' l1 e=>?_;obtain⟨rfl,hd⟩:=e
 cases d with
 |slice el=>
  simp only;rcases hsl with ⟨b,b',sLen,sCap,rfl,rfl,hb⟩|hns
  ·simp only;refine (EO el).bind λρ₂ size size' l2 e=>?_;obtain rfl:size=size':=e;refine (BL xt).bind λρ₃ dx dx' l3 e=>?_;obtain⟨rfl,o9⟩:=e;refine AX.bind (Q:=λ_ a b=>a=false/\b=false) ?_ λρ₄ z z' l4 e=>?_
   ·cases dx<;>first|exact λ_=>⟨rfl,rfl⟩|exact absurd o9 (hint _)
   obtain⟨rfl,rfl⟩:=e;simp only[Ak,if_false,aX,if_true,false_or];refine (yu ((((hx.mono l1).mono l2).mono l3).mono l4)).bind λρ₅ n n' l5 e=>?_;obtain⟨e,hsl,hn0⟩:=e;obtain rfl:n=n':=e;have hs5:=((((hs.mono l1).mono l2).mono l3).mono l4).mono l5;have hx:=((((hx.mono l1).mono l2).mono l3).mono l4).mono l5;by_cases hn:sLen+n<=sCap
   ·simp only[hn,if_true];rcases hb with hb|⟨c0,a0,hc0,rfl,rfl,rfl,rfl⟩;rotate_left
    ·(obtain rfl:n=0:=by omega);rw[KU size hsl,KU size (AEj hx hsl)];exact λ_=>.emp (l5.c _ _ (l4.c _ _ (l3.c _ _ (l2.c _ _ (l1.c _ _ hc0)))))
    have hb:=((((hb.mono l1).mono l2).mono l3).mono l4).mono l5;refine (MN size n hx hn0).bind λρ₆ c c' l6 hc=>?_;have hb:=hb.mono l6
    cases b with
    |none=>cases b' with
     |none=>exact λ_=>.flat rfl|some _=>exact hb.elim
    |some a=>cases b' with
     |none=>exact hb.elim|some a'=>
      simp only;have ha:RelA ρ₆ a a':=hb;exact (ML c.toList c'.toList 0 (ha.add _) (by simpa using hc)).bind λρ₇ _ _ l7 _=>λ_=>.slice (ha.mono l7)
   simp only[hn,if_false]
   have key: ∀ρ₆,ρ₅.le ρ₆->AX T F N (QV F) (do
      let newCap <- choose (.appendCap (sLen+n) sCap el)
      askRoom (newCap*(<- typeInfo el).bytes)
      let old <- Builtin.firstCells size sLen (.slice b sLen sCap);let new <- Builtin.firstCells size n x;let rest:=Builtin.zeroCells (<- zeroValue el).cells (newCap - (sLen+n))
      pure (.slice (some (<- newRow el (old++new++rest))) (sLen+n) newCap):Sem Value) ρ₆ (do
      let newCap <- choose (.appendCap (sLen+n) sCap el)
      askRoom (newCap*(<- typeInfo el).bytes)
      let old <- Builtin.firstCells size sLen (.slice b' sLen sCap);let new <- Builtin.firstCells size n x';let rest:=Builtin.zeroCells (<- zeroValue el).cells (newCap - (sLen+n))
      pure (.slice (some (<- newRow el (old++new++rest))) (sLen+n) newCap):Sem Value):=by
    intro ρ₆ l6;refine (JJ _).bind λρ₇ nc nc' l7 e=>?_;obtain rfl:nc=nc':=e;refine (C9 el).bind λρ₈ i i' l8 e=>?_;obtain⟨rfl,_⟩:=e;refine (ZM _).bind λρ₉ _ _ l9 _=>?_;have lt:=((l6.trans l7).trans l8).trans l9;refine (MN size sLen (hs5.mono lt) (λp hp=>by injection hp)).bind λVY o o' l10 ho=>?_;refine (MN size n (hx.mono (lt.trans l10)) hn0).bind λXM c c' l11 hc=>?_;refine (J8 el (hz el hd)).bind λXN z z' l12 e=>?_;obtain⟨rfl,hz⟩:=e;exact (Rz el (((ho.mono (l11.trans l12)).append (hc.mono l12)).append (Ue hz _ _))).bind λ_ a a' _ ha=>λ_=>.slice ha
   refine (C9 el).bind λρ₆ i i' l6 e=>?_;obtain⟨rfl,_⟩:=e
   have AO9: ∀ρ₇,ρ₆.le ρ₇->AX T F N (QV F) (do
      if Builtin.nextslicecap (sLen+n) sCap*(<- typeInfo el).bytes>2 ^ 48 then (do
       if !(<- Builtin.mayShare size sLen n b x) then mark .noRoom
       unsupported (.resourceLimit "append: a slice or a string whose bytes no memory bears"))
      let newCap <- choose (.appendCap (sLen+n) sCap el)
      askRoom (newCap*(<- typeInfo el).bytes)
      let old <- Builtin.firstCells size sLen (.slice b sLen sCap);let new <- Builtin.firstCells size n x;let rest:=Builtin.zeroCells (<- zeroValue el).cells (newCap - (sLen+n))
      pure (.slice (some (<- newRow el (old++new++rest))) (sLen+n) newCap):Sem Value) ρ₇ (do
      if Builtin.nextslicecap (sLen+n) sCap*(<- typeInfo el).bytes>2 ^ 48 then (do
       if !(<- Builtin.mayShare size sLen n b' x') then mark .noRoom
       unsupported (.resourceLimit "append: a slice or a string whose bytes no memory bears"))
      let newCap <- choose (.appendCap (sLen+n) sCap el)
      askRoom (newCap*(<- typeInfo el).bytes)
      let old <- Builtin.firstCells size sLen (.slice b' sLen sCap);let new <- Builtin.firstCells size n x';let rest:=Builtin.zeroCells (<- zeroValue el).cells (newCap - (sLen+n))
      pure (.slice (some (<- newRow el (old++new++rest))) (sLen+n) newCap):Sem Value):=by
    intro ρ₇ l7;refine (C9 el).bind λρ₈ j j' l8 e=>?_;obtain⟨rfl,_⟩:=e;by_cases hbig:Builtin.nextslicecap (sLen+n) sCap*j.bytes>2 ^ 48
    ·simp only[hbig,if_true];exact AX.bind (Q:=λ_ _ _=>False) (Qv (yw _ _ _ _ _ _) _) λ_ _ _ _ e=>e.elim
    simp only[hbig,if_false];exact key ρ₈ ((l6.trans l7).trans l8)
   by_cases hov:((sLen+n:Nat):Int)>IntKind.i64.max/\i.bytes=0
   ·simp only[hov,and_self,if_true];exact AX.bind (Q:=λ_ _ _=>False) (Bl (e:=.error _) trivial) λ_ _ _ _ e=>e.elim
   simp only[hov,if_false];exact AO9 ρ₆ (.refl _)
  cases s<;>first|exact λ_=>trivial|exact absurd rfl (hns _ _ _)
 |_=>exact λ_=>trivial
end
section
variable {T:Twin} {F:Fs} {N:Nat} {ρ:Rn} {α β γ:Type}
theorem AF5(t ty:TypeId)(hc: ∀d e,T.P.underlying t≠some (.chan d e)){x x':Value}(h:Au F ρ x x'):AX T F N (QV F) (Builtin.len_ #[t] ty #[x]) ρ (Builtin.len_ #[t] ty #[x']):=by
 unfold Builtin.len_;simp only[EX,List.getElem?_cons_zero];refine (BL t).bind λρ₁ d d' l1 e=>?_;obtain⟨rfl,hd⟩:=e;have hx:=h.mono l1
 cases d with
 |array n e=>cases x<;>cases x'<;>exact λ_=>.flat rfl|pointer arr=>
  have:AX T F N (QV F) (do
    let .array n _ <- underlying arr|stuck "len: pointer to array expected"
    pure (goInt n):Sem Value) ρ₁ (do
    let .array n _ <- underlying arr|stuck "len: pointer to array expected"
    pure (goInt n):Sem Value):=by
   refine (BL arr).bind λρ₂ d d' l2 e=>?_;obtain⟨rfl,_⟩:=e;cases d<;>first|exact λ_=>trivial|exact λ_=>.flat rfl
  cases x<;>cases x'<;>exact this
 |string=>
  cases hx with
  |flat hf=>cases x<;>first|exact λ_=>trivial|exact λ_=>.flat rfl
  |_=>exact λ_=>trivial
 |slice el=>
  cases hx with
  |flat hf=>cases x<;>first|exact λ_=>trivial|exact λ_=>.flat rfl
  |slice _=>exact λ_=>.flat rfl|emp _=>exact λ_=>.flat rfl|_=>exact λ_=>trivial
 |map k el=>
  cases hx with
  |flat hf=>
   (cases x<;>first|exact λ_=>trivial|skip);rename_i r
   cases r with|none=>exact λ_=>.flat rfl|some _=>exact CU hf
  |map hb=>
   exact λ_=>⟨hb,λo o' ho=>by
    cases ho with
    | @map es es' k hs _=>
     show Au F _ (goInt es.size) (goInt es'.size);rw[hs];exact .flat rfl
    |_=>exact trivial⟩
  |_=>exact λ_=>trivial
 |chan d e=>exact absurd hd (hc _ _)|_=>cases x<;>exact λ_=>trivial
theorem pF(op:BinOp)(x y:ByteArray):AX T F N (QV F) (Op.stringOp op x y) ρ (Op.stringOp op x y):=by
 unfold Op.stringOp;(cases op<;>first|exact λ_=>.flat rfl|exact λ_=>trivial|skip);simp only;split;exact λ_=>trivial;exact λ_=>.flat rfl
theorem BN{x x':Value}(h:Au F ρ x x')(hf:flat x=true):x'=x:=by
 cases h<;>first|rfl|exact CU hf
theorem jd(o:BinOp)(k:IntKind)(a:Int)(k':IntKind)(b:Int):AX T F N (QV F) (Op.shift o k a k' b) ρ (Op.shift o k a k' b):=by
 unfold Op.shift;split;exact Bl (e:=.error _) trivial;cases o<;>first|exact λ_=>.flat rfl|exact λ_=>trivial
theorem yz(o:BinOp)(k:IntKind)(a b:Int):AX T F N (QV F) (Op.intDiv o k a b) ρ (Op.intDiv o k a b):=by
 unfold Op.intDiv;split;exact Bl (e:=.error _) trivial;cases o<;>first|exact λ_=>.flat rfl|exact λ_=>trivial
theorem y5(x y:Value):(∃k a k' b,x=.int k a/\y=.int k' b)\/(∃k a k' b,x=.float k a/\y=.float k' b)\/(∃a b,x=.string a/\y=.string b)\/
  ∃h,Builtin.max2 x y=.halt h/\Halt.still h:=by
 unfold Builtin.max2;split;exact .inl ⟨_,_,_,_,rfl,rfl⟩;exact .inr (.inl ⟨_,_,_,_,rfl,rfl⟩);exact .inr (.inr (.inl ⟨_,_,rfl,rfl⟩));exact .inr (.inr (.inr ⟨_,rfl,trivial⟩));exact .inr (.inr (.inr ⟨_,rfl,trivial⟩));exact .inr (.inr (.inr ⟨_,rfl,trivial⟩))
theorem y7(x y:Value):(∃k a k' b,x=.int k a/\y=.int k' b)\/(∃k a k' b,x=.float k a/\y=.float k' b)\/(∃a b,x=.string a/\y=.string b)\/
  ∃h,Builtin.min2 x y=.halt h/\Halt.still h:=by
 unfold Builtin.min2;split;exact .inl ⟨_,_,_,_,rfl,rfl⟩;exact .inr (.inl ⟨_,_,_,_,rfl,rfl⟩);exact .inr (.inr (.inl ⟨_,_,rfl,rfl⟩));exact .inr (.inr (.inr ⟨_,rfl,trivial⟩));exact .inr (.inr (.inr ⟨_,rfl,trivial⟩));exact .inr (.inr (.inr ⟨_,rfl,trivial⟩))
theorem aj{Q:Rn->α->β->Prop}{s:Sem α}{s':Sem β}{h:Halt}(e:s=.halt h)(k:Halt.still h):AX T F N Q s ρ s':=by
 subst e;intro _;cases h<;>first|exact k.elim|exact k
theorem AEk{x x' y y':Value}(h:Au F ρ x x')(k:Au F ρ y y'):AX T F N (QV F) (Builtin.max2 x y) ρ (Builtin.max2 x' y'):=by
 rcases y5 x y with ⟨k₁,a,k₂,b,rfl,rfl⟩|⟨k₁,a,k₂,b,rfl,rfl⟩|⟨a,b,rfl,rfl⟩|⟨hh,e,hs⟩;rw[BN h rfl,BN k rfl];exact λ_=>.flat rfl
 ·cases h with
  |flat hf=>exact CU hf
 ·rw[BN h rfl,BN k rfl];simp only[Builtin.max2,Op.stringOp];exact λ_=>.flat rfl
 exact aj e hs
theorem AEl{x x' y y':Value}(h:Au F ρ x x')(k:Au F ρ y y'):AX T F N (QV F) (Builtin.min2 x y) ρ (Builtin.min2 x' y'):=by
 rcases y7 x y with ⟨k₁,a,k₂,b,rfl,rfl⟩|⟨k₁,a,k₂,b,rfl,rfl⟩|⟨a,b,rfl,rfl⟩|⟨hh,e,hs⟩;rw[BN h rfl,BN k rfl];exact λ_=>.flat rfl
 ·cases h with
  |flat hf=>exact CU hf
 ·rw[BN h rfl,BN k rfl];simp only[Builtin.min2,Op.stringOp];exact λ_=>.flat rfl
 exact aj e hs
theorem df{f f':Value->Value->Sem Value}(hf: ∀{ρ:Rn} {x x' y y':Value},Au F ρ x x'->Au F ρ y y'->AX T F N (QV F) (f x y) ρ (f' x' y')):
  ∀(l l':List Value) {ρ:Rn} {x x':Value},Ar F ρ l.toArray l'.toArray->Au F ρ x x'->AX T F N (QV F) (l.foldlM f x) ρ (l'.foldlM f' x'):=by
 intro l
 induction l with
 |nil=>
  intro l' ρ x x' h hx;(have:l'=[]:=by have:=h.1;simp at this;exact Il.1 this.symm);subst this;exact λ_=>hx
 |cons v l ih=>
  intro l' ρ x x' h hx
  cases l' with
  |nil=>have:=h.1;simp at this|cons v' l'=>
   rw[List.foldlM_cons,List.foldlM_cons];refine (hf hx (h.2 0 v v' AY AY)).bind λρ₁ a a' l1 ha=>ih l' ⟨by have:=h.1;simpa using this,λj x x' hx hx'=>?_⟩ ha;exact (h.2 (j+1) x x' (by simpa using hx) (by simpa using hx')).mono l1
theorem AF6(ts:Array TypeId)(ty:TypeId){p p':Array Value}(h:Ar F ρ p p'):AX T F N (QV F) (Builtin.max_ ts ty p) ρ (Builtin.max_ ts ty p'):=by
 obtain⟨l⟩:=p;obtain⟨l'⟩:=p';unfold Builtin.max_
 cases l with
 |nil=>exact λ_=>trivial|cons v l=>
  cases l' with
  |nil=>have:=h.1;simp at this|cons v' l'=>
   exact df (λh k=>AEk h k) l l' ⟨by have:=h.1;simpa using this,λj x x' hx hx'=>h.2 (j+1) x x' (by simpa using hx) (by simpa using hx')⟩ (h.2 0 v v' AY AY)
theorem AF7(ts:Array TypeId)(ty:TypeId){p p':Array Value}(h:Ar F ρ p p'):AX T F N (QV F) (Builtin.min_ ts ty p) ρ (Builtin.min_ ts ty p'):=by
 obtain⟨l⟩:=p;obtain⟨l'⟩:=p';unfold Builtin.min_
 cases l with
 |nil=>exact λ_=>trivial|cons v l=>
  cases l' with
  |nil=>have:=h.1;simp at this|cons v' l'=>
   exact df (λh k=>AEl h k) l l' ⟨by have:=h.1;simpa using this,λj x x' hx hx'=>h.2 (j+1) x x' (by simpa using hx) (by simpa using hx')⟩ (h.2 0 v v' AY AY)
def QPt (ρ:Rn) (x y:Value):Prop:=∃p p',x=.pointer p/\y=.pointer p'/\QB ρ p p'
theorem QPt.rel{x y:Value}(h:QPt ρ x y):Au F ρ x y:=by
 obtain⟨p,p',rfl,rfl,h⟩:=h;cases p<;>cases p'<;>first|exact h.elim|exact .flat rfl|exact .ptr h
theorem YD(T:Twin): ∀(d:Nat) (t:TypeId) (off:Nat),cellOfByte T.v d t off=cellOfByte T.P d t off
 |0,_,_=>rfl
 |d+1,t,off=>by
  have e1:T.v.underlying t=T.P.underlying t:=rfl;have e2: ∀x,T.v.cellsOf x=T.P.cellsOf x:=λ_=>rfl;have e3: ∀x,T.v.bytesOf x=T.P.bytesOf x:=λ_=>rfl;unfold cellOfByte;rw[e1];simp only[YD T d,e2,e3]
theorem je(T:Twin)(d:Nat)(e:TypeId)(k off:Nat)(b:Int):cellAtBytes T.v d e k off b=cellAtBytes T.P d e k off b:=by
 have e2: ∀x,T.v.cellsOf x=T.P.cellsOf x:=λ_=>rfl;have e3: ∀x,T.v.bytesOf x=T.P.bytesOf x:=λ_=>rfl;unfold cellAtBytes;simp only[TQ,YD,e2,e3]
theorem V7(t:TypeId){x x' y y':Value}(h:Au F ρ x x')(k:Au F ρ y y'):AX T F N QPt (Builtin.unsafeAdd_ #[] t #[x,y]) ρ (Builtin.unsafeAdd_ #[] t #[x',y']):=by
 unfold Builtin.unsafeAdd_
 have hp:(∃b b',x=.pointer b/\x'=.pointer b'/\QB ρ b b')\/∀b,x≠ .pointer b:=by
  cases h with
  |flat hf=>
   cases x with
   |pointer a=>cases a with
    |none=>exact .inl ⟨none,none,rfl,rfl,trivial⟩|some _=>exact CU hf
   |_=>exact .inr nofun
  |ptr ha=>exact .inl ⟨some _,some _,rfl,rfl,ha⟩|_=>exact .inr nofun
 rcases hp with ⟨b,b',rfl,rfl,hb⟩|hn
 ·refine (ja k).bind λρ₁ n n' l1 e=>?_;obtain rfl:n=n':=e;have hb:=hb.mono l1;by_cases h0:n=0
  ·simp only[h0,if_true]
   cases b with
   |none=>exact λ_=>trivial
   |some a=>cases b' with
    |none=>exact hb.elim|some a'=>
     simp only;have ha:RelA ρ₁ a a':=hb;refine (dY ha.1).bind λρ₂ z z' l2 e=>?_;obtain⟨rfl,rfl⟩:=e;exact λ_=>⟨some a,some a',rfl,rfl,ha.mono l2⟩
  simp only[h0,if_false];by_cases hneg:n<0;simp only[hneg,if_true];exact λ_=>trivial;simp only[hneg,if_false]
  cases b with
  |none=>exact λ_=>trivial
  |some a=>cases b' with
   |none=>exact hb.elim|some a'=>
    simp only;have ha:RelA ρ₁ a a':=hb;refine (Md ha.1).bind λρ₂ z z' l2 e=>?_;obtain rfl:z=z':=e
    cases z with
    |none=>exact λ_=>trivial|some q=>
     obtain⟨e,cells⟩:=q;simp only;refine CV.bind λρ₃ p p' l3 e=>?_;obtain⟨rfl,rfl⟩:=e;rw[ha.2.1];have hb:cellAtBytes T.v T.v.depth e (cells/T.v.cellsOf e) a.off n=cellAtBytes T.P T.P.depth e (cells/T.P.cellsOf e) a.off n:=je T _ _ _ _ _;rw[hb]
     cases cellAtBytes T.P T.P.depth e (cells/T.P.cellsOf e) a.off n with|some o=>exact λ_=>⟨some _,some _,rfl,rfl,l3.r _ _ (l2.r _ _ ha.1),rfl,ha.2.2⟩|none=>exact λ_=>trivial
 cases x<;>first|exact λ_=>trivial|exact absurd rfl (hn _)
theorem pG{a a':Addr}(h:RelA ρ a a')(b:Bool):AX T F N (QV F) (asNumber a b) ρ (asNumber a' b):=
 λ_=>.inr ⟨.number h,λ_ _ _=>.ptr ⟨.inr ⟨rfl,rfl⟩,rfl,rfl⟩⟩
theorem VZ(t:TypeId)(x y:Value):movedNumber t x y=(underlying t>>=λd=>(if (match d with| .unsafePointer=>true|_=>false)=true then unsupported (.unsafePointer "arithmetic at a pointer's type") else pure ():Sem Unit)>>=λ_=>
  match x with
  | .pointer (some n)=>behindNumber n>>=λq=>Builtin.unsafeAdd_ #[] t #[.pointer (some q.1),y]>>=λz=>match z with
   | .pointer (some b)=>asNumber b q.2|v=>pure v
  |_=>Builtin.unsafeAdd_ #[] t #[x,y]):=by
 unfold movedNumber;refine congrArg (Bind.bind (underlying t)) (funext λd=>?_);cases d<;>rfl
theorem OQ(t:TypeId){x x' y y':Value}(h:Au F ρ x x')(k:Au F ρ y y'):AX T F N (QV F) (movedNumber t x y) ρ (movedNumber t x' y'):=by
 rw[VZ,VZ];refine (BL t).bind λρ₁ d d' l1 e=>?_;obtain⟨rfl,_⟩:=e;refine AX.bind (Q:=ET) ?_ λρ₂ _ _ l2 _=>?_
 ·split;exact λ_=>trivial;exact λ_=>rfl
 have h:=(h.mono l1).mono l2;have k:=(k.mono l1).mono l2;have other:AX T F N (QV F) (Builtin.unsafeAdd_ #[] t #[x,y]) ρ₂ (Builtin.unsafeAdd_ #[] t #[x',y']):=(V7 t h k).mono λ_ _ _ _ q=>q.rel
 cases h with
 |ptr ha=>
  refine (Gu ha).bind λρ₃ q q' l3 hq=>?_;refine (V7 t (.ptr hq.1) (k.mono l3)).bind λρ₄ z z' l4 hz=>?_;rw[<- hq.2];obtain⟨p,p',rfl,rfl,hp⟩:=hz;cases p<;>cases p'<;>first|exact hp.elim|exact λ_=>.flat rfl|exact pG hp _
 |flat hf=>
  (cases x<;>first|exact other|skip);rename_i a
  cases a with|none=>exact other|some _=>exact CU hf
 |tok hc ht=>
  exact aj (h:=.stuck _) rfl trivial
 |_=>exact other
end
end Go.Proofs.YtkkgcebhfghdnaaGreatDoor
