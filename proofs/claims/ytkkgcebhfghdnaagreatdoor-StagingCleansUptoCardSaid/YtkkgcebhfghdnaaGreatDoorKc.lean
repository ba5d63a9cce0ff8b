/- Part 3 of what that rests on; no condition. -/
import Derived.Test.YtkkgcebhfghdnaaGreatDoorKb
set_option maxRecDepth 100000
set_option maxHeartbeats 8000000
namespace Go.Proofs.YtkkgcebhfghdnaaGreatDoor
open Go Go.Conc
section
variable {T:Twin} {F:Fs} {N:Nat} {ρ:Rn} {α β γ:Type}
theorem Di{p:Option Addr}{x':Value}(h:Au F ρ (.pointer p) x'): ∃p',x'=.pointer p'/\QB ρ p p':=by
 cases h with
 |flat hf=>cases p with
  |none=>exact⟨none,rfl,trivial⟩|some _=>exact CU hf
 |ptr ha=>exact⟨some _,rfl,ha⟩
theorem V8(hN:T.P.globals.size<N){a b a' b':Addr}(h:RelA ρ a a')(k:RelA ρ b b'):AX T F N ET (Op.twoPlaces a b) ρ (Op.twoPlaces a' b'):=by
 intro hok;revert hok;unfold Op.twoPlaces;refine CV.bind λρ₁ p p' l1 e=>?_;obtain⟨rfl,rfl⟩:=e;have h:=h.mono l1;have k:=k.mono l1;intro hok;revert hok
 have key:AX T F N ET (do pure (<- byteOf a,<- byteOf b):Sem (Nat×Nat)) ρ₁ (do pure (<- byteOf a',<- byteOf b')):=by
  refine (J7 h).bind λρ₂ x x' l2 e=>?_;obtain rfl:x=x':=e;refine (J7 (k.mono l2)).bind λρ₃ y y' l3 e=>?_;obtain rfl:y=y':=e;exact λ_=>rfl
 intro hok;have e1:=RelA.beq hok h k
 have e2:decide (a.block≥T.P.globals.size)=decide (a'.block≥T.P.globals.size):=by
  by_cases hlt:a.block<N\/a'.block<N;rw[hok.low _ _ h.1 hlt];(have h1:a.block≥T.P.globals.size:=by omega);(have h2:a'.block≥T.P.globals.size:=by omega);simp[h1,h2]
 revert hok;simp only[bne,e1,e2];by_cases hc:(!(a'.block==b'.block) || decide (a'.block≥T.P.globals.size))=true;simp only[hc,if_true];exact λ_=>trivial;simp only[hc,if_false,Ak];exact key
theorem uV(hN:T.P.globals.size<N)(kd:IntKind){a b a' b':Addr}(h:RelA ρ a a')(k:RelA ρ b b'):AX T F N (QV F) (Op.addrSub kd a b) ρ (Op.addrSub kd a' b'):=
 (V8 hN h k).bind λρ₁ q q' _ e=>by obtain rfl:q=q':=e;exact λ_=>.flat rfl
theorem uX(hN:T.P.globals.size<N)(op:BinOp){a b a' b':Addr}(h:RelA ρ a a')(k:RelA ρ b b'):AX T F N (QV F) (Op.addrCmp op a b) ρ (Op.addrCmp op a' b'):=
 (V8 hN h k).bind λρ₁ q q' _ e=>by
  obtain rfl:q=q':=e;cases op<;>first|exact λ_=>.flat rfl|exact λ_=>trivial
theorem uY(kd:IntKind)(n:Int){a a':Addr}(h:RelA ρ a a'):AX T F N (QV F) (Op.addrMod kd a n) ρ (Op.addrMod kd a' n):=by
 unfold Op.addrMod;refine (Md h.1).bind λρ₁ x x' l1 e=>?_;obtain rfl:x=x':=e
 cases x with
 |none=>exact λ_=>trivial|some q=>
  obtain⟨e,c⟩:=q;simp only;refine (C9 e).bind λρ₂ i i' l2 e=>?_;obtain⟨rfl,_⟩:=e;split;exact λ_=>trivial;refine (J7 ((h.mono l1).mono l2)).bind λρ₃ y y' l3 e=>?_;obtain rfl:y=y':=e;exact λ_=>.flat rfl
theorem ABs(hN:T.P.globals.size<N){op:BinOp}{t:TypeId}(hq:op≠ .eql/\op≠ .neq)(ht:T.P.underlying t≠some .unsafePointer){x y x' y':Value}(h:Au F ρ x x')(k:Au F ρ y y'):
  AX T F N (QV F) (binOp op t x y) ρ (binOp op t x' y'):=by
 have two: ∀{a b a' b':Addr} (f f':Addr->Addr->Sem Value),RelA ρ a a'->RelA ρ b b'->(∀{ρ₁:Rn} {a b a' b':Addr},RelA ρ₁ a a'->RelA ρ₁ b b'->AX T F N (QV F) (f a b) ρ₁ (f' a' b'))->
   AX T F N (QV F) (do f (<- behindNumber a).1 (<- behindNumber b).1) ρ (do f' (<- behindNumber a').1 (<- behindNumber b').1):=by
  intro a b a' b' f f' ha hb hf;refine (Gu ha).bind λρ₁ q q' l1 e=>?_;refine (Gu (hb.mono l1)).bind λρ₂ s s' l2 e'=>?_;exact hf (e.1.mono l2) e'.1
 have mod: ∀{a a':Addr} (kd:IntKind) (n:Int),RelA ρ a a'->AX T F N (QV F) (do Op.addrMod kd (<- behindNumber a).1 n) ρ (do Op.addrMod kd (<- behindNumber a').1 n):=by
  intro a a' kd n ha;exact (Gu ha).bind λρ₁ q q' l1 e=>uY kd n e.1
 unfold binOp;split;all_goals try (exact λ_=>trivial)
 case h_1=>rw[BN h rfl,BN k rfl];exact jd _ _ _ _ _
 case h_2=>rw[BN h rfl,BN k rfl];exact jd _ _ _ _ _
 case h_3=>
  rw[BN h rfl,BN k rfl];rename_i k₁ a k₂ b n1 n2;by_cases hk:k₁=k₂
  ·subst hk
   cases op<;>first
    |exact absurd rfl hq.1|exact absurd rfl hq.2|exact absurd rfl (n1 _ _ _ _ rfl rfl)|exact absurd rfl (n2 _ _ _ _ rfl rfl)|(simp only[ne_eq,not_true_eq_false,if_false];first|exact yz _ _ _ _|exact λ_=>.flat rfl|exact λ_=>trivial)
  simp only[ne_eq,hk,not_false_eq_true,if_true];exact λ_=>trivial
 case h_4=>cases h with|flat hf=>exact CU hf
 case h_5=>cases h with|flat hf=>exact CU hf
 case h_6=>
  rw[BN h rfl,BN k rfl];cases op<;>first|exact absurd rfl hq.1|exact absurd rfl hq.2|exact pF _ _ _
 case h_7=>exact absurd rfl hq.1
 case h_8=>exact absurd rfl hq.2
 case h_9=>
  obtain⟨p',rfl,hp⟩:=Di h;rw[BN k rfl];refine (BL t).bind λρ₁ d d' l1 e=>?_;obtain⟨rfl,hd⟩:=e;cases d<;>first|exact absurd hd ht|exact OQ t (h.mono l1) (.flat rfl)
 case h_10=>
  obtain⟨p',rfl,hp⟩:=Di k;rw[BN h rfl];exact OQ t k (.flat rfl)
 case h_11=>
  obtain⟨p',rfl,hp⟩:=Di h;rw[BN k rfl];exact OQ t h (.flat rfl)
 case h_12=>
  obtain⟨p',rfl,hp⟩:=Di h;obtain⟨q',rfl,hq⟩:=Di k
  cases p' with
  |none=>exact hp.elim
  |some a=>cases q' with
   |none=>exact hq.elim|some b=>exact two _ _ hp hq (λh k=>uV hN _ h k)
 case h_13|h_14|h_15|h_16=>
  obtain⟨p',rfl,hp⟩:=Di h;obtain⟨q',rfl,hq⟩:=Di k
  cases p' with
  |none=>exact hp.elim
  |some a=>cases q' with
   |none=>exact hq.elim|some b=>exact two _ _ hp hq (λh k=>uX hN _ h k)
 case h_17|h_18=>
  obtain⟨p',rfl,hp⟩:=Di h;rw[BN k rfl]
  cases p' with|none=>exact hp.elim|some a=>exact mod _ _ hp
 case h_19=>
  obtain⟨p',rfl,hp⟩:=Di k;rw[BN h rfl]
  cases p' with|none=>exact hp.elim|some a=>exact mod _ _ hp
def Ha (P:Program) (t:TypeId):Bool:=
 match P.underlying t with|some .bool|some .string=>true|some (.int _)=>true|some (.pointer _)=>true|_=>false
def Jj (P:Program) (t:TypeId) (v:Value):Bool:=
 match P.underlying t,v with|some (.pointer _),.pointer none=>true|some (.slice _),.slice none _ _=>true|some (.map _ _),.map none=>true|some (.func _ _ _),.nilFunc=>true|some (.interface _),.nilIface=>true|_,_=>false
end
section
variable {T:Twin} {F:Fs} {N:Nat} {ρ:Rn} {α β γ:Type}
theorem SB{t:TypeId}{y:Value}(h:Jj T.P t y=true):flat y=true:=by
 unfold Jj at h;split at h<;>first|rfl|cases h
theorem V9{a a':Addr}(h:RelA ρ a a'):AX T F N ET (stringish a) ρ (stringish a'):=by
 unfold stringish;refine (SA h).bind λρ₁ x y l1 e=>?_;obtain rfl:x=y:=e;cases x
 ·simp only[Ak,if_false];refine (Md (RelA.mono l1 h).1).bind λρ₂ x y l2 e=>?_;obtain rfl:x=y:=e
  cases x with|none=>exact λ_=>rfl|some q=>exact SA (show RelA ρ₂ {block:=a.block,off:=q.2} {block:=a'.block,off:=q.2} from ⟨l2.r _ _ (l1.r _ _ h.1),rfl,rfl⟩)
 exact λ_=>rfl
theorem pI{a b a' b':Addr}(h:RelA ρ a a')(k:RelA ρ b b'):AX T F N ET (mayBeOne a b) ρ (mayBeOne a' b'):=by
 unfold mayBeOne;refine (V9 h).bind λρ₁ x y l1 e=>?_;obtain rfl:x=y:=e;refine (V9 (RelA.mono l1 k)).bind λρ₂ u v l2 e=>?_;obtain rfl:u=v:=e
 have hn: ∀{ρ':Rn} {c c':Addr},RelA ρ' c c'->AX T F N ET (do pure ((<- shape c.block) matches some (_,0)):Sem Bool) ρ' (do pure ((<- shape c'.block) matches some (_,0))):=by
  intro ρ' c c' hc;exact (Md hc.1).bind λ_ p q _ e=>by obtain rfl:p=q:=e;exact λ_=>rfl
 refine (hn ((RelA.mono l1 h).mono l2)).bind λρ₃ p q l3 e=>?_;obtain rfl:p=q:=e;refine (hn (((RelA.mono l1 k).mono l2).mono l3)).bind λρ₄ r s l4 e=>?_;obtain rfl:r=s:=e;exact λ_=>rfl
theorem pJ{a b a' b':Addr}(h:RelA ρ a a')(k:RelA ρ b b'):AX T F N ET (sameAddr a b) ρ (sameAddr a' b'):=by
 unfold sameAddr;intro hok;have e1:=RelA.beq hok h k;have e2:=RelA.beq' hok h k;revert hok;simp only[e1,e2];by_cases hc:(a'.block==b'.block)=true
 ·simp only[hc,if_true];exact λ_=>rfl
 simp only[hc,if_false,Ak];refine (SA h).bind λρ₁ x y l1 e=>?_;obtain rfl:x=y:=e;refine (SA (RelA.mono l1 k)).bind λρ₂ u v l2 e=>?_;obtain rfl:u=v:=e;by_cases hf:(x && u)=true
 ·simp only[hf,if_true];exact λ_=>trivial
 simp only[hf,if_false,Ak];have h2:=(RelA.mono l1 h).mono l2;have k2:=(RelA.mono l1 k).mono l2;refine (V6 h2).bind λρ₃ _ _ l3 _=>?_;refine (V6 (k2.mono l3)).bind λρ₄ _ _ l4 _=>?_;refine (pI ((h2.mono l3).mono l4) ((k2.mono l3).mono l4)).bind λρ₅ p q l5 e=>?_;obtain rfl:p=q:=e;(cases p);exact λ_=>rfl;exact (JJ _).bind λ_ r s _ e=>by obtain rfl:r=s:=e;exact λ_=>rfl
theorem jf(hN:T.P.globals.size<N){t:TypeId}{x y x' y':Value}(hp:Ha T.P t=true\/Jj T.P t y=true\/Jj T.P t x=true)(h:Au F ρ x x')(k:Au F ρ y y'):
  AX T F N ET (Op.equal t x y) ρ (Op.equal t x' y'):=by
 have e0:Op.maxDepth=9999+1:=rfl;unfold Op.equal;rw[e0];unfold Op.equalIn;refine (BL t).bind λρ₁ d d' l1 e=>?_;obtain⟨rfl,hd⟩:=e;have h:=h.mono l1;have k:=k.mono l1;rcases hp with hp|hp|hp
 ·unfold Ha at hp;rw[hd] at hp;cases d<;>first|exact CU hp|skip
  ·
   cases h with
   |flat hf=>cases x<;>first
     |exact λ_=>trivial
     |(cases k with
      |flat hk=>cases y<;>first|exact λ_=>rfl|exact λ_=>trivial
      |_=>exact λ_=>trivial)
   |_=>exact λ_=>trivial
  ·
   split;(all_goals try (exact λ_=>trivial));all_goals try contradiction
   case h_2=>
    rw[BN h rfl,BN k rfl];simp only;split;exact λ_=>rfl;exact λ_=>trivial
   case h_3=>
    obtain⟨p',rfl,hp⟩:=Di h;rw[BN k rfl]
    cases p' with|none=>exact hp.elim|some a=>exact λ_=>rfl
   case h_4=>
    obtain⟨p',rfl,hp⟩:=Di k;rw[BN h rfl]
    cases p' with|none=>exact hp.elim|some a=>exact λ_=>rfl
   case h_5=>
    obtain⟨p',rfl,hp⟩:=Di h;obtain⟨q',rfl,hq⟩:=Di k
    cases p' with
    |none=>exact hp.elim
    |some a'=>cases q' with
     |none=>exact hq.elim|some b'=>
      refine (Gu hp).bind λρ₂ z z' l2 e=>?_;refine (Gu (RelA.mono l2 hq)).bind λρ₃ u u' l3 e'=>?_;have ha:=e.1.mono l3;have hb:=e'.1;refine CV.bind λρ₄ p p' l4 e=>?_;obtain⟨rfl,rfl⟩:=e;have ha:=ha.mono l4;have hb:=hb.mono l4;intro hok;have e1:=RelA.beq hok ha hb;have e2:=RelA.beq' hok ha hb
      have e3:decide (z.1.block<T.P.globals.size)=decide (z'.1.block<T.P.globals.size):=by
       by_cases hlt:z.1.block<N\/z'.1.block<N;rw[hok.low _ _ ha.1 hlt];(have h1: ¬z.1.block<T.P.globals.size:=by omega);(have h2: ¬z'.1.block<T.P.globals.size:=by omega);simp[h1,h2]
      revert hok;simp only[e1,e2,e3];by_cases hc:(z'.1.block==u'.1.block && decide (z'.1.block<T.P.globals.size))=true
      ·simp only[hc,if_true];refine (J7 ha).bind λρ₅ x x' l5 e=>?_;obtain rfl:x=x':=e;refine (J7 (hb.mono l5)).bind λρ₆ y y' l6 e=>?_;obtain rfl:y=y':=e;exact λ_=>rfl
      simp only[hc,if_false,Ak];refine (C9 t).bind λρ₅ x x' l5 e=>?_;obtain⟨rfl,_⟩:=e;split
      ·split;exact λ_=>rfl;exact λ_=>trivial
      exact λ_=>trivial
  ·
   cases h with
   |flat hf=>cases x<;>first
     |exact λ_=>trivial
     |(cases k with
      |flat hk=>cases y<;>first|exact λ_=>rfl|exact λ_=>trivial
      |_=>exact λ_=>trivial)
   |_=>exact λ_=>trivial
  ·
   rename_i elem;by_cases hx: ¬ ∃p,x=.pointer p
   ·cases x<;>first|exact λ_=>trivial|exact absurd ⟨_,rfl⟩ hx
   have hx:=LP.1 hx;by_cases hy: ¬ ∃p,y=.pointer p
   ·obtain⟨p,rfl⟩:=hx;cases p<;>cases y<;>first|exact λ_=>trivial|exact absurd ⟨_,rfl⟩ hy
   have hy:=LP.1 hy;obtain⟨p,rfl⟩:=hx;obtain⟨q,rfl⟩:=hy;obtain⟨p',rfl,hp'⟩:=Di h;obtain⟨q',rfl,hq'⟩:=Di k;(rcases p with _|a<;>rcases p' with _|a'<;>first|exact hp'.elim|skip);(all_goals rcases q with _|b<;>rcases q' with _|b'<;>first|exact hq'.elim|exact λ_=>rfl|skip);refine (EO elem).bind λρ₂ z z' l2 e=>?_;obtain rfl:z=z':=e;have ha:RelA ρ₂ a a':=RelA.mono l2 hp';have hb:RelA ρ₂ b b':=RelA.mono l2 hq';by_cases hz:z≠0
   ·simp only[hz,if_true,ne_eq,not_false_eq_true];exact pJ ha hb
   simp only[hz,if_false,ne_eq];intro hok;have e2:=RelA.beq' hok ha hb;revert hok;simp only[e2];split;exact λ_=>rfl;exact (JJ _).bind λ_ u v _ e=>by obtain rfl:u=v:=e;exact λ_=>rfl
 ·
  have hk:flat y=true:=SB hp;rw[BN k hk];clear k hk;unfold Jj at hp;rw[hd] at hp;clear hd;split at hp;all_goals try (cases hp;done)
  all_goals
   rename_i heq;(cases heq);clear hp
   cases h<;>first
    |exact λ_=>rfl|exact λ_=>trivial|(rename_i hm;cases x'<;>first|exact CU hm|exact λ_=>rfl|exact λ_=>trivial)
    |(rename_i hf
      cases x<;>first|exact λ_=>rfl|exact λ_=>trivial|(rename_i a;cases a<;>first|exact λ_=>rfl|exact λ_=>trivial|exact CU hf)|(rename_i a _ _;cases a<;>first|exact λ_=>rfl|exact λ_=>trivial|exact CU hf))
 ·
  have hk:flat x=true:=SB hp;rw[BN h hk];clear h hk;unfold Jj at hp;rw[hd] at hp;clear hd;split at hp;all_goals try (cases hp;done)
  all_goals
   rename_i heq;(cases heq);clear hp
   cases k<;>first
    |exact λ_=>rfl|exact λ_=>trivial|(rename_i hm;cases y'<;>first|exact CU hm|exact λ_=>rfl|exact λ_=>trivial)
    |(rename_i hf
      cases y<;>first|exact λ_=>rfl|exact λ_=>trivial|(rename_i a;cases a<;>first|exact λ_=>rfl|exact λ_=>trivial|exact CU hf)|(rename_i a _ _;cases a<;>first|exact λ_=>rfl|exact λ_=>trivial|exact CU hf))
end
section
variable {T:Twin} {F:Fs} {N:Nat} {ρ:Rn} {α β γ:Type}
theorem Qa{x x':Value}(h:Au F ρ x x'):(∃p,x=.agg p)↔∃p,x'=.agg p:=by
 cases h with
 |tok _ ht=>
  constructor
  ·rintro⟨p,e⟩;cases e
  rintro⟨p,e⟩;subst e;cases ht
 |agg _ _=>exact⟨λ_=>⟨_,rfl⟩,λ_=>⟨_,rfl⟩⟩|flat _=>exact Ky|mf _ hm=>
  constructor
  ·rintro⟨p,e⟩;cases e
  rintro⟨p,e⟩;subst e;cases hm
 |_=>
  constructor
  ·rintro⟨p,e⟩;cases e
  rintro⟨p,e⟩;cases e
theorem Uf{x x':Value}(h:Au F ρ x x'):x=.nilIface↔x'=.nilIface:=by
 cases h with
 |tok _ ht=>
  constructor;intro e;cases e;intro e;subst e;cases ht
 |flat _=>exact Ky|mf _ hm=>
  constructor;intro e;cases e;intro e;subst e;cases hm
 |_=>
  constructor;intro e;cases e;intro e;cases e
theorem Lp{x x':Value}(h:Au F ρ x x')(hf:flat x'=true):x=x':=by
 cases h with
 |tok hc ht hp=>clear hp;cases x'<;>first|exact CU ht|exact CU hf|(rename_i a _ _;cases a<;>first|exact CU ht|exact CU hf)|(rename_i a;cases a<;>first|exact CU ht|exact CU hf)
 |flat _=>rfl|mf _ hm=>cases x'<;>first|exact CU hm|exact CU hf
 |_=>exact CU hf
theorem Q9{P:Program}{t:TypeId}(hp:Ha P t=true):P.eqGuardType P.depth t=false:=by
 have e:P.depth=(2*(P.types.size+Made.depth)+1)+1:=rfl;rw[e];unfold Program.eqGuardType;unfold Ha at hp
 cases hd:P.underlying t with|none=>rfl|some d=>rw[hd] at hp;cases d<;>first|rfl|exact CU hp
theorem ZP(op:BinOp){t:TypeId}(o₁ o₂:Operand){x y x' y':Value}(hp:(op=.eql\/op=.neq)->Ha T.P t=true\/Jj T.P t y=true\/Jj T.P t x=true)(h:Au F ρ x x')(k:Au F ρ y y'):
  AX T F N ET (eqGuard op t o₁ o₂ x y) ρ (eqGuard op t o₁ o₂ x' y'):=by
 by_cases hq: ¬(op=.eql\/op=.neq)
 ·(have: ∀a b,eqGuard op t o₁ o₂ a b=pure ():=λa b=>by cases op<;>first|rfl|exact absurd (.inl rfl) hq|exact absurd (.inr rfl) hq);rw[this,this];exact λ_=>rfl
 have hq:=LP.1 hq;have hp:=hp hq;(have e0:eqGuard op t o₁ o₂=eqGuard .eql t o₁ o₂:=by rcases hq with rfl|rfl<;>rfl);rw[e0];by_cases h1:x=.nilIface/\y=.nilIface
 ·obtain⟨rfl,rfl⟩:=h1;rw[BN h rfl,BN k rfl];simp only[eqGuard,Kz,Ak,if_false]
  have g:AX T F N ET (Op.eqGuardIn Op.maxDepth t .nilIface .nilIface) ρ (Op.eqGuardIn Op.maxDepth t .nilIface .nilIface):=by
   have e0:Op.maxDepth=9999+1:=rfl;rw[e0];unfold Op.eqGuardIn;refine (BL t).bind λρ₁ d d' l1 e=>?_;obtain⟨rfl,_⟩:=e;cases d<;>exact λ_=>rfl
  cases o₁<;>cases o₂<;>first
   |exact λ_=>rfl
   |(refine g.bind λρ₁ a b _ e=>?_
     obtain rfl:a=b:=e;(cases a);exact λ_=>rfl
     exact λ_=>trivial)
 by_cases h2:(∃p,x=.agg p)/\∃p,y=.agg p
 ·obtain⟨⟨p,rfl⟩,⟨q,rfl⟩⟩:=h2;obtain⟨p',rfl⟩:=(Qa h).1 ⟨_,rfl⟩;obtain⟨q',rfl⟩:=(Qa k).1 ⟨_,rfl⟩
  have hp:Ha T.P t=true:=by
   rcases hp with hp|hp|hp;exact hp;exact absurd (show false=true from SB hp) AY;exact absurd (show false=true from SB hp) AY
  simp only[eqGuard,Kz,Ak,if_false];refine CV.bind λρ₁ p p' l1 e=>?_;obtain⟨rfl,rfl⟩:=e;refine CV.bind λρ₂ p p' l1 e=>?_;obtain⟨rfl,rfl⟩:=e;have h1:T.v.eqGuardType T.v.depth t=false:=Q9 (P:=T.v) hp;have h2:T.P.eqGuardType T.P.depth t=false:=Q9 hp;simp only[h1,h2,aX,if_true];exact λ_=>rfl
 have h1': ¬(x'=.nilIface/\y'=.nilIface):=λe=>h1 ⟨(Uf h).2 e.1,(Uf k).2 e.2⟩;have h2': ¬((∃p,x'=.agg p)/\∃p,y'=.agg p):=λe=>h2 ⟨(Qa h).2 e.1,(Qa k).2 e.2⟩
 have key: ∀a b:Value,¬(a=.nilIface/\b=.nilIface)->¬((∃p,a=.agg p)/\∃p,b=.agg p)->eqGuard .eql t o₁ o₂ a b=pure ():=by
  intro a b g1 g2;simp only[eqGuard,Kz,Ak,if_false];split;exact absurd ⟨rfl,rfl⟩ g1;exact absurd ⟨⟨_,rfl⟩,⟨_,rfl⟩⟩ g2;rfl
 rw[key _ _ h1 h2,key _ _ h1' h2'];exact λ_=>rfl
theorem zA{t:TypeId}{b:Nat}{y:Value}(hp:Ha T.P t=true\/Jj T.P t y=true\/Jj T.P t (.chan (some b))=true):CZ T (Op.equal t (.chan (some b)) y):=by
 have e0:Op.maxDepth=9999+1:=rfl;unfold Op.equal;rw[e0];unfold Op.equalIn;show CZ T ((match T.P.underlying t with|some d=>pure d|none=>stuck "no such type" :Sem TypeDesc).bind _)
 cases hd:T.P.underlying t with
 |none=>exact trivial|some d=>
  rcases hp with hp|hp|hp
  ·unfold Ha at hp;rw[hd] at hp;cases d<;>first|exact CU hp|exact trivial|(cases y<;>first|exact trivial|(rename_i a;cases a<;>exact trivial))
  ·unfold Jj at hp;rw[hd] at hp;split at hp;all_goals try (cases hp;done)
   all_goals
    rename_i heq;(cases heq);exact trivial
  unfold Jj at hp;rw[hd] at hp;cases d<;>exact CU hp
theorem uZ(hN:T.P.globals.size<N){op:BinOp}{t:TypeId}(hq:op=.eql\/op=.neq){x y x' y':Value}(hp:Ha T.P t=true\/Jj T.P t y=true\/Jj T.P t x=true)(h:Au F ρ x x')(k:Au F ρ y y'):
  AX T F N (QV F) (binOp op t x y) ρ (binOp op t x' y'):=by
 have heq:=jf hN hp h k
 have nof: ∀{a a':Value},(∀b,a≠ .chan (some b))->Au F ρ a a'->(∀k n,a'≠ .float k n)/\(∀k n m,a'≠ .complex k n m):=by
  intro a a' hna ha;constructor
  ·rintro k n rfl
   cases ha with|flat hf=>exact CU hf|tok _ ht=>exact hna _ rfl|mf _ hm=>cases hm
  rintro k n m rfl
  cases ha with|flat hf=>exact CU hf|tok _ ht=>exact hna _ rfl|mf _ hm=>cases hm
 have key: ∀a b:Value,(∀k₁ n k₂ m,¬(a=.int k₁ n/\b=.int k₂ m))->(∀n m,¬(a=.string n/\b=.string m))->(∀k n,a≠ .float k n)->(∀k n m,a≠ .complex k n m)->
   binOp .eql t a b=(do pure (.bool (<- Op.equal t a b)))/\binOp .neq t a b=(do pure (.bool (!(<- Op.equal t a b)))):=by
  intro a b g1 g2 g3 g4;constructor
  ·unfold binOp
   split<;>first
    |rfl|(rename_i e;cases e;done)|exact absurd ⟨rfl,rfl⟩ (g1 _ _ _ _)|exact absurd rfl (g3 _ _)|exact absurd rfl (g4 _ _ _)|exact absurd ⟨rfl,rfl⟩ (g2 _ _)|contradiction|simp_all
  unfold binOp
  split<;>first
   |rfl|exact absurd ⟨rfl,rfl⟩ (g1 _ _ _ _)|exact absurd rfl (g3 _ _)|exact absurd rfl (g4 _ _ _)|exact absurd ⟨rfl,rfl⟩ (g2 _ _)|contradiction|simp_all
 by_cases h1: ∃k₁ n k₂ m,x=.int k₁ n/\y=.int k₂ m
 ·obtain⟨k₁,a,k₂,b,rfl,rfl⟩:=h1;rw[BN h rfl,BN k rfl];rcases hq with rfl|rfl
  ·simp only[binOp];split;exact λ_=>trivial;exact λ_=>.flat rfl
  simp only[binOp];split;exact λ_=>trivial;exact λ_=>.flat rfl
 by_cases h2: ∃n m,x=.string n/\y=.string m
 ·obtain⟨a,b,rfl,rfl⟩:=h2;rw[BN h rfl,BN k rfl];rcases hq with rfl|rfl;exact λ_=>.flat rfl;exact λ_=>.flat rfl
 by_cases hch: ∃b,x=.chan (some b)
 ·obtain⟨b,rfl⟩:=hch;have e1:=key (.chan (some b)) y (λ_ _ _ _ e=>by cases e.1) (λ_ _ e=>by cases e.1) (λ_ _ e=>by cases e) (λ_ _ _ e=>by cases e);rcases hq with rfl|rfl;rw[e1.1];exact Qv (zA hp).bind _;rw[e1.2];exact Qv (zA hp).bind _
 have nx:(∀k n,x≠ .float k n)/\(∀k n m,x≠ .complex k n m):=by
  constructor
  ·rintro k n rfl
   cases h with|flat hf=>exact CU hf
  rintro k n m rfl
  cases h with|flat hf=>exact CU hf
 have e1:=key x y (λa b c d e=>h1 ⟨a,b,c,d,e⟩) (λa b e=>h2 ⟨a,b,e⟩) nx.1 nx.2
 have e2:=key x' y' (λa b c d e=>h1 ⟨a,b,c,d,by obtain⟨rfl,rfl⟩:=e;exact⟨Lp h rfl,Lp k rfl⟩⟩)
  (λa b e=>h2 ⟨a,b,by obtain⟨rfl,rfl⟩:=e;exact⟨Lp h rfl,Lp k rfl⟩⟩) (nof (λb e=>hch ⟨b,e⟩) h).1 (nof (λb e=>hch ⟨b,e⟩) h).2
 rcases hq with rfl|rfl
 ·rw[e1.1,e2.1];exact heq.bind λρ₁ a b _ e=>by obtain rfl:a=b:=e;exact λ_=>.flat rfl
 rw[e1.2,e2.2];exact heq.bind λρ₁ a b _ e=>by obtain rfl:a=b:=e;exact λ_=>.flat rfl
end
theorem Vo{info:TypeId->Option TypeInfo}{fs:Array Field}{i:TypeInfo}(h:Made.reckonStruct info fs=some i):i.methods= #[]:=by
 unfold Made.reckonStruct at h;simp only[Option.bind_eq_bind,Fh,Option.pure_def] at h;obtain⟨q,_,h⟩:=h;split at h
 all_goals
  simp only[BD] at h;rw[<- h]
theorem gq{info:TypeId->Option TypeInfo}{d:TypeDesc}{i:TypeInfo}(h:Made.reckon info d=some i):i.methods= #[]:=by
 unfold Made.reckon at h;cases d
 case struct fs=>exact Vo h
 case pointer el=>
  simp only[Option.bind_eq_bind,Fh,Option.pure_def] at h;obtain⟨a,_,h⟩:=h;split at h;cases h
  ·split at h;(cases h);simp only[Fh,BD] at h;obtain⟨_,_,h⟩:=h;rw[<- h];rfl
  simp only[Fh,BD] at h;obtain⟨_,_,h⟩:=h;rw[<- h];rfl
 case slice=>simp only[Option.bind_eq_bind,Fh,Option.pure_def,BD] at h;obtain⟨_,_,_,_,h⟩:=h;rw[<- h];rfl
 case array=>simp only[Option.bind_eq_bind,Fh,Option.pure_def,BD] at h;obtain⟨_,_,_,_,h⟩:=h;rw[<- h]
 case map=>simp only[Option.bind_eq_bind,Fh,Option.pure_def,BD] at h;obtain⟨_,_,_,_,_,_,_,_,h⟩:=h;rw[<- h];rfl
 case chan=>simp only[Option.bind_eq_bind,Fh,Option.pure_def,BD] at h;obtain⟨_,_,_,_,h⟩:=h;rw[<- h];rfl
 case func=>simp only[Option.bind_eq_bind,Fh,Option.pure_def,BD] at h;obtain⟨_,_,h⟩:=h;rw[<- h];rfl
 all_goals cases h
theorem pK{T:Tables}: ∀{n:Nat} {t:TypeId} {i:TypeInfo},¬t<T.types.size->Made.infoAt T n t=some i->i.methods= #[]
 |0,_,_,_,h=>by cases h
 |n+1,t,i,ht,h=>by
  unfold Made.infoAt at h;rw[if_neg ht] at h;obtain⟨d,_,h⟩:=Fh.1 h;exact gq h
theorem pM{T:Tables}{t:TypeId}{i:TypeInfo}(ht: ¬t<T.types.size)(h:T.info? t=some i):i.methods= #[]:=by
 unfold Tables.info? at h;rw[if_neg ht] at h;exact pK ht h
def Qb (P:Program) (fb:Fb) (name:String):Bool:=
 (List.range P.types.size).all λt=>
  match P.types[t]? with
  |some i=>match i.methods.find? (·.name==name) with
   |some m=>m.path.all (λs=> !s.deref) && (match m.func with|some (f,ptr)=>((fb f && (fb.a f).isNone) || fb.e f) && (ptr || (m.path.isEmpty && !(match P.underlying t with|some (.pointer _)=>true|_=>false)))|none=>false)
   |none=>true
  |none=>true
section
variable {T:Twin} {F:Fs} {N:Nat} {ρ:Rn} {α β γ:Type}
def Jo (T:Twin) (F:Fs) (N:Nat) (f:Array Value->Sem Value):Prop:=∀{ρ:Rn} {p p':Array Value},Ar F ρ p p'->AX T F N (QV F) (f p) ρ (f p')
def zB (fb:Fb) (f:FuncId):Prop:=(fb f=true/\fb.a f=none)\/fb.e f=true
theorem zC{fb:Fb}{name:String}(h:Qb T.P fb name=true){t:TypeId}{i:TypeInfo}{m:Method}(hi:T.P.info? t=some i)(hm:i.methods.find? (·.name==name)=some m):
  (∀s∈m.path.toList,s.deref=false)/\∃f ptr,m.func=some (f,ptr)/\zB fb f/\(ptr=false->m.path.toList=[]/\∀e,T.P.underlying t≠some (.pointer e)):=by
 by_cases ht:t<T.P.types.size
 ·have h1:T.P.types[t]? =some i:=by
   (have:T.P.info? t=T.P.types[t]? :=by unfold Tables.info?;rw[if_pos ht]);rw[<- this];exact hi
  have h2:=CO.1 h t (GG.2 ht);rw[h1] at h2;simp only[hm,BF] at h2;obtain⟨hp,h3⟩:=h2;refine⟨λs hs=>by have:=F6.1 hp s (LQ.1 hs);simpa using this,?_⟩
  cases hf:m.func with
  |none=>rw[hf] at h3;cases h3|some q=>
   obtain⟨f,ptr⟩:=q;rw[hf] at h3;simp only[BF,GH] at h3;refine⟨f,ptr,rfl,h3.1.imp (λh=>⟨h.1,by simpa using h.2⟩) id,λe=>?_⟩;rcases h3.2 with h4|h4;rw[e] at h4;cases h4;refine⟨by simpa[Array.isEmpty_iff] using h4.1,λel hel=>?_⟩;rw[hel] at h4;cases h4.2
 have:=pM ht hi;rw[this] at hm;simp at hm
theorem dh: ∀(l:List FieldStep) (t:TypeId) {x x':Value} {ρ:Rn},(∀s∈l,s.deref=false)->Au F ρ x x'->
  AX T F N (λρ (a b:TypeId×Place)=>a.1=b.1/\(l=[]->a.1=t)/\∃v v',a.2=.val v/\b.2=.val v'/\Au F ρ v v') (follow l t (.val x)) ρ (follow l t (.val x'))
 | [],t,x,x',ρ,_,h=>λ_=>⟨rfl,λ_=>rfl,_,_,rfl,rfl,h⟩
 |s::rest,t,x,x',ρ,hl,h=>by
  unfold follow;refine (BL s.struct).bind λρ₁ d d' l1 e=>?_;obtain⟨rfl,hd⟩:=e;(cases d<;>first|exact λ_=>trivial|skip);rename_i fields
  cases hfi:fields[s.index]? with
  |none=>simp only[hfi];exact λ_=>trivial|some f=>
   simp only[hfi,hl s (BZ ..),Ak,if_false]
   have key: ∀{p p':Array Value},Ar F ρ₁ p p'->AX T F N (λρ (a b:TypeId×Place)=>a.1=b.1/\(s::rest=[]->a.1=t)/\∃v v',a.2=.val v/\b.2=.val v'/\Au F ρ v v') (do follow rest f.type (.val (<- part f.type p f.offset))) ρ₁ (do follow rest f.type (.val (<- part f.type p' f.offset))):=λhp=>
    (qY f.type hp f.offset).bind λρ₂ v v' l2 hv=>(dh rest f.type (λs hs=>hl s (Aj _ hs)) hv).mono λ_ _ _ _ hq=>⟨hq.1,λe=>absurd e AY,hq.2.2⟩
   have h:=h.mono l1
   cases h with
   |flat hf=>cases x<;>first|exact λ_=>trivial|exact CU hf
   |agg h1 h2=>exact key ⟨h1,h2⟩|_=>exact λ_=>trivial
theorem di{fb:Fb}{name:String}(hm:Qb T.P fb name=true): ∀(n:Nat) (t:TypeId) {x x':Value} {ρ:Rn},Au F ρ x x'->
  AX T F N (λρ a b=>a.1=b.1/\zB fb a.1/\Au F ρ a.2 b.2) (method n t x name) ρ (method n t x' name)
 |0,t,x,x',ρ,h=>λ_=>trivial
 |n+1,t,x,x',ρ,h=>by
  unfold method;refine (C9 t).bind λρ₁ i i' l1 e=>?_;obtain⟨rfl,hi⟩:=e
  cases hf:i.methods.find? (·.name==name) with
  |none=>exact λ_=>trivial|some m=>
   obtain⟨hp,f,ptr,hfn,hfb,hpt⟩:=zC hm hi hf;simp only[hfn];refine (dh m.path.toList t hp (h.mono l1)).bind λρ₂ a b l2 hq=>?_;obtain⟨xt,y⟩:=a;obtain⟨xt',y'⟩:=b;obtain⟨e1,e2,v,v',e3,e4,hx⟩:=hq;simp only at e1 e2 e3 e4;subst e1 e3 e4;refine AX.bind (Q:=QV F) ?_ λρ₃ a b l2 hab=>λ_=>⟨rfl,hfb,hab⟩;unfold receiverAt;refine (BL xt).bind λρ₃ d d' l2 e=>?_;obtain⟨rfl,hd⟩:=e
   cases ptr with
   |true=>
    cases d<;>first|exact λ_=>trivial|exact λ_=>hx.mono l2
   |false=>
    obtain⟨hp0,this⟩:=hpt rfl;rw[e2 hp0] at hd;cases d<;>first|exact absurd hd (this _)|exact λ_=>hx.mono l2
end
def WC (P:Program) (t:TypeId):Bool:=
 match P.underlying t with|some .string|some (.int _)|some (.pointer _)=>true|_=>false
def WE (P:Program) (t:TypeId):Bool:=
 match P.underlying t with|some (.map k e)=>WC P k && Gt P e|_=>false
theorem WC.plain{P:Program}{t:TypeId}(h:WC P t=true):Ha P t=true:=by
 unfold WC at h;unfold Ha
 cases hd:P.underlying t with|none=>rw[hd] at h;cases h|some d=>rw[hd] at h;cases d<;>first|rfl|exact CU h
section
variable {T:Twin} {F:Fs} {N:Nat} {ρ:Rn} {α β γ:Type}
theorem O7(b b':Bool){t:TypeId}(h:WC T.P t=true)(x x':Value):AX T F N ET (Instr.checkKey b 10000 t x) ρ (Instr.checkKey b' 10000 t x'):=by
 have e0:(10000:Nat)=9999+1:=rfl;rw[e0];unfold Instr.checkKey;refine (BL t).bind λρ₁ d d' l1 e=>?_;obtain⟨rfl,hd⟩:=e;unfold WC at h;rw[hd] at h;cases d<;>first|exact CU h|exact λ_=>rfl
def QK (F:Fs) (ρ:Rn) (x y:Option (Nat×Value)):Prop:=match x,y with
 |some p,some q=>p.1=q.1/\Au F ρ p.2 q.2|none,none=>True|_,_=>False
theorem O8{x x':Value}(h:Au F ρ x x'):flat x'=true->flat x=true:=λhf=>by rw[Lp h hf];exact hf
theorem PY{d:TypeDesc}{x y:Value}(h:flat x=false\/flat y=false):Instr.sameNow d x y=none:=by
 unfold Instr.sameNow;split<;>first|rfl|(rcases h with h|h<;>cases h)
theorem uf{d:TypeDesc}{x x' y y':Value}(h:Au F ρ x x')(k:Au F ρ y y'):Instr.sameNow d x y=Instr.sameNow d x' y':=by
 by_cases hx:flat x=true
 ·by_cases hy:flat y=true;rw[BN h hx,BN k hy];rw[PY (.inr (by simpa using hy)),PY (.inr (by cases e:flat y' with|false=>rfl|true=>exact absurd (O8 k e) hy))]
 rw[PY (.inl (by simpa using hx)),PY (.inl (by cases e:flat x' with|false=>rfl|true=>exact absurd (O8 h e) hx))]
def jg (x y:Value):Prop:=flat x=true\/flat y=true\/∃p q,x=.pointer p/\y=.pointer q
def XO (F:Fs) (k:Value) (l:List MapEntry) (i:Nat) (ρ:Rn) (x y:Option (Nat×Value)):Prop:=QK F ρ x y/\∀p,x=some p->i<=p.1/\∃e,l[p.1 - i]? =some e/\jg k e.key
theorem XO.cons{k:Value}{e:MapEntry}{l:List MapEntry}{i:Nat}{x y:Option (Nat×Value)}(h:XO F k l (i+1) ρ x y):XO F k (e::l) i ρ x y:=
 ⟨h.1,λp hp=>by
  obtain⟨h1,h2⟩:=h.2 p hp;refine⟨Ac,?_⟩;rw[show p.1 - i=p.1 - (i+1)+1 by omega]
  exact h2⟩
theorem ug{d:TypeDesc}{k k':Value}(hk:Au F ρ k k'): ∀{l l':List MapEntry},Ci (FK F ρ) l l'->∀i,
  (Instr.findNow d k l i=none/\Instr.findNow d k' l' i=none)\/∃r r',Instr.findNow d k l i=some r/\Instr.findNow d k' l' i=some r'/\XO F k l i ρ r r':=by
 intro l l' h
 induction h with
 |nil=>intro i;exact .inr ⟨none,none,rfl,rfl,trivial,λp hp=>by cases hp⟩
 | @cons e e' l l' ha _ ih=>
  intro i;unfold Instr.findNow;rw[<- uf hk ha.key]
  cases hn:Instr.sameNow d k e.key with
  |none=>exact .inl ⟨rfl,rfl⟩|some x=>
   cases x
   ·exact (ih (i+1)).imp id λ⟨r,r',h1,h2,h3⟩=>⟨r,r',h1,h2,h3.cons⟩
   refine .inr ⟨_,_,rfl,rfl,⟨rfl,ha.val⟩,λp hp=>?_⟩;(cases hp);refine⟨AP _,e,AY,.inl ?_⟩
   cases hf:flat k with|true=>rfl|false=>rw[PY (.inl hf)] at hn;cases hn
theorem zD{t:TypeId}(ht:Ha T.P t=true){x y:Value}(h: ¬jg x y):CZ T (Op.equal t x y):=by
 have e0:Op.maxDepth=9999+1:=rfl;unfold Op.equal;rw[e0];unfold Op.equalIn;show CZ T ((match T.P.underlying t with|some d=>pure d|none=>stuck "no such type" :Sem TypeDesc).bind _)
 cases hd:T.P.underlying t with
 |none=>exact trivial|some d=>
  unfold Ha at ht;rw[hd] at ht;(have h1:flat x=false:=by cases e:flat x with|false=>rfl|true=>exact absurd (.inl e) h);(have h2:flat y=false:=by cases e:flat y with|false=>rfl|true=>exact absurd (.inr (.inl e)) h);cases d<;>first|exact CU ht|skip
  all_goals
   cases x<;>first|exact absurd (show true=false from h1) AY|exact trivial|skip
  all_goals
   rename_i a;cases a<;>first|exact absurd (show true=false from h1) AY|skip
  all_goals
   cases y<;>first|exact absurd (show true=false from h2) AY|exact trivial|exact absurd (.inr (.inr ⟨_,_,rfl,rfl⟩)) h
theorem FK.mono{ρ':Rn}(h:ρ.le ρ'){e e':MapEntry}(k:FK F ρ e e'):FK F ρ' e e':=⟨k.key.mono h,k.val.mono h,k.born⟩
theorem gu(hN:T.P.globals.size<N){t:TypeId}(ht:Ha T.P t=true): ∀{l l':List MapEntry} {ρ:Rn} {k k':Value},Au F ρ k k'->Ci (FK F ρ) l l'->∀i,
  AX T F N (XO F k l i) (Instr.findAsking t k l i) ρ (Instr.findAsking t k' l' i):=by
 intro l
 induction l with
 |nil=>intro l' ρ k k' hk h i;cases h;exact λ_=>⟨trivial,λp hp=>by cases hp⟩
 |cons e l ih=>
  intro l' ρ k k' hk h i
  cases h with|cons ha hl=>
  unfold Instr.findAsking;by_cases hg:jg k e.key
  ·refine (jf hN (.inl ht) hk ha.key).bind λρ₁ x y l1 e=>?_;obtain rfl:x=y:=e;(cases x);exact (ih (hk.mono l1) (CY (λ_ _=>FK.mono l1) hl) _).mono λ_ _ _ _ h=>h.cons;refine λ_=>⟨⟨rfl,ha.val.mono l1⟩,λp hp=>?_⟩;(cases hp);exact⟨AP _,e,AY,hg⟩
  exact Qv (CZ.bind (zD ht hg)) _
theorem Ug(hN:T.P.globals.size<N){t:TypeId}(ht:WC T.P t=true){k k':Value}(hk:Au F ρ k k'){l l':List MapEntry}(h:Ci (FK F ρ) l l'):
  AX T F N (XO F k l 0) (Instr.findKey t k l) ρ (Instr.findKey t k' l'):=by
 unfold Instr.findKey;refine (BL t).bind λρ₁ d d' l1 e=>?_;obtain⟨rfl,hd⟩:=e;have hk:=hk.mono l1;have h:=CY (λ_ _=>FK.mono l1) h;rcases ug (d:=d) hk h 0 with ⟨e1,e2⟩|⟨r,r',e1,e2,hr⟩
 ·rw[e1,e2];exact gu hN (WC.plain ht) hk h 0
 rw[e1,e2];exact λ_=>hr
theorem AEm{α β:Type}{R:α->β->Prop}{l:List α}{l':List β}(h:l.length=l'.length)(k: ∀(i:Nat) (a:α) (b:β),l[i]? =some a->l'[i]? =some b->R a b):Ci R l l':=by
 induction l generalizing l' with
 |nil=>cases l' with
  |nil=>exact .nil|cons b l'=>simp at h
 |cons a l ih=>cases l' with
  |nil=>simp at h|cons b l'=>exact .cons (k 0 a b rfl rfl) (ih (by simpa using h) λi x y h1 h2=>k (i+1) x y h1 h2)
theorem Lt{es es':Array MapEntry}(hs:es.size=es'.size)(he: ∀(i:Nat) (e e':MapEntry),es[i]? =some e->es'[i]? =some e'->FK F ρ e e'):Ci (FK F ρ) es.toList es'.toList:=
 AEm (by simpa using hs) λi a b h1 h2=>he i a b (by simpa using h1) (by simpa using h2)
theorem XT{α β:Type}{R:α->β->Prop}{l:List α}{l':List β}(h:Ci R l l'):l.length=l'.length:=by
 induction h with|nil=>rfl|cons _ _ ih=>simp[ih]
theorem AJH{es es':Array MapEntry}(hs:es.size=es'.size)(he: ∀(i:Nat) (e e':MapEntry),es[i]? =some e->es'[i]? =some e'->FK F ρ e e'){g g':MapEntry->MapEntry}
  (hg: ∀e e',FK F ρ e e'->FK F ρ (g e) (g' e')) (j:Nat):(es.modify j g).size=(es'.modify j g').size/\∀(i:Nat) (e e':MapEntry),(es.modify j g)[i]? =some e->(es'.modify j g')[i]? =some e'->FK F ρ e e':=by
 refine⟨by simp[hs],λi e e' h1 h2=>?_⟩;rw[KP] at h1 h2;split at h1
 ·rename_i hj;rw[if_pos hj] at h2;obtain⟨a,ha,rfl⟩:=DV.1 h1;obtain⟨b,hb,rfl⟩:=DV.1 h2;exact hg _ _ (he _ _ _ ha hb)
 rename_i hj;rw[if_neg hj] at h2;exact he _ _ _ h1 h2
theorem AF8{es es':Array MapEntry}(hs:es.size=es'.size)(he: ∀(i:Nat) (e e':MapEntry),es[i]? =some e->es'[i]? =some e'->FK F ρ e e'){a a':MapEntry}(ha:FK F ρ a a'):
  (es.push a).size=(es'.push a').size/\∀(i:Nat) (e e':MapEntry),(es.push a)[i]? =some e->(es'.push a')[i]? =some e'->FK F ρ e e':=by
 refine⟨by simp[hs],λi e e' h1 h2=>?_⟩;rw[ASW] at h1 h2;rw[<- hs] at h2;split at h1
 ·rename_i hj;rw[if_pos hj] at h2;cases h1;cases h2;exact ha
 rename_i hj;rw[if_neg hj] at h2;exact he _ _ _ h1 h2
theorem zF(hN:T.P.globals.size<N){t:TypeId}(ht:WE T.P t=true){x x' k k':Value}(h:Au F ρ x x')(hk:Au F ρ k k')(c:Bool):
  AX T F N (QV F) (Instr.lookup t x k c) ρ (Instr.lookup t x' k' c):=by
 unfold Instr.lookup;refine (BL t).bind λρ₁ d d' l1 e=>?_;obtain⟨rfl,hd⟩:=e;unfold WE at ht;rw[hd] at ht;have h:=h.mono l1;have hk:=hk.mono l1;(cases d<;>first|exact CU ht|skip);rename_i key elem;simp only[BF] at ht
 have rest: ∀{ρ':Rn} {es es':Array MapEntry} {k k':Value},Au F ρ' k k'->es.size=es'.size->(∀(i:Nat) (e e':MapEntry),es[i]? =some e->es'[i]? =some e'->FK F ρ' e e')->
   AX T F N (QV F) (Instr.checkKey es.isEmpty 10000 key k>>=λ_=>Instr.findKey key k es.toList>>=λr=>match r with|some (_,v)=>pure (if c then .tuple #[v,.bool true] else v)|none=>zeroValue elem>>=λz=>pure (if c then .tuple #[z,.bool false] else z)) ρ'
    (Instr.checkKey es'.isEmpty 10000 key k'>>=λ_=>Instr.findKey key k' es'.toList>>=λr=>match r with|some (_,v)=>pure (if c then .tuple #[v,.bool true] else v)|none=>zeroValue elem>>=λz=>pure (if c then .tuple #[z,.bool false] else z)):=by
  intro ρ' es es' k k' hk hs he;refine (O7 _ _ ht.1 k k').bind λρ₂ _ _ l2 _=>?_;refine (Ug hN ht.1 (hk.mono l2) (CY (λ_ _=>FK.mono l2) (Lt hs he))).bind λρ₃ r r' l3 hr=>?_;have hr:=hr.1
  have fin: ∀{ρ:Rn} {v v':Value} (b:Bool),Au F ρ v v'->Au F ρ (if c then .tuple #[v,.bool b] else v) (if c then .tuple #[v',.bool b] else v'):=by
   intro ρ v v' b hv;(cases c);exact hv;exact .tuple rfl (Ar.push (Ar.one hv) (.flat rfl)).2
  rcases r with _|⟨i,v⟩<;>rcases r' with _|⟨i',v'⟩<;>first|exact hr.elim|skip
  ·exact (NV elem ht.2).bind λ_ z z' _ e=>λ_=>fin _ (by rw[<- e.1];exact e.2)
  exact λ_=>fin _ hr.2
 cases h with
 |flat hf=>
  (cases x<;>first|exact λ_=>trivial|exact CU hf|skip);rename_i m;(cases m<;>first|exact CU hf|skip);exact rest (es:=#[]) (es':=#[]) hk rfl (λi e e' h1=>by simp at h1)
 |map hb=>
  intro hok;refine⟨hb,λo o' ho=>?_⟩
  cases ho with|map hs he=>exact rest hk hs he hok|_=>exact trivial
 |_=>exact λ_=>trivial
theorem AF9{es es':Array MapEntry}(hs:es.size=es'.size){i:Nat}{e:MapEntry}(h:es[i]? =some e): ∃e',es'[i]? =some e':=
 ⟨es'[i]'(by have:=(BK.1 h).1;omega),Ba _⟩
theorem ZQ(n:Nat){x y:Value}(hx:flat x=true)(hy:flat y=false):Instr.sameBits (n+1) y x=false/\Instr.sameBits (n+1) x y=false:=by
 (cases x<;>first|exact CU hx|skip);all_goals cases y<;>first|exact absurd (show true=false from hy) AY|exact⟨rfl,rfl⟩|skip
 all_goals
  rename_i a b;(cases a<;>first|exact CU hx|skip);cases b<;>first|exact absurd (show true=false from hy) AY|exact⟨rfl,rfl⟩
theorem WG(n:Nat){x y y':Value}(hf:flat x=true)(k:Au F ρ y y'):Instr.sameBits (n+1) y x=Instr.sameBits (n+1) y' x/\Instr.sameBits (n+1) x y=Instr.sameBits (n+1) x y':=by
 by_cases hy:flat y=true;rw[BN k hy];exact⟨rfl,rfl⟩;have h1:=ZQ n hf (show flat y=false by simpa using hy);have h2:=ZQ n hf (show flat y'=false by cases e:flat y' with|false=>rfl|true=>exact absurd (O8 k e) hy);rw[h1.1,h1.2,h2.1,h2.2];exact⟨rfl,rfl⟩
theorem pO(hok:ρ.Ok N){x x' y y':Value}(hg:jg x y)(h:Au F ρ x x')(k:Au F ρ y y'):Instr.sameBits 10000 y x=Instr.sameBits 10000 y' x':=by
 have e0:(10000:Nat)=9999+1:=rfl;rw[e0];rcases hg with hf|hf|⟨p,q,rfl,rfl⟩;rw[BN h hf];exact (WG _ hf k).1;rw[BN k hf];exact (WG _ hf h).2;obtain⟨p',rfl,hp⟩:=Di h;obtain⟨q',rfl,hq⟩:=Di k;(rcases p with _|a<;>rcases p' with _|a'<;>first|exact hp.elim|skip);(all_goals rcases q with _|b<;>rcases q' with _|b'<;>first|exact hq.elim|exact rfl|skip);have:=RelA.beq' hok hq hp;simp only[Instr.sameBits];show (some b==some a)=(some b'==some a');simpa using this
theorem ZR{x x' y y':Value}(hg:jg x y)(h:Au F ρ x x')(k:Au F ρ y y'):AX T F N (QV F) (Instr.keyThatStays y x) ρ (Instr.keyThatStays y' x'):=by
 intro hok;have e:=pO hok hg h k;revert hok;unfold Instr.keyThatStays;rw[e];split;exact λ_=>h;refine (JJ _).bind λρ₁ a b l1 e=>?_;obtain rfl:a=b:=e;split;exact λ_=>h.mono l1;exact λ_=>k.mono l1
theorem PZ{b b' c:Nat}{es es':Array MapEntry}(h:ρ.r b b')(he:es.size=es'.size/\∀(i:Nat) (e e':MapEntry),es[i]? =some e->es'[i]? =some e'->FK F ρ e e'):
  AX T F N ET (setObj b (.map es c)) ρ (setObj b' (.map es' c)):=λ_=>⟨h,.map he.1 he.2,rfl,⟨(λ_ _ _ e=>by cases e),rfl⟩⟩
theorem jh(hN:T.P.globals.size<N){t:TypeId}(ht:WE T.P t=true){x x' k k' z z':Value}(h:Au F ρ x x')(hk:Au F ρ k k')(hz:Au F ρ z z'):
  AX T F N ET (Instr.mapUpdate t x k z) ρ (Instr.mapUpdate t x' k' z'):=by
 unfold Instr.mapUpdate;refine (BL t).bind λρ₁ d d' l1 e=>?_;obtain⟨rfl,hd⟩:=e;unfold WE at ht;rw[hd] at ht;have h:=h.mono l1;have hk:=hk.mono l1;have hz:=hz.mono l1;(cases d<;>first|exact CU ht|skip);rename_i key elem;simp only[BF] at ht
 cases h with
 |flat hf=>
  (cases x<;>first|exact λ_=>trivial|exact CU hf|skip);rename_i m;cases m<;>first|exact CU hf|exact Bl (e:=.plain _) trivial
 |map hb=>
  rename_i b b';intro hok;refine⟨hb,λo o' ho=>?_⟩
  cases ho with
  |map hs he=>
   refine (AX.bind (O7 _ _ ht.1 k k') λρ₂ _ _ l2 _=>?_) hok;refine (Ug hN ht.1 (hk.mono l2) (CY (λ_ _=>FK.mono l2) (Lt hs he))).bind λρ₃ r r' l3 hr=>?_;rcases r with _|⟨i,v⟩<;>rcases r' with _|⟨i',v'⟩<;>first|exact hr.1.elim|skip
   ·exact PZ (l3.r _ _ (l2.r _ _ hb)) (AF8 hs (λi e e' h1 h2=>((he i e e' h1 h2).mono l2).mono l3) ⟨(hk.mono l2).mono l3,(hz.mono l2).mono l3,rfl⟩)
   obtain⟨⟨e1,_⟩,e2⟩:=hr;simp only at e1;subst e1;obtain⟨_,e,h1,hg⟩:=e2 _ rfl;simp only[Nat.sub_zero,G8] at h1;obtain⟨e',h2⟩:=AF9 hs h1;have hk:=(hk.mono l2).mono l3;have he: ∀(i:Nat) (e e':MapEntry),_->_->FK F ρ₃ e e':=λi e e' h1 h2=>((he i e e' h1 h2).mono l2).mono l3;simp only[h1,h2,Option.map_some,Option.getD_some];refine (ZR hg hk (he _ _ _ h1 h2).key).bind λρ₄ a a' l4 ha=>?_;exact PZ (l4.r _ _ (l3.r _ _ (l2.r _ _ hb))) (AJH (g:=λe=>{key:=a,val:=z,born:=e.born}) (g':=λe=>{key:=a',val:=z',born:=e.born}) hs (λi e e' h1 h2=>(he i e e' h1 h2).mono l4) (λx y hxy=>⟨ha,((hz.mono l2).mono l3).mono l4,hxy.born⟩) _)
  |_=>exact trivial
 |_=>exact λ_=>trivial
theorem WH{o o':Obj}(h:GY F ρ o o'):AX T F N (λρ a b=>ρ.r a b) (newObj o) ρ (newObj o'):=λ_=>.inr ⟨h,λ_ _ _=>.inr ⟨rfl,rfl⟩⟩
theorem uh(t:TypeId):AX T F N (QV F) (Instr.makeMap t none) ρ (Instr.makeMap t none):=
 (WH (.map rfl λi e e' h=>by simp at h)).bind λ_ _ _ _ hb=>λ_=>.map hb
theorem ABt{t:TypeId}{x x':Value}(h:Au F ρ x x'):AX T F N (QV F) (Instr.range t x) ρ (Instr.range t x'):=by
 unfold Instr.range;refine (BL t).bind λρ₁ d d' l1 e=>?_;obtain⟨rfl,hd⟩:=e;have h:=h.mono l1
 have fin: ∀{ρ:Rn} {o o':Obj},GY F ρ o o'->AX T F N (QV F) (newObj o>>=λb=>pure (.pointer (some ⟨b,0,none⟩)):Sem Value) ρ (newObj o'>>=λb=>pure (.pointer (some ⟨b,0,none⟩))):=
  λho=>(WH ho).bind λ_ _ _ _ hb=>λ_=>.ptr ⟨hb,rfl,rfl⟩
 cases h with
 |flat hf=>
  (cases x<;>first|exact CU hf|skip);(all_goals cases d<;>first|exact λ_=>trivial|exact fin .stringIter|skip);rename_i a _ _;cases a<;>first|exact CU hf|exact fin .KN
 |map hb=>
  (cases d<;>first|exact λ_=>trivial|skip);intro hok;refine⟨hb,λo o' ho=>?_⟩
  cases ho with|map=>exact fin (.mapIter hb) hok|_=>exact trivial
 |_=>cases d<;>exact λ_=>trivial
theorem zG{α β:Type}{R:α->β->Prop}{l:List α}{l':List β}(h:Ci R l l'): ∀(i:Nat) (a:α) (b:β),l[i]? =some a->l'[i]? =some b->R a b:=by
 induction h with
 |nil=>intro i a b h1;simp at h1
 |cons ha _ ih=>intro i a b h1 h2;cases i with
  |zero=>simp only[List.getElem?_cons_zero,BD] at h1 h2;subst h1 h2;exact ha|succ i=>exact ih i a b (by simpa using h1) (by simpa using h2)
theorem YE{es es':Array MapEntry}(h:Ci (FK F ρ) es.toList es'.toList):es.size=es'.size/\∀(i:Nat) (e e':MapEntry),es[i]? =some e->es'[i]? =some e'->FK F ρ e e':=
 ⟨by simpa using XT h,λi e e' h1 h2=>zG h i e e' (by simpa using h1) (by simpa using h2)⟩
theorem zH{α β:Type}{R:α->β->Prop}{l:List α}{l':List β}(h:Ci R l l'): ∀i,Ci R (l.eraseIdx i) (l'.eraseIdx i):=by
 induction h with
 |nil=>intro i;exact .nil
 |cons ha hl ih=>intro i;cases i with
  |zero=>exact hl|succ i=>exact .cons ha (ih i)
theorem Uh{α β:Type}{R:α->β->Prop}{p:α->Bool}{q:β->Bool}(hpq: ∀a b,R a b->p a=q b){l:List α}{l':List β}(h:Ci R l l'):Ci R (l.filter p) (l'.filter q):=by
 induction h with
 |nil=>exact .nil|cons ha _ ih=>
  simp only[Io,hpq _ _ ha];split;exact .cons ha ih;exact ih
theorem qZ{α β:Type}{R:α->β->Prop}{l m:List α}{l' m':List β}(h:Ci R l l')(k:Ci R m m'):Ci R (l++m) (l'++m'):=by
 induction h with|nil=>exact k|cons ha _ ih=>exact .cons ha ih
theorem AEn{α β γ δ:Type}{R:α->β->Prop}{S:γ->δ->Prop}{f:α->γ}{g:β->δ}(hfg: ∀a b,R a b->S (f a) (g b)){l:List α}{l':List β}(h:Ci R l l'):Ci S (l.map f) (l'.map g):=by
 induction h with|nil=>exact .nil|cons ha _ ih=>exact .cons (hfg _ _ ha) ih
theorem zI(hN:T.P.globals.size<N){t u ty:TypeId}(ht:WE T.P t=true){x x' k k':Value}(h:Au F ρ x x')(hk:Au F ρ k k'):
  AX T F N (QV F) (Builtin.delete_ #[t,u] ty #[x,k]) ρ (Builtin.delete_ #[t,u] ty #[x',k']):=by
 unfold Builtin.delete_;show AX T F N (QV F) (underlying t>>=_) ρ (underlying t>>=_);refine (BL t).bind λρ₁ d d' l1 e=>?_;obtain⟨rfl,hd⟩:=e;unfold WE at ht;rw[hd] at ht;have h:=h.mono l1;have hk:=hk.mono l1;(cases d<;>first|exact CU ht|skip);rename_i key elem;simp only[BF] at ht;have over: ∀{ρ:Rn},AX T F N (QV F) (pure (.tuple #[]):Sem Value) ρ (pure (.tuple #[])):=λ_=>.undef
 cases h with
 |flat hf=>
  (cases x<;>first|exact λ_=>trivial|exact CU hf|skip);rename_i m;(cases m<;>first|exact CU hf|skip);exact (O7 _ _ ht.1 k k').bind λ_ _ _ _ _=>over
 |map hb=>
  intro hok;refine⟨hb,λo o' ho=>?_⟩
  cases ho with
  | @map es es' c hs he=>
   refine (AX.bind (O7 _ _ ht.1 k k') λρ₂ _ _ l2 _=>?_) hok;have ha:=CY (λ_ _=>FK.mono l2) (Lt hs he);refine (Ug hN ht.1 (hk.mono l2) ha).bind λρ₃ r r' l3 hr=>?_;have ha:=CY (λ_ _=>FK.mono l3) ha;have hb:=l3.r _ _ (l2.r _ _ hb);(rcases r with _|⟨i,v⟩<;>rcases r' with _|⟨i',v'⟩<;>first|exact hr.1.elim|skip);exact (PZ hb (YE ha)).bind λ_ _ _ _ _=>over;obtain⟨⟨e1,_⟩,_⟩:=hr;simp only at e1;subst e1;refine (PZ hb (YE ?_)).bind λ_ _ _ _ _=>over;simp only[Array.toList_eraseIdxIfInBounds];exact zH ha _
  |_=>exact trivial
 |_=>exact λ_=>trivial
def QE (F:Fs) (ρ:Rn) (x y:Option MapEntry):Prop:=match x,y with
 |some e,some e'=>FK F ρ e e'|none,none=>True|_,_=>False
def JQ (es:Array MapEntry) (seen:Array Nat) (since:Nat):Array (Option MapEntry):=
 (if ((es.filter λe=> !seen.contains e.born).filter λe=>decide (e.born<since)).isEmpty=true then #[none] else #[])++
  (((es.filter λe=> !seen.contains e.born).filter λe=>decide (e.born<since))++((es.filter λe=> !seen.contains e.born).filter λe=>decide (e.born≥since))).map some
def stale (es:Array MapEntry) (seen:Array Nat) (last:Nat):Bool:= !seen.isEmpty && !es.isEmpty && es.all λe=>decide (e.born≥last)
theorem AEo{α β:Type}{R:α->β->Prop}{p:α->Bool}{q:β->Bool}(hpq: ∀a b,R a b->p a=q b){l:List α}{l':List β}(h:Ci R l l'):l.all p=l'.all q:=by
 induction h with|nil=>rfl|cons ha _ ih=>simp only[List.all_cons,hpq _ _ ha,ih]
theorem ABu{es es':Array MapEntry}(h:Ci (FK F ρ) es.toList es'.toList)(seen:Array Nat)(last:Nat):stale es seen last=stale es' seen last:=by
 have h1:es.size=es'.size:=by simpa using XT h
 have h2:es.all (λe=>decide (e.born≥last))=es'.all λe=>decide (e.born≥last):=by
  rw[<- Array.all_toList,<- Array.all_toList];exact AEo (λa b hab=>by rw[hab.born]) h
 unfold stale;rw[h2];simp only[Array.isEmpty,h1]
theorem ABv{es es':Array MapEntry}(h:Ci (FK F ρ) es.toList es'.toList)(seen:Array Nat)(since:Nat):Ci (QE F ρ) (JQ es seen since).toList (JQ es' seen since).toList:=by
 have hl:Ci (FK F ρ) (es.filter λe=> !seen.contains e.born).toList (es'.filter λe=> !seen.contains e.born).toList:=by
  simp only[Ip];exact Uh (λa b hab=>by rw[hab.born]) h
 have ho:Ci (FK F ρ) ((es.filter λe=> !seen.contains e.born).filter λe=>decide (e.born<since)).toList ((es'.filter λe=> !seen.contains e.born).filter λe=>decide (e.born<since)).toList:=by
  simp only[Ip] at hl⊢;exact Uh (λa b hab=>by rw[hab.born]) hl
 have hn:Ci (FK F ρ) ((es.filter λe=> !seen.contains e.born).filter λe=>decide (e.born≥since)).toList ((es'.filter λe=> !seen.contains e.born).filter λe=>decide (e.born≥since)).toList:=by
  simp only[Ip] at hl⊢;exact Uh (λa b hab=>by rw[hab.born]) hl
 unfold JQ;revert ho hn;generalize (Array.filter (λe=>decide (e.born<since)) (Array.filter (λe=> !seen.contains e.born) es))=o;generalize (Array.filter (λe=>decide (e.born<since)) (Array.filter (λe=> !seen.contains e.born) es'))=o';generalize (Array.filter (λe=>decide (e.born≥since)) (Array.filter (λe=> !seen.contains e.born) es))=n;generalize (Array.filter (λe=>decide (e.born≥since)) (Array.filter (λe=> !seen.contains e.born) es'))=n';intro ho hn
 have e0:o.isEmpty=o'.isEmpty:=by
  (have:o.size=o'.size:=by simpa using XT ho);simp[Array.isEmpty,this]
 rw[e0];simp only[aY,Hr];refine qZ ?_ (AEn (R:=FK F ρ) (S:=QE F ρ) (f:=some) (g:=some) (λ_ _ h=>h) (qZ ho hn));split;exact .cons trivial .nil;exact .nil
theorem AEp{x x':Value}(h:Au F ρ x x')(s:Bool)(t:TypeId):AX T F N (QV F) (Instr.next x s t) ρ (Instr.next x' s t):=by
 unfold Instr.next;have over: ∀{ρ:Rn},AX T F N (QV F) (pure (.tuple #[.bool false]):Sem Value) ρ (pure (.tuple #[.bool false])):=λ_=>.tuple rfl (Ar.one (.flat rfl)).2
 cases h with
 |flat hf=>cases x<;>first|exact λ_=>trivial|(rename_i p;cases p<;>first|exact λ_=>trivial|exact CU hf)
 | @ptr a a' ha=>
  obtain⟨r,off,sp⟩:=a;obtain⟨r',off',sp'⟩:=a';obtain⟨hr,h1,h2⟩:=ha;simp only at hr h1 h2;subst h1 h2
  cases off' with|succ n=>exact λ_=>trivial|zero=>
  intro hok;refine⟨hr,λo o' ho=>?_⟩
  cases ho with
  | @stringIter z k=>
   (cases s);exact trivial
   have key:AX T F N (QV F) (if k<z.size then setObj r (.stringIter z (k+(Utf8.decode z k).2))>>=λ_=>pure (.tuple #[.bool true,goInt k,.int .i32 (Utf8.decode z k).1]) else pure (.tuple #[.bool false]):Sem Value) ρ
     (if k<z.size then setObj r' (.stringIter z (k+(Utf8.decode z k).2))>>=λ_=>pure (.tuple #[.bool true,goInt k,.int .i32 (Utf8.decode z k).1]) else pure (.tuple #[.bool false])):=by
    split
    ·refine AX.bind (Q:=ET) (λ_=>⟨hr,.stringIter,rfl,⟨(λ_ _ _ e=>by cases e),rfl⟩⟩) λ_ _ _ _ _=>λ_=>.tuple rfl (Ar.push (Ar.push (Ar.one (.flat rfl)) (.flat rfl)) (.flat rfl)).2
    exact over
   exact key hok
  |KN=>cases s<;>first|exact trivial|exact over hok
  | @mapIter b b' since last seen hb=>
   cases s
   ·refine (show DN T F N (QV F) (getObj b>>=_) ρ (getObj b'>>=_) from ?_);refine⟨hb,λo o' ho=>?_⟩
    cases ho with
    | @map es es' c hs he=>
     have ha:=Lt hs he
     have body:AX T F N (QV F) (choose (.mapNext (JQ es seen since).size)>>=λn=>match (JQ es seen since)[n]? with
       |some (some e)=>setObj r (.mapIter (some b) since (seen.push e.born) c)>>=λ_=>pure (.tuple #[.bool true,e.key,e.val])|some none=>pure (.tuple #[.bool false])
       |none=>stuck "Next: no such candidate" :Sem Value) ρ
       (choose (.mapNext (JQ es' seen since).size)>>=λn=>match (JQ es' seen since)[n]? with|some (some e)=>setObj r' (.mapIter (some b') since (seen.push e.born) c)>>=λ_=>pure (.tuple #[.bool true,e.key,e.val])|some none=>pure (.tuple #[.bool false])|none=>stuck "Next: no such candidate"):=by
      have hc:=ABv ha seen since;(have hz:(JQ es seen since).size=(JQ es' seen since).size:=by simpa using XT hc);rw[hz];refine (JJ _).bind λρ₁ n n' l1 e=>?_;obtain rfl:n=n':=e
      cases h1:(JQ es seen since)[n]? with
      |none=>exact λ_=>trivial|some q=>
       have hn:=(BK.1 h1).1;obtain⟨q',h2⟩: ∃q',(JQ es' seen since)[n]? =some q':=⟨_,Ba Ac⟩;have hq:=zG hc n _ _ (by simpa using h1) (by simpa using h2);rw[h2];(rcases q with _|e<;>rcases q' with _|e'<;>first|exact hq.elim|skip);exact over;have hq:FK F ρ e e':=hq;simp only[hq.born];refine AX.bind (Q:=ET) (λ_=>⟨l1.r _ _ hr,.mapIter (l1.r _ _ hb),rfl,⟨(λ_ _ _ e=>by cases e),rfl⟩⟩) λρ₂ _ _ l2 _=>λ_=>.tuple rfl (Ar.push (Ar.push (Ar.one (.flat rfl)) (((hq.mono l1).mono l2).key)) (((hq.mono l1).mono l2).val)).2
     have e0:=ABu ha seen last
     have key:AX T F N (QV F) (if stale es seen last=true then unsupported (.noEntry "instr/Next: every entry that the ranged map held at the last iteration is gone, and it holds new ones")>>=λ(_:Unit)=>choose (.mapNext (JQ es seen since).size)>>=λn=>match (JQ es seen since)[n]? with
       |some (some e)=>setObj r (.mapIter (some b) since (seen.push e.born) c)>>=λ_=>pure (.tuple #[.bool true,e.key,e.val])|some none=>pure (.tuple #[.bool false])
       |none=>stuck "Next: no such candidate" else (choose (.mapNext (JQ es seen since).size)>>=λn=>match (JQ es seen since)[n]? with
       |some (some e)=>setObj r (.mapIter (some b) since (seen.push e.born) c)>>=λ_=>pure (.tuple #[.bool true,e.key,e.val])|some none=>pure (.tuple #[.bool false])
       |none=>stuck "Next: no such candidate"):Sem Value) ρ
       (if stale es' seen last=true then unsupported (.noEntry "instr/Next: every entry that the ranged map held at the last iteration is gone, and it holds new ones")>>=λ(_:Unit)=>choose (.mapNext (JQ es' seen since).size)>>=λn=>match (JQ es' seen since)[n]? with
       |some (some e)=>setObj r' (.mapIter (some b') since (seen.push e.born) c)>>=λ_=>pure (.tuple #[.bool true,e.key,e.val])|some none=>pure (.tuple #[.bool false])
       |none=>stuck "Next: no such candidate" else (choose (.mapNext (JQ es' seen since).size)>>=λn=>match (JQ es' seen since)[n]? with
       |some (some e)=>setObj r' (.mapIter (some b') since (seen.push e.born) c)>>=λ_=>pure (.tuple #[.bool true,e.key,e.val])|some none=>pure (.tuple #[.bool false])
       |none=>stuck "Next: no such candidate")):=by
      rw[e0];split;exact λ_=>trivial;exact body
     exact key hok
    |_=>exact trivial
   exact trivial
  |_=>cases s<;>exact trivial
 |_=>exact λ_=>trivial
end
section
variable {T:Twin} {F:Fs} {N:Nat} {ρ:Rn} {α β γ:Type}
theorem pR{es es':Array MapEntry}(h:Ci (FK F ρ) es.toList es'.toList)(k:Nat):QE F ρ (es.find? (·.born==k)) (es'.find? (·.born==k)):=by
 rw[<- Array.find?_toList,<- Array.find?_toList];revert h;generalize es.toList=l;generalize es'.toList=l';intro h
 induction h with
 |nil=>exact trivial|cons ha _ ih=>
  simp only[List.find?_cons,ha.born];split;exact ha;exact ih
theorem ABw{x x':Value}(h:Au F ρ x x'):AX T F N (QV F) (Instr.entry x) ρ (Instr.entry x'):=by
 unfold Instr.entry
 cases h with
 |flat hf=>cases x<;>first|exact λ_=>trivial|(rename_i p;cases p<;>first|exact λ_=>trivial|exact CU hf)
 | @ptr a a' ha=>
  obtain⟨r,off,sp⟩:=a;obtain⟨r',off',sp'⟩:=a';obtain⟨hr,h1,h2⟩:=ha;simp only at hr h1 h2;subst h1 h2
  cases off' with|succ n=>exact λ_=>trivial|zero=>
  intro hok;refine⟨hr,λo o' ho=>?_⟩
  cases ho with
  | @mapIter b b' since last seen hb=>
   dsimp only[Sem.bind]
   cases seen.back? with
   |none=>exact trivial|some stamp=>
    refine⟨hb,λo o' ho=>?_⟩
    cases ho with
    | @map es es' c hs he=>
     have hq:=pR (Lt hs he) stamp;dsimp only[Sem.bind];by_cases hc:(c !=last)=true
     ·simp only[hc,if_true];exact trivial
     simp only[hc,if_false,Ak];revert hq;generalize es.find? (·.born==stamp)=q;generalize es'.find? (·.born==stamp)=q';intro hq;(rcases q with _|e<;>rcases q' with _|e'<;>first|exact hq.elim|exact trivial|skip);exact .tuple rfl (Ar.push (Ar.one (FK.key hq)) (FK.val hq)).2
    |_=>exact trivial
  |_=>exact trivial
 |_=>exact λ_=>trivial
theorem ABx{t:TypeId}{x x' i i':Value}(h:Au F ρ x x')(k:Au F ρ i i'):AX T F N (QV F) (Instr.index t x i) ρ (Instr.index t x' i'):=by
 unfold Instr.index;refine (NY k).bind λρ₁ q q' l1 e=>?_;obtain rfl:q=q':=e;obtain⟨kd,n⟩:=q;refine (BL t).bind λρ₂ d d' l2 e=>?_;obtain⟨rfl,hd⟩:=e;have h:=(h.mono l1).mono l2
 cases h with
 |flat hf=>
  (cases x<;>first|exact CU hf|skip);(all_goals cases d<;>first|exact λ_=>trivial|skip);rename_i s
  have key:AX T F N (QV F) (match (if 0<=n then s[n.toNat]? else none) with|some b=>pure (.int .u8 b.toNat)|none=>boundsPanic kd n s.size .index:Sem Value) ρ₂ (match (if 0<=n then s[n.toNat]? else none) with|some b=>pure (.int .u8 b.toNat)|none=>boundsPanic kd n s.size .index):=by
   generalize (if 0<=n then s[n.toNat]? else none)=z;(cases z);exact H7 _ _ _ _;exact λ_=>.flat rfl
  exact key
 | @agg p p' h1 h2=>
  (cases d<;>first|exact λ_=>trivial|skip);rename_i len elem;by_cases hc:0<=n/\n<len
  ·simp only[hc,and_self,if_true];refine (EO elem).bind λρ₃ z z' l3 e=>?_;obtain rfl:z=z':=e;exact qY elem (Ar.mono l3 ⟨h1,h2⟩) _
  simp only[hc,if_false];exact H7 _ _ _ _
 |_=>cases d<;>exact λ_=>trivial
theorem gy{x x':Value}(h:Au F ρ x x')(t a:TypeId)(hz:Gt T.P a=true):AX T F N (QV F) (Instr.typeAssert x t a true) ρ (Instr.typeAssert x' t a true):=by
 unfold Instr.typeAssert;refine (BL a).bind λρ₁ d d' l1 e=>?_;obtain⟨rfl,hd⟩:=e;have h:=h.mono l1
 have fails: ∀{ρ:Rn},AX T F N (QV F) (zeroValue a>>=λz=>pure (.tuple #[z,.bool false]):Sem Value) ρ (zeroValue a>>=λz=>pure (.tuple #[z,.bool false])):=
  (NV a hz).bind λ_ z z' _ e=>λ_=>.tuple rfl (Ar.push (Ar.one (by rw[<- e.1];exact e.2)) (.flat rfl)).2
 have holds: ∀{ρ:Rn} {v v':Value},Au F ρ v v'->AX T F N (QV F) (pure (.tuple #[v,.bool true]):Sem Value) ρ (pure (.tuple #[v',.bool true])):=
  λhv=>λ_=>.tuple rfl (Ar.push (Ar.one hv) (.flat rfl)).2
 cases h with
 |flat hf=>
  (cases x<;>first|exact CU hf|skip);all_goals cases d<;>first|exact λ_=>trivial|exact fails
 | @iface u v v' hv=>
  by_cases hi: ∃w,d=.interface w
  ·obtain⟨w,rfl⟩:=hi;refine (C9 u).bind λρ₂ i i' l2 e=>?_;obtain⟨rfl,_⟩:=e
   cases Instr.missingMethod w i.methods with|none=>exact holds (.iface (hv.mono l2))|some m=>exact fails
  have e1: ∀z:Value,(match d,(.iface u z:Value) with
    | .interface _,.nilIface=>(zeroValue a>>=λz=>pure (.tuple #[z,.bool false]):Sem Value)
    | .interface want,.iface t _=>typeInfo t>>=λi=>match Instr.missingMethod want i.methods with
     |none=>pure (.tuple #[.iface u z,.bool true])|some m=>(zeroValue a>>=λz=>pure (.tuple #[z,.bool false]))
    |_,.nilIface=>(zeroValue a>>=λz=>pure (.tuple #[z,.bool false]))|_,.iface t v=>if t=a then pure (.tuple #[v,.bool true]) else (zeroValue a>>=λz=>pure (.tuple #[z,.bool false]))
    |_,_=>stuck "TypeAssert: interface value expected")=if u=a then pure (.tuple #[z,.bool true]) else (zeroValue a>>=λz=>pure (.tuple #[z,.bool false])):=by
   intro z;cases d<;>first|rfl|exact absurd ⟨_,rfl⟩ hi
  have e2:AX T F N (QV F) (if u=a then pure (.tuple #[v,.bool true]) else (zeroValue a>>=λz=>pure (.tuple #[z,.bool false])):Sem Value) ρ₁ (if u=a then pure (.tuple #[v',.bool true]) else (zeroValue a>>=λz=>pure (.tuple #[z,.bool false]))):=by
   split;exact holds hv;exact fails
  rw[<- e1,<- e1] at e2;exact e2
 |_=>cases d<;>exact λ_=>trivial
theorem ABy{t ty el:TypeId}(hu:T.P.underlying t=some (.slice el))(hz:Gt T.P el=true){x x':Value}(h:Au F ρ x x'):AX T F N (QV F) (Builtin.clear_ #[t] ty #[x]) ρ (Builtin.clear_ #[t] ty #[x']):=by
 unfold Builtin.clear_;show AX T F N (QV F) (underlying t>>=_) ρ (underlying t>>=_);refine (BL t).bind λρ₁ d d' l1 e=>?_;obtain⟨rfl,hd⟩:=e;rw[hu] at hd;obtain rfl:=BQ hd;have h:=h.mono l1;have over: ∀{ρ:Rn},AX T F N (QV F) (pure (.tuple #[]):Sem Value) ρ (pure (.tuple #[])):=λ_=>.undef
 cases h with
 |flat hf=>
  cases x<;>first|exact CU hf|exact λ_=>trivial|skip
  ·rename_i a n k;cases a<;>first|exact CU hf|exact over
  rename_i a;cases a<;>first|exact CU hf|exact over
 | @slice a a' n k ha=>
  cases n with
  |zero=>exact over|succ n=>
   refine (NV el hz).bind λρ₂ z z' l2 e=>?_;obtain⟨rfl,he⟩:=e;refine (ML _ _ 0 (RelA.mono l2 ha) ?_).bind λ_ _ _ _ _=>over;have hc:Ar F ρ₂ z.cells z.cells:=he.cells;simp only[Builtin.zeroCells];refine Ar.map λi _=>?_;rw[getElem!_def]
   cases hg:z.cells[i % z.cells.size]? with|none=>exact .flat rfl|some v=>exact hc.2 _ _ _ hg hg
 |emp=>exact over|map hb=>
  intro hok;refine⟨hb,λo o' ho=>?_⟩
  cases ho with|map=>exact ((PZ hb ⟨rfl,λi e e' h=>by simp at h⟩).bind λ_ _ _ _ _=>over) hok|_=>exact trivial
 |_=>exact λ_=>trivial
end
end Go.Proofs.YtkkgcebhfghdnaaGreatDoor
