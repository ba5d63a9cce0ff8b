/- Part 3 of what that rests on; no condition. -/
import Derived.Test.YtkkgcebhfghdnaaGreatDoorJb
set_option maxRecDepth 100000
set_option maxHeartbeats 8000000
open Option renaming bind_eq_bind→gX, pure_def→gY, none→AB, some→AA
open Go.Instr renaming keyThatStays→AAe, findAsking→rX, typeAssert→J9, mapUpdate→gZ, checkKey→Ua, sameBits→Qn, sameNow→Zv, findNow→Ub, findKey→Xz, lookup→PY
open Go.Builtin renaming delete_→rY
open Go renaming behindNumber→Xx, zeroValue→GM, MapEntry→Dp, TypeInfo→Qk, Program→BL, TypeId→Aj, setObj→I5, Value→AP, Addr→Ag
open Array renaming filter→Zw
namespace Go.Proofs.YtkkgcebhfghdnaaGreatDoor
open Go Go.Conc
section
variable {a a' b b':Ag}{t:Aj}{x x' y y':AP}
section
variable {T:Twin} {F:Fs} {N:Nat} {ρ:Rn} {α β γ:Type}
theorem Dh{p:Option Ag}(h:Az F ρ (.pointer p) x'): ∃p',x'=.pointer p'/\QB ρ p p':=by
 cases h with
 |flat hf=>cases p with
  |none=>exact⟨AB,rfl,Am⟩|some _=>exact Ai (show false=true from hf) AV
 |ptr ha=>exact⟨AA _,rfl,ha⟩
theorem Ws(hN:T.P.globals.size<N)(h:RelA ρ a a')(k:RelA ρ b b'):AY T F N Ec (Op.twoPlaces a b) ρ (Op.twoPlaces a' b'):=by
 intro hok;revert hok;unfold Op.twoPlaces;refine CU.bind λρ₁ p p' l1 e=>?_;obtain⟨rfl,rfl⟩:=e;have h:=h.mono l1;have k:=k.mono l1;intro hok;revert hok
 have key:AY T F N Ec (do pure (<- byteOf a,<- byteOf b):Sem (Nat×Nat)) ρ₁ (do pure (<- byteOf a',<- byteOf b')):=by
  refine (Ku h).bind λρ₂ x x' l2 e=>?_;obtain rfl:x=x':=e;refine (Ku (k.mono l2)).bind λρ₃ y y' l3 e=>?_;obtain rfl:y=y':=e;exact λ_=>rfl
 intro hok;have e1:=RelA.beq hok h k
 have e2:decide (a.block≥T.P.globals.size)=decide (a'.block≥T.P.globals.size):=by
  by_cases hlt:a.block<N\/a'.block<N;rw[hok.low _ _ h.1 hlt];(have h1:a.block≥T.P.globals.size:=by omega);(have h2:a'.block≥T.P.globals.size:=by omega);simp[h1,h2]
 revert hok;simp only[bne,e1,e2];by_cases hc:(!(a'.block==b'.block) || decide (a'.block≥T.P.globals.size))=true;simp only[hc,if_true];exact λ_=>Am;simp only[hc,if_false,C9];exact key
theorem x9(hN:T.P.globals.size<N)(kd:IntKind)(h:RelA ρ a a')(k:RelA ρ b b'):AY T F N (QV F) (Op.addrSub kd a b) ρ (Op.addrSub kd a' b'):=
 (Ws hN h k).bind λρ₁ q q' _ e=>by obtain rfl:q=q':=e;exact λ_=>.flat rfl
theorem yA(hN:T.P.globals.size<N)(op:BinOp)(h:RelA ρ a a')(k:RelA ρ b b'):AY T F N (QV F) (Op.addrCmp op a b) ρ (Op.addrCmp op a' b'):=
 (Ws hN h k).bind λρ₁ q q' _ e=>by
  obtain rfl:q=q':=e;cases op<;>first|exact λ_=>.flat rfl|exact λ_=>Am
theorem yB(kd:IntKind)(n:Int)(h:RelA ρ a a'):AY T F N (QV F) (Op.addrMod kd a n) ρ (Op.addrMod kd a' n):=by
 unfold Op.addrMod;refine (NM h.1).bind λρ₁ x x' l1 e=>?_;obtain rfl:x=x':=e
 cases x with
 |none=>exact λ_=>Am|some q=>
  obtain⟨e,c⟩:=q;simp only;refine (Cm e).bind λρ₂ i i' l2 e=>?_;obtain⟨rfl,_⟩:=e;split;exact λ_=>Am;refine (Ku ((h.mono l1).mono l2)).bind λρ₃ y y' l3 e=>?_;obtain rfl:y=y':=e;exact λ_=>.flat rfl
theorem ADU(hN:T.P.globals.size<N){op:BinOp}(hq:op≠ .eql/\op≠ .neq)(ht:T.P.underlying t≠AA .unsafePointer)(h:Az F ρ x x')(k:Az F ρ y y'):
  AY T F N (QV F) (binOp op t x y) ρ (binOp op t x' y'):=by
 have two: ∀{a b a' b':Ag} (f f':Ag->Ag->Sem AP),RelA ρ a a'->RelA ρ b b'->(∀{ρ₁:Rn} {a b a' b':Ag},RelA ρ₁ a a'->RelA ρ₁ b b'->AY T F N (QV F) (f a b) ρ₁ (f' a' b'))->
   AY T F N (QV F) (do f (<- Xx a).1 (<- Xx b).1) ρ (do f' (<- Xx a').1 (<- Xx b').1):=by
  intro a b a' b' f f' ha hb hf;refine (Hl ha).bind λρ₁ q q' l1 e=>?_;refine (Hl (hb.mono l1)).bind λρ₂ s s' l2 e'=>?_;exact hf (e.1.mono l2) e'.1
 have mod: ∀{a a':Ag} (kd:IntKind) (n:Int),RelA ρ a a'->AY T F N (QV F) (do Op.addrMod kd (<- Xx a).1 n) ρ (do Op.addrMod kd (<- Xx a').1 n):=by
  intro a a' kd n ha;exact (Hl ha).bind λρ₁ q q' l1 e=>yB kd n e.1
 unfold binOp;split;all_goals try (exact λ_=>Am)
 case h_1=>rw[BP h rfl,BP k rfl];exact mM _ _ _ _ _
 case h_2=>rw[BP h rfl,BP k rfl];exact mM _ _ _ _ _
 case h_3=>
  rw[BP h rfl,BP k rfl];rename_i k₁ a k₂ b n1 n2;by_cases hk:k₁=k₂
  ·subst hk
   cases op<;>first
    |exact Ai rfl hq.1|exact Ai rfl hq.2|exact Ai rfl (n1 _ _ _ _ rfl rfl)|exact Ai rfl (n2 _ _ _ _ rfl rfl)|(simp only[ne_eq,not_true_eq_false,if_false];first|exact AAv _ _ _ _|exact λ_=>.flat rfl|exact λ_=>Am)
  simp only[ne_eq,hk,not_false_eq_true,if_true];exact λ_=>Am
 case h_4=>cases h with|flat hf=>exact Ai (show false=true from hf) AV
 case h_5=>cases h with|flat hf=>exact Ai (show false=true from hf) AV
 case h_6=>
  rw[BP h rfl,BP k rfl];cases op<;>first|exact Ai rfl hq.1|exact Ai rfl hq.2|exact sG _ _ _
 case h_7=>exact Ai rfl hq.1
 case h_8=>exact Ai rfl hq.2
 case h_9=>
  obtain⟨p',rfl,hp⟩:=Dh h;rw[BP k rfl];refine (BN t).bind λρ₁ d d' l1 e=>?_;obtain⟨rfl,hd⟩:=e;cases d<;>first|exact Ai hd ht|exact O4 t (h.mono l1) (.flat rfl)
 case h_10=>
  obtain⟨p',rfl,hp⟩:=Dh k;rw[BP h rfl];exact O4 t k (.flat rfl)
 case h_11=>
  obtain⟨p',rfl,hp⟩:=Dh h;rw[BP k rfl];exact O4 t h (.flat rfl)
 case h_12=>
  obtain⟨p',rfl,hp⟩:=Dh h;obtain⟨q',rfl,hq⟩:=Dh k
  cases p' with
  |none=>exact hp.elim
  |some a=>cases q' with
   |none=>exact hq.elim|some b=>exact two _ _ hp hq (λh k=>x9 hN _ h k)
 case h_13|h_14|h_15|h_16=>
  obtain⟨p',rfl,hp⟩:=Dh h;obtain⟨q',rfl,hq⟩:=Dh k
  cases p' with
  |none=>exact hp.elim
  |some a=>cases q' with
   |none=>exact hq.elim|some b=>exact two _ _ hp hq (λh k=>yA hN _ h k)
 case h_17|h_18=>
  obtain⟨p',rfl,hp⟩:=Dh h;rw[BP k rfl]
  cases p' with|none=>exact hp.elim|some a=>exact mod _ _ hp
 case h_19=>
  obtain⟨p',rfl,hp⟩:=Dh k;rw[BP h rfl]
  cases p' with|none=>exact hp.elim|some a=>exact mod _ _ hp
def Hy (P:BL) (t:Aj):Bool:=
 match P.underlying t with|some .bool|some .string=>true|some (.int _)=>true|some (.pointer _)=>true|_=>false
def J4 (P:BL) (t:Aj) (v:AP):Bool:=
 match P.underlying t,v with|some (.pointer _),.pointer AB=>true|some (.slice _),.slice AB _ _=>true|some (.map _ _),.map AB=>true|some (.func _ _ _),.nilFunc=>true|some (.interface _),.nilIface=>true|_,_=>false
end
section
variable {T:Twin} {F:Fs} {N:Nat} {ρ:Rn} {α β γ:Type}
theorem TM(h:J4 T.P t y=true):flat y=true:=by
 unfold J4 at h;split at h<;>first|rfl|cases h
theorem Wu(h:RelA ρ a a'):AY T F N Ec (stringish a) ρ (stringish a'):=by
 unfold stringish;refine (TL h).bind λρ₁ x y l1 e=>?_;obtain rfl:x=y:=e;cases x
 ·simp only[C9,if_false];refine (NM (RelA.mono l1 h).1).bind λρ₂ x y l2 e=>?_;obtain rfl:x=y:=e
  cases x with|none=>exact λ_=>rfl|some q=>exact TL (show RelA ρ₂ {block:=a.block,off:=q.2} {block:=a'.block,off:=q.2} from ⟨l2.r _ _ (l1.r _ _ h.1),rfl,rfl⟩)
 exact λ_=>rfl
theorem sJ(h:RelA ρ a a')(k:RelA ρ b b'):AY T F N Ec (mayBeOne a b) ρ (mayBeOne a' b'):=by
 unfold mayBeOne;refine (Wu h).bind λρ₁ x y l1 e=>?_;obtain rfl:x=y:=e;refine (Wu (RelA.mono l1 k)).bind λρ₂ u v l2 e=>?_;obtain rfl:u=v:=e
 have hn: ∀{ρ':Rn} {c c':Ag},RelA ρ' c c'->AY T F N Ec (do pure ((<- shape c.block) matches AA (_,0)):Sem Bool) ρ' (do pure ((<- shape c'.block) matches AA (_,0))):=by
  intro ρ' c c' hc;exact (NM hc.1).bind λ_ p q _ e=>by obtain rfl:p=q:=e;exact λ_=>rfl
 refine (hn ((RelA.mono l1 h).mono l2)).bind λρ₃ p q l3 e=>?_;obtain rfl:p=q:=e;refine (hn (((RelA.mono l1 k).mono l2).mono l3)).bind λρ₄ r s l4 e=>?_;obtain rfl:r=s:=e;exact λ_=>rfl
theorem sK(h:RelA ρ a a')(k:RelA ρ b b'):AY T F N Ec (sameAddr a b) ρ (sameAddr a' b'):=by
 unfold sameAddr;intro hok;have e1:=RelA.beq hok h k;have e2:=RelA.beq' hok h k;revert hok;simp only[e1,e2];by_cases hc:(a'.block==b'.block)=true
 ·simp only[hc,if_true];exact λ_=>rfl
 simp only[hc,if_false,C9];refine (TL h).bind λρ₁ x y l1 e=>?_;obtain rfl:x=y:=e;refine (TL (RelA.mono l1 k)).bind λρ₂ u v l2 e=>?_;obtain rfl:u=v:=e;by_cases hf:(x && u)=true
 ·simp only[hf,if_true];exact λ_=>Am
 simp only[hf,if_false,C9];have h2:=(RelA.mono l1 h).mono l2;have k2:=(RelA.mono l1 k).mono l2;refine (Wp h2).bind λρ₃ _ _ l3 _=>?_;refine (Wp (k2.mono l3)).bind λρ₄ _ _ l4 _=>?_;refine (sJ ((h2.mono l3).mono l4) ((k2.mono l3).mono l4)).bind λρ₅ p q l5 e=>?_;obtain rfl:p=q:=e;(cases p);exact λ_=>rfl;exact (Ja _).bind λ_ r s _ e=>by obtain rfl:r=s:=e;exact λ_=>rfl
theorem mP(hN:T.P.globals.size<N)(hp:Hy T.P t=true\/J4 T.P t y=true\/J4 T.P t x=true)(h:Az F ρ x x')(k:Az F ρ y y'):
  AY T F N Ec (Op.equal t x y) ρ (Op.equal t x' y'):=by
 have e0:Op.maxDepth=9999+1:=rfl;unfold Op.equal;rw[e0];unfold Op.equalIn;refine (BN t).bind λρ₁ d d' l1 e=>?_;obtain⟨rfl,hd⟩:=e;have h:=h.mono l1;have k:=k.mono l1;rcases hp with hp|hp|hp
 ·unfold Hy at hp;rw[hd] at hp;cases d<;>first|exact Ai (show false=true from hp) AV|skip
  ·
   cases h with
   |flat hf=>cases x<;>first
     |exact λ_=>Am
     |(cases k with
      |flat hk=>cases y<;>first|exact λ_=>rfl|exact λ_=>Am
      |_=>exact λ_=>Am)
   |_=>exact λ_=>Am
  ·
   split;(all_goals try (exact λ_=>Am));all_goals try contradiction
   case h_2=>
    rw[BP h rfl,BP k rfl];simp only;split;exact λ_=>rfl;exact λ_=>Am
   case h_3=>
    obtain⟨p',rfl,hp⟩:=Dh h;rw[BP k rfl]
    cases p' with|none=>exact hp.elim|some a=>exact λ_=>rfl
   case h_4=>
    obtain⟨p',rfl,hp⟩:=Dh k;rw[BP h rfl]
    cases p' with|none=>exact hp.elim|some a=>exact λ_=>rfl
   case h_5=>
    obtain⟨p',rfl,hp⟩:=Dh h;obtain⟨q',rfl,hq⟩:=Dh k
    cases p' with
    |none=>exact hp.elim
    |some a'=>cases q' with
     |none=>exact hq.elim|some b'=>
      refine (Hl hp).bind λρ₂ z z' l2 e=>?_;refine (Hl (RelA.mono l2 hq)).bind λρ₃ u u' l3 e'=>?_;have ha:=e.1.mono l3;have hb:=e'.1;refine CU.bind λρ₄ p p' l4 e=>?_;obtain⟨rfl,rfl⟩:=e;have ha:=ha.mono l4;have hb:=hb.mono l4;intro hok;have e1:=RelA.beq hok ha hb;have e2:=RelA.beq' hok ha hb
      have e3:decide (z.1.block<T.P.globals.size)=decide (z'.1.block<T.P.globals.size):=by
       by_cases hlt:z.1.block<N\/z'.1.block<N;rw[hok.low _ _ ha.1 hlt];(have h1: ¬z.1.block<T.P.globals.size:=by omega);(have h2: ¬z'.1.block<T.P.globals.size:=by omega);simp[h1,h2]
      revert hok;simp only[e1,e2,e3];by_cases hc:(z'.1.block==u'.1.block && decide (z'.1.block<T.P.globals.size))=true
      ·simp only[hc,if_true];refine (Ku ha).bind λρ₅ x x' l5 e=>?_;obtain rfl:x=x':=e;refine (Ku (hb.mono l5)).bind λρ₆ y y' l6 e=>?_;obtain rfl:y=y':=e;exact λ_=>rfl
      simp only[hc,if_false,C9];refine (Cm t).bind λρ₅ x x' l5 e=>?_;obtain⟨rfl,_⟩:=e;split
      ·split;exact λ_=>rfl;exact λ_=>Am
      exact λ_=>Am
  ·
   cases h with
   |flat hf=>cases x<;>first
     |exact λ_=>Am
     |(cases k with
      |flat hk=>cases y<;>first|exact λ_=>rfl|exact λ_=>Am
      |_=>exact λ_=>Am)
   |_=>exact λ_=>Am
  ·
   rename_i elem;by_cases hx: ¬ ∃p,x=.pointer p
   ·cases x<;>first|exact λ_=>Am|exact Ai ⟨_,rfl⟩ hx
   have hx:=xH.1 hx;by_cases hy: ¬ ∃p,y=.pointer p
   ·obtain⟨p,rfl⟩:=hx;cases p<;>cases y<;>first|exact λ_=>Am|exact Ai ⟨_,rfl⟩ hy
   have hy:=xH.1 hy;obtain⟨p,rfl⟩:=hx;obtain⟨q,rfl⟩:=hy;obtain⟨p',rfl,hp'⟩:=Dh h;obtain⟨q',rfl,hq'⟩:=Dh k;(rcases p with _|a<;>rcases p' with _|a'<;>first|exact hp'.elim|skip);(all_goals rcases q with _|b<;>rcases q' with _|b'<;>first|exact hq'.elim|exact λ_=>rfl|skip);refine (EY elem).bind λρ₂ z z' l2 e=>?_;obtain rfl:z=z':=e;have ha:RelA ρ₂ a a':=RelA.mono l2 hp';have hb:RelA ρ₂ b b':=RelA.mono l2 hq';by_cases hz:z≠0
   ·simp only[hz,if_true,ne_eq,not_false_eq_true];exact sK ha hb
   simp only[hz,if_false,ne_eq];intro hok;have e2:=RelA.beq' hok ha hb;revert hok;simp only[e2];split;exact λ_=>rfl;exact (Ja _).bind λ_ u v _ e=>by obtain rfl:u=v:=e;exact λ_=>rfl
 ·
  have hk:flat y=true:=TM hp;rw[BP k hk];clear k hk;unfold J4 at hp;rw[hd] at hp;clear hd;split at hp;all_goals try (cases hp;done)
  all_goals
   rename_i heq;(cases heq);clear hp
   cases h<;>first
    |exact λ_=>rfl|exact λ_=>Am|(rename_i hm;cases x'<;>first|exact Ai (show false=true from hm) AV|exact λ_=>rfl|exact λ_=>Am)
    |(rename_i hf
      cases x<;>first|exact λ_=>rfl|exact λ_=>Am|(rename_i a;cases a<;>first|exact λ_=>rfl|exact λ_=>Am|exact Ai (show false=true from hf) AV)|(rename_i a _ _;cases a<;>first|exact λ_=>rfl|exact λ_=>Am|exact Ai (show false=true from hf) AV))
 ·
  have hk:flat x=true:=TM hp;rw[BP h hk];clear h hk;unfold J4 at hp;rw[hd] at hp;clear hd;split at hp;all_goals try (cases hp;done)
  all_goals
   rename_i heq;(cases heq);clear hp
   cases k<;>first
    |exact λ_=>rfl|exact λ_=>Am|(rename_i hm;cases y'<;>first|exact Ai (show false=true from hm) AV|exact λ_=>rfl|exact λ_=>Am)
    |(rename_i hf
      cases y<;>first|exact λ_=>rfl|exact λ_=>Am|(rename_i a;cases a<;>first|exact λ_=>rfl|exact λ_=>Am|exact Ai (show false=true from hf) AV)|(rename_i a _ _;cases a<;>first|exact λ_=>rfl|exact λ_=>Am|exact Ai (show false=true from hf) AV))
end
end
section
variable {t:Aj}{x x' y y':AP}
section
variable {T:Twin} {F:Fs} {N:Nat} {ρ:Rn} {α β γ:Type}
theorem Q3(h:Az F ρ x x'):(∃p,x=.agg p)↔∃p,x'=.agg p:=by
 cases h with
 |tok _ ht=>
  constructor
  ·rintro⟨p,e⟩;cases e
  rintro⟨p,e⟩;subst e;cases ht
 |agg _ _=>exact⟨λ_=>⟨_,rfl⟩,λ_=>⟨_,rfl⟩⟩|flat _=>exact lS|mf _ hm=>
  constructor
  ·rintro⟨p,e⟩;cases e
  rintro⟨p,e⟩;subst e;cases hm
 |_=>
  constructor
  ·rintro⟨p,e⟩;cases e
  rintro⟨p,e⟩;cases e
theorem VC(h:Az F ρ x x'):x=.nilIface↔x'=.nilIface:=by
 cases h with
 |tok _ ht=>
  constructor;intro e;cases e;intro e;subst e;cases ht
 |flat _=>exact lS|mf _ hm=>
  constructor;intro e;cases e;intro e;subst e;cases hm
 |_=>
  constructor;intro e;cases e;intro e;cases e
theorem ML(h:Az F ρ x x')(hf:flat x'=true):x=x':=by
 cases h with
 |tok hc ht hp=>clear hp;cases x'<;>first|exact Ai (show false=true from ht) AV|exact Ai (show false=true from hf) AV|(rename_i a _ _;cases a<;>first|exact Ai (show false=true from ht) AV|exact Ai (show false=true from hf) AV)|(rename_i a;cases a<;>first|exact Ai (show false=true from ht) AV|exact Ai (show false=true from hf) AV)
 |flat _=>rfl|mf _ hm=>cases x'<;>first|exact Ai (show false=true from hm) AV|exact Ai (show false=true from hf) AV
 |_=>exact Ai (show false=true from hf) AV
theorem Rq{P:BL}(hp:Hy P t=true):P.eqGuardType P.depth t=false:=by
 have e:P.depth=(2*(P.types.size+Made.depth)+1)+1:=rfl;rw[e];unfold Program.eqGuardType;unfold Hy at hp
 cases hd:P.underlying t with|none=>rfl|some d=>rw[hd] at hp;cases d<;>first|rfl|exact Ai (show false=true from hp) AV
theorem aJ(op:BinOp)(o₁ o₂:Operand)(hp:(op=.eql\/op=.neq)->Hy T.P t=true\/J4 T.P t y=true\/J4 T.P t x=true)(h:Az F ρ x x')(k:Az F ρ y y'):
  AY T F N Ec (eqGuard op t o₁ o₂ x y) ρ (eqGuard op t o₁ o₂ x' y'):=by
 by_cases hq: ¬(op=.eql\/op=.neq)
 ·(have: ∀a b,eqGuard op t o₁ o₂ a b=pure ():=λa b=>by cases op<;>first|rfl|exact Ai (.inl rfl) hq|exact Ai (.inr rfl) hq);rw[this,this];exact λ_=>rfl
 have hq:=xH.1 hq;have hp:=hp hq;(have e0:eqGuard op t o₁ o₂=eqGuard .eql t o₁ o₂:=by rcases hq with rfl|rfl<;>rfl);rw[e0];by_cases h1:x=.nilIface/\y=.nilIface
 ·obtain⟨rfl,rfl⟩:=h1;rw[BP h rfl,BP k rfl];simp only[eqGuard,lT,C9,if_false]
  have g:AY T F N Ec (Op.eqGuardIn Op.maxDepth t .nilIface .nilIface) ρ (Op.eqGuardIn Op.maxDepth t .nilIface .nilIface):=by
   have e0:Op.maxDepth=9999+1:=rfl;rw[e0];unfold Op.eqGuardIn;refine (BN t).bind λρ₁ d d' l1 e=>?_;obtain⟨rfl,_⟩:=e;cases d<;>exact λ_=>rfl
  cases o₁<;>cases o₂<;>first
   |exact λ_=>rfl
   |(refine g.bind λρ₁ a b _ e=>?_
     obtain rfl:a=b:=e;(cases a);exact λ_=>rfl
     exact λ_=>Am)
 by_cases h2:(∃p,x=.agg p)/\∃p,y=.agg p
 ·obtain⟨⟨p,rfl⟩,⟨q,rfl⟩⟩:=h2;obtain⟨p',rfl⟩:=(Q3 h).1 ⟨_,rfl⟩;obtain⟨q',rfl⟩:=(Q3 k).1 ⟨_,rfl⟩
  have hp:Hy T.P t=true:=by
   rcases hp with hp|hp|hp;exact hp;exact Ai (show false=true from TM hp) AV;exact Ai (show false=true from TM hp) AV
  simp only[eqGuard,lT,C9,if_false];refine CU.bind λρ₁ p p' l1 e=>?_;obtain⟨rfl,rfl⟩:=e;refine CU.bind λρ₂ p p' l1 e=>?_;obtain⟨rfl,rfl⟩:=e;have h1:T.v.eqGuardType T.v.depth t=false:=Rq (P:=T.v) hp;have h2:T.P.eqGuardType T.P.depth t=false:=Rq hp;simp only[h1,h2,AHu,if_true];exact λ_=>rfl
 have h1': ¬(x'=.nilIface/\y'=.nilIface):=λe=>h1 ⟨(VC h).2 e.1,(VC k).2 e.2⟩;have h2': ¬((∃p,x'=.agg p)/\∃p,y'=.agg p):=λe=>h2 ⟨(Q3 h).2 e.1,(Q3 k).2 e.2⟩
 have key: ∀a b:AP,¬(a=.nilIface/\b=.nilIface)->¬((∃p,a=.agg p)/\∃p,b=.agg p)->eqGuard .eql t o₁ o₂ a b=pure ():=by
  intro a b g1 g2;simp only[eqGuard,lT,C9,if_false];split;exact Ai ⟨rfl,rfl⟩ g1;exact Ai ⟨⟨_,rfl⟩,⟨_,rfl⟩⟩ g2;rfl
 rw[key _ _ h1 h2,key _ _ h1' h2'];exact λ_=>rfl
theorem AAy{b:Nat}(hp:Hy T.P t=true\/J4 T.P t y=true\/J4 T.P t (.chan (AA b))=true):CW T (Op.equal t (.chan (AA b)) y):=by
 have e0:Op.maxDepth=9999+1:=rfl;unfold Op.equal;rw[e0];unfold Op.equalIn;show CW T ((match T.P.underlying t with|some d=>pure d|none=>stuck "no such type" :Sem TypeDesc).bind _)
 cases hd:T.P.underlying t with
 |none=>exact Am|some d=>
  rcases hp with hp|hp|hp
  ·unfold Hy at hp;rw[hd] at hp;cases d<;>first|exact Ai (show false=true from hp) AV|exact Am|(cases y<;>first|exact Am|(rename_i a;cases a<;>exact Am))
  ·unfold J4 at hp;rw[hd] at hp;split at hp;all_goals try (cases hp;done)
   all_goals
    rename_i heq;(cases heq);exact Am
  unfold J4 at hp;rw[hd] at hp;cases d<;>exact Ai (show false=true from hp) AV
theorem yC(hN:T.P.globals.size<N){op:BinOp}(hq:op=.eql\/op=.neq)(hp:Hy T.P t=true\/J4 T.P t y=true\/J4 T.P t x=true)(h:Az F ρ x x')(k:Az F ρ y y'):
  AY T F N (QV F) (binOp op t x y) ρ (binOp op t x' y'):=by
 have heq:=mP hN hp h k
 have nof: ∀{a a':AP},(∀b,a≠ .chan (AA b))->Az F ρ a a'->(∀k n,a'≠ .float k n)/\(∀k n m,a'≠ .complex k n m):=by
  intro a a' hna ha;constructor
  ·rintro k n rfl
   cases ha with|flat hf=>exact Ai (show false=true from hf) AV|tok _ ht=>exact hna _ rfl|mf _ hm=>cases hm
  rintro k n m rfl
  cases ha with|flat hf=>exact Ai (show false=true from hf) AV|tok _ ht=>exact hna _ rfl|mf _ hm=>cases hm
 have key: ∀a b:AP,(∀k₁ n k₂ m,¬(a=.int k₁ n/\b=.int k₂ m))->(∀n m,¬(a=.string n/\b=.string m))->(∀k n,a≠ .float k n)->(∀k n m,a≠ .complex k n m)->
   binOp .eql t a b=(do pure (.bool (<- Op.equal t a b)))/\binOp .neq t a b=(do pure (.bool (!(<- Op.equal t a b)))):=by
  intro a b g1 g2 g3 g4;constructor
  ·unfold binOp
   split<;>first
    |rfl|(rename_i e;cases e;done)|exact Ai ⟨rfl,rfl⟩ (g1 _ _ _ _)|exact Ai rfl (g3 _ _)|exact Ai rfl (g4 _ _ _)|exact Ai ⟨rfl,rfl⟩ (g2 _ _)|contradiction|simp_all
  unfold binOp
  split<;>first
   |rfl|exact Ai ⟨rfl,rfl⟩ (g1 _ _ _ _)|exact Ai rfl (g3 _ _)|exact Ai rfl (g4 _ _ _)|exact Ai ⟨rfl,rfl⟩ (g2 _ _)|contradiction|simp_all
 by_cases h1: ∃k₁ n k₂ m,x=.int k₁ n/\y=.int k₂ m
 ·obtain⟨k₁,a,k₂,b,rfl,rfl⟩:=h1;rw[BP h rfl,BP k rfl];rcases hq with rfl|rfl
  ·simp only[binOp];split;exact λ_=>Am;exact λ_=>.flat rfl
  simp only[binOp];split;exact λ_=>Am;exact λ_=>.flat rfl
 by_cases h2: ∃n m,x=.string n/\y=.string m
 ·obtain⟨a,b,rfl,rfl⟩:=h2;rw[BP h rfl,BP k rfl];rcases hq with rfl|rfl;exact λ_=>.flat rfl;exact λ_=>.flat rfl
 by_cases hch: ∃b,x=.chan (AA b)
 ·obtain⟨b,rfl⟩:=hch;have e1:=key (.chan (AA b)) y (λ_ _ _ _ e=>by cases e.1) (λ_ _ e=>by cases e.1) (λ_ _ e=>by cases e) (λ_ _ _ e=>by cases e);rcases hq with rfl|rfl;rw[e1.1];exact RU (AAy hp).bind _;rw[e1.2];exact RU (AAy hp).bind _
 have nx:(∀k n,x≠ .float k n)/\(∀k n m,x≠ .complex k n m):=by
  constructor
  ·rintro k n rfl
   cases h with|flat hf=>exact Ai (show false=true from hf) AV
  rintro k n m rfl
  cases h with|flat hf=>exact Ai (show false=true from hf) AV
 have e1:=key x y (λa b c d e=>h1 ⟨a,b,c,d,e⟩) (λa b e=>h2 ⟨a,b,e⟩) nx.1 nx.2
 have e2:=key x' y' (λa b c d e=>h1 ⟨a,b,c,d,by obtain⟨rfl,rfl⟩:=e;exact⟨ML h rfl,ML k rfl⟩⟩)
  (λa b e=>h2 ⟨a,b,by obtain⟨rfl,rfl⟩:=e;exact⟨ML h rfl,ML k rfl⟩⟩) (nof (λb e=>hch ⟨b,e⟩) h).1 (nof (λb e=>hch ⟨b,e⟩) h).2
 rcases hq with rfl|rfl
 ·rw[e1.1,e2.1];exact heq.bind λρ₁ a b _ e=>by obtain rfl:a=b:=e;exact λ_=>.flat rfl
 rw[e1.2,e2.2];exact heq.bind λρ₁ a b _ e=>by obtain rfl:a=b:=e;exact λ_=>.flat rfl
end
end
section
variable {fb:Fb}{name:String}{T:Tables}{t:Aj}{info:Aj->Option Qk}{i:Qk}
theorem WM{fs:Array Field}(h:Made.reckonStruct info fs=AA i):i.methods= #[]:=by
 unfold Made.reckonStruct at h;simp only[gX,UG,gY] at h;obtain⟨q,_,h⟩:=h;split at h
 all_goals
  simp only[DN] at h;rw[<- h]
theorem jV{d:TypeDesc}(h:Made.reckon info d=AA i):i.methods= #[]:=by
 unfold Made.reckon at h;cases d
 case struct fs=>exact WM h
 case pointer el=>
  simp only[gX,UG,gY] at h;obtain⟨a,_,h⟩:=h;split at h;cases h
  ·split at h;(cases h);simp only[UG,DN] at h;obtain⟨_,_,h⟩:=h;rw[<- h];rfl
  simp only[UG,DN] at h;obtain⟨_,_,h⟩:=h;rw[<- h];rfl
 case slice=>simp only[gX,UG,gY,DN] at h;obtain⟨_,_,_,_,h⟩:=h;rw[<- h];rfl
 case array=>simp only[gX,UG,gY,DN] at h;obtain⟨_,_,_,_,h⟩:=h;rw[<- h]
 case map=>simp only[gX,UG,gY,DN] at h;obtain⟨_,_,_,_,_,_,_,_,h⟩:=h;rw[<- h];rfl
 case chan=>simp only[gX,UG,gY,DN] at h;obtain⟨_,_,_,_,h⟩:=h;rw[<- h];rfl
 case func=>simp only[gX,UG,gY,DN] at h;obtain⟨_,_,h⟩:=h;rw[<- h];rfl
 all_goals cases h
theorem sN: ∀{n:Nat} {t:Aj} {i:Qk},¬t<T.types.size->Made.infoAt T n t=AA i->i.methods= #[]
 |0,_,_,_,h=>by cases h
 |n+1,t,i,ht,h=>by
  unfold Made.infoAt at h;rw[BM ht] at h;obtain⟨d,_,h⟩:=UG.1 h;exact jV h
theorem sO(ht: ¬t<T.types.size)(h:T.info? t=AA i):i.methods= #[]:=by
 unfold Tables.info? at h;rw[BM ht] at h;exact sN ht h
def Q4 (P:BL) (fb:Fb) (name:String):Bool:=
 (List.range P.types.size).all λt=>
  match P.types[t]? with
  |some i=>match i.methods.find? (·.name==name) with
   |some m=>m.path.all (λs=> !s.deref) && (match m.func with|some (f,ptr)=>((fb f && (fb.a f).isNone) || fb.e f) && (ptr || (m.path.isEmpty && !(match P.underlying t with|some (.pointer _)=>true|_=>false)))|none=>false)
   |none=>true
  |none=>true
section
variable {T:Twin} {F:Fs} {N:Nat} {ρ:Rn} {α β γ:Type}
def KJ (T:Twin) (F:Fs) (N:Nat) (f:Array AP->Sem AP):Prop:=∀{ρ:Rn} {p p':Array AP},Au F ρ p p'->AY T F N (QV F) (f p) ρ (f p')
def AAz (fb:Fb) (f:FuncId):Prop:=(fb f=true/\fb.a f=AB)\/fb.e f=true
theorem AA0(h:Q4 T.P fb name=true){m:Method}(hi:T.P.info? t=AA i)(hm:i.methods.find? (·.name==name)=AA m):
  (∀s∈m.path.toList,s.deref=false)/\∃f ptr,m.func=AA (f,ptr)/\AAz fb f/\(ptr=false->m.path.toList=[]/\∀e,T.P.underlying t≠AA (.pointer e)):=by
 by_cases ht:t<T.P.types.size
 ·have h1:T.P.types[t]? =AA i:=by
   (have:T.P.info? t=T.P.types[t]? :=by unfold Tables.info?;rw[BZ ht]);rw[<- this];exact hi
  have h2:=JC.1 h t (WZ.2 ht);rw[h1] at h2;simp only[hm,DU] at h2;obtain⟨hp,h3⟩:=h2;refine⟨λs hs=>by have:=U5.1 hp s (xI.1 hs);simpa using this,?_⟩
  cases hf:m.func with
  |none=>rw[hf] at h3;cases h3|some q=>
   obtain⟨f,ptr⟩:=q;rw[hf] at h3;simp only[DU,We] at h3;refine⟨f,ptr,rfl,h3.1.imp (λh=>⟨h.1,by simpa using h.2⟩) id,λe=>?_⟩;rcases h3.2 with h4|h4;rw[e] at h4;cases h4;refine⟨by simpa[Array.isEmpty_iff] using h4.1,λel hel=>?_⟩;rw[hel] at h4;cases h4.2
 have:=sO ht hi;rw[this] at hm;simp at hm
theorem iD: ∀(l:List FieldStep) (t:Aj) {x x':AP} {ρ:Rn},(∀s∈l,s.deref=false)->Az F ρ x x'->
  AY T F N (λρ (a b:Aj×Place)=>a.1=b.1/\(l=[]->a.1=t)/\∃v v',a.2=.val v/\b.2=.val v'/\Az F ρ v v') (follow l t (.val x)) ρ (follow l t (.val x'))
 | [],t,x,x',ρ,_,h=>λ_=>⟨rfl,λ_=>rfl,_,_,rfl,rfl,h⟩
 |s::rest,t,x,x',ρ,hl,h=>by
  unfold follow;refine (BN s.struct).bind λρ₁ d d' l1 e=>?_;obtain⟨rfl,hd⟩:=e;(cases d<;>first|exact λ_=>Am|skip);rename_i fields
  cases hfi:fields[s.index]? with
  |none=>simp only[hfi];exact λ_=>Am|some f=>
   simp only[hfi,hl s (D9 ..),C9,if_false]
   have key: ∀{p p':Array AP},Au F ρ₁ p p'->AY T F N (λρ (a b:Aj×Place)=>a.1=b.1/\(s::rest=[]->a.1=t)/\∃v v',a.2=.val v/\b.2=.val v'/\Az F ρ v v') (do follow rest f.type (.val (<- part f.type p f.offset))) ρ₁ (do follow rest f.type (.val (<- part f.type p' f.offset))):=λhp=>
    (uM f.type hp f.offset).bind λρ₂ v v' l2 hv=>(iD rest f.type (λs hs=>hl s (CO _ hs)) hv).mono λ_ _ _ _ hq=>⟨hq.1,λe=>Ai e AV,hq.2.2⟩
   have h:=h.mono l1
   cases h with
   |flat hf=>cases x<;>first|exact λ_=>Am|exact Ai (show false=true from hf) AV
   |agg h1 h2=>exact key ⟨h1,h2⟩|_=>exact λ_=>Am
theorem iE(hm:Q4 T.P fb name=true): ∀(n:Nat) (t:Aj) {x x':AP} {ρ:Rn},Az F ρ x x'->
  AY T F N (λρ a b=>a.1=b.1/\AAz fb a.1/\Az F ρ a.2 b.2) (method n t x name) ρ (method n t x' name)
 |0,t,x,x',ρ,h=>λ_=>Am
 |n+1,t,x,x',ρ,h=>by
  unfold method;refine (Cm t).bind λρ₁ i i' l1 e=>?_;obtain⟨rfl,hi⟩:=e
  cases hf:i.methods.find? (·.name==name) with
  |none=>exact λ_=>Am|some m=>
   obtain⟨hp,f,ptr,hfn,hfb,hpt⟩:=AA0 hm hi hf;simp only[hfn];refine (iD m.path.toList t hp (h.mono l1)).bind λρ₂ a b l2 hq=>?_;obtain⟨xt,y⟩:=a;obtain⟨xt',y'⟩:=b;obtain⟨e1,e2,v,v',e3,e4,hx⟩:=hq;simp only at e1 e2 e3 e4;subst e1 e3 e4;refine AY.bind (Q:=QV F) ?_ λρ₃ a b l2 hab=>λ_=>⟨rfl,hfb,hab⟩;unfold receiverAt;refine (BN xt).bind λρ₃ d d' l2 e=>?_;obtain⟨rfl,hd⟩:=e
   cases ptr with
   |true=>
    cases d<;>first|exact λ_=>Am|exact λ_=>hx.mono l2
   |false=>
    obtain⟨hp0,this⟩:=hpt rfl;rw[e2 hp0] at hd;cases d<;>first|exact Ai hd (this _)|exact λ_=>hx.mono l2
end
end
section
variable {es es':Array Dp}{α β:Type}{d:TypeDesc}{t:Aj}{k k' x x' y y':AP}
def Wv (P:BL) (t:Aj):Bool:=
 match P.underlying t with|some .string|some (.int _)|some (.pointer _)=>true|_=>false
def Wy (P:BL) (t:Aj):Bool:=
 match P.underlying t with|some (.map k e)=>Wv P k && Hg P e|_=>false
theorem Wv.plain{P:BL}(h:Wv P t=true):Hy P t=true:=by
 unfold Wv at h;unfold Hy
 cases hd:P.underlying t with|none=>rw[hd] at h;cases h|some d=>rw[hd] at h;cases d<;>first|rfl|exact Ai (show false=true from h) AV
section
variable {T:Twin} {F:Fs} {N:Nat} {ρ:Rn} {α β γ:Type}
theorem Pn(b b':Bool)(h:Wv T.P t=true)(x x':AP):AY T F N Ec (Ua b 10000 t x) ρ (Ua b' 10000 t x'):=by
 have e0:(10000:Nat)=9999+1:=rfl;rw[e0];unfold Ua;refine (BN t).bind λρ₁ d d' l1 e=>?_;obtain⟨rfl,hd⟩:=e;unfold Wv at h;rw[hd] at h;cases d<;>first|exact Ai (show false=true from h) AV|exact λ_=>rfl
def QK (F:Fs) (ρ:Rn) (x y:Option (Nat×AP)):Prop:=match x,y with
 |some p,AA q=>p.1=q.1/\Az F ρ p.2 q.2|none,AB=>True|_,_=>False
theorem Po(h:Az F ρ x x'):flat x'=true->flat x=true:=λhf=>by rw[ML h hf];exact hf
theorem QC(h:flat x=false\/flat y=false):Zv d x y=AB:=by
 unfold Zv;split<;>first|rfl|(rcases h with h|h<;>cases h)
theorem yD(h:Az F ρ x x')(k:Az F ρ y y'):Zv d x y=Zv d x' y':=by
 by_cases hx:flat x=true
 ·by_cases hy:flat y=true;rw[BP h hx,BP k hy];rw[QC (.inr (by simpa using hy)),QC (.inr (by cases e:flat y' with|false=>rfl|true=>exact Ai (Po k e) hy))]
 rw[QC (.inl (by simpa using hx)),QC (.inl (by cases e:flat x' with|false=>rfl|true=>exact Ai (Po h e) hx))]
def mQ (x y:AP):Prop:=flat x=true\/flat y=true\/∃p q,x=.pointer p/\y=.pointer q
def QKi (F:Fs) (k:AP) (l:List Dp) (i:Nat) (ρ:Rn) (x y:Option (Nat×AP)):Prop:=QK F ρ x y/\∀p,x=AA p->i<=p.1/\∃e,l[p.1 - i]? =AA e/\mQ k e.key
theorem QKi.cons{k:AP}{e:Dp}{l:List Dp}{i:Nat}{x y:Option (Nat×AP)}(h:QKi F k l (i+1) ρ x y):QKi F k (e::l) i ρ x y:=
 ⟨h.1,λp hp=>by
  obtain⟨h1,h2⟩:=h.2 p hp;refine⟨Ad,?_⟩;rw[show p.1 - i=p.1 - (i+1)+1 by omega]
  exact h2⟩
theorem yE(hk:Az F ρ k k'): ∀{l l':List Dp},Cc (Fp F ρ) l l'->∀i,
  (Ub d k l i=AB/\Ub d k' l' i=AB)\/∃r r',Ub d k l i=AA r/\Ub d k' l' i=AA r'/\QKi F k l i ρ r r':=by
 intro l l' h
 induction h with
 |nil=>intro i;exact .inr ⟨AB,AB,rfl,rfl,Am,λp hp=>by cases hp⟩
 | @cons e e' l l' ha _ ih=>
  intro i;unfold Ub;rw[<- yD hk ha.key]
  cases hn:Zv d k e.key with
  |none=>exact .inl ⟨rfl,rfl⟩|some x=>
   cases x
   ·exact (ih (i+1)).imp id λ⟨r,r',h1,h2,h3⟩=>⟨r,r',h1,h2,h3.cons⟩
   refine .inr ⟨_,_,rfl,rfl,⟨rfl,ha.val⟩,λp hp=>?_⟩;(cases hp);refine⟨Ba _,e,AV,.inl ?_⟩
   cases hf:flat k with|true=>rfl|false=>rw[QC (.inl hf)] at hn;cases hn
theorem AA1(ht:Hy T.P t=true)(h: ¬mQ x y):CW T (Op.equal t x y):=by
 have e0:Op.maxDepth=9999+1:=rfl;unfold Op.equal;rw[e0];unfold Op.equalIn;show CW T ((match T.P.underlying t with|some d=>pure d|none=>stuck "no such type" :Sem TypeDesc).bind _)
 cases hd:T.P.underlying t with
 |none=>exact Am|some d=>
  unfold Hy at ht;rw[hd] at ht;(have h1:flat x=false:=by cases e:flat x with|false=>rfl|true=>exact Ai (.inl e) h);(have h2:flat y=false:=by cases e:flat y with|false=>rfl|true=>exact Ai (.inr (.inl e)) h);cases d<;>first|exact Ai (show false=true from ht) AV|skip
  all_goals
   cases x<;>first|exact Ai (show true=false from h1) AV|exact Am|skip
  all_goals
   rename_i a;cases a<;>first|exact Ai (show true=false from h1) AV|skip
  all_goals
   cases y<;>first|exact Ai (show true=false from h2) AV|exact Am|exact Ai (.inr (.inr ⟨_,_,rfl,rfl⟩)) h
theorem Fp.mono{ρ':Rn}(h:ρ.le ρ'){e e':Dp}(k:Fp F ρ e e'):Fp F ρ' e e':=⟨k.key.mono h,k.val.mono h,k.born⟩
theorem jW(hN:T.P.globals.size<N)(ht:Hy T.P t=true): ∀{l l':List Dp} {ρ:Rn} {k k':AP},Az F ρ k k'->Cc (Fp F ρ) l l'->∀i,
  AY T F N (QKi F k l i) (rX t k l i) ρ (rX t k' l' i):=by
 intro l
 induction l with
 |nil=>intro l' ρ k k' hk h i;cases h;exact λ_=>⟨Am,λp hp=>by cases hp⟩
 |cons e l ih=>
  intro l' ρ k k' hk h i
  cases h with|cons ha hl=>
  unfold rX;by_cases hg:mQ k e.key
  ·refine (mP hN (.inl ht) hk ha.key).bind λρ₁ x y l1 e=>?_;obtain rfl:x=y:=e;(cases x);exact (ih (hk.mono l1) (CV (λ_ _=>Fp.mono l1) hl) _).mono λ_ _ _ _ h=>h.cons;refine λ_=>⟨⟨rfl,ha.val.mono l1⟩,λp hp=>?_⟩;(cases hp);exact⟨Ba _,e,AV,hg⟩
  exact RU (CW.bind (AA1 ht hg)) _
theorem VD(hN:T.P.globals.size<N)(ht:Wv T.P t=true)(hk:Az F ρ k k'){l l':List Dp}(h:Cc (Fp F ρ) l l'):
  AY T F N (QKi F k l 0) (Xz t k l) ρ (Xz t k' l'):=by
 unfold Xz;refine (BN t).bind λρ₁ d d' l1 e=>?_;obtain⟨rfl,hd⟩:=e;have hk:=hk.mono l1;have h:=CV (λ_ _=>Fp.mono l1) h;rcases yE (d:=d) hk h 0 with ⟨e1,e2⟩|⟨r,r',e1,e2,hr⟩
 ·rw[e1,e2];exact jW hN (Wv.plain ht) hk h 0
 rw[e1,e2];exact λ_=>hr
theorem AGV{R:α->β->Prop}{l:List α}{l':List β}(h:l.length=l'.length)(k: ∀(i:Nat) (a:α) (b:β),l[i]? =AA a->l'[i]? =AA b->R a b):Cc R l l':=by
 induction l generalizing l' with
 |nil=>cases l' with
  |nil=>exact .nil|cons b l'=>simp at h
 |cons a l ih=>cases l' with
  |nil=>simp at h|cons b l'=>exact .cons (k 0 a b rfl rfl) (ih (by simpa using h) λi x y h1 h2=>k (i+1) x y h1 h2)
theorem MM(hs:es.size=es'.size)(he: ∀(i:Nat) (e e':Dp),es[i]? =AA e->es'[i]? =AA e'->Fp F ρ e e'):Cc (Fp F ρ) es.toList es'.toList:=
 AGV (by simpa using hs) λi a b h1 h2=>he i a b (by simpa using h1) (by simpa using h2)
theorem X9{R:α->β->Prop}{l:List α}{l':List β}(h:Cc R l l'):l.length=l'.length:=by
 induction h with|nil=>rfl|cons _ _ ih=>simp[ih]
theorem ALU(hs:es.size=es'.size)(he: ∀(i:Nat) (e e':Dp),es[i]? =AA e->es'[i]? =AA e'->Fp F ρ e e'){g g':Dp->Dp}
  (hg: ∀e e',Fp F ρ e e'->Fp F ρ (g e) (g' e')) (j:Nat):(es.modify j g).size=(es'.modify j g').size/\∀(i:Nat) (e e':Dp),(es.modify j g)[i]? =AA e->(es'.modify j g')[i]? =AA e'->Fp F ρ e e':=by
 refine⟨by simp[hs],λi e e' h1 h2=>?_⟩;rw[LV] at h1 h2;split at h1
 ·rename_i hj;rw[BZ hj] at h2;obtain⟨a,ha,rfl⟩:=Jz.1 h1;obtain⟨b,hb,rfl⟩:=Jz.1 h2;exact hg _ _ (he _ _ _ ha hb)
 rename_i hj;rw[BM hj] at h2;exact he _ _ _ h1 h2
theorem AH4(hs:es.size=es'.size)(he: ∀(i:Nat) (e e':Dp),es[i]? =AA e->es'[i]? =AA e'->Fp F ρ e e'){a a':Dp}(ha:Fp F ρ a a'):
  (es.push a).size=(es'.push a').size/\∀(i:Nat) (e e':Dp),(es.push a)[i]? =AA e->(es'.push a')[i]? =AA e'->Fp F ρ e e':=by
 refine⟨by simp[hs],λi e e' h1 h2=>?_⟩;rw[AMN] at h1 h2;rw[<- hs] at h2;split at h1
 ·rename_i hj;rw[BZ hj] at h2;cases h1;cases h2;exact ha
 rename_i hj;rw[BM hj] at h2;exact he _ _ _ h1 h2
theorem AA2(hN:T.P.globals.size<N)(ht:Wy T.P t=true)(h:Az F ρ x x')(hk:Az F ρ k k')(c:Bool):
  AY T F N (QV F) (PY t x k c) ρ (PY t x' k' c):=by
 unfold PY;refine (BN t).bind λρ₁ d d' l1 e=>?_;obtain⟨rfl,hd⟩:=e;unfold Wy at ht;rw[hd] at ht;have h:=h.mono l1;have hk:=hk.mono l1;(cases d<;>first|exact Ai (show false=true from ht) AV|skip);rename_i key elem;simp only[DU] at ht
 have rest: ∀{ρ':Rn} {es es':Array Dp} {k k':AP},Az F ρ' k k'->es.size=es'.size->(∀(i:Nat) (e e':Dp),es[i]? =AA e->es'[i]? =AA e'->Fp F ρ' e e')->
   AY T F N (QV F) (Ua es.isEmpty 10000 key k>>=λ_=>Xz key k es.toList>>=λr=>match r with|some (_,v)=>pure (if c then .tuple #[v,.bool true] else v)|none=>GM elem>>=λz=>pure (if c then .tuple #[z,.bool false] else z)) ρ'
    (Ua es'.isEmpty 10000 key k'>>=λ_=>Xz key k' es'.toList>>=λr=>match r with|some (_,v)=>pure (if c then .tuple #[v,.bool true] else v)|none=>GM elem>>=λz=>pure (if c then .tuple #[z,.bool false] else z)):=by
  intro ρ' es es' k k' hk hs he;refine (Pn _ _ ht.1 k k').bind λρ₂ _ _ l2 _=>?_;refine (VD hN ht.1 (hk.mono l2) (CV (λ_ _=>Fp.mono l2) (MM hs he))).bind λρ₃ r r' l3 hr=>?_;have hr:=hr.1
  have fin: ∀{ρ:Rn} {v v':AP} (b:Bool),Az F ρ v v'->Az F ρ (if c then .tuple #[v,.bool b] else v) (if c then .tuple #[v',.bool b] else v'):=by
   intro ρ v v' b hv;(cases c);exact hv;exact .tuple rfl (Au.push (Au.one hv) (.flat rfl)).2
  rcases r with _|⟨i,v⟩<;>rcases r' with _|⟨i',v'⟩<;>first|exact hr.elim|skip
  ·exact (OB elem ht.2).bind λ_ z z' _ e=>λ_=>fin _ (by rw[<- e.1];exact e.2)
  exact λ_=>fin _ hr.2
 cases h with
 |flat hf=>
  (cases x<;>first|exact λ_=>Am|exact Ai (show false=true from hf) AV|skip);rename_i m;(cases m<;>first|exact Ai (show false=true from hf) AV|skip);exact rest (es:=#[]) (es':=#[]) hk rfl (λi e e' h1=>by simp at h1)
 |map hb=>
  intro hok;refine⟨hb,λo o' ho=>?_⟩
  cases ho with|map hs he=>exact rest hk hs he hok|_=>exact Am
 |_=>exact λ_=>Am
theorem AH5(hs:es.size=es'.size){i:Nat}{e:Dp}(h:es[i]? =AA e): ∃e',es'[i]? =AA e':=
 ⟨es'[i]'(by have:=(Df.1 h).1;omega),FD _⟩
theorem aK(n:Nat)(hx:flat x=true)(hy:flat y=false):Qn (n+1) y x=false/\Qn (n+1) x y=false:=by
 (cases x<;>first|exact Ai (show false=true from hx) AV|skip);all_goals cases y<;>first|exact Ai (show true=false from hy) AV|exact⟨rfl,rfl⟩|skip
 all_goals
  rename_i a b;(cases a<;>first|exact Ai (show false=true from hx) AV|skip);cases b<;>first|exact Ai (show true=false from hy) AV|exact⟨rfl,rfl⟩
theorem XA(n:Nat)(hf:flat x=true)(k:Az F ρ y y'):Qn (n+1) y x=Qn (n+1) y' x/\Qn (n+1) x y=Qn (n+1) x y':=by
 by_cases hy:flat y=true;rw[BP k hy];exact⟨rfl,rfl⟩;have h1:=aK n hf (show flat y=false by simpa using hy);have h2:=aK n hf (show flat y'=false by cases e:flat y' with|false=>rfl|true=>exact Ai (Po k e) hy);rw[h1.1,h1.2,h2.1,h2.2];exact⟨rfl,rfl⟩
theorem sQ(hok:ρ.Ok N)(hg:mQ x y)(h:Az F ρ x x')(k:Az F ρ y y'):Qn 10000 y x=Qn 10000 y' x':=by
 have e0:(10000:Nat)=9999+1:=rfl;rw[e0];rcases hg with hf|hf|⟨p,q,rfl,rfl⟩;rw[BP h hf];exact (XA _ hf k).1;rw[BP k hf];exact (XA _ hf h).2;obtain⟨p',rfl,hp⟩:=Dh h;obtain⟨q',rfl,hq⟩:=Dh k;(rcases p with _|a<;>rcases p' with _|a'<;>first|exact hp.elim|skip);(all_goals rcases q with _|b<;>rcases q' with _|b'<;>first|exact hq.elim|exact rfl|skip);have:=RelA.beq' hok hq hp;simp only[Qn];show (AA b==AA a)=(AA b'==AA a');simpa using this
theorem aN(hg:mQ x y)(h:Az F ρ x x')(k:Az F ρ y y'):AY T F N (QV F) (AAe y x) ρ (AAe y' x'):=by
 intro hok;have e:=sQ hok hg h k;revert hok;unfold AAe;rw[e];split;exact λ_=>h;refine (Ja _).bind λρ₁ a b l1 e=>?_;obtain rfl:a=b:=e;split;exact λ_=>h.mono l1;exact λ_=>k.mono l1
theorem QD{b b' c:Nat}(h:ρ.r b b')(he:es.size=es'.size/\∀(i:Nat) (e e':Dp),es[i]? =AA e->es'[i]? =AA e'->Fp F ρ e e'):
  AY T F N Ec (I5 b (.map es c)) ρ (I5 b' (.map es' c)):=λ_=>⟨h,.map he.1 he.2,rfl,⟨(λ_ _ _ e=>by cases e),rfl⟩⟩
theorem mV(hN:T.P.globals.size<N)(ht:Wy T.P t=true){z z':AP}(h:Az F ρ x x')(hk:Az F ρ k k')(hz:Az F ρ z z'):
  AY T F N Ec (gZ t x k z) ρ (gZ t x' k' z'):=by
 unfold gZ;refine (BN t).bind λρ₁ d d' l1 e=>?_;obtain⟨rfl,hd⟩:=e;unfold Wy at ht;rw[hd] at ht;have h:=h.mono l1;have hk:=hk.mono l1;have hz:=hz.mono l1;(cases d<;>first|exact Ai (show false=true from ht) AV|skip);rename_i key elem;simp only[DU] at ht
 cases h with
 |flat hf=>
  (cases x<;>first|exact λ_=>Am|exact Ai (show false=true from hf) AV|skip);rename_i m;cases m<;>first|exact Ai (show false=true from hf) AV|exact Bj (e:=.plain _) trivial
 |map hb=>
  rename_i b b';intro hok;refine⟨hb,λo o' ho=>?_⟩
  cases ho with
  |map hs he=>
   refine (AY.bind (Pn _ _ ht.1 k k') λρ₂ _ _ l2 _=>?_) hok;refine (VD hN ht.1 (hk.mono l2) (CV (λ_ _=>Fp.mono l2) (MM hs he))).bind λρ₃ r r' l3 hr=>?_;rcases r with _|⟨i,v⟩<;>rcases r' with _|⟨i',v'⟩<;>first|exact hr.1.elim|skip
   ·exact QD (l3.r _ _ (l2.r _ _ hb)) (AH4 hs (λi e e' h1 h2=>((he i e e' h1 h2).mono l2).mono l3) ⟨(hk.mono l2).mono l3,(hz.mono l2).mono l3,rfl⟩)
   obtain⟨⟨e1,_⟩,e2⟩:=hr;simp only at e1;subst e1;obtain⟨_,e,h1,hg⟩:=e2 _ rfl;simp only[Nat.sub_zero,Y5] at h1;obtain⟨e',h2⟩:=AH5 hs h1;have hk:=(hk.mono l2).mono l3;have he: ∀(i:Nat) (e e':Dp),_->_->Fp F ρ₃ e e':=λi e e' h1 h2=>((he i e e' h1 h2).mono l2).mono l3;simp only[h1,h2,Option.map_some,Option.getD_some];refine (aN hg hk (he _ _ _ h1 h2).key).bind λρ₄ a a' l4 ha=>?_;exact QD (l4.r _ _ (l3.r _ _ (l2.r _ _ hb))) (ALU (g:=λe=>{key:=a,val:=z,born:=e.born}) (g':=λe=>{key:=a',val:=z',born:=e.born}) hs (λi e e' h1 h2=>(he i e e' h1 h2).mono l4) (λx y hxy=>⟨ha,((hz.mono l2).mono l3).mono l4,hxy.born⟩) _)
  |_=>exact Am
 |_=>exact λ_=>Am
theorem XB{o o':Obj}(h:Gs F ρ o o'):AY T F N (λρ a b=>ρ.r a b) (newObj o) ρ (newObj o'):=λ_=>.inr ⟨h,λ_ _ _=>.inr ⟨rfl,rfl⟩⟩
theorem yF(t:Aj):AY T F N (QV F) (Instr.makeMap t AB) ρ (Instr.makeMap t AB):=
 (XB (.map rfl λi e e' h=>by simp at h)).bind λ_ _ _ _ hb=>λ_=>.map hb
theorem ADV(h:Az F ρ x x'):AY T F N (QV F) (Instr.range t x) ρ (Instr.range t x'):=by
 unfold Instr.range;refine (BN t).bind λρ₁ d d' l1 e=>?_;obtain⟨rfl,hd⟩:=e;have h:=h.mono l1
 have fin: ∀{ρ:Rn} {o o':Obj},Gs F ρ o o'->AY T F N (QV F) (newObj o>>=λb=>pure (.pointer (AA ⟨b,0,AB⟩)):Sem AP) ρ (newObj o'>>=λb=>pure (.pointer (AA ⟨b,0,AB⟩))):=
  λho=>(XB ho).bind λ_ _ _ _ hb=>λ_=>.ptr ⟨hb,rfl,rfl⟩
 cases h with
 |flat hf=>
  (cases x<;>first|exact Ai (show false=true from hf) AV|skip);(all_goals cases d<;>first|exact λ_=>Am|exact fin .stringIter|skip);rename_i a _ _;cases a<;>first|exact Ai (show false=true from hf) AV|exact fin .LQ
 |map hb=>
  (cases d<;>first|exact λ_=>Am|skip);intro hok;refine⟨hb,λo o' ho=>?_⟩
  cases ho with|map=>exact fin (.mapIter hb) hok|_=>exact Am
 |_=>cases d<;>exact λ_=>Am
theorem AA3{R:α->β->Prop}{l:List α}{l':List β}(h:Cc R l l'): ∀(i:Nat) (a:α) (b:β),l[i]? =AA a->l'[i]? =AA b->R a b:=by
 induction h with
 |nil=>intro i a b h1;simp at h1
 |cons ha _ ih=>intro i a b h1 h2;cases i with
  |zero=>simp only[List.getElem?_cons_zero,DN] at h1 h2;subst h1 h2;exact ha|succ i=>exact ih i a b (by simpa using h1) (by simpa using h2)
theorem Ym(h:Cc (Fp F ρ) es.toList es'.toList):es.size=es'.size/\∀(i:Nat) (e e':Dp),es[i]? =AA e->es'[i]? =AA e'->Fp F ρ e e':=
 ⟨by simpa using X9 h,λi e e' h1 h2=>AA3 h i e e' (by simpa using h1) (by simpa using h2)⟩
theorem AA4{R:α->β->Prop}{l:List α}{l':List β}(h:Cc R l l'): ∀i,Cc R (l.eraseIdx i) (l'.eraseIdx i):=by
 induction h with
 |nil=>intro i;exact .nil
 |cons ha hl ih=>intro i;cases i with
  |zero=>exact hl|succ i=>exact .cons ha (ih i)
theorem VE{R:α->β->Prop}{p:α->Bool}{q:β->Bool}(hpq: ∀a b,R a b->p a=q b){l:List α}{l':List β}(h:Cc R l l'):Cc R (l.filter p) (l'.filter q):=by
 induction h with
 |nil=>exact .nil|cons ha _ ih=>
  simp only[Wh,hpq _ _ ha];split;exact .cons ha ih;exact ih
theorem uN{R:α->β->Prop}{l m:List α}{l' m':List β}(h:Cc R l l')(k:Cc R m m'):Cc R (l++m) (l'++m'):=by
 induction h with|nil=>exact k|cons ha _ ih=>exact .cons ha ih
theorem AGW{γ δ:Type}{R:α->β->Prop}{S:γ->δ->Prop}{f:α->γ}{g:β->δ}(hfg: ∀a b,R a b->S (f a) (g b)){l:List α}{l':List β}(h:Cc R l l'):Cc S (l.map f) (l'.map g):=by
 induction h with|nil=>exact .nil|cons ha _ ih=>exact .cons (hfg _ _ ha) ih
theorem AA5(hN:T.P.globals.size<N){u ty:Aj}(ht:Wy T.P t=true)(h:Az F ρ x x')(hk:Az F ρ k k'):
  AY T F N (QV F) (rY #[t,u] ty #[x,k]) ρ (rY #[t,u] ty #[x',k']):=by
 unfold rY;show AY T F N (QV F) (underlying t>>=_) ρ (underlying t>>=_);refine (BN t).bind λρ₁ d d' l1 e=>?_;obtain⟨rfl,hd⟩:=e;unfold Wy at ht;rw[hd] at ht;have h:=h.mono l1;have hk:=hk.mono l1;(cases d<;>first|exact Ai (show false=true from ht) AV|skip);rename_i key elem;simp only[DU] at ht;have over: ∀{ρ:Rn},AY T F N (QV F) (pure (.tuple #[]):Sem AP) ρ (pure (.tuple #[])):=λ_=>.undef
 cases h with
 |flat hf=>
  (cases x<;>first|exact λ_=>Am|exact Ai (show false=true from hf) AV|skip);rename_i m;(cases m<;>first|exact Ai (show false=true from hf) AV|skip);exact (Pn _ _ ht.1 k k').bind λ_ _ _ _ _=>over
 |map hb=>
  intro hok;refine⟨hb,λo o' ho=>?_⟩
  cases ho with
  | @map es es' c hs he=>
   refine (AY.bind (Pn _ _ ht.1 k k') λρ₂ _ _ l2 _=>?_) hok;have ha:=CV (λ_ _=>Fp.mono l2) (MM hs he);refine (VD hN ht.1 (hk.mono l2) ha).bind λρ₃ r r' l3 hr=>?_;have ha:=CV (λ_ _=>Fp.mono l3) ha;have hb:=l3.r _ _ (l2.r _ _ hb);(rcases r with _|⟨i,v⟩<;>rcases r' with _|⟨i',v'⟩<;>first|exact hr.1.elim|skip);exact (QD hb (Ym ha)).bind λ_ _ _ _ _=>over;obtain⟨⟨e1,_⟩,_⟩:=hr;simp only at e1;subst e1;refine (QD hb (Ym ?_)).bind λ_ _ _ _ _=>over;simp only[Array.toList_eraseIdxIfInBounds];exact AA4 ha _
  |_=>exact Am
 |_=>exact λ_=>Am
def QE (F:Fs) (ρ:Rn) (x y:Option Dp):Prop:=match x,y with
 |some e,AA e'=>Fp F ρ e e'|none,AB=>True|_,_=>False
def Jg (es:Array Dp) (seen:Array Nat) (since:Nat):Array (Option Dp):=
 (if ((es.filter λe=> !seen.contains e.born).filter λe=>decide (e.born<since)).isEmpty=true then #[AB] else #[])++
  (((es.filter λe=> !seen.contains e.born).filter λe=>decide (e.born<since))++((es.filter λe=> !seen.contains e.born).filter λe=>decide (e.born≥since))).map AA
def stale (es:Array Dp) (seen:Array Nat) (last:Nat):Bool:= !seen.isEmpty && !es.isEmpty && es.all λe=>decide (e.born≥last)
theorem AGX{R:α->β->Prop}{p:α->Bool}{q:β->Bool}(hpq: ∀a b,R a b->p a=q b){l:List α}{l':List β}(h:Cc R l l'):l.all p=l'.all q:=by
 induction h with|nil=>rfl|cons ha _ ih=>simp only[List.all_cons,hpq _ _ ha,ih]
theorem ADW(h:Cc (Fp F ρ) es.toList es'.toList)(seen:Array Nat)(last:Nat):stale es seen last=stale es' seen last:=by
 have h1:es.size=es'.size:=by simpa using X9 h
 have h2:es.all (λe=>decide (e.born≥last))=es'.all λe=>decide (e.born≥last):=by
  rw[<- Array.all_toList,<- Array.all_toList];exact AGX (λa b hab=>by rw[hab.born]) h
 unfold stale;rw[h2];simp only[Array.isEmpty,h1]
theorem ADX(h:Cc (Fp F ρ) es.toList es'.toList)(seen:Array Nat)(since:Nat):Cc (QE F ρ) (Jg es seen since).toList (Jg es' seen since).toList:=by
 have hl:Cc (Fp F ρ) (es.filter λe=> !seen.contains e.born).toList (es'.filter λe=> !seen.contains e.born).toList:=by
  simp only[dO];exact VE (λa b hab=>by rw[hab.born]) h
 have ho:Cc (Fp F ρ) ((es.filter λe=> !seen.contains e.born).filter λe=>decide (e.born<since)).toList ((es'.filter λe=> !seen.contains e.born).filter λe=>decide (e.born<since)).toList:=by
  simp only[dO] at hl⊢;exact VE (λa b hab=>by rw[hab.born]) hl
 have hn:Cc (Fp F ρ) ((es.filter λe=> !seen.contains e.born).filter λe=>decide (e.born≥since)).toList ((es'.filter λe=> !seen.contains e.born).filter λe=>decide (e.born≥since)).toList:=by
  simp only[dO] at hl⊢;exact VE (λa b hab=>by rw[hab.born]) hl
 unfold Jg;revert ho hn;generalize (Zw (λe=>decide (e.born<since)) (Zw (λe=> !seen.contains e.born) es))=o;generalize (Zw (λe=>decide (e.born<since)) (Zw (λe=> !seen.contains e.born) es'))=o';generalize (Zw (λe=>decide (e.born≥since)) (Zw (λe=> !seen.contains e.born) es))=n;generalize (Zw (λe=>decide (e.born≥since)) (Zw (λe=> !seen.contains e.born) es'))=n';intro ho hn
 have e0:o.isEmpty=o'.isEmpty:=by
  (have:o.size=o'.size:=by simpa using X9 ho);simp[Array.isEmpty,this]
 rw[e0];simp only[AHv,Y6];refine uN ?_ (AGW (R:=Fp F ρ) (S:=QE F ρ) (f:=AA) (g:=AA) (λ_ _ h=>h) (uN ho hn));split;exact .cons trivial .nil;exact .nil
theorem AGY(h:Az F ρ x x')(s:Bool)(t:Aj):AY T F N (QV F) (Instr.next x s t) ρ (Instr.next x' s t):=by
 unfold Instr.next;have over: ∀{ρ:Rn},AY T F N (QV F) (pure (.tuple #[.bool false]):Sem AP) ρ (pure (.tuple #[.bool false])):=λ_=>.tuple rfl (Au.one (.flat rfl)).2
 cases h with
 |flat hf=>cases x<;>first|exact λ_=>Am|(rename_i p;cases p<;>first|exact λ_=>Am|exact Ai (show false=true from hf) AV)
 | @ptr a a' ha=>
  obtain⟨r,off,sp⟩:=a;obtain⟨r',off',sp'⟩:=a';obtain⟨hr,h1,h2⟩:=ha;simp only at hr h1 h2;subst h1 h2
  cases off' with|succ n=>exact λ_=>Am|zero=>
  intro hok;refine⟨hr,λo o' ho=>?_⟩
  cases ho with
  | @stringIter z k=>
   (cases s);exact Am
   have key:AY T F N (QV F) (if k<z.size then I5 r (.stringIter z (k+(Utf8.decode z k).2))>>=λ_=>pure (.tuple #[.bool true,goInt k,.int .i32 (Utf8.decode z k).1]) else pure (.tuple #[.bool false]):Sem AP) ρ
     (if k<z.size then I5 r' (.stringIter z (k+(Utf8.decode z k).2))>>=λ_=>pure (.tuple #[.bool true,goInt k,.int .i32 (Utf8.decode z k).1]) else pure (.tuple #[.bool false])):=by
    split
    ·refine AY.bind (Q:=Ec) (λ_=>⟨hr,.stringIter,rfl,⟨(λ_ _ _ e=>by cases e),rfl⟩⟩) λ_ _ _ _ _=>λ_=>.tuple rfl (Au.push (Au.push (Au.one (.flat rfl)) (.flat rfl)) (.flat rfl)).2
    exact over
   exact key hok
  |LQ=>cases s<;>first|exact Am|exact over hok
  | @mapIter b b' since last seen hb=>
   cases s
   ·refine (show DR T F N (QV F) (getObj b>>=_) ρ (getObj b'>>=_) from ?_);refine⟨hb,λo o' ho=>?_⟩
    cases ho with
    | @map es es' c hs he=>
     have ha:=MM hs he
     have body:AY T F N (QV F) (choose (.mapNext (Jg es seen since).size)>>=λn=>match (Jg es seen since)[n]? with
       |some (AA e)=>I5 r (.mapIter (AA b) since (seen.push e.born) c)>>=λ_=>pure (.tuple #[.bool true,e.key,e.val])|some AB=>pure (.tuple #[.bool false])
       |none=>stuck "Next: no such candidate" :Sem AP) ρ
       (choose (.mapNext (Jg es' seen since).size)>>=λn=>match (Jg es' seen since)[n]? with|some (AA e)=>I5 r' (.mapIter (AA b') since (seen.push e.born) c)>>=λ_=>pure (.tuple #[.bool true,e.key,e.val])|some AB=>pure (.tuple #[.bool false])|none=>stuck "Next: no such candidate"):=by
      have hc:=ADX ha seen since;(have hz:(Jg es seen since).size=(Jg es' seen since).size:=by simpa using X9 hc);rw[hz];refine (Ja _).bind λρ₁ n n' l1 e=>?_;obtain rfl:n=n':=e
      cases h1:(Jg es seen since)[n]? with
      |none=>exact λ_=>Am|some q=>
       have hn:=(Df.1 h1).1;obtain⟨q',h2⟩: ∃q',(Jg es' seen since)[n]? =AA q':=⟨_,FD Ad⟩;have hq:=AA3 hc n _ _ (by simpa using h1) (by simpa using h2);rw[h2];(rcases q with _|e<;>rcases q' with _|e'<;>first|exact hq.elim|skip);exact over;have hq:Fp F ρ e e':=hq;simp only[hq.born];refine AY.bind (Q:=Ec) (λ_=>⟨l1.r _ _ hr,.mapIter (l1.r _ _ hb),rfl,⟨(λ_ _ _ e=>by cases e),rfl⟩⟩) λρ₂ _ _ l2 _=>λ_=>.tuple rfl (Au.push (Au.push (Au.one (.flat rfl)) (((hq.mono l1).mono l2).key)) (((hq.mono l1).mono l2).val)).2
     have e0:=ADW ha seen last
     have key:AY T F N (QV F) (if stale es seen last=true then unsupported (.noEntry "instr/Next: every entry that the ranged map held at the last iteration is gone, and it holds new ones")>>=λ(_:Unit)=>choose (.mapNext (Jg es seen since).size)>>=λn=>match (Jg es seen since)[n]? with
       |some (AA e)=>I5 r (.mapIter (AA b) since (seen.push e.born) c)>>=λ_=>pure (.tuple #[.bool true,e.key,e.val])|some AB=>pure (.tuple #[.bool false])
       |none=>stuck "Next: no such candidate" else (choose (.mapNext (Jg es seen since).size)>>=λn=>match (Jg es seen since)[n]? with
       |some (AA e)=>I5 r (.mapIter (AA b) since (seen.push e.born) c)>>=λ_=>pure (.tuple #[.bool true,e.key,e.val])|some AB=>pure (.tuple #[.bool false])
       |none=>stuck "Next: no such candidate"):Sem AP) ρ
       (if stale es' seen last=true then unsupported (.noEntry "instr/Next: every entry that the ranged map held at the last iteration is gone, and it holds new ones")>>=λ(_:Unit)=>choose (.mapNext (Jg es' seen since).size)>>=λn=>match (Jg es' seen since)[n]? with
       |some (AA e)=>I5 r' (.mapIter (AA b') since (seen.push e.born) c)>>=λ_=>pure (.tuple #[.bool true,e.key,e.val])|some AB=>pure (.tuple #[.bool false])
       |none=>stuck "Next: no such candidate" else (choose (.mapNext (Jg es' seen since).size)>>=λn=>match (Jg es' seen since)[n]? with
       |some (AA e)=>I5 r' (.mapIter (AA b') since (seen.push e.born) c)>>=λ_=>pure (.tuple #[.bool true,e.key,e.val])|some AB=>pure (.tuple #[.bool false])
       |none=>stuck "Next: no such candidate")):=by
      rw[e0];split;exact λ_=>Am;exact body
     exact key hok
    |_=>exact Am
   exact Am
  |_=>cases s<;>exact Am
 |_=>exact λ_=>Am
end
end
section
variable {t:Aj}{x x':AP}
section
variable {T:Twin} {F:Fs} {N:Nat} {ρ:Rn} {α β γ:Type}
theorem sS{es es':Array Dp}(h:Cc (Fp F ρ) es.toList es'.toList)(k:Nat):QE F ρ (es.find? (·.born==k)) (es'.find? (·.born==k)):=by
 rw[<- Array.find?_toList,<- Array.find?_toList];revert h;generalize es.toList=l;generalize es'.toList=l';intro h
 induction h with
 |nil=>exact Am|cons ha _ ih=>
  simp only[List.find?_cons,ha.born];split;exact ha;exact ih
theorem ADY(h:Az F ρ x x'):AY T F N (QV F) (Instr.entry x) ρ (Instr.entry x'):=by
 unfold Instr.entry
 cases h with
 |flat hf=>cases x<;>first|exact λ_=>Am|(rename_i p;cases p<;>first|exact λ_=>Am|exact Ai (show false=true from hf) AV)
 | @ptr a a' ha=>
  obtain⟨r,off,sp⟩:=a;obtain⟨r',off',sp'⟩:=a';obtain⟨hr,h1,h2⟩:=ha;simp only at hr h1 h2;subst h1 h2
  cases off' with|succ n=>exact λ_=>Am|zero=>
  intro hok;refine⟨hr,λo o' ho=>?_⟩
  cases ho with
  | @mapIter b b' since last seen hb=>
   dsimp only[Sem.bind]
   cases seen.back? with
   |none=>exact Am|some stamp=>
    refine⟨hb,λo o' ho=>?_⟩
    cases ho with
    | @map es es' c hs he=>
     have hq:=sS (MM hs he) stamp;dsimp only[Sem.bind];by_cases hc:(c !=last)=true
     ·simp only[hc,if_true];exact Am
     simp only[hc,if_false,C9];revert hq;generalize es.find? (·.born==stamp)=q;generalize es'.find? (·.born==stamp)=q';intro hq;(rcases q with _|e<;>rcases q' with _|e'<;>first|exact hq.elim|exact Am|skip);exact .tuple rfl (Au.push (Au.one (Fp.key hq)) (Fp.val hq)).2
    |_=>exact Am
  |_=>exact Am
 |_=>exact λ_=>Am
theorem ADZ{i i':AP}(h:Az F ρ x x')(k:Az F ρ i i'):AY T F N (QV F) (Instr.index t x i) ρ (Instr.index t x' i'):=by
 unfold Instr.index;refine (OD k).bind λρ₁ q q' l1 e=>?_;obtain rfl:q=q':=e;obtain⟨kd,n⟩:=q;refine (BN t).bind λρ₂ d d' l2 e=>?_;obtain⟨rfl,hd⟩:=e;have h:=(h.mono l1).mono l2
 cases h with
 |flat hf=>
  (cases x<;>first|exact Ai (show false=true from hf) AV|skip);(all_goals cases d<;>first|exact λ_=>Am|skip);rename_i s
  have key:AY T F N (QV F) (match (if 0<=n then s[n.toNat]? else AB) with|some b=>pure (.int .u8 b.toNat)|none=>boundsPanic kd n s.size .index:Sem AP) ρ₂ (match (if 0<=n then s[n.toNat]? else AB) with|some b=>pure (.int .u8 b.toNat)|none=>boundsPanic kd n s.size .index):=by
   generalize (if 0<=n then s[n.toNat]? else AB)=z;(cases z);exact IL _ _ _ _;exact λ_=>.flat rfl
  exact key
 | @agg p p' h1 h2=>
  (cases d<;>first|exact λ_=>Am|skip);rename_i len elem;by_cases hc:0<=n/\n<len
  ·simp only[hc,and_self,if_true];refine (EY elem).bind λρ₃ z z' l3 e=>?_;obtain rfl:z=z':=e;exact uM elem (Au.mono l3 ⟨h1,h2⟩) _
  simp only[hc,if_false];exact IL _ _ _ _
 |_=>cases d<;>exact λ_=>Am
theorem jX(h:Az F ρ x x')(t a:Aj)(hz:Hg T.P a=true):AY T F N (QV F) (J9 x t a true) ρ (J9 x' t a true):=by
 unfold J9;refine (BN a).bind λρ₁ d d' l1 e=>?_;obtain⟨rfl,hd⟩:=e;have h:=h.mono l1
 have fails: ∀{ρ:Rn},AY T F N (QV F) (GM a>>=λz=>pure (.tuple #[z,.bool false]):Sem AP) ρ (GM a>>=λz=>pure (.tuple #[z,.bool false])):=
  (OB a hz).bind λ_ z z' _ e=>λ_=>.tuple rfl (Au.push (Au.one (by rw[<- e.1];exact e.2)) (.flat rfl)).2
 have holds: ∀{ρ:Rn} {v v':AP},Az F ρ v v'->AY T F N (QV F) (pure (.tuple #[v,.bool true]):Sem AP) ρ (pure (.tuple #[v',.bool true])):=
  λhv=>λ_=>.tuple rfl (Au.push (Au.one hv) (.flat rfl)).2
 cases h with
 |flat hf=>
  (cases x<;>first|exact Ai (show false=true from hf) AV|skip);all_goals cases d<;>first|exact λ_=>Am|exact fails
 | @iface u v v' hv=>
  by_cases hi: ∃w,d=.interface w
  ·obtain⟨w,rfl⟩:=hi;refine (Cm u).bind λρ₂ i i' l2 e=>?_;obtain⟨rfl,_⟩:=e
   cases Instr.missingMethod w i.methods with|none=>exact holds (.iface (hv.mono l2))|some m=>exact fails
  have e1: ∀z:AP,(match d,(.iface u z:AP) with
    | .interface _,.nilIface=>(GM a>>=λz=>pure (.tuple #[z,.bool false]):Sem AP)
    | .interface want,.iface t _=>typeInfo t>>=λi=>match Instr.missingMethod want i.methods with
     |none=>pure (.tuple #[.iface u z,.bool true])|some m=>(GM a>>=λz=>pure (.tuple #[z,.bool false]))
    |_,.nilIface=>(GM a>>=λz=>pure (.tuple #[z,.bool false]))|_,.iface t v=>if t=a then pure (.tuple #[v,.bool true]) else (GM a>>=λz=>pure (.tuple #[z,.bool false]))
    |_,_=>stuck "TypeAssert: interface value expected")=if u=a then pure (.tuple #[z,.bool true]) else (GM a>>=λz=>pure (.tuple #[z,.bool false])):=by
   intro z;cases d<;>first|rfl|exact Ai ⟨_,rfl⟩ hi
  have e2:AY T F N (QV F) (if u=a then pure (.tuple #[v,.bool true]) else (GM a>>=λz=>pure (.tuple #[z,.bool false])):Sem AP) ρ₁ (if u=a then pure (.tuple #[v',.bool true]) else (GM a>>=λz=>pure (.tuple #[z,.bool false]))):=by
   split;exact holds hv;exact fails
  rw[<- e1,<- e1] at e2;exact e2
 |_=>cases d<;>exact λ_=>Am
theorem ADa{ty el:Aj}(hu:T.P.underlying t=AA (.slice el))(hz:Hg T.P el=true)(h:Az F ρ x x'):AY T F N (QV F) (Builtin.clear_ #[t] ty #[x]) ρ (Builtin.clear_ #[t] ty #[x']):=by
 unfold Builtin.clear_;show AY T F N (QV F) (underlying t>>=_) ρ (underlying t>>=_);refine (BN t).bind λρ₁ d d' l1 e=>?_;obtain⟨rfl,hd⟩:=e;rw[hu] at hd;obtain rfl:=EF hd;have h:=h.mono l1;have over: ∀{ρ:Rn},AY T F N (QV F) (pure (.tuple #[]):Sem AP) ρ (pure (.tuple #[])):=λ_=>.undef
 cases h with
 |flat hf=>
  cases x<;>first|exact Ai (show false=true from hf) AV|exact λ_=>Am|skip
  ·rename_i a n k;cases a<;>first|exact Ai (show false=true from hf) AV|exact over
  rename_i a;cases a<;>first|exact Ai (show false=true from hf) AV|exact over
 | @slice a a' n k ha=>
  cases n with
  |zero=>exact over|succ n=>
   refine (OB el hz).bind λρ₂ z z' l2 e=>?_;obtain⟨rfl,he⟩:=e;refine (Mc _ _ 0 (RelA.mono l2 ha) ?_).bind λ_ _ _ _ _=>over;have hc:Au F ρ₂ z.cells z.cells:=he.cells;simp only[Builtin.zeroCells];refine Au.map λi _=>?_;rw[getElem!_def]
   cases hg:z.cells[i % z.cells.size]? with|none=>exact .flat rfl|some v=>exact hc.2 _ _ _ hg hg
 |emp=>exact over|map hb=>
  intro hok;refine⟨hb,λo o' ho=>?_⟩
  cases ho with|map=>exact ((QD hb ⟨rfl,λi e e' h=>by simp at h⟩).bind λ_ _ _ _ _=>over) hok|_=>exact Am
 |_=>exact λ_=>Am
end
end
end Go.Proofs.YtkkgcebhfghdnaaGreatDoor
