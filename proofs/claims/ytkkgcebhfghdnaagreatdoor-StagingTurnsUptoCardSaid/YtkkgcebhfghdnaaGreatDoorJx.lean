/- Part 24 of what that rests on; no condition. -/
import Derived.Test.YtkkgcebhfghdnaaGreatDoorJw
import Derived.Defers
import Derived.Lib.AppendStr
set_option maxRecDepth 100000
set_option maxHeartbeats 8000000
open Go renaming wp_region_held_drew→Ei, wpAnyH_ready→Oo, strOfNums→FQ, Ending→Fv, Value→AP, World→AL, Calls→A7, Addr→Ag
open List renaming length_cons→ES, sum_cons→Bo
open Nat renaming strongRecOn→dJ
open Go.AllReadyH renaming cons→Gh, nil→Oq
open Go.Value renaming string→V4
open Go.Act renaming put→BF
open Option renaming none→AB, some→AA
namespace Go.Proofs.YtkkgcebhfghdnaaGreatDoor.Vw
open Go.RowKit
section
variable {B:Nat}{S S':St}{w:AL}
def BO:ByteArray:={data:=#[46,115,116,97,103,101]}
def St.EJ (d:ByteArray) (S:St):List ByteArray->St×Int
 | []=>(S,0)|n::r=>if (S.remove d n).2=0 then St.EJ d (S.remove d n).1 r else S.remove d n
theorem AHX{d:ByteArray}{l:List ByteArray}{j:Nat}{x:ByteArray}(h:l[j]? =AA x):St.EJ d S (l.drop j)=if (S.remove d x).2=0 then St.EJ d (S.remove d x).1 (l.drop (j+1)) else S.remove d x:=by
 obtain⟨hl,rfl⟩:=DC.1 h;rw[X0 hl];rfl
def St.Lj (d:ByteArray) (S:St) (l:List ByteArray):St×Int:=
 if (St.EJ d S l).2=0 then (if ((St.EJ d S l).1.rmdir d).2=0 then ((St.EJ d S l).1.rmdir d).1.names else (St.EJ d S l).1.rmdir d) else St.EJ d S l
def St.clean (S:St):St×Int:=
 if S.MG.2=0 then (if (idx BO S.MG.1).isSome=true then (if (S.list BO).2=0 then S.Lj BO (S.list BO).1 else (S,(S.list BO).2)) else (S,0)) else (S,S.MG.2)
theorem Inv.EJ{B:Nat}(d:ByteArray): ∀(l:List ByteArray) {S:St},Inv B S->Inv (B+l.length) (St.EJ d S l).1
 | [],S,h=>h
 |n::r,S,h=>by
  unfold St.EJ;by_cases h0:(S.remove d n).2=0
  ·rw[BZ h0];have:=Inv.EJ d r (h.remove d n);exact this.mono (by simp only[ES];omega)
  rw[BM h0];exact (h.remove d n).mono (by simp only[ES];omega)
theorem wJ(h:Inv B S)(d:ByteArray):(S.list d).1.length<=B:=by
 unfold St.list;split;simp;simp only[DZ];unfold Ey
 cases hf:BH S.seen d with
 |none=>simp|some F=>
  have:=zZ (CJ hf);have:=h.wd
  simp only at*
  simp only[Option.getD_some];omega
theorem AHY(h:Inv B S):S.MG.1.length<=B:=by
 unfold St.MG;split;simp;have:=zY S.seen;have:=h.wd;simp only[DZ];omega
theorem Inv.clean{B:Nat}{S:St}(h:Inv B S):Inv (2*B+2) S.clean.1:=by
 have hl:=wJ h BO;have h1:=h.EJ BO (S.list BO).1;have h2:=h1.rmdir BO;have h3:=h2.names;unfold St.clean;split
 ·split
  ·split
   ·unfold St.Lj;split
    ·split;exact h3.mono Ad;exact h2.mono Ad
    exact h1.mono Ad
   exact h.mono Ad
  exact h.mono Ad
 exact h.mono Ad
theorem DJ.remove{w w1:AL}{G:Bh}{S1:St}{B:Nat}(h:DJ w G S1 w1)(hi:Inv B S1)(hB:B<=1073741824)(d n:ByteArray):
  A7 Af 98 #[.pointer (AA ⟨G.b,0,AB⟩),.string d,.string n] w1 λe w2=>e=.returned (.int .i64 (S1.remove d n).2)/\DJ w G (S1.remove d n).1 w2:=by
 obtain⟨G1,h1,h2,h3,h4⟩:=h;rw[<- h2];exact (AEd h1 hi hB d n).mono λe w2 ⟨he,ht⟩=>⟨he,ht.trans h3 h2 h4⟩
theorem DJ.rmdir{w w1:AL}{G:Bh}{S1:St}{B:Nat}(h:DJ w G S1 w1)(hi:Inv B S1)(hB:B<=1073741824)(d:ByteArray):
  A7 Af 99 #[.pointer (AA ⟨G.b,0,AB⟩),.string d] w1 λe w2=>e=.returned (.int .i64 (S1.rmdir d).2)/\DJ w G (S1.rmdir d).1 w2:=by
 obtain⟨G1,h1,h2,h3,h4⟩:=h;rw[<- h2];exact (AHE h1 hi hB d).mono λe w2 ⟨he,ht⟩=>⟨he,ht.trans h3 h2 h4⟩
theorem ACd{G:Bh}(h:EI w G S)(hi:Inv B S)(hB:2*B+2<=1073741824):
  A7 Af 64 #[.pointer (AA ⟨G.b,0,AB⟩)] w λe w'=>e=.returned (.int .i64 S.clean.2)/\DJ w G S.clean.1 w':=by
 have HF:=AQ h;have HI:=AQ hi;have hL1:=AHY hi;have hL2:=wJ hi BO;clear h hi;have q1:= @ASp;have q2:= @ASq;have q3:= @ASr;have q4:= @ASs;have q5:= @ASt;have q6:= @ANb;obtain⟨ds,hds⟩: ∃ds,S.MG.1=ds:=⟨_,rfl⟩;obtain⟨de,hde⟩: ∃de,S.MG.2=de:=⟨_,rfl⟩;obtain⟨ls,hls⟩: ∃ls,(S.list BO).1=ls:=⟨_,rfl⟩;obtain⟨le,hle⟩: ∃le,(S.list BO).2=le:=⟨_,rfl⟩;have HC:Hid (S.clean=if de=0 then (if (idx BO ds).isSome=true then (if le=0 then S.Lj BO ls else (S,le)) else (S,0)) else (S,de)):=AQ (by unfold St.clean;rw[hds,hde,hls,hle]);(have HD:Hid (∀w,EI w G S->A7 Af 95 #[.pointer (AA ⟨G.b,0,AB⟩)] w (bP 9 w (PN ds) ds.length de)):=AQ λw hf=>by have:=AKB hf HI.out Ad;rwa[hds,hde] at this);(have HLL:Hid (∀w,EI w G S->A7 Af 97 #[.pointer (AA ⟨G.b,0,AB⟩),.string BO] w (bP 9 w (PN ls) ls.length le)):=AQ λw hf=>by have:=AKC hf HI.out Ad BO;rwa[hls,hle] at this);rw[hds] at hL1;rw[hls] at hL2;clear hds hde hls hle;unfold BO at HLL;go_enter AM7,Tryz.ntmps64;(go_wp2_with fail);refine (HD.out _ HF.out).mono ?_;rintro e w1 ⟨A1,c1,rfl,ho1,hc1,hn1⟩;have HO1:=AQ ho1;have DI:=AQ hc1;clear ho1 hc1 hn1;by_cases hde:de=0
 ·subst hde;(go_wp2_with fail);refine (tu A1 ds.length c1 ds _ w1 HO1.out.rd Ad).mono ?_;rintro e w2 ⟨rfl,hc2⟩;have HC2:=AQ (DI.out.Ap hc2);clear hc2
  cases hb:(idx {data:=#[46,115,116,97,103,101]} ds).isSome with
  |false=>
   go_wp2;go_ret;(have:S.clean=(S,0):=by rw[HC.out,BZ trivial,BM (by show ¬(idx {data:=#[46,115,116,97,103,101]} ds).isSome=true;rw[hb];decide)]);rw[this];exact⟨rfl,.same HF.out HC2.out⟩
  |true=>
   (have hcl:S.clean=if le=0 then S.Lj BO ls else (S,le):=by rw[HC.out,BZ trivial,BZ (show (idx BO ds).isSome=true from hb)]);have WW:=AQ hcl;clear hcl hb;(go_wp2_with fail);refine (HLL.out _ (HF.out.CE HC2.out)).mono ?_;rintro e w3 ⟨A3,c3,rfl,ho3,hc3,hn3⟩;have HO3:=AQ ho3;have Hz:=AQ (HC2.out.Ap hc3);have HN3:=AQ hn3;clear ho3 hc3 hn3;by_cases hle:le=0
   ·subst hle;(have hcl:S.clean=S.Lj BO ls:=by rw[WW.out,BZ rfl]);have AOH:=AQ hcl;clear hcl WW;have hlo:Hid (ls.length<=B):=AQ hL2;go_wp2;go_loopw [33] (λi wr=>∃(k:Nat) (S1:St),k<=ls.length/\i=.int .i64 k/\Hid (Inv (B+k) S1)/\DJ w3 G S1 wr/\Hid (S.EJ BO ls=S1.EJ BO (ls.drop k))) (λi _=>ls.length - (intOf i).toNat)
    case atStart=>exact⟨0,S,D5 _,rfl,HI,.same (HF.out.CE Hz.out) (.refl _ _),AQ rfl⟩
    obtain⟨k,S1,hk,rfl,hI1,hT1,hE1⟩:=hrel;by_cases hlt:k<ls.length
    ·obtain⟨ad,u,rfl,hu,hcell⟩:=(HO3.out.rd.Ak hT1.Ak (λx hx hm=>by have:=HN3.out x hx;have:=HF.out.lt x hm;have:=HC2.out.size;omega)).fC hlt
     obtain⟨x,hx,rfl⟩: ∃x,ls[k]? =AA x/\u=.string x:=by
      simp only[PN,Bg,Jz] at hu;obtain⟨x,h1,h2⟩:=hu;exact⟨x,h1,h2.symm⟩
     have hE2:=hE1.out;rw[AHX hx] at hE2;obtain⟨S2,hS2⟩: ∃S2,(S1.remove BO x)=S2:=⟨_,rfl⟩;obtain⟨S2,e2⟩:=S2;have hI2:Inv (B+(k+1)) S2:=by have:=hI1.out.remove BO x;rw[hS2] at this;exact this
     have hR:Hid (∀w1,DJ w3 G S1 w1->A7 Af 98 #[.pointer (AA ⟨G.b,0,AB⟩),.string BO,.string x] w1 λe w2=>e=.returned (.int .i64 e2)/\DJ w3 G S2 w2):=AQ λw1 hf=>by
      have:=hf.remove hI1.out Ad BO x;rw[hS2] at this;exact this
     rw[hS2] at hE2;have HE2:=AQ hE2;have HI2:=AQ hI2;have HT1:=AQ hT1;clear hE2 hI2 hT1 hS2 hE1 hI1 hu hx;(go_wp2_with fail);refine (hR.out _ HT1.out).mono ?_;rintro e w4 ⟨rfl,hT2⟩;have HT2:=AQ hT2;clear hT2;by_cases he:e2=0
     ·subst he;go_wp2;go_roundw
      case rel=>
       refine⟨k+1,S2,Ad,by go_num,HI2,HT2.out,AQ ?_⟩;rw[HE2.out,BZ trivial]
      simp[intOf];omega
     (have hd:(e2==0)=false:=by simp[he]);(have hd2:decide (e2=0)=false:=by simp[he]);have HX:=AQ he;clear he;go_wp2;go_ret;have h1:=HE2.out;rw[BM HX.out] at h1;rw[AOH.out];unfold St.Lj;rw[h1,BM HX.out];exact⟨rfl,.before Hz.out HT2.out⟩
    (have hkn:k=ls.length:=by omega);subst hkn;have h1:=hE1.out;rw[Qy (Ba _)] at h1;obtain⟨S2,hS2⟩: ∃S2,S1.rmdir BO=S2:=⟨_,rfl⟩;obtain⟨S2,e2⟩:=S2;have hI2:Inv (B+(ls.length+1)) S2:=by have:=hI1.out.rmdir BO;rw[hS2] at this;exact this
    have hR:Hid (∀w1,DJ w3 G S1 w1->A7 Af 99 #[.pointer (AA ⟨G.b,0,AB⟩),.string BO] w1 λe w2=>e=.returned (.int .i64 e2)/\DJ w3 G S2 w2):=AQ λw1 hf=>by
     have:=hf.rmdir hI1.out Ad BO;rw[hS2] at this;exact this
    have hcl:=AOH.out;unfold St.Lj at hcl;have h2:S.EJ BO ls=(S1,0):=h1;rw[h2] at hcl;simp only[if_true,hS2] at hcl;have AKa:=AQ hcl;have HI2:=AQ hI2;have HT1:=AQ hT1;clear hcl h1 h2 hI2 hT1 hS2 hE1 hI1;(go_wp2_with fail);refine (hR.out _ HT1.out).mono ?_;rintro e w4 ⟨rfl,hT2⟩;have HT2:=AQ hT2;clear hT2;by_cases he:e2=0
    ·subst he;have hcl:=AKa.out;have ATa:=AQ hcl;clear hcl AKa;(go_wp2_with fail);refine (HT2.out.names HI2.out Ad).mono ?_;rintro e w5 ⟨rfl,hT3⟩;go_wp2;go_ret;have h3:=ATa.out;simp only[if_true] at h3;rw[h3];exact⟨rfl,.before Hz.out hT3⟩
    (have hd:(e2==0)=false:=by simp[he]);(have hd2:decide (e2=0)=false:=by simp[he]);have HX:=AQ he;clear he;go_wp2;go_ret;rw[AKa.out,BM HX.out];exact⟨rfl,.before Hz.out HT2.out⟩
   (have hd:(le==0)=false:=by simp[hle]);(have hd2:decide (le=0)=false:=by simp[hle]);have HX:=AQ hle;clear hle;go_wp2;go_ret;rw[WW.out,BM HX.out];exact⟨rfl,.same HF.out Hz.out⟩
 (have hd:(de==0)=false:=by simp[hde]);(have hd2:decide (de=0)=false:=by simp[hde]);have HX:=AQ hde;clear hde;go_wp2;go_ret;rw[HC.out,BM HX.out];exact⟨rfl,.same HF.out DI.out⟩
structure J8 where
 op:ByteArray
 pl:Int
 cd:Int
def Qr (w:AL) (b:Nat) (v:AP) (f:J8):Prop:=v=.iface 140 (.pointer (AA ⟨b,0,AB⟩))/\Bl w b 142 #[.string f.op,.int .i64 f.pl,.iface 51 (.int .i64 f.cd)]/\f.cd≠0
def JW (w:AL) (v:AP):List Nat->List J8->Prop
 | [],[]=>v=.nilIface| [b],[f]=>Qr w b v f| [b,c,d],[f,g]=>∃x y,v=.iface 150 (.pointer (AA ⟨b,0,AB⟩))/\Bl w b 152 #[x,y]/\Qr w c x f/\Qr w d y g|_,_=>False
theorem Qr.Ak{w w':AL}{b:Nat}{v:AP}{f:J8}{M:List Nat}(h:Qr w b v f)(hc:AZ M w w')(hb:b∉M):Qr w' b v f:=⟨h.1,h.2.1.Ak hc hb,h.2.2⟩
theorem JW.Ak{w w':AL}{v:AP}{L:List Nat}{fs:List J8}{M:List Nat}(h:JW w v L fs)(hc:AZ M w w')(hb: ∀b∈L,b∉M):JW w' v L fs:=by
 unfold JW at*
 split at h;exact h;exact h.Ak hc (hb _ AV)
 ·obtain⟨x,y,h1,h2,h3,h4⟩:=h;exact⟨x,y,h1,h2.Ak hc (hb _ AV),h3.Ak hc (hb _ AV),h4.Ak hc (hb _ AV)⟩
 exact h
def qH (op:ByteArray) (pl cd:Int):List J8:=if cd=0 then [] else [⟨op,pl,cd⟩]
def Sj (w:AL) (G:Bh) (S':St) (fs:List J8) (e:Fv) (w':AL):Prop:=
 ∃v G' L,e=.returned v/\JW w' v L fs/\EI w' G' S'/\G'.b=G.b/\(∀x∈G'.all,x∈G.all\/w.heap.size<=x)/\AZ G.all w w'/\∀x∈L,w.heap.size<=x/\x∉G'.all
theorem Sj.nil{w':AL}{G:Bh}(h:DJ w G S' w'):Sj w G S' [] (.returned .nilIface) w':=by
 obtain⟨G',h1,h2,h3,h4⟩:=h;exact⟨_,G',[],rfl,rfl,h1,h2,h3,h4,AV⟩
theorem Sj.one{w1:AL}{G:Bh}(h:DJ w G S' w1){op:ByteArray}{pl cd:Int}(hcd:cd≠0):Sj w G S' (qH op pl cd) (.returned (.iface 140 (.pointer (AA ⟨w1.heap.size,0,AB⟩)))) (w1.alloc (.cells #[.string op,.int .i64 pl,.iface 51 (.int .i64 cd)] 142)):=by
 obtain⟨G',h1,h2,h3,h4⟩:=h;have hal:AZ [] w1 (w1.alloc (.cells #[.string op,.int .i64 pl,.iface 51 (.int .i64 cd)] 142)):=(AZ.refl [] w1).alloc _;refine⟨_,G',[w1.heap.size],rfl,?_,h1.CE hal,h2,h3,h4.Ap hal,?_⟩
 ·unfold qH;rw[BM hcd];exact⟨rfl,.new _ _ _,hcd⟩
 intro x hx;simp only[CG] at hx;subst hx;exact⟨h4.size,λhm=>by have:=h1.lt _ hm;omega⟩
def Jm (cd:Int):List J8:=qH {data:=#[99,108,101,97,110,117,112]} 0 cd
theorem fZ{G:Bh}(h:EI w G S)(hi:Inv B S)(hB:2*B+2<=1073741824):
  A7 Af 21 #[.pointer (AA ⟨G.b,0,AB⟩)] w (Sj w G S.clean.1 (Jm S.clean.2)):=by
 have HF:=AQ h;have HI:=AQ hi;clear h hi;have q1:= @ASf;have q2:= @AJg;have q3:= @AJf;go_enter AMi,Tryz.ntmps21;(go_wp2_with fail);refine (ACd HF.out HI.out hB).mono ?_
 generalize S.clean=R at*
 obtain⟨S1,cd⟩:=R;rintro e w1 ⟨rfl,hT⟩;have HT:=AQ hT;clear hT;by_cases he:cd=0
 ·subst he
  go_wp2_with (first
   |(go_at_call 38;refine (YR 0 _).mono ?_;rintro e w2 ⟨rfl,rfl⟩)
   |(go_at_call 37;refine (wrap_nil _ _ _).mono ?_;rintro e w3 ⟨rfl,rfl⟩))
  go_ret;exact .nil HT.out
 have HE:=AQ he;clear he
 go_wp2_with (first
  |(go_at_call 38;refine (YR cd _).mono ?_;rintro e w2 ⟨rfl,rfl⟩;rw[BM HE.out])
  |(go_at_call 37;refine (YS _ _ _ _ _).mono ?_;rintro e w3 ⟨rfl,rfl⟩))
 go_ret;exact .one HT.out HE.out
end
open Go
section
variable {d:Int}{zs:List Int}{n:Nat}{w:AL}
theorem Jc:Af.underlying 62=AA (.slice 5):=vJ
def KO (d:Nat) (l:List Int):List (List Int):=
 match l with| []=>[]|x::r=>((x::r).take (d+1))::KO d (r.drop d)
 termination_by l.length
 decreasing_by simp;omega
theorem U3(d:Nat):KO d []=[]:=by unfold KO;rfl
theorem YT(d:Nat)(l:List Int)(h:l≠[]):KO d l=l.take (d+1)::KO d (l.drop (d+1)):=by
 cases l with|nil=>exact Ai rfl h|cons x r=>rw[KO];rfl
theorem AEo(d:Nat)(p:List Int)(h0:p≠[])(h:p.length<=d+1):KO d p=[p]:=by
 rw[YT d p h0,FH h,Qy h,U3]
theorem Zl(d:Nat): ∀(n:Nat) (l:List Int),l.length=n->(KO d l).flatten=l:=by
 intro n
 induction n using dJ with
 |_ n ih=>
  intro l hl;by_cases h:l=[];subst h;rw[U3];rfl
  rw[YT d l h,List.flatten_cons,ih (l.drop (d+1)).length (by
   have:0<l.length:=AFL.2 h
   simp;omega) _ rfl,X4]
theorem wK(d:Nat): ∀(n:Nat) (l:List Int),l.length=n->∀p∈KO d l,0<p.length/\p.length<=n:=by
 intro n
 induction n using dJ with
 |_ n ih=>
  intro l hl p hp;by_cases h:l=[];subst h;rw[U3] at hp;cases hp;have h0:0<l.length:=AFL.2 h;rw[YT d l h] at hp;rcases BB.1 hp with rfl|hp;simp;omega;have:=ih (l.drop (d+1)).length (by simp;omega) _ rfl p hp;simp at this;omega
def Tm (size:Int) (n:Nat):Nat:=if size<1 then n - 1 else size.toNat - 1
theorem Ah.ntmps47:Ah.f47.ntmps=20:=rfl
def YU (zs:List Int) (size:Int):AP:=.func (.func 79) #[] #[.string (FQ zs),.int .i64 ((Tm size zs.length+1:Nat):Int)]
theorem Zm{size:Int}(hl:zs.length=n)(h:d=((Tm size n+1:Nat):Int)):Ending.returned (.func (.func 79) #[] #[.string (FQ zs),.int .i64 d])=.returned (YU zs size):=by subst hl;subst h;rfl
theorem jG{A:Option Ag}{c:Nat}{size:Int}(hn:n<=1073741824)(hrd:Rd w 1 A n c (bv zs))(hb: ∀x∈zs,0<=x/\x<=255)(hs:size<=9223372036854775807):
  A7 Af 47 #[.slice A n c,.int .i64 size] w λe w'=>e=.returned (YU zs size)/\w'=w:=by
 (have hl:zs.length=n:=by have:=hrd.1;simp at this;omega);have h1:=o8 hrd;(have hsz:(FQ zs).size=n:=by rw[strOfNums_size];exact hl);(have i1:(n:Int)<=1073741824:=by omega);have HR:=AQ hrd;have HL:=AQ hl;have HB:=AQ hb;clear hrd hl hb;go_enter ABX,Ah.ntmps47;go_wp2;unfold Ah.JQ;go_loopw [11] (λi wr=>∃(k:Nat),k<=n/\i=.int .i64 k/\wr=w) (λi _=>n - (intOf i).toNat)
 case atStart=>exact⟨0,D5 _,rfl,rfl⟩
 obtain⟨k,hk,rfl,rfl⟩:=hrel;by_cases hlt:k<n
 ·obtain⟨ad,x,rfl,hx,hcell⟩:=oQ HR.out hlt;have hx2:=HB.out x (Bq hx);(have q1:decide (0<=x)=true:=by simpa using hx2.1);(have q2:decide (x<=255)=true:=by simpa using hx2.2);have HX:=AQ hx2;clear hx hx2;go_wp2;go_roundw
  case rel=>exact⟨k+1,Ad,by go_num,Am⟩
  simp[intOf];omega
 (have hkn:k=n:=by omega);by_cases hs1:size<1
 ·(have q1:decide (size<1)=true:=by simpa using hs1);have HS:=AQ hs1;by_cases hn0:n<1
  ·have HN0:=AQ hn0;go_wp2;unfold Ah.IZ;go_wp2;all_goals (go_ret;exact⟨Zm HL.out (by unfold Tm;have:=HS.out;rw[BZ this];have:=HN0.out;omega),rfl⟩)
  have HN0:=AQ hn0;go_wp2;unfold Ah.IZ;go_wp2;all_goals (go_ret;exact⟨Zm HL.out (by unfold Tm;have:=HS.out;rw[BZ this];have:=HN0.out;omega),rfl⟩)
 (have q1:decide (size<1)=false:=by simpa using hs1);have HS:=AQ hs1;go_wp2;unfold Ah.IZ;go_wp2;all_goals (go_ret;exact⟨Zm HL.out (by unfold Tm;have:=HS.out;rw[BM (show ¬size<1 by omega)];omega),rfl⟩)
theorem AHZ:Af.underlying 9=AA .string:=KZ
theorem qI{ys:List Int}(hb: ∀x∈ys,0<=x/\x<=255):Lib.strCells (FQ ys)=bv ys:=by
 unfold Lib.strCells;rw[strOfNums_data,Eg];apply He;intro x hx;have:=hb x hx;simp;omega
theorem Sl(zs:List Int)(i j:Nat):(FQ zs).extract i j=FQ ((zs.drop i).take (j - i)):=by
 apply ByteArray.ext;apply Array.ext';rw[AFJ,AFK,strOfNums_data,strOfNums_data,List.extract_eq_take_drop,N9,List.map_drop]
theorem cu{ops:Array Oper}{rest:List Oper}{o:Oper}{a:Act}{Q:Exit->Act->AL->Prop}(hgd:o.guard=AB)(s x:Operand)
  (ho:o.op=.call {callee:=.builtin .append,args:=#[s,x],argTypes:=#[62,9]}) {ys:List Int} (hb: ∀x∈ys,0<=x/\x<=255)
  (hs:a.eval s=.slice AB 0 0) (hx:a.eval x=.string (FQ ys)) (hl:ys.length<=1073741824)
  (h: ∀A' c' w',Own w' 5 1 A' ys.length c' (bv ys)->AZ [] w w'->(∀k∈bo A',w.heap.size<=k)->wpList Af ops Q rest (a.put o.dst (.slice A' ys.length c')) w'):
  wpList Af ops Q (o::rest) a w:=by
 have hi: ∃ie,Af.info? 5=AA ie/\ie.zero=AA (.int .u8 0)/\ie.size=1/\ie.bytes=1:=by
  (have h:(Af.info? 5).map (λi=>(i.zero,i.size,i.bytes))=AA (AA (.int .u8 0),1,1):=by kernel_rfl);exact info_parts h
 obtain⟨ie,hi1,hi2,hi3,hi4⟩:=hi;have hsz:(FQ ys).size=ys.length:=strOfNums_size ys;refine Lib.wpList_append_own_string (P:=Af) w hgd s x 62 9 ho w.heap.size 5 ie Jc AHZ hi1 hi2 hi3 hi4 (.slice AB 0 0) 0 [] hs (World.ownsRow_nil w _ 5 1) (FQ ys) hx (by rw[hsz];unfold maxLen;omega) (by rw[hsz];omega) (Ba _) ?_;intro v' w' hown hg hnil;rw[qI hb,hsz,List.nil_append,Ny] at hown;have EU:AZ [] w w':=AZ.vK hg;rcases hown.2 with ⟨h1,h2⟩|⟨g,cap,cur,h1,hb2,h3⟩
 ·subst h1;have:=h AB 0 w' (by rw[h2];have hz:bv ys=[]:=TF (by simp[h2]);rw[hz];exact Own.nil _ _ _) EU AV;rwa[h2] at this
 subst h1;exact h _ _ w' ⟨hown.1,.inr ⟨g,cap,cur,rfl,D5 _,h3⟩⟩ EU (λk hk=>by simp at hk;omega)
theorem ATb(p:Array AP)(w:AL):(callFunc 79 p).run Af w=.ok (.enter 79 p) w:=BX (f:=79) (fn:=Ah.f79) nO rfl Aq p w
theorem Ah.ntmps79:Ah.f79.ntmps=8:=rfl
theorem Ah.ntmps46:Ah.f46.ntmps=19:=rfl
theorem AKb{s:ByteArray}(h0:0<=d)(h1:d<=9223372036854775807):A7 Af 79 #[.int .i64 0,.int .i64 0,.int .i64 0,.int .i64 0,.int .i64 0,.string s,.int .i64 d] w λe w'=>e=.returned (.tuple #[.string s,.int .i64 d])/\w'=w:=by
 go_enter nO,Ah.ntmps79;go_wp2
 go_ret2
 exact⟨rfl,rfl⟩
theorem AKc{d lo:Nat}{C:List (List Int)}{k:Nat}(h:KO d (zs.drop lo)=C.drop k)(hlo:lo<zs.length):
  C[k]? =AA ((zs.drop lo).take (d+1))/\KO d (zs.drop (lo+(d+1)))=C.drop (k+1):=by
 rw[YT d _ (by intro e;have:=congrArg List.length e;simp at this;omega),X5] at h;constructor
 ·(have h1:(C.drop k)[0]? =AA ((zs.drop lo).take (d+1)):=by rw[<- h];rfl);simpa using h1
 (have h2:(C.drop k).drop 1=KO d (zs.drop (lo+(d+1))):=by rw[<- h];rfl);rw[X5] at h2;exact h2.symm
def Cpd (S:Nat->AL->Prop) (E:Nat->Int->AL->Prop) (N:Nat) (e:Fv) (w':AL):Prop:=
 (e=.returned (.tuple #[.int .i64 (N:Int),.int .i64 0])/\S N w')\/(∃(k:Nat) (c:Int),k<N/\c≠0/\e=.returned (.tuple #[.int .i64 (k:Int),.int .i64 c])/\E k c w')
def Tkn (S:Nat->AL->Prop) (E:Nat->Int->AL->Prop) (k:Nat) (e:Fv) (w':AL):Prop:=
 (e=.returned (.int .i64 0)/\S (k+1) w')\/(∃c:Int,(c==0)=false/\(c !=0)=true/\Hid (c≠0)/\c*1=c/\0<=c/\c<=1000/\e=.returned (.int .i64 c)/\E k c w')
theorem AEp{size:Int}{rv:AP}{S:Nat->AL->Prop}{E:Nat->Int->AL->Prop}(hb: ∀x∈zs,0<=x/\x<=255)(hn:zs.length<=1073741824)(hs:size<=9223372036854775807)(h0:S 0 w)
  (hT: ∀(k:Nat) (p:List Int) (wr w2:AL) (A:Option Ag) (c:Nat),(KO (Tm size zs.length) zs)[k]? =AA p->S k wr->AZ [] wr w2->Own w2 5 1 A p.length c (bv p)->(∀j∈bo A,wr.heap.size<=j)->
   A7 Af 177 #[rv,.slice A p.length c] w2 (Tkn S E k)):
  A7 Af 46 #[YU zs size,.iface 109 rv] w (Cpd S E (KO (Tm size zs.length) zs).length):=by
 unfold YU;have hcl:(FQ zs).size=zs.length:=strOfNums_size zs
 generalize hd:Tm size zs.length=d at*
 generalize hC:KO d zs=C at*
 generalize hN:zs.length=n at*
 (have hd1:(d:Int)+1<=9223372036854775807:=by subst hd;unfold Tm;split<;>omega);have HT:=AQ hT;have HB:=AQ hb;have HC:=AQ hC;have HN:=AQ hN;have H0:=AQ h0;(have hm: ∀w,(method 392 109 rv "Take").run Af w=.ok (177,rv) w:=λ_=>by kernel_rfl);clear hT hb hC hN h0 hd;have ARa:=ATb;have AUB:= @AQJ;go_enter uo,Ah.ntmps46;(go_wp2_with (go_at_call 79;refine (AKb Ad Ad).mono ?_;rintro e w1 ⟨rfl,rfl⟩));unfold Ah.loop;go_loopw [4,5,8] (λc e lo wr=>∃k l:Nat,c=.int .i64 k/\e=.int .i64 0/\lo=.int .i64 l/\l<=n/\k<=l/\k<=C.length/\KO d (zs.drop l)=C.drop k/\S k wr) (λ_ _ l _=>n - (intOf l).toNat)
 case atStart=>exact⟨0,0,rfl,rfl,rfl,D5 _,Ba _,D5 _,by rw[X6,X6];exact HC.out,H0.out⟩
 obtain⟨k,l,rfl,rfl,rfl,hl,hkl,hkC,hcut,hS⟩:=hrel;by_cases hlt:l<n
 ·have q:=AKc hcut (by rw[HN.out];exact hlt);have HQ:=AQ q;have HS:=AQ hS;clear q hcut hS;by_cases hm1:d+1<=n - l
  ·(have hm2: ¬(n:Int) - (l:Int)<(d:Int)+1:=by omega);have HM:=AQ hm1;obtain⟨ys,hys⟩: ∃ys,ys=(zs.drop l).take (d+1):=⟨_,rfl⟩;(have hyl:ys.length=(d+1):=by rw[hys,Ie,TG,HN.out];omega);have HSL:Hid ((FQ zs).extract l ((l:Int)+min ((d:Int)+1) ((n:Int) - l)).toNat=FQ ys):=AQ (by rw[Sl,hys];congr 2;omega);have HYS:=AQ hys;have HYL:=AQ hyl;have hyb: ∀x∈ys,0<=x/\x<=255:=λx hx=>HB.out x (by rw[hys] at hx;exact List.drop_subset _ _ (List.take_subset _ _ hx));have HYB:=AQ hyb;clear hys hyb hyl
   go_wp2_with (first
    |(at_builtin;refine cu rfl _ _ rfl HYB.out rfl (by first|rfl|exact congrArg V4 HSL.out) (by have:=HYL.out;omega) ?_;intro A1 c1 w1 hown1 ZW oV)
    |(go_at_call 177;refine (HT.out k ys _ _ _ _ (by rw[HYS.out];exact HQ.out.1) HS.out ZW hown1 oV).mono ?_;rintro e w3 (⟨rfl,hS3⟩|⟨ec,hec,ATc,HEC,ATd,ATe,ATf,rfl,hE3⟩)))
   all_goals (have hkl2:k<C.length:=(DC.1 HQ.out.1).1)
   all_goals first
    |(refine⟨⟨k+1,l+(d+1),by go_num,rfl,by first|go_num|(congr 1;omega),Ad,Ad,hkl2,HQ.out.2,hS3⟩,?_⟩
      all_goals (simp[intOf];omega;done))
    |(go_ret2;exact .inr ⟨k,ec,hkl2,HEC.out,rfl,hE3⟩)
  (have hm2:(n:Int) - (l:Int)<(d:Int)+1:=by omega);have HM:=AQ hm1;obtain⟨ys,hys⟩: ∃ys,ys=(zs.drop l).take (d+1):=⟨_,rfl⟩;(have hyl:ys.length=(n - l):=by rw[hys,Ie,TG,HN.out];omega);have HSL:Hid ((FQ zs).extract l ((l:Int)+min ((d:Int)+1) ((n:Int) - l)).toNat=FQ ys):=AQ (by rw[Sl,hys,FH (by rw[TG,HN.out];omega),FH (by rw[TG,HN.out];omega)]);have HYS:=AQ hys;have HYL:=AQ hyl;have hyb: ∀x∈ys,0<=x/\x<=255:=λx hx=>HB.out x (by rw[hys] at hx;exact List.drop_subset _ _ (List.take_subset _ _ hx));have HYB:=AQ hyb;clear hys hyb hyl
  go_wp2_with (first
   |(at_builtin;refine cu rfl _ _ rfl HYB.out rfl (by first|rfl|exact congrArg V4 HSL.out) (by have:=HYL.out;omega) ?_;intro A1 c1 w1 hown1 ZW oV)
   |(go_at_call 177;refine (HT.out k ys _ _ _ _ (by rw[HYS.out];exact HQ.out.1) HS.out ZW hown1 oV).mono ?_;rintro e w3 (⟨rfl,hS3⟩|⟨ec,hec,ATc,HEC,ATd,ATe,ATf,rfl,hE3⟩)))
  all_goals (have hkl2:k<C.length:=(DC.1 HQ.out.1).1)
  all_goals first
   |(refine⟨⟨k+1,n,by go_num,rfl,by first|go_num|(congr 1;omega),Ba _,Ad,hkl2,by rw[<- HQ.out.2,Qy (by rw[HN.out];omega),Qy (by rw[HN.out];omega)],hS3⟩,?_⟩
     all_goals (simp[intOf];omega;done))
   |(go_ret2;exact .inr ⟨k,ec,hkl2,HEC.out,rfl,hE3⟩)
 (have hk:(C.drop k)=[]:=by rw[<- hcut,Qy (by rw[HN.out];omega),U3]);go_wp2
 go_ret2
 have hk2:k=C.length:=by
  have:=List.drop_eq_nil_iff.1 hk;omega
 subst hk2;exact .inl ⟨rfl,hS⟩
end
section
variable {nm:ByteArray}{zs:List Int}{dv:AP}
def qJ (w:AL) (G:Bh) (R:St×Int) (e:Fv) (w':AL):Prop:=e=.returned (.int .i64 R.2)/\DJ w G R.1 w'
abbrev PT (G:Bh):AP:=.pointer (AA ⟨G.b,0,AB⟩)
section
variable {w:AL} {G:Bh} {S:St} {B b3 b4 bf:Nat}
theorem uA(h:EI w G S)(hi:Inv B S)(hB:B<=1073741824)(h3:w.cell? ⟨b3,0,AB⟩=AA (PT G)):
  A7 Af 41 #[.pointer (AA ⟨b3,0,AB⟩)] w (qJ w G (S.CX BO)):=by
 have k1:=AHD h hi hB BO;have HK:=AQ k1;clear k1 h hi;have q1:= @ASQ;unfold PT at h3;go_enter AMo,Tryz.ntmps41;(go_wp2_with (go_at_call 42;refine HK.out.mono ?_;rintro e w1 ⟨rfl,hT⟩));go_ret;exact⟨rfl,hT⟩
theorem qK(h:EI w G S)(hi:Inv B S)(hB:B+1<=1073741824)(h3:w.cell? ⟨b3,0,AB⟩=AA (PT G))(hf:Bl w bf 64 #[.string nm,dv]):
  A7 Af 43 #[.pointer (AA ⟨b3,0,AB⟩),.pointer (AA ⟨bf,0,AB⟩)] w (qJ w G (S.create BO nm)):=by
 have k1:=AEe h hi hB BO nm;have HK:=AQ k1;have h4:w.cell? ⟨bf,0,AB⟩=AA (.string nm):=hf.cell 0;clear k1 h hi hf;have q1:= @ASS;unfold PT at h3;go_enter AMq,Tryz.ntmps43;(go_wp2_with (go_at_call 44;refine HK.out.mono ?_;rintro e w1 ⟨rfl,hT⟩));go_ret;exact⟨rfl,hT⟩
theorem AAO(h:EI w G S)(hi:Inv B S)(hB:B<=1073741824)(h3:w.cell? ⟨b3,0,AB⟩=AA (PT G))(hf:Bl w bf 64 #[.string nm,dv]):
  A7 Af 48 #[.pointer (AA ⟨b3,0,AB⟩),.pointer (AA ⟨bf,0,AB⟩)] w (qJ w G (S.sync BO nm)):=by
 have k1:=AKF h hi BO nm hB;have HK:=AQ k1;have h4:w.cell? ⟨bf,0,AB⟩=AA (.string nm):=hf.cell 0;clear k1 h hi hf;have q1:= @ASX;unfold PT at h3;go_enter AMt,Tryz.ntmps48;(go_wp2_with (go_at_call 49;refine HK.out.mono ?_;rintro e w1 ⟨rfl,hT⟩));go_ret;exact⟨rfl,hT⟩
theorem qL(h:EI w G S)(hi:Inv B S)(hB:B<=1073741824){dst:ByteArray}(h3:w.cell? ⟨b3,0,AB⟩=AA (PT G))(h4:w.cell? ⟨b4,0,AB⟩=AA (.string dst)):
  A7 Af 51 #[.pointer (AA ⟨b3,0,AB⟩),.pointer (AA ⟨b4,0,AB⟩)] w (qJ w G (S.rename BO dst)):=by
 have k1:=AEc h hi hB BO dst;have HK:=AQ k1;clear k1 h hi;have q1:= @ASZ;unfold PT at h3;go_enter AMw,Tryz.ntmps51;(go_wp2_with (go_at_call 52;refine HK.out.mono ?_;rintro e w1 ⟨rfl,hT⟩));go_ret;exact⟨rfl,hT⟩
theorem take_any(h:EI w G S)(hi:Inv B S)(nm:ByteArray)(A:Option Ag)(k c:Nat)(xs:List Int)(hr:Rd w 1 A k c (bv xs))(hB:B+k<=1073741824)(hd: ∀x∈bo A,x∉G.all):
  A7 Af 177 #[.agg #[PT G,.string nm],.slice A k c] w (qJ w G (S.write BO nm xs)):=by
 obtain⟨W,hW⟩: ∃W,w.alloc (.cells #[.pointer (AA ⟨G.b,0,AB⟩),.string nm] 109)=W:=⟨_,rfl⟩;(have hc:AZ [] w W:=by rw[<- hW];exact (AZ.refl [] w).alloc _);(have hb:Bl W w.heap.size 109 #[.pointer (AA ⟨G.b,0,AB⟩),.string nm]:=by rw[<- hW];exact .new _ _ _);have k1:=AHI (h.CE hc) hi BO nm A k c xs (hr.Ak hc AV) hB hd;have HK:=AQ k1;have HC:=AQ hc;have c1:W.cell? ⟨w.heap.size,0,AB⟩=AA (.pointer (AA ⟨G.b,0,AB⟩)):=hb.cell 0;have c2:W.cell? ⟨w.heap.size,1,AB⟩=AA (.string nm):=hb.cell 1;clear k1 h hi hr hc hb;have q1:= @AQK;go_enter AJV,Tryz.ntmps177;(go_wp2_with (first|(go_at_call 178;refine HK.out.mono ?_;rintro e w1 ⟨rfl,hT⟩)|(rw[hW])|(simp only[hW])));go_ret;exact⟨rfl,.before HC.out hT⟩
end
def St.puts (n:ByteArray) (S:St):List (List Int)->St×Int
 | []=>(S,0)|p::r=>if (S.write BO n p).2=0 then St.puts n (S.write BO n p).1 r else S.write BO n p
theorem AKd{n:ByteArray}{S:St}{l:List (List Int)}{j:Nat}{x:List Int}(h:l[j]? =AA x):St.puts n S (l.drop j)=if (S.write BO n x).2=0 then St.puts n (S.write BO n x).1 (l.drop (j+1)) else S.write BO n x:=by
 obtain⟨hl,rfl⟩:=DC.1 h;rw[X0 hl];rfl
theorem AHa(S:St)(t:Bool)(ns:List ByteArray):0<=S.ask t ns/\S.ask t ns<=1000:=by
 unfold St.ask;split;decide;split;decide;split<;>decide
theorem AHb(S:St)(d n:ByteArray):0<=(S.Oa d n).2/\(S.Oa d n).2<=1000:=by
 unfold St.Oa;split;exact AHa S true [d,n];split<;>exact⟨AV,AV⟩
theorem ACe(S:St)(d n:ByteArray)(xs:List Int):0<=(S.write d n xs).2/\(S.write d n xs).2<=1000:=by
 have h:=AHb S d n;unfold St.write;split
 ·rename_i e he;rw[he] at h;exact h
 split;exact⟨AV,AV⟩;split<;>exact⟨AV,AV⟩
def Qi (C:List (List Int)):Nat:=(C.map λp=>p.length+2).sum
theorem ACf{C:List (List Int)}{k:Nat}{p:List Int}(h:C[k]? =AA p):Qi (C.take (k+1))=Qi (C.take k)+(p.length+2):=by
 unfold Qi;rw[U6,h];simp
theorem qM(C:List (List Int))(k:Nat):Qi (C.take k)<=Qi C:=by
 unfold Qi;rw[N9];exact cO _ _
theorem jH(d:Nat)(l:List Int):Qi (KO d l)<=3*l.length:=by
 have h1:=Zl d l.length l rfl;have h2:=wK d l.length l rfl
 generalize KO d l=C at*
 rw[<- h1];clear h1;unfold Qi;rw[List.length_flatten];have: ∀p∈C,0<p.length:=λp hp=>(h2 p hp).1;clear h2
 induction C with
 |nil=>simp|cons p r ih=>
  simp only[BK,Bo];have h3:=ih (λq hq=>this q (CO _ hq));have h4:=this p (D9 ..);omega
theorem Inv.puts{n:ByteArray}: ∀(C:List (List Int)) {B:Nat} {S:St},Inv B S->Inv (B+Qi C) (St.puts n S C).1
 | [],B,S,h=>h.mono Ad
 |p::r,B,S,h=>by
  have h1:=h.write BO n p;unfold St.puts;split;exact (Inv.puts r h1).mono (by simp only[Qi,BK,Bo];omega);exact h1.mono (by simp only[Qi,BK,Bo];omega)
def Vg (xs:List Int):List (List Int):=KO 511 xs
theorem AMJ(xs:List Int):KO (Tm 512 xs.length) xs=Vg xs:=rfl
section
variable {w:AL} {G:Bh} {S:St} {B:Nat}
def CpS (w:AL) (G:Bh) (S:St) (B:Nat) (nm:ByteArray) (C:List (List Int)) (k:Nat) (wr:AL):Prop:=
 ∃S1,DJ w G S1 wr/\Inv (B+Qi (C.take k)) S1/\St.puts nm S C=St.puts nm S1 (C.drop k)
def CpE (w:AL) (G:Bh) (S:St) (nm:ByteArray) (C:List (List Int)) (_:Nat) (c:Int) (wr:AL):Prop:=
 ∃S1,DJ w G S1 wr/\St.puts nm S C=(S1,c)
theorem AEq(h:EI w G S)(hi:Inv B S)(nm:ByteArray)(hb: ∀x∈zs,0<=x/\x<=255)(hB:B+3*zs.length<=1073741824):
  A7 Af 46 #[YU zs 512,.iface 109 (.agg #[PT G,.string nm])] w λe w'=>∃k:Int,e=.returned (.tuple #[.int .i64 k,.int .i64 (S.puts nm (Vg zs)).2])/\DJ w G (S.puts nm (Vg zs)).1 w':=by
 have hp:=jH (Tm 512 zs.length) zs;refine (AEp (rv:=.agg #[PT G,.string nm]) (S:=CpS w G S B nm (KO (Tm 512 zs.length) zs)) (E:=CpE w G S nm (KO (Tm 512 zs.length) zs)) hb Ad Ad ?_ ?_).mono ?_;exact⟨S,.same h (.refl _ _),hi.mono Ad,rfl⟩
 ·intro k p wr w2 A c hk hS hch ho hnew;obtain⟨S1,⟨G1,h1,h2,h3,h4⟩,hI,hE⟩:=hS;have hb1:=ACf hk;have hb2:=qM (KO (Tm 512 zs.length) zs) (k+1);have k1:=take_any (h1.CE hch) hI nm A p.length c p ho.rd Ad (λx hx hm=>by have:=h1.lt x hm;have:=hnew x hx;omega);unfold PT at k1⊢;rw[h2] at k1;rw[AKd hk] at hE;have hW:=hI.write BO nm p;have hcd:=ACe S1 BO nm p;refine k1.mono ?_
  generalize S1.write BO nm p=R at*
  obtain⟨S2,cd⟩:=R;rintro e w3 ⟨rfl,hT⟩;have hT2:DJ w G S2 w3:=.trans h3 h2 h4 (.before hch hT);by_cases hc:cd=0
  ·subst hc;rw[BZ rfl] at hE;exact .inl ⟨rfl,S2,hT2,hW.mono Ad,hE⟩
  rw[BM hc] at hE;exact .inr ⟨cd,by simp[hc],by simp[hc],AQ hc,Ad,hcd.1,hcd.2,rfl,S2,hT2,hE⟩
 intro e w' hh;rw[<- AMJ];rcases hh with ⟨rfl,S1,hT,_,hE⟩|⟨k,c,_,_,rfl,S1,hT,hE⟩
 ·rw[Qy (Ba _)] at hE;rw[hE];exact⟨_,rfl,hT⟩
 rw[hE];exact⟨_,rfl,hT⟩
theorem uB{b3 bf:Nat}(h:EI w G S)(hi:Inv B S){A:Option Ag}{n c:Nat}(hd:Rd w 1 A n c (bv zs))(hb: ∀x∈zs,0<=x/\x<=255)(hB:B+3*zs.length<=1073741824)
  (h3:w.cell? ⟨b3,0,AB⟩=AA (PT G)) (hf:Bl w bf 64 #[.string nm,.slice A n c]) (hn3:b3∉G.all) (hnf:bf∉G.all):
  A7 Af 45 #[.pointer (AA ⟨bf,0,AB⟩),.pointer (AA ⟨b3,0,AB⟩)] w (qJ w G (S.puts nm (Vg zs))):=by
 have hl:=hd.AOG;have HD:=AQ hd;have HB:=AQ hb;have HN:Hid (n<=1073741824):=AQ Ad;have h4:w.cell? ⟨bf,0,AB⟩=AA (.string nm):=hf.cell 0;have h5:w.cell? ⟨bf,1,AB⟩=AA (.slice A n c):=hf.cell 1;have H3:Hid (∀w',AZ G.all w w'->w'.cell? ⟨b3,0,AB⟩=AA (.pointer (AA ⟨G.b,0,AB⟩))):=AQ λw' hc=>hc.cell h3 hn3;have H4:Hid (∀w',AZ G.all w w'->w'.cell? ⟨bf,0,AB⟩=AA (.string nm)):=AQ λw' hc=>hc.cell h4 hnf;have H5:Hid (∀w',AZ G.all w w'->w'.cell? ⟨bf,1,AB⟩=AA (.slice A n c)):=AQ λw' hc=>hc.cell h5 hnf;have HDR:Hid (AZ G.all w w.drew):=AQ (AZ.refl G.all w).drew
 have tY:Hid (A7 Af 46 #[YU zs 512,.iface 109 (.agg #[PT G,.string nm])] w.drew λe w'=>∃k:Int,e=.returned (.tuple #[.int .i64 k,.int .i64 (S.puts nm (Vg zs)).2])/\DJ w G (S.puts nm (Vg zs)).1 w'):=AQ (by
  refine (AEq (h.CE (AZ.refl [] w).drew) hi nm hb hB).mono ?_;rintro e w' ⟨k,h1,h2⟩
  exact⟨k,h1,.before (AZ.refl [] w).drew h2⟩)
 clear h hi hd hb hf h3 h4 h5;have q1:= @ASV;have q2:= @ASU;go_enter AMs,Tryz.ntmps45;(go_wp2_with fail);refine Ei (S:=λw'=>AZ G.all w w') Aq ((AZ.refl G.all w).drew) (λhHeld=>?_);refine tk 0 ?_;refine GI 1 (λw' hSw=>H5.out _ hSw) ?_;refine GI 3 (λw' hSw=>H3.out _ hSw) ?_;refine tk 4 ?_;refine GI 5 (λw' hSw=>H4.out _ hSw) ?_;refine tk 6 ?_;refine Oo (rs:=[2,7]) Aq AV ?_;refine Gh rfl (λK hK=>?a11) (Gh rfl (λK hK=>?b11) (Oq))
 case' a11=>
  go_simp;refine (jG (size:=512) HN.out (HD.out.Ak (AZ.drew (AZ.refl [] w)) AV) HB.out Ad).mono ?_;rintro e w1 ⟨rfl,rfl⟩;refine hK.out _ _ (hHeld) (λhHeld=>?_);(try simp only[BF,Bf]);clear hK K;refine EW 7 λK hK=>?_;go_simp
 case' b11=>
  go_simp;refine hK.out _ _ (hHeld) (λhHeld=>?_);(try simp only[BF,Bf]);clear hK K;refine EW 2 λK hK=>?_;go_simp;refine (jG (size:=512) HN.out (HD.out.Ak (AZ.drew (AZ.refl [] w)) AV) HB.out Ad).mono ?_;rintro e w1 ⟨rfl,rfl⟩
 all_goals
  refine hK.out _ _ (hHeld) (λhHeld=>?_);(try simp only[BF,Bf]);clear hK K;refine EW 8 λK hK=>?_;go_simp;refine tY.out.mono ?_;rintro e w1 ⟨k,rfl,hT⟩;go_simp;refine hK.out _ _ (hT.Ak) (λhHeld=>?_);(try simp only[BF,Bf]);clear hK K;refine tk 9 ?_;refine tk 10 ?_;refine tk 11 ?_;refine tk 12 ?_;refine tk 13 ?_;refine wpAnyH_done Aq ?_ _;(try simp only[BF,Bf]);go_wp2;go_ret;exact⟨rfl,hT⟩
end
end
section
variable {u:FrameMode}{f:J8}{fs gs:List J8}{L:List Nat}{b3 b6 bb:Nat}{S':St}{v:AP}{w w1:AL}
theorem ACg(cd:Int):(Jm cd).length<=1:=by unfold Jm qH;split<;>simp
theorem JW.qN(h:JW w v L gs)(hg:gs.length<=1):(v=.nilIface/\L=[]/\gs=[])\/∃b g,L=[b]/\gs=[g]/\Qr w b v g:=by
 unfold JW at h;split at h;exact .inl ⟨h,rfl,rfl⟩;exact .inr ⟨_,_,rfl,rfl,h⟩;simp at hg;exact h.elim
theorem AKe{u:AP}(hv:Qr w bb v f)(hu:JW w u L gs)(hg:gs.length<=1):
  A7 Af 40 #[v,u] w λe w'=>∃(t:TypeId) (y:AP) (L':List Nat),e=.returned (.iface t y)/\JW w' (.iface t y) L' (f::gs)/\AZ [] w w'/\∀x∈L',x=bb\/x∈L\/w.heap.size<=x:=by
 rcases hu.qN hg with ⟨rfl,rfl,rfl⟩|⟨b,g,rfl,rfl,hb⟩
 ·have h1:=hv.1;subst h1;refine (AHT _ _ w).mono ?_;rintro e w' ⟨rfl,rfl⟩;exact⟨_,_,[bb],rfl,hv,.refl _ _,AV⟩
 have h1:=hv.1;have h2:=hb.1;subst h1;subst h2;refine (AHU _ _ _ _ w).mono ?_;rintro e w' ⟨rfl,rfl⟩;have hc:AZ [] w (w.alloc (.cells #[.iface 140 (.pointer (AA ⟨bb,0,AB⟩)),.iface 140 (.pointer (AA ⟨b,0,AB⟩))] 152)):=(AZ.refl [] w).alloc _;refine⟨_,_,[w.heap.size,bb,b],rfl,⟨_,_,rfl,.new _ _ _,hv.Ak hc AV,hb.Ak hc AV⟩,hc,?_⟩;intro x hx;simp only[BB,BC,or_false] at hx;rcases hx with rfl|rfl|rfl;exact .inr (.inr (Ba _));exact .inl rfl;exact .inr (.inl AV)
theorem Sj.before{G:Bh}{e:Fv}{w':AL}(hc:AZ [] w w1)(h:Sj w1 G S' fs e w'):Sj w G S' fs e w':=by
 obtain⟨v,G',L,h1,h2,h3,h4,h5,h6,h7⟩:=h;exact⟨v,G',L,h1,h2,h3,h4,λx hx=>(h5 x hx).imp id (Ci hc.size),(hc.nil _).trans h6 (λx hx=>.inl hx),λx hx=>⟨Ci hc.size (h7 x hx).1,(h7 x hx).2⟩⟩
theorem AKf(h6:w.cell? ⟨b6,0,AB⟩=AA .nilIface):
  CallsD Af 39 #[.pointer (AA ⟨b6,0,AB⟩),.pointer (AA ⟨b3,0,AB⟩)] u w λe u' w'=>u'=u/\(e=.returned (.tuple #[])/\w'=w):=by
 go_enter_d AJI,Tryz.ntmps39
 go_wp2
 go_end0
 exact⟨rfl,rfl⟩
section
variable {w:AL} {G:Bh} {S:St} {B:Nat}
def D39 (w:AL) (G:Bh) (b6 bb:Nat) (S':St) (fs:List J8) (e:Fv) (w':AL):Prop:=
 e=.returned (.tuple #[])/\∃v G' L,w'.cell? ⟨b6,0,AB⟩=AA v/\JW w' v L fs/\EI w' G' S'/\G'.b=G.b/\(∀x∈G'.all,x∈G.all\/w.heap.size<=x)/\AZ (b6::G.all) w w'/\∀x∈L,x∉G'.all/\(x=bb\/w.heap.size<=x)
theorem AHc{w2:AL}{G1:Bh}{L1 L2:List Nat}{t2:TypeId}{y2:AP}(hQ:AZ G.all w w1)(hC:AZ [] w1 w2)(hE:JW w2 (.iface t2 y2) L2 fs)(hF:EI w1 G1 S')(hb:G1.b=G.b)
  (hA: ∀x∈G1.all,x∈G.all\/w.heap.size<=x) (hN1: ∀x∈L1,w.heap.size<=x/\x∉G1.all) (hN2: ∀x∈L2,x=bb\/x∈L1\/w1.heap.size<=x) (h6:Bl w2 b6 39 #[v]) (Xh:b6∉G.all) (hnb:bb∉G.all) (hlb:bb<w.heap.size) (hne:bb≠b6) (hl:b6<w.heap.size):
  D39 w G b6 bb S' fs (.returned (.tuple #[])) (w2.setCell ⟨b6,0,AB⟩ (.iface t2 y2)):=by
 have h1:=h6.FK 0 (.iface t2 y2);have hcs:AZ [b6] w2 (w2.setCell ⟨b6,0,AB⟩ (.iface t2 y2)):=(AZ.refl [b6] w2).setCell (.inl AV) _;have hz:=hQ.size
 have AGB:b6∉G1.all:=λhm=>by
  rcases hA _ hm with h|h;exact Xh h;omega
 have hL2: ∀x∈L2,x≠b6/\x∉G1.all/\(x=bb\/w.heap.size<=x):=λx hx=>by
  rcases hN2 x hx with rfl|h|h
  ·exact⟨hne,λhm=>by
    rcases hA _ hm with h|h;exact hnb h
    omega,.inl rfl⟩
  exact⟨by have:=(hN1 x h).1;omega,(hN1 x h).2,.inr (hN1 x h).1⟩;exact⟨Ad,λhm=>by have:=hF.lt x hm;omega,.inr Ad⟩
 refine⟨rfl,_,G1,L2,h1.cell 0,hE.Ak hcs (λx hx=>by simpa using (hL2 x hx).1),(hF.CE hC).keep hcs (λx hx hm=>by simp at hm;subst hm;exact AGB hx),hb,hA,?_,λx hx=>(hL2 x hx).2⟩;exact ((hQ.mono (λx hx=>.inl (CO _ hx))).Ap hC).trans hcs (λx hx=>by simp at hx;subst hx;exact .inl AV)
theorem AKg(h:EI w G S)(hi:Inv B S)(hB:2*B+2<=1073741824)(h3:w.cell? ⟨b3,0,AB⟩=AA (PT G))(h6:Bl w b6 39 #[v])(hv:Qr w bb v f)
  (Xh:b6∉G.all) (hnb:bb∉G.all) (hne:bb≠b6):
  CallsD Af 39 #[.pointer (AA ⟨b6,0,AB⟩),.pointer (AA ⟨b3,0,AB⟩)] u w λe u' w'=>u'=u/\D39 w G b6 bb S.clean.1 (f::Jm S.clean.2) e w':=by
 have HV:=AQ hv;have qO:Hid (bb∉G.all):=AQ hnb;have HNE:Hid (bb≠b6):=AQ hne;have H3:Hid (w.cell? ⟨b3,0,AB⟩=AA (.pointer (AA ⟨G.b,0,AB⟩))):=AQ h3;have H6B:Hid (∀w',AZ G.all w w'->Bl w' b6 39 #[v]):=AQ λw' hc=>h6.Ak hc Xh;have H6:Hid (∀w',AZ G.all w w'->w'.cell? ⟨b6,0,AB⟩=AA v):=AQ λw' hc=>(h6.Ak hc Xh).cell 0;have HQ1:Hid (AZ G.all w w.drew):=AQ (AZ.refl G.all w).drew;have WW:Hid (A7 Af 21 #[.pointer (AA ⟨G.b,0,AB⟩)] w.drew (Sj w G S.clean.1 (Jm S.clean.2))):=AQ ((fZ (h.CE (AZ.refl [] w).drew) hi hB).mono λe w' hh=>hh.before (AZ.refl [] w).drew);have h6c:=h6.cell 0;have HL:Hid (bb<w.heap.size/\b6<w.heap.size):=AQ ⟨hv.2.1.lt,h6.lt⟩;obtain⟨hv1,_,_⟩:=hv;subst hv1;clear h hi h3 h6;have q1:= @AJe;have q2:= @ASO
 go_enter_d AJI,Tryz.ntmps39
 (go_wp2_with fail);refine Ei (S:=λ_=>True) Aq (Am) (λhHeld=>?_);refine Oo (rs:=[0,1]) Aq AV ?_;refine Gh rfl (λK hK=>?a12) (Gh rfl (λK hK=>?b12) (Oq))
 case' a12=>
  have q:=H6.out _ HQ1.out;go_simp;refine hK.out _ _ (Am) (λhHeld=>?_);(try simp only[BF,Bf]);clear hK K;refine EW 1 λK hK=>?_;have q:=H3.out;go_simp;refine hK.out _ _ (Am) (λhHeld=>?_);(try simp only[BF,Bf]);clear hK K;refine EW 2 λK hK=>?_;go_simp;refine WW.out.mono ?_;rintro e w1 ⟨v1,G1,L1,rfl,hE1,hF1,hG1,hA1,Xm,hN1⟩;have HQ2:=AQ Xm;have qP:=AQ hE1;have GR:=AQ hF1;have HA1:=AQ hA1;have HN1:=AQ hN1;clear hE1 hF1 hA1 Xm hN1
 case' b12=>
  have q:=H3.out;go_simp;refine hK.out _ _ (Am) (λhHeld=>?_);(try simp only[BF,Bf]);clear hK K;refine Oo (rs:=[0,2]) Aq AV ?_;refine Gh rfl (λK hK=>?LD) (Gh rfl (λK hK=>?b13) (Oq))
  case' LD=>
   have q:=H6.out _ HQ1.out;go_simp;refine hK.out _ _ (Am) (λhHeld=>?_);(try simp only[BF,Bf]);clear hK K;refine EW 2 λK hK=>?_;go_simp;refine WW.out.mono ?_;rintro e w1 ⟨v1,G1,L1,rfl,hE1,hF1,hG1,hA1,Xm,hN1⟩;have HQ2:=AQ Xm;have qP:=AQ hE1;have GR:=AQ hF1;have HA1:=AQ hA1;have HN1:=AQ hN1;clear hE1 hF1 hA1 Xm hN1
  case' b13=>
   go_simp;refine WW.out.mono ?_;rintro e w1 ⟨v1,G1,L1,rfl,hE1,hF1,hG1,hA1,Xm,hN1⟩;have HQ2:=AQ Xm;have qP:=AQ hE1;have GR:=AQ hF1;have HA1:=AQ hA1;have HN1:=AQ hN1;clear hE1 hF1 hA1 Xm hN1;go_simp;refine hK.out _ _ (Am) (λhHeld=>?_);(try simp only[BF,Bf]);clear hK K;refine EW 0 λK hK=>?_;have q:=H6.out _ HQ2.out
 all_goals
  go_simp;refine hK.out _ _ (Am) (λhHeld=>?_);(try simp only[BF,Bf]);clear hK K;refine EW 3 λK hK=>?_;go_simp;refine (AKe (HV.out.Ak HQ2.out qO.out) qP.out (ACg _)).mono ?_;rintro e w2 ⟨t2,y2,L2,rfl,hE2,hC2,hN2⟩;have hb:=H6B.out _ (HQ2.out.Ap hC2);have hz:=hb.frozen 0;have q:=hb.cell 0;simp only[GU] at q;have HE2:=AQ hE2;have HB:=AQ hb;have HC2:=AQ hC2;have HN2:=AQ hN2;clear hE2 hC2 hN2 hb;go_simp;refine hK.out _ _ (Am) (λhHeld=>?_);(try simp only[BF,Bf]);clear hK K;refine EW 4 λK hK=>?_;go_simp;refine hK.out _ _ (Am) (λhHeld=>?_);(try simp only[BF,Bf]);clear hK K;refine wpAnyH_done Aq ?_ _;(try simp only[BF,Bf]);go_wp2
  go_end0
  exact AHc HQ2.out HC2.out HE2.out GR.out hG1 HA1.out HN1.out HN2.out HB.out Xh qO.out HL.out.1 HNE.out HL.out.2
end
end
section
variable {vs:List AP}{b3 b4 j m:Nat}{S:St}{f:AP}{w:AL}
inductive Do where
 |CX|create (n:ByteArray)|write (n:ByteArray) (xs:List Int)|sync (n:ByteArray)|names|rename (d:ByteArray)
def St.act (S:St):Do->St×Int
 | .CX=>S.CX BO| .create n=>S.create BO n| .write n xs=>S.puts n (Vg xs)| .sync n=>S.sync BO n| .names=>S.names| .rename d=>S.rename BO d
def Do.bulk:Do->Nat
 | .write _ xs=>3*xs.length+2|_=>2
theorem Inv.act{B:Nat}{S:St}(h:Inv B S)(d:Do):Inv (B+d.bulk) (S.act d).1:=by
 cases d with|CX=>exact (h.CX BO).mono (by simp[Do.bulk])|create n=>exact (h.create BO n).mono (by simp[Do.bulk])|write n xs=>exact (h.puts (n:=n) (Vg xs)).mono (by have:=jH 511 xs;simp only[Do.bulk,Vg];omega)|sync n=>exact (h.sync BO n).mono (by simp[Do.bulk])|names=>exact h.names.mono (by simp[Do.bulk])|rename d=>exact (h.rename BO d).mono (by simp[Do.bulk])
structure JF where
 op:ByteArray
 pl:Int
 d:Do
def gG (i:Nat) (f:ByteArray×List Int):List JF:=[⟨{data:=#[99,114,101,97,116,101]},i,.create f.1⟩,⟨{data:=#[119,114,105,116,101]},i,.write f.1 f.2⟩,⟨{data:=#[115,121,110,99]},i,.sync f.1⟩]
def Gv (i:Nat):List (ByteArray×List Int)->List JF
 | []=>[]|f::r=>gG i f++Gv (i+1) r
theorem dB(f:ByteArray×List Int): ∀(fs:List (ByteArray×List Int)) (i:Nat),Gv i (fs++[f])=Gv i fs++gG (i+fs.length) f
 | [],i=>by simp[Gv]
 |g::r,i=>by
  simp only[List.cons_append,Gv,dB f r (i+1),KC,ES];rw[show i+1+r.length=i+(r.length+1) by omega]
theorem Xn: ∀(fs:List (ByteArray×List Int)) (i:Nat),(Gv i fs).length=3*fs.length
 | [],i=>rfl|g::r,i=>by simp only[Gv,Ig,Xn r,gG,ES,List.length_nil];omega
def gI:List JF:=[⟨{data:=#[109,107,100,105,114]},0,.CX⟩]
def Oe (dst:ByteArray):List JF:=[⟨{data:=#[110,97,109,101,115]},0,.names⟩,⟨{data:=#[114,101,110,97,109,101]},0,.rename dst⟩,⟨{data:=#[115,97,102,101]},0,.names⟩]
def EP (dst:ByteArray) (fs:List (ByteArray×List Int)):List JF:=gI++Gv 0 fs++Oe dst
def St.runT (S:St):List JF->St×List J8
 | []=>(S,[])|t::r=>if (S.act t.d).2=0 then St.runT (S.act t.d).1 r else ((S.act t.d).1,[⟨t.op,t.pl,(S.act t.d).2⟩])
theorem AKh{l:List JF}{t:JF}(h:l[j]? =AA t):St.runT S (l.drop j)=if (S.act t.d).2=0 then St.runT (S.act t.d).1 (l.drop (j+1)) else ((S.act t.d).1,[⟨t.op,t.pl,(S.act t.d).2⟩]):=by
 obtain⟨hl,rfl⟩:=DC.1 h;rw[X0 hl];rfl
def St.F7 (S:St) (dst:ByteArray) (fs:List (ByteArray×List Int)):St×List J8:=
 if CS dst=false\/dst=BO then (S,[⟨{data:=#[112,97,116,104,115]},0,81⟩])
 else if S.clean.2≠0 then (S.clean.1,Jm S.clean.2)
 else if (S.clean.1.runT (EP dst fs)).2=[] then S.clean.1.runT (EP dst fs)
 else ((S.clean.1.runT (EP dst fs)).1.clean.1,(S.clean.1.runT (EP dst fs)).2++Jm (S.clean.1.runT (EP dst fs)).1.clean.2)
def JX (ts:List JF):Nat:=(ts.map λt=>t.d.bulk).sum
theorem wL{ts:List JF}{t:JF}(h:ts[j]? =AA t):JX (ts.take (j+1))=JX (ts.take j)+t.d.bulk:=by
 unfold JX;rw[U6,h];simp
theorem qQ(ts:List JF)(j:Nat):JX (ts.take j)<=JX ts:=by
 unfold JX;rw[N9];exact cO _ _
theorem Inv.runT: ∀(ts:List JF) {B:Nat} {S:St},Inv B S->Inv (B+JX ts) (St.runT S ts).1
 | [],B,S,h=>h.mono Ad
 |t::r,B,S,h=>by
  have h1:=h.act t.d;unfold St.runT;split;exact (Inv.runT r h1).mono (by simp only[JX,BK,Bo];omega);exact h1.mono (by simp only[JX,BK,Bo];omega)
def Vh (fs:List (ByteArray×List Int)):Nat:=(fs.map λf=>3*f.2.length+6).sum
theorem UW(a b:List JF):JX (a++b)=JX a+JX b:=by unfold JX;rw[Em,U8]
theorem dC: ∀(fs:List (ByteArray×List Int)) (i:Nat),JX (Gv i fs)=Vh fs
 | [],i=>rfl
 |f::r,i=>by
  have h1:Vh (f::r)=(3*f.2.length+6)+Vh r:=rfl;have h2:JX (gG i f)=2+((3*f.2.length+2)+(2+0)):=rfl;rw[Gv,UW,dC r (i+1),h1,h2];omega
theorem dD(dst:ByteArray)(fs:List (ByteArray×List Int)):JX (EP dst fs)=Vh fs+8:=by
 have h1:JX gI=2:=rfl;have h2:JX (Oe dst)=6:=rfl;unfold EP;rw[UW,UW,dC,h1,h2];omega
theorem ACh(fs:List (ByteArray×List Int)):6*fs.length<=Vh fs:=by
 unfold Vh
 induction fs with|nil=>simp|cons f r ih=>simp only[BK,Bo,ES];omega
theorem AKi{fs:List (ByteArray×List Int)}{f:ByteArray×List Int}(h:f∈fs):3*f.2.length+6<=Vh fs:=by
 unfold Vh
 induction fs with
 |nil=>cases h|cons g r ih=>
  simp only[BK,Bo];rcases BB.1 h with rfl|h;omega;have:=ih h;omega
inductive gJ (w:AL) (G:Bh) (b3 b4 m:Nat):Do->AP->Prop
 |CX:gJ w G b3 b4 m .CX (.func (.func 41) #[] #[.pointer (AA ⟨b3,0,AB⟩)])|create (b:Nat) (nm:ByteArray) (dv:AP):Bl w b 64 #[.string nm,dv]->b∉G.all->gJ w G b3 b4 m (.create nm) (.func (.func 43) #[] #[.pointer (AA ⟨b3,0,AB⟩),.pointer (AA ⟨b,0,AB⟩)])
 |write (b:Nat) (nm:ByteArray) (A:Option Ag) (n c:Nat) (xs:List Int):Bl w b 64 #[.string nm,.slice A n c]->b∉G.all->Rd w 1 A n c (bv xs)->(∀x∈bo A,x∉G.all/\x<m)->(∀x∈xs,0<=x/\x<=255)->
   gJ w G b3 b4 m (.write nm xs) (.func (.func 45) #[] #[.pointer (AA ⟨b,0,AB⟩),.pointer (AA ⟨b3,0,AB⟩)])
 |sync (b:Nat) (nm:ByteArray) (dv:AP):Bl w b 64 #[.string nm,dv]->b∉G.all->gJ w G b3 b4 m (.sync nm) (.func (.func 48) #[] #[.pointer (AA ⟨b3,0,AB⟩),.pointer (AA ⟨b,0,AB⟩)])|names:gJ w G b3 b4 m .names (.func (.func 50) #[.pointer (AA ⟨G.b,0,AB⟩)] #[])|rename (d:ByteArray):w.cell? ⟨b4,0,AB⟩=AA (.string d)->b4∉G.all->b4<m->gJ w G b3 b4 m (.rename d) (.func (.func 51) #[] #[.pointer (AA ⟨b3,0,AB⟩),.pointer (AA ⟨b4,0,AB⟩)])
theorem gJ.AGC{w':AL}{G:Bh}{d:Do}{L:List Nat}(h:gJ w G b3 b4 m d f)(hc:AZ L w w')(hL: ∀x∈L,m<=x/\∃cs,Bl w x 100 cs):gJ w' G b3 b4 m d f:=by
 have hb: ∀(b:Nat) (cs:Array AP),Bl w b 64 cs->b∉L:=λb cs h hm=>by
  obtain⟨_,cs',h'⟩:=hL b hm;exact h.ne_ h' Ar rfl
 cases h with|CX=>exact .CX|create b nm dv h1 h2=>exact .create b nm dv (h1.Ak hc (hb _ _ h1)) h2|write b nm A n c xs h1 h2 h3 h4 h5=>exact .write b nm A n c xs (h1.Ak hc (hb _ _ h1)) h2 (h3.Ak hc (λx hx hm=>by have:=(h4 x hx).2;have:=(hL x hm).1;omega)) h4 h5|sync b nm dv h1 h2=>exact .sync b nm dv (h1.Ak hc (hb _ _ h1)) h2|names=>exact .names|rename d h1 h2 h3=>exact .rename d (hc.cell h1 (λhm=>by have:=(hL _ hm).1;simp only at this;omega)) h2 h3
theorem gJ.call{wr:AL}{G G1:Bh}{d:Do}{B:Nat}(h:gJ w G b3 b4 m d f)(h3:w.cell? ⟨b3,0,AB⟩=AA (PT G))(hn3:b3∉G.all)(hl3:b3<w.heap.size)
  (hF:EI wr G1 S) (hb:G1.b=G.b) (hA: ∀x∈G1.all,x∈G.all\/w.heap.size<=x) (hc:AZ G.all w wr) (hi:Inv B S) (hB:B+d.bulk<=1073741824):
  ∃(id:FuncId) (bd cp:Array AP),f=.func (.func id) bd cp/\(∀(p:Array AP) (w:AL),(callFunc id p).run Af w=.ok (.enter id p) w)/\A7 Af id (bd++cp) wr (qJ wr G1 (S.act d)):=by
 have h3':wr.cell? ⟨b3,0,AB⟩=AA (PT G1):=by rw[show PT G1=PT G by unfold PT;rw[hb]];exact hc.cell h3 hn3
 have hout: ∀x,x∉G.all->x<w.heap.size->x∉G1.all:=λx h1 h2 hm=>by
  rcases hA x hm with h|h;exact h1 h;omega
 cases h with
 |CX=>exact⟨41,#[],_,rfl,ASP,uA hF hi (by simp only[Do.bulk] at hB;omega) h3'⟩|create b nm dv h1 h2=>exact⟨43,#[],_,rfl,ASR,qK hF hi (by simp only[Do.bulk] at hB;omega) h3' (h1.Ak hc h2)⟩|write b nm A n c xs h1 h2 h3 h4 h5=>
  exact⟨45,#[],_,rfl,AST,uB hF hi (h3.Ak hc λx hx=>(h4 x hx).1) h5 (by simp only[Do.bulk] at hB;omega) h3' (h1.Ak hc h2) (hout _ hn3 hl3) (hout _ h2 h1.lt)⟩
 |sync b nm dv h1 h2=>exact⟨48,#[],_,rfl,ASW,AAO hF hi (by simp only[Do.bulk] at hB;omega) h3' (h1.Ak hc h2)⟩|names=>
  refine⟨50,_,#[],rfl,ANb,?_⟩;rw[<- hb];exact vg hF hi (by simp only[Do.bulk] at hB;omega)
 |rename d h1 h2 _=>exact⟨51,#[],_,rfl,ASY,qL hF hi (by simp only[Do.bulk] at hB;omega) h3' (hc.cell h1 h2)⟩
inductive NY (w:AL) (G:Bh) (b3 b4 m:Nat):List JF->List AP->Prop
 |nil:NY w G b3 b4 m [] []|cons {t:JF} {f:AP} {ts:List JF} {vs:List AP}:gJ w G b3 b4 m t.d f->NY w G b3 b4 m ts vs->NY w G b3 b4 m (t::ts) (.string t.op:: .int .i64 t.pl::f::vs)
theorem NY.AGC{w w':AL}{G:Bh}{b3 b4 m:Nat}{ts:List JF}{vs:List AP}{L:List Nat}(h:NY w G b3 b4 m ts vs)(hc:AZ L w w')(hL: ∀x∈L,m<=x/\∃cs,Bl w x 100 cs):NY w' G b3 b4 m ts vs:=by
 induction h with|nil=>exact .nil|cons h1 _ ih=>exact .cons (h1.AGC hc hL) ih
theorem NY.append{G:Bh}{ts us:List JF}{xs:List AP}(h:NY w G b3 b4 m ts vs)(k:NY w G b3 b4 m us xs):NY w G b3 b4 m (ts++us) (vs++xs):=by
 induction h with|nil=>exact k|cons h1 _ ih=>exact .cons h1 ih
theorem NY.at_{G:Bh}{ts:List JF}(h:NY w G b3 b4 m ts vs): ∀{j:Nat} {t:JF},ts[j]? =AA t->∃f,gJ w G b3 b4 m t.d f/\vs[j*3]? =AA (.string t.op)/\vs[j*3+1]? =AA (.int .i64 t.pl)/\vs[j*3+2]? =AA f:=by
 induction h with
 |nil=>intro j t hj;cases hj
 |cons h1 _ ih=>
  intro j t hj
  cases j with
  |zero=>simp at hj;subst hj;exact⟨_,h1,rfl,rfl,rfl⟩|succ j=>
   simp at hj;obtain⟨f,g1,g2,g3,g4⟩:=ih hj;refine⟨f,g1,?_,?_,?_⟩;rw[show (j+1)*3=j*3+3 by omega];exact g2;rw[show (j+1)*3+1=j*3+1+3 by omega];exact g3;rw[show (j+1)*3+2=j*3+2+3 by omega];exact g4
end
section
variable {fs:List FM}{vs:List AP}{b3 b4 c k m n:Nat}{A A8:Option Ag}{wz:AL}
def Sr:Code->List Code
 | .loop c=>[c]| .seq a b=>Sr a++Sr b| .block _ c=>Sr c| .scope c=>Sr c| .cond _ a b=>Sr a++Sr b|_=>[]
noncomputable def ACi (k:Nat):Code:=((Tryz.f14.body.map Sr).getD [])[k]?.getD .skip
theorem wM:Ety Af 101 100 3 32 (.agg #[.string ByteArray.empty,.int .i64 0,.nilFunc]):=.mk' AQQ Aq rfl Ar
structure dE (wz wr:AL) (G:Bh) (b3 b4 m:Nat) (fs:List FM) (A8:Option Ag) (c8:Nat) (vs:List AP) (k:Nat):Prop where
 own:Own wr 100 3 A8 (1+3*k) c8 vs
 stp:NY wr G b3 b4 m (gI++Gv 0 ((BD fs).take k)) vs
 Ak:AZ [] wz wr
 new: ∀x∈bo A8,wz.heap.size<=x
theorem dE.AOI{wr:AL}{G:Bh}{c8:Nat}(h:dE wz wr G b3 b4 m fs A8 c8 vs k){w':AL}(hc:AZ [] wr w'):Own w' 100 3 A8 (1+3*k) c8 vs:=h.own.Ak hc AV
theorem Own.jI(w:AL)(e:TypeId)(sz:Nat)(cs:Array AP)(n g:Nat)(xs:List AP)(hg:g=w.heap.size)(hx:cs.toList=xs)(hm:n<=maxLen)(hs:cs.size=n*sz):Own (w.alloc (.cells cs e)) e sz (AA ⟨g,0,AB⟩) n n xs:=by
 subst hg;subst hx;exact Own.lit w e sz cs n hm hs
theorem Own.AGD{w:AL}(h:Own w 100 3 A n c vs): ∀x∈bo A,∃cs,Bl w x 100 cs:=by
 rcases h.form with ⟨rfl,_⟩|⟨g,cur,rfl,hb,_⟩;simp;intro x hx;simp at hx;subst hx;exact⟨cur,hb⟩
def AOJ (b3 b:Nat) (k:Nat):List AP:=[.string {data:=#[99,114,101,97,116,101]},.int .i64 (k:Int),.func (.func 43) #[] #[.pointer (AA ⟨b3,0,AB⟩),.pointer (AA ⟨b,0,AB⟩)],.string {data:=#[119,114,105,116,101]},.int .i64 (k:Int),.func (.func 45) #[] #[.pointer (AA ⟨b,0,AB⟩),.pointer (AA ⟨b3,0,AB⟩)],.string {data:=#[115,121,110,99]},.int .i64 (k:Int),.func (.func 48) #[] #[.pointer (AA ⟨b3,0,AB⟩),.pointer (AA ⟨b,0,AB⟩)]]
theorem dE.next{wr wb:AL}{G:Bh}{A9:Option Ag}{c8 c9:Nat}(h:dE wz wr G b3 b4 m fs A8 c8 vs k){nm:ByteArray}{dA:Option Ag}{dn dc:Nat}{dx:List Int}(hx:fs[k]? =AA (⟨nm,dA,dn,dc⟩,dx))
  (hM: ∀x∈bo A++Gj fs,x<m) (hD: ∀x∈bo A++Gj fs,x∉G.all) (hby: ∀f∈fs,∀x∈f.2,0<=x/\x<=255) (hR:FO wz A n c fs) (hG: ∀x∈G.all,x<wz.heap.size) (hmz:m<=wz.heap.size) {cs:Obj}
  (ho:Own wb 100 3 A9 (1+3*k+3) c9 (vs++AOJ b3 wr.heap.size k)) (hc:AZ (bo A8) ((wr.alloc (.cells #[.string nm,.slice dA dn dc] 64)).alloc cs) wb) (hn: ∀x∈bo A9,x∈bo A8\/(((wr.alloc (.cells #[.string nm,.slice dA dn dc] 64)).alloc cs).heap.size<=x/\x<wb.heap.size)):
  dE wz wb G b3 b4 m fs A9 c9 (vs++AOJ b3 wr.heap.size k) (k+1):=by
 have ha:AZ [] wr ((wr.alloc (.cells #[.string nm,.slice dA dn dc] 64)).alloc cs):=((AZ.refl [] wr).alloc _).alloc _;have hcc:AZ (bo A8) wr wb:=(ha.nil _).trans hc (λx hx=>.inl hx);have hL: ∀x∈bo A8,m<=x/\∃cs,Bl wr x 100 cs:=λx hx=>⟨Ci hmz (h.new x hx),h.own.AGD x hx⟩;have hz:=h.Ak.size;have hmem:=Bq hx
 have hb:Bl wb wr.heap.size 64 #[.string nm,.slice dA dn dc]:=by
  have:=(Bl.new wr 64 #[.string nm,.slice dA dn dc]).alloc cs;exact this.Ak hc (λhm=>by have:=h.own.lt _ hm;omega)
 (have hbn:wr.heap.size∉G.all:=λhm=>by have:=hG _ hm;omega);have hdm: ∀x∈bo dA,x∈bo A++Gj fs:=λx hx=>Be.2 (.inr (FI.2 ⟨_,hmem,hx⟩));have hd:Rd wb 1 dA dn dc (bv dx):=(hR.dat _ hmem).Ak (h.Ak.trans hcc (λx hx=>.inr (h.new x hx))) AV;refine⟨ho,?_,h.Ak.trans hcc (λx hx=>.inr (h.new x hx)),λx hx=>?_⟩
 ·have hfx:(BD fs)[k]? =AA (nm,dx):=by unfold BD;rw[Bg,hx];rfl
  have hkl:((BD fs).take k).length=k:=by
   have:=(DC.1 hfx).1;rw[Ie];omega
  rw[U6,hfx,Option.toList_some,dB,hkl,Ny,<- KC];refine (h.stp.AGC hcc hL).append ?_;exact .cons (.create _ _ _ hb hbn) (.cons (.write _ _ _ _ _ _ hb hbn hd (λx hx=>⟨hD x (hdm x hx),hM x (hdm x hx)⟩) (hby _ hmem)) (.cons (.sync _ _ _ hb hbn) .nil))
 rcases hn x hx with h'|h'
 ·exact h.new x h'
 have:=h'.1;simp at this;omega
theorem AKj{G:Bh}{A0:Option Ag}{c0:Nat}{vs0:List AP}{D:List Deferred}{w0:AL}(wz:AL)(Q0:Exit->Act->AL->Prop)
  (HR:Hid (FO w0 A n c fs)) (HM:Hid (∀x∈bo A++Gj fs,x<m)) (HD:Hid (∀x∈bo A++Gj fs,x∉G.all)) (HBY:Hid (∀f∈fs,∀x∈f.2,0<=x/\x<=255)) (hn:n<=178956970)
  (HS:Hid (dE w0 wz G b3 b4 m fs A0 c0 vs0 0)) (HG:Hid (∀x∈G.all,x<w0.heap.size)) (HMZ:Hid (m<=w0.heap.size))
  (u0 u1 u4 u5 u6 u7 u9 u10 u11 u12 u13 u14 u15 u16 u17 u18 u19 u20 u21 u22 u23 u24 u25 u26 u27 u28 u29 u30 u31 u35 u36 u37 u38 u39 u40 u41 u42 u43 u44 u45 u46 u47 u48 u49 u50 u51 u52 u53 u54 u55 u56 u57 u58 u59 u60 u61 u62 u63 u64 u65 u66 u67 u68 u69 u70 u71 u72 u73 u74 u75 u76 u77 u78 u79 u80 u81:AP)
  (AEr:Hid (∀(A8:Option Ag) (c8:Nat) (vs:List AP) (v9 v10 v35 v36 v37 v38 v39 v40 v41 v42 v43 v44 v45 v46 v47 v48 v49 v50 v51:AP) (wr:AL),dE w0 wr G b3 b4 m fs A8 c8 vs n->Q0 (.exit 0) ⟨(List.toArray (u0::u1:: .slice A n c:: .pointer (AA ⟨b3,0,AB⟩)::u4::u5::u6::u7:: .slice A8 (1+3*n) c8::v9::v10::u11::u12::u13::u14::u15::u16::u17::u18::u19::u20::u21::u22::u23::u24::u25::u26::u27::u28::u29::u30::u31:: .slice A n c:: .int .i64 (n:Int):: .int .i64 (n:Int)::v35::v36::v37::v38::v39::v40::v41::v42::v43::v44::v45::v46::v47::v48::v49::v50::v51::u52::u53::u54::u55::u56::u57::u58::u59::u60::u61::u62::u63::u64::u65::u66::u67::u68::u69::u70::u71::u72::u73::u74::u75::u76::u77::u78::u79::u80::u81::[])),D⟩ wr)):
  Code.wp Af (.loop (ACi 0)) Q0 ⟨(List.toArray (u0::u1:: .slice A n c:: .pointer (AA ⟨b3,0,AB⟩)::u4::u5::u6::u7:: .slice A0 1 c0::u9::u10::u11::u12::u13::u14::u15::u16::u17::u18::u19::u20::u21::u22::u23::u24::u25::u26::u27::u28::u29::u30::u31:: .slice A n c:: .int .i64 (n:Int):: .int .i64 0::u35::u36::u37::u38::u39::u40::u41::u42::u43::u44::u45::u46::u47::u48::u49::u50::u51::u52::u53::u54::u55::u56::u57::u58::u59::u60::u61::u62::u63::u64::u65::u66::u67::u68::u69::u70::u71::u72::u73::u74::u75::u76::u77::u78::u79::u80::u81::[])),D⟩ wz:=by
 have hmf: ∀(fn:Fn) (first cap:Array AP) (w:AL),(Instr.makeFunc fn first cap).run Af w=.ok (.func fn first cap) w:=λ_ _ _ _=>rfl
 conv=>arg 2;arg 1;whnf
 go_loopw [8,34] (λs q wr=>∃(k:Nat) (A8:Option Ag) (c8:Nat) (vs:List AP),k<=n/\q=.int .i64 k/\s=.slice A8 (1+3*k) c8/\dE w0 wr G b3 b4 m fs A8 c8 vs k) (λ_ q _=>n - (intOf q).toNat)
 case atStart=>exact⟨0,A0,c0,vs0,D5 _,rfl,rfl,HS.out⟩
 obtain⟨k,A8,c8,vs,hk,rfl,rfl,hS⟩:=hrel;have HS8:=AQ hS;clear hS;by_cases hlt:k<n
 ·(have hlt':(k:Int)<n:=by omega);obtain⟨x,hx⟩: ∃x,fs[k]? =AA x:=⟨_,CQ (by have:=HR.out.row.Ov;simp[F5] at this;omega)⟩;obtain⟨⟨nm,dA,dn,dc⟩,dx⟩:=x;obtain⟨ad,rfl,hat⟩:=(HR.out.Ho HS8.out.Ak).row.ns (j:=k) (x:=⟨nm,dA,dn,dc⟩) (by unfold F5;rw[Bg,hx];rfl);have x0:=hat.c0;have x1:=hat.c1;have HX:=AQ hx;clear hat hx;(go_wp2_with (at_builtin;refine Gz rfl _ _ rfl wM rfl (HS8.out.AOI ((AZ.refl [] wr).alloc _ |>.alloc _)) rfl (Own.jI _ 100 3 #[.string {data:=#[99,114,101,97,116,101]},.int .i64 (k:Int),.func (.func 43) #[] #[.pointer (AA ⟨b3,0,AB⟩),.pointer (AA ⟨wr.heap.size,0,AB⟩)],.string {data:=#[119,114,105,116,101]},.int .i64 (k:Int),.func (.func 45) #[] #[.pointer (AA ⟨wr.heap.size,0,AB⟩),.pointer (AA ⟨b3,0,AB⟩)],.string {data:=#[115,121,110,99]},.int .i64 (k:Int),.func (.func 48) #[] #[.pointer (AA ⟨b3,0,AB⟩),.pointer (AA ⟨wr.heap.size,0,AB⟩)]] 3 _ _ AV rfl Ar rfl).rd (by simp[Value.oneCell']) Qv Ad ?_;intro A9 c9 wb hown EU hnew _));go_roundw
  case rel=>exact⟨k+1,A9,c9,_,Ad,by go_num,by first|rfl|(congr 1),HS8.out.next HX.out HM.out HD.out HBY.out HR.out HG.out HMZ.out hown EU hnew⟩
  simp[intOf];omega
 (obtain rfl:k=n:=by omega);go_wp2;exact AEr.out A8 c8 vs _ _ _ _ _ _ _ _ _ _ _ _ _ _ _ _ _ _ _ _ HS8.out
end
end Go.Proofs.YtkkgcebhfghdnaaGreatDoor.Vw
