/- Part 24 of what that rests on; no condition. -/
import Derived.Test.YtkkgcebhfghdnaaGreatDoorKw
import Derived.Defers
import Derived.Lib.AppendStr
set_option maxRecDepth 100000
set_option maxHeartbeats 8000000
namespace Go.Proofs.YtkkgcebhfghdnaaGreatDoor.Vw
open Go.RowKit
def CE:ByteArray:={data:=#[46,115,116,97,103,101]}
def St.Ea (d:ByteArray) (S:St):List ByteArray->St×Int
 | []=>(S,0)|n::r=>if (S.remove d n).2=0 then St.Ea d (S.remove d n).1 r else S.remove d n
theorem AFo{d:ByteArray}{S:St}{l:List ByteArray}{j:Nat}{x:ByteArray}(h:l[j]? =some x):St.Ea d S (l.drop j)=if (S.remove d x).2=0 then St.Ea d (S.remove d x).1 (l.drop (j+1)) else S.remove d x:=by
 obtain⟨hl,rfl⟩:=BB.1 h;rw[Gh hl];rfl
def St.MQ (d:ByteArray) (S:St) (l:List ByteArray):St×Int:=
 if (St.Ea d S l).2=0 then (if ((St.Ea d S l).1.rmdir d).2=0 then ((St.Ea d S l).1.rmdir d).1.names else (St.Ea d S l).1.rmdir d) else St.Ea d S l
def St.clean (S:St):St×Int:=
 if S.Ld.2=0 then (if (idx CE S.Ld.1).isSome=true then (if (S.list CE).2=0 then S.MQ CE (S.list CE).1 else (S,(S.list CE).2)) else (S,0)) else (S,S.Ld.2)
theorem Inv.Ea{B:Nat}(d:ByteArray): ∀(l:List ByteArray) {S:St},Inv B S->Inv (B+l.length) (St.Ea d S l).1
 | [],S,h=>h
 |n::r,S,h=>by
  unfold St.Ea;by_cases h0:(S.remove d n).2=0
  ·rw[if_pos h0];have:=Inv.Ea d r (h.remove d n);exact this.mono (by simp only[List.length_cons];omega)
  rw[if_neg h0];exact (h.remove d n).mono (by simp only[List.length_cons];omega)
theorem tZ{B:Nat}{S:St}(h:Inv B S)(d:ByteArray):(S.list d).1.length<=B:=by
 unfold St.list;split;simp;simp only[BH];unfold GR
 cases hf:BJ S.seen d with
 |none=>simp|some F=>
  have:=wX (CP hf);have:=h.wd
  simp only at*
  simp only[Option.getD_some];omega
theorem AFp{B:Nat}{S:St}(h:Inv B S):S.Ld.1.length<=B:=by
 unfold St.Ld;split;simp;have:=wW S.seen;have:=h.wd;simp only[BH];omega
theorem Inv.clean{B:Nat}{S:St}(h:Inv B S):Inv (2*B+2) S.clean.1:=by
 have hl:=tZ h CE;have h1:=h.Ea CE (S.list CE).1;have h2:=h1.rmdir CE;have h3:=h2.names;unfold St.clean;split
 ·split
  ·split
   ·unfold St.MQ;split
    ·split;exact h3.mono Ac;exact h2.mono Ac
    exact h1.mono Ac
   exact h.mono Ac
  exact h.mono Ac
 exact h.mono Ac
theorem DI.remove{w w1:World}{G:Bg}{S1:St}{B:Nat}(h:DI w G S1 w1)(hi:Inv B S1)(hB:B<=1073741824)(d n:ByteArray):
  Calls Ae 98 #[.pointer (some ⟨G.b,0,none⟩),.string d,.string n] w1 λe w2=>e=.returned (.int .i64 (S1.remove d n).2)/\DI w G (S1.remove d n).1 w2:=by
 obtain⟨G1,h1,h2,h3,h4⟩:=h;rw[<- h2];exact (AC3 h1 hi hB d n).mono λe w2 ⟨he,ht⟩=>⟨he,ht.trans h3 h2 h4⟩
theorem DI.rmdir{w w1:World}{G:Bg}{S1:St}{B:Nat}(h:DI w G S1 w1)(hi:Inv B S1)(hB:B<=1073741824)(d:ByteArray):
  Calls Ae 99 #[.pointer (some ⟨G.b,0,none⟩),.string d] w1 λe w2=>e=.returned (.int .i64 (S1.rmdir d).2)/\DI w G (S1.rmdir d).1 w2:=by
 obtain⟨G1,h1,h2,h3,h4⟩:=h;rw[<- h2];exact (AFV h1 hi hB d).mono λe w2 ⟨he,ht⟩=>⟨he,ht.trans h3 h2 h4⟩
theorem ABG{w:World}{G:Bg}{S:St}{B:Nat}(h:ED w G S)(hi:Inv B S)(hB:2*B+2<=1073741824):
  Calls Ae 64 #[.pointer (some ⟨G.b,0,none⟩)] w λe w'=>e=.returned (.int .i64 S.clean.2)/\DI w G S.clean.1 w':=by
 have HF:=AQ h;have HI:=AQ hi;have hL1:=AFp hi;have hL2:=tZ hi CE;clear h hi;have q1:= @AQO;have q2:= @AQP;have q3:= @AQQ;have q4:= @AQR;have q5:= @AQS;have q6:= @ALJ;obtain⟨ds,hds⟩: ∃ds,S.Ld.1=ds:=⟨_,rfl⟩;obtain⟨de,hde⟩: ∃de,S.Ld.2=de:=⟨_,rfl⟩;obtain⟨ls,hls⟩: ∃ls,(S.list CE).1=ls:=⟨_,rfl⟩;obtain⟨le,hle⟩: ∃le,(S.list CE).2=le:=⟨_,rfl⟩;have HC:Hid (S.clean=if de=0 then (if (idx CE ds).isSome=true then (if le=0 then S.MQ CE ls else (S,le)) else (S,0)) else (S,de)):=AQ (by unfold St.clean;rw[hds,hde,hls,hle]);(have HD:Hid (∀w,ED w G S->Calls Ae 95 #[.pointer (some ⟨G.b,0,none⟩)] w (Zw 9 w (Oi ds) ds.length de)):=AQ λw hf=>by have:=AIB hf HI.out Ac;rwa[hds,hde] at this);(have HLL:Hid (∀w,ED w G S->Calls Ae 97 #[.pointer (some ⟨G.b,0,none⟩),.string CE] w (Zw 9 w (Oi ls) ls.length le)):=AQ λw hf=>by have:=AIC hf HI.out Ac CE;rwa[hls,hle] at this);rw[hds] at hL1;rw[hls] at hL2;clear hds hde hls hle;unfold CE at HLL;go_enter AKu,Tryz.ntmps64;(go_wp2_with fail);refine (HD.out _ HF.out).mono ?_;rintro e w1 ⟨A1,c1,rfl,ho1,hc1,hn1⟩;have Ox:=AQ ho1;have DC:=AQ hc1;clear ho1 hc1 hn1;by_cases hde:de=0
 ·subst hde;(go_wp2_with fail);refine (qJ A1 ds.length c1 ds _ w1 Ox.out.rd Ac).mono ?_;rintro e w2 ⟨rfl,hc2⟩;have HC2:=AQ (DC.out.Aq hc2);clear hc2
  cases hb:(idx {data:=#[46,115,116,97,103,101]} ds).isSome with
  |false=>
   go_wp2;go_ret;(have:S.clean=(S,0):=by rw[HC.out,if_pos trivial,if_neg (by show ¬(idx {data:=#[46,115,116,97,103,101]} ds).isSome=true;rw[hb];decide)]);rw[this];exact⟨rfl,.same HF.out HC2.out⟩
  |true=>
   (have hcl:S.clean=if le=0 then S.MQ CE ls else (S,le):=by rw[HC.out,if_pos trivial,if_pos (show (idx CE ds).isSome=true from hb)]);have V3:=AQ hcl;clear hcl hb;(go_wp2_with fail);refine (HLL.out _ (HF.out.CX HC2.out)).mono ?_;rintro e w3 ⟨A3,c3,rfl,ho3,hc3,hn3⟩;have HO3:=AQ ho3;have GV:=AQ (HC2.out.Aq hc3);have qF:=AQ hn3;clear ho3 hc3 hn3;by_cases hle:le=0
   ·subst hle;(have hcl:S.clean=S.MQ CE ls:=by rw[V3.out,if_pos rfl]);have AL0:=AQ hcl;clear hcl V3;have hlo:Hid (ls.length<=B):=AQ hL2;go_wp2;go_loopw [33] (λi wr=>∃(k:Nat) (S1:St),k<=ls.length/\i=.int .i64 k/\Hid (Inv (B+k) S1)/\DI w3 G S1 wr/\Hid (S.Ea CE ls=S1.Ea CE (ls.drop k))) (λi _=>ls.length - (intOf i).toNat)
    case atStart=>exact⟨0,S,BP _,rfl,HI,.same (HF.out.CX GV.out) (.refl _ _),AQ rfl⟩
    obtain⟨k,S1,hk,rfl,hI1,hT1,hE1⟩:=hrel;by_cases hlt:k<ls.length
    ·obtain⟨ad,u,rfl,hu,hcell⟩:=(HO3.out.rd.Am hT1.Am (λx hx hm=>by have:=qF.out x hx;have:=HF.out.lt x hm;have:=HC2.out.size;omega)).bT hlt
     obtain⟨x,hx,rfl⟩: ∃x,ls[k]? =some x/\u=.string x:=by
      simp only[Oi,AV,DV] at hu;obtain⟨x,h1,h2⟩:=hu;exact⟨x,h1,h2.symm⟩
     have hE2:=hE1.out;rw[AFo hx] at hE2;obtain⟨S2,hS2⟩: ∃S2,(S1.remove CE x)=S2:=⟨_,rfl⟩;obtain⟨S2,e2⟩:=S2;have hI2:Inv (B+(k+1)) S2:=by have:=hI1.out.remove CE x;rw[hS2] at this;exact this
     have hR:Hid (∀w1,DI w3 G S1 w1->Calls Ae 98 #[.pointer (some ⟨G.b,0,none⟩),.string CE,.string x] w1 λe w2=>e=.returned (.int .i64 e2)/\DI w3 G S2 w2):=AQ λw1 hf=>by
      have:=hf.remove hI1.out Ac CE x;rw[hS2] at this;exact this
     rw[hS2] at hE2;have HE2:=AQ hE2;have HI2:=AQ hI2;have HT1:=AQ hT1;clear hE2 hI2 hT1 hS2 hE1 hI1 hu hx;(go_wp2_with fail);refine (hR.out _ HT1.out).mono ?_;rintro e w4 ⟨rfl,hT2⟩;have HT2:=AQ hT2;clear hT2;by_cases he:e2=0
     ·subst he;go_wp2;go_roundw
      case rel=>
       refine⟨k+1,S2,Ac,by go_num,HI2,HT2.out,AQ ?_⟩;rw[HE2.out,if_pos trivial]
      simp[intOf];omega
     (have hd:(e2==0)=false:=by simp[he]);(have hd2:decide (e2=0)=false:=by simp[he]);have HX:=AQ he;clear he;go_wp2;go_ret;have h1:=HE2.out;rw[if_neg HX.out] at h1;rw[AL0.out];unfold St.MQ;rw[h1,if_neg HX.out];exact⟨rfl,.before GV.out HT2.out⟩
    (have hkn:k=ls.length:=by omega);subst hkn;have h1:=hE1.out;rw[Et (AP _)] at h1;obtain⟨S2,hS2⟩: ∃S2,S1.rmdir CE=S2:=⟨_,rfl⟩;obtain⟨S2,e2⟩:=S2;have hI2:Inv (B+(ls.length+1)) S2:=by have:=hI1.out.rmdir CE;rw[hS2] at this;exact this
    have hR:Hid (∀w1,DI w3 G S1 w1->Calls Ae 99 #[.pointer (some ⟨G.b,0,none⟩),.string CE] w1 λe w2=>e=.returned (.int .i64 e2)/\DI w3 G S2 w2):=AQ λw1 hf=>by
     have:=hf.rmdir hI1.out Ac CE;rw[hS2] at this;exact this
    have hcl:=AL0.out;unfold St.MQ at hcl;have h2:S.Ea CE ls=(S1,0):=h1;rw[h2] at hcl;simp only[if_true,hS2] at hcl;have AIa:=AQ hcl;have HI2:=AQ hI2;have HT1:=AQ hT1;clear hcl h1 h2 hI2 hT1 hS2 hE1 hI1;(go_wp2_with fail);refine (hR.out _ HT1.out).mono ?_;rintro e w4 ⟨rfl,hT2⟩;have HT2:=AQ hT2;clear hT2;by_cases he:e2=0
    ·subst he;have hcl:=AIa.out;have AQ9:=AQ hcl;clear hcl AIa;(go_wp2_with fail);refine (HT2.out.names HI2.out Ac).mono ?_;rintro e w5 ⟨rfl,hT3⟩;go_wp2;go_ret;have h3:=AQ9.out;simp only[if_true] at h3;rw[h3];exact⟨rfl,.before GV.out hT3⟩
    (have hd:(e2==0)=false:=by simp[he]);(have hd2:decide (e2=0)=false:=by simp[he]);have HX:=AQ he;clear he;go_wp2;go_ret;rw[AIa.out,if_neg HX.out];exact⟨rfl,.before GV.out HT2.out⟩
   (have hd:(le==0)=false:=by simp[hle]);(have hd2:decide (le=0)=false:=by simp[hle]);have HX:=AQ hle;clear hle;go_wp2;go_ret;rw[V3.out,if_neg HX.out];exact⟨rfl,.same HF.out GV.out⟩
 (have hd:(de==0)=false:=by simp[hde]);(have hd2:decide (de=0)=false:=by simp[hde]);have HX:=AQ hde;clear hde;go_wp2;go_ret;rw[HC.out,if_neg HX.out];exact⟨rfl,.same HF.out DC.out⟩
structure Kv where
 op:ByteArray
 pl:Int
 cd:Int
def QY (w:World) (b:Nat) (v:Value) (f:Kv):Prop:=v=.iface 140 (.pointer (some ⟨b,0,none⟩))/\Bo w b 142 #[.string f.op,.int .i64 f.pl,.iface 51 (.int .i64 f.cd)]/\f.cd≠0
def JO (w:World) (v:Value):List Nat->List Kv->Prop
 | [],[]=>v=.nilIface| [b],[f]=>QY w b v f| [b,c,d],[f,g]=>∃x y,v=.iface 150 (.pointer (some ⟨b,0,none⟩))/\Bo w b 152 #[x,y]/\QY w c x f/\QY w d y g|_,_=>False
theorem QY.Am{w w':World}{b:Nat}{v:Value}{f:Kv}{M:List Nat}(h:QY w b v f)(hc:AZ M w w')(hb:b∉M):QY w' b v f:=⟨h.1,h.2.1.Am hc hb,h.2.2⟩
theorem JO.Am{w w':World}{v:Value}{L:List Nat}{fs:List Kv}{M:List Nat}(h:JO w v L fs)(hc:AZ M w w')(hb: ∀b∈L,b∉M):JO w' v L fs:=by
 unfold JO at*
 split at h;exact h;exact h.Am hc (hb _ AY)
 ·obtain⟨x,y,h1,h2,h3,h4⟩:=h;exact⟨x,y,h1,h2.Am hc (hb _ AY),h3.Am hc (hb _ AY),h4.Am hc (hb _ AY)⟩
 exact h
def ABH (op:ByteArray) (pl cd:Int):List Kv:=if cd=0 then [] else [⟨op,pl,cd⟩]
def Su (w:World) (G:Bg) (S':St) (fs:List Kv) (e:Ending) (w':World):Prop:=
 ∃v G' L,e=.returned v/\JO w' v L fs/\ED w' G' S'/\G'.b=G.b/\(∀x∈G'.all,x∈G.all\/w.heap.size<=x)/\AZ G.all w w'/\∀x∈L,w.heap.size<=x/\x∉G'.all
theorem Su.nil{w w':World}{G:Bg}{S':St}(h:DI w G S' w'):Su w G S' [] (.returned .nilIface) w':=by
 obtain⟨G',h1,h2,h3,h4⟩:=h;exact⟨_,G',[],rfl,rfl,h1,h2,h3,h4,AY⟩
theorem Su.one{w w1:World}{G:Bg}{S':St}(h:DI w G S' w1){op:ByteArray}{pl cd:Int}(hcd:cd≠0):Su w G S' (ABH op pl cd) (.returned (.iface 140 (.pointer (some ⟨w1.heap.size,0,none⟩)))) (w1.alloc (.cells #[.string op,.int .i64 pl,.iface 51 (.int .i64 cd)] 142)):=by
 obtain⟨G',h1,h2,h3,h4⟩:=h;have hal:AZ [] w1 (w1.alloc (.cells #[.string op,.int .i64 pl,.iface 51 (.int .i64 cd)] 142)):=(AZ.refl [] w1).alloc _;refine⟨_,G',[w1.heap.size],rfl,?_,h1.CX hal,h2,h3,h4.Aq hal,?_⟩
 ·unfold ABH;rw[if_neg hcd];exact⟨rfl,.new _ _ _,hcd⟩
 intro x hx;simp only[Ad] at hx;subst hx;exact⟨h4.size,λhm=>by have:=h1.lt _ hm;omega⟩
def Jr (cd:Int):List Kv:=ABH {data:=#[99,108,101,97,110,117,112]} 0 cd
theorem Xl{w:World}{G:Bg}{S:St}{B:Nat}(h:ED w G S)(hi:Inv B S)(hB:2*B+2<=1073741824):
  Calls Ae 21 #[.pointer (some ⟨G.b,0,none⟩)] w (Su w G S.clean.1 (Jr S.clean.2)):=by
 have HF:=AQ h;have HI:=AQ hi;clear h hi;have q1:= @AQE;have q2:= @AHg;have q3:= @AHf;go_enter AKT,Tryz.ntmps21;(go_wp2_with fail);refine (ABG HF.out HI.out hB).mono ?_
 generalize S.clean=R at*
 obtain⟨S1,cd⟩:=R;rintro e w1 ⟨rfl,hT⟩;have HT:=AQ hT;clear hT;by_cases he:cd=0
 ·subst he
  go_wp2_with (first
   |(go_at_call 38;refine (Xj 0 _).mono ?_;rintro e w2 ⟨rfl,rfl⟩)
   |(go_at_call 37;refine (wrap_nil _ _ _).mono ?_;rintro e w3 ⟨rfl,rfl⟩))
  go_ret;exact .nil HT.out
 have HE:=AQ he;clear he
 go_wp2_with (first
  |(go_at_call 38;refine (Xj cd _).mono ?_;rintro e w2 ⟨rfl,rfl⟩;rw[if_neg HE.out])
  |(go_at_call 37;refine (Xk _ _ _ _ _).mono ?_;rintro e w3 ⟨rfl,rfl⟩))
 go_ret;exact .one HT.out HE.out
open Go
theorem JL:Ae.underlying 62=some (.slice 5):=rf
def KJ (d:Nat) (l:List Int):List (List Int):=
 match l with| []=>[]|x::r=>((x::r).take (d+1))::KJ d (r.drop d)
 termination_by l.length
 decreasing_by simp;omega
theorem Xm(d:Nat):KJ d []=[]:=by unfold KJ;rfl
theorem Xn(d:Nat)(l:List Int)(h:l≠[]):KJ d l=l.take (d+1)::KJ d (l.drop (d+1)):=by
 cases l with|nil=>exact absurd rfl h|cons x r=>rw[KJ];rfl
theorem ADH(d:Nat)(p:List Int)(h0:p≠[])(h:p.length<=d+1):KJ d p=[p]:=by
 rw[Xn d p h0,Bc h,Et h,Xm]
theorem ADI(d:Nat): ∀(n:Nat) (l:List Int),l.length=n->(KJ d l).flatten=l:=by
 intro n
 induction n using Nat.strongRecOn with
 |_ n ih=>
  intro l hl;by_cases h:l=[];subst h;rw[Xm];rfl
  rw[Xn d l h,List.flatten_cons,ih (l.drop (d+1)).length (by
   have:0<l.length:=VT.2 h
   simp;omega) _ rfl,Gs]
theorem AFq(d:Nat): ∀(n:Nat) (l:List Int),l.length=n->∀p∈KJ d l,0<p.length/\p.length<=n:=by
 intro n
 induction n using Nat.strongRecOn with
 |_ n ih=>
  intro l hl p hp;by_cases h:l=[];subst h;rw[Xm] at hp;cases hp;have h0:0<l.length:=VT.2 h;rw[Xn d l h] at hp;rcases AA.1 hp with rfl|hp;simp;omega;have:=ih (l.drop (d+1)).length (by simp;omega) _ rfl p hp;simp at this;omega
def Sv (size:Int) (n:Nat):Nat:=if size<1 then n - 1 else size.toNat - 1
theorem Ai.ntmps47:Ai.f47.ntmps=20:=rfl
def Xo (zs:List Int) (size:Int):Value:=.func (.func 79) #[] #[.string (strOfNums zs),.int .i64 ((Sv size zs.length+1:Nat):Int)]
theorem Y5{zs:List Int}{size d:Int}{n:Nat}(hl:zs.length=n)(h:d=((Sv size n+1:Nat):Int)):Ending.returned (.func (.func 79) #[] #[.string (strOfNums zs),.int .i64 d])=.returned (Xo zs size):=by subst hl;subst h;rfl
theorem gQ{A:Option Addr}{n c:Nat}{zs:List Int}{size:Int}{w:World}(hn:n<=1073741824)(hrd:Rd w 1 A n c (bv zs))(hb: ∀x∈zs,0<=x/\x<=255)(hs:size<=9223372036854775807):
  Calls Ae 47 #[.slice A n c,.int .i64 size] w λe w'=>e=.returned (Xo zs size)/\w'=w:=by
 (have hl:zs.length=n:=by have:=hrd.1;simp at this;omega);have h1:=lY hrd;(have hsz:(strOfNums zs).size=n:=by rw[strOfNums_size];exact hl);(have i1:(n:Int)<=1073741824:=by omega);have HR:=AQ hrd;have HL:=AQ hl;have HB:=AQ hb;clear hrd hl hb;go_enter AAB,Ai.ntmps47;go_wp2;unfold Ai.JB;go_loopw [11] (λi wr=>∃(k:Nat),k<=n/\i=.int .i64 k/\wr=w) (λi _=>n - (intOf i).toNat)
 case atStart=>exact⟨0,BP _,rfl,rfl⟩
 obtain⟨k,hk,rfl,rfl⟩:=hrel;by_cases hlt:k<n
 ·obtain⟨ad,x,rfl,hx,hcell⟩:=lJ HR.out hlt;have hx2:=HB.out x (Aa hx);(have q1:decide (0<=x)=true:=by simpa using hx2.1);(have q2:decide (x<=255)=true:=by simpa using hx2.2);have HX:=AQ hx2;clear hx hx2;go_wp2;go_roundw
  case rel=>exact⟨k+1,Ac,by go_num,trivial⟩
  simp[intOf];omega
 (have hkn:k=n:=by omega);by_cases hs1:size<1
 ·(have q1:decide (size<1)=true:=by simpa using hs1);have HS:=AQ hs1;by_cases hn0:n<1
  ·have HN0:=AQ hn0;go_wp2;unfold Ai.IG;go_wp2;all_goals (go_ret;exact⟨Y5 HL.out (by unfold Sv;have:=HS.out;rw[if_pos this];have:=HN0.out;omega),rfl⟩)
  have HN0:=AQ hn0;go_wp2;unfold Ai.IG;go_wp2;all_goals (go_ret;exact⟨Y5 HL.out (by unfold Sv;have:=HS.out;rw[if_pos this];have:=HN0.out;omega),rfl⟩)
 (have q1:decide (size<1)=false:=by simpa using hs1);have HS:=AQ hs1;go_wp2;unfold Ai.IG;go_wp2;all_goals (go_ret;exact⟨Y5 HL.out (by unfold Sv;have:=HS.out;rw[if_neg (show ¬size<1 by omega)];omega),rfl⟩)
theorem AFr:Ae.underlying 9=some .string:=J4
theorem nG{ys:List Int}(hb: ∀x∈ys,0<=x/\x<=255):Lib.strCells (strOfNums ys)=bv ys:=by
 unfold Lib.strCells;rw[strOfNums_data,Bq];apply ES;intro x hx;have:=hb x hx;simp;omega
theorem Ri(zs:List Int)(i j:Nat):(strOfNums zs).extract i j=strOfNums ((zs.drop i).take (j - i)):=by
 apply ByteArray.ext;apply Array.ext';rw[VQ,VR,strOfNums_data,strOfNums_data,List.extract_eq_take_drop,D8,List.map_drop]
theorem aA{w:World}{ops:Array Oper}{rest:List Oper}{o:Oper}{a:Act}{Q:Exit->Act->World->Prop}(hgd:o.guard=none)(s x:Operand)
  (ho:o.op=.call {callee:=.builtin .append,args:=#[s,x],argTypes:=#[62,9]}) {ys:List Int} (hb: ∀x∈ys,0<=x/\x<=255)
  (hs:a.eval s=.slice none 0 0) (hx:a.eval x=.string (strOfNums ys)) (hl:ys.length<=1073741824)
  (h: ∀A' c' w',Own w' 5 1 A' ys.length c' (bv ys)->AZ [] w w'->(∀k∈bo A',w.heap.size<=k)->wpList Ae ops Q rest (a.put o.dst (.slice A' ys.length c')) w'):
  wpList Ae ops Q (o::rest) a w:=by
 have hi: ∃ie,Ae.info? 5=some ie/\ie.zero=some (.int .u8 0)/\ie.size=1/\ie.bytes=1:=by
  (have h:(Ae.info? 5).map (λi=>(i.zero,i.size,i.bytes))=some (some (.int .u8 0),1,1):=by kernel_rfl);exact info_parts h
 obtain⟨ie,hi1,hi2,hi3,hi4⟩:=hi;have hsz:(strOfNums ys).size=ys.length:=strOfNums_size ys;refine Lib.wpList_append_own_string (P:=Ae) w hgd s x 62 9 ho w.heap.size 5 ie JL AFr hi1 hi2 hi3 hi4 (.slice none 0 0) 0 [] hs (World.ownsRow_nil w _ 5 1) (strOfNums ys) hx (by rw[hsz];unfold maxLen;omega) (by rw[hsz];omega) (AP _) ?_;intro v' w' hown hg hnil;rw[nG hb,hsz,List.nil_append,Dx] at hown;have EJ:AZ [] w w':=AZ.rq hg;rcases hown.2 with ⟨h1,h2⟩|⟨g,cap,cur,h1,hb2,h3⟩
 ·subst h1;have:=h none 0 w' (by rw[h2];have hz:bv ys=[]:=E5 (by simp[h2]);rw[hz];exact Own.nil _ _ _) EJ AY;rwa[h2] at this
 subst h1;exact h _ _ w' ⟨hown.1,.inr ⟨g,cap,cur,rfl,BP _,h3⟩⟩ EJ (λk hk=>by simp at hk;omega)
theorem ARA(p:Array Value)(w:World):(callFunc 79 p).run Ae w=.ok (.enter 79 p) w:=BV (f:=79) (fn:=Ai.f79) kG rfl Ap p w
theorem Ai.ntmps79:Ai.f79.ntmps=8:=rfl
theorem Ai.ntmps46:Ai.f46.ntmps=19:=rfl
theorem AIb{s:ByteArray}{d:Int}{w:World}(h0:0<=d)(h1:d<=9223372036854775807):Calls Ae 79 #[.int .i64 0,.int .i64 0,.int .i64 0,.int .i64 0,.int .i64 0,.string s,.int .i64 d] w λe w'=>e=.returned (.tuple #[.string s,.int .i64 d])/\w'=w:=by
 go_enter kG,Ai.ntmps79;go_wp2
 go_ret2
 exact⟨rfl,rfl⟩
theorem AIc{d lo:Nat}{zs:List Int}{C:List (List Int)}{k:Nat}(h:KJ d (zs.drop lo)=C.drop k)(hlo:lo<zs.length):
  C[k]? =some ((zs.drop lo).take (d+1))/\KJ d (zs.drop (lo+(d+1)))=C.drop (k+1):=by
 rw[Xn d _ (by intro e;have:=congrArg List.length e;simp at this;omega),Gz] at h;constructor
 ·(have h1:(C.drop k)[0]? =some ((zs.drop lo).take (d+1)):=by rw[<- h];rfl);simpa using h1
 (have h2:(C.drop k).drop 1=KJ d (zs.drop (lo+(d+1))):=by rw[<- h];rfl);rw[Gz] at h2;exact h2.symm
def Cpd (S:Nat->World->Prop) (E:Nat->Int->World->Prop) (N:Nat) (e:Ending) (w':World):Prop:=
 (e=.returned (.tuple #[.int .i64 (N:Int),.int .i64 0])/\S N w')\/(∃(k:Nat) (c:Int),k<N/\c≠0/\e=.returned (.tuple #[.int .i64 (k:Int),.int .i64 c])/\E k c w')
def Tkn (S:Nat->World->Prop) (E:Nat->Int->World->Prop) (k:Nat) (e:Ending) (w':World):Prop:=
 (e=.returned (.int .i64 0)/\S (k+1) w')\/(∃c:Int,(c==0)=false/\(c !=0)=true/\Hid (c≠0)/\c*1=c/\0<=c/\c<=1000/\e=.returned (.int .i64 c)/\E k c w')
theorem ADJ{zs:List Int}{size:Int}{rv:Value}{S:Nat->World->Prop}{E:Nat->Int->World->Prop}{w:World}(hb: ∀x∈zs,0<=x/\x<=255)(hn:zs.length<=1073741824)(hs:size<=9223372036854775807)(h0:S 0 w)
  (hT: ∀(k:Nat) (p:List Int) (wr w2:World) (A:Option Addr) (c:Nat),(KJ (Sv size zs.length) zs)[k]? =some p->S k wr->AZ [] wr w2->Own w2 5 1 A p.length c (bv p)->(∀j∈bo A,wr.heap.size<=j)->
   Calls Ae 177 #[rv,.slice A p.length c] w2 (Tkn S E k)):
  Calls Ae 46 #[Xo zs size,.iface 109 rv] w (Cpd S E (KJ (Sv size zs.length) zs).length):=by
 unfold Xo;have hcl:(strOfNums zs).size=zs.length:=strOfNums_size zs
 generalize hd:Sv size zs.length=d at*
 generalize hC:KJ d zs=C at*
 generalize hN:zs.length=n at*
 (have hd1:(d:Int)+1<=9223372036854775807:=by subst hd;unfold Sv;split<;>omega);have HT:=AQ hT;have HB:=AQ hb;have HC:=AQ hC;have HN:=AQ hN;have H0:=AQ h0;(have hm: ∀w,(method 392 109 rv "Take").run Ae w=.ok (177,rv) w:=λ_=>by kernel_rfl);clear hT hb hC hN h0 hd;have AO5:=ARA;have ARj:= @ANs;go_enter rH,Ai.ntmps46;(go_wp2_with (go_at_call 79;refine (AIb Ac Ac).mono ?_;rintro e w1 ⟨rfl,rfl⟩));unfold Ai.loop;go_loopw [4,5,8] (λc e lo wr=>∃k l:Nat,c=.int .i64 k/\e=.int .i64 0/\lo=.int .i64 l/\l<=n/\k<=l/\k<=C.length/\KJ d (zs.drop l)=C.drop k/\S k wr) (λ_ _ l _=>n - (intOf l).toNat)
 case atStart=>exact⟨0,0,rfl,rfl,rfl,BP _,AP _,BP _,by rw[Jw,Jw];exact HC.out,H0.out⟩
 obtain⟨k,l,rfl,rfl,rfl,hl,hkl,hkC,hcut,hS⟩:=hrel;by_cases hlt:l<n
 ·have q:=AIc hcut (by rw[HN.out];exact hlt);have HQ:=AQ q;have HS:=AQ hS;clear q hcut hS;by_cases hm1:d+1<=n - l
  ·(have hm2: ¬(n:Int) - (l:Int)<(d:Int)+1:=by omega);have HM:=AQ hm1;obtain⟨ys,hys⟩: ∃ys,ys=(zs.drop l).take (d+1):=⟨_,rfl⟩;(have hyl:ys.length=(d+1):=by rw[hys,CB,E8,HN.out];omega);have HSL:Hid ((strOfNums zs).extract l ((l:Int)+min ((d:Int)+1) ((n:Int) - l)).toNat=strOfNums ys):=AQ (by rw[Ri,hys];congr 2;omega);have HYS:=AQ hys;have HYL:=AQ hyl;have hyb: ∀x∈ys,0<=x/\x<=255:=λx hx=>HB.out x (by rw[hys] at hx;exact List.drop_subset _ _ (List.take_subset _ _ hx));have HYB:=AQ hyb;clear hys hyb hyl
   go_wp2_with (first
    |(at_builtin;refine aA rfl _ _ rfl HYB.out rfl (by first|rfl|exact congrArg Value.string HSL.out) (by have:=HYL.out;omega) ?_;intro A1 c1 w1 hown1 Yq lL)
    |(go_at_call 177;refine (HT.out k ys _ _ _ _ (by rw[HYS.out];exact HQ.out.1) HS.out Yq hown1 lL).mono ?_;rintro e w3 (⟨rfl,hS3⟩|⟨ec,ZB,ARB,TE,ARC,ARD,ARF,rfl,hE3⟩)))
   all_goals (have hkl2:k<C.length:=(BB.1 HQ.out.1).1)
   all_goals first
    |(refine⟨⟨k+1,l+(d+1),by go_num,rfl,by first|go_num|(congr 1;omega),Ac,Ac,hkl2,HQ.out.2,hS3⟩,?_⟩
      all_goals (simp[intOf];omega;done))
    |(go_ret2;exact .inr ⟨k,ec,hkl2,TE.out,rfl,hE3⟩)
  (have hm2:(n:Int) - (l:Int)<(d:Int)+1:=by omega);have HM:=AQ hm1;obtain⟨ys,hys⟩: ∃ys,ys=(zs.drop l).take (d+1):=⟨_,rfl⟩;(have hyl:ys.length=(n - l):=by rw[hys,CB,E8,HN.out];omega);have HSL:Hid ((strOfNums zs).extract l ((l:Int)+min ((d:Int)+1) ((n:Int) - l)).toNat=strOfNums ys):=AQ (by rw[Ri,hys,Bc (by rw[E8,HN.out];omega),Bc (by rw[E8,HN.out];omega)]);have HYS:=AQ hys;have HYL:=AQ hyl;have hyb: ∀x∈ys,0<=x/\x<=255:=λx hx=>HB.out x (by rw[hys] at hx;exact List.drop_subset _ _ (List.take_subset _ _ hx));have HYB:=AQ hyb;clear hys hyb hyl
  go_wp2_with (first
   |(at_builtin;refine aA rfl _ _ rfl HYB.out rfl (by first|rfl|exact congrArg Value.string HSL.out) (by have:=HYL.out;omega) ?_;intro A1 c1 w1 hown1 Yq lL)
   |(go_at_call 177;refine (HT.out k ys _ _ _ _ (by rw[HYS.out];exact HQ.out.1) HS.out Yq hown1 lL).mono ?_;rintro e w3 (⟨rfl,hS3⟩|⟨ec,ZB,ARB,TE,ARC,ARD,ARF,rfl,hE3⟩)))
  all_goals (have hkl2:k<C.length:=(BB.1 HQ.out.1).1)
  all_goals first
   |(refine⟨⟨k+1,n,by go_num,rfl,by first|go_num|(congr 1;omega),AP _,Ac,hkl2,by rw[<- HQ.out.2,Et (by rw[HN.out];omega),Et (by rw[HN.out];omega)],hS3⟩,?_⟩
     all_goals (simp[intOf];omega;done))
   |(go_ret2;exact .inr ⟨k,ec,hkl2,TE.out,rfl,hE3⟩)
 (have hk:(C.drop k)=[]:=by rw[<- hcut,Et (by rw[HN.out];omega),Xm]);go_wp2
 go_ret2
 have hk2:k=C.length:=by
  have:=List.drop_eq_nil_iff.1 hk;omega
 subst hk2;exact .inl ⟨rfl,hS⟩
def nH (w:World) (G:Bg) (R:St×Int) (e:Ending) (w':World):Prop:=e=.returned (.int .i64 R.2)/\DI w G R.1 w'
abbrev Ov (G:Bg):Value:=.pointer (some ⟨G.b,0,none⟩)
section
variable {w:World} {G:Bg} {S:St} {B b3 b4 bf:Nat}
theorem qK(h:ED w G S)(hi:Inv B S)(hB:B<=1073741824)(h3:w.cell? ⟨b3,0,none⟩=some (Ov G)):
  Calls Ae 41 #[.pointer (some ⟨b3,0,none⟩)] w (nH w G (S.Dn CE)):=by
 have k1:=AFU h hi hB CE;have HK:=AQ k1;clear k1 h hi;have q1:= @APz;unfold Ov at h3;go_enter AKb,Tryz.ntmps41;(go_wp2_with (go_at_call 42;refine HK.out.mono ?_;rintro e w1 ⟨rfl,hT⟩));go_ret;exact⟨rfl,hT⟩
theorem nI(h:ED w G S)(hi:Inv B S)(hB:B+1<=1073741824){nm:ByteArray}{dv:Value}(h3:w.cell? ⟨b3,0,none⟩=some (Ov G))(hf:Bo w bf 64 #[.string nm,dv]):
  Calls Ae 43 #[.pointer (some ⟨b3,0,none⟩),.pointer (some ⟨bf,0,none⟩)] w (nH w G (S.create CE nm)):=by
 have k1:=AC4 h hi hB CE nm;have HK:=AQ k1;have h4:w.cell? ⟨bf,0,none⟩=some (.string nm):=hf.cell 0;clear k1 h hi hf;have q1:= @AP1;unfold Ov at h3;go_enter AKd,Tryz.ntmps43;(go_wp2_with (go_at_call 44;refine HK.out.mono ?_;rintro e w1 ⟨rfl,hT⟩));go_ret;exact⟨rfl,hT⟩
theorem xq(h:ED w G S)(hi:Inv B S)(hB:B<=1073741824){nm:ByteArray}{dv:Value}(h3:w.cell? ⟨b3,0,none⟩=some (Ov G))(hf:Bo w bf 64 #[.string nm,dv]):
  Calls Ae 48 #[.pointer (some ⟨b3,0,none⟩),.pointer (some ⟨bf,0,none⟩)] w (nH w G (S.sync CE nm)):=by
 have k1:=AIF h hi CE nm hB;have HK:=AQ k1;have h4:w.cell? ⟨bf,0,none⟩=some (.string nm):=hf.cell 0;clear k1 h hi hf;have q1:= @AP6;unfold Ov at h3;go_enter AKg,Tryz.ntmps48;(go_wp2_with (go_at_call 49;refine HK.out.mono ?_;rintro e w1 ⟨rfl,hT⟩));go_ret;exact⟨rfl,hT⟩
theorem nJ(h:ED w G S)(hi:Inv B S)(hB:B<=1073741824){dst:ByteArray}(h3:w.cell? ⟨b3,0,none⟩=some (Ov G))(h4:w.cell? ⟨b4,0,none⟩=some (.string dst)):
  Calls Ae 51 #[.pointer (some ⟨b3,0,none⟩),.pointer (some ⟨b4,0,none⟩)] w (nH w G (S.rename CE dst)):=by
 have k1:=AC2 h hi hB CE dst;have HK:=AQ k1;clear k1 h hi;have q1:= @AP8;unfold Ov at h3;go_enter AKj,Tryz.ntmps51;(go_wp2_with (go_at_call 52;refine HK.out.mono ?_;rintro e w1 ⟨rfl,hT⟩));go_ret;exact⟨rfl,hT⟩
theorem take_any(h:ED w G S)(hi:Inv B S)(nm:ByteArray)(A:Option Addr)(k c:Nat)(xs:List Int)(hr:Rd w 1 A k c (bv xs))(hB:B+k<=1073741824)(hd: ∀x∈bo A,x∉G.all):
  Calls Ae 177 #[.agg #[Ov G,.string nm],.slice A k c] w (nH w G (S.write CE nm xs)):=by
 obtain⟨W,hW⟩: ∃W,w.alloc (.cells #[.pointer (some ⟨G.b,0,none⟩),.string nm] 109)=W:=⟨_,rfl⟩;(have hc:AZ [] w W:=by rw[<- hW];exact (AZ.refl [] w).alloc _);(have hb:Bo W w.heap.size 109 #[.pointer (some ⟨G.b,0,none⟩),.string nm]:=by rw[<- hW];exact .new _ _ _);have k1:=AFZ (h.CX hc) hi CE nm A k c xs (hr.Am hc AY) hB hd;have HK:=AQ k1;have HC:=AQ hc;have c1:W.cell? ⟨w.heap.size,0,none⟩=some (.pointer (some ⟨G.b,0,none⟩)):=hb.cell 0;have c2:W.cell? ⟨w.heap.size,1,none⟩=some (.string nm):=hb.cell 1;clear k1 h hi hr hc hb;have q1:= @ANt;go_enter AHX,Tryz.ntmps177;(go_wp2_with (first|(go_at_call 178;refine HK.out.mono ?_;rintro e w1 ⟨rfl,hT⟩)|(rw[hW])|(simp only[hW])));go_ret;exact⟨rfl,.before HC.out hT⟩
end
def St.puts (n:ByteArray) (S:St):List (List Int)->St×Int
 | []=>(S,0)|p::r=>if (S.write CE n p).2=0 then St.puts n (S.write CE n p).1 r else S.write CE n p
theorem AId{n:ByteArray}{S:St}{l:List (List Int)}{j:Nat}{x:List Int}(h:l[j]? =some x):St.puts n S (l.drop j)=if (S.write CE n x).2=0 then St.puts n (S.write CE n x).1 (l.drop (j+1)) else S.write CE n x:=by
 obtain⟨hl,rfl⟩:=BB.1 h;rw[Gh hl];rfl
theorem AFs(S:St)(t:Bool)(ns:List ByteArray):0<=S.ask t ns/\S.ask t ns<=1000:=by
 unfold St.ask;split;decide;split;decide;split<;>decide
theorem AFt(S:St)(d n:ByteArray):0<=(S.Qj d n).2/\(S.Qj d n).2<=1000:=by
 unfold St.Qj;split;exact AFs S true [d,n];split<;>exact⟨AY,AY⟩
theorem ABJ(S:St)(d n:ByteArray)(xs:List Int):0<=(S.write d n xs).2/\(S.write d n xs).2<=1000:=by
 have h:=AFt S d n;unfold St.write;split
 ·rename_i e he;rw[he] at h;exact h
 split;exact⟨AY,AY⟩;split<;>exact⟨AY,AY⟩
def QL (C:List (List Int)):Nat:=(C.map λp=>p.length+2).sum
theorem ABK{C:List (List Int)}{k:Nat}{p:List Int}(h:C[k]? =some p):QL (C.take (k+1))=QL (C.take k)+(p.length+2):=by
 unfold QL;rw[FC,h];simp
theorem nK(C:List (List Int))(k:Nat):QL (C.take k)<=QL C:=by
 unfold QL;rw[D8];exact Z9 _ _
theorem gU(d:Nat)(l:List Int):QL (KJ d l)<=3*l.length:=by
 have h1:=ADI d l.length l rfl;have h2:=AFq d l.length l rfl
 generalize KJ d l=C at*
 rw[<- h1];clear h1;unfold QL;rw[List.length_flatten];have: ∀p∈C,0<p.length:=λp hp=>(h2 p hp).1;clear h2
 induction C with
 |nil=>simp|cons p r ih=>
  simp only[AL,List.sum_cons];have h3:=ih (λq hq=>this q (Aj _ hq));have h4:=this p (BZ ..);omega
theorem Inv.puts{n:ByteArray}: ∀(C:List (List Int)) {B:Nat} {S:St},Inv B S->Inv (B+QL C) (St.puts n S C).1
 | [],B,S,h=>h.mono Ac
 |p::r,B,S,h=>by
  have h1:=h.write CE n p;unfold St.puts;split;exact (Inv.puts r h1).mono (by simp only[QL,AL,List.sum_cons];omega);exact h1.mono (by simp only[QL,AL,List.sum_cons];omega)
def nM (xs:List Int):List (List Int):=KJ 511 xs
theorem AJ3(xs:List Int):KJ (Sv 512 xs.length) xs=nM xs:=rfl
section
variable {w:World} {G:Bg} {S:St} {B:Nat}
def CpS (w:World) (G:Bg) (S:St) (B:Nat) (nm:ByteArray) (C:List (List Int)) (k:Nat) (wr:World):Prop:=
 ∃S1,DI w G S1 wr/\Inv (B+QL (C.take k)) S1/\St.puts nm S C=St.puts nm S1 (C.drop k)
def CpE (w:World) (G:Bg) (S:St) (nm:ByteArray) (C:List (List Int)) (_:Nat) (c:Int) (wr:World):Prop:=
 ∃S1,DI w G S1 wr/\St.puts nm S C=(S1,c)
theorem ADK(h:ED w G S)(hi:Inv B S)(nm:ByteArray){zs:List Int}(hb: ∀x∈zs,0<=x/\x<=255)(hB:B+3*zs.length<=1073741824):
  Calls Ae 46 #[Xo zs 512,.iface 109 (.agg #[Ov G,.string nm])] w λe w'=>∃k:Int,e=.returned (.tuple #[.int .i64 k,.int .i64 (S.puts nm (nM zs)).2])/\DI w G (S.puts nm (nM zs)).1 w':=by
 have hp:=gU (Sv 512 zs.length) zs;refine (ADJ (rv:=.agg #[Ov G,.string nm]) (S:=CpS w G S B nm (KJ (Sv 512 zs.length) zs)) (E:=CpE w G S nm (KJ (Sv 512 zs.length) zs)) hb Ac Ac ?_ ?_).mono ?_;exact⟨S,.same h (.refl _ _),hi.mono Ac,rfl⟩
 ·intro k p wr w2 A c hk hS hch ho hnew;obtain⟨S1,⟨G1,h1,h2,h3,h4⟩,hI,hE⟩:=hS;have hb1:=ABK hk;have hb2:=nK (KJ (Sv 512 zs.length) zs) (k+1);have k1:=take_any (h1.CX hch) hI nm A p.length c p ho.rd Ac (λx hx hm=>by have:=h1.lt x hm;have:=hnew x hx;omega);unfold Ov at k1⊢;rw[h2] at k1;rw[AId hk] at hE;have hW:=hI.write CE nm p;have hcd:=ABJ S1 CE nm p;refine k1.mono ?_
  generalize S1.write CE nm p=R at*
  obtain⟨S2,cd⟩:=R;rintro e w3 ⟨rfl,hT⟩;have hT2:DI w G S2 w3:=.trans h3 h2 h4 (.before hch hT);by_cases hc:cd=0
  ·subst hc;rw[if_pos rfl] at hE;exact .inl ⟨rfl,S2,hT2,hW.mono Ac,hE⟩
  rw[if_neg hc] at hE;exact .inr ⟨cd,by simp[hc],by simp[hc],AQ hc,Ac,hcd.1,hcd.2,rfl,S2,hT2,hE⟩
 intro e w' hh;rw[<- AJ3];rcases hh with ⟨rfl,S1,hT,_,hE⟩|⟨k,c,_,_,rfl,S1,hT,hE⟩
 ·rw[Et (AP _)] at hE;rw[hE];exact⟨_,rfl,hT⟩
 rw[hE];exact⟨_,rfl,hT⟩
theorem qL{b3 bf:Nat}(h:ED w G S)(hi:Inv B S){nm:ByteArray}{A:Option Addr}{n c:Nat}{zs:List Int}(hd:Rd w 1 A n c (bv zs))(hb: ∀x∈zs,0<=x/\x<=255)(hB:B+3*zs.length<=1073741824)
  (h3:w.cell? ⟨b3,0,none⟩=some (Ov G)) (hf:Bo w bf 64 #[.string nm,.slice A n c]) (hn3:b3∉G.all) (hnf:bf∉G.all):
  Calls Ae 45 #[.pointer (some ⟨bf,0,none⟩),.pointer (some ⟨b3,0,none⟩)] w (nH w G (S.puts nm (nM zs))):=by
 have hl:=hd.ALz;have HD:=AQ hd;have HB:=AQ hb;have HN:Hid (n<=1073741824):=AQ Ac;have h4:w.cell? ⟨bf,0,none⟩=some (.string nm):=hf.cell 0;have h5:w.cell? ⟨bf,1,none⟩=some (.slice A n c):=hf.cell 1;have H3:Hid (∀w',AZ G.all w w'->w'.cell? ⟨b3,0,none⟩=some (.pointer (some ⟨G.b,0,none⟩))):=AQ λw' hc=>hc.cell h3 hn3;have H4:Hid (∀w',AZ G.all w w'->w'.cell? ⟨bf,0,none⟩=some (.string nm)):=AQ λw' hc=>hc.cell h4 hnf;have H5:Hid (∀w',AZ G.all w w'->w'.cell? ⟨bf,1,none⟩=some (.slice A n c)):=AQ λw' hc=>hc.cell h5 hnf;have HDR:Hid (AZ G.all w w.drew):=AQ (AZ.refl G.all w).drew
 have qE:Hid (Calls Ae 46 #[Xo zs 512,.iface 109 (.agg #[Ov G,.string nm])] w.drew λe w'=>∃k:Int,e=.returned (.tuple #[.int .i64 k,.int .i64 (S.puts nm (nM zs)).2])/\DI w G (S.puts nm (nM zs)).1 w'):=AQ (by
  refine (ADK (h.CX (AZ.refl [] w).drew) hi nm hb hB).mono ?_;rintro e w' ⟨k,h1,h2⟩
  exact⟨k,h1,.before (AZ.refl [] w).drew h2⟩)
 clear h hi hd hb hf h3 h4 h5;have q1:= @AP4;have q2:= @AP3;go_enter AKf,Tryz.ntmps45;(go_wp2_with fail);refine wp_region_held_drew (S:=λw'=>AZ G.all w w') Ap ((AZ.refl G.all w).drew) (λhHeld=>?_);refine tk 0 ?_;refine Gm 1 (λw' hSw=>H5.out _ hSw) ?_;refine Gm 3 (λw' hSw=>H3.out _ hSw) ?_;refine tk 4 ?_;refine Gm 5 (λw' hSw=>H4.out _ hSw) ?_;refine tk 6 ?_;refine wpAnyH_ready (rs:=[2,7]) Ap AY ?_;refine AllReadyH.cons rfl (λK hK=>?a11) (AllReadyH.cons rfl (λK hK=>?b11) (AllReadyH.nil))
 case' a11=>
  go_simp;refine (gQ (size:=512) HN.out (HD.out.Am (AZ.drew (AZ.refl [] w)) AY) HB.out Ac).mono ?_;rintro e w1 ⟨rfl,rfl⟩;refine hK.out _ _ (hHeld) (λhHeld=>?_);(try simp only[Act.put,Be]);clear hK K;refine Ee 7 λK hK=>?_;go_simp
 case' b11=>
  go_simp;refine hK.out _ _ (hHeld) (λhHeld=>?_);(try simp only[Act.put,Be]);clear hK K;refine Ee 2 λK hK=>?_;go_simp;refine (gQ (size:=512) HN.out (HD.out.Am (AZ.drew (AZ.refl [] w)) AY) HB.out Ac).mono ?_;rintro e w1 ⟨rfl,rfl⟩
 all_goals
  refine hK.out _ _ (hHeld) (λhHeld=>?_);(try simp only[Act.put,Be]);clear hK K;refine Ee 8 λK hK=>?_;go_simp;refine qE.out.mono ?_;rintro e w1 ⟨k,rfl,hT⟩;go_simp;refine hK.out _ _ (hT.Am) (λhHeld=>?_);(try simp only[Act.put,Be]);clear hK K;refine tk 9 ?_;refine tk 10 ?_;refine tk 11 ?_;refine tk 12 ?_;refine tk 13 ?_;refine wpAnyH_done Ap ?_ _;(try simp only[Act.put,Be]);go_wp2;go_ret;exact⟨rfl,hT⟩
end
theorem ABL(cd:Int):(Jr cd).length<=1:=by unfold Jr ABH;split<;>simp
theorem JO.nN{w:World}{v:Value}{L:List Nat}{gs:List Kv}(h:JO w v L gs)(hg:gs.length<=1):(v=.nilIface/\L=[]/\gs=[])\/∃b g,L=[b]/\gs=[g]/\QY w b v g:=by
 unfold JO at h;split at h;exact .inl ⟨h,rfl,rfl⟩;exact .inr ⟨_,_,rfl,rfl,h⟩;simp at hg;exact h.elim
theorem AIe{w:World}{v u:Value}{bb:Nat}{f:Kv}{L:List Nat}{gs:List Kv}(hv:QY w bb v f)(hu:JO w u L gs)(hg:gs.length<=1):
  Calls Ae 40 #[v,u] w λe w'=>∃(t:TypeId) (y:Value) (L':List Nat),e=.returned (.iface t y)/\JO w' (.iface t y) L' (f::gs)/\AZ [] w w'/\∀x∈L',x=bb\/x∈L\/w.heap.size<=x:=by
 rcases hu.nN hg with ⟨rfl,rfl,rfl⟩|⟨b,g,rfl,rfl,hb⟩
 ·have h1:=hv.1;subst h1;refine (AFk _ _ w).mono ?_;rintro e w' ⟨rfl,rfl⟩;exact⟨_,_,[bb],rfl,hv,.refl _ _,AY⟩
 have h1:=hv.1;have h2:=hb.1;subst h1;subst h2;refine (AFl _ _ _ _ w).mono ?_;rintro e w' ⟨rfl,rfl⟩;have hc:AZ [] w (w.alloc (.cells #[.iface 140 (.pointer (some ⟨bb,0,none⟩)),.iface 140 (.pointer (some ⟨b,0,none⟩))] 152)):=(AZ.refl [] w).alloc _;refine⟨_,_,[w.heap.size,bb,b],rfl,⟨_,_,rfl,.new _ _ _,hv.Am hc AY,hb.Am hc AY⟩,hc,?_⟩;intro x hx;simp only[AA,AB,or_false] at hx;rcases hx with rfl|rfl|rfl;exact .inr (.inr (AP _));exact .inl rfl;exact .inr (.inl AY)
theorem Su.before{w w1:World}{G:Bg}{S':St}{fs:List Kv}{e:Ending}{w':World}(hc:AZ [] w w1)(h:Su w1 G S' fs e w'):Su w G S' fs e w':=by
 obtain⟨v,G',L,h1,h2,h3,h4,h5,h6,h7⟩:=h;exact⟨v,G',L,h1,h2,h3,h4,λx hx=>(h5 x hx).imp id (Ah hc.size),(hc.nil _).trans h6 (λx hx=>.inl hx),λx hx=>⟨Ah hc.size (h7 x hx).1,(h7 x hx).2⟩⟩
theorem AIf{w:World}{b6 b3:Nat}{u:FrameMode}(h6:w.cell? ⟨b6,0,none⟩=some .nilIface):
  CallsD Ae 39 #[.pointer (some ⟨b6,0,none⟩),.pointer (some ⟨b3,0,none⟩)] u w λe u' w'=>u'=u/\(e=.returned (.tuple #[])/\w'=w):=by
 go_enter_d AHK,Tryz.ntmps39
 go_wp2
 go_end0
 exact⟨rfl,rfl⟩
section
variable {w:World} {G:Bg} {S:St} {B:Nat}
def D39 (w:World) (G:Bg) (b6 bb:Nat) (S':St) (fs:List Kv) (e:Ending) (w':World):Prop:=
 e=.returned (.tuple #[])/\∃v G' L,w'.cell? ⟨b6,0,none⟩=some v/\JO w' v L fs/\ED w' G' S'/\G'.b=G.b/\(∀x∈G'.all,x∈G.all\/w.heap.size<=x)/\AZ (b6::G.all) w w'/\∀x∈L,x∉G'.all/\(x=bb\/w.heap.size<=x)
theorem AFu{w1 w2:World}{G1:Bg}{b6 bb:Nat}{S':St}{fs:List Kv}{L1 L2:List Nat}{t2:TypeId}{y2 v:Value}(hQ:AZ G.all w w1)(hC:AZ [] w1 w2)(hE:JO w2 (.iface t2 y2) L2 fs)(hF:ED w1 G1 S')(hb:G1.b=G.b)
  (hA: ∀x∈G1.all,x∈G.all\/w.heap.size<=x) (hN1: ∀x∈L1,w.heap.size<=x/\x∉G1.all) (hN2: ∀x∈L2,x=bb\/x∈L1\/w1.heap.size<=x) (h6:Bo w2 b6 39 #[v]) (XE:b6∉G.all) (hnb:bb∉G.all) (hlb:bb<w.heap.size) (hne:bb≠b6) (hl:b6<w.heap.size):
  D39 w G b6 bb S' fs (.returned (.tuple #[])) (w2.setCell ⟨b6,0,none⟩ (.iface t2 y2)):=by
 have h1:=h6.Em 0 (.iface t2 y2);have hcs:AZ [b6] w2 (w2.setCell ⟨b6,0,none⟩ (.iface t2 y2)):=(AZ.refl [b6] w2).setCell (.inl AY) _;have hz:=hQ.size
 have AES:b6∉G1.all:=λhm=>by
  rcases hA _ hm with h|h;exact XE h;omega
 have hL2: ∀x∈L2,x≠b6/\x∉G1.all/\(x=bb\/w.heap.size<=x):=λx hx=>by
  rcases hN2 x hx with rfl|h|h
  ·exact⟨hne,λhm=>by
    rcases hA _ hm with h|h;exact hnb h
    omega,.inl rfl⟩
  exact⟨by have:=(hN1 x h).1;omega,(hN1 x h).2,.inr (hN1 x h).1⟩;exact⟨Ac,λhm=>by have:=hF.lt x hm;omega,.inr Ac⟩
 refine⟨rfl,_,G1,L2,h1.cell 0,hE.Am hcs (λx hx=>by simpa using (hL2 x hx).1),(hF.CX hC).keep hcs (λx hx hm=>by simp at hm;subst hm;exact AES hx),hb,hA,?_,λx hx=>(hL2 x hx).2⟩;exact ((hQ.mono (λx hx=>.inl (Aj _ hx))).Aq hC).trans hcs (λx hx=>by simp at hx;subst hx;exact .inl AY)
theorem AIg(h:ED w G S)(hi:Inv B S)(hB:2*B+2<=1073741824){b6 b3 bb:Nat}{u:FrameMode}{v:Value}{f:Kv}(h3:w.cell? ⟨b3,0,none⟩=some (Ov G))(h6:Bo w b6 39 #[v])(hv:QY w bb v f)
  (XE:b6∉G.all) (hnb:bb∉G.all) (hne:bb≠b6):
  CallsD Ae 39 #[.pointer (some ⟨b6,0,none⟩),.pointer (some ⟨b3,0,none⟩)] u w λe u' w'=>u'=u/\D39 w G b6 bb S.clean.1 (f::Jr S.clean.2) e w':=by
 have HV:=AQ hv;have nO:Hid (bb∉G.all):=AQ hnb;have xe:Hid (bb≠b6):=AQ hne;have H3:Hid (w.cell? ⟨b3,0,none⟩=some (.pointer (some ⟨G.b,0,none⟩))):=AQ h3;have H6B:Hid (∀w',AZ G.all w w'->Bo w' b6 39 #[v]):=AQ λw' hc=>h6.Am hc XE;have H6:Hid (∀w',AZ G.all w w'->w'.cell? ⟨b6,0,none⟩=some v):=AQ λw' hc=>(h6.Am hc XE).cell 0;have HQ1:Hid (AZ G.all w w.drew):=AQ (AZ.refl G.all w).drew;have V3:Hid (Calls Ae 21 #[.pointer (some ⟨G.b,0,none⟩)] w.drew (Su w G S.clean.1 (Jr S.clean.2))):=AQ ((Xl (h.CX (AZ.refl [] w).drew) hi hB).mono λe w' hh=>hh.before (AZ.refl [] w).drew);have h6c:=h6.cell 0;have HL:Hid (bb<w.heap.size/\b6<w.heap.size):=AQ ⟨hv.2.1.lt,h6.lt⟩;obtain⟨hv1,_,_⟩:=hv;subst hv1;clear h hi h3 h6;have q1:= @AD6;have q2:= @APx
 go_enter_d AHK,Tryz.ntmps39
 (go_wp2_with fail);refine wp_region_held_drew (S:=λ_=>True) Ap (trivial) (λhHeld=>?_);refine wpAnyH_ready (rs:=[0,1]) Ap AY ?_;refine AllReadyH.cons rfl (λK hK=>?a12) (AllReadyH.cons rfl (λK hK=>?b12) (AllReadyH.nil))
 case' a12=>
  have q:=H6.out _ HQ1.out;go_simp;refine hK.out _ _ (trivial) (λhHeld=>?_);(try simp only[Act.put,Be]);clear hK K;refine Ee 1 λK hK=>?_;have q:=H3.out;go_simp;refine hK.out _ _ (trivial) (λhHeld=>?_);(try simp only[Act.put,Be]);clear hK K;refine Ee 2 λK hK=>?_;go_simp;refine V3.out.mono ?_;rintro e w1 ⟨v1,G1,L1,rfl,hE1,hF1,hG1,hA1,XH,hN1⟩;have ZC:=AQ XH;have nP:=AQ hE1;have Fp:=AQ hF1;have HA1:=AQ hA1;have TF:=AQ hN1;clear hE1 hF1 hA1 XH hN1
 case' b12=>
  have q:=H3.out;go_simp;refine hK.out _ _ (trivial) (λhHeld=>?_);(try simp only[Act.put,Be]);clear hK K;refine wpAnyH_ready (rs:=[0,2]) Ap AY ?_;refine AllReadyH.cons rfl (λK hK=>?KF) (AllReadyH.cons rfl (λK hK=>?b13) (AllReadyH.nil))
  case' KF=>
   have q:=H6.out _ HQ1.out;go_simp;refine hK.out _ _ (trivial) (λhHeld=>?_);(try simp only[Act.put,Be]);clear hK K;refine Ee 2 λK hK=>?_;go_simp;refine V3.out.mono ?_;rintro e w1 ⟨v1,G1,L1,rfl,hE1,hF1,hG1,hA1,XH,hN1⟩;have ZC:=AQ XH;have nP:=AQ hE1;have Fp:=AQ hF1;have HA1:=AQ hA1;have TF:=AQ hN1;clear hE1 hF1 hA1 XH hN1
  case' b13=>
   go_simp;refine V3.out.mono ?_;rintro e w1 ⟨v1,G1,L1,rfl,hE1,hF1,hG1,hA1,XH,hN1⟩;have ZC:=AQ XH;have nP:=AQ hE1;have Fp:=AQ hF1;have HA1:=AQ hA1;have TF:=AQ hN1;clear hE1 hF1 hA1 XH hN1;go_simp;refine hK.out _ _ (trivial) (λhHeld=>?_);(try simp only[Act.put,Be]);clear hK K;refine Ee 0 λK hK=>?_;have q:=H6.out _ ZC.out
 all_goals
  go_simp;refine hK.out _ _ (trivial) (λhHeld=>?_);(try simp only[Act.put,Be]);clear hK K;refine Ee 3 λK hK=>?_;go_simp;refine (AIe (HV.out.Am ZC.out nO.out) nP.out (ABL _)).mono ?_;rintro e w2 ⟨t2,y2,L2,rfl,hE2,hC2,hN2⟩;have hb:=H6B.out _ (ZC.out.Aq hC2);have hz:=hb.frozen 0;have q:=hb.cell 0;simp only[Fv] at q;have HE2:=AQ hE2;have HB:=AQ hb;have HC2:=AQ hC2;have HN2:=AQ hN2;clear hE2 hC2 hN2 hb;go_simp;refine hK.out _ _ (trivial) (λhHeld=>?_);(try simp only[Act.put,Be]);clear hK K;refine Ee 4 λK hK=>?_;go_simp;refine hK.out _ _ (trivial) (λhHeld=>?_);(try simp only[Act.put,Be]);clear hK K;refine wpAnyH_done Ap ?_ _;(try simp only[Act.put,Be]);go_wp2
  go_end0
  exact AFu ZC.out HC2.out HE2.out Fp.out hG1 HA1.out TF.out HN2.out HB.out XE nO.out HL.out.1 xe.out HL.out.2
end
inductive Do where
 |Dn|create (n:ByteArray)|write (n:ByteArray) (xs:List Int)|sync (n:ByteArray)|names|rename (d:ByteArray)
def St.act (S:St):Do->St×Int
 | .Dn=>S.Dn CE| .create n=>S.create CE n| .write n xs=>S.puts n (nM xs)| .sync n=>S.sync CE n| .names=>S.names| .rename d=>S.rename CE d
def Do.bulk:Do->Nat
 | .write _ xs=>3*xs.length+2|_=>2
theorem Inv.act{B:Nat}{S:St}(h:Inv B S)(d:Do):Inv (B+d.bulk) (S.act d).1:=by
 cases d with|Dn=>exact (h.Dn CE).mono (by simp[Do.bulk])|create n=>exact (h.create CE n).mono (by simp[Do.bulk])|write n xs=>exact (h.puts (n:=n) (nM xs)).mono (by have:=gU 511 xs;simp only[Do.bulk,nM];omega)|sync n=>exact (h.sync CE n).mono (by simp[Do.bulk])|names=>exact h.names.mono (by simp[Do.bulk])|rename d=>exact (h.rename CE d).mono (by simp[Do.bulk])
structure JP where
 op:ByteArray
 pl:Int
 d:Do
def dF (i:Nat) (f:ByteArray×List Int):List JP:=[⟨{data:=#[99,114,101,97,116,101]},i,.create f.1⟩,⟨{data:=#[119,114,105,116,101]},i,.write f.1 f.2⟩,⟨{data:=#[115,121,110,99]},i,.sync f.1⟩]
def Kw (i:Nat):List (ByteArray×List Int)->List JP
 | []=>[]|f::r=>dF i f++Kw (i+1) r
theorem aB(f:ByteArray×List Int): ∀(fs:List (ByteArray×List Int)) (i:Nat),Kw i (fs++[f])=Kw i fs++dF (i+fs.length) f
 | [],i=>by simp[Kw]
 |g::r,i=>by
  simp only[List.cons_append,Kw,aB f r (i+1),Dt,List.length_cons];rw[show i+1+r.length=i+(r.length+1) by omega]
theorem XI: ∀(fs:List (ByteArray×List Int)) (i:Nat),(Kw i fs).length=3*fs.length
 | [],i=>rfl|g::r,i=>by simp only[Kw,DU,XI r,dF,List.length_cons,List.length_nil];omega
def dG:List JP:=[⟨{data:=#[109,107,100,105,114]},0,.Dn⟩]
def xu (dst:ByteArray):List JP:=[⟨{data:=#[110,97,109,101,115]},0,.names⟩,⟨{data:=#[114,101,110,97,109,101]},0,.rename dst⟩,⟨{data:=#[115,97,102,101]},0,.names⟩]
def Fz (dst:ByteArray) (fs:List (ByteArray×List Int)):List JP:=dG++Kw 0 fs++xu dst
def St.runT (S:St):List JP->St×List Kv
 | []=>(S,[])|t::r=>if (S.act t.d).2=0 then St.runT (S.act t.d).1 r else ((S.act t.d).1,[⟨t.op,t.pl,(S.act t.d).2⟩])
theorem AIh{S:St}{l:List JP}{j:Nat}{t:JP}(h:l[j]? =some t):St.runT S (l.drop j)=if (S.act t.d).2=0 then St.runT (S.act t.d).1 (l.drop (j+1)) else ((S.act t.d).1,[⟨t.op,t.pl,(S.act t.d).2⟩]):=by
 obtain⟨hl,rfl⟩:=BB.1 h;rw[Gh hl];rfl
def St.Ub (S:St) (dst:ByteArray) (fs:List (ByteArray×List Int)):St×List Kv:=
 if DR dst=false\/dst=CE then (S,[⟨{data:=#[112,97,116,104,115]},0,81⟩])
 else if S.clean.2≠0 then (S.clean.1,Jr S.clean.2)
 else if (S.clean.1.runT (Fz dst fs)).2=[] then S.clean.1.runT (Fz dst fs)
 else ((S.clean.1.runT (Fz dst fs)).1.clean.1,(S.clean.1.runT (Fz dst fs)).2++Jr (S.clean.1.runT (Fz dst fs)).1.clean.2)
def JG (ts:List JP):Nat:=(ts.map λt=>t.d.bulk).sum
theorem tq{ts:List JP}{j:Nat}{t:JP}(h:ts[j]? =some t):JG (ts.take (j+1))=JG (ts.take j)+t.d.bulk:=by
 unfold JG;rw[FC,h];simp
theorem nR(ts:List JP)(j:Nat):JG (ts.take j)<=JG ts:=by
 unfold JG;rw[D8];exact Z9 _ _
theorem Inv.runT: ∀(ts:List JP) {B:Nat} {S:St},Inv B S->Inv (B+JG ts) (St.runT S ts).1
 | [],B,S,h=>h.mono Ac
 |t::r,B,S,h=>by
  have h1:=h.act t.d;unfold St.runT;split;exact (Inv.runT r h1).mono (by simp only[JG,AL,List.sum_cons];omega);exact h1.mono (by simp only[JG,AL,List.sum_cons];omega)
def PN (fs:List (ByteArray×List Int)):Nat:=(fs.map λf=>3*f.2.length+6).sum
theorem Tj(a b:List JP):JG (a++b)=JG a+JG b:=by unfold JG;rw[Bf,Jv]
theorem aC: ∀(fs:List (ByteArray×List Int)) (i:Nat),JG (Kw i fs)=PN fs
 | [],i=>rfl
 |f::r,i=>by
  have h1:PN (f::r)=(3*f.2.length+6)+PN r:=rfl;have h2:JG (dF i f)=2+((3*f.2.length+2)+(2+0)):=rfl;rw[Kw,Tj,aC r (i+1),h1,h2];omega
theorem aF(dst:ByteArray)(fs:List (ByteArray×List Int)):JG (Fz dst fs)=PN fs+8:=by
 have h1:JG dG=2:=rfl;have h2:JG (xu dst)=6:=rfl;unfold Fz;rw[Tj,Tj,aC,h1,h2];omega
theorem AIi(fs:List (ByteArray×List Int)):6*fs.length<=PN fs:=by
 unfold PN
 induction fs with|nil=>simp|cons f r ih=>simp only[AL,List.sum_cons,List.length_cons];omega
inductive dH (w:World) (G:Bg) (b3 b4 m:Nat):Do->Value->Prop
 |Dn:dH w G b3 b4 m .Dn (.func (.func 41) #[] #[.pointer (some ⟨b3,0,none⟩)])|create (b:Nat) (nm:ByteArray) (dv:Value):Bo w b 64 #[.string nm,dv]->b∉G.all->dH w G b3 b4 m (.create nm) (.func (.func 43) #[] #[.pointer (some ⟨b3,0,none⟩),.pointer (some ⟨b,0,none⟩)])
 |write (b:Nat) (nm:ByteArray) (A:Option Addr) (n c:Nat) (xs:List Int):Bo w b 64 #[.string nm,.slice A n c]->b∉G.all->Rd w 1 A n c (bv xs)->(∀x∈bo A,x∉G.all/\x<m)->(∀x∈xs,0<=x/\x<=255)->
   dH w G b3 b4 m (.write nm xs) (.func (.func 45) #[] #[.pointer (some ⟨b,0,none⟩),.pointer (some ⟨b3,0,none⟩)])
 |sync (b:Nat) (nm:ByteArray) (dv:Value):Bo w b 64 #[.string nm,dv]->b∉G.all->dH w G b3 b4 m (.sync nm) (.func (.func 48) #[] #[.pointer (some ⟨b3,0,none⟩),.pointer (some ⟨b,0,none⟩)])|names:dH w G b3 b4 m .names (.func (.func 50) #[.pointer (some ⟨G.b,0,none⟩)] #[])|rename (d:ByteArray):w.cell? ⟨b4,0,none⟩=some (.string d)->b4∉G.all->b4<m->dH w G b3 b4 m (.rename d) (.func (.func 51) #[] #[.pointer (some ⟨b3,0,none⟩),.pointer (some ⟨b4,0,none⟩)])
theorem dH.AET{w w':World}{G:Bg}{b3 b4 m:Nat}{d:Do}{f:Value}{L:List Nat}(h:dH w G b3 b4 m d f)(hc:AZ L w w')(hL: ∀x∈L,m<=x/\∃cs,Bo w x 100 cs):dH w' G b3 b4 m d f:=by
 have hb: ∀(b:Nat) (cs:Array Value),Bo w b 64 cs->b∉L:=λb cs h hm=>by
  obtain⟨_,cs',h'⟩:=hL b hm;exact h.jM h' Az rfl
 cases h with|Dn=>exact .Dn|create b nm dv h1 h2=>exact .create b nm dv (h1.Am hc (hb _ _ h1)) h2|write b nm A n c xs h1 h2 h3 h4 h5=>exact .write b nm A n c xs (h1.Am hc (hb _ _ h1)) h2 (h3.Am hc (λx hx hm=>by have:=(h4 x hx).2;have:=(hL x hm).1;omega)) h4 h5|sync b nm dv h1 h2=>exact .sync b nm dv (h1.Am hc (hb _ _ h1)) h2|names=>exact .names|rename d h1 h2 h3=>exact .rename d (hc.cell h1 (λhm=>by have:=(hL _ hm).1;simp only at this;omega)) h2 h3
theorem dH.call{w wr:World}{G G1:Bg}{b3 b4 m:Nat}{d:Do}{f:Value}{S:St}{B:Nat}(h:dH w G b3 b4 m d f)(h3:w.cell? ⟨b3,0,none⟩=some (Ov G))(hn3:b3∉G.all)(hl3:b3<w.heap.size)
  (hF:ED wr G1 S) (hb:G1.b=G.b) (hA: ∀x∈G1.all,x∈G.all\/w.heap.size<=x) (hc:AZ G.all w wr) (hi:Inv B S) (hB:B+d.bulk<=1073741824):
  ∃(id:FuncId) (bd cp:Array Value),f=.func (.func id) bd cp/\(∀(p:Array Value) (w:World),(callFunc id p).run Ae w=.ok (.enter id p) w)/\Calls Ae id (bd++cp) wr (nH wr G1 (S.act d)):=by
 have h3':wr.cell? ⟨b3,0,none⟩=some (Ov G1):=by rw[show Ov G1=Ov G by unfold Ov;rw[hb]];exact hc.cell h3 hn3
 have hout: ∀x,x∉G.all->x<w.heap.size->x∉G1.all:=λx h1 h2 hm=>by
  rcases hA x hm with h|h;exact h1 h;omega
 cases h with
 |Dn=>exact⟨41,#[],_,rfl,APy,qK hF hi (by simp only[Do.bulk] at hB;omega) h3'⟩|create b nm dv h1 h2=>exact⟨43,#[],_,rfl,AP0,nI hF hi (by simp only[Do.bulk] at hB;omega) h3' (h1.Am hc h2)⟩|write b nm A n c xs h1 h2 h3 h4 h5=>
  exact⟨45,#[],_,rfl,AP2,qL hF hi (h3.Am hc λx hx=>(h4 x hx).1) h5 (by simp only[Do.bulk] at hB;omega) h3' (h1.Am hc h2) (hout _ hn3 hl3) (hout _ h2 h1.lt)⟩
 |sync b nm dv h1 h2=>exact⟨48,#[],_,rfl,AP5,xq hF hi (by simp only[Do.bulk] at hB;omega) h3' (h1.Am hc h2)⟩|names=>
  refine⟨50,_,#[],rfl,ALJ,?_⟩;rw[<- hb];exact sW hF hi (by simp only[Do.bulk] at hB;omega)
 |rename d h1 h2 _=>exact⟨51,#[],_,rfl,AP7,nJ hF hi (by simp only[Do.bulk] at hB;omega) h3' (hc.cell h1 h2)⟩
inductive NJ (w:World) (G:Bg) (b3 b4 m:Nat):List JP->List Value->Prop
 |nil:NJ w G b3 b4 m [] []|cons {t:JP} {f:Value} {ts:List JP} {vs:List Value}:dH w G b3 b4 m t.d f->NJ w G b3 b4 m ts vs->NJ w G b3 b4 m (t::ts) (.string t.op:: .int .i64 t.pl::f::vs)
theorem NJ.AET{w w':World}{G:Bg}{b3 b4 m:Nat}{ts:List JP}{vs:List Value}{L:List Nat}(h:NJ w G b3 b4 m ts vs)(hc:AZ L w w')(hL: ∀x∈L,m<=x/\∃cs,Bo w x 100 cs):NJ w' G b3 b4 m ts vs:=by
 induction h with|nil=>exact .nil|cons h1 _ ih=>exact .cons (h1.AET hc hL) ih
theorem NJ.append{w:World}{G:Bg}{b3 b4 m:Nat}{ts us:List JP}{vs xs:List Value}(h:NJ w G b3 b4 m ts vs)(k:NJ w G b3 b4 m us xs):NJ w G b3 b4 m (ts++us) (vs++xs):=by
 induction h with|nil=>exact k|cons h1 _ ih=>exact .cons h1 ih
theorem NJ.at_{w:World}{G:Bg}{b3 b4 m:Nat}{ts:List JP}{vs:List Value}(h:NJ w G b3 b4 m ts vs): ∀{j:Nat} {t:JP},ts[j]? =some t->∃f,dH w G b3 b4 m t.d f/\vs[j*3]? =some (.string t.op)/\vs[j*3+1]? =some (.int .i64 t.pl)/\vs[j*3+2]? =some f:=by
 induction h with
 |nil=>intro j t hj;cases hj
 |cons h1 _ ih=>
  intro j t hj
  cases j with
  |zero=>simp at hj;subst hj;exact⟨_,h1,rfl,rfl,rfl⟩|succ j=>
   simp at hj;obtain⟨f,g1,g2,g3,g4⟩:=ih hj;refine⟨f,g1,?_,?_,?_⟩;rw[show (j+1)*3=j*3+3 by omega];exact g2;rw[show (j+1)*3+1=j*3+1+3 by omega];exact g3;rw[show (j+1)*3+2=j*3+2+3 by omega];exact g4
def Rj:Code->List Code
 | .loop c=>[c]| .seq a b=>Rj a++Rj b| .block _ c=>Rj c| .scope c=>Rj c| .cond _ a b=>Rj a++Rj b|_=>[]
noncomputable def ABM (k:Nat):Code:=((Tryz.f14.body.map Rj).getD [])[k]?.getD .skip
theorem tu:Ety Ae 101 100 3 32 (.agg #[.string ByteArray.empty,.int .i64 0,.nilFunc]):=.mk' ANz Ap rfl Az
structure aG (wz wr:World) (G:Bg) (b3 b4 m:Nat) (fs:List FM) (A8:Option Addr) (c8:Nat) (vs:List Value) (k:Nat):Prop where
 own:Own wr 100 3 A8 (1+3*k) c8 vs
 stp:NJ wr G b3 b4 m (dG++Kw 0 ((BI fs).take k)) vs
 Am:AZ [] wz wr
 new: ∀x∈bo A8,wz.heap.size<=x
theorem aG.AL1{wz wr:World}{G:Bg}{b3 b4 m:Nat}{fs:List FM}{A8:Option Addr}{c8:Nat}{vs:List Value}{k:Nat}(h:aG wz wr G b3 b4 m fs A8 c8 vs k){w':World}(hc:AZ [] wr w'):Own w' 100 3 A8 (1+3*k) c8 vs:=h.own.Am hc AY
theorem Own.aH(w:World)(e:TypeId)(sz:Nat)(cs:Array Value)(n g:Nat)(xs:List Value)(hg:g=w.heap.size)(hx:cs.toList=xs)(hm:n<=maxLen)(hs:cs.size=n*sz):Own (w.alloc (.cells cs e)) e sz (some ⟨g,0,none⟩) n n xs:=by
 subst hg;subst hx;exact Own.lit w e sz cs n hm hs
theorem Own.AEU{w:World}{A:Option Addr}{n c:Nat}{vs:List Value}(h:Own w 100 3 A n c vs): ∀x∈bo A,∃cs,Bo w x 100 cs:=by
 rcases h.form with ⟨rfl,_⟩|⟨g,cur,rfl,hb,_⟩;simp;intro x hx;simp at hx;subst hx;exact⟨cur,hb⟩
def AL2 (b3 b:Nat) (k:Nat):List Value:=[.string {data:=#[99,114,101,97,116,101]},.int .i64 (k:Int),.func (.func 43) #[] #[.pointer (some ⟨b3,0,none⟩),.pointer (some ⟨b,0,none⟩)],.string {data:=#[119,114,105,116,101]},.int .i64 (k:Int),.func (.func 45) #[] #[.pointer (some ⟨b,0,none⟩),.pointer (some ⟨b3,0,none⟩)],.string {data:=#[115,121,110,99]},.int .i64 (k:Int),.func (.func 48) #[] #[.pointer (some ⟨b3,0,none⟩),.pointer (some ⟨b,0,none⟩)]]
theorem aG.next{wz wr wb:World}{G:Bg}{b3 b4 m:Nat}{A:Option Addr}{n c:Nat}{fs:List FM}{A8 A9:Option Addr}{c8 c9:Nat}{vs:List Value}{k:Nat}(h:aG wz wr G b3 b4 m fs A8 c8 vs k){nm:ByteArray}{dA:Option Addr}{dn dc:Nat}{dx:List Int}(hx:fs[k]? =some (⟨nm,dA,dn,dc⟩,dx))
  (hM: ∀x∈bo A++GZ fs,x<m) (hD: ∀x∈bo A++GZ fs,x∉G.all) (hby: ∀f∈fs,∀x∈f.2,0<=x/\x<=255) (hR:Ff wz A n c fs) (hG: ∀x∈G.all,x<wz.heap.size) (hmz:m<=wz.heap.size) {cs:Obj}
  (ho:Own wb 100 3 A9 (1+3*k+3) c9 (vs++AL2 b3 wr.heap.size k)) (hc:AZ (bo A8) ((wr.alloc (.cells #[.string nm,.slice dA dn dc] 64)).alloc cs) wb) (hn: ∀x∈bo A9,x∈bo A8\/(((wr.alloc (.cells #[.string nm,.slice dA dn dc] 64)).alloc cs).heap.size<=x/\x<wb.heap.size)):
  aG wz wb G b3 b4 m fs A9 c9 (vs++AL2 b3 wr.heap.size k) (k+1):=by
 have ha:AZ [] wr ((wr.alloc (.cells #[.string nm,.slice dA dn dc] 64)).alloc cs):=((AZ.refl [] wr).alloc _).alloc _;have hcc:AZ (bo A8) wr wb:=(ha.nil _).trans hc (λx hx=>.inl hx);have hL: ∀x∈bo A8,m<=x/\∃cs,Bo wr x 100 cs:=λx hx=>⟨Ah hmz (h.new x hx),h.own.AEU x hx⟩;have hz:=h.Am.size;have hmem:=Aa hx
 have hb:Bo wb wr.heap.size 64 #[.string nm,.slice dA dn dc]:=by
  have:=(Bo.new wr 64 #[.string nm,.slice dA dn dc]).alloc cs;exact this.Am hc (λhm=>by have:=h.own.lt _ hm;omega)
 (have hbn:wr.heap.size∉G.all:=λhm=>by have:=hG _ hm;omega);have hdm: ∀x∈bo dA,x∈bo A++GZ fs:=λx hx=>AU.2 (.inr (Bd.2 ⟨_,hmem,hx⟩));have hd:Rd wb 1 dA dn dc (bv dx):=(hR.dat _ hmem).Am (h.Am.trans hcc (λx hx=>.inr (h.new x hx))) AY;refine⟨ho,?_,h.Am.trans hcc (λx hx=>.inr (h.new x hx)),λx hx=>?_⟩
 ·have hfx:(BI fs)[k]? =some (nm,dx):=by unfold BI;rw[AV,hx];rfl
  have hkl:((BI fs).take k).length=k:=by
   have:=(BB.1 hfx).1;rw[CB];omega
  rw[FC,hfx,Option.toList_some,aB,hkl,Dx,<- Dt];refine (h.stp.AET hcc hL).append ?_;exact .cons (.create _ _ _ hb hbn) (.cons (.write _ _ _ _ _ _ hb hbn hd (λx hx=>⟨hD x (hdm x hx),hM x (hdm x hx)⟩) (hby _ hmem)) (.cons (.sync _ _ _ hb hbn) .nil))
 rcases hn x hx with h'|h'
 ·exact h.new x h'
 have:=h'.1;simp at this;omega
theorem AIj{G:Bg}{b3 b4 m:Nat}{A:Option Addr}{n c:Nat}{fs:List FM}{A0:Option Addr}{c0:Nat}{vs0:List Value}{D:List Deferred}{w0:World}(wz:World)(Q0:Exit->Act->World->Prop)
  (HR:Hid (Ff w0 A n c fs)) (HM:Hid (∀x∈bo A++GZ fs,x<m)) (HD:Hid (∀x∈bo A++GZ fs,x∉G.all)) (HBY:Hid (∀f∈fs,∀x∈f.2,0<=x/\x<=255)) (hn:n<=178956970)
  (HS:Hid (aG w0 wz G b3 b4 m fs A0 c0 vs0 0)) (HG:Hid (∀x∈G.all,x<w0.heap.size)) (HMZ:Hid (m<=w0.heap.size))
  (u0 u1 u4 u5 u6 u7 u9 u10 u11 u12 u13 u14 u15 u16 ZE ZF ZG u20 u21 u22 u23 u24 u25 u26 u27 u28 u29 u30 u31 u35 u36 u37 u38 yO u40 yP u42 yQ u44 u45 u46 yR u48 u49 yS u51 ZH u53 ZI u55 aP aQ u58 u59 u60 u61 aS u63 u64 u65 u66 u67 u68 u69 u70 u71 u72 u73 u74 u75 u76 u77 u78 u79 u80 u81:Value)
  (ADL:Hid (∀(A8:Option Addr) (c8:Nat) (vs:List Value) (v9 v10 v35 v36 v37 v38 v39 v40 v41 v42 v43 v44 v45 v46 v47 v48 v49 v50 v51:Value) (wr:World),aG w0 wr G b3 b4 m fs A8 c8 vs n->Q0 (.exit 0) ⟨(List.toArray (u0::u1:: .slice A n c:: .pointer (some ⟨b3,0,none⟩)::u4::u5::u6::u7:: .slice A8 (1+3*n) c8::v9::v10::u11::u12::u13::u14::u15::u16::ZE::ZF::ZG::u20::u21::u22::u23::u24::u25::u26::u27::u28::u29::u30::u31:: .slice A n c:: .int .i64 (n:Int):: .int .i64 (n:Int)::v35::v36::v37::v38::v39::v40::v41::v42::v43::v44::v45::v46::v47::v48::v49::v50::v51::ZH::u53::ZI::u55::aP::aQ::u58::u59::u60::u61::aS::u63::u64::u65::u66::u67::u68::u69::u70::u71::u72::u73::u74::u75::u76::u77::u78::u79::u80::u81::[])),D⟩ wr)):
  Code.wp Ae (.loop (ABM 0)) Q0 ⟨(List.toArray (u0::u1:: .slice A n c:: .pointer (some ⟨b3,0,none⟩)::u4::u5::u6::u7:: .slice A0 1 c0::u9::u10::u11::u12::u13::u14::u15::u16::ZE::ZF::ZG::u20::u21::u22::u23::u24::u25::u26::u27::u28::u29::u30::u31:: .slice A n c:: .int .i64 (n:Int):: .int .i64 0::u35::u36::u37::u38::yO::u40::yP::u42::yQ::u44::u45::u46::yR::u48::u49::yS::u51::ZH::u53::ZI::u55::aP::aQ::u58::u59::u60::u61::aS::u63::u64::u65::u66::u67::u68::u69::u70::u71::u72::u73::u74::u75::u76::u77::u78::u79::u80::u81::[])),D⟩ wz:=by
 have hmf: ∀(fn:Fn) (first cap:Array Value) (w:World),(Instr.makeFunc fn first cap).run Ae w=.ok (.func fn first cap) w:=λ_ _ _ _=>rfl
 conv=>arg 2;arg 1;whnf
 go_loopw [8,34] (λs q wr=>∃(k:Nat) (A8:Option Addr) (c8:Nat) (vs:List Value),k<=n/\q=.int .i64 k/\s=.slice A8 (1+3*k) c8/\aG w0 wr G b3 b4 m fs A8 c8 vs k) (λ_ q _=>n - (intOf q).toNat)
 case atStart=>exact⟨0,A0,c0,vs0,BP _,rfl,rfl,HS.out⟩
 obtain⟨k,A8,c8,vs,hk,rfl,rfl,hS⟩:=hrel;have HS8:=AQ hS;clear hS;by_cases hlt:k<n
 ·(have hlt':(k:Int)<n:=by omega);obtain⟨x,hx⟩: ∃x,fs[k]? =some x:=⟨_,Af (by have:=HR.out.row.OJ;simp[Fe] at this;omega)⟩;obtain⟨⟨nm,dA,dn,dc⟩,dx⟩:=x;obtain⟨ad,rfl,hat⟩:=(HR.out.GK HS8.out.Am).row.ns (j:=k) (x:=⟨nm,dA,dn,dc⟩) (by unfold Fe;rw[AV,hx];rfl);have x0:=hat.c0;have x1:=hat.c1;have HX:=AQ hx;clear hat hx;(go_wp2_with (at_builtin;refine Fq rfl _ _ rfl tu rfl (HS8.out.AL1 ((AZ.refl [] wr).alloc _ |>.alloc _)) rfl (Own.aH _ 100 3 #[.string {data:=#[99,114,101,97,116,101]},.int .i64 (k:Int),.func (.func 43) #[] #[.pointer (some ⟨b3,0,none⟩),.pointer (some ⟨wr.heap.size,0,none⟩)],.string {data:=#[119,114,105,116,101]},.int .i64 (k:Int),.func (.func 45) #[] #[.pointer (some ⟨wr.heap.size,0,none⟩),.pointer (some ⟨b3,0,none⟩)],.string {data:=#[115,121,110,99]},.int .i64 (k:Int),.func (.func 48) #[] #[.pointer (some ⟨b3,0,none⟩),.pointer (some ⟨wr.heap.size,0,none⟩)]] 3 _ _ AY rfl Az rfl).rd (by simp[Value.oneCell']) (by unfold maxLen;omega) Ac ?_;intro A9 c9 wb hown EJ hnew _));go_roundw
  case rel=>exact⟨k+1,A9,c9,_,Ac,by go_num,by first|rfl|(congr 1),HS8.out.next HX.out HM.out HD.out HBY.out HR.out HG.out HMZ.out hown EJ hnew⟩
  simp[intOf];omega
 (obtain rfl:k=n:=by omega);go_wp2;exact ADL.out A8 c8 vs _ _ _ _ _ _ _ _ _ _ _ _ _ _ _ _ _ _ _ _ HS8.out
end Go.Proofs.YtkkgcebhfghdnaaGreatDoor.Vw
