/- Part 27 of what that rests on; no condition. -/
import Derived.Test.YtkkgcebhfghdnaaGreatDoorKy
import Derived.Test.YtkkgcebhfghdnaaGreatDoorKz
import Derived.Deep.Cut
import Derived.Deep.CutRange
import Derived.Deep.DeepCutAuto
set_option maxRecDepth 100000
set_option maxHeartbeats 8000000
namespace Go.Proofs.YtkkgcebhfghdnaaGreatDoor.Vw
open Go.RowKit
theorem uG{f:Bool}{last name:ByteArray}(h:DR name=false):Gn f last name=81:=by unfold Gn;rw[if_pos h]
theorem oD{last name:ByteArray}(h:DR name=true)(h2:UQ name last=true):Gn false last name=6:=by unfold Gn;rw[if_neg (by simp[h]),if_pos ⟨rfl,h2⟩]
theorem ABa{f:Bool}{last name:ByteArray}(h:DR name=true)(h2:f=false->UQ name last=false):Gn f last name=0:=by
 unfold Gn;rw[if_neg (by simp[h]),if_neg];rintro⟨h3,h4⟩;rw[h2 h3] at h4;cases h4
theorem uH{α:Type}{l:List (ByteArray×α)}{i:Nat}{x:ByteArray×α}(h:l[i]? =some x):Eh noS (l.take (i+1))=x.1:=by rw[take_snoc _ _ _ h,XB]
def VB (b:Nat) (sA:Option Addr) (rs:List RF) (fA:Option Addr) (Ls:List (List Nat)):List Nat:=b::(bo sA++(bo fA++(Gy rs++Ls.flatten)))
theorem Cb{x b:Nat}{sA fA:Option Addr}{rs:List RF}{Ls:List (List Nat)}:x∈VB b sA rs fA Ls↔x=b\/x∈bo sA\/x∈bo fA\/x∈Gy rs\/∃P∈Ls,x∈P:=by
 unfold VB;simp only[AA,AU,DX]
theorem Ry.keep{w w':World}{b:Nat}{sA:Option Addr}{sc:Nat}{rs:List RF}{fA:Option Addr}{fc:Nat}{sg:List Nat}{Ls:List (List Nat)}{fs:List Hg}{q a:Int}{M:List Nat}(h:Ry w b sA sc rs fA fc sg Ls fs q a)(hc:AZ M w w')(hn: ∀x∈VB b sA rs fA Ls,x∉M):Ry w' b sA sc rs fA fc sg Ls fs q a:=
 ⟨h.blk.Am hc (hn b (Cb.2 (.inl rfl))),h.row.Am hc (λk hk=>hn k (Cb.2 (.inr (.inl hk)))),λr hr=>(h.Iu r hr).Am hc (λk hk=>hn k (Cb.2 (.inr (.inr (.inr (.inl (Bd.2 ⟨r,hr,hk⟩))))))),
  h.J5.Am hc (λk hk=>hn k (Cb.2 (.inr (.inr (.inl hk))))),h.Qk,λi g L f e1 e2 e3=>(h.Zx i g L f e1 e2 e3).Am hc (λk hk=>hn k (Cb.2 (.inr (.inr (.inr (.inr ⟨L,Aa e2,hk⟩)))))),h.lay.mono hc.size⟩
theorem ADT(D:He)(i:Nat):Hy (D.take i)<=Hy D:=by
 unfold Hy
 conv=>rhs;rw[<- Gs i D,Bf,Jv]
 omega
theorem AIx{D:He}{i:Nat}{d:ByteArray×List (ByteArray×List Int)}(h:D[i]? =some d):Hy (D.take i)+d.2.length<=Hy D:=by
 have:=ADT D (i+1);rw[take_snoc _ _ _ h,AC9] at this;exact this
theorem ADU(w:World)(A:Option Addr)(n c:Nat)(ds:List DM)(BR stop:Int)(h:Gl w A n c ds)(hn:n<=1073741824)(hb:Gp (BG ds)<=1073741824):
  Calls Ae 9 #[.slice A n c,.int .i64 BR,.int .i64 stop] w (ADS w (BG ds) BR stop):=by
 have HD:=AQ h;have HB:=AQ hb;clear h hb;have k10:= @APj;have k31:= @APu;have k32:= @APv;go_enter VF9,Tryz.ntmps9;by_cases hq:BR<0
 ·have HE:Hid (ER (BG ds) BR=2):=AQ (by unfold ER;rw[if_pos hq]);go_wp2
  go_ret2
  exact .inl ⟨by rw[HE.out];decide,by rw[HE.out];rfl,AZ.refl _ _⟩
 have HE:Hid (ER (BG ds) BR=GX true noS (BG ds)):=AQ (by unfold ER;rw[if_neg hq]);obtain⟨b,hbn⟩: ∃b,w.heap.size=b:=⟨_,rfl⟩;obtain⟨W,hW⟩: ∃W,w.alloc (.cells #[.slice none 0 0,.slice none 0 0,.slice none 0 0,.slice none 0 0,.slice none 0 0,.int .i64 BR,.int .i64 stop,.int .i64 0] 83)=W:=⟨_,rfl⟩;have hcW:AZ [] w W:=by rw[<- hW];exact (AZ.refl [] w).alloc _
 have hRo:Ry W b none 0 [] none 0 [] [] [] BR stop:=by
  (have hbk:Bo W b 83 #[.slice none 0 0,.slice none 0 0,.slice none 0 0,.slice none 0 0,.slice none 0 0,.int .i64 BR,.int .i64 stop,.int .i64 0]:=by rw[<- hW,<- hbn];exact Bo.new w _ _);refine⟨hbk,Own.nil _ _ _,AY,Own.nil _ _ _,rfl,AY,⟨by simp[Sep,Gy],?_⟩⟩;intro P hP x hx;have h1:=hbk.lt;simp only[AA,Wl,Gy,List.flatMap_nil,JY,or_false] at hP;(rcases hP with rfl|rfl|rfl|rfl<;>simp at hx);omega
 have HRO:=AQ hRo;have Pz:=AQ hcW;have HBN:=AQ hbn;clear hRo hcW;go_wp2
 go_loopw [9] (λs9 wr=>∃(i:Nat) (sA:Option Addr) (sc:Nat) (rs:List RF) (fA:Option Addr) (fc:Nat) (sg:List Nat) (Ls:List (List Nat)),i<=n/\s9=.int .i64 i/\GX true noS ((BG ds).take i)=0/\
  Ry wr b sA sc rs fA fc sg Ls (J5 ((BG ds).take i)) BR stop/\N7 rs=IW 0 ((BG ds).take i)/\(∀x∈VB b sA rs fA Ls,w.heap.size<=x)/\AZ [] w wr) (λs9 _=>n - (intOf s9).toNat)
 case atStart=>exact⟨0,none,0,[],none,0,[],[],BP _,rfl,rfl,HRO.out,rfl,by have:=HBN.out;simp[VB,Gy];omega,Pz.out⟩
 obtain⟨i,sA,sc,rs,fA,fc,sg,Ls,hin,rfl,hpre,hro,Xy,hnew,hch⟩:=hrel;have YS:=AQ hpre;have AMB:=AQ hro;have HRV:=AQ Xy;have OL:=AQ hnew;have Dc:=AQ hch
 have hrl:rs.length=i:=by
  have h1:=congrArg List.length Xy;have h2:=congrArg List.length (cu 0 ((BG ds).take i));simp only[N7,BH] at h1 h2;have h3:=HD.out.row.OJ;simp only[Ej,BH] at h3;rw[h1,h2,CB];simp only[BG,BH];omega
 have yH:=AQ hrl;clear hpre hro Xy hnew hch HRO Pz hrl;by_cases hlt:i<n
 ·(have hlt':(i:Int)<n:=by omega);obtain⟨d,hd⟩: ∃d,ds[i]? =some d:=⟨_,Af (by have:=HD.out.row.OJ;simp[Ej] at this;omega)⟩;obtain⟨⟨FV,dA,dn,dc⟩,Gq⟩:=d;(have hdv:(BG ds)[i]? =some (FV,BI Gq):=by unfold BG;rw[AV,hd];rfl);obtain⟨ad,rfl,hat⟩:=(HD.out.GK Dc.out).row.ns (j:=i) (x:=⟨FV,dA,dn,dc⟩) (by unfold Ej;rw[AV,hd];rfl);have x0:=hat.c0;have x1:=hat.c1;have XF:=AQ hdv;have HDM:=AQ (Aa hd);clear hd hdv hat;obtain⟨dv,AA5⟩: ∃dv,wr.heap.size=dv:=⟨_,rfl⟩;obtain⟨W1,hW1⟩: ∃W1,wr.alloc (.cells #[.string FV,.slice dA dn dc] 77)=W1:=⟨_,rfl⟩;(have hv1:Bo W1 dv 77 #[.string FV,.slice dA dn dc]:=by rw[<- hW1,<- AA5];exact Bo.new wr _ _);(have hc1:AZ [] wr W1:=by rw[<- hW1];exact (AZ.refl [] wr).alloc _);have v0:=hv1.cell 0;have v1:=hv1.cell 1;simp only[Fv] at v0 v1;have X9:=AQ hv1;have DC:=AQ hc1;have AIT:=AQ AA5
  have PL:Hid (∀E,E≠0->Gn (i==0) (Eh noS ((BG ds).take i)) FV=E->ER (BG ds) BR=E):=AQ (λE h0 h=>by
   rw[HE.out,UX XF.out YS.out];unfold GX
   rw[h,if_pos h0])
  clear hv1 hc1;(go_wp2_with fail);refine (lT FV W1).mono ?_;rintro e w2 ⟨rfl,hcg⟩;have HCG:=AQ hcg;have HC2:Hid (AZ [] wr w2):=AQ (DC.out.Aq hcg);have HV2:=AQ (X9.out.Am hcg AB)
  cases hg:DR FV with
  |false=>
   have HX:=AQ (PL.out 81 Az (uG hg));clear hcg hg v0 v1;go_wp2
   go_ret2
   exact .inl ⟨by rw[HX.out];decide,by rw[HX.out];rfl,Dc.out.Aq HC2.out⟩
  |true=>
   have v0':=HV2.out.cell 0;simp only[Fv] at v0';have HG:=AQ hg;clear hcg hg v0 v1 x0 x1;obtain⟨late,oG⟩: ∃l:Bool,(i≠0/\UQ FV (Eh noS ((BG ds).take i))=true)↔l=true:=⟨decide (i≠0/\UQ FV (Eh noS ((BG ds).take i))=true),AY⟩;have yI:=AQ oG
   have ARS:Hid (late=true->ER (BG ds) BR=6):=AQ (λh=>by
    obtain⟨h1,h2⟩:=yI.out.2 h;refine PL.out 6 Az ?_;rw[show (i==0)=false from beq_eq_false_iff_ne.2 h1]
    exact oD HG.out h2)
   have ART:Hid (late=false->Gn (i==0) (Eh noS ((BG ds).take i)) FV=0):=AQ (λh=>ABa HG.out (λhf=>by
    cases hl:UQ FV (Eh noS ((BG ds).take i)) with
    |false=>rfl|true=>
     have:=yI.out.1 ⟨by simpa using hf,hl⟩
     rw[h] at this;cases this))
   clear oG;have AO1:Hid (∃pv:Bool,late=pv):=AQ ⟨_,rfl⟩;clear AO1
   go_upto_region 10 with fail
   go_cut [46] (λs46 wx=>s46=.bool late/\AZ [] w2 wx)
   case first=>
    rcases EM i with hi0|hi0
    ·subst hi0
     have hl0:late=false:=by
      cases hl:late with|false=>rfl|true=>exact absurd rfl (yI.out.2 hl).1
     subst hl0;refine wp_region_held_drew (S:=λw'=>AZ [] w2 w') Ap ((AZ.refl _ _).drew) (λhHeld=>?_);refine tk 0 ?_;refine tk 1 ?_;refine tk 2 ?_;refine tk 3 ?_;refine tk 4 ?_;refine tk 5 ?_;refine tk 6 ?_;refine tk 7 ?_;refine tk 8 ?_;refine tk 9 ?_;refine tk 10 ?_;refine tk 11 ?_;refine tk 12 ?_;refine wpAnyH_done Ap ?_ _;(try simp only[Act.put,Be]);go_wp2_with fail
     go_meet
     exact⟨rfl,hHeld⟩
    obtain⟨k,rfl⟩: ∃k,i=k+1:=⟨i - 1,Ac⟩;obtain⟨pd,P8⟩: ∃pd,ds[k]? =some pd:=⟨_,Af (by have:=HD.out.row.OJ;simp[Ej] at this;omega)⟩;(have hpv:(BG ds)[k]? =some (pd.1.nm,BI pd.2):=by unfold BG;rw[AV,P8];rfl);have hln:Eh noS ((BG ds).take (k+1))=pd.1.nm:=uH hpv;obtain⟨ad',had,hpt⟩:=(HD.out.GK (Dc.out.Aq HC2.out)).row.ns (j:=k) (x:=pd.1) (by unfold Ej;rw[AV,P8];rfl);injection had with had;subst had;have p0:=hpt.c0
    have hle0:UQ FV pd.1.nm=late:=by
     have h1:=yI.out;rw[hln] at h1
     cases hl:UQ FV pd.1.nm with
     |false=>
      cases hl2:late with|false=>rfl|true=>have:=(h1.2 hl2).2;rw[hl] at this;cases this
     |true=>exact (h1.1 ⟨Ac,hl⟩).symm
    (have hle: ∀w',(binOp .leq 9 (.string FV) (.string pd.1.nm)).run Ae w'=.ok (.bool late) w':=λw'=>by rw[U1,hle0]);(have hwk:IntKind.i64.wrap (k:Int)=(k:Int):=by rw[IntKind.wrap_i64];omega);(have hkn:(k:Int)<n:=by omega);clear P8 hpv hln hpt hle0;refine wp_region_held_drew (S:=λw'=>AZ [] w2 w') Ap ((AZ.refl _ _).drew) (λhHeld=>?_);refine tk 0 ?_;refine tk 1 ?_;refine tk 2 ?_;refine tk 3 ?_;refine Gm 4 (λw' hSw=>hSw.cell v0' AB) ?_;refine tk 5 ?_;refine tk 6 ?_;refine tk 7 ?_;refine tk 8 ?_;refine tk 9 ?_;refine Gm 10 (λw' hSw=>hSw.cell p0 AB) ?_;refine tk 11 ?_;refine tk 12 ?_;refine wpAnyH_done Ap ?_ _;(try simp only[Act.put,Be]);go_wp2_with fail
    go_meet
    exact⟨rfl,hHeld⟩
   obtain⟨rfl,hcc⟩:=hcut;have AEX:=AQ hcc;clear hcc v0'
   cases late with
   |true=>
    have HX:=AQ (ARS.out rfl);go_wp2
    go_ret2
    exact .inl ⟨by rw[HX.out];decide,by rw[HX.out];rfl,(Dc.out.Aq HC2.out).Aq AEX.out⟩
   |false=>
    have AIy:=AQ (ART.out rfl);have AMC:Hid (AZ [] w wc):=AQ ((Dc.out.Aq HC2.out).Aq AEX.out);have AMD:=AQ (AMB.out.CX (HC2.out.Aq AEX.out));have ZA:=AQ (HV2.out.Am AEX.out AB);have AME:=ZA.out.cell 0;simp only[Fv] at AME;have TA:=AQ (HD.out.Iu _ HDM.out);have hml:Gq.length=dn:=by have:=TA.out.row.OJ;simpa[Fe] using this
    have hmb:dn<=1073741824:=by
     have h1:=(Rh (Aa XF.out)).1;have h2:=HB.out;simp only[BI,BH] at h1;omega
    have TB:=AQ hml;obtain⟨ov,hov⟩: ∃ov,wc.heap.size=ov:=⟨_,rfl⟩;obtain⟨W4,TC⟩: ∃W4,W4=wc.alloc (.cells #[.string FV,.slice none 0 0] 86):=⟨_,rfl⟩;(have TJ:Bo W4 ov 86 #[.string FV,.slice none 0 0]:=by rw[TC,<- hov];exact Bo.new wc _ _);(have hc4:AZ [] wc W4:=by rw[TC];exact (AZ.refl [] wc).alloc _);have HO4:=AQ TJ;have MK:=AQ hc4;have HOV:Hid (wc.heap.size=ov/\ov<W4.heap.size):=AQ ⟨hov,TJ.lt⟩;clear TJ hc4 hml;have X5:=AQ TC;clear TC;go_wp2;rw[<- X5.out];have HV4:=AQ (ZA.out.Am MK.out AB);have AIz:=AQ (AMD.out.CX MK.out);have AI0:Hid (AZ [] w W4):=AQ (AMC.out.Aq MK.out);clear hov AME
    have ARU:Hid (∀x∈VB b sA rs fA Ls,x<ov):=AQ (λx hx=>by
     have h1:=HOV.out.1;simp only[VB,AA,AU] at hx;have hl:=AMD.out.lay.lt
     have h2:x<wc.heap.size:=by
      rcases hx with rfl|h|h|h|h;exact hl [x] AY x AY;exact hl (bo sA) AY x h;exact hl (bo fA) AY x h;exact hl (Gy rs) AY x h;obtain⟨P,hP,hx⟩:=DX.1 h;exact hl P (by simp[hP]) x hx
     omega)
    go_loopw [12] (λs12 wr=>∃(j:Nat) (oA:Option Addr) (oc:Nat) (fA:Option Addr) (fc:Nat) (sg:List Nat) (Ls:List (List Nat)),j<=dn/\s12=.int .i64 j/\EU true noS ((BI Gq).take j)=0/\
     Bo wr ov 86 #[.string FV,.slice oA j oc]/\Own wr 88 2 oA j oc (XL (IV (0+Hy ((BG ds).take i)) ((BI Gq).take j)))/\
     Ry wr b sA sc rs fA fc sg Ls (J5 ((BG ds).take i)++((BI Gq).take j).map λx=>(x.2,[])) BR stop/\Bo wr dv 77 #[.string FV,.slice dA dn dc]/\
     (∀k∈bo oA,W4.heap.size<=k/\∀P∈Ls,k∉P)/\(∀x∈VB b sA rs fA Ls,w.heap.size<=x/\x≠ov)/\AZ [] w wr/\W4.heap.size<=wr.heap.size) (λs12 _=>dn - (intOf s12).toNat)
    case atStart=>exact⟨0,none,0,fA,fc,sg,Ls,BP _,rfl,rfl,HO4.out,Own.nil _ _ _,by simpa using AIz.out,HV4.out,AY,λx hx=>⟨OL.out x hx,by have:=ARU.out x hx;omega⟩,AI0.out,AP _⟩
    obtain⟨j,oA,oc,fA,fc,sg,Ls,hjd,rfl,mi,hob,hoo,AMF,hvb,hdis,Jl,gJ,AMG⟩:=hrel;have XG:=AQ mi;have TK:=AQ hob;have yJ:=AQ hoo;have NU:=AQ AMF;have xZ:=AQ hvb;have YL:=AQ hdis;have Ia:=AQ Jl;have Sr:=AQ gJ;have AI1:=AQ AMG;have dv1:=hvb.cell 1;have dv0:=hvb.cell 0;simp only[Fv] at dv0 dv1;clear mi hob hoo AMF hvb hdis Jl gJ AMG;by_cases hjl:j<dn
    ·(have ALk:(j:Int)<dn:=by omega);obtain⟨x,hx⟩: ∃x,Gq[j]? =some x:=⟨_,Af (by have:=TB.out;omega)⟩;obtain⟨⟨VC,fB,fn,fd⟩,bs⟩:=x;(have hxv:(BI Gq)[j]? =some (VC,bs):=by unfold BI;rw[AV,hx];rfl);obtain⟨ad,rfl,hat⟩:=(TA.out.GK Sr.out).row.ns (j:=j) (x:=⟨VC,fB,fn,fd⟩) (by unfold Fe;rw[AV,hx];rfl);have x0:=hat.c0;have x1:=hat.c1;have mr:=AQ hxv;have HXM:=AQ (Aa hx);clear hx hxv hat;obtain⟨fv,AA7⟩: ∃fv,wr.heap.size=fv:=⟨_,rfl⟩;obtain⟨W5,hW5⟩: ∃W5,wr.alloc (.cells #[.string VC,.slice fB fn fd] 64)=W5:=⟨_,rfl⟩;(have hv5:Bo W5 fv 64 #[.string VC,.slice fB fn fd]:=by rw[<- hW5,<- AA7];exact Bo.new wr _ _);(have hc5:AZ [] wr W5:=by rw[<- hW5];exact (AZ.refl [] wr).alloc _);have v50:=hv5.cell 0;simp only[Fv] at v50;have HV5:=AQ hv5;have Ql:=AQ hc5;have AA8:=AQ AA7
     have S9:Hid (∀E,E≠0->Gn (j==0) (Eh noS ((BI Gq).take j)) VC=E->ER (BG ds) BR=E):=AQ (λE h0 h=>by
      have h1:EU true noS (BI Gq)=E:=by
       rw[Y0 mr.out XG.out];unfold EU;rw[h,if_pos h0]
      rw[HE.out,UX XF.out YS.out];unfold GX
      rw[if_neg (by simp[AIy.out]),h1,if_pos h0])
     clear hv5 hc5;(go_wp2_with fail);refine (lT VC W5).mono ?_;rintro e w6 ⟨rfl,hcg⟩;have Ij:Hid (AZ [] wr w6):=AQ (Ql.out.Aq hcg);have yN:=AQ (HV5.out.Am hcg AB)
     cases hg:DR VC with
     |false=>
      have HX:=AQ (S9.out 81 Az (uG hg));clear hcg hg v50 x0 x1 dv0 dv1;go_wp2
      go_ret2
      exact .inl ⟨by rw[HX.out];decide,by rw[HX.out];rfl,Sr.out.Aq Ij.out⟩
     |true=>
      have f0:=yN.out.cell 0;have f1:=yN.out.cell 1;have d1:=(xZ.out.Am Ij.out AB).cell 1;simp only[Fv] at f0 f1 d1;have HG2:=AQ hg;clear hcg hg v50 x0 x1 dv0 dv1;obtain⟨VD,oG⟩: ∃l:Bool,(j≠0/\UQ VC (Eh noS ((BI Gq).take j))=true)↔l=true:=⟨decide (j≠0/\UQ VC (Eh noS ((BI Gq).take j))=true),AY⟩;have aN:=AQ oG
      have AI2:Hid (VD=true->ER (BG ds) BR=6):=AQ (λh=>by
       obtain⟨h1,h2⟩:=aN.out.2 h;refine S9.out 6 Az ?_;rw[show (j==0)=false from beq_eq_false_iff_ne.2 h1]
       exact oD HG2.out h2)
      have AI3:Hid (VD=false->Gn (j==0) (Eh noS ((BI Gq).take j)) VC=0):=AQ (λh=>ABa HG2.out (λhf=>by
       cases hl:UQ VC (Eh noS ((BI Gq).take j)) with
       |false=>rfl|true=>
        have:=aN.out.1 ⟨by simpa using hf,hl⟩
        rw[h] at this;cases this))
      clear oG
      go_upto_region 19 with fail
      go_cut [79] (λs79 wx=>s79=.bool VD/\AZ [] w6 wx)
      case first=>
       rcases EM j with hj0|hj0
       ·subst hj0
        have hl0:VD=false:=by
         cases hl:VD with|false=>rfl|true=>exact absurd rfl (aN.out.2 hl).1
        subst hl0;refine wp_region_held_drew (S:=λw'=>AZ [] w6 w') Ap ((AZ.refl _ _).drew) (λhHeld=>?_);refine tk 0 ?_;refine tk 1 ?_;refine tk 2 ?_;refine tk 3 ?_;refine tk 4 ?_;refine tk 5 ?_;refine tk 6 ?_;refine tk 7 ?_;refine tk 8 ?_;refine tk 9 ?_;refine tk 10 ?_;refine tk 11 ?_;refine tk 12 ?_;refine tk 13 ?_;refine wpAnyH_done Ap ?_ _;(try simp only[Act.put,Be]);go_wp2_with fail
        go_meet
        exact⟨rfl,hHeld⟩
       obtain⟨k,rfl⟩: ∃k,j=k+1:=⟨j - 1,Ac⟩;obtain⟨pd,P8⟩: ∃pd,Gq[k]? =some pd:=⟨_,Af (by have:=TB.out;omega)⟩;(have hpv:(BI Gq)[k]? =some (pd.1.nm,pd.2):=by unfold BI;rw[AV,P8];rfl);have hln:Eh noS ((BI Gq).take (k+1))=pd.1.nm:=uH hpv;obtain⟨ad',had,hpt⟩:=(TA.out.GK (Sr.out.Aq Ij.out)).row.ns (j:=k) (x:=pd.1) (by unfold Fe;rw[AV,P8];rfl);injection had with had;subst had;have p0:=hpt.c0
       have hle0:UQ VC pd.1.nm=VD:=by
        have h1:=aN.out;rw[hln] at h1
        cases hl:UQ VC pd.1.nm with
        |false=>
         cases hl2:VD with|false=>rfl|true=>have:=(h1.2 hl2).2;rw[hl] at this;cases this
        |true=>exact (h1.1 ⟨Ac,hl⟩).symm
       (have hle: ∀w',(binOp .leq 9 (.string VC) (.string pd.1.nm)).run Ae w'=.ok (.bool VD) w':=λw'=>by rw[U1,hle0]);(have hwk:IntKind.i64.wrap (k:Int)=(k:Int):=by rw[IntKind.wrap_i64];omega);(have hkn:(k:Int)<dn:=by omega);clear P8 hpv hln hpt hle0;refine wp_region_held_drew (S:=λw'=>AZ [] w6 w') Ap ((AZ.refl _ _).drew) (λhHeld=>?_);refine tk 0 ?_;refine tk 1 ?_;refine tk 2 ?_;refine tk 3 ?_;refine Gm 4 (λw' hSw=>hSw.cell f0 AB) ?_;refine tk 5 ?_;refine Gm 6 (λw' hSw=>hSw.cell d1 AB) ?_;refine tk 7 ?_;refine tk 8 ?_;refine tk 9 ?_;refine tk 10 ?_;refine Gm 11 (λw' hSw=>hSw.cell p0 AB) ?_;refine tk 12 ?_;refine tk 13 ?_;refine wpAnyH_done Ap ?_ _;(try simp only[Act.put,Be]);go_wp2_with fail
       go_meet
       exact⟨rfl,hHeld⟩
      obtain⟨rfl,hcc⟩:=hcut;have Ot:Hid (AZ [] wr wc):=AQ (Ij.out.Aq hcc);have HV7:=AQ (yN.out.Am hcc AB);clear hcc f0 f1 d1
      cases VD with
      |true=>
       have HX:=AQ (AI2.out rfl);go_wp2
       go_ret2
       exact .inl ⟨by rw[HX.out];decide,by rw[HX.out];rfl,Sr.out.Aq Ot.out⟩
      |false=>
       have AO2:=AQ (AI3.out rfl);clear AI2 AI3 aN S9;obtain⟨fl,hfl⟩: ∃fl,(J5 ((BG ds).take i)++((BI Gq).take j).map λx=>(x.2,([]:List (List Int)))).length=fl:=⟨_,rfl⟩;have AMH:fl=0+Hy ((BG ds).take i)+((BI Gq).take j).length:=by rw[<- hfl,DU,BH,UW];omega
       have ASU:fl<=1073741824:=by
        have h1:=AIx XF.out;have h2:=tH (BG ds);have h3:=HB.out;simp only[BI,BH] at h1;(have h4:((BI Gq).take j).length<=Gq.length:=by simp only[BI,CB,BH];omega);omega
       have gY:=AQ hfl;have AMI:=AQ AMH;have c3:=(NU.out.blk.Am Ot.out AB).cell 3;have AI4:=TK.out.Am Ot.out AB;have o1:=AI4.cell 1;have AI5:Hid (Bo (wc.alloc (.cells #[.string VC,.int .i64 fl] 88)) ov 86 #[.string FV,.slice oA j oc]):=AQ (AI4.alloc _);have o1a:=AI5.out.cell 1;have f0:=HV7.out.cell 0;simp only[EX,List.getElem?_cons_succ,List.getElem?_cons_zero,hfl] at c3 o1 o1a f0;have AMJ:Hid (Own (wc.alloc (.cells #[.string VC,.int .i64 fl] 88)) 88 2 oA j oc (XL (IV (0+Hy ((BG ds).take i)) ((BI Gq).take j)))):=AQ (yJ.out.Am (Ot.out.alloc _) EY)
       have HFO:Hid (fv∉ov::bo oA):=AQ (λhm=>by
        have h1:=AA8.out;rcases AA.1 hm with h|h;have:=TK.out.lt;omega
        have:=yJ.out.lt fv h;omega)
       have qH:Hid (b∉ov::bo oA):=AQ (λhm=>by
        rcases AA.1 hm with h|h;exact (Ia.out b (Cb.2 (.inl rfl))).2 h
        exact yJ.out.FZ NU.out.blk Az b h rfl)
       have ARV:Hid (ov∉bo oA):=AQ (λhm=>yJ.out.FZ TK.out Az ov hm rfl);clear AI4 hfl AMH
       go_upto_region 21 with fail
       go_cut [] (λwx=>∃(A2:Option Addr) (c2:Nat),Bo wx ov 86 #[.string FV,.slice A2 (j+1) c2]/\Own wx 88 2 A2 (j+1) c2 (XL (IV (0+Hy ((BG ds).take i)) ((BI Gq).take (j+1))))/\(∀k∈bo A2,k∈bo oA\/wc.heap.size<=k)/\AZ (ov::bo oA) wc wx)
       case first=>
        refine wp_region_held_drew (S:=λw'=>AZ (ov::bo oA) wc w') Ap ((AZ.refl _ _).drew) (λhHeld=>?_);refine tk 0 ?_;refine tk 2 ?_;refine Gm 3 (λw' hSw=>hSw.cell f0 HFO.out) ?_;refine tk 4 ?_;refine tk 5 ?_;refine tk 6 ?_;refine Gm 7 (λw' hSw=>hSw.cell c3 qH.out) ?_;refine tk 8 ?_;refine tk 9 ?_;refine wpAnyH_ready (rs:=[1,10]) Ap AY ?_;refine AllReadyH.cons rfl (λK hK=>?a1) (AllReadyH.cons rfl (λK hK=>?b1) (AllReadyH.nil))
        case' a1=>
         go_simp;refine hK.out _ _ (hHeld) (λhHeld=>?_);(try simp only[Act.put,Be]);clear hK K;refine Ee 10 λK hK=>?_;go_simp;refine hK.out _ _ (hHeld.alloc _) (λhHeld=>?_)
        case' b1=>
         go_simp;refine hK.out _ _ (hHeld.alloc _) (λhHeld=>?_);(try simp only[Act.put,Be]);clear hK K;refine Ee 1 λK hK=>?_;go_simp;refine hK.out _ _ (hHeld) (λhHeld=>?_)
        all_goals
         (try simp only[Act.put,Be]);clear hK K;refine Ee 11 λK hK=>?_;refine JE rfl _ _ rfl ny rfl AMJ.out rfl (Own.lit wc 88 2 #[.string VC,.int .i64 fl] 1 Az rfl).rd (ABY [(VC,fl)]) (by unfold maxLen;omega) Ac ?_;intro A2 c2 w8 oH VE oI _;have yK:=AQ (AI5.out.drew.Am VE ARV.out);have y8:=yK.out.cell 1;have f8:=yK.out.frozen 1;simp at y8;have yY:=AQ oH;have AEY:=AQ VE;have TL:=AQ oI;have yZ:=hHeld.trans VE (λx hx=>.inl (Aj _ hx));clear oH VE oI;refine hK.out _ _ (yZ) (λhHeld=>?_);(try simp only[Act.put,Be]);clear hK K;refine tk 12 ?_;refine Ee 13 λK hK=>?_;go_simp;refine hK.out _ _ (hHeld.setCell (.inl AY) _) (λhHeld=>?_);(try simp only[Act.put,Be]);clear hK K;refine wpAnyH_done Ap ?_ _;(try simp only[Act.put,Be]);have YA:Hid (AZ [ov] w8 (w8.setCell ⟨ov,1,none⟩ (.slice A2 (j+1) c2))):=AQ ((AZ.refl _ _).setCell (.inl AY) _);have Yr:Hid (Bo (w8.setCell ⟨ov,1,none⟩ (.slice A2 (j+1) c2)) ov 86 #[.string FV,.slice A2 (j+1) c2]):=AQ (by simpa using yK.out.Em 1 (.slice A2 (j+1) c2));clear y8 f8 o1 o1a hHeld yZ c3 f0;go_wp2_with fail
         go_meet
         have hcl:AZ [] wc (wc.alloc (.cells #[.string VC,.int .i64 fl] 88)).drew:=((AZ.refl _ _).alloc _).drew;refine⟨A2,c2,Yr.out,?_,λk hk=>?_,((hcl.nil (ov::bo oA)).trans AEY.out (λx hx=>.inl (Aj _ hx))).trans YA.out (λx hx=>.inl (by simp at hx;simp[hx]))⟩
         ·refine Own.Am ?_ YA.out (λk hk hm=>yY.out.FZ yK.out Az k hk (by simpa using hm));have:=yY.out;rw[take_snoc _ _ _ mr.out,mV,ABX,<- AMI.out];exact this
         rcases TL.out k hk with h|h;exact .inl h;have:=hcl.size;exact .inr Ac
       obtain⟨A2,c2,hb8,ho8,hn8,hc8⟩:=hcut;have AMK:=AQ hb8;have AEZ:=AQ ho8;have TL:=AQ hn8;have qR:=AQ hc8;clear hb8 ho8 hn8 hc8 c3 o1 o1a f0 AI5 AMJ
       have AI6:Hid (AZ [] w wc):=AQ ((Sr.out.Aq Ot.out).trans qR.out (λx hx=>.inr (by
        rcases AA.1 hx with rfl|hx;have h1:=HOV.out.1;have h2:=AMC.out.size;omega
        have h1:=(YL.out x hx).1;have h2:=AI0.out.size;omega)))
       have ARW:Hid (∀x∈VB b sA rs fA Ls,x∉ov::bo oA):=AQ (λx hx hm=>by
        rcases AA.1 hm with rfl|hm;exact (Ia.out x hx).2 rfl;rcases Cb.1 hx with rfl|h|h|h|⟨P,hP,h⟩;exact qH.out (Aj _ hm);exact NU.out.row.own_ne yJ.out Az x h hm;exact NU.out.J5.own_ne yJ.out Az x h hm
        ·have h1:=AIz.out.lay.lt (Gy rs) AY x h;have h2:=(YL.out x hm).1;omega
        exact (YL.out x hm).2 P hP h)
       have gZ:=AQ ((NU.out.CX Ot.out).keep qR.out ARW.out);have HV8:=AQ (HV7.out.Am qR.out HFO.out)
       have XD:Hid (fn<=1073741824):=AQ (by
        have h1:bs.length<=Gp (BG ds):=(Rh (Aa XF.out)).2 _ (Aa mr.out);have h2:=(TA.out.dat _ HXM.out).1;have h3:=HB.out;simp at h2
        omega)
       have AML:Hid (Rd wc 1 fB fn fd (bv bs)):=AQ ((TA.out.dat _ HXM.out).Am AI6.out EY);have c3:=gZ.out.blk.cell 3;have f1:=HV8.out.cell 1;simp only[EX,List.getElem?_cons_succ,List.getElem?_cons_zero,gY.out] at c3 f1
       have xU:Hid (fv∉b::bo fA):=AQ (λhm=>by
        rcases AA.1 hm with h|h;have h1:=NU.out.blk.lt;have h2:=AA8.out;omega
        have h1:=NU.out.J5.lt fv h;have h2:=AA8.out;omega)
       have HBF:Hid (b∉bo fA):=AQ (λhm=>NU.out.J5.FZ NU.out.blk Az b hm rfl);(go_wp2_with fail);refine wp_region_held_drew (S:=λw'=>AZ (b::bo fA) wc w') Ap ((AZ.refl _ _).drew) (λhHeld=>?_);refine tk 0 ?_;refine tk 1 ?_;refine tk 2 ?_;refine tk 3 ?_;refine tk 5 ?_;refine Gm 6 (λw' hSw=>hSw.cell f1 xU.out) ?_;refine wpAnyH_ready (rs:=[4,7]) Ap AY ?_;refine AllReadyH.cons rfl (λK hK=>?a2) (AllReadyH.cons rfl (λK hK=>?b2) (AllReadyH.nil))
       case' a2=>
        go_simp;refine hK.out _ _ (hHeld) (λhHeld=>?_);(try simp only[Act.put,Be]);clear hK K;refine Ee 7 λK hK=>?_;go_simp;refine (uD fB fn fd bs _ XD.out (AML.out.Am ((AZ.refl [] wc).drew) EY)).mono ?_;rintro ee w9 ⟨g,L,rfl,hsp,U9,PO⟩;have Z5:Hid (AZ [] wc w9):=AQ (((AZ.refl [] wc).drew).Aq U9);have HSP:=AQ hsp;have HN9:Hid (∀k∈L,wc.heap.size<=k):=AQ PO;have hHc:=hHeld.Aq U9;have y9:w9.cell? ⟨b,3,none⟩=some (.slice fA fl fc):=Z5.out.cell c3 AB;have AEa:Hid (Bo (w9.alloc (.cells #[.pointer (some ⟨g,0,none⟩)] 89)) b 83 #[.slice sA rs.length sc,.slice none 0 0,.slice none 0 0,.slice fA fl fc,.slice none 0 0,.int .i64 BR,.int .i64 stop,.int .i64 0]):=AQ (by have:=gZ.out.blk.Am (Z5.out.alloc (.cells #[.pointer (some ⟨g,0,none⟩)] 89)) AB;rw[gY.out] at this;exact this);have y9a:=AEa.out.cell 3;simp only[Fv] at y9a;have AMM:Hid (Own (w9.alloc (.cells #[.pointer (some ⟨g,0,none⟩)] 89)) 89 1 fA fl fc (sg.map yU)):=AQ (by have:=gZ.out.J5.Am (Z5.out.alloc (.cells #[.pointer (some ⟨g,0,none⟩)] 89)) EY;rw[gY.out] at this;exact this);clear hsp U9 PO;refine hK.out _ _ (hHc) (λhHeld=>?_);(try simp only[Act.put,Be]);clear hK K;refine Ee 8 λK hK=>?_;go_simp;refine hK.out _ _ (hHeld.alloc _) (λhHeld=>?_)
       case' b2=>
        go_simp;refine (uD fB fn fd bs _ XD.out (AML.out.Am ((AZ.refl [] wc).drew) EY)).mono ?_;rintro ee w9 ⟨g,L,rfl,hsp,U9,PO⟩;have Z5:Hid (AZ [] wc w9):=AQ (((AZ.refl [] wc).drew).Aq U9);have HSP:=AQ hsp;have HN9:Hid (∀k∈L,wc.heap.size<=k):=AQ PO;have hHc:=hHeld.Aq U9;have y9:w9.cell? ⟨b,3,none⟩=some (.slice fA fl fc):=Z5.out.cell c3 AB;have AEa:Hid (Bo (w9.alloc (.cells #[.pointer (some ⟨g,0,none⟩)] 89)) b 83 #[.slice sA rs.length sc,.slice none 0 0,.slice none 0 0,.slice fA fl fc,.slice none 0 0,.int .i64 BR,.int .i64 stop,.int .i64 0]):=AQ (by have:=gZ.out.blk.Am (Z5.out.alloc (.cells #[.pointer (some ⟨g,0,none⟩)] 89)) AB;rw[gY.out] at this;exact this);have y9a:=AEa.out.cell 3;simp only[Fv] at y9a;have AMM:Hid (Own (w9.alloc (.cells #[.pointer (some ⟨g,0,none⟩)] 89)) 89 1 fA fl fc (sg.map yU)):=AQ (by have:=gZ.out.J5.Am (Z5.out.alloc (.cells #[.pointer (some ⟨g,0,none⟩)] 89)) EY;rw[gY.out] at this;exact this);clear hsp U9 PO;refine hK.out _ _ (hHc) (λhHeld=>?_);(try simp only[Act.put,Be]);clear hK K;refine wpAnyH_ready (rs:=[4,8]) Ap AY ?_;refine AllReadyH.cons rfl (λK hK=>?a3) (AllReadyH.cons rfl (λK hK=>?b3) (AllReadyH.nil))
        case' a3=>
         go_simp;refine hK.out _ _ (hHeld) (λhHeld=>?_);(try simp only[Act.put,Be]);clear hK K;refine Ee 8 λK hK=>?_;go_simp;refine hK.out _ _ (hHeld.alloc _) (λhHeld=>?_)
        case' b3=>
         go_simp;refine hK.out _ _ (hHeld.alloc _) (λhHeld=>?_);(try simp only[Act.put,Be]);clear hK K;refine Ee 4 λK hK=>?_;go_simp;refine hK.out _ _ (hHeld) (λhHeld=>?_)
       all_goals
        (try simp only[Act.put,Be]);clear hK K;refine Ee 9 λK hK=>?_;refine JE rfl _ _ rfl ABZ rfl AMM.out rfl (Own.lit w9 89 1 #[.pointer (some ⟨g,0,none⟩)] 1 Az rfl).rd (by intro u hu;simp at hu;subst hu;rfl) (by unfold maxLen;omega) Ac ?_;intro A3 c3' w10 AEb jA AEc _;have oJ:=AQ (AEa.out.Am jA HBF.out);have y10:=oJ.out.cell 3;have f10:=oJ.out.frozen 3;simp at y10;have AMN:=AQ AEb;have AI7:=AQ jA;have AMO:=AQ AEc;have AMP:=hHeld.trans jA (λx hx=>.inl (Aj _ hx));clear AEb jA AEc;refine hK.out _ _ (AMP) (λhHeld=>?_);(try simp only[Act.put,Be]);clear hK K;refine tk 10 ?_;refine tk 11 ?_;refine Ee 12 λK hK=>?_;go_simp;refine hK.out _ _ (hHeld.setCell (.inl AY) _) (λhHeld=>?_);(try simp only[Act.put,Be]);clear hK K;refine wpAnyH_done Ap ?_ _;(try simp only[Act.put,Be]);have YA:Hid (AZ [b] w10 (w10.setCell ⟨b,3,none⟩ (.slice A3 (fl+1) c3'))):=AQ ((AZ.refl _ _).setCell (.inl AY) _);have Yr:=AQ (oJ.out.Em 3 (.slice A3 (fl+1) c3'));clear y10 f10 y9 y9a c3 f1 hHeld hHc AMP;have hcl:AZ [] wc (w9.alloc (.cells #[.pointer (some ⟨g,0,none⟩)] 89)):=Z5.out.alloc _
        have hro:Ry (w10.setCell ⟨b,3,none⟩ (.slice A3 (fl+1) c3')) b sA sc rs A3 c3' (sg++[g]) (Ls++[L]) ((J5 ((BG ds).take i)++((BI Gq).take j).map λx=>(x.2,[]))++[(bs,[])]) BR stop:=by
         refine gZ.out.file (w1:=(w9.alloc (.cells #[.pointer (some ⟨g,0,none⟩)] 89))) hcl HN9.out (HSP.out.Am ((AZ.refl [] w9).alloc _) EY) ((AI7.out.mono (L:=b::bo fA) (λx hx=>.inl (Aj _ hx))).trans YA.out (λx hx=>.inl (by simp at hx;simp[hx]))) ?_ ?_ (λx hx=>by
          rcases AMO.out x hx with h|h;exact .inl h
          exact .inr h.1)
         ·have:=Yr.out;rw[gY.out];simpa using this
         have:=AMN.out.Am YA.out (λk hk hm=>AMN.out.FZ oJ.out Az k hk (by simpa using hm));rw[gY.out,Bf];exact this
        have hA3: ∀k∈bo A3,k∈bo fA\/wc.heap.size<=k:=λk hk=>by
         rcases AMO.out k hk with h|h;exact .inl h;have:=hcl.size;exact .inr (Ah this h.1)
        have U9:AZ (b::bo fA) wc (w10.setCell ⟨b,3,none⟩ (.slice A3 (fl+1) c3')):=((hcl.nil (b::bo fA)).trans AI7.out (λx hx=>.inl (Aj _ hx))).trans YA.out (λx hx=>.inl (by simp at hx;simp[hx]));have ARX:=AQ hro;have HA3:=AQ hA3;have ABb:=AQ U9;clear hcl hro hA3 U9 gY AMI;go_wp2;go_roundw
        case rel=>
         have ARY:Hid (Bo (w10.setCell ⟨b,3,none⟩ (.slice A3 (fl+1) c3')) dv 77 #[.string FV,.slice (some ad) dn dc]):=AQ (by
          have h1:=(xZ.out.Am Ot.out AB).Am qR.out (λhm=>by
           rcases AA.1 hm with h|h;exact xZ.out.jM TK.out Az h
           exact yJ.out.FZ xZ.out Az dv h rfl)
          exact h1.Am ABb.out (λhm=>by
           rcases AA.1 hm with h|h;exact xZ.out.jM NU.out.blk Az h
           exact NU.out.J5.FZ xZ.out Az dv h rfl))
         have ARZ:Hid (Bo (w10.setCell ⟨b,3,none⟩ (.slice A3 (fl+1) c3')) ov 86 #[.string FV,.slice A2 (j+1) c2]):=AQ (AMK.out.Am ABb.out (λhm=>by
          rcases AA.1 hm with h|h;exact qH.out (by simp[h])
          exact NU.out.J5.FZ TK.out Az ov h rfl))
         have HOWN:Hid (Own (w10.setCell ⟨b,3,none⟩ (.slice A3 (fl+1) c3')) 88 2 A2 (j+1) c2 (XL (IV (0+Hy ((BG ds).take i)) ((BI Gq).take (j+1))))):=AQ (AEZ.out.Am ABb.out (λk hk hm=>by
          rcases AA.1 hm with h|h;exact AEZ.out.FZ gZ.out.blk Az k hk h
          exact AEZ.out.own_ne gZ.out.J5 Az k hk h))
         refine⟨j+1,A2,c2,A3,c3',sg++[g],Ls++[L],Ac,by go_num,U8 mr.out XG.out AO2.out,ARZ.out,HOWN.out,?_,ARY.out,λk hk=>⟨?_,λP hP hm=>?_⟩,λx hx=>?_,?_,?_⟩
         ·have:=ARX.out;rw[Dt] at this;rw[take_snoc _ _ _ mr.out,Bf];exact this
         ·rcases TL.out k hk with h|h;exact (YL.out k h).1;have h1:=Sr.out.size;have h2:=Ot.out.size;have h3:=AI1.out;omega
         ·rcases AU.1 hP with hP|hP
          ·rcases TL.out k hk with h|h;exact (YL.out k h).2 P hP hm;have h1:=NU.out.lay.lt P (by simp[hP]) k hm;have h2:=Ot.out.size;omega
          simp only[Ad] at hP;subst hP;have h1:=HN9.out k hm;have h2:=AEZ.out.lt k hk;omega
         ·have hbig: ∀y,wc.heap.size<=y->w.heap.size<=y/\y≠ov:=λy hy=>by
           have h1:=AI6.out.size;have h2:=AMK.out.lt;omega
          rcases Cb.1 hx with h|h|h|h|⟨P,hP,h⟩;exact Ia.out x (Cb.2 (.inl h));exact Ia.out x (Cb.2 (.inr (.inl h)))
          ·rcases HA3.out x h with h|h;exact Ia.out x (Cb.2 (.inr (.inr (.inl h))));exact hbig x h
          exact Ia.out x (Cb.2 (.inr (.inr (.inr (.inl h)))));rcases AU.1 hP with hP|hP;exact Ia.out x (Cb.2 (.inr (.inr (.inr (.inr ⟨P,hP,h⟩)))));simp only[Ad] at hP;subst hP;exact hbig x (HN9.out x h)
         ·exact AI6.out.trans ABb.out (λx hx=>.inr (by
           rcases AA.1 hx with rfl|hx;exact (Ia.out x (Cb.2 (.inl rfl))).1
           exact (Ia.out x (Cb.2 (.inr (.inr (.inl hx))))).1))
         have h1:=AI1.out;have h2:=Ot.out.size;have h3:=qR.out.size;have h4:=ABb.out.size;omega
        simp[intOf];omega
    (obtain rfl:j=dn:=by omega);have AO3:Hid (EU true noS (BI Gq)=0):=AQ (by have:=XG.out;rwa[Bc (by simp only[BI,BH,TB.out];exact AP _)] at this);have Lc:Hid ((BI Gq).take j=BI Gq):=AQ (Bc (by simp only[BI,BH,TB.out];exact AP _));have c0:=NU.out.blk.cell 0;have o0:=TK.out.cell 0;have o1:=TK.out.cell 1;simp only[EX,List.getElem?_cons_succ,List.getElem?_cons_zero,yH.out] at c0 o0 o1
    have AMQ:Hid (ov∉b::bo sA):=AQ (λhm=>by
     rcases AA.1 hm with h|h;exact (Ia.out b (Cb.2 (.inl rfl))).2 h.symm
     exact (Ia.out ov (Cb.2 (.inr (.inl h)))).2 rfl)
    have ARa:Hid (b∉bo sA):=AQ (λhm=>NU.out.row.FZ NU.out.blk Az b hm rfl)
    have AMR:Hid (Bo (wr.alloc (.cells #[.string FV,.slice oA j oc] 86)) b 83 #[.slice sA i sc,.slice none 0 0,.slice none 0 0,.slice fA (J5 ((BG ds).take i)++((BI Gq).take j).map λx=>(x.2,([]:List (List Int)))).length fc,.slice none 0 0,.int .i64 BR,.int .i64 stop,.int .i64 0]):=AQ (by
     have:=NU.out.blk.alloc (.cells #[.string FV,.slice oA j oc] 86);rw[yH.out] at this
     exact this)
    have c0a:=AMR.out.cell 0;simp only[Fv] at c0a
    have ARb:Hid (Own (wr.alloc (.cells #[.string FV,.slice oA j oc] 86)) 86 2 sA i sc (Iw (Vm rs))):=AQ (by
     have:=NU.out.row.Am ((AZ.refl [] wr).alloc (.cells #[.string FV,.slice oA j oc] 86)) EY;rw[yH.out] at this
     exact this)
    (go_wp2_with fail);clear dv0 dv1;refine wp_region_held_drew (S:=λw'=>AZ (b::bo sA) wr w') Ap ((AZ.refl _ _).drew) (λhHeld=>?_);refine tk 0 ?_;refine tk 1 ?_;refine tk 2 ?_;refine tk 3 ?_;refine AQh 5 (λw' hSw=>⟨hSw.cell o0 AMQ.out,hSw.cell o1 AMQ.out⟩) ?_;refine wpAnyH_ready (rs:=[4,6]) Ap AY ?_;refine AllReadyH.cons rfl (λK hK=>?a4) (AllReadyH.cons rfl (λK hK=>?b4) (AllReadyH.nil))
    case' a4=>
     go_simp;refine hK.out _ _ (hHeld) (λhHeld=>?_);(try simp only[Act.put,Be]);clear hK K;refine Ee 6 λK hK=>?_;go_simp;refine hK.out _ _ (hHeld.alloc _) (λhHeld=>?_)
    case' b4=>
     go_simp;refine hK.out _ _ (hHeld.alloc _) (λhHeld=>?_);(try simp only[Act.put,Be]);clear hK K;refine Ee 4 λK hK=>?_;go_simp;refine hK.out _ _ (hHeld) (λhHeld=>?_)
    all_goals
     (try simp only[Act.put,Be]);clear hK K;refine Ee 7 λK hK=>?_;refine JE rfl _ _ rfl uF rfl ARb.out rfl (Own.lit wr 86 2 #[.string FV,.slice oA j oc] 1 Az rfl).rd (UO [⟨FV,oA,j,oc⟩]) (by unfold maxLen;omega) Ac ?_;intro A2 c2 w8 oH VE oI _;have yK:=AQ (AMR.out.drew.Am VE ARa.out);have y8:=yK.out.cell 0;have f8:=yK.out.frozen 0;simp at y8;have yY:=AQ oH;have AEY:=AQ VE;have TL:=AQ oI;have yZ:=hHeld.trans VE (λx hx=>.inl (Aj _ hx));clear oH VE oI;refine hK.out _ _ (yZ) (λhHeld=>?_);(try simp only[Act.put,Be]);clear hK K;refine tk 8 ?_;refine tk 9 ?_;refine Ee 10 λK hK=>?_;go_simp;refine hK.out _ _ (hHeld.setCell (.inl AY) _) (λhHeld=>?_);(try simp only[Act.put,Be]);clear hK K;refine wpAnyH_done Ap ?_ _;(try simp only[Act.put,Be]);have YA:Hid (AZ [b] w8 (w8.setCell ⟨b,0,none⟩ (.slice A2 (i+1) c2))):=AQ ((AZ.refl _ _).setCell (.inl AY) _);have Yr:=AQ (yK.out.Em 0 (.slice A2 (i+1) c2));clear y8 f8 o0 o1 c0 c0a hHeld yZ;go_wp2;go_roundw
     case rel=>
      have hcl:AZ [] wr (wr.alloc (.cells #[.string FV,.slice oA j oc] 86)).drew:=((AZ.refl _ _).alloc _).drew;have AO4:Lay W4 ([b]::bo sA::Gy rs::[]):=AIz.out.lay.sub (List.Sublist.cons_cons _ (List.Sublist.cons_cons _ (List.Sublist.cons _ (List.Sublist.cons_cons _ (List.nil_sublist _)))));have hsz:W4.heap.size<=wr.heap.size:=AI1.out
      have hA2: ∀x∈bo A2,x∈bo sA\/wr.heap.size<=x:=λx hx=>by
       rcases TL.out x hx with h|h;exact .inl h;exact .inr (Ah hcl.size h.1)
      have hro:Ry (w8.setCell ⟨b,0,none⟩ (.slice A2 (i+1) c2)) b A2 c2 (rs++[(⟨FV,oA,j,oc⟩,IV (0+Hy ((BG ds).take i)) ((BI Gq).take j))]) fA fc sg Ls (J5 ((BG ds).take i)++((BI Gq).take j).map λx=>(x.2,[])) BR stop:=by
       refine (NU.out.CX hcl).dir (r:=(⟨FV,oA,j,oc⟩,IV (0+Hy ((BG ds).take i)) ((BI Gq).take j))) (w0:=W4) AO4 (λk hk=>(YL.out k hk).1) (yJ.out.Am hcl EY) (λk hk P hP hm=>?_) ((AEY.out.mono (L:=b::bo sA) (λx hx=>.inl (Aj _ hx))).trans YA.out (λx hx=>.inl (by simp at hx;simp[hx]))) ?_ ?_ (λx hx=>by
        rcases TL.out x hx with h|h;exact .inl h
        exact .inr h.1)
       ·rcases AA.1 hP with rfl|hP;exact yJ.out.own_ne NU.out.J5 Az k hk hm;exact (YL.out k hk).2 P hP hm
       ·rw[yH.out];simpa using Yr.out
       have:=yY.out.Am YA.out (λk hk hm=>yY.out.FZ yK.out Az k hk (by simpa using hm));rw[oC,NS,yH.out];exact this
      rw[Lc.out] at hro;obtain⟨rs2,sG⟩: ∃x,x=rs++[((⟨FV,oA,j,oc⟩:Jm),IV (0+Hy ((BG ds).take i)) (BI Gq))]:=⟨_,rfl⟩;rw[<- sG] at hro;refine⟨i+1,A2,c2,rs2,fA,fc,sg,Ls,Ac,by go_num,gI XF.out YS.out AIy.out AO3.out,?_,?_,λx hx=>?_,?_⟩
      ·rw[take_snoc _ _ _ XF.out,su];exact hro
      rw[sG,nz,HRV.out,take_snoc _ _ _ XF.out,mW]
      ·rcases Cb.1 hx with h|h|h|h|⟨P,hP,h⟩;exact (Ia.out x (Cb.2 (.inl h))).1
       ·rcases hA2 x h with h|h;exact (Ia.out x (Cb.2 (.inr (.inl h)))).1;have:=Sr.out.size;omega
       exact (Ia.out x (Cb.2 (.inr (.inr (.inl h))))).1
       ·rw[sG,NK] at h;rcases AU.1 h with h|h;exact (Ia.out x (Cb.2 (.inr (.inr (.inr (.inl h)))))).1;have h1:=(YL.out x h).1;have h2:=AI0.out.size;omega
       exact (Ia.out x (Cb.2 (.inr (.inr (.inr (.inr ⟨P,hP,h⟩)))))).1
      exact ((Sr.out.Aq hcl).trans AEY.out (λx hx=>.inr (Ia.out x (Cb.2 (.inr (.inl hx)))).1)).trans YA.out (λx hx=>.inr (by
       simp only[Ad] at hx;subst hx
       exact (Ia.out x (Cb.2 (.inl rfl))).1))
     simp[intOf];omega
 (obtain rfl:i=n:=by omega);have hall:(BG ds).take i=BG ds:=Bc (by have:=HD.out.row.OJ;simp[Ej] at this;simp[BG];omega);have X8:Hid (ER (BG ds) BR=0):=AQ (by rw[HE.out,<- hall];exact YS.out);have oK:Hid (Ry wr b sA sc rs fA fc sg Ls (J5 (BG ds)) BR stop):=AQ (by have:=AMB.out;rwa[hall] at this);have AMS:Hid (N7 rs=IW 0 (BG ds)):=AQ (by have:=HRV.out;rwa[hall] at this)
 have HRT:Hid (QQ wr sA i sc rs):=AQ (by
  refine⟨?_,λr hr=>(oK.out.Iu r hr).rd⟩;have:=oK.out.row.rd
  rwa[yH.out] at this)
 have xU:Hid (∀r∈rs,r.1.n<=1073741824):=AQ (λr hr=>by
  have h1:=(HRT.out.Iu r hr).nml;(have h2:(r.1.nm,r.2)∈IW 0 (BG ds):=by rw[<- AMS.out];exact Ag.2 ⟨r,hr,rfl⟩);obtain⟨m,d,hd,e⟩:=Xh h2;have h3:=(Rh hd).1;have h4:r.2=IV m d.2:=congrArg Prod.snd e;rw[h4,sZ] at h1;have h5:=HB.out
  omega)
 have c0:=oK.out.blk.cell 0;have c1:=oK.out.blk.cell 1;have f1:=oK.out.blk.frozen 1;simp only[EX,List.getElem?_cons_succ,List.getElem?_cons_zero,yH.out] at c0 c1;clear hall;(go_wp2_with fail);refine (yG sA i sc rs wr HRT.out hn xU.out).mono ?_;rintro ee w3 ⟨A2,c2,ps,rfl,hrt,hpv,hc3,hn3⟩;have GV:Hid (AZ [] wr w3):=AQ hc3;have HB3:=AQ (oK.out.blk.Am GV.out AB);have HPT:=AQ hrt;have HPV:=AQ hpv;have qF:Hid (∀k∈bo A2++Gy ps,wr.heap.size<=k/\k<w3.heap.size):=AQ hn3;have y3:=HB3.out.cell 1;have f3:=HB3.out.frozen 1;simp only[Fv] at y3;clear hrt hpv hc3 hn3;have YA:Hid (AZ [b] w3 (w3.setCell ⟨b,1,none⟩ (.slice A2 i c2))):=AQ ((AZ.refl _ _).setCell (.inl AY) _);have Yr:=AQ (HB3.out.Em 1 (.slice A2 i c2));go_wp2
 go_ret2
 have hdone:=oK.out.done GV.out (n:=i) yH.out HPT.out HPV.out qF.out YA.out (by simpa[yH.out] using Yr.out);rw[AMS.out] at hdone;refine .inr ⟨X8.out,_,?_,hdone,λx hx=>?_,(Dc.out.Aq GV.out).trans YA.out (λx hx=>.inr ?_)⟩;rfl
 ·simp only[yF.all,yF.parts,List.flatten_cons,Wl,List.nil_append,AU,DX,Ad] at hx;rcases hx with h|h|((h|h)|h)|⟨P,hP,h⟩;exact OL.out x (Cb.2 (.inl h));exact OL.out x (Cb.2 (.inr (.inr (.inl h))));exact OL.out x (Cb.2 (.inr (.inl h)));exact OL.out x (Cb.2 (.inr (.inr (.inr (.inl h)))))
  ·have h1:=(qF.out x (AU.2 h)).1;have:=Dc.out.size;omega
  exact OL.out x (Cb.2 (.inr (.inr (.inr (.inr ⟨P,hP,h⟩)))))
 simp only[Ad] at hx;subst hx;exact OL.out x (Cb.2 (.inl rfl))
open Go Go.Extern.Stop Go.Stop Go.Extern
theorem oL:Ety Ae 138 140 1 8 (.pointer none):=.mk' AN4 Ap rfl Az
theorem oN(v:Value)(w:World):(Instr.typeAssert (.iface 140 v) 39 140 true).run Ae w=.ok (.tuple #[v,.bool true]) w:=by kernel_rfl
theorem oO(v:Value)(w:World):(Instr.typeAssert (.iface 140 v) 39 150 true).run Ae w=.ok (.tuple #[.pointer none,.bool false]) w:=by kernel_rfl
theorem oP(v:Value)(w:World):(Instr.typeAssert (.iface 150 v) 39 140 true).run Ae w=.ok (.tuple #[.pointer none,.bool false]) w:=by kernel_rfl
theorem oQ(v:Value)(w:World):(Instr.typeAssert (.iface 150 v) 39 150 true).run Ae w=.ok (.tuple #[v,.bool true]) w:=by kernel_rfl
theorem uI(v:Value)(w:World):(Instr.typeAssert (.iface 51 v) 39 140 true).run Ae w=.ok (.tuple #[.pointer none,.bool false]) w:=by kernel_rfl
theorem uJ(v:Value)(w:World):(Instr.typeAssert (.iface 51 v) 39 150 true).run Ae w=.ok (.tuple #[.pointer none,.bool false]) w:=by kernel_rfl
theorem oU(w:World):(Instr.typeAssert .nilIface 39 140 true).run Ae w=.ok (.tuple #[.pointer none,.bool false]) w:=by kernel_rfl
theorem oV(w:World):(Instr.typeAssert .nilIface 39 150 true).run Ae w=.ok (.tuple #[.pointer none,.bool false]) w:=by kernel_rfl
def ADV (w:World) (f:Kv) (e:Ending) (w':World):Prop:=∃A c b,e=.returned (.slice A 1 c)/\Rd w' 1 A 1 c [.pointer (some ⟨b,0,none⟩)]/\AZ [] w w'/\Bo w' b 142 #[.string f.op,.int .i64 f.pl,.iface 51 (.int .i64 f.cd)]
theorem ADW{w:World}{v:Value}{b:Nat}{f:Kv}(h:QY w b v f):Calls Ae 67 #[v] w (ADV w f):=by
 obtain⟨rfl,hb,_⟩:=h;have HB:=AQ hb;clear hb;have t1:=oN;have t2:=oO;have t3:=oP;have t4:=oQ;have t5:=uI;have t6:=uJ;have t7:=oU;have t8:=oV;go_enter AHN,Tryz.ntmps67;go_wp2;refine wp_loop_rounds 2 ?_;rw[rounds_succ];(go_wp2_with (at_builtin;refine Fq rfl _ _ rfl oL rfl (Own.nil _ _ _) rfl (Own.aH _ 140 1 #[.pointer (some ⟨b,0,none⟩)] 1 _ _ rfl rfl Az rfl).rd (by simp[Value.oneCell']) (by unfold maxLen;omega) Ac ?_;intro A1 c1 w1 hown EJ hnew _;have hc1:AZ [] w w1:=((AZ.refl [] w).alloc _).trans EJ AY;have hb1:=HB.out.Am hc1 AY;have hk2:=hb1.cell 2;simp only[Fv] at hk2));rw[rounds_succ];go_wp2;go_ret;exact⟨_,_,_,rfl,hown.rd,hc1,hb1⟩
theorem AF1{w:World}{b c d:Nat}{x y:Value}{f g:Kv}(h0:Bo w b 152 #[x,y])(hx:QY w c x f)(hy:QY w d y g)(hg:QM w):Calls Ae 67 #[.iface 150 (.pointer (some ⟨b,0,none⟩))] w (ADV w f):=by
 have hn:=ABT (v:=x) (L:=[c]) (gs:=[]) hx hg;obtain⟨rfl,hb,_⟩:=hx;have HN:=AQ hn;have HB:=AQ hb;have HB0:=AQ h0;have z0:=h0.cell 0;simp only[Fv] at z0;have ASV:= @ANn;clear hn hb hy hg h0;have t1:=oN;have t2:=oO;have t3:=oP;have t4:=oQ;have t5:=uI;have t6:=uJ;have t7:=oU;have t8:=oV;go_enter AHN,Tryz.ntmps67;go_wp2;refine wp_loop_rounds 3 ?_;rw[rounds_succ];(go_wp2_with fail);refine HN.out.mono ?_;rintro e wz ⟨rfl,hcz⟩;have HCZ:=AQ hcz;clear hcz;go_wp2;rw[rounds_succ];(go_wp2_with (at_builtin;refine Fq rfl _ _ rfl oL rfl (Own.nil _ _ _) rfl (Own.aH _ 140 1 #[.pointer (some ⟨c,0,none⟩)] 1 _ _ rfl rfl Az rfl).rd (by simp[Value.oneCell']) (by unfold maxLen;omega) Ac ?_;intro A1 c1 w1 hown EJ hnew _;have hc1:AZ [] w w1:=(HCZ.out.alloc _).trans EJ AY;have hb1:=HB.out.Am hc1 AY;have hk2:=hb1.cell 2;simp only[Fv] at hk2));rw[rounds_succ];go_wp2;go_ret;exact⟨_,_,_,rfl,hown.rd,hc1,hb1⟩
theorem AI8{w:World}{v:Value}{L:List Nat}{f:Kv}{gs:List Kv}(h:JO w v L (f::gs))(hg:QM w):Calls Ae 67 #[v] w (ADV w f):=by
 unfold JO at h;split at h
 ·rename_i h0;cases h0
 ·rename_i h0;cases h0;exact ADW h
 ·rename_i h0;(cases h0);obtain⟨x,y,rfl,hb,hx,hy⟩:=h;exact AF1 hb hx hy hg
 exact h.elim
theorem ADX{w:World}{v:Value}{L:List Nat}{f:Kv}{gs:List Kv}(h:JO w v L (f::gs))(hg:QM w):Calls Ae 28 #[v] w λe w'=>e=.returned (.int .i64 f.pl)/\AZ [] w w':=by
 have HW:=AQ (AI8 h hg);have q67:= @AQG;clear h hg;go_enter AKX,Tryz.ntmps28;(go_wp2_with fail);refine HW.out.mono ?_;rintro e w1 ⟨A,c,b,rfl,hrd,hc,hb⟩;obtain⟨ad,u,rfl,hu,hcell⟩:=hrd.bT (k:=0) Az;simp at hu;subst hu;(have hcell0:w1.cell? ad=some (.pointer (some ⟨b,0,none⟩)):=by simpa[Addr.add] using hcell);have k1:=hb.cell 1;simp only[Fv] at k1;clear hrd hb hcell;go_wp2;go_ret;exact⟨rfl,hc⟩
theorem xY.one{w w':World}{D:He}{q s:Int}{e:Ending}(h:xY w D q s e w'): ∃vp,e=.returned (.tuple #[vp,.int .i64 (ER D q)])/\AZ [] w w'/\
  ((ER D q≠0/\vp=.pointer none)\/(ER D q=0/\∃G,vp=.pointer (some ⟨G.b,0,none⟩)/\ED w' G (FT D q s)/\∀x∈G.all,w.heap.size<=x)):=by
 rcases h with ⟨h1,rfl,h2⟩|⟨h1,G,rfl,h2,h3,h4⟩;exact⟨_,rfl,h2,.inl ⟨h1,rfl⟩⟩;exact⟨_,by rw[h1],h4,.inr ⟨h1,G,rfl,h2,h3⟩⟩
theorem ADS.one{w w':World}{D:He}{q s:Int}{e:Ending}(h:ADS w D q s e w'): ∃vp,e=.returned (.tuple #[vp,.int .i64 (ER D q)])/\AZ [] w w':=by
 rcases h with ⟨h1,rfl,h2⟩|⟨h1,R,rfl,h2,h3,h4⟩;exact⟨_,rfl,h2⟩;exact⟨_,by rw[h1],h4⟩
def ARc (w:World) (D:He) (BR stop:Int) (e:Ending) (w':World):Prop:=
 (ER D BR≠0/\e=.returned (.tuple #[.pointer none,.bool false])/\AZ [] w w')\/
 (ER D BR=0/\∃G,e=.returned (.tuple #[.pointer (some ⟨G.b,0,none⟩),.bool true])/\ED w' G (FT D BR stop)/\(∀x∈G.all,w.heap.size<=x)/\AZ [] w w')
theorem ADY(w:World)(A:Option Addr)(n c:Nat)(ds:List DM)(BR stop:Int)(h:Gl w A n c ds)(hn:n<=1073741824)(hb:Gp (BG ds)<=1073741824)
  (hfn: ∀x∈ds,x.1.n<=1073741824/\∀f∈x.2,f.1.n<=1073741824):
  Calls Ae 13 #[.agg #[.slice A n c,.int .i64 BR],.int .i64 stop] w (ARc w (BG ds) BR stop):=by
 obtain⟨W,hW⟩: ∃W,w.alloc (.cells #[.slice A n c,.int .i64 BR] 24)=W:=⟨_,rfl⟩;obtain⟨sb,hsb⟩: ∃sb,w.heap.size=sb:=⟨_,rfl⟩;(have hcW:AZ [] w W:=by rw[<- hW];exact (AZ.refl [] w).alloc _);(have hbk:Bo W sb 24 #[.slice A n c,.int .i64 BR]:=by rw[<- hW,<- hsb];exact Bo.new w _ _);have b0:=hbk.cell 0;have b1:=hbk.cell 1;simp only[Fv] at b0 b1;(have hl:ds.length=n:=by have:=h.row.OJ;simpa[Ej] using this);have HR:=AQ (ADU W A n c ds BR stop (h.GK hcW) hn hb);have HD:=AQ h;have TM:=AQ hbk;have HC:=AQ hcW;have XD:=AQ hfn;have HB:=AQ hb;have HL:=AQ hl;have q9:= @VC9;have q35:= @APw;have qB:= @ALG;clear h hb hfn hcW hbk hl;go_enter AKL,Tryz.ntmps13;(go_wp2_with fail);refine HR.out.mono ?_;rintro e wz hrf;obtain⟨vp,rfl,hcz⟩:=hrf.one;have Td:=AQ (HC.out.Aq hcz);have H0:Hid (∀w',AZ [] wz w'->w'.cell? ⟨sb,0,none⟩=some (.slice A n c)):=AQ λw' hc=>((TM.out.Am hcz AY).Am hc AY).cell 0;have H1:Hid (∀w',AZ [] wz w'->w'.cell? ⟨sb,1,none⟩=some (.int .i64 BR)):=AQ λw' hc=>((TM.out.Am hcz AY).Am hc AY).cell 1;clear hrf hcz HR;by_cases he:ER (BG ds) BR=0
 ·have HE0:=AQ he;rw[he];have ARd:Hid (∀w',AZ [] wz w'->Calls Ae 35 #[.slice A n c] w' (Xd w' (BG ds))):=AQ λw' hc=>ABV A n c ds w' (HD.out.GK (Td.out.Aq hc)) hn XD.out
  have ARe:Hid (∀w' A1 n1 c1 ds1,Gl w' A1 n1 c1 ds1->BG ds1=BG ds->Calls Ae 17 #[.slice A1 n1 c1,.int .i64 BR,.int .i64 stop] w' (xY w' (BG ds) BR stop)):=AQ λw' A1 n1 c1 ds1 hd hv=>by
   (have hl1:ds1.length=n:=by have:=congrArg List.length hv;simpa[BG,HL.out] using this);(have hl2:ds1.length=n1:=by have:=hd.row.OJ;simpa[Ej] using this);have:=AA4 w' A1 n1 c1 ds1 BR stop hd Ac (by rw[hv];exact HB.out);rwa[hv] at this
  clear he;(go_wp2_with fail);refine wp_region_held_drew (S:=λw'=>AZ [] wz w') Ap ((AZ.refl _ _).drew) (λhHeld=>?_);refine tk 0 ?_;refine Gm 1 (λw' hSw=>H0.out _ hSw) ?_;refine tk 3 ?_;refine Gm 4 (λw' hSw=>H1.out _ hSw) ?_;refine tk 5 ?_;refine Ee 2 λK hK=>?_;go_simp;refine (ARd.out _ hHeld).mono ?_;rintro e w1 ⟨A1,n1,c1,ds1,rfl,hO1,hv1,hc1,hn1⟩;have AI9:=AQ (AZ.Aq hHeld hc1);have X9:=AQ hv1;have Ox:=AQ hO1;clear hO1 hv1 hc1 hn1;go_simp;refine hK.out _ _ (AI9.out) (λhHeld=>?_);(try simp only[Act.put,Be]);clear hK K;refine Ee 6 λK hK=>?_;go_simp;refine (ARe.out _ A1 n1 c1 ds1 Ox.out.rd X9.out).mono ?_;rintro e w2 hfs;obtain⟨vp,rfl,hc2,hres⟩:=hfs.one;have nU:=AQ (AI9.out.Aq hc2);have HC2:=AQ hc2;have ARf:=AQ hres;clear hfs hc2 hres;go_simp;refine hK.out _ _ (nU.out) (λhHeld=>?_);(try simp only[Act.put,Be]);clear hK K;refine tk 7 ?_;refine tk 8 ?_;refine tk 9 ?_;refine tk 10 ?_;refine tk 11 ?_;refine wpAnyH_done Ap ?_ _;(try simp only[Act.put,Be]);rcases ARf.out with ⟨h1,h2⟩|⟨h1,G,rfl,h2,h3⟩;exact absurd HE0.out h1;rw[HE0.out];go_wp2
  go_ret2
  exact .inr ⟨HE0.out,G,rfl,h2,λx hx=>Ah (Ah Td.out.size AI9.out.size) (h3 x hx),Td.out.Aq nU.out⟩
 (have he1:(ER (BG ds) BR==0)=false:=by simp[he]);have HE:=AQ he;clear he;go_wp2
 go_ret2
 exact .inl ⟨HE.out,rfl,Td.out⟩
theorem Inv.Ub{B:Nat}{S:St}(h:Inv B S)(dst:ByteArray)(fs:List (ByteArray×List Int)):Inv (4*B+2*PN fs+100) (S.Ub dst fs).1:=by
 have h1:=h.clean;have h2:=h1.runT (Fz dst fs);rw[aF] at h2;have h3:=h2.clean;unfold St.Ub;split;exact h.mono Ac;split;exact h1.mono Ac;split;exact h2.mono Ac;exact h3.mono Ac
theorem Y9{S:St}{n:ByteArray}{xs:List Int}(h0:xs≠[])(h:xs.length<=512):S.act (.write n xs)=S.write CE n xs:=by
 show S.puts n (nM xs)=_;unfold nM;rw[ADH 511 xs h0 h];unfold St.puts;split
 ·rename_i h1;exact Dk rfl h1.symm
 rfl
theorem AF2(S:St):S.runT []=(S,[]):=rfl
theorem Jf{S:St}{t:JP}{ts:List JP}(h:(S.act t.d).2=0):S.runT (t::ts)=(S.act t.d).1.runT ts:=by
 show (if (S.act t.d).2=0 then _ else _)=_;rw[if_pos h]
theorem AJA{S:St}{t:JP}{ts:List JP}{c:Int}(h:(S.act t.d).2=c)(hc:c≠0):S.runT (t::ts)=((S.act t.d).1,[⟨t.op,t.pl,c⟩]):=by
 show (if (S.act t.d).2=0 then _ else _)=_;rw[if_neg (by rw[h];exact hc),h]
abbrev nA:ByteArray:={data:=#[97]}
abbrev nB:ByteArray:={data:=#[98]}
abbrev nD:ByteArray:={data:=#[100]}
def s0:St:=FT [] 3 (-1)
def s1:St:=(s0.Dn CE).1
def s2:St:=(s1.create CE nA).1
def s3:St:=(s2.write CE nA [1,2]).1
def s4:St:=(s3.sync CE nA).1
def s5:St:=(s4.create CE nB).1
def s6:St:=(s5.write CE nB [3,4]).1
def s7:St:=s6.clean.1
def t1:St:=(s7.Dn CE).1
def t2:St:=(t1.create CE nA).1
def t3:St:=(t2.write CE nA [1,2]).1
def t4:St:=(t3.sync CE nA).1
def t5:St:=t4.names.1
def t6:St:=(t5.rename CE nD).1
def t7:St:=t6.names.1
theorem e0:ER [] 3=0:=by kernel_rfl
theorem c0:s0.clean=(s0,0):=by kernel_rfl
theorem c1:(s0.Dn CE).2=0:=by kernel_rfl
theorem c2:(s1.create CE nA).2=0:=by kernel_rfl
theorem c3:(s2.write CE nA [1,2]).2=0:=by kernel_rfl
theorem c4:(s3.sync CE nA).2=0:=by kernel_rfl
theorem c5:(s4.create CE nB).2=0:=by kernel_rfl
theorem c6:(s5.write CE nB [3,4]).2=85:=by kernel_rfl
theorem c7:s6.clean.2=0:=by kernel_rfl
theorem c8:s7.clean=(s7,0):=by kernel_rfl
theorem d1:(s7.Dn CE).2=0:=by kernel_rfl
theorem d2:(t1.create CE nA).2=0:=by kernel_rfl
theorem d3:(t2.write CE nA [1,2]).2=0:=by kernel_rfl
theorem d4:(t3.sync CE nA).2=0:=by kernel_rfl
theorem d5:t4.names.2=0:=by kernel_rfl
theorem d6:(t5.rename CE nD).2=0:=by kernel_rfl
theorem d7:t6.names.2=0:=by kernel_rfl
theorem d8:t7.clean=(t7,0):=by kernel_rfl
theorem v7:s7.view=[]:=by kernel_rfl
theorem w7:t7.view=[(nD,[(nA,[1,2])])]:=by kernel_rfl
theorem gD:DR nD=true:=by kernel_rfl
theorem nDs:nD≠CE:=by decide+kernel
theorem AMT:s0.Ub nD [(nA,[1,2]),(nB,[3,4])]=(s7,[⟨{data:=#[119,114,105,116,101]},1,85⟩]):=by
 have hr:s0.runT (Fz nD [(nA,[1,2]),(nB,[3,4])])=(s6,[⟨{data:=#[119,114,105,116,101]},1,85⟩]):=by
  unfold Fz dG;simp only[Kw,dF,List.cons_append,List.nil_append,EK];have k1:s0.act .Dn=(s1,0):=Dk rfl c1;have k2:s1.act (.create nA)=(s2,0):=Dk rfl c2;(have k3:s2.act (.write nA [1,2])=(s3,0):=by rw[Y9 AY Az];exact Dk rfl c3);have k4:s3.act (.sync nA)=(s4,0):=Dk rfl c4;have k5:s4.act (.create nB)=(s5,0):=Dk rfl c5;(have k6:s5.act (.write nB [3,4])=(s6,85):=by rw[Y9 AY Az];exact Dk rfl c6);rw[Jf (by rw[k1]),k1,Jf (by rw[k2]),k2,Jf (by rw[k3]),k3,Jf (by rw[k4]),k4,Jf (by rw[k5]),k5,AJA (by rw[k6]) Az,k6];rfl
 unfold St.Ub;rw[if_neg (by rw[gD];simp[nDs]),c0];simp only[ne_eq,not_true,if_false];rw[hr,if_neg AY];show (s7,_++Jr s6.clean.2)=_;rw[c7];rfl
theorem AMU:s7.Ub nD [(nA,[1,2])]=(t7,[]):=by
 have hr:s7.runT (Fz nD [(nA,[1,2])])=(t7,[]):=by
  unfold Fz dG xu;simp only[Kw,dF,List.cons_append,List.nil_append,EK];have k1:s7.act .Dn=(t1,0):=Dk rfl d1;have k2:t1.act (.create nA)=(t2,0):=Dk rfl d2;(have k3:t2.act (.write nA [1,2])=(t3,0):=by rw[Y9 AY Az];exact Dk rfl d3);have k4:t3.act (.sync nA)=(t4,0):=Dk rfl d4;have k5:t4.act .names=(t5,0):=Dk rfl d5;have k6:t5.act (.rename nD)=(t6,0):=Dk rfl d6;have k7:t6.act .names=(t7,0):=Dk rfl d7;rw[Jf (by rw[k1]),k1,Jf (by rw[k2]),k2,Jf (by rw[k3]),k3,Jf (by rw[k4]),k4,Jf (by rw[k5]),k5,Jf (by rw[k6]),k6,Jf (by rw[k7]),k7,AF2]
 unfold St.Ub;rw[if_neg (by rw[gD];simp[nDs]),c8];simp only[ne_eq,not_true,if_false];rw[hr,if_pos rfl]
theorem Ff.take{w:World}{A:Option Addr}{n c:Nat}{fs:List FM}(h:Ff w A n c fs){k:Nat}(hk:k<=n):Ff w A k c (fs.take k):=by
 refine⟨?_,λf hf=>h.dat f (VU hf)⟩;have:=h.row.take hk
 have e:(Iw (Fe fs)).take (k*2)=Iw (Fe (fs.take k)):=by
  unfold Iw Fe
  have: ∀(l:List FM) (k:Nat),((l.map (·.1)).flatMap Jm.cells).take (k*2)=((l.take k).map (·.1)).flatMap Jm.cells:=by
   intro l
   induction l with
   |nil=>intro k;simp
   |cons x r ih=>
    intro k
    cases k with
    |zero=>simp|succ k=>
     rw[AL,F8,show (k+1)*2=k*2+2 by omega];rw[List.take_succ_cons,AL,F8,<- ih k];rfl
  exact this fs k
 rw[e] at this;exact this
theorem ADZ(w:World): ∃W,((w.alloc (.cells #[.int .u8 1,.int .u8 2] 5)).alloc (.cells #[.int .u8 3,.int .u8 4] 5)).alloc (.cells #[.string nA,.slice (some ⟨w.heap.size,0,none⟩) 2 2,.string nB,.slice (some ⟨w.heap.size+1,0,none⟩) 2 2] 64)=W/\AZ [] w W/\W.heap.size=w.heap.size+3/\
  Ff W (some ⟨w.heap.size+2,0,none⟩) 2 2 [(⟨nA,some ⟨w.heap.size,0,none⟩,2,2⟩,[1,2]),(⟨nB,some ⟨w.heap.size+1,0,none⟩,2,2⟩,[3,4])]/\
  ∀x∈bo (some ⟨w.heap.size+2,0,none⟩)++GZ [(⟨nA,some ⟨w.heap.size,0,none⟩,2,2⟩,[1,2]),(⟨nB,some ⟨w.heap.size+1,0,none⟩,2,2⟩,[3,4])],w.heap.size<=x/\x<W.heap.size:=by
 (have hs:(((w.alloc (.cells #[.int .u8 1,.int .u8 2] 5)).alloc (.cells #[.int .u8 3,.int .u8 4] 5)).alloc (.cells #[.string nA,.slice (some ⟨w.heap.size,0,none⟩) 2 2,.string nB,.slice (some ⟨w.heap.size+1,0,none⟩) 2 2] 64)).heap.size=w.heap.size+3:=by simp);refine⟨_,rfl,(((AZ.refl [] w).alloc _).alloc _).alloc _,hs,⟨?_,?_⟩,λx hx=>?_⟩
 ·have:=Own.aH ((w.alloc (.cells #[.int .u8 1,.int .u8 2] 5)).alloc (.cells #[.int .u8 3,.int .u8 4] 5)) 64 2 #[.string nA,.slice (some ⟨w.heap.size,0,none⟩) 2 2,.string nB,.slice (some ⟨w.heap.size+1,0,none⟩) 2 2] 2 (w.heap.size+2) _ AY rfl Az rfl;exact this.rd
 ·intro f hf;simp only[AA,AB,or_false] at hf;rcases hf with rfl|rfl
  ·have:=Own.aH w 5 1 #[.int .u8 1,.int .u8 2] 2 w.heap.size _ rfl rfl Az rfl;exact (this.Am (((AZ.refl [] _).alloc _).alloc _) AY).rd
  have:=Own.aH (w.alloc (.cells #[.int .u8 1,.int .u8 2] 5)) 5 1 #[.int .u8 3,.int .u8 4] 2 (w.heap.size+1) _ AY rfl Az rfl;exact (this.Am ((AZ.refl [] _).alloc _) AY).rd
 rw[hs];simp[bo,GZ] at hx;omega
theorem i7:Inv 148 s7:=by
 have:=(Xi (D:=[]) (BR:=3) (stop:= -1) e0 Az).Ub nD [(nA,[1,2]),(nB,[3,4])];change Inv 148 (s0.Ub nD [(nA,[1,2]),(nB,[3,4])]).1 at this;rw[AMT] at this;exact this
theorem i8:Inv 716 t7:=by
 have:=i7.Ub nD [(nA,[1,2])];rw[AMU] at this;exact this
theorem ABc(w:World)(hg:QM w):Calls Ae 8 #[] w λe w'=>e=.returned (.bool true)/\AZ [] w w':=by
 have HG:=AQ hg;have qB:= @ALG;have wC:= @APl;have q18:= @APo;have q28:= @APt;have q20:= @ALH;have q21:= @AD6;clear hg;go_enter VF8,Tryz.ntmps8;(go_wp2_with fail);have hd0:Gl w none 0 0 []:=⟨Rd.nil w 2,λd hd=>by cases hd⟩;refine (AA4 w none 0 0 [] 3 (-1) hd0 Az Az).mono ?_;rintro e w1 hfs;obtain⟨vp,rfl,hc1,hres⟩:=hfs.one;have e0':ER (BG []) 3=0:=e0;rw[e0'];rcases hres with ⟨h,_⟩|⟨_,G,rfl,hF,hN⟩
 ·exact absurd e0' h
 have HF:=AQ hF;have HN:=AQ hN;have DC:=AQ hc1;obtain⟨W,hW,hcW,hzW,hfW,hlW⟩:=ADZ w1;have HFW:=AQ hfW;have Pz:=AQ hcW;have HZW:=AQ hzW;clear hF hN hc1 hfs hd0 e0' hcW hzW hfW;unfold nA nB at hW;(go_wp2_with fail);have xP:=AQ hlW;clear hlW;have hlt:=HF.out.lt;refine (gV (HF.out.CX Pz.out) (Xi (D:=BG []) (BR:=3) (stop:= -1) e0 Az) HFW.out (λx hx hm=>by have:=(xP.out x hx).1;have:=hlt x hm;omega) (λx hx=>(xP.out x hx).2) AY (show (4*0+2*24+100:Nat)<=1073741824 by decide)).mono ?_;intro e w2 he2;change Su W G (s0.Ub nD [(nA,[1,2]),(nB,[3,4])]).1 (s0.Ub nD [(nA,[1,2]),(nB,[3,4])]).2 e w2 at he2;rw[AMT] at he2;obtain⟨v,G2,L,rfl,hev,hf2,hb2,ADa,hc2,hL2⟩:=he2;have hN:=HN.out;have hG0: ∀x∈G.all,w.heap.size<=x:=hN;have h0:(0:Nat)<w.heap.size:=World.block_lt_of_cell? _ _ HG.out;(have hne0: ∀x∈G.all,x≠0:=λx hx=>by have:=hG0 x hx;omega);have HC2:Hid (AZ G.all w1 w2):=AQ ((Pz.out.nil _).trans hc2 λx hx=>.inl hx);have HG2:Hid (QM w2):=AQ (HC2.out.cell (DC.out.cell HG.out AY) (λhm=>hne0 _ hm rfl));have HEV:=AQ hev;have HF2:=AQ hf2;have HB2:=AQ hb2
 have HA2:Hid (∀x∈G2.all,w.heap.size<=x):=AQ λx hx=>by
  rcases ADa x hx with h|h;exact hG0 x h;have:=Pz.out.size;have:=DC.out.size;omega
 have HD2:Hid (∀x∈bo (some ⟨w1.heap.size+2,0,none⟩)++GZ [(⟨nA,some ⟨w1.heap.size,0,none⟩,2,2⟩,[1,2]),(⟨nB,some ⟨w1.heap.size+1,0,none⟩,2,2⟩,[3,4])],x∉G.all/\x∉G2.all):=AQ λx hx=>by
  have h1:=xP.out x hx;(have h2:x∉G.all:=λhm=>by have:=hlt x hm;omega);refine⟨h2,λhm=>?_⟩;rcases ADa x hm with h|h;exact h2 h;omega
 have O5:Hid (Ff w2 (some ⟨w1.heap.size+2,0,none⟩) 2 2 [(⟨nA,some ⟨w1.heap.size,0,none⟩,2,2⟩,[1,2]),(⟨nB,some ⟨w1.heap.size+1,0,none⟩,2,2⟩,[3,4])]):=AQ (HFW.out.Am hc2 λx hx=>(HD2.out x hx).1);have HL2:Hid (W.heap.size<=w2.heap.size):=AQ hc2.size;clear hN hG0 h0 hne0 hev hf2 hb2 ADa hc2 hL2 hlt;clear hW;(go_wp2_with fail);refine (AFw HEV.out HG2.out).mono ?_;rintro e w3 ⟨rfl,hc3⟩;have GV:=AQ hc3;clear hc3;(go_wp2_with fail);refine (ADX (HEV.out.Am GV.out AY) (GV.out.cell HG2.out AY)).mono ?_;rintro e w4 ⟨rfl,hc4⟩;have MK:=AQ (GV.out.Aq hc4);clear hc4;(go_wp2_with fail);have QJ:=AQ (HF2.out.CX MK.out);have hv:=Zz QJ.out i7 Az;rw[HB2.out,v7] at hv;refine hv.mono ?_;clear hv;rintro e w5 ⟨A5,n5,c5,ds5,rfl,hd5,hv5,hc5,_⟩
 have hn5:n5=0:=by
  have h1:=hd5.rd.row.OJ;(have h2:ds5=[]:=by simpa[BG] using hv5);subst h2;simpa[Ej] using h1.symm
 subst hn5;have Ql:=AQ (MK.out.Aq hc5);have HF5:=AQ (QJ.out.CX hc5);clear hd5 hv5 hc5;go_wp2_with fail
 have hp:=gV HF5.out i7 (dst:=nD) ((O5.out.GK Ql.out).take (k:=1) Az) (λx hx=>(HD2.out x (by simp[bo,GZ] at hx⊢;omega)).2) (λx hx=>by
  have h1:=(xP.out x (by simp[bo,GZ] at hx⊢;omega)).2;have h2:=HL2.out;have h3:=Ql.out.size
  omega) AY (show (4*148+2*12+100:Nat)<=1073741824 by decide)
 rw[HB2.out] at hp;refine hp.mono ?_;clear hp;intro e w6 he6;change Su w5 G2 (s7.Ub nD [(nA,[1,2])]).1 (s7.Ub nD [(nA,[1,2])]).2 e w6 at he6;rw[AMU] at he6;obtain⟨v6,G6,L6,rfl,hev6,hf6,hb6,AJB,hc6,hL6⟩:=he6;change JO w6 v6 L6 [] at hev6;have hv6:v6=.nilIface:=hev6.nil_;subst hv6;have HF6:=AQ hf6;have Rx:Hid (G6.b=G.b):=AQ (hb6.trans HB2.out);have Ij:Hid (AZ [] w w6):=AQ (((DC.out.trans HC2.out λx hx=>.inr (HN.out x hx)).Aq Ql.out).trans hc6 λx hx=>.inr (HA2.out x hx));clear hev6 hf6 hb6 hc6 hL6;(go_wp2_with fail);have hv:=Zz HF6.out i8 Az;rw[Rx.out,w7] at hv;refine hv.mono ?_;clear hv;rintro e w8 ⟨A8,n8,c8,ds8,rfl,hd8,hv8,hc8,_⟩;have qR:=AQ (Ij.out.Aq hc8);have HF8:=AQ (HF6.out.CX hc8);clear hc8
 obtain⟨d,rfl,hdn⟩: ∃d,ds8=[d]/\(d.1.nm,BI d.2)=(nD,[(nA,[1,2])]):=by
  unfold BG at hv8;obtain⟨d,hd,h1⟩:=VV.1 hv8;exact⟨d,hd,h1⟩
 obtain⟨hnm,hfv⟩:=EW .. ▸hdn;obtain⟨f,hfl,hfe⟩:=VV.1 hfv
 have hn8:n8=1:=by
  have h1:=hd8.rd.row.OJ;simpa[Ej] using h1.symm
 subst hn8;obtain⟨ad,rfl,hat⟩:=hd8.rd.row.ns (j:=0) (x:=d.1) rfl;have x0:=hat.c0;have x1:=hat.c1;rw[hnm] at x0
 have PO:d.1.n=1:=by
  have h1:=(hd8.rd.Iu d AY).row.OJ;rw[hfl] at h1;simpa[Fe] using h1.symm
 rw[PO] at x1;obtain⟨dA,hdA⟩: ∃dA,d.1.A=dA:=⟨_,rfl⟩;obtain⟨dc,hdc⟩: ∃dc,d.1.c=dc:=⟨_,rfl⟩;rw[hdA,hdc] at x1;have hz:ad.add (0*2)=ad:=rfl;rw[hz] at x0 x1;clear hd8 hat hfl hfe hnm hdn hv8 hfv PO hdA hdc;unfold nD at x0;(go_wp2_with fail);have hcl:=Xl HF8.out i8 Az;rw[Rx.out,d8] at hcl;refine hcl.mono ?_;clear hcl;intro e w9 he9;obtain⟨v9,G9,L9,rfl,AJC,hf9,hb9,ADb,U9,hL9⟩:=he9;change JO w9 v9 L9 [] at AJC;have hv9:v9=.nilIface:=AJC.nil_;subst hv9
 have Z5:Hid (AZ [] w w9):=AQ (qR.out.trans U9 λx hx=>by
  rcases AJB x hx with h|h;exact .inr (HA2.out x h);have:=(DC.out.trans HC2.out λx hx=>.inr (HN.out x hx)).size;have:=Ql.out.size
  exact .inr Ac)
 clear AJC hf9 hb9 ADb U9 hL9 AJB;go_wp2;go_ret;exact⟨rfl,Z5.out⟩
end Go.Proofs.YtkkgcebhfghdnaaGreatDoor.Vw
