/- Part 27 of what that rests on; no condition. -/
import Derived.Test.YtkkgcebhfghdnaaGreatDoorJy
import Derived.Test.YtkkgcebhfghdnaaGreatDoorJz
import Derived.Deep.Cut
import Derived.Deep.CutRange
import Derived.Deep.DeepCutAuto
set_option maxRecDepth 100000
set_option maxHeartbeats 8000000
open List renaming getElem?_cons_zero→Vt, getElem?_cons_succ→Zu, cons_append→Dj, nil_append→Dy, length→KX
open Go renaming wp_region_held_drew→Ei, wpAnyH_ready→Oo, wpAnyH_done→Ef, rounds_succ→UF, Value→AP, World→AL, Calls→A7, Addr→Ag
open Go.Instr renaming typeAssert→J9
open Go.IntKind renaming wrap_i64→NJ
open Go.Value renaming oneCell'→UD
open Go.AllReadyH renaming cons→Gh, nil→Oq
open Go.Act renaming put→BF
open Option renaming none→AB, some→AA
namespace Go.Proofs.YtkkgcebhfghdnaaGreatDoor.Vw
open Go.RowKit
section
variable {f:Bool}{last name:ByteArray}{Ls:List (List Nat)}{rs:List RF}{b i:Nat}{fA:Option Ag}
theorem wV(h:CS name=false):Gl f last name=81:=by unfold Gl;rw[BZ h]
theorem qj(h:CS name=true)(h2:Uw name last=true):Gl false last name=6:=by unfold Gl;rw[BM (by simp[h]),BZ ⟨rfl,h2⟩]
theorem ACv(h:CS name=true)(h2:f=false->Uw name last=false):Gl f last name=0:=by
 unfold Gl;rw[BM (by simp[h]),BM];rintro⟨h3,h4⟩;rw[h2 h3] at h4;cases h4
theorem wW{α:Type}{l:List (ByteArray×α)}{x:ByteArray×α}(h:l[i]? =AA x):E5 noS (l.take (i+1))=x.1:=by rw[take_snoc _ _ _ h,Xf]
def Vj (b:Nat) (sA:Option Ag) (rs:List RF) (fA:Option Ag) (Ls:List (List Nat)):List Nat:=b::(bo sA++(bo fA++(Hr rs++Ls.flatten)))
theorem CY{x:Nat}{sA:Option Ag}:x∈Vj b sA rs fA Ls↔x=b\/x∈bo sA\/x∈bo fA\/x∈Hr rs\/∃P∈Ls,x∈P:=by
 unfold Vj;simp only[BB,Be,KD]
theorem TD.keep{w w':AL}{sA:Option Ag}{sc:Nat}{fc:Nat}{sg:List Nat}{fs:List EX}{q a:Int}{M:List Nat}(h:TD w b sA sc rs fA fc sg Ls fs q a)(hc:AZ M w w')(hn: ∀x∈Vj b sA rs fA Ls,x∉M):TD w' b sA sc rs fA fc sg Ls fs q a:=
 ⟨h.blk.Ak hc (hn b (CY.2 (.inl rfl))),h.row.Ak hc (λk hk=>hn k (CY.2 (.inr (.inl hk)))),λr hr=>(h.Ed r hr).Ak hc (λk hk=>hn k (CY.2 (.inr (.inr (.inr (.inl (FI.2 ⟨r,hr,hk⟩))))))),
  h.J7.Ak hc (λk hk=>hn k (CY.2 (.inr (.inr (.inl hk))))),h.RI,λi g L f e1 e2 e3=>(h.bQ i g L f e1 e2 e3).Ak hc (λk hk=>hn k (CY.2 (.inr (.inr (.inr (.inr ⟨L,Bq e2,hk⟩)))))),h.lay.mono hc.size⟩
theorem AEz(D:GH)(i:Nat):Gm (D.take i)<=Gm D:=by
 unfold Gm
 conv=>rhs;rw[<- X4 i D,Em,U8]
 omega
theorem AKw{D:GH}{d:ByteArray×List (ByteArray×List Int)}(h:D[i]? =AA d):Gm (D.take i)+d.2.length<=Gm D:=by
 have:=AEz D (i+1);rw[take_snoc _ _ _ h,AEj] at this;exact this
theorem AE0(w:AL)(A:Option Ag)(n c:Nat)(ds:List DM)(BI stop:Int)(h:Ib w A n c ds)(hn:n<=1073741824)(hb:Eb (BJ ds)<=1073741824):
  A7 Af 9 #[.slice A n c,.int .i64 BI,.int .i64 stop] w (AEy w (BJ ds) BI stop):=by
 have HD:=AQ h;have HB:=AQ hb;clear h hb;have k10:= @ASE;have k31:= @ASL;have k32:= @ASM;go_enter VF9,Tryz.ntmps9;by_cases hq:BI<0
 ·have HE:Hid (Dn (BJ ds) BI=2):=AQ (by unfold Dn;rw[BZ hq]);go_wp2
  go_ret2
  exact .inl ⟨by rw[HE.out];decide,by rw[HE.out];rfl,AZ.refl _ _⟩
 have HE:Hid (Dn (BJ ds) BI=GK true noS (BJ ds)):=AQ (by unfold Dn;rw[BM hq]);obtain⟨b,hbn⟩: ∃b,w.heap.size=b:=⟨_,rfl⟩;obtain⟨W,hW⟩: ∃W,w.alloc (.cells #[.slice AB 0 0,.slice AB 0 0,.slice AB 0 0,.slice AB 0 0,.slice AB 0 0,.int .i64 BI,.int .i64 stop,.int .i64 0] 83)=W:=⟨_,rfl⟩;have hcW:AZ [] w W:=by rw[<- hW];exact (AZ.refl [] w).alloc _
 have hRo:TD W b AB 0 [] AB 0 [] [] [] BI stop:=by
  (have hbk:Bl W b 83 #[.slice AB 0 0,.slice AB 0 0,.slice AB 0 0,.slice AB 0 0,.slice AB 0 0,.int .i64 BI,.int .i64 stop,.int .i64 0]:=by rw[<- hW,<- hbn];exact Bl.new w _ _);refine⟨hbk,Own.nil _ _ _,AV,Own.nil _ _ _,rfl,AV,⟨by simp[Sep,Hr],?_⟩⟩;intro P hP x hx;have h1:=hbk.lt;simp only[BB,XW,Hr,List.flatMap_nil,kG,or_false] at hP;(rcases hP with rfl|rfl|rfl|rfl<;>simp at hx);omega
 have HRO:=AQ hRo;have QT:=AQ hcW;have HBN:=AQ hbn;clear hRo hcW;go_wp2
 go_loopw [9] (λs9 wr=>∃(i:Nat) (sA:Option Ag) (sc:Nat) (rs:List RF) (fA:Option Ag) (fc:Nat) (sg:List Nat) (Ls:List (List Nat)),i<=n/\s9=.int .i64 i/\GK true noS ((BJ ds).take i)=0/\
  TD wr b sA sc rs fA fc sg Ls (J7 ((BJ ds).take i)) BI stop/\Oh rs=GV 0 ((BJ ds).take i)/\(∀x∈Vj b sA rs fA Ls,w.heap.size<=x)/\AZ [] w wr) (λs9 _=>n - (intOf s9).toNat)
 case atStart=>exact⟨0,AB,0,[],AB,0,[],[],D5 _,rfl,rfl,HRO.out,rfl,by have:=HBN.out;simp[Vj,Hr];omega,QT.out⟩
 obtain⟨i,sA,sc,rs,fA,fc,sg,Ls,hin,rfl,hpre,hro,hrv,hnew,hch⟩:=hrel;have Y1:=AQ hpre;have AOS:=AQ hro;have HRV:=AQ hrv;have Oy:=AQ hnew;have DY:=AQ hch
 have hrl:rs.length=i:=by
  have h1:=congrArg KX hrv;have h2:=congrArg KX (fP 0 ((BJ ds).take i));simp only[Oh,DZ] at h1 h2;have h3:=HD.out.row.Ov;simp only[Gi,DZ] at h3;rw[h1,h2,Ie];simp only[BJ,DZ];omega
 have HRL:=AQ hrl;clear hpre hro hrv hnew hch HRO QT hrl;by_cases hlt:i<n
 ·(have hlt':(i:Int)<n:=by omega);obtain⟨d,hd⟩: ∃d,ds[i]? =AA d:=⟨_,CQ (by have:=HD.out.row.Ov;simp[Gi] at this;omega)⟩;obtain⟨⟨Hu,dA,dn,dc⟩,H7⟩:=d;(have hdv:(BJ ds)[i]? =AA (Hu,BD H7):=by unfold BJ;rw[Bg,hd];rfl);obtain⟨ad,rfl,hat⟩:=(HD.out.Ho DY.out).row.ns (j:=i) (x:=⟨Hu,dA,dn,dc⟩) (by unfold Gi;rw[Bg,hd];rfl);have x0:=hat.c0;have x1:=hat.c1;have Xj:=AQ hdv;have HDM:=AQ (Bq hd);clear hd hdv hat;obtain⟨dv,ACT⟩: ∃dv,wr.heap.size=dv:=⟨_,rfl⟩;obtain⟨W1,hW1⟩: ∃W1,wr.alloc (.cells #[.string Hu,.slice dA dn dc] 77)=W1:=⟨_,rfl⟩;(have hv1:Bl W1 dv 77 #[.string Hu,.slice dA dn dc]:=by rw[<- hW1,<- ACT];exact Bl.new wr _ _);(have hc1:AZ [] wr W1:=by rw[<- hW1];exact (AZ.refl [] wr).alloc _);have v0:=hv1.cell 0;have v1:=hv1.cell 1;simp only[GU] at v0 v1;have HV1:=AQ hv1;have DI:=AQ hc1;have AKS:=AQ ACT
  have HDE:Hid (∀E,E≠0->Gl (i==0) (E5 noS ((BJ ds).take i)) Hu=E->Dn (BJ ds) BI=E):=AQ (λE h0 h=>by
   rw[HE.out,U1 Xj.out Y1.out];unfold GK
   rw[h,BZ h0])
  clear hv1 hc1;(go_wp2_with fail);refine (ou Hu W1).mono ?_;rintro e w2 ⟨rfl,hcg⟩;have HCG:=AQ hcg;have HC2:Hid (AZ [] wr w2):=AQ (DI.out.Ap hcg);have HV2:=AQ (HV1.out.Ak hcg BC)
  cases hg:CS Hu with
  |false=>
   have HX:=AQ (HDE.out 81 Ar (wV hg));clear hcg hg v0 v1;go_wp2
   go_ret2
   exact .inl ⟨by rw[HX.out];decide,by rw[HX.out];rfl,DY.out.Ap HC2.out⟩
  |true=>
   have v0':=HV2.out.cell 0;simp only[GU] at v0';have HG:=AQ hg;clear hcg hg v0 v1 x0 x1;obtain⟨late,ql⟩: ∃l:Bool,(i≠0/\Uw Hu (E5 noS ((BJ ds).take i))=true)↔l=true:=⟨decide (i≠0/\Uw Hu (E5 noS ((BJ ds).take i))=true),AV⟩;have AAX:=AQ ql
   have ATq:Hid (late=true->Dn (BJ ds) BI=6):=AQ (λh=>by
    obtain⟨h1,h2⟩:=AAX.out.2 h;refine HDE.out 6 Ar ?_;rw[show (i==0)=false from beq_eq_false_iff_ne.2 h1]
    exact qj HG.out h2)
   have ATr:Hid (late=false->Gl (i==0) (E5 noS ((BJ ds).take i)) Hu=0):=AQ (λh=>ACv HG.out (λhf=>by
    cases hl:Uw Hu (E5 noS ((BJ ds).take i)) with
    |false=>rfl|true=>
     have:=AAX.out.1 ⟨by simpa using hf,hl⟩
     rw[h] at this;cases this))
   clear ql;have ART:Hid (∃pv:Bool,late=pv):=AQ ⟨_,rfl⟩;clear ART
   go_upto_region 10 with fail
   go_cut [46] (λs46 wx=>s46=.bool late/\AZ [] w2 wx)
   case first=>
    rcases O1 i with hi0|hi0
    ·subst hi0
     have hl0:late=false:=by
      cases hl:late with|false=>rfl|true=>exact Ai rfl (AAX.out.2 hl).1
     subst hl0;refine Ei (S:=λw'=>AZ [] w2 w') Aq ((AZ.refl _ _).drew) (λhHeld=>?_);refine tk 0 ?_;refine tk 1 ?_;refine tk 2 ?_;refine tk 3 ?_;refine tk 4 ?_;refine tk 5 ?_;refine tk 6 ?_;refine tk 7 ?_;refine tk 8 ?_;refine tk 9 ?_;refine tk 10 ?_;refine tk 11 ?_;refine tk 12 ?_;refine Ef Aq ?_ _;(try simp only[BF,Bf]);go_wp2_with fail
     go_meet
     exact⟨rfl,hHeld⟩
    obtain⟨k,rfl⟩: ∃k,i=k+1:=⟨i - 1,Ad⟩;obtain⟨pd,QZ⟩: ∃pd,ds[k]? =AA pd:=⟨_,CQ (by have:=HD.out.row.Ov;simp[Gi] at this;omega)⟩;(have hpv:(BJ ds)[k]? =AA (pd.1.nm,BD pd.2):=by unfold BJ;rw[Bg,QZ];rfl);have hln:E5 noS ((BJ ds).take (k+1))=pd.1.nm:=wW hpv;obtain⟨ad',had,hpt⟩:=(HD.out.Ho (DY.out.Ap HC2.out)).row.ns (j:=k) (x:=pd.1) (by unfold Gi;rw[Bg,QZ];rfl);injection had with had;subst had;have p0:=hpt.c0
    have hle0:Uw Hu pd.1.nm=late:=by
     have h1:=AAX.out;rw[hln] at h1
     cases hl:Uw Hu pd.1.nm with
     |false=>
      cases hl2:late with|false=>rfl|true=>have:=(h1.2 hl2).2;rw[hl] at this;cases this
     |true=>exact (h1.1 ⟨Ad,hl⟩).symm
    (have hle: ∀w',(binOp .leq 9 (.string Hu) (.string pd.1.nm)).run Af w'=.ok (.bool late) w':=λw'=>by rw[VW,hle0]);(have hwk:IntKind.i64.wrap (k:Int)=(k:Int):=by rw[NJ];omega);(have hkn:(k:Int)<n:=by omega);clear QZ hpv hln hpt hle0;refine Ei (S:=λw'=>AZ [] w2 w') Aq ((AZ.refl _ _).drew) (λhHeld=>?_);refine tk 0 ?_;refine tk 1 ?_;refine tk 2 ?_;refine tk 3 ?_;refine GI 4 (λw' hSw=>hSw.cell v0' BC) ?_;refine tk 5 ?_;refine tk 6 ?_;refine tk 7 ?_;refine tk 8 ?_;refine tk 9 ?_;refine GI 10 (λw' hSw=>hSw.cell p0 BC) ?_;refine tk 11 ?_;refine tk 12 ?_;refine Ef Aq ?_ _;(try simp only[BF,Bf]);go_wp2_with fail
    go_meet
    exact⟨rfl,hHeld⟩
   obtain⟨rfl,hcc⟩:=hcut;have AGG:=AQ hcc;clear hcc v0'
   cases late with
   |true=>
    have HX:=AQ (ATq.out rfl);go_wp2
    go_ret2
    exact .inl ⟨by rw[HX.out];decide,by rw[HX.out];rfl,(DY.out.Ap HC2.out).Ap AGG.out⟩
   |false=>
    have AKx:=AQ (ATr.out rfl);have ACw:Hid (AZ [] w wc):=AQ ((DY.out.Ap HC2.out).Ap AGG.out);have AOT:=AQ (AOS.out.CE (HC2.out.Ap AGG.out));have HV3:=AQ (HV2.out.Ak AGG.out BC);have AOU:=HV3.out.cell 0;simp only[GU] at AOU;have HFR:=AQ (HD.out.Ed _ HDM.out);have hml:H7.length=dn:=by have:=HFR.out.row.Ov;simpa[F5] using this
    have hmb:dn<=1073741824:=by
     have h1:=(Si (Bq Xj.out)).1;have h2:=HB.out;simp only[BD,DZ] at h1;omega
    have HML:=AQ hml;obtain⟨ov,hov⟩: ∃ov,wc.heap.size=ov:=⟨_,rfl⟩;obtain⟨W4,hW4⟩: ∃W4,W4=wc.alloc (.cells #[.string Hu,.slice AB 0 0] 86):=⟨_,rfl⟩;(have ho4:Bl W4 ov 86 #[.string Hu,.slice AB 0 0]:=by rw[hW4,<- hov];exact Bl.new wc _ _);(have hc4:AZ [] wc W4:=by rw[hW4];exact (AZ.refl [] wc).alloc _);have HO4:=AQ ho4;have NV:=AQ hc4;have HOV:Hid (wc.heap.size=ov/\ov<W4.heap.size):=AQ ⟨hov,ho4.lt⟩;clear ho4 hc4 hml;have HW4:=AQ hW4;clear hW4;go_wp2;rw[<- HW4.out];have HV4:=AQ (HV3.out.Ak NV.out BC);have AKy:=AQ (AOT.out.CE NV.out);have wX:Hid (AZ [] w W4):=AQ (ACw.out.Ap NV.out);clear hov AOU
    have ATs:Hid (∀x∈Vj b sA rs fA Ls,x<ov):=AQ (λx hx=>by
     have h1:=HOV.out.1;simp only[Vj,BB,Be] at hx;have hl:=AOT.out.lay.lt
     have h2:x<wc.heap.size:=by
      rcases hx with rfl|h|h|h|h;exact hl [x] AV x AV;exact hl (bo sA) AV x h;exact hl (bo fA) AV x h;exact hl (Hr rs) AV x h;obtain⟨P,hP,hx⟩:=KD.1 h;exact hl P (by simp[hP]) x hx
     omega)
    go_loopw [12] (λs12 wr=>∃(j:Nat) (oA:Option Ag) (oc:Nat) (fA:Option Ag) (fc:Nat) (sg:List Nat) (Ls:List (List Nat)),j<=dn/\s12=.int .i64 j/\EN true noS ((BD H7).take j)=0/\
     Bl wr ov 86 #[.string Hu,.slice oA j oc]/\Own wr 88 2 oA j oc (Xr (IJ (0+Gm ((BJ ds).take i)) ((BD H7).take j)))/\
     TD wr b sA sc rs fA fc sg Ls (J7 ((BJ ds).take i)++((BD H7).take j).map λx=>(x.2,[])) BI stop/\Bl wr dv 77 #[.string Hu,.slice dA dn dc]/\
     (∀k∈bo oA,W4.heap.size<=k/\∀P∈Ls,k∉P)/\(∀x∈Vj b sA rs fA Ls,w.heap.size<=x/\x≠ov)/\AZ [] w wr/\W4.heap.size<=wr.heap.size) (λs12 _=>dn - (intOf s12).toNat)
    case atStart=>exact⟨0,AB,0,fA,fc,sg,Ls,D5 _,rfl,rfl,HO4.out,Own.nil _ _ _,by simpa using AKy.out,HV4.out,AV,λx hx=>⟨Oy.out x hx,by have:=ATs.out x hx;omega⟩,wX.out,Ba _⟩
    obtain⟨j,oA,oc,fA,fc,sg,Ls,hjd,rfl,qC,hob,hoo,AOV,hvb,hdis,J6,jD,AOW⟩:=hrel;have Xk:=AQ qC;have HOB:=AQ hob;have HOO:=AQ hoo;have Nu:=AQ AOV;have HVB:=AQ hvb;have Yu:=AQ hdis;have Iz:=AQ J6;have Tj:=AQ jD;have AKz:=AQ AOW;have dv1:=hvb.cell 1;have dv0:=hvb.cell 0;simp only[GU] at dv0 dv1;clear qC hob hoo AOV hvb hdis J6 jD AOW;by_cases hjl:j<dn
    ·(have AN1:(j:Int)<dn:=by omega);obtain⟨x,hx⟩: ∃x,H7[j]? =AA x:=⟨_,CQ (by have:=HML.out;omega)⟩;obtain⟨⟨Vk,fB,fn,fd⟩,bs⟩:=x;(have hxv:(BD H7)[j]? =AA (Vk,bs):=by unfold BD;rw[Bg,hx];rfl);obtain⟨ad,rfl,hat⟩:=(HFR.out.Ho Tj.out).row.ns (j:=j) (x:=⟨Vk,fB,fn,fd⟩) (by unfold F5;rw[Bg,hx];rfl);have x0:=hat.c0;have x1:=hat.c1;have qE:=AQ hxv;have HXM:=AQ (Bq hx);clear hx hxv hat;obtain⟨fv,ACV⟩: ∃fv,wr.heap.size=fv:=⟨_,rfl⟩;obtain⟨W5,hW5⟩: ∃W5,wr.alloc (.cells #[.string Vk,.slice fB fn fd] 64)=W5:=⟨_,rfl⟩;(have hv5:Bl W5 fv 64 #[.string Vk,.slice fB fn fd]:=by rw[<- hW5,<- ACV];exact Bl.new wr _ _);(have hc5:AZ [] wr W5:=by rw[<- hW5];exact (AZ.refl [] wr).alloc _);have v50:=hv5.cell 0;simp only[GU] at v50;have HV5:=AQ hv5;have RJ:=AQ hc5;have ACW:=AQ ACV
     have HFE:Hid (∀E,E≠0->Gl (j==0) (E5 noS ((BD H7).take j)) Vk=E->Dn (BJ ds) BI=E):=AQ (λE h0 h=>by
      have h1:EN true noS (BD H7)=E:=by
       rw[Ze qE.out Xk.out];unfold EN;rw[h,BZ h0]
      rw[HE.out,U1 Xj.out Y1.out];unfold GK
      rw[BM (by simp[AKx.out]),h1,BZ h0])
     clear hv5 hc5;(go_wp2_with fail);refine (ou Vk W5).mono ?_;rintro e w6 ⟨rfl,hcg⟩;have JE:Hid (AZ [] wr w6):=AQ (RJ.out.Ap hcg);have HV6:=AQ (HV5.out.Ak hcg BC)
     cases hg:CS Vk with
     |false=>
      have HX:=AQ (HFE.out 81 Ar (wV hg));clear hcg hg v50 x0 x1 dv0 dv1;go_wp2
      go_ret2
      exact .inl ⟨by rw[HX.out];decide,by rw[HX.out];rfl,Tj.out.Ap JE.out⟩
     |true=>
      have f0:=HV6.out.cell 0;have f1:=HV6.out.cell 1;have d1:=(HVB.out.Ak JE.out BC).cell 1;simp only[GU] at f0 f1 d1;have HG2:=AQ hg;clear hcg hg v50 x0 x1 dv0 dv1;obtain⟨Vl,ql⟩: ∃l:Bool,(j≠0/\Uw Vk (E5 noS ((BD H7).take j))=true)↔l=true:=⟨decide (j≠0/\Uw Vk (E5 noS ((BD H7).take j))=true),AV⟩;have dI:=AQ ql
      have AK0:Hid (Vl=true->Dn (BJ ds) BI=6):=AQ (λh=>by
       obtain⟨h1,h2⟩:=dI.out.2 h;refine HFE.out 6 Ar ?_;rw[show (j==0)=false from beq_eq_false_iff_ne.2 h1]
       exact qj HG2.out h2)
      have AK1:Hid (Vl=false->Gl (j==0) (E5 noS ((BD H7).take j)) Vk=0):=AQ (λh=>ACv HG2.out (λhf=>by
       cases hl:Uw Vk (E5 noS ((BD H7).take j)) with
       |false=>rfl|true=>
        have:=dI.out.1 ⟨by simpa using hf,hl⟩
        rw[h] at this;cases this))
      clear ql
      go_upto_region 19 with fail
      go_cut [79] (λs79 wx=>s79=.bool Vl/\AZ [] w6 wx)
      case first=>
       rcases O1 j with hj0|hj0
       ·subst hj0
        have hl0:Vl=false:=by
         cases hl:Vl with|false=>rfl|true=>exact Ai rfl (dI.out.2 hl).1
        subst hl0;refine Ei (S:=λw'=>AZ [] w6 w') Aq ((AZ.refl _ _).drew) (λhHeld=>?_);refine tk 0 ?_;refine tk 1 ?_;refine tk 2 ?_;refine tk 3 ?_;refine tk 4 ?_;refine tk 5 ?_;refine tk 6 ?_;refine tk 7 ?_;refine tk 8 ?_;refine tk 9 ?_;refine tk 10 ?_;refine tk 11 ?_;refine tk 12 ?_;refine tk 13 ?_;refine Ef Aq ?_ _;(try simp only[BF,Bf]);go_wp2_with fail
        go_meet
        exact⟨rfl,hHeld⟩
       obtain⟨k,rfl⟩: ∃k,j=k+1:=⟨j - 1,Ad⟩;obtain⟨pd,QZ⟩: ∃pd,H7[k]? =AA pd:=⟨_,CQ (by have:=HML.out;omega)⟩;(have hpv:(BD H7)[k]? =AA (pd.1.nm,pd.2):=by unfold BD;rw[Bg,QZ];rfl);have hln:E5 noS ((BD H7).take (k+1))=pd.1.nm:=wW hpv;obtain⟨ad',had,hpt⟩:=(HFR.out.Ho (Tj.out.Ap JE.out)).row.ns (j:=k) (x:=pd.1) (by unfold F5;rw[Bg,QZ];rfl);injection had with had;subst had;have p0:=hpt.c0
       have hle0:Uw Vk pd.1.nm=Vl:=by
        have h1:=dI.out;rw[hln] at h1
        cases hl:Uw Vk pd.1.nm with
        |false=>
         cases hl2:Vl with|false=>rfl|true=>have:=(h1.2 hl2).2;rw[hl] at this;cases this
        |true=>exact (h1.1 ⟨Ad,hl⟩).symm
       (have hle: ∀w',(binOp .leq 9 (.string Vk) (.string pd.1.nm)).run Af w'=.ok (.bool Vl) w':=λw'=>by rw[VW,hle0]);(have hwk:IntKind.i64.wrap (k:Int)=(k:Int):=by rw[NJ];omega);(have hkn:(k:Int)<dn:=by omega);clear QZ hpv hln hpt hle0;refine Ei (S:=λw'=>AZ [] w6 w') Aq ((AZ.refl _ _).drew) (λhHeld=>?_);refine tk 0 ?_;refine tk 1 ?_;refine tk 2 ?_;refine tk 3 ?_;refine GI 4 (λw' hSw=>hSw.cell f0 BC) ?_;refine tk 5 ?_;refine GI 6 (λw' hSw=>hSw.cell d1 BC) ?_;refine tk 7 ?_;refine tk 8 ?_;refine tk 9 ?_;refine tk 10 ?_;refine GI 11 (λw' hSw=>hSw.cell p0 BC) ?_;refine tk 12 ?_;refine tk 13 ?_;refine Ef Aq ?_ _;(try simp only[BF,Bf]);go_wp2_with fail
       go_meet
       exact⟨rfl,hHeld⟩
      obtain⟨rfl,hcc⟩:=hcut;have Oc:Hid (AZ [] wr wc):=AQ (JE.out.Ap hcc);have HV7:=AQ (HV6.out.Ak hcc BC);clear hcc f0 f1 d1
      cases Vl with
      |true=>
       have HX:=AQ (AK0.out rfl);go_wp2
       go_ret2
       exact .inl ⟨by rw[HX.out];decide,by rw[HX.out];rfl,Tj.out.Ap Oc.out⟩
      |false=>
       have ARU:=AQ (AK1.out rfl);clear AK0 AK1 dI HFE;obtain⟨fl,hfl⟩: ∃fl,(J7 ((BJ ds).take i)++((BD H7).take j).map λx=>(x.2,([]:List (List Int)))).length=fl:=⟨_,rfl⟩;have AOX:fl=0+Gm ((BJ ds).take i)+((BD H7).take j).length:=by rw[<- hfl,Ig,DZ,SX];omega
       have AUx:fl<=1073741824:=by
        have h1:=AKw Xj.out;have h2:=wB (BJ ds);have h3:=HB.out;simp only[BD,DZ] at h1;(have h4:((BD H7).take j).length<=H7.length:=by simp only[BD,Ie,DZ];omega);omega
       have jM:=AQ hfl;have AOY:=AQ AOX;have c3:=(Nu.out.blk.Ak Oc.out BC).cell 3;have AK2:=HOB.out.Ak Oc.out BC;have o1:=AK2.cell 1;have AK3:Hid (Bl (wc.alloc (.cells #[.string Vk,.int .i64 fl] 88)) ov 86 #[.string Hu,.slice oA j oc]):=AQ (AK2.alloc _);have o1a:=AK3.out.cell 1;have f0:=HV7.out.cell 0;simp only[QW,Zu,Vt,hfl] at c3 o1 o1a f0;have AOZ:Hid (Own (wc.alloc (.cells #[.string Vk,.int .i64 fl] 88)) 88 2 oA j oc (Xr (IJ (0+Gm ((BJ ds).take i)) ((BD H7).take j)))):=AQ (HOO.out.Ak (Oc.out.alloc _) Ej)
       have HFO:Hid (fv∉ov::bo oA):=AQ (λhm=>by
        have h1:=ACW.out;rcases BB.1 hm with h|h;have:=HOB.out.lt;omega
        have:=HOO.out.lt fv h;omega)
       have tq:Hid (b∉ov::bo oA):=AQ (λhm=>by
        rcases BB.1 hm with h|h;exact (Iz.out b (CY.2 (.inl rfl))).2 h
        exact HOO.out.GG Nu.out.blk Ar b h rfl)
       have ATt:Hid (ov∉bo oA):=AQ (λhm=>HOO.out.GG HOB.out Ar ov hm rfl);clear AK2 hfl AOX
       go_upto_region 21 with fail
       go_cut [] (λwx=>∃(A2:Option Ag) (c2:Nat),Bl wx ov 86 #[.string Hu,.slice A2 (j+1) c2]/\Own wx 88 2 A2 (j+1) c2 (Xr (IJ (0+Gm ((BJ ds).take i)) ((BD H7).take (j+1))))/\(∀k∈bo A2,k∈bo oA\/wc.heap.size<=k)/\AZ (ov::bo oA) wc wx)
       case first=>
        refine Ei (S:=λw'=>AZ (ov::bo oA) wc w') Aq ((AZ.refl _ _).drew) (λhHeld=>?_);refine tk 0 ?_;refine tk 2 ?_;refine GI 3 (λw' hSw=>hSw.cell f0 HFO.out) ?_;refine tk 4 ?_;refine tk 5 ?_;refine tk 6 ?_;refine GI 7 (λw' hSw=>hSw.cell c3 tq.out) ?_;refine tk 8 ?_;refine tk 9 ?_;refine Oo (rs:=[1,10]) Aq AV ?_;refine Gh rfl (λK hK=>?a1) (Gh rfl (λK hK=>?b1) (Oq))
        case' a1=>
         go_simp;refine hK.out _ _ (hHeld) (λhHeld=>?_);(try simp only[BF,Bf]);clear hK K;refine EW 10 λK hK=>?_;go_simp;refine hK.out _ _ (hHeld.alloc _) (λhHeld=>?_)
        case' b1=>
         go_simp;refine hK.out _ _ (hHeld.alloc _) (λhHeld=>?_);(try simp only[BF,Bf]);clear hK K;refine EW 1 λK hK=>?_;go_simp;refine hK.out _ _ (hHeld) (λhHeld=>?_)
        all_goals
         (try simp only[BF,Bf]);clear hK K;refine EW 11 λK hK=>?_;refine JU rfl _ _ rfl qg rfl AOZ.out rfl (Own.lit wc 88 2 #[.string Vk,.int .i64 fl] 1 Ar rfl).rd (ACt [(Vk,fl)]) Qv Ad ?_;intro A2 c2 w8 qm Vm qo _;have HB8:=AQ (AK3.out.drew.Ak Vm ATt.out);have y8:=HB8.out.cell 1;have f8:=HB8.out.frozen 1;simp at y8;have HO8:=AQ qm;have AGH:=AQ Vm;have HN8:=AQ qo;have hH8:=hHeld.trans Vm (λx hx=>.inl (CO _ hx));clear qm Vm qo;refine hK.out _ _ (hH8) (λhHeld=>?_);(try simp only[BF,Bf]);clear hK K;refine tk 12 ?_;refine EW 13 λK hK=>?_;go_simp;refine hK.out _ _ (hHeld.setCell (.inl AV) _) (λhHeld=>?_);(try simp only[BF,Bf]);clear hK K;refine Ef Aq ?_ _;(try simp only[BF,Bf]);have Yh:Hid (AZ [ov] w8 (w8.setCell ⟨ov,1,AB⟩ (.slice A2 (j+1) c2))):=AQ ((AZ.refl _ _).setCell (.inl AV) _);have ZX:Hid (Bl (w8.setCell ⟨ov,1,AB⟩ (.slice A2 (j+1) c2)) ov 86 #[.string Hu,.slice A2 (j+1) c2]):=AQ (by simpa using HB8.out.FK 1 (.slice A2 (j+1) c2));clear y8 f8 o1 o1a hHeld hH8 c3 f0;go_wp2_with fail
         go_meet
         have hcl:AZ [] wc (wc.alloc (.cells #[.string Vk,.int .i64 fl] 88)).drew:=((AZ.refl _ _).alloc _).drew;refine⟨A2,c2,ZX.out,?_,λk hk=>?_,((hcl.nil (ov::bo oA)).trans AGH.out (λx hx=>.inl (CO _ hx))).trans Yh.out (λx hx=>.inl (by simp at hx;simp[hx]))⟩
         ·refine Own.Ak ?_ Yh.out (λk hk hm=>HO8.out.GG HB8.out Ar k hk (by simpa using hm));have:=HO8.out;rw[take_snoc _ _ _ qE.out,pY,ACs,<- AOY.out];exact this
         rcases HN8.out k hk with h|h;exact .inl h;have:=hcl.size;exact .inr Ad
       obtain⟨A2,c2,hb8,ho8,hn8,hc8⟩:=hcut;have AOa:=AQ hb8;have AGI:=AQ ho8;have HN8:=AQ hn8;have HC8:=AQ hc8;clear hb8 ho8 hn8 hc8 c3 o1 o1a f0 AK3 AOZ
       have qp:Hid (AZ [] w wc):=AQ ((Tj.out.Ap Oc.out).trans HC8.out (λx hx=>.inr (by
        rcases BB.1 hx with rfl|hx;have h1:=HOV.out.1;have h2:=ACw.out.size;omega
        have h1:=(Yu.out x hx).1;have h2:=wX.out.size;omega)))
       have ATu:Hid (∀x∈Vj b sA rs fA Ls,x∉ov::bo oA):=AQ (λx hx hm=>by
        rcases BB.1 hm with rfl|hm;exact (Iz.out x hx).2 rfl;rcases CY.1 hx with rfl|h|h|h|⟨P,hP,h⟩;exact tq.out (CO _ hm);exact Nu.out.row.own_ne HOO.out Ar x h hm;exact Nu.out.J7.own_ne HOO.out Ar x h hm
        ·have h1:=AKy.out.lay.lt (Hr rs) AV x h;have h2:=(Yu.out x hm).1;omega
        exact (Yu.out x hm).2 P hP h)
       have jO:=AQ ((Nu.out.CE Oc.out).keep HC8.out ATu.out);have HV8:=AQ (HV7.out.Ak HC8.out HFO.out)
       have Zf:Hid (fn<=1073741824):=AQ (by
        have h1:bs.length<=Eb (BJ ds):=(Si (Bq Xj.out)).2 _ (Bq qE.out);have h2:=(HFR.out.dat _ HXM.out).1;have h3:=HB.out;simp at h2
        omega)
       have AOb:Hid (Rd wc 1 fB fn fd (bv bs)):=AQ ((HFR.out.dat _ HXM.out).Ak qp.out Ej);have c3:=jO.out.blk.cell 3;have f1:=HV8.out.cell 1;simp only[QW,Zu,Vt,jM.out] at c3 f1
       have HFB:Hid (fv∉b::bo fA):=AQ (λhm=>by
        rcases BB.1 hm with h|h;have h1:=Nu.out.blk.lt;have h2:=ACW.out;omega
        have h1:=Nu.out.J7.lt fv h;have h2:=ACW.out;omega)
       have HBF:Hid (b∉bo fA):=AQ (λhm=>Nu.out.J7.GG Nu.out.blk Ar b hm rfl);(go_wp2_with fail);refine Ei (S:=λw'=>AZ (b::bo fA) wc w') Aq ((AZ.refl _ _).drew) (λhHeld=>?_);refine tk 0 ?_;refine tk 1 ?_;refine tk 2 ?_;refine tk 3 ?_;refine tk 5 ?_;refine GI 6 (λw' hSw=>hSw.cell f1 HFB.out) ?_;refine Oo (rs:=[4,7]) Aq AV ?_;refine Gh rfl (λK hK=>?a2) (Gh rfl (λK hK=>?b2) (Oq))
       case' a2=>
        go_simp;refine hK.out _ _ (hHeld) (λhHeld=>?_);(try simp only[BF,Bf]);clear hK K;refine EW 7 λK hK=>?_;go_simp;refine (wS fB fn fd bs _ Zf.out (AOb.out.Ak ((AZ.refl [] wc).drew) Ej)).mono ?_;rintro ee w9 ⟨g,L,rfl,hsp,Yi,hn9⟩;have Xi:Hid (AZ [] wc w9):=AQ (((AZ.refl [] wc).drew).Ap Yi);have HSP:=AQ hsp;have HN9:Hid (∀k∈L,wc.heap.size<=k):=AQ hn9;have hHc:=hHeld.Ap Yi;have y9:w9.cell? ⟨b,3,AB⟩=AA (.slice fA fl fc):=Xi.out.cell c3 BC;have AGJ:Hid (Bl (w9.alloc (.cells #[.pointer (AA ⟨g,0,AB⟩)] 89)) b 83 #[.slice sA rs.length sc,.slice AB 0 0,.slice AB 0 0,.slice fA fl fc,.slice AB 0 0,.int .i64 BI,.int .i64 stop,.int .i64 0]):=AQ (by have:=jO.out.blk.Ak (Xi.out.alloc (.cells #[.pointer (AA ⟨g,0,AB⟩)] 89)) BC;rw[jM.out] at this;exact this);have y9a:=AGJ.out.cell 3;simp only[GU] at y9a;have AOc:Hid (Own (w9.alloc (.cells #[.pointer (AA ⟨g,0,AB⟩)] 89)) 89 1 fA fl fc (sg.map pv8)):=AQ (by have:=jO.out.J7.Ak (Xi.out.alloc (.cells #[.pointer (AA ⟨g,0,AB⟩)] 89)) Ej;rw[jM.out] at this;exact this);clear hsp Yi hn9;refine hK.out _ _ (hHc) (λhHeld=>?_);(try simp only[BF,Bf]);clear hK K;refine EW 8 λK hK=>?_;go_simp;refine hK.out _ _ (hHeld.alloc _) (λhHeld=>?_)
       case' b2=>
        go_simp;refine (wS fB fn fd bs _ Zf.out (AOb.out.Ak ((AZ.refl [] wc).drew) Ej)).mono ?_;rintro ee w9 ⟨g,L,rfl,hsp,Yi,hn9⟩;have Xi:Hid (AZ [] wc w9):=AQ (((AZ.refl [] wc).drew).Ap Yi);have HSP:=AQ hsp;have HN9:Hid (∀k∈L,wc.heap.size<=k):=AQ hn9;have hHc:=hHeld.Ap Yi;have y9:w9.cell? ⟨b,3,AB⟩=AA (.slice fA fl fc):=Xi.out.cell c3 BC;have AGJ:Hid (Bl (w9.alloc (.cells #[.pointer (AA ⟨g,0,AB⟩)] 89)) b 83 #[.slice sA rs.length sc,.slice AB 0 0,.slice AB 0 0,.slice fA fl fc,.slice AB 0 0,.int .i64 BI,.int .i64 stop,.int .i64 0]):=AQ (by have:=jO.out.blk.Ak (Xi.out.alloc (.cells #[.pointer (AA ⟨g,0,AB⟩)] 89)) BC;rw[jM.out] at this;exact this);have y9a:=AGJ.out.cell 3;simp only[GU] at y9a;have AOc:Hid (Own (w9.alloc (.cells #[.pointer (AA ⟨g,0,AB⟩)] 89)) 89 1 fA fl fc (sg.map pv8)):=AQ (by have:=jO.out.J7.Ak (Xi.out.alloc (.cells #[.pointer (AA ⟨g,0,AB⟩)] 89)) Ej;rw[jM.out] at this;exact this);clear hsp Yi hn9;refine hK.out _ _ (hHc) (λhHeld=>?_);(try simp only[BF,Bf]);clear hK K;refine Oo (rs:=[4,8]) Aq AV ?_;refine Gh rfl (λK hK=>?a3) (Gh rfl (λK hK=>?b3) (Oq))
        case' a3=>
         go_simp;refine hK.out _ _ (hHeld) (λhHeld=>?_);(try simp only[BF,Bf]);clear hK K;refine EW 8 λK hK=>?_;go_simp;refine hK.out _ _ (hHeld.alloc _) (λhHeld=>?_)
        case' b3=>
         go_simp;refine hK.out _ _ (hHeld.alloc _) (λhHeld=>?_);(try simp only[BF,Bf]);clear hK K;refine EW 4 λK hK=>?_;go_simp;refine hK.out _ _ (hHeld) (λhHeld=>?_)
       all_goals
        (try simp only[BF,Bf]);clear hK K;refine EW 9 λK hK=>?_;refine JU rfl _ _ rfl ACu rfl AOc.out rfl (Own.lit w9 89 1 #[.pointer (AA ⟨g,0,AB⟩)] 1 Ar rfl).rd (by intro u hu;simp at hu;subst hu;rfl) Qv Ad ?_;intro A3 c3' w10 AGK kY AGL _;have AGM:=AQ (AGJ.out.Ak kY HBF.out);have y10:=AGM.out.cell 3;have f10:=AGM.out.frozen 3;simp at y10;have AOd:=AQ AGK;have AK4:=AQ kY;have AOe:=AQ AGL;have AOf:=hHeld.trans kY (λx hx=>.inl (CO _ hx));clear AGK kY AGL;refine hK.out _ _ (AOf) (λhHeld=>?_);(try simp only[BF,Bf]);clear hK K;refine tk 10 ?_;refine tk 11 ?_;refine EW 12 λK hK=>?_;go_simp;refine hK.out _ _ (hHeld.setCell (.inl AV) _) (λhHeld=>?_);(try simp only[BF,Bf]);clear hK K;refine Ef Aq ?_ _;(try simp only[BF,Bf]);have Yh:Hid (AZ [b] w10 (w10.setCell ⟨b,3,AB⟩ (.slice A3 (fl+1) c3'))):=AQ ((AZ.refl _ _).setCell (.inl AV) _);have ZX:=AQ (AGM.out.FK 3 (.slice A3 (fl+1) c3'));clear y10 f10 y9 y9a c3 f1 hHeld hHc AOf;have hcl:AZ [] wc (w9.alloc (.cells #[.pointer (AA ⟨g,0,AB⟩)] 89)):=Xi.out.alloc _
        have hro:TD (w10.setCell ⟨b,3,AB⟩ (.slice A3 (fl+1) c3')) b sA sc rs A3 c3' (sg++[g]) (Ls++[L]) ((J7 ((BJ ds).take i)++((BD H7).take j).map λx=>(x.2,[]))++[(bs,[])]) BI stop:=by
         refine jO.out.file (w1:=(w9.alloc (.cells #[.pointer (AA ⟨g,0,AB⟩)] 89))) hcl HN9.out (HSP.out.Ak ((AZ.refl [] w9).alloc _) Ej) ((AK4.out.mono (L:=b::bo fA) (λx hx=>.inl (CO _ hx))).trans Yh.out (λx hx=>.inl (by simp at hx;simp[hx]))) ?_ ?_ (λx hx=>by
          rcases AOe.out x hx with h|h;exact .inl h
          exact .inr h.1)
         ·have:=ZX.out;rw[jM.out];simpa using this
         have:=AOd.out.Ak Yh.out (λk hk hm=>AOd.out.GG AGM.out Ar k hk (by simpa using hm));rw[jM.out,Em];exact this
        have hA3: ∀k∈bo A3,k∈bo fA\/wc.heap.size<=k:=λk hk=>by
         rcases AOe.out k hk with h|h;exact .inl h;have:=hcl.size;exact .inr (Ci this h.1)
        have Yi:AZ (b::bo fA) wc (w10.setCell ⟨b,3,AB⟩ (.slice A3 (fl+1) c3')):=((hcl.nil (b::bo fA)).trans AK4.out (λx hx=>.inl (CO _ hx))).trans Yh.out (λx hx=>.inl (by simp at hx;simp[hx]));have ATv:=AQ hro;have HA3:=AQ hA3;have ACx:=AQ Yi;clear hcl hro hA3 Yi jM AOY;go_wp2;go_roundw
        case rel=>
         have ATw:Hid (Bl (w10.setCell ⟨b,3,AB⟩ (.slice A3 (fl+1) c3')) dv 77 #[.string Hu,.slice (AA ad) dn dc]):=AQ (by
          have h1:=(HVB.out.Ak Oc.out BC).Ak HC8.out (λhm=>by
           rcases BB.1 hm with h|h;exact HVB.out.ne_ HOB.out Ar h
           exact HOO.out.GG HVB.out Ar dv h rfl)
          exact h1.Ak ACx.out (λhm=>by
           rcases BB.1 hm with h|h;exact HVB.out.ne_ Nu.out.blk Ar h
           exact Nu.out.J7.GG HVB.out Ar dv h rfl))
         have ATx:Hid (Bl (w10.setCell ⟨b,3,AB⟩ (.slice A3 (fl+1) c3')) ov 86 #[.string Hu,.slice A2 (j+1) c2]):=AQ (AOa.out.Ak ACx.out (λhm=>by
          rcases BB.1 hm with h|h;exact tq.out (by simp[h])
          exact Nu.out.J7.GG HOB.out Ar ov h rfl))
         have HOWN:Hid (Own (w10.setCell ⟨b,3,AB⟩ (.slice A3 (fl+1) c3')) 88 2 A2 (j+1) c2 (Xr (IJ (0+Gm ((BJ ds).take i)) ((BD H7).take (j+1))))):=AQ (AGI.out.Ak ACx.out (λk hk hm=>by
          rcases BB.1 hm with h|h;exact AGI.out.GG jO.out.blk Ar k hk h
          exact AGI.out.own_ne jO.out.J7 Ar k hk h))
         refine⟨j+1,A2,c2,A3,c3',sg++[g],Ls++[L],Ad,by go_num,Ve qE.out Xk.out ARU.out,ATx.out,HOWN.out,?_,ATw.out,λk hk=>⟨?_,λP hP hm=>?_⟩,λx hx=>?_,?_,?_⟩
         ·have:=ATv.out;rw[KC] at this;rw[take_snoc _ _ _ qE.out,Em];exact this
         ·rcases HN8.out k hk with h|h;exact (Yu.out k h).1;have h1:=Tj.out.size;have h2:=Oc.out.size;have h3:=AKz.out;omega
         ·rcases Be.1 hP with hP|hP
          ·rcases HN8.out k hk with h|h;exact (Yu.out k h).2 P hP hm;have h1:=Nu.out.lay.lt P (by simp[hP]) k hm;have h2:=Oc.out.size;omega
          simp only[CG] at hP;subst hP;have h1:=HN9.out k hm;have h2:=AGI.out.lt k hk;omega
         ·have hbig: ∀y,wc.heap.size<=y->w.heap.size<=y/\y≠ov:=λy hy=>by
           have h1:=qp.out.size;have h2:=AOa.out.lt;omega
          rcases CY.1 hx with h|h|h|h|⟨P,hP,h⟩;exact Iz.out x (CY.2 (.inl h));exact Iz.out x (CY.2 (.inr (.inl h)))
          ·rcases HA3.out x h with h|h;exact Iz.out x (CY.2 (.inr (.inr (.inl h))));exact hbig x h
          exact Iz.out x (CY.2 (.inr (.inr (.inr (.inl h)))));rcases Be.1 hP with hP|hP;exact Iz.out x (CY.2 (.inr (.inr (.inr (.inr ⟨P,hP,h⟩)))));simp only[CG] at hP;subst hP;exact hbig x (HN9.out x h)
         ·exact qp.out.trans ACx.out (λx hx=>.inr (by
           rcases BB.1 hx with rfl|hx;exact (Iz.out x (CY.2 (.inl rfl))).1
           exact (Iz.out x (CY.2 (.inr (.inr (.inl hx))))).1))
         have h1:=AKz.out;have h2:=Oc.out.size;have h3:=HC8.out.size;have h4:=ACx.out.size;omega
        simp[intOf];omega
    (obtain rfl:j=dn:=by omega);have ARV:Hid (EN true noS (BD H7)=0):=AQ (by have:=Xk.out;rwa[FH (by simp only[BD,DZ,HML.out];exact Ba _)] at this);have MF:Hid ((BD H7).take j=BD H7):=AQ (FH (by simp only[BD,DZ,HML.out];exact Ba _));have c0:=Nu.out.blk.cell 0;have o0:=HOB.out.cell 0;have o1:=HOB.out.cell 1;simp only[QW,Zu,Vt,HRL.out] at c0 o0 o1
    have AOg:Hid (ov∉b::bo sA):=AQ (λhm=>by
     rcases BB.1 hm with h|h;exact (Iz.out b (CY.2 (.inl rfl))).2 h.symm
     exact (Iz.out ov (CY.2 (.inr (.inl h)))).2 rfl)
    have ATy:Hid (b∉bo sA):=AQ (λhm=>Nu.out.row.GG Nu.out.blk Ar b hm rfl)
    have AOh:Hid (Bl (wr.alloc (.cells #[.string Hu,.slice oA j oc] 86)) b 83 #[.slice sA i sc,.slice AB 0 0,.slice AB 0 0,.slice fA (J7 ((BJ ds).take i)++((BD H7).take j).map λx=>(x.2,([]:List (List Int)))).length fc,.slice AB 0 0,.int .i64 BI,.int .i64 stop,.int .i64 0]):=AQ (by
     have:=Nu.out.blk.alloc (.cells #[.string Hu,.slice oA j oc] 86);rw[HRL.out] at this
     exact this)
    have c0a:=AOh.out.cell 0;simp only[GU] at c0a
    have ATz:Hid (Own (wr.alloc (.cells #[.string Hu,.slice oA j oc] 86)) 86 2 sA i sc (Ko (WL rs))):=AQ (by
     have:=Nu.out.row.Ak ((AZ.refl [] wr).alloc (.cells #[.string Hu,.slice oA j oc] 86)) Ej;rw[HRL.out] at this
     exact this)
    (go_wp2_with fail);clear dv0 dv1;refine Ei (S:=λw'=>AZ (b::bo sA) wr w') Aq ((AZ.refl _ _).drew) (λhHeld=>?_);refine tk 0 ?_;refine tk 1 ?_;refine tk 2 ?_;refine tk 3 ?_;refine AS8 5 (λw' hSw=>⟨hSw.cell o0 AOg.out,hSw.cell o1 AOg.out⟩) ?_;refine Oo (rs:=[4,6]) Aq AV ?_;refine Gh rfl (λK hK=>?a4) (Gh rfl (λK hK=>?b4) (Oq))
    case' a4=>
     go_simp;refine hK.out _ _ (hHeld) (λhHeld=>?_);(try simp only[BF,Bf]);clear hK K;refine EW 6 λK hK=>?_;go_simp;refine hK.out _ _ (hHeld.alloc _) (λhHeld=>?_)
    case' b4=>
     go_simp;refine hK.out _ _ (hHeld.alloc _) (λhHeld=>?_);(try simp only[BF,Bf]);clear hK K;refine EW 4 λK hK=>?_;go_simp;refine hK.out _ _ (hHeld) (λhHeld=>?_)
    all_goals
     (try simp only[BF,Bf]);clear hK K;refine EW 7 λK hK=>?_;refine JU rfl _ _ rfl wU rfl ATz.out rfl (Own.lit wr 86 2 #[.string Hu,.slice oA j oc] 1 Ar rfl).rd (Uu [⟨Hu,oA,j,oc⟩]) Qv Ad ?_;intro A2 c2 w8 qm Vm qo _;have HB8:=AQ (AOh.out.drew.Ak Vm ATy.out);have y8:=HB8.out.cell 0;have f8:=HB8.out.frozen 0;simp at y8;have HO8:=AQ qm;have AGH:=AQ Vm;have HN8:=AQ qo;have hH8:=hHeld.trans Vm (λx hx=>.inl (CO _ hx));clear qm Vm qo;refine hK.out _ _ (hH8) (λhHeld=>?_);(try simp only[BF,Bf]);clear hK K;refine tk 8 ?_;refine tk 9 ?_;refine EW 10 λK hK=>?_;go_simp;refine hK.out _ _ (hHeld.setCell (.inl AV) _) (λhHeld=>?_);(try simp only[BF,Bf]);clear hK K;refine Ef Aq ?_ _;(try simp only[BF,Bf]);have Yh:Hid (AZ [b] w8 (w8.setCell ⟨b,0,AB⟩ (.slice A2 (i+1) c2))):=AQ ((AZ.refl _ _).setCell (.inl AV) _);have ZX:=AQ (HB8.out.FK 0 (.slice A2 (i+1) c2));clear y8 f8 o0 o1 c0 c0a hHeld hH8;go_wp2;go_roundw
     case rel=>
      have hcl:AZ [] wr (wr.alloc (.cells #[.string Hu,.slice oA j oc] 86)).drew:=((AZ.refl _ _).alloc _).drew;have ARW:Lay W4 ([b]::bo sA::Hr rs::[]):=AKy.out.lay.sub (List.Sublist.cons_cons _ (List.Sublist.cons_cons _ (List.Sublist.cons _ (List.Sublist.cons_cons _ (List.nil_sublist _)))));have hsz:W4.heap.size<=wr.heap.size:=AKz.out
      have hA2: ∀x∈bo A2,x∈bo sA\/wr.heap.size<=x:=λx hx=>by
       rcases HN8.out x hx with h|h;exact .inl h;exact .inr (Ci hcl.size h.1)
      have hro:TD (w8.setCell ⟨b,0,AB⟩ (.slice A2 (i+1) c2)) b A2 c2 (rs++[(⟨Hu,oA,j,oc⟩,IJ (0+Gm ((BJ ds).take i)) ((BD H7).take j))]) fA fc sg Ls (J7 ((BJ ds).take i)++((BD H7).take j).map λx=>(x.2,[])) BI stop:=by
       refine (Nu.out.CE hcl).dir (r:=(⟨Hu,oA,j,oc⟩,IJ (0+Gm ((BJ ds).take i)) ((BD H7).take j))) (w0:=W4) ARW (λk hk=>(Yu.out k hk).1) (HOO.out.Ak hcl Ej) (λk hk P hP hm=>?_) ((AGH.out.mono (L:=b::bo sA) (λx hx=>.inl (CO _ hx))).trans Yh.out (λx hx=>.inl (by simp at hx;simp[hx]))) ?_ ?_ (λx hx=>by
        rcases HN8.out x hx with h|h;exact .inl h
        exact .inr h.1)
       ·rcases BB.1 hP with rfl|hP;exact HOO.out.own_ne Nu.out.J7 Ar k hk hm;exact (Yu.out k hk).2 P hP hm
       ·rw[HRL.out];simpa using ZX.out
       have:=HO8.out.Ak Yh.out (λk hk hm=>HO8.out.GG HB8.out Ar k hk (by simpa using hm));rw[qi,Nq,HRL.out];exact this
      rw[MF.out] at hro;obtain⟨rs2,vP⟩: ∃x,x=rs++[((⟨Hu,oA,j,oc⟩:Lc),IJ (0+Gm ((BJ ds).take i)) (BD H7))]:=⟨_,rfl⟩;rw[<- vP] at hro;refine⟨i+1,A2,c2,rs2,fA,fc,sg,Ls,Ad,by go_num,jC Xj.out Y1.out AKx.out ARV.out,?_,?_,λx hx=>?_,?_⟩
      ·rw[take_snoc _ _ _ Xj.out,vw];exact hro
      rw[vP,qh,HRV.out,take_snoc _ _ _ Xj.out,pg]
      ·rcases CY.1 hx with h|h|h|h|⟨P,hP,h⟩;exact (Iz.out x (CY.2 (.inl h))).1
       ·rcases hA2 x h with h|h;exact (Iz.out x (CY.2 (.inr (.inl h)))).1;have:=Tj.out.size;omega
       exact (Iz.out x (CY.2 (.inr (.inr (.inl h))))).1
       ·rw[vP,Na] at h;rcases Be.1 h with h|h;exact (Iz.out x (CY.2 (.inr (.inr (.inr (.inl h)))))).1;have h1:=(Yu.out x h).1;have h2:=wX.out.size;omega
       exact (Iz.out x (CY.2 (.inr (.inr (.inr (.inr ⟨P,hP,h⟩)))))).1
      exact ((Tj.out.Ap hcl).trans AGH.out (λx hx=>.inr (Iz.out x (CY.2 (.inr (.inl hx)))).1)).trans Yh.out (λx hx=>.inr (by
       simp only[CG] at hx;subst hx
       exact (Iz.out x (CY.2 (.inl rfl))).1))
     simp[intOf];omega
 (obtain rfl:i=n:=by omega);have hall:(BJ ds).take i=BJ ds:=FH (by have:=HD.out.row.Ov;simp[Gi] at this;simp[BJ];omega);have HOK:Hid (Dn (BJ ds) BI=0):=AQ (by rw[HE.out,<- hall];exact Y1.out);have qw:Hid (TD wr b sA sc rs fA fc sg Ls (J7 (BJ ds)) BI stop):=AQ (by have:=AOS.out;rwa[hall] at this);have AOi:Hid (Oh rs=GV 0 (BJ ds)):=AQ (by have:=HRV.out;rwa[hall] at this)
 have HRT:Hid (Qj wr sA i sc rs):=AQ (by
  refine⟨?_,λr hr=>(qw.out.Ed r hr).rd⟩;have:=qw.out.row.rd
  rwa[HRL.out] at this)
 have HFB:Hid (∀r∈rs,r.1.n<=1073741824):=AQ (λr hr=>by
  have h1:=(HRT.out.Ed r hr).nml;(have h2:(r.1.nm,r.2)∈GV 0 (BJ ds):=by rw[<- AOi.out];exact Bz.2 ⟨r,hr,rfl⟩);obtain⟨m,d,hd,e⟩:=YN h2;have h3:=(Si hd).1;have h4:r.2=IJ m d.2:=congrArg Prod.snd e;rw[h4,vk] at h1;have h5:=HB.out
  omega)
 have c0:=qw.out.blk.cell 0;have c1:=qw.out.blk.cell 1;have f1:=qw.out.blk.frozen 1;simp only[QW,Zu,Vt,HRL.out] at c0 c1;clear hall;(go_wp2_with fail);refine (AAW sA i sc rs wr HRT.out hn HFB.out).mono ?_;rintro ee w3 ⟨A2,c2,ps,rfl,hrt,hpv,hc3,hn3⟩;have Hz:Hid (AZ [] wr w3):=AQ hc3;have HB3:=AQ (qw.out.blk.Ak Hz.out BC);have HPT:=AQ hrt;have HPV:=AQ hpv;have HN3:Hid (∀k∈bo A2++Hr ps,wr.heap.size<=k/\k<w3.heap.size):=AQ hn3;have y3:=HB3.out.cell 1;have f3:=HB3.out.frozen 1;simp only[GU] at y3;clear hrt hpv hc3 hn3;have Yh:Hid (AZ [b] w3 (w3.setCell ⟨b,1,AB⟩ (.slice A2 i c2))):=AQ ((AZ.refl _ _).setCell (.inl AV) _);have ZX:=AQ (HB3.out.FK 1 (.slice A2 i c2));go_wp2
 go_ret2
 have hdone:=qw.out.done Hz.out (n:=i) HRL.out HPT.out HPV.out HN3.out Yh.out (by simpa[HRL.out] using ZX.out);rw[AOi.out] at hdone;refine .inr ⟨HOK.out,_,?_,hdone,λx hx=>?_,(DY.out.Ap Hz.out).trans Yh.out (λx hx=>.inr ?_)⟩;rfl
 ·simp only[RfG.all,RfG.parts,List.flatten_cons,XW,Dy,Be,KD,CG] at hx;rcases hx with h|h|((h|h)|h)|⟨P,hP,h⟩;exact Oy.out x (CY.2 (.inl h));exact Oy.out x (CY.2 (.inr (.inr (.inl h))));exact Oy.out x (CY.2 (.inr (.inl h)));exact Oy.out x (CY.2 (.inr (.inr (.inr (.inl h)))))
  ·have h1:=(HN3.out x (Be.2 h)).1;have:=DY.out.size;omega
  exact Oy.out x (CY.2 (.inr (.inr (.inr (.inr ⟨P,hP,h⟩)))))
 simp only[CG] at hx;subst hx;exact Oy.out x (CY.2 (.inl rfl))
end
open Go Go.Extern.Stop Go.Stop Go.Extern
section
variable {f:J8}{gs:List J8}{L:List Nat}{b:Nat}{v:AP}{w:AL}
theorem qy:Ety Af 138 140 1 8 (.pointer AB):=.mk' AQV Aq rfl Ar
theorem rC(v:AP)(w:AL):(J9 (.iface 140 v) 39 140 true).run Af w=.ok (.tuple #[v,.bool true]) w:=by kernel_rfl
theorem rD(v:AP)(w:AL):(J9 (.iface 140 v) 39 150 true).run Af w=.ok (.tuple #[.pointer AB,.bool false]) w:=by kernel_rfl
theorem rE(v:AP)(w:AL):(J9 (.iface 150 v) 39 140 true).run Af w=.ok (.tuple #[.pointer AB,.bool false]) w:=by kernel_rfl
theorem rF(v:AP)(w:AL):(J9 (.iface 150 v) 39 150 true).run Af w=.ok (.tuple #[v,.bool true]) w:=by kernel_rfl
theorem wY(v:AP)(w:AL):(J9 (.iface 51 v) 39 140 true).run Af w=.ok (.tuple #[.pointer AB,.bool false]) w:=by kernel_rfl
theorem wZ(v:AP)(w:AL):(J9 (.iface 51 v) 39 150 true).run Af w=.ok (.tuple #[.pointer AB,.bool false]) w:=by kernel_rfl
theorem rG(w:AL):(J9 .nilIface 39 140 true).run Af w=.ok (.tuple #[.pointer AB,.bool false]) w:=by kernel_rfl
theorem rH(w:AL):(J9 .nilIface 39 150 true).run Af w=.ok (.tuple #[.pointer AB,.bool false]) w:=by kernel_rfl
def AE1 (w:AL) (f:J8) (e:Ending) (w':AL):Prop:=∃A c b,e=.returned (.slice A 1 c)/\Rd w' 1 A 1 c [.pointer (AA ⟨b,0,AB⟩)]/\AZ [] w w'/\Bl w' b 142 #[.string f.op,.int .i64 f.pl,.iface 51 (.int .i64 f.cd)]
theorem AE2(h:Qr w b v f):A7 Af 67 #[v] w (AE1 w f):=by
 obtain⟨rfl,hb,_⟩:=h;have HB:=AQ hb;clear hb;have t1:=rC;have t2:=rD;have t3:=rE;have t4:=rF;have t5:=wY;have t6:=wZ;have t7:=rG;have t8:=rH;go_enter AJL,Tryz.ntmps67;go_wp2;refine wp_loop_rounds 2 ?_;rw[UF];(go_wp2_with (at_builtin;refine Gz rfl _ _ rfl qy rfl (Own.nil _ _ _) rfl (Own.jI _ 140 1 #[.pointer (AA ⟨b,0,AB⟩)] 1 _ _ rfl rfl Ar rfl).rd (by simp[UD]) Qv Ad ?_;intro A1 c1 w1 hown EU hnew _;have hc1:AZ [] w w1:=((AZ.refl [] w).alloc _).trans EU AV;have hb1:=HB.out.Ak hc1 AV;have hk2:=hb1.cell 2;simp only[GU] at hk2));rw[UF];go_wp2;go_ret;exact⟨_,_,_,rfl,hown.rd,hc1,hb1⟩
theorem AHh{c d:Nat}{x y:AP}{g:J8}(h0:Bl w b 152 #[x,y])(hx:Qr w c x f)(hy:Qr w d y g)(hg:NZ w):A7 Af 67 #[.iface 150 (.pointer (AA ⟨b,0,AB⟩))] w (AE1 w f):=by
 have hn:=ACp (v:=x) (L:=[c]) (gs:=[]) hx hg;obtain⟨rfl,hb,_⟩:=hx;have HN:=AQ hn;have HB:=AQ hb;have HB0:=AQ h0;have z0:=h0.cell 0;simp only[GU] at z0;have AUy:= @AQE;clear hn hb hy hg h0;have t1:=rC;have t2:=rD;have t3:=rE;have t4:=rF;have t5:=wY;have t6:=wZ;have t7:=rG;have t8:=rH;go_enter AJL,Tryz.ntmps67;go_wp2;refine wp_loop_rounds 3 ?_;rw[UF];(go_wp2_with fail);refine HN.out.mono ?_;rintro e wz ⟨rfl,hcz⟩;have HCZ:=AQ hcz;clear hcz;go_wp2;rw[UF];(go_wp2_with (at_builtin;refine Gz rfl _ _ rfl qy rfl (Own.nil _ _ _) rfl (Own.jI _ 140 1 #[.pointer (AA ⟨c,0,AB⟩)] 1 _ _ rfl rfl Ar rfl).rd (by simp[UD]) Qv Ad ?_;intro A1 c1 w1 hown EU hnew _;have hc1:AZ [] w w1:=(HCZ.out.alloc _).trans EU AV;have hb1:=HB.out.Ak hc1 AV;have hk2:=hb1.cell 2;simp only[GU] at hk2));rw[UF];go_wp2;go_ret;exact⟨_,_,_,rfl,hown.rd,hc1,hb1⟩
theorem AK5(h:JW w v L (f::gs))(hg:NZ w):A7 Af 67 #[v] w (AE1 w f):=by
 unfold JW at h;split at h
 ·rename_i h0;cases h0
 ·rename_i h0;cases h0;exact AE2 h
 ·rename_i h0;(cases h0);obtain⟨x,y,rfl,hb,hx,hy⟩:=h;exact AHh hb hx hy hg
 exact h.elim
theorem AE3(h:JW w v L (f::gs))(hg:NZ w):A7 Af 28 #[v] w λe w'=>e=.returned (.int .i64 f.pl)/\AZ [] w w':=by
 have HW:=AQ (AK5 h hg);have q67:= @ASh;clear h hg;go_enter AMk,Tryz.ntmps28;(go_wp2_with fail);refine HW.out.mono ?_;rintro e w1 ⟨A,c,b,rfl,hrd,hc,hb⟩;obtain⟨ad,u,rfl,hu,hcell⟩:=hrd.fC (k:=0) Ar;simp at hu;subst hu;(have hcell0:w1.cell? ad=AA (.pointer (AA ⟨b,0,AB⟩)):=by simpa[Addr.add] using hcell);have k1:=hb.cell 1;simp only[GU] at k1;clear hrd hb hcell;go_wp2;go_ret;exact⟨rfl,hc⟩
end
section
variable {e:Ending}{D:GH}{q s:Int}{w w':AL}
theorem AAH.one(h:AAH w D q s e w'): ∃vp,e=.returned (.tuple #[vp,.int .i64 (Dn D q)])/\AZ [] w w'/\
  ((Dn D q≠0/\vp=.pointer AB)\/(Dn D q=0/\∃G,vp=.pointer (AA ⟨G.b,0,AB⟩)/\EI w' G (Ea D q s)/\∀x∈G.all,w.heap.size<=x)):=by
 rcases h with ⟨h1,rfl,h2⟩|⟨h1,G,rfl,h2,h3,h4⟩;exact⟨_,rfl,h2,.inl ⟨h1,rfl⟩⟩;exact⟨_,by rw[h1],h4,.inr ⟨h1,G,rfl,h2,h3⟩⟩
theorem AEy.one(h:AEy w D q s e w'): ∃vp,e=.returned (.tuple #[vp,.int .i64 (Dn D q)])/\AZ [] w w':=by
 rcases h with ⟨h1,rfl,h2⟩|⟨h1,R,rfl,h2,h3,h4⟩;exact⟨_,rfl,h2⟩;exact⟨_,by rw[h1],h4⟩
def AOj (w:AL) (D:GH) (BI stop:Int) (e:Ending) (w':AL):Prop:=
 (Dn D BI≠0/\e=.returned (.tuple #[.pointer AB,.bool false])/\AZ [] w w')\/
 (Dn D BI=0/\∃G,e=.returned (.tuple #[.pointer (AA ⟨G.b,0,AB⟩),.bool true])/\EI w' G (Ea D BI stop)/\(∀x∈G.all,w.heap.size<=x)/\AZ [] w w')
theorem AE4(w:AL)(A:Option Ag)(n c:Nat)(ds:List DM)(BI stop:Int)(h:Ib w A n c ds)(hn:n<=1073741824)(hb:Eb (BJ ds)<=1073741824)
  (hfn: ∀x∈ds,x.1.n<=1073741824/\∀f∈x.2,f.1.n<=1073741824):
  A7 Af 13 #[.agg #[.slice A n c,.int .i64 BI],.int .i64 stop] w (AOj w (BJ ds) BI stop):=by
 obtain⟨W,hW⟩: ∃W,w.alloc (.cells #[.slice A n c,.int .i64 BI] 24)=W:=⟨_,rfl⟩;obtain⟨sb,hsb⟩: ∃sb,w.heap.size=sb:=⟨_,rfl⟩;(have hcW:AZ [] w W:=by rw[<- hW];exact (AZ.refl [] w).alloc _);(have hbk:Bl W sb 24 #[.slice A n c,.int .i64 BI]:=by rw[<- hW,<- hsb];exact Bl.new w _ _);have b0:=hbk.cell 0;have b1:=hbk.cell 1;simp only[GU] at b0 b1;(have hl:ds.length=n:=by have:=h.row.Ov;simpa[Gi] using this);have HR:=AQ (AE0 W A n c ds BI stop (h.Ho hcW) hn hb);have HD:=AQ h;have HBK:=AQ hbk;have HC:=AQ hcW;have Zf:=AQ hfn;have HB:=AQ hb;have HL:=AQ hl;have q9:= @VC9;have q35:= @ASN;have oG:= @AJd;clear h hb hfn hcW hbk hl;go_enter AMb,Tryz.ntmps13;(go_wp2_with fail);refine HR.out.mono ?_;rintro e wz hrf;obtain⟨vp,rfl,hcz⟩:=hrf.one;have WV:=AQ (HC.out.Ap hcz);have H0:Hid (∀w',AZ [] wz w'->w'.cell? ⟨sb,0,AB⟩=AA (.slice A n c)):=AQ λw' hc=>((HBK.out.Ak hcz AV).Ak hc AV).cell 0;have H1:Hid (∀w',AZ [] wz w'->w'.cell? ⟨sb,1,AB⟩=AA (.int .i64 BI)):=AQ λw' hc=>((HBK.out.Ak hcz AV).Ak hc AV).cell 1;clear hrf hcz HR;by_cases he:Dn (BJ ds) BI=0
 ·have HE0:=AQ he;rw[he];have ACy:Hid (∀w',AZ [] wz w'->A7 Af 35 #[.slice A n c] w' (bF w' (BJ ds))):=AQ λw' hc=>ACq A n c ds w' (HD.out.Ho (WV.out.Ap hc)) hn Zf.out
  have AGN:Hid (∀w' A1 n1 c1 ds1,Ib w' A1 n1 c1 ds1->BJ ds1=BJ ds->A7 Af 17 #[.slice A1 n1 c1,.int .i64 BI,.int .i64 stop] w' (AAH w' (BJ ds) BI stop)):=AQ λw' A1 n1 c1 ds1 hd hv=>by
   (have hl1:ds1.length=n:=by have:=congrArg KX hv;simpa[BJ,HL.out] using this);(have hl2:ds1.length=n1:=by have:=hd.row.Ov;simpa[Gi] using this);have:=qB w' A1 n1 c1 ds1 BI stop hd Ad (by rw[hv];exact HB.out);rwa[hv] at this
  clear he;(go_wp2_with fail);refine Ei (S:=λw'=>AZ [] wz w') Aq ((AZ.refl _ _).drew) (λhHeld=>?_);refine tk 0 ?_;refine GI 1 (λw' hSw=>H0.out _ hSw) ?_;refine tk 3 ?_;refine GI 4 (λw' hSw=>H1.out _ hSw) ?_;refine tk 5 ?_;refine EW 2 λK hK=>?_;go_simp;refine (ACy.out _ hHeld).mono ?_;rintro e w1 ⟨A1,n1,c1,ds1,rfl,hO1,hv1,hc1,hn1⟩;have AK6:=AQ (AZ.Ap hHeld hc1);have HV1:=AQ hv1;have HO1:=AQ hO1;clear hO1 hv1 hc1 hn1;go_simp;refine hK.out _ _ (AK6.out) (λhHeld=>?_);(try simp only[BF,Bf]);clear hK K;refine EW 6 λK hK=>?_;go_simp;refine (AGN.out _ A1 n1 c1 ds1 HO1.out.rd HV1.out).mono ?_;rintro e w2 hfs;obtain⟨vp,rfl,hc2,hres⟩:=hfs.one;have qV:=AQ (AK6.out.Ap hc2);have HC2:=AQ hc2;have AT0:=AQ hres;clear hfs hc2 hres;go_simp;refine hK.out _ _ (qV.out) (λhHeld=>?_);(try simp only[BF,Bf]);clear hK K;refine tk 7 ?_;refine tk 8 ?_;refine tk 9 ?_;refine tk 10 ?_;refine tk 11 ?_;refine Ef Aq ?_ _;(try simp only[BF,Bf]);rcases AT0.out with ⟨h1,h2⟩|⟨h1,G,rfl,h2,h3⟩;exact Ai HE0.out h1;rw[HE0.out];go_wp2
  go_ret2
  exact .inr ⟨HE0.out,G,rfl,h2,λx hx=>Ci (Ci WV.out.size AK6.out.size) (h3 x hx),WV.out.Ap qV.out⟩
 (have he1:(Dn (BJ ds) BI==0)=false:=by simp[he]);have HE:=AQ he;clear he;go_wp2
 go_ret2
 exact .inl ⟨HE.out,rfl,WV.out⟩
end
section
variable {t:JF}{ts:List JF}{S:St}
theorem Inv.F7{B:Nat}{S:St}(h:Inv B S)(dst:ByteArray)(fs:List (ByteArray×List Int)):Inv (4*B+2*Vh fs+100) (S.F7 dst fs).1:=by
 have h1:=h.clean;have h2:=h1.runT (EP dst fs);rw[dD] at h2;have h3:=h2.clean;unfold St.F7;split;exact h.mono Ad;split;exact h1.mono Ad;split;exact h2.mono Ad;exact h3.mono Ad
theorem Zo{n:ByteArray}{xs:List Int}(h0:xs≠[])(h:xs.length<=512):S.act (.write n xs)=S.write BO n xs:=by
 show S.puts n (Vg xs)=_;unfold Vg;rw[AEo 511 xs h0 h];unfold St.puts;split
 ·rename_i h1;exact KI rfl h1.symm
 rfl
theorem AHi(S:St):S.runT []=(S,[]):=rfl
theorem FX(h:(S.act t.d).2=0):S.runT (t::ts)=(S.act t.d).1.runT ts:=by
 show (if (S.act t.d).2=0 then _ else _)=_;rw[BZ h]
theorem MZ{c:Int}(h:(S.act t.d).2=c)(hc:c≠0):S.runT (t::ts)=((S.act t.d).1,[⟨t.op,t.pl,c⟩]):=by
 show (if (S.act t.d).2=0 then _ else _)=_;rw[BM (by rw[h];exact hc),h]
abbrev nA:ByteArray:={data:=#[97]}
abbrev nB:ByteArray:={data:=#[98]}
abbrev nD:ByteArray:={data:=#[100]}
def s0:St:=Ea [] 3 (-1)
def s1:St:=(s0.CX BO).1
def s2:St:=(s1.create BO nA).1
def s3:St:=(s2.write BO nA [1,2]).1
def s4:St:=(s3.sync BO nA).1
def s5:St:=(s4.create BO nB).1
def s6:St:=(s5.write BO nB [3,4]).1
def s7:St:=s6.clean.1
def t1:St:=(s7.CX BO).1
def t2:St:=(t1.create BO nA).1
def t3:St:=(t2.write BO nA [1,2]).1
def t4:St:=(t3.sync BO nA).1
def t5:St:=t4.names.1
def t6:St:=(t5.rename BO nD).1
def t7:St:=t6.names.1
theorem e0:Dn [] 3=0:=by kernel_rfl
theorem c0:s0.clean=(s0,0):=by kernel_rfl
theorem c1:(s0.CX BO).2=0:=by kernel_rfl
theorem c2:(s1.create BO nA).2=0:=by kernel_rfl
theorem c3:(s2.write BO nA [1,2]).2=0:=by kernel_rfl
theorem c4:(s3.sync BO nA).2=0:=by kernel_rfl
theorem c5:(s4.create BO nB).2=0:=by kernel_rfl
theorem c6:(s5.write BO nB [3,4]).2=85:=by kernel_rfl
theorem c7:s6.clean.2=0:=by kernel_rfl
theorem c8:s7.clean=(s7,0):=by kernel_rfl
theorem d1:(s7.CX BO).2=0:=by kernel_rfl
theorem d2:(t1.create BO nA).2=0:=by kernel_rfl
theorem d3:(t2.write BO nA [1,2]).2=0:=by kernel_rfl
theorem d4:(t3.sync BO nA).2=0:=by kernel_rfl
theorem d5:t4.names.2=0:=by kernel_rfl
theorem d6:(t5.rename BO nD).2=0:=by kernel_rfl
theorem d7:t6.names.2=0:=by kernel_rfl
theorem d8:t7.clean=(t7,0):=by kernel_rfl
theorem v7:s7.view=[]:=by kernel_rfl
theorem w7:t7.view=[(nD,[(nA,[1,2])])]:=by kernel_rfl
theorem gD:CS nD=true:=by kernel_rfl
theorem nDs:nD≠BO:=by decide+kernel
theorem AOl:s0.F7 nD [(nA,[1,2]),(nB,[3,4])]=(s7,[⟨{data:=#[119,114,105,116,101]},1,85⟩]):=by
 have hr:s0.runT (EP nD [(nA,[1,2]),(nB,[3,4])])=(s6,[⟨{data:=#[119,114,105,116,101]},1,85⟩]):=by
  unfold EP gI;simp only[Gv,gG,Dj,Dy,LM];have k1:s0.act .CX=(s1,0):=KI rfl c1;have k2:s1.act (.create nA)=(s2,0):=KI rfl c2;(have k3:s2.act (.write nA [1,2])=(s3,0):=by rw[Zo AV Ar];exact KI rfl c3);have k4:s3.act (.sync nA)=(s4,0):=KI rfl c4;have k5:s4.act (.create nB)=(s5,0):=KI rfl c5;(have k6:s5.act (.write nB [3,4])=(s6,85):=by rw[Zo AV Ar];exact KI rfl c6);rw[FX (by rw[k1]),k1,FX (by rw[k2]),k2,FX (by rw[k3]),k3,FX (by rw[k4]),k4,FX (by rw[k5]),k5,MZ (by rw[k6]) Ar,k6];rfl
 unfold St.F7;rw[BM (by rw[gD];simp[nDs]),c0];simp only[ne_eq,not_true,if_false];rw[hr,BM AV];show (s7,_++Jm s6.clean.2)=_;rw[c7];rfl
theorem AOm:s7.F7 nD [(nA,[1,2])]=(t7,[]):=by
 have hr:s7.runT (EP nD [(nA,[1,2])])=(t7,[]):=by
  unfold EP gI Oe;simp only[Gv,gG,Dj,Dy,LM];have k1:s7.act .CX=(t1,0):=KI rfl d1;have k2:t1.act (.create nA)=(t2,0):=KI rfl d2;(have k3:t2.act (.write nA [1,2])=(t3,0):=by rw[Zo AV Ar];exact KI rfl d3);have k4:t3.act (.sync nA)=(t4,0):=KI rfl d4;have k5:t4.act .names=(t5,0):=KI rfl d5;have k6:t5.act (.rename nD)=(t6,0):=KI rfl d6;have k7:t6.act .names=(t7,0):=KI rfl d7;rw[FX (by rw[k1]),k1,FX (by rw[k2]),k2,FX (by rw[k3]),k3,FX (by rw[k4]),k4,FX (by rw[k5]),k5,FX (by rw[k6]),k6,FX (by rw[k7]),k7,AHi]
 unfold St.F7;rw[BM (by rw[gD];simp[nDs]),c8];simp only[ne_eq,not_true,if_false];rw[hr,BZ rfl]
end
theorem FO.take{w:AL}{A:Option Ag}{n c:Nat}{fs:List FM}(h:FO w A n c fs){k:Nat}(hk:k<=n):FO w A k c (fs.take k):=by
 refine⟨?_,λf hf=>h.dat f (AFM hf)⟩;have:=h.row.take hk
 have e:(Ko (F5 fs)).take (k*2)=Ko (F5 (fs.take k)):=by
  unfold Ko F5
  have: ∀(l:List FM) (k:Nat),((l.map (·.1)).flatMap Lc.cells).take (k*2)=((l.take k).map (·.1)).flatMap Lc.cells:=by
   intro l
   induction l with
   |nil=>intro k;simp
   |cons x r ih=>
    intro k
    cases k with
    |zero=>simp|succ k=>
     rw[BK,U7,show (k+1)*2=k*2+2 by omega];rw[List.take_succ_cons,BK,U7,<- ih k];rfl
  exact this fs k
 rw[e] at this;exact this
theorem AE5(w:AL): ∃W,((w.alloc (.cells #[.int .u8 1,.int .u8 2] 5)).alloc (.cells #[.int .u8 3,.int .u8 4] 5)).alloc (.cells #[.string nA,.slice (AA ⟨w.heap.size,0,AB⟩) 2 2,.string nB,.slice (AA ⟨w.heap.size+1,0,AB⟩) 2 2] 64)=W/\AZ [] w W/\W.heap.size=w.heap.size+3/\
  FO W (AA ⟨w.heap.size+2,0,AB⟩) 2 2 [(⟨nA,AA ⟨w.heap.size,0,AB⟩,2,2⟩,[1,2]),(⟨nB,AA ⟨w.heap.size+1,0,AB⟩,2,2⟩,[3,4])]/\
  ∀x∈bo (AA ⟨w.heap.size+2,0,AB⟩)++Gj [(⟨nA,AA ⟨w.heap.size,0,AB⟩,2,2⟩,[1,2]),(⟨nB,AA ⟨w.heap.size+1,0,AB⟩,2,2⟩,[3,4])],w.heap.size<=x/\x<W.heap.size:=by
 (have hs:(((w.alloc (.cells #[.int .u8 1,.int .u8 2] 5)).alloc (.cells #[.int .u8 3,.int .u8 4] 5)).alloc (.cells #[.string nA,.slice (AA ⟨w.heap.size,0,AB⟩) 2 2,.string nB,.slice (AA ⟨w.heap.size+1,0,AB⟩) 2 2] 64)).heap.size=w.heap.size+3:=by simp);refine⟨_,rfl,(((AZ.refl [] w).alloc _).alloc _).alloc _,hs,⟨?_,?_⟩,λx hx=>?_⟩
 ·have:=Own.jI ((w.alloc (.cells #[.int .u8 1,.int .u8 2] 5)).alloc (.cells #[.int .u8 3,.int .u8 4] 5)) 64 2 #[.string nA,.slice (AA ⟨w.heap.size,0,AB⟩) 2 2,.string nB,.slice (AA ⟨w.heap.size+1,0,AB⟩) 2 2] 2 (w.heap.size+2) _ AV rfl Ar rfl;exact this.rd
 ·intro f hf;simp only[BB,BC,or_false] at hf;rcases hf with rfl|rfl
  ·have:=Own.jI w 5 1 #[.int .u8 1,.int .u8 2] 2 w.heap.size _ rfl rfl Ar rfl;exact (this.Ak (((AZ.refl [] _).alloc _).alloc _) AV).rd
  have:=Own.jI (w.alloc (.cells #[.int .u8 1,.int .u8 2] 5)) 5 1 #[.int .u8 3,.int .u8 4] 2 (w.heap.size+1) _ AV rfl Ar rfl;exact (this.Ak ((AZ.refl [] _).alloc _) AV).rd
 rw[hs];simp[bo,Gj] at hx;omega
theorem i7:Inv 148 s7:=by
 have:=(Jy (D:=[]) (BI:=3) (stop:= -1) e0 Ar).F7 nD [(nA,[1,2]),(nB,[3,4])];change Inv 148 (s0.F7 nD [(nA,[1,2]),(nB,[3,4])]).1 at this;rw[AOl] at this;exact this
theorem i8:Inv 716 t7:=by
 have:=i7.F7 nD [(nA,[1,2])];rw[AOm] at this;exact this
theorem ACz(w:AL)(hg:NZ w):A7 Af 8 #[] w λe w'=>e=.returned (.bool true)/\AZ [] w w':=by
 have HG:=AQ hg;have oG:= @AJd;have tV:= @ANV;have q18:= @ANX;have q28:= @ASJ;have q20:= @ANZ;have q21:= @AJe;clear hg;go_enter VF8,Tryz.ntmps8;(go_wp2_with fail);have hd0:Ib w AB 0 0 []:=⟨Rd.nil w 2,λd hd=>by cases hd⟩;refine (qB w AB 0 0 [] 3 (-1) hd0 Ar Ar).mono ?_;rintro e w1 hfs;obtain⟨vp,rfl,hc1,hres⟩:=hfs.one;have e0':Dn (BJ []) 3=0:=e0;rw[e0'];rcases hres with ⟨h,_⟩|⟨_,G,rfl,hF,hN⟩
 ·exact Ai e0' h
 have HF:=AQ hF;have HN:=AQ hN;have DI:=AQ hc1;obtain⟨W,hW,hcW,hzW,hfW,hlW⟩:=AE5 w1;have HFW:=AQ hfW;have QT:=AQ hcW;have HZW:=AQ hzW;clear hF hN hc1 hfs hd0 e0' hcW hzW hfW;unfold nA nB at hW;(go_wp2_with fail);have HLW:=AQ hlW;clear hlW;have hlt:=HF.out.lt;refine (Xo (HF.out.CE QT.out) (Jy (D:=BJ []) (BI:=3) (stop:= -1) e0 Ar) HFW.out (λx hx hm=>by have:=(HLW.out x hx).1;have:=hlt x hm;omega) (λx hx=>(HLW.out x hx).2) AV (show (4*0+2*24+100:Nat)<=1073741824 by decide)).mono ?_;intro e w2 he2;change Sj W G (s0.F7 nD [(nA,[1,2]),(nB,[3,4])]).1 (s0.F7 nD [(nA,[1,2]),(nB,[3,4])]).2 e w2 at he2;rw[AOl] at he2;obtain⟨v,G2,L,rfl,hev,hf2,hb2,AE6,hc2,hL2⟩:=he2;have hN:=HN.out;have hG0: ∀x∈G.all,w.heap.size<=x:=hN;have h0:(0:Nat)<w.heap.size:=World.block_lt_of_cell? _ _ HG.out;(have hne0: ∀x∈G.all,x≠0:=λx hx=>by have:=hG0 x hx;omega);have HC2:Hid (AZ G.all w1 w2):=AQ ((QT.out.nil _).trans hc2 λx hx=>.inl hx);have HG2:Hid (NZ w2):=AQ (HC2.out.cell (DI.out.cell HG.out AV) (λhm=>hne0 _ hm rfl));have HEV:=AQ hev;have HF2:=AQ hf2;have HB2:=AQ hb2
 have HA2:Hid (∀x∈G2.all,w.heap.size<=x):=AQ λx hx=>by
  rcases AE6 x hx with h|h;exact hG0 x h;have:=QT.out.size;have:=DI.out.size;omega
 have HD2:Hid (∀x∈bo (AA ⟨w1.heap.size+2,0,AB⟩)++Gj [(⟨nA,AA ⟨w1.heap.size,0,AB⟩,2,2⟩,[1,2]),(⟨nB,AA ⟨w1.heap.size+1,0,AB⟩,2,2⟩,[3,4])],x∉G.all/\x∉G2.all):=AQ λx hx=>by
  have h1:=HLW.out x hx;(have h2:x∉G.all:=λhm=>by have:=hlt x hm;omega);refine⟨h2,λhm=>?_⟩;rcases AE6 x hm with h|h;exact h2 h;omega
 have HFS:Hid (FO w2 (AA ⟨w1.heap.size+2,0,AB⟩) 2 2 [(⟨nA,AA ⟨w1.heap.size,0,AB⟩,2,2⟩,[1,2]),(⟨nB,AA ⟨w1.heap.size+1,0,AB⟩,2,2⟩,[3,4])]):=AQ (HFW.out.Ak hc2 λx hx=>(HD2.out x hx).1);have HL2:Hid (W.heap.size<=w2.heap.size):=AQ hc2.size;clear hN hG0 h0 hne0 hev hf2 hb2 AE6 hc2 hL2 hlt;clear hW;(go_wp2_with fail);refine (wQ HEV.out HG2.out).mono ?_;rintro e w3 ⟨rfl,hc3⟩;have Hz:=AQ hc3;clear hc3;(go_wp2_with fail);refine (AE3 (HEV.out.Ak Hz.out AV) (Hz.out.cell HG2.out AV)).mono ?_;rintro e w4 ⟨rfl,hc4⟩;have NV:=AQ (Hz.out.Ap hc4);clear hc4;(go_wp2_with fail);have TB:=AQ (HF2.out.CE NV.out);have hv:=bU TB.out i7 Ar;rw[HB2.out,v7] at hv;refine hv.mono ?_;clear hv;rintro e w5 ⟨A5,n5,c5,ds5,rfl,hd5,hv5,hc5,_⟩
 have hn5:n5=0:=by
  have h1:=hd5.rd.row.Ov;(have h2:ds5=[]:=by simpa[BJ] using hv5);subst h2;simpa[Gi] using h1.symm
 subst hn5;have RJ:=AQ (NV.out.Ap hc5);have HF5:=AQ (TB.out.CE hc5);clear hd5 hv5 hc5;go_wp2_with fail
 have hp:=Xo HF5.out i7 (dst:=nD) ((HFS.out.Ho RJ.out).take (k:=1) Ar) (λx hx=>(HD2.out x (by simp[bo,Gj] at hx⊢;omega)).2) (λx hx=>by
  have h1:=(HLW.out x (by simp[bo,Gj] at hx⊢;omega)).2;have h2:=HL2.out;have h3:=RJ.out.size
  omega) AV (show (4*148+2*12+100:Nat)<=1073741824 by decide)
 rw[HB2.out] at hp;refine hp.mono ?_;clear hp;intro e w6 he6;change Sj w5 G2 (s7.F7 nD [(nA,[1,2])]).1 (s7.F7 nD [(nA,[1,2])]).2 e w6 at he6;rw[AOm] at he6;obtain⟨v6,G6,L6,rfl,hev6,hf6,hb6,AK7,hc6,hL6⟩:=he6;change JW w6 v6 L6 [] at hev6;have hv6:v6=.nilIface:=hev6.nil_;subst hv6;have HF6:=AQ hf6;have TC:Hid (G6.b=G.b):=AQ (hb6.trans HB2.out);have JE:Hid (AZ [] w w6):=AQ (((DI.out.trans HC2.out λx hx=>.inr (HN.out x hx)).Ap RJ.out).trans hc6 λx hx=>.inr (HA2.out x hx));clear hev6 hf6 hb6 hc6 hL6;(go_wp2_with fail);have hv:=bU HF6.out i8 Ar;rw[TC.out,w7] at hv;refine hv.mono ?_;clear hv;rintro e w8 ⟨A8,n8,c8,ds8,rfl,hd8,hv8,hc8,_⟩;have HC8:=AQ (JE.out.Ap hc8);have HF8:=AQ (HF6.out.CE hc8);clear hc8
 obtain⟨d,rfl,hdn⟩: ∃d,ds8=[d]/\(d.1.nm,BD d.2)=(nD,[(nA,[1,2])]):=by
  unfold BJ at hv8;obtain⟨d,hd,h1⟩:=AFN.1 hv8;exact⟨d,hd,h1⟩
 obtain⟨hnm,hfv⟩:=Nw .. ▸hdn;obtain⟨f,hfl,hfe⟩:=AFN.1 hfv
 have hn8:n8=1:=by
  have h1:=hd8.rd.row.Ov;simpa[Gi] using h1.symm
 subst hn8;obtain⟨ad,rfl,hat⟩:=hd8.rd.row.ns (j:=0) (x:=d.1) rfl;have x0:=hat.c0;have x1:=hat.c1;rw[hnm] at x0
 have hn9:d.1.n=1:=by
  have h1:=(hd8.rd.Ed d AV).row.Ov;rw[hfl] at h1;simpa[F5] using h1.symm
 rw[hn9] at x1;obtain⟨dA,hdA⟩: ∃dA,d.1.A=dA:=⟨_,rfl⟩;obtain⟨dc,hdc⟩: ∃dc,d.1.c=dc:=⟨_,rfl⟩;rw[hdA,hdc] at x1;have hz:ad.add (0*2)=ad:=rfl;rw[hz] at x0 x1;clear hd8 hat hfl hfe hnm hdn hv8 hfv hn9 hdA hdc;unfold nD at x0;(go_wp2_with fail);have hcl:=fZ HF8.out i8 Ar;rw[TC.out,d8] at hcl;refine hcl.mono ?_;clear hcl;intro e w9 he9;obtain⟨v9,G9,L9,rfl,AK8,hf9,hb9,ARX,Yi,hL9⟩:=he9;change JW w9 v9 L9 [] at AK8;have hv9:v9=.nilIface:=AK8.nil_;subst hv9
 have Xi:Hid (AZ [] w w9):=AQ (HC8.out.trans Yi λx hx=>by
  rcases AK7 x hx with h|h;exact .inr (HA2.out x h);have:=(DI.out.trans HC2.out λx hx=>.inr (HN.out x hx)).size;have:=RJ.out.size
  exact .inr Ad)
 clear AK8 hf9 hb9 ARX Yi hL9 AK7;go_wp2;go_ret;exact⟨rfl,Xi.out⟩
end Go.Proofs.YtkkgcebhfghdnaaGreatDoor.Vw
