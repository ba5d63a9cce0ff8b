/- Part 23 of what that rests on; no condition. -/
import Derived.Test.YtkkgcebhfghdnaaGreatDoorJo
import Derived.Test.YtkkgcebhfghdnaaGreatDoorJv
import Derived.Conc.LeavingOf
import Derived.Lib.SmallJoins
import Derived.SevenTold
import Derived.Stop.Joined
set_option maxRecDepth 100000
set_option maxHeartbeats 8000000
open Go.ByteArray renaming toList_eq→Yg
open Go renaming wp_region_held_drew→Ei, MemPlace→GN, TypeId→Aj, Value→AP, World→AL, Calls→A7, DataW→Dl, Addr→Ag
open List renaming take_succ_cons→lJ, flatten_cons→JK, length_cons→ES, length_nil→Ha, headD_cons→RS, take_zero→dL, sum_cons→Bo, range→FZ
open Option renaming getD_some→Dt, none→AB, some→AA
open Go.World renaming cell?→PU
open Go.Value renaming cells→Nc
open Go.Act renaming put→BF
namespace Go.Proofs.YtkkgcebhfghdnaaGreatDoor.Vw
open Go.RowKit
theorem Lay.ins{w w':AL}{Ps Qs:List (List Nat)}{P:List Nat}(h:Lay w (Ps++Qs))(hn: ∀x∈P,w.heap.size<=x)(hl: ∀x∈P,x<w'.heap.size)(hs:w.heap.size<=w'.heap.size):Lay w' (Ps++P::Qs):=by
 have hsep:=h.sep;unfold Sep at hsep;rw[Z5] at hsep;obtain⟨s1,s2,s3⟩:=hsep;refine⟨?_,λQ hQ x hx=>?_⟩
 ·unfold Sep;rw[Z5];refine⟨s1,LK.2 ⟨λQ hQ x hx hq=>?_,s2⟩,λA hA B hB x hx hb=>?_⟩
  ·have h1:=hn x hx;have h2:=h.lt Q (Gx _ hQ) x hq;omega
  rcases BB.1 hB with rfl|hB
  ·have h1:=hn x hb;have h2:=h.lt A (Fh _ hA) x hx;omega
  exact s3 A hA B hB x hx hb
 rcases Be.1 hQ with hQ|hQ;exact ER (h.lt Q (Fh _ hQ) x hx) hs;rcases BB.1 hQ with rfl|hQ;exact hl x hx;exact ER (h.lt Q (Gx _ hQ) x hx) hs
theorem Si{D:GH}{d:ByteArray×List (ByteArray×List Int)}(h:d∈D):d.2.length<=Eb D/\∀x∈d.2,x.2.length<=Eb D:=by
 unfold Eb
 induction D with
 |nil=>simp at h|cons y r ih=>
  simp only[BK,Bo];rcases BB.1 h with rfl|h
  ·have h1:d.2.length<=(d.2.map λx=>x.2.length+1).sum/\∀x∈d.2,x.2.length<=(d.2.map λx=>x.2.length+1).sum:=by
    generalize d.2=l
    induction l with
    |nil=>simp|cons z l ih2=>
     simp only[ES,BK,Bo,BB];refine⟨Ad,λx hx=>?_⟩;rcases hx with rfl|hx;omega;have:=ih2.2 x hx;omega
   exact⟨Ad,λx hx=>by have:=h1.2 x hx;omega⟩
  have h1:=ih h;exact⟨Ad,λx hx=>by have:=h1.2 x hx;omega⟩
def AAH (w:AL) (D:GH) (BI stop:Int) (e:Ending) (w':AL):Prop:=
 (Dn D BI≠0/\e=.returned (.tuple #[.pointer AB,.int .i64 (Dn D BI)])/\AZ [] w w')\/
 (Dn D BI=0/\∃G,e=.returned (.tuple #[.pointer (AA ⟨G.b,0,AB⟩),.int .i64 0])/\EI w' G (Ea D BI stop)/\(∀x∈G.all,w.heap.size<=x)/\AZ [] w w')
theorem qB(w:AL)(A:Option Ag)(n c:Nat)(ds:List DM)(BI stop:Int)(h:Ib w A n c ds)(hn:n<=1073741824)(hb:Eb (BJ ds)<=1073741824):
  A7 Af 17 #[.slice A n c,.int .i64 BI,.int .i64 stop] w (AAH w (BJ ds) BI stop):=by
 have HD:=AQ h;have HB:=AQ hb;have hmm:= @run_makeMap Af;clear h hb;have k54:= @AJh;have k58:= @ASc;have k59:= @ANe;go_enter AMf,Tryz.ntmps17;by_cases hq:BI<0
 ·have HE:Hid (Dn (BJ ds) BI=2):=AQ (by unfold Dn;rw[BZ hq]);go_wp2
  go_ret2
  exact .inl ⟨by rw[HE.out];decide,by rw[HE.out];rfl,AZ.refl _ _⟩
 have HE:Hid (Dn (BJ ds) BI=GK true noS (BJ ds)):=AQ (by unfold Dn;rw[BM hq]);obtain⟨t1,ht1⟩: ∃t1,w.heap.size=t1:=⟨_,rfl⟩;obtain⟨W,hW⟩: ∃W,(w.alloc (.map #[] 0)).alloc (.cells #[.map (AA t1),.map AB,.slice AB 0 0,.slice AB 0 0,.int .i64 BI,.int .i64 stop,.int .i64 0] 116)=W:=⟨_,rfl⟩;have hcW:AZ [] w W:=by rw[<- hW];exact ((AZ.refl [] w).alloc _).alloc _
 have hOp:jm W ⟨t1+1,t1,[],[],[],[]⟩ [] [] BI stop:=by
  have hbk:Bl W (t1+1) 116 #[.map (AA t1),.map AB,.slice AB 0 0,.slice AB 0 0,.int .i64 BI,.int .i64 stop,.int .i64 0]:=by
   rw[<- hW];have:=Bl.new (w.alloc (.map #[] 0)) 116 #[.map (AA t1),.map AB,.slice AB 0 0,.slice AB 0 0,.int .i64 BI,.int .i64 stop,.int .i64 0];simpa[ht1] using this
  have htr:Tree W t1 []:=⟨by rw[<- hW,<- ht1];exact (Mp.made w IQ).Ak ((AZ.refl [] _).alloc _) BC,AV,AV⟩;refine⟨hbk,htr,⟨λk=>rfl,λk d F hd=>by cases hd⟩,rfl,rfl,rfl,AV,AV,⟨?_,?_⟩⟩;simp[RN.parts,Sep,ET];intro P hP x hx;have h1:=hbk.lt;have h2:=htr.top.lt;simp only[RN.parts,ET,EG,BB,kG,or_false] at hP;rcases hP with rfl|rfl|rfl;simp at hx;omega;simp at hx;omega;simp at hx
 have HOP:=AQ hOp;have QT:=AQ hcW;have HT1:=AQ ht1;clear hOp hcW;go_wp2
 go_loopw [9,10,11,12,13,26] (λs9 _ _ _ _ s26 wr=>∃(i:Nat) (g1:MX) (ib sg:List Nat) (Ls:List (List Nat)),i<=n/\s26=.int .i64 i/\s9=.string (E5 noS ((BJ ds).take i))/\GK true noS ((BJ ds).take i)=0/\
  jm wr ⟨t1+1,t1,g1,ib,sg,Ls⟩ (GV 0 ((BJ ds).take i)) (J7 ((BJ ds).take i)) BI stop/\(∀x∈(RN.mk (t1+1) t1 g1 ib sg Ls).parts.flatten,w.heap.size<=x)/\AZ [] w wr) (λ_ _ _ _ _ s26 _=>n - (intOf s26).toNat)
 case atStart=>exact⟨0,[],[],[],[],D5 _,rfl,rfl,rfl,HOP.out,by have:=HT1.out;simp[RN.parts,ET];omega,QT.out⟩
 obtain⟨i,g1,ib,sg,Ls,hin,rfl,rfl,hpre,hop,hnew,hch⟩:=hrel;have Y1:=AQ hpre;have Y2:=AQ hop;have Oy:=AQ hnew;have DY:=AQ hch;clear hpre hop hnew hch HOP QT;by_cases hlt:i<n
 ·(have hlt':(i:Int)<n:=by omega);obtain⟨d,hd⟩: ∃d,ds[i]? =AA d:=⟨_,CQ (by have:=HD.out.row.Ov;simp[Gi] at this;omega)⟩;obtain⟨⟨Hu,dA,dn,dc⟩,H7⟩:=d;(have hdv:(BJ ds)[i]? =AA (Hu,BD H7):=by unfold BJ;rw[Bg,hd];rfl);obtain⟨ad,rfl,hat⟩:=(HD.out.Ho DY.out).row.ns (j:=i) (x:=⟨Hu,dA,dn,dc⟩) (by unfold Gi;rw[Bg,hd];rfl);have x0:=hat.c0;have x1:=hat.c1;have Xj:=AQ hdv;have HDM:=AQ (Bq hd);clear hd hdv hat;obtain⟨dv,ACT⟩: ∃dv,wr.heap.size=dv:=⟨_,rfl⟩;obtain⟨W1,hW1⟩: ∃W1,wr.alloc (.cells #[.string Hu,.slice dA dn dc] 77)=W1:=⟨_,rfl⟩;(have hv1:Bl W1 dv 77 #[.string Hu,.slice dA dn dc]:=by rw[<- hW1,<- ACT];exact Bl.new wr _ _);(have hc1:AZ [] wr W1:=by rw[<- hW1];exact (AZ.refl [] wr).alloc _);have v0:=hv1.cell 0;have v1:=hv1.cell 1;simp only[GU] at v0 v1;have HV1:=AQ hv1;have DI:=AQ hc1;have AKS:=AQ ACT;clear hv1 hc1;(go_wp2_with fail);(have hb0:(((i:Int))==0)=(i==0):=by cases i<;>rfl);rw[hb0];refine (bG (i==0) (E5 noS ((BJ ds).take i)) Hu W1).mono ?_;rintro e w2 ⟨rfl,rfl⟩;obtain⟨E,hE⟩: ∃E,Gl (i==0) (E5 noS ((BJ ds).take i)) Hu=E:=⟨_,rfl⟩;rw[hE];have HEE:=AQ hE;clear hE hb0;by_cases hE0:E=0
  ·subst hE0;have ARL:Hid (Hu∉((BJ ds).take i).map Prod.fst):=AQ (AKH Xj.out Y1.out HEE.out);have AF7:=AQ (Y2.out.CE DI.out);have b0:=AF7.out.blk.cell 0;simp only[GU] at b0;obtain⟨fb,hfb⟩: ∃fb,w2.heap.size=fb:=⟨_,rfl⟩;have ATU:=AQ hfb;have hcA:AZ [] w2 ((w2.alloc (.map #[] 0)).drew):=((AZ.refl [] w2).alloc _).drew;obtain⟨W3,hu,AB5,hc3⟩:=Mp.update (AF7.out.FU.top.Ak hcA BC) (Cj KZ) Iy Hu (.map (AA fb))
   have hmf:Mp W3 fb IQ []:=by
    (have h1:Mp ((w2.alloc (.map #[] 0)).drew) fb IQ []:=by rw[<- hfb];exact (Mp.made w2 IQ).Ak ((AZ.refl [] _).drew) BC);refine h1.Ak hc3 ?_;have h2:=AF7.out.FU.top.lt;simp only at h2;simp;omega
   have Hz:Hid (AZ [t1] w2 W3):=AQ ((hcA.nil [t1]).trans hc3 (λx hx=>.inl hx));have HTD:Hid (BH (GV 0 ((BJ ds).take i)) Hu=AB):=AQ (En.2 (by rw[fP];exact ARL.out));have AOB:=AQ (AF7.out.dir HTD.out Hz.out AB5 hmf Ad)
   have ACU:Hid (dv≠t1/\w.heap.size<=dv/\w.heap.size<=fb/\t1<dv):=AQ (by
    have h1:=AKS.out;have h2:=DY.out.size;have h3:=Y2.out.FU.top.lt;have h4:=DI.out.size;simp only at h3
    refine⟨Ad,Ad,Ad,Ad⟩)
   have hS7:=hc3;clear AB5 hmf hc3;go_wp2;refine Ei (S:=λw'=>AZ [t1] w2 w') Aq ((AZ.refl _ _).drew) (λhHeld=>?_);refine tk 0 ?_;refine tk 1 ?_;refine tk 2 ?_;refine GI 3 (λw' hSw=>hSw.cell b0 AV) ?_;refine tk 4 ?_;refine GI 5 (λw' hSw=>hSw.cell v0 (λh=>ACU.out.1 (by simpa using h))) ?_;refine EW 6 λK hK=>?_;go_simp;refine hK.out _ _ (hHeld.alloc _) (λhHeld=>?_);(try simp only[BF,Bf]);clear hK K;refine EW 7 λK hK=>?_;go_simp;refine hK.out _ _ (hHeld.trans hS7 (λx hx=>.inl hx)) (λhHeld=>?_);(try simp only[BF,Bf]);clear hK K;refine wpAnyH_done Aq ?_ _;(try simp only[BF,Bf]);have HV3:=AQ (HV1.out.Ak Hz.out (by simpa using ACU.out.1));have u1:=HV3.out.cell 1;simp only[GU] at u1;have hFR:=HD.out.Ed _ HDM.out;have HFR:=AQ hFR;have hml:H7.length=dn:=by have:=hFR.row.Ov;simpa[F5] using this
   have hmb:dn<=1073741824:=by
    have h1:=(Si (Bq Xj.out)).1;have h2:=HB.out;simp only[BD,DZ] at h1;omega
   have HML:=AQ hml;have AUk:Hid (wr.heap.size<=W3.heap.size):=AQ (Ci DI.out.size Hz.out.size)
   have AKT:Hid (∀x∈(RN.mk (t1+1) t1 (Dk g1 Hu (fb,[])) ib sg Ls).parts.flatten,w.heap.size<=x):=AQ (λx hx=>by
    simp only[RN.parts,JK,Be] at hx;rcases hx with h|h|h;exact Oy.out x (by simp only[RN.parts,JK,Be];exact .inl h)
    ·rcases Nr (B:=w.heap.size) Y2.out.FU.nodup (.inr ACU.out.2.2.1) x h with h|h;exact Oy.out x (by simp only[RN.parts,JK,Be];exact .inr (.inl h));exact h
    exact Oy.out x (by simp only[RN.parts,JK,Be];exact .inr (.inr h)))
   have AOC:Hid (AZ [] w W3):=AQ ((DY.out.Ap DI.out).trans Hz.out (λx hx=>by simp only[CG] at hx;subst hx;right;have:=HT1.out;omega));clear hHeld b0 hu hfb hS7 hcA hFR hml x0 x1 v0 v1;go_wp2
   go_loopw [13,14,15,16,52] (λs13 _ _ _ s52 wr=>∃(k:Nat) (g1:MX) (ib sg:List Nat) (Ls:List (List Nat)),k<=dn/\s52=.int .i64 k/\s13=.string (E5 noS ((BD H7).take k))/\EN true noS ((BD H7).take k)=0/\
    jm wr ⟨t1+1,t1,g1,ib,sg,Ls⟩ (GV 0 ((BJ ds).take i)++[(Hu,IJ (0+Gm ((BJ ds).take i)) ((BD H7).take k))]) (J7 ((BJ ds).take i)++((BD H7).take k).map λx=>(x.2,[])) BI stop/\
    Bl wr dv 77 #[.string Hu,.slice dA dn dc]/\(∀x∈(RN.mk (t1+1) t1 g1 ib sg Ls).parts.flatten,w.heap.size<=x)/\AZ [] w wr/\dv∉ET t1 g1) (λ_ _ _ _ s52 _=>dn - (intOf s52).toNat)
   case atStart=>exact⟨0,_,_,_,_,D5 _,rfl,rfl,rfl,by simpa[IJ] using AOB.out,HV3.out,AKT.out,AOC.out,by
    intro hm;rcases BB.1 hm with h|h;exact ACU.out.1 h;obtain⟨p,hp,e⟩:=Bz.1 h;have h3:=AKS.out;rcases (Jw Y2.out.FU.nodup).1 hp with rfl|⟨hp,_⟩;have h1:=ATU.out;have h2:=HV1.out.lt;simp only at e;omega;have h1:p.2.1<wr.heap.size:=(Y2.out.FU.sub p hp).lt
    omega⟩
   obtain⟨k,g2,ib2,sg2,Ls2,jo,rfl,rfl,qC,ABG,hvb,J6,jD,AOD⟩:=hrel;have Xk:=AQ qC;have bW:=AQ ABG;have HVB:=AQ hvb;have Iz:=AQ J6;have Tj:=AQ jD;have AKU:=AQ AOD;clear qC ABG hvb J6 jD AOD AOB HV3 AKT AOC;by_cases hkl:k<dn
   ·(have hkl':(k:Int)<dn:=by omega);obtain⟨x,hx⟩: ∃x,H7[k]? =AA x:=⟨_,CQ (by have:=HML.out;omega)⟩;(have hxv:(BD H7)[k]? =AA (x.1.nm,x.2):=by unfold BD;rw[Bg,hx];rfl);have AKV:=HFR.out.Ho Tj.out;obtain⟨bd,hbd,hat⟩:=AKV.row.ns (j:=k) (x:=x.1) (by unfold F5;rw[Bg,hx];rfl);subst hbd;have z0:=hat.c0;have z1:=hat.c1;have HXD:=AQ (AKV.dat x (Bq hx));have qE:=AQ hxv
    have HXN:Hid (x.1.n<=1073741824):=AQ (by
     have h1:=(Si (Bq Xj.out)).2 (x.1.nm,x.2) (Bq hxv);have h2:=HB.out;have h3:=HXD.out.1;simp only[DZ,N8] at h3;simp only at h1
     omega)
    have ATV:Hid (∃e,BH g2 Hu=AA e):=AQ (by
     obtain⟨e,he,_⟩:=bW.out.Le.get (k:=Hu) (F:=IJ (0+Gm ((BJ ds).take i)) ((BD H7).take k)) (by rw[NW HTD.out,BZ rfl])
     exact⟨e,he⟩)
    obtain⟨⟨f2,fl2⟩,he⟩:=ATV.out;have HE2:=AQ he;clear hx hxv AKV hat he;obtain⟨fv,ACV⟩: ∃fv,wr.heap.size=fv:=⟨_,rfl⟩;obtain⟨W4,hW4⟩: ∃W4,wr.alloc (.cells #[.string x.1.nm,.slice x.1.A x.1.n x.1.c] 64)=W4:=⟨_,rfl⟩;(have hv4:Bl W4 fv 64 #[.string x.1.nm,.slice x.1.A x.1.n x.1.c]:=by rw[<- hW4,<- ACV];exact Bl.new wr _ _);(have hc4:AZ [] wr W4:=by rw[<- hW4];exact (AZ.refl [] wr).alloc _);have v0:=hv4.cell 0;have v1:=hv4.cell 1;have d0:=(HVB.out.Ak hc4 BC).cell 0;have b0:=(bW.out.CE hc4).blk.cell 0;simp only[GU] at v0 v1 d0 b0;have NV:=AQ hc4;have HV4:=AQ hv4;have ACW:=AQ ACV;clear hv4 hc4;(go_wp2_with fail);(have hb0:(((k:Int))==0)=(k==0):=by cases k<;>rfl);rw[hb0];refine (bG (k==0) (E5 noS ((BD H7).take k)) x.1.nm W4).mono ?_;rintro e w4 ⟨rfl,rfl⟩;obtain⟨E,hE⟩: ∃E,Gl (k==0) (E5 noS ((BD H7).take k)) x.1.nm=E:=⟨_,rfl⟩;rw[hE];have HEX:=AQ hE;clear hE hb0;by_cases hE0:E=0
    ·subst hE0;have AKW:=AQ (bW.out.CE NV.out);have HFM:=AQ (CJ HE2.out)
     have HFT:Hid (f2≠t1/\t1+1≠f2/\dv≠f2/\fv≠f2/\w.heap.size<=f2):=AQ (by
      have hm:=JV (tb:=t1) HFM.out;refine⟨bW.out.FU.Ld HFM.out,λe=>?_,λe=>AKU.out (by rw[e];exact hm),λe=>?_,Iz.out f2 (by simp only[RN.parts,JK,Be];exact .inr (.inl hm))⟩;exact bW.out.lay.ne (i:=0) (j:=1) (P:=[t1+1]) (Q:=ET t1 g2) rfl rfl Ar (t1+1) AV (by rw[e];exact hm);have h1:=(bW.out.FU.sub _ HFM.out).lt;have h2:=ACW.out;simp only at h1
      omega)
     have ATW:Hid (BH (Eu g2) Hu=AA (.map (AA f2))):=AQ (by rw[Eo,HE2.out];rfl);go_wp2;refine Ei (S:=λw'=>AZ [f2] w4 w') Aq ((AZ.refl _ _).drew) (λhHeld=>?_);refine tk 0 ?_;refine tk 1 ?_;refine tk 2 ?_;refine GI 3 (λw' hSw=>hSw.cell b0 (by simpa using HFT.out.2.1)) ?_;refine tk 4 ?_;refine GI 5 (λw' hSw=>hSw.cell d0 (by simpa using HFT.out.2.2.1)) ?_;refine wpAnyH_take (i:=6) (v:=?_) rfl Aq Aq Aq (λ_ _ _ h=>h) (Or.inl ⟨by rfl,?_⟩) (by assumption) ?_;rotate_left
     ·(intro w' hSw;have y:=(Mp.lookup (AKW.out.FU.top.Ak hSw (by simpa using HFT.out.1.symm)) (Cj KZ) Iy (z:=.map AB) Aq Hu).1;rw[ATW.out] at y;simp only[Dt] at y;go_simp;try with_reducible rfl)
     (try simp only[BF,Bf]);refine tk 7 ?_;refine tk 8 ?_;refine GI 9 (λw' hSw=>hSw.cell v1 (by simpa using HFT.out.2.2.2.1)) ?_;refine EW 10 λK hK=>?_;go_simp;refine (new_any x.1.A x.1.n x.1.c x.2 _ HXN.out ((HXD.out.Ak NV.out Ej).Ak ((AZ.refl [] _).drew) Ej)).mono ?_;rintro ee w5 ⟨sg0,L0,rfl,hs5,hc5,hL5⟩;have RJ:Hid (AZ [] w4 w5):=AQ ((AZ.refl [] w4).drew.Ap hc5);have HS5:=AQ hs5;have HL5:Hid (∀k∈L0,w4.heap.size<=k):=AQ hL5;have HBX:Hid (Bl (w5.alloc (.cells #[.pointer (AA ⟨sg0,0,AB⟩)] 126)) w5.heap.size 126 #[.pointer (AA ⟨sg0,0,AB⟩)]):=AQ (Bl.new w5 _ _);obtain⟨W6,hu,AOE,hc6⟩:=Mp.update ((AKW.out.FU.sub _ HFM.out).Ak (RJ.out.Ap ((AZ.refl [] w5).alloc (.cells #[.pointer (AA ⟨sg0,0,AB⟩)] 126))) BC) (Cj KZ) PH x.1.nm (.pointer (AA ⟨w5.heap.size,0,AB⟩));simp only at hu;have HM6:=AQ AOE;have JE:Hid (AZ [f2] (w5.alloc (.cells #[.pointer (AA ⟨sg0,0,AB⟩)] 126)) W6):=AQ hc6;have hH5:=hHeld.Ap hc5;have hS6:=JE.out;clear hs5 hL5 AOE hc6;refine hK.out _ _ (hH5) (λhHeld=>?_);(try simp only[BF,Bf]);clear hK K;refine tk 11 ?_;refine EW 12 λK hK=>?_;go_simp;refine hK.out _ _ (hHeld.alloc _) (λhHeld=>?_);(try simp only[BF,Bf]);clear hK K;refine EW 13 λK hK=>?_;go_simp;refine hK.out _ _ (hHeld.trans hS6 (λx hx=>.inl hx)) (λhHeld=>?_);(try simp only[BF,Bf]);clear hK K;refine wpAnyH_done Aq ?_ _;(try simp only[BF,Bf]);have HAN:Hid (BH (IJ (0+Gm ((BJ ds).take i)) ((BD H7).take k)) x.1.nm=AB):=AQ (En.2 (by rw[fO];exact AHL qE.out Xk.out HEX.out));have HLEN:Hid ((J7 ((BJ ds).take i)++((BD H7).take k).map λx=>((x.2,[]):EX)).length=0+Gm ((BJ ds).take i)+((BD H7).take k).length):=AQ (by rw[Ig,DZ,SX];omega)
     have HF6:=AQ (AKW.out.file HTD.out HAN.out (λp hp q hq=>by
      rw[HLEN.out];rcases Be.1 hp with hp|hp;have:=YM p hp q hq;omega;simp only[CG] at hp;subst hp
      exact vz q hq) HE2.out RJ.out HL5.out HS5.out ((AZ.refl [] w5).alloc _) (Ba _) HBX.out JE.out HM6.out)
     have AOF:Hid (AZ [f2] w4 W6):=AQ (((RJ.out.Ap ((AZ.refl [] w5).alloc _)).nil [f2]).trans JE.out (λx hx=>.inl hx));have HV6:=AQ ((HVB.out.Ak NV.out BC).Ak AOF.out (by simpa using HFT.out.2.2.1));clear hHeld hS6 hc5 hu hH5 b0 d0 v0 v1 z0 z1;go_wp2;go_roundw
     case rel=>
      have hsz:w.heap.size<=w4.heap.size:=Ci Tj.out.size NV.out.size;have hsz5:=RJ.out.size;refine⟨k+1,Dk g2 Hu (f2,Dk fl2 x.1.nm w5.heap.size),ib2++[w5.heap.size],sg2++[sg0],Ls2++[L0],Ad,by go_num,by rw[take_snoc _ _ _ qE.out,Xf],Ve qE.out Xk.out HEX.out,?_,HV6.out,?_,(Tj.out.Ap NV.out).trans AOF.out (λx hx=>by simp only[CG] at hx;subst hx;exact .inr HFT.out.2.2.2.2),?_⟩;rotate_left
      ·intro y hy;simp only[RN.parts,JK,kE,List.flatten_nil,LM,Be] at hy;have hN:=Iz.out;simp only[RN.parts,JK,Be] at hN;rcases hy with h|h|h|h|h;exact hN y (.inl h)
       ·rcases Nr (B:=w.heap.size) bW.out.FU.nodup (.inr HFT.out.2.2.2.2) y h with h|h;exact hN y (.inr (.inl h));exact h
       ·rcases h with h|h;exact hN y (.inr (.inr (.inl h)));simp only[CG] at h;omega
       exact hN y (.inr (.inr (.inr h)));have:=HL5.out y h;omega
      ·intro hm;rcases BB.1 hm with h|h;exact ACU.out.1 h;obtain⟨p,hp,e⟩:=Bz.1 h;rcases (Jw bW.out.FU.nodup).1 hp with rfl|⟨hp,_⟩;exact HFT.out.2.2.1 e.symm;exact AKU.out (by rw[<- e];exact JV hp)
      have hf:=HF6.out;rw[HLEN.out] at hf;rw[take_snoc _ _ _ qE.out,pY,Em,<- KC];exact hf
     simp[intOf];omega
    have hne:(E !=0)=true:=by simp[hE0]
    have HFE:Hid (EN true noS (BD H7)=E):=AQ (by
     rw[Ze qE.out Xk.out];unfold EN
     rw[HEX.out,BZ hE0])
    have HDE:Hid (Dn (BJ ds) BI=E):=AQ (by
     rw[HE.out,U1 Xj.out Y1.out];unfold GK
     rw[HEE.out,BM AV,HFE.out,BZ hE0])
    have HNE:=AQ hE0;clear hE0;go_wp2
    go_ret2
    exact .inl ⟨by rw[HDE.out];exact HNE.out,by rw[HDE.out];rfl,Tj.out.Ap NV.out⟩
   (obtain rfl:k=dn:=by omega);have MF:Hid ((BD H7).take k=BD H7):=AQ (FH (by unfold BD;rw[DZ,HML.out];exact Ba _));clear u1;go_wp2;go_roundw
   case rel=>
    have hf:=Xk.out;rw[MF.out] at hf;have ho:=bW.out;rw[MF.out] at ho;refine⟨i+1,g2,ib2,sg2,Ls2,Ad,by go_num,by rw[take_snoc _ _ _ Xj.out,Xf],jC Xj.out Y1.out HEE.out hf,?_,Iz.out,Tj.out⟩;rw[take_snoc _ _ _ Xj.out,pg,vw];exact ho
   simp[intOf];omega
  have hne:(E !=0)=true:=by simp[hE0]
  have HDE:Hid (Dn (BJ ds) BI=E):=AQ (by
   rw[HE.out,U1 Xj.out Y1.out];unfold GK
   rw[HEE.out,BZ hE0])
  have HNE:=AQ hE0;clear hE0;go_wp2
  go_ret2
  exact .inl ⟨by rw[HDE.out];exact HNE.out,by rw[HDE.out];rfl,DY.out.Ap DI.out⟩
 (obtain rfl:i=n:=by omega);(have hlen:(BJ ds).length=i:=by have:=HD.out.row.Ov;simpa[Gi,BJ] using this);have HTK:Hid ((BJ ds).take i=BJ ds):=AQ (FH Ad);have ATX:Hid (Dn (BJ ds) BI=0):=AQ (by rw[HE.out,<- HTK.out];exact Y1.out);have b0:=Y2.out.blk.cell 0;simp only[GU] at b0;clear hmm hlen;(go_wp2_with fail);refine (Xd wr t1 g1 Y2.out.FU).mono ?_;rintro e w2 ⟨ob,g',rfl,htr,hnw,hc2,hcp⟩;have AF8:=AQ (Y2.out.CE hc2);have c1:=AF8.out.blk.cell 1;have f1:=AF8.out.blk.frozen 1;have TC:=AQ (AF8.out.blk.FK 1 (.map (AA ob)));simp only[GU] at c1;have jl:=AQ htr;have Nv:=AQ hnw;have HC2:=AQ hc2;have tY:=AQ hcp;clear htr hnw hc2 hcp b0;go_wp2
 go_ret2
 refine .inr ⟨ATX.out,⟨t1+1,t1,ob,g1,g',AB,0,[],AB,0,ib,ib,sg,Ls⟩,rfl,?_,?_,?_⟩
 ·have U0:AZ [t1+1] w2 (w2.setCell ⟨t1+1,1,AB⟩ (.map (AA ob))):=(AZ.refl [t1+1] w2).setCell (.inl AV) _;generalize w2.setCell ⟨t1+1,1,AB⟩ (.map (AA ob))=W9 at U0 TC⊢;have hop:=AF8.out;rw[HTK.out] at hop;have hL: ∀x∈[t1+1],x∈[t1+1]:=λx hx=>hx;have hk:=λ(i:Nat) (P:List Nat) (hi:(RN.mk (t1+1) t1 g1 ib sg Ls).parts[i]? =AA P) (hn:i≠0)=>hop.lay.pq (j:=0) rfl hL hi hn
  have ATY: ∀x∈ET ob g',x∉[t1+1]:=λx hx hm=>by
   simp only[CG] at hm;subst hm;have h1:=Nv.out _ hx;have h2:=Y2.out.blk.lt;simp only at h2;omega
  refine⟨by simpa[Ea] using TC.out,hop.FU.keep U0 (hk 1 _ rfl Ar),hop.Le,jl.out.keep U0 ATY,hop.Le.copied tY.out,Own.nil _ _ _,λi c v e1=>by simp[Ea] at e1,Own.nil _ _ _,hop.Qe,hop.WR,hop.RI,hop.Zc,λ_ h=>h,λi x g L f e1 e2 e3 e4=>(hop.ino i x g L f e1 e2 e3 e4).keep U0 (hk 2 _ rfl Ar x (Bq e1)) (hk (i+3) L (by simpa[RN.parts] using e3) Ad),?_⟩;have l1:Lay W9 (([t1+1]::ET t1 g1::[])++ET ob g'::(ib::Ls)):=Lay.ins (w:=wr) (Ps:=[t1+1]::ET t1 g1::[]) (Qs:=ib::Ls) Y2.out.lay (λx hx=>Nv.out x hx) (λx hx=>ER (jl.out.lt x hx) U0.size) (Ci HC2.out.size U0.size);have l2:Lay W9 (([t1+1]::ET t1 g1::ET ob g'::[])++[]::(ib::Ls)):=Lay.ins (w:=W9) (Ps:=[t1+1]::ET t1 g1::ET ob g'::[]) (Qs:=ib::Ls) l1 AV AV (Ba _);exact Lay.ins (w:=W9) (P:=[]) (Ps:=[t1+1]::ET t1 g1::ET ob g'::[]::[]) (Qs:=ib::Ls) l2 AV AV (Ba _)
 ·intro x hx;have hN:=Oy.out;simp only[RN.parts,JK,Be] at hN;simp only[Bh.all,Bh.parts,JK,Be,XW,BC,false_or] at hx;rcases hx with h|h|h|h|h;exact hN x (.inl h);exact hN x (.inr (.inl h));exact Ci DY.out.size (Nv.out x h);exact hN x (.inr (.inr (.inl h)));exact hN x (.inr (.inr (.inr h)))
 exact (DY.out.Ap HC2.out).setCell (.inr (by have:=HT1.out;simp only;omega)) _
theorem Inv.make{B:Nat}{S:St}(h:Inv B S){c:ED}(hc:c.ok S.files.length S.seen):Inv (B+1) (S.make c):=by
 obtain⟨h1,h2,h3,h4,h5,h6,h7,h8,h9,h10⟩:=h;refine⟨h1,?_,?_,h4,?_,?_,?_,?_,?_,h10⟩;exact AHB.2 ⟨h2,by show ED.ok S.files.length (II S.safe S.D6) c;rw[h3];exact hc⟩
 ·show II S.safe (S.D6++[c])=c.on S.seen;rw[SN,h3]
 all_goals (simp only[St.make,Ig,ES,Ha];omega)
theorem Inv.step{B:Nat}{S:St}(h:Inv B S):Inv (B+1) {S with steps:=S.steps+1}:=by
 obtain⟨h1,h2,h3,h4,h5,h6,h7,h8,h9,h10⟩:=h;exact⟨h1,h2,h3,h4,by simp only;omega,by simp only;omega,by simp only;omega,by simp only;omega,by simp only;omega,h10⟩
theorem Inv.CX{B:Nat}{S:St}(h:Inv B S)(d:ByteArray):Inv (B+1) (S.CX d).1:=by
 unfold St.CX;by_cases h0:S.ask false [d]=0
 ·rw[BM (by simp[h0])];by_cases h1:(BH S.seen d).isSome=true;rw[BZ h1];exact h.mono Ad;rw[BM h1];refine h.make ⟨(Hq h0).2.1 d AV,?_⟩
  cases hg:BH S.seen d with|none=>rfl|some F=>rw[hg] at h1;simp at h1
 rw[BZ h0];exact h.mono Ad
theorem Inv.create{B:Nat}{S:St}(h:Inv B S)(d n:ByteArray):Inv (B+2) (S.create d n).1:=by
 unfold St.create;by_cases h0:S.ask true [d,n]=0
 ·rw[BM (by simp[h0])];by_cases h1:(BH (Ey S.seen d) n).isSome=true;rw[BZ h1];exact h.mono Ad;rw[BM h1];obtain⟨F,hF⟩:=(Hq h0).2.2 rfl;simp only[RS] at hF
  have:=(h.bK []).make (c:=.create d n S.files.length) ⟨AV,(Hq h0).2.1 n AV,F,hF,by
   rw[Ez hF] at h1
   cases hg:BH F n with|none=>rfl|some i=>rw[hg] at h1;simp at h1⟩
  exact this.mono AV
 rw[BZ h0];exact h.mono Ad
theorem bY(fs:List EX)(x:Nat)(φ:EX->EX)(k:Nat)(hφ: ∀f,(φ f).all.length+(φ f).2.length<=f.all.length+f.2.length+k):Ic (fs.modify x φ)<=Ic fs+k:=by
 unfold Ic
 induction fs generalizing x with
 |nil=>simp|cons f r ih=>
  cases x with|zero=>simp only[List.modify_zero_cons,BK,Bo];have:=hφ f;omega|succ x=>simp only[List.modify_succ_cons,BK,Bo];have:=ih x;omega
theorem Inv.modify{B k:Nat}{S:St}(h:Inv B S)(x:Nat)(φ:EX->EX)(wr':List Nat)(hφ: ∀f,(φ f).all.length+(φ f).2.length<=f.all.length+f.2.length+k)(hw: ∀y∈wr',y<S.files.length)(hl:wr'.length<=S.wr.length+1):Inv (B+k+1) {S with files:=S.files.modify x φ,wr:=wr',steps:=S.steps+1}:=by
 obtain⟨h1,h2,h3,h4,h5,h6,h7,h8,h9,h10⟩:=h;have hb:=bY S.files x φ k hφ;refine⟨by simpa using h1,by simpa using h2,h3,by simpa using hw,by simp only;omega,by simp only[List.length_modify];omega,by simp only;omega,by simp only;omega,by simp only;omega,h10⟩
theorem Inv.write{B:Nat}{S:St}(h:Inv B S)(d n:ByteArray)(xs:List Int):Inv (B+xs.length+2) (S.write d n xs).1:=by
 unfold St.write
 cases hf:S.Oa d n with
 |mk o e=>
  cases o with
  |none=>exact h.mono Ad|some x=>
   simp only;by_cases hx:xs=[];rw[BZ hx];exact h.step.mono Ad;rw[BM hx];by_cases hq:S.BI<(S.used:Int)+xs.length;rw[BZ hq];exact h.mono Ad;rw[BM hq]
   have:=h.modify (k:=xs.length+1) x (λf=>(f.1,f.2++[xs])) (S.wr++[x]) (λf=>by simp[EX.all];omega) (λy hy=>by
    rcases Be.1 hy with hy|hy;exact h.wr y hy
    simp only[CG] at hy;subst hy;exact kX h hf) AV
   exact this.mono Ad
theorem Inv.sync{B:Nat}{S:St}(h:Inv B S)(d n:ByteArray):Inv (B+1) (S.sync d n).1:=by
 unfold St.sync
 cases hf:S.Oa d n with
 |mk o e=>
  cases o with
  |none=>exact h.mono Ad|some x=>
   exact h.modify (k:=0) x (λf=>(EX.all f,[])) (S.wr.filter (λy=>y !=x)) (λf=>by simp[EX.all]) (λy hy=>h.wr y (xK.1 hy).1) (Ci (xW _ _) Ad)
theorem Inv.names{B:Nat}{S:St}(h:Inv B S):Inv (B+1) S.names.1:=by
 unfold St.names;by_cases hd:S.down=true;rw[BZ hd];exact h.mono Ad;rw[BM hd];have hv:=h.val;have hw:=h.wd;obtain⟨h1,h2,h3,h4,h5,h6,h7,h8,h9,h10⟩:=h;exact⟨hv,Am,rfl,h4,by simp only[Ha];omega,by simp only;omega,by simp only;omega,by simp only;omega,by simp only;omega,h10⟩
theorem Inv.rename{B:Nat}{S:St}(h:Inv B S)(a b:ByteArray):Inv (B+1) (S.rename a b).1:=by
 unfold St.rename;by_cases h0:S.ask true [a,b]=0
 ·rw[BM (by simp[h0])];obtain⟨F,hF⟩:=(Hq h0).2.2 rfl;simp only[RS] at hF;exact h.make ⟨(Hq h0).2.1 b AV,F,hF⟩
 rw[BZ h0];exact h.mono Ad
theorem Inv.remove{B:Nat}{S:St}(h:Inv B S)(d n:ByteArray):Inv (B+1) (S.remove d n).1:=by
 unfold St.remove
 cases hf:S.Oa d n with
 |mk o e=>
  cases o with
  |none=>exact h.mono Ad|some x=>
   obtain⟨_,_,F,hF,_⟩:=Uz hf;exact h.make ⟨F,hF⟩
theorem Inv.rmdir{B:Nat}{S:St}(h:Inv B S)(d:ByteArray):Inv (B+1) (S.rmdir d).1:=by
 unfold St.rmdir;by_cases h0:S.ask true [d]=0
 ·rw[BM (by simp[h0])];obtain⟨F,hF⟩:=(Hq h0).2.2 rfl;simp only[RS] at hF;by_cases h1:(Ey S.seen d).length>0;rw[BZ h1];exact h.mono Ad;rw[BM h1];exact h.make ⟨F,hF⟩
 rw[BZ h0];exact h.mono Ad
section
variable {w0 w:AL} {p:Nat} {S:St} {B:Nat}
end
open Go.ChangeShapes Go.WideShapes Go.Deep
section
variable {D:GH}{q s:Int}{ds:List DM}{B a c n:Nat}{f g k:Nat->Nat}{A:Option Ag}{S:St}{α:Type}{w w1:AL}
theorem Y3{H:Type}(D:Nat->Dl H)(n:Nat)(Z:List α)(G:α->Nat)(hl:Z.length=n)(h: ∀(i:Nat) z,Z[i]? =AA z->G z<=Rows.uptoBulk (D i)):(Z.map G).sum<=Rows.uptoBulkAll ((FZ n).map D):=by
 have h1:=WC D n (λi=>(Z[i]?.map G).getD 0) (λi hil=>by
  have hz:Z[i]? =AA (Z[i]'Ad):=CQ Ad;rw[hz]
  exact h i _ hz)
 have h2:(FZ n).map (λi=>(Z[i]?.map G).getD 0)=Z.map G:=by
  apply N7;intro i;rw[Bg,Bg];by_cases hil:i<n
  ·rw[CQ (by simpa using hil),CQ Ad];(have AJ1:i<Z.length:=by omega);simp[AJ1]
  rw[H8 (by simp;omega),H8 Ad];rfl
 rwa[h2] at h1
theorem collect{Q:Nat->α->Prop}(n:Nat)(h: ∀i,i<n->∃z,Q i z): ∃Z:List α,Z.length=n/\∀(i:Nat) z,Z[i]? =AA z->Q i z:=by
 induction n with
 |zero=>exact⟨[],rfl,λi z h=>by simp at h⟩|succ k ih=>
  obtain⟨zs,h1,h2⟩:=ih (λi hi=>h i Ad);obtain⟨z,hz⟩:=h k Ad;refine⟨zs++[z],by simp[h1],λi y hy=>?_⟩;by_cases hik:i<k;rw[NK Ad] at hy;exact h2 i y hy;rw[Gt Ad] at hy
  have h0:i=k:=by
   rcases Wj k i with h3|h3;rw[H8 (by simp;omega)] at hy;cases hy;omega
  subst h0;rw[h1,Jf] at hy;simp at hy;subst hy;exact hz
theorem AF9{W:AL}{a:Ag}{xs:List Lc}(hl:xs.length=n)(hn:n<=c)(hm:c<=maxLen)(h: ∀(i:Nat) x,xs[i]? =AA x->W.cell? (a.add (i*2))=AA (.string x.nm)/\W.cell? (a.add (i*2+1))=AA (.slice x.A x.n x.c)):Rd W 2 (AA a) n c (Ko xs):=by
 refine⟨by rw[iZ,hl],hn,hm,(λe=>by cases e),λad e=>?_⟩;injection e with e;subst e;refine⟨λhp=>?_,λj u hu=>?_⟩
 ·obtain⟨x,hx⟩: ∃x,xs[0]? =AA x:=⟨_,CQ Ad⟩;have:=World.block_lt_of_cell? _ _ (h 0 x hx).1;rwa[add_block] at this
 have hj:=QQ xs (j/2) (j % 2) (Z8 _ Ar);rw[show j/2*2+j % 2=j by omega,hu] at hj
 cases hx:xs[j/2]? with
 |none=>rw[hx] at hj;simp at hj|some x=>
  rw[hx] at hj;simp only[Option.bind_some] at hj;have h2:=h _ x hx;rcases xh j with e|e
  ·rw[e] at hj;have:=h2.1;rw[show j/2*2=j by omega] at this;rw[this];simpa[Lc.cells] using hj.symm
  rw[e] at hj;have:=h2.2;rw[show j/2*2+1=j by omega] at this;rw[this];simpa[Lc.cells] using hj.symm
theorem DJ.trans{w w1 w2:AL}{G G1:Bh}{S2:St}(ha: ∀x∈G1.all,x∈G.all\/w.heap.size<=x)(hb:G1.b=G.b)(hc:AZ G.all w w1)(h:DJ w1 G1 S2 w2):DJ w G S2 w2:=by
 obtain⟨G',h1,h2,h3,h4⟩:=h;refine⟨G',h1,h2.trans hb,λx hx=>?_,hc.trans h4 ha⟩;rcases h3 x hx with h|h;exact ha x h;exact .inr (Ci hc.size h)
theorem DJ.names{w w1:AL}{G:Bh}{S1:St}{B:Nat}(h:DJ w G S1 w1)(hi:Inv B S1)(hB:B<=1073741824):
  A7 Af 50 #[.pointer (AA ⟨G.b,0,AB⟩)] w1 λe w'=>e=.returned (.int .i64 S1.names.2)/\DJ w G S1.names.1 w':=by
 obtain⟨G',h1,h2,h3,h4⟩:=h;rw[<- h2];exact (vg h1 hi hB).mono λe w' ⟨a,b⟩=>⟨a,.trans h3 h2 h4 b⟩
theorem DJ.before{w2:AL}{G:Bh}{S2:St}(hc:AZ [] w w1)(h:DJ w1 G S2 w2):DJ w G S2 w2:=by
 obtain⟨G',h1,h2,h3,h4⟩:=h;exact⟨G',h1,h2,λx hx=>(h3 x hx).imp id (λh=>Ci hc.size h),(hc.nil _).trans h4 (λx hx=>.inl hx)⟩
theorem DJ.Ak{G:Bh}{S1:St}(h:DJ w G S1 w1):AZ G.all w w1:=by obtain⟨_,_,_,_,h⟩:=h;exact h
theorem YO(h:S.down=true)(t:Bool)(ns:List ByteArray):S.ask t ns=80:=by unfold St.ask;rw[BZ h]
def Wf (f:Nat->Nat) (F:Jl):Nat:=(F.map λq=>f q.2).sum
def Wt (f:Nat->Nat) (T:Tr):Nat:=(T.map λp=>Wf f p.2).sum
theorem wH(f:Nat->Nat)(n:ByteArray)(i:Nat)(F:Jl):Wf f (Dx n i F)=f i+Wf f F:=by
 unfold Wf;rw[((G8 n i F).map _).sum_nat,BK,Bo]
theorem YP(f:Nat->Nat)(d:ByteArray)(F:Jl)(T:Tr):Wt f (Dx d F T)=Wf f F+Wt f T:=by
 unfold Wt;rw[((G8 d F T).map _).sum_nat,BK,Bo]
theorem ACX(f:Nat->Nat)(F:Jl)(n:ByteArray):Wf f (without F n)<=Wf f F:=by
 unfold Wf without
 induction F with
 |nil=>simp|cons p r ih=>
  rw[Wh];split;simp only[BK,Bo];omega;simp only[BK,Bo];omega
theorem Xl(f:Nat->Nat)(T:Tr)(d:ByteArray):Wt f (without T d)<=Wt f T:=by
 unfold Wt without
 induction T with
 |nil=>simp|cons p r ih=>
  rw[Wh];split;simp only[BK,Bo];omega;simp only[BK,Bo];omega
theorem AAI(f:Nat->Nat)(T:Tr)(d:ByteArray):Wf f (Ey T d)+Wt f (without T d)<=Wt f T:=by
 induction T with
 |nil=>simp[Ey,BH,Wt,Wf,without]|cons p r ih=>
  unfold Ey at ih⊢;rw[FC,FT];by_cases h:p.1=d
  ·rw[BZ h,BZ h];have:=Xl f r d;simp only[Dt,Wt,BK,Bo] at this⊢;omega
  rw[BM h,BM h];simp only[Wt,BK,Bo] at ih⊢;omega
def ED.made (f:Nat->Nat):ED->Nat
 | .create _ _ i=>f i|_=>0
theorem AAJ(f:Nat->Nat)(T:Tr)(c:ED):Wt f (c.on T)<=Wt f T+c.made f:=by
 cases c with
 |CX d=>simp only[ED.on,YP,ED.made];simp[Wf]|create d n i=>
  have:=AAI f T d;simp only[ED.on,YP,wH,ED.made];omega
 |rename a b=>
  have h1:=AAI f T a;have h2:=Xl f (without T a) b;simp only[ED.on,YP,ED.made];omega
 |remove d n=>
  have h1:=AAI f T d;have h2:=ACX f (Ey T d) n;simp only[ED.on,YP,ED.made];omega
 |rmdir d=>simp only[ED.on,ED.made];exact Xl f T d
theorem bZ{T:Tr}(h: ∀p∈T,∀q∈p.2,f q.2=0):Wt f T=0:=by
 unfold Wt
 induction T with
 |nil=>rfl|cons p r ih=>
  simp only[BK,Bo];rw[ih (λp hp=>h p (CO _ hp))];have h1:=h p (D9 ..);unfold Wf;generalize p.2=F at h1
  induction F with
  |nil=>rfl|cons q r ih2=>
   simp only[BK,Bo];rw[h1 q (D9 ..)];have:=ih2 (λq hq=>h1 q (CO _ hq));omega
theorem AMF(h: ∀i,f i<=g i+a*k i)(F:Jl):Wf f F<=Wf g F+a*Wf k F:=by
 unfold Wf
 induction F with
 |nil=>simp|cons q r ih=>
  simp only[BK,Bo,Nat.mul_add];have:=h q.2;omega
theorem AMG(h: ∀i,f i<=g i+a*k i)(T:Tr):Wt f T<=Wt g T+a*Wt k T:=by
 unfold Wt
 induction T with
 |nil=>simp|cons p r ih=>
  simp only[BK,Bo,Nat.mul_add];have:=AMF h p.2;omega
def Hw (i:Nat):Nat->Nat:=λj=>if j=i then 1 else 0
def qF (S:St):Nat->Nat:=λi=>(S.bytes i).length
def St.tot (S:St):Nat:=Wt (qF S) S.seen
theorem AKX(h:S.down=false):S.used=S.tot:=by
 unfold St.used St.view St.tot bytesOf Wt Wf qF;rw[BM (by simp[h]),Eg];congr 1;apply He;intro p _;simp[Function.comp_def]
theorem Zj(l:List α)(d:α)(i:Nat):(l++[d]).getD i d=l.getD i d:=by
 rw[GY,GY];by_cases h:i<l.length;rw[NK h];rw[Gt Ad,H8 (l:=l) Ad]
 cases i - l.length with|zero=>rfl|succ k=>rfl
theorem getD_modify(l:List α)(x:Nat)(φ:α->α)(d:α)(i:Nat):(l.modify x φ).getD i d=if i=x/\x<l.length then φ (l.getD i d) else l.getD i d:=by
 rw[GY,GY,xZ];by_cases h:x=i
 ·subst h;simp only[if_true,true_and];by_cases hx:x<l.length;rw[BZ hx,CQ hx];rfl;rw[BM hx,H8 Ad];rfl
 rw[BM (λe=>h e.1.symm)];simp[h]
def dat (D:GH):List (List Int):=D.flatMap λd=>d.2.map (·.2)
theorem AHP(g:Nat->List Int){l:List (ByteArray×List Int)}(h: ∀(k:Nat) x,l[k]? =AA x->g (n+k)=x.2):(IJ n l).map (λq=>(q.1,g q.2))=l:=by
 induction l generalizing n with
 |nil=>rfl|cons x r ih=>
  simp only[IJ,BK];rw[ih (n:=n+1) (λk y hy=>by have:=h (k+1) y (by simpa using hy);rw[<- this];congr 1;omega)];have:=h 0 x rfl;rw[Nat.add_zero] at this;rw[this]
theorem AHQ(g:Nat->List Int)(h: ∀(k:Nat) x,(dat D)[k]? =AA x->g (n+k)=x):(GV n D).map (λp=>(p.1,p.2.map λq=>(q.1,g q.2)))=D:=by
 induction D generalizing n with
 |nil=>rfl|cons d r ih=>
  simp only[GV,BK];have hd:dat (d::r)=d.2.map (·.2)++dat r:=rfl
  rw[ih (n:=n+d.2.length) (λk y hy=>by
    have:=h (d.2.length+k) y (by rw[hd,Gt AV];simpa using hy)
    rw[<- this];congr 1;omega),
   AHP g (n:=n) (l:=d.2) (λk x hx=>h k x.2 (by
    rw[hd,NK (by simp;exact (DC.1 hx).1),Bg,hx];rfl))]
theorem ACY(D:GH):J7 D=(dat D).map λx=>(x,[]):=by
 unfold J7 dat;rw[List.map_flatMap];congr 1;funext d;simp
theorem open_bytes{k:Nat}{x:List Int}(h:(dat D)[k]? =AA x):(Ea D q s).files.getD k ([],[])=(x,[]):=by
 show (J7 D).getD k ([],[])=_;rw[ACY,GY,Bg,h];rfl
theorem AKY(out:List Int)(start:Nat)(ks:List Bool):PL out start [] ks=out:=by simp[PL]
theorem range_one(i k:Nat): ∀n,((List.range' n k).map (Hw i)).sum<=1/\(i<n->((List.range' n k).map (Hw i)).sum=0):=by
 induction k with
 |zero=>intro n;simp
 |succ k ih=>
  intro n;rw[List.range'_succ,BK,Bo];obtain⟨h1,h2⟩:=ih (n+1);by_cases h:n=i
  ·have h4:=h2 Ad;(have h3:Hw i n=1:=by unfold Hw;rw[BZ h]);rw[h3,h4];exact⟨Ad,λh5=>by omega⟩
  (have h3:Hw i n=0:=by unfold Hw;rw[BM h]);rw[h3];exact⟨Ad,λh4=>by have:=h2 Ad;omega⟩
theorem AMH(f:Nat->Nat)(n:Nat)(l:List (ByteArray×List Int)):Wf f (IJ n l)=((List.range' n l.length).map f).sum:=by
 unfold Wf
 induction l generalizing n with|nil=>rfl|cons x r ih=>simp only[IJ,BK,Bo,ES,List.range'_succ,ih]
theorem AMI(f:Nat->Nat)(n:Nat)(D:GH):Wt f (GV n D)=((List.range' n (Gm D)).map f).sum:=by
 unfold Wt
 induction D generalizing n with
 |nil=>rfl|cons d r ih=>
  simp only[GV,BK,Bo,ih,AMH];(have:Gm (d::r)=d.2.length+Gm r:=by simp[Gm]);rw[this,<- List.range'_append_1,Em,U8]
theorem AAK(k:Int)(h:s<0):UO s k=false:=by unfold UO;rw[show decide (0<=s)=false from decide_eq_false Ad];rfl
theorem Ns(h:S.stop<0):S.down=false:=AAK _ h
theorem YQ(hd:S.down=false){d:ByteArray}{ns:List ByteArray}(hg:(d::ns).all CS=true){F:Jl}(hF:BH S.seen d=AA F)(t:Bool):S.ask t (d::ns)=0:=by
 unfold St.ask;rw[BM (by simp[hd]),BM (by simp[hg]),BM];rw[RS,hF];simp
theorem bn(h:S.down=false):S.view=S.seen.map λp=>(p.1,p.2.map λq=>(q.1,S.bytes q.2)):=by unfold St.view;rw[BM (by simp[h])]
theorem bu{i:Nat}(h:(S.files.getD i ([],[])).2=[])(ks:List Bool):S.after ks i=S.bytes i:=by
 unfold St.after St.bytes;simp only;unfold EX.all;rw[h,AKY];simp
theorem bz(a b:ByteArray):decide (a=b)=(a.toList==b.toList):=by
 rw[lN,decide_eq_true_eq,beq_iff_eq];refine⟨λh=>by rw[h],λh=>?_⟩;rw[Yg,Yg] at h;exact data_inj h
def FP (fs:List (ByteArray×List Int)):Nat:=(fs.map λq=>q.2.length).sum
theorem AAL(fs:List (ByteArray×List Int))(f:ByteArray×List Int):FP (fs++[f])=FP fs+f.2.length:=by simp[FP]
theorem cO(l:List Nat)(i:Nat):(l.take i).sum<=l.sum:=by
 conv=>rhs;rw[<- X4 i l,U8]
 omega
theorem Rd.AOG{xs:List Int}(h:Rd w 1 A n c (bv xs)):xs.length=n:=by have:=h.1;simpa using this
def siz (D:GH):Nat:=(D.map λd=>d.2.length+1).sum
theorem ACZ{d:ByteArray×List (ByteArray×List Int)}(h:d∈D):d.2.length+D.length<=siz D:=by
 unfold siz
 induction D with
 |nil=>simp at h|cons q r ih=>
  simp only[BK,Bo,ES]
  have hl:r.length<=(r.map λd=>d.2.length+1).sum:=by
   clear ih h
   induction r with|nil=>simp|cons z l ih=>simp only[ES,BK,Bo];omega
  rcases BB.1 h with rfl|h;omega;have:=ih h;omega
theorem AKZ(D:GH):D.length<=siz D:=by
 cases D with|nil=>simp|cons d r=>have:=ACZ (D:=d::r) (D9 ..);omega
theorem Ib.bnd(h:Ib w A n c ds)(hB:siz (BJ ds)<=B):n<=B/\∀d∈ds,d.1.n<=B:=by
 (have h1:(BJ ds).length=n:=by have:=h.row.Ov;simpa[BJ,Gi] using this);refine⟨by have:=AKZ (BJ ds);omega,λd hd=>?_⟩;have h2:(d.1.nm,BD d.2)∈BJ ds:=Bz.2 ⟨d,hd,rfl⟩;have h3:=ACZ h2;(have h4:(BD d.2).length=d.1.n:=by have:=(h.Ed d hd).row.Ov;simpa[BD,F5] using this);simp only at h3;omega
theorem Zk(h:Ib w A n c ds)(hB:Eb (BJ ds)<=B):n<=B/\bytesOf (BJ ds)<=B/\siz (BJ ds)<=B/\∀x∈ds,x.1.n<=B/\∀f∈x.2,f.1.n<=B:=by
 have hs: ∀l:List (ByteArray×List Int),(l.map λx=>x.2.length+1).sum=(l.map λx=>x.2.length).sum+l.length:=by
  intro l
  induction l with|nil=>rfl|cons x r ih=>simp only[BK,Bo,ES,ih];omega
 have he: ∀D:GH,Eb D=bytesOf D+siz D:=by
  intro D;unfold Eb bytesOf siz
  induction D with|nil=>rfl|cons x r ih=>simp only[BK,Bo,hs] at ih⊢;omega
 have h0:=he (BJ ds);have h1:=h.bnd (B:=B) Ad;refine⟨h1.1,Ad,Ad,λx hx=>⟨h1.2 x hx,λf hf=>?_⟩⟩;have h2:(x.1.nm,BD x.2)∈BJ ds:=Bz.2 ⟨x,hx,rfl⟩;have h3:(f.1.nm,f.2)∈BD x.2:=Bz.2 ⟨f,hf,rfl⟩
 have hm: ∀(l:List (ByteArray×List Int)) y,y∈l->y.2.length<=(l.map λx=>x.2.length).sum:=by
  intro l
  induction l with
  |nil=>simp|cons z r ih=>
   intro y hy;simp only[BK,Bo];rcases BB.1 hy with rfl|hy;omega;have:=ih y hy;omega
 have hM: ∀(D:GH) d,d∈D->(d.2.map λx=>x.2.length).sum<=bytesOf D:=by
  unfold bytesOf;intro D
  induction D with
  |nil=>simp|cons z r ih=>
   intro y hy;simp only[BK,Bo];rcases BB.1 hy with rfl|hy;omega;have:=ih y hy;omega
 have h4:=hm _ _ h3;have h5:=hM _ _ h2;have h6:=((h.Ed x hx).dat f hf).AOG;simp only at h4 h5;omega
section
variable {w w1:AL} {p:Nat} {G:Bh} {S S1:St} {B:Nat}
end
open Go.Joins
theorem ATZ(h:(Lit.int .i64 q).wf=true):q<=9223372036854775807:=by
 simp only[Lit.wf,DU,decide_eq_true_eq] at h;(have h2:IntKind.max .i64=9223372036854775807:=by decide);rw[h2] at h;omega
end
open Go Go.Conc Go.Joins
section
variable {held:Bool}{p:List GN}{xs:List AP}{c n sz:Nat}{A:Option Ag}{H:Type}{e t:Aj}{v:AP}{W:AL}
def JH (W:AL) (b:Nat):Prop:=∃p t f,W.heap[b]? =AA (.cells p t f)
theorem cells_of_cell{a:Ag}(h:W.cell? a=AA v):JH W a.block:=by
 unfold PU at h;split at h;exact⟨_,_,_,by assumption⟩;cases h
def WI (W:AL) (A:Option Ag) (c:Nat):Prop:=∀ad,A=AA ad->0<c->JH W ad.block
theorem WI.none{W:AL}{c:Nat}:WI W AB c:=λ_ h=>by cases h
structure cZ (W:AL) (A:Option Ag) (n c:Nat) (fs:List FM):Prop where
 files:FO W A n c fs
 row:WI W A c
 dat: ∀f∈fs,WI W f.1.A f.1.c/\∀z∈f.2,0<=z/\z<=255
structure AEl (W:AL) (A:Option Ag) (n c:Nat) (ds:List DM):Prop where
 MG:Ib W A n c ds
 row:WI W A c
 Ed: ∀d∈ds,cZ W d.1.A d.1.n d.1.c d.2
theorem WJ{P:Program}{enc:Aj×AP->H}{sp:Nat->Bool}{v1:AP}{y:Dl H×List GN}(ht:P.underlying t=AA (.slice e))(h1:DataW.trod enc P W 0 sp held n t [v1]=AA y): ∃a l c,v1=.slice a l c:=by
 rcases open_slice ht h1 with ⟨h1,_⟩|⟨a,len,cap,m,n,D,Pl,h1,_⟩;simp at h1;exact⟨_,_,_,h1⟩;simp at h1;exact⟨_,_,_,h1⟩
theorem jE{enc:Aj×AP->H}(ht:Tryz.prog.underlying t=AA (.slice e))(he:Tryz.prog.cellsOf e=1){a:Option Ag}{l:Nat}{y:Dl H×List GN}
  (h:DataW.trod enc Tryz.prog W 0 (λ_=>true) held n t [.slice a l c]=AA y):WI W a c:=λad e0 hc=>by
 subst e0;rcases open_slice1 ht he h with ⟨h1,_⟩|⟨a2,len,cap,m,n,V,D,Pl,hcs,hb,hl,hm,hmm,hx,hi⟩;simp at h1;simp at hcs;obtain⟨rfl,rfl,rfl⟩:=hcs;have:=cells_of_cell (hi 0 (by rw[hmm];simpa using hc)).1;rwa[add_block] at this
theorem jF{enc:Aj×AP->H}{d:Dl H}
  (hv: ∃a l c,v=.slice a l c) (h:DataW.Trod enc Tryz.prog W 0 (λ_=>true) held 25 v d p):
  ∃A n c,∃fs:List FM,v=.slice A n c/\cZ W A n c fs/\(fs.map λx=>x.2.length+1).sum+1<=Rows.uptoBulk d:=by
 obtain⟨a0,l0,c0,rfl⟩:=hv;obtain⟨fuel,hf⟩:=h;rcases SB (e:=64) Tryz.underlying25 Tryz.underlying64 Aq Aq hf with ⟨hcs,hx⟩|⟨a,len,cap,m,D,Pl,hcs,hb,hl,hm,hmm,hx,hi⟩
 ·simp[Nc] at hcs;obtain⟨rfl,rfl,rfl⟩:=hcs;simp only[Nw] at hx;obtain⟨rfl,rfl⟩:=hx;exact⟨AB,0,0,[],rfl,⟨⟨Rd.nil _ _,AV⟩,.none,AV⟩,by simp[Rows.uptoBulk]⟩
 simp[Nc] at hcs;obtain⟨rfl,rfl,rfl⟩:=hcs;simp only[Nw] at hx;obtain⟨rfl,rfl⟩:=hx;have hle:l0<=m:=by rw[hmm];split<;>omega
 have el: ∀i,i<l0->∃x:FM,(W.cell? (a.add (i*2))=AA (.string x.1.nm)/\W.cell? (a.add (i*2+1))=AA (.slice x.1.A x.1.n x.1.c)/\Rd W 1 x.1.A x.1.n x.1.c (bv x.2)/\WI W x.1.A x.1.c/\∀z∈x.2,0<=z/\z<=255)/\x.2.length+1<=Rows.uptoBulk (D i):=by
  intro i hil;obtain⟨ys,n',hD,hPl,hyl,hfl⟩:=hi i Ad;obtain⟨v0,y0,e0,g0,t0⟩:=hfl 0 _ rfl;obtain⟨v1,y1,e1,g1,t1⟩:=hfl 1 _ rfl;obtain⟨nm,h0,hy0,_⟩:=DataW.trod_string Tryz.underlying9 t0;simp at h0;subst h0;obtain⟨a1,l1,c1,rfl⟩:=WJ Tryz.underlying62 t1;obtain⟨A1,n1,zS,zs,hz1,hz2,hz3,hz4,hz5⟩:=AG2 Tryz.underlying62 Tryz.underlying5 Aq ⟨_,_,_,rfl⟩ ⟨n',t1⟩;injection hz1 with i1 i2 i3;subst i1;subst i2;subst i3;refine⟨(⟨nm,a1,l1,c1⟩,zs),⟨by simpa using e0,e1,hz2,jE Tryz.underlying62 Aq t1,λz hz=>bounds_u8 (hz5 z hz)⟩,?_⟩;rw[hD]
  have hys:ys=[y0,y1]:=by
   match ys,hyl with| [z0,z1],_=>simp at g0 g1;rw[g0,g1]
  rw[hys];simp only[BK,EG,Rows.uptoBulk,Rows.uptoBulkAll,hz3];omega
 obtain⟨fs,hll,hlp⟩:=collect l0 el;have hs:=Y3 D l0 fs (λx=>x.2.length+1) hll (λi z hz=>(hlp i z hz).2);refine⟨AA a,l0,c0,fs,rfl,⟨⟨AF9 (by simp[F5,hll]) hl hm (λi x hx=>?_),λf hf=>?_⟩,(λad e hc=>by injection e with e;subst e;obtain⟨ys,n',_,_,_,hfl⟩:=hi 0 (by rw[hmm];simpa using hc);obtain⟨v0,y0,e0,_,_⟩:=hfl 0 _ rfl;have:=cells_of_cell e0;rwa[add_block] at this),λf hf=>?_⟩,?_⟩
 ·unfold F5 at hx;rw[Bg] at hx
  cases hz:fs[i]? with
  |none=>rw[hz] at hx;cases hx|some z=>
   rw[hz] at hx;simp at hx;subst hx;exact⟨(hlp i z hz).1.1,(hlp i z hz).1.2.1⟩
 ·obtain⟨i,hi'⟩:=Qx hf;exact (hlp i f hi').1.2.2.1
 ·obtain⟨i,hi'⟩:=Qx hf;exact (hlp i f hi').1.2.2.2
 simp only[Rows.uptoBulk];omega
theorem AEm{enc:Aj×AP->H}{d:Dl H}
  (hv: ∃a l c,v=.slice a l c) (h:DataW.Trod enc Tryz.prog W 0 (λ_=>true) held 22 v d p):
  ∃A n c,∃ds:List DM,v=.slice A n c/\AEl W A n c ds/\Eb (BJ ds)+1<=Rows.uptoBulk d:=by
 obtain⟨a0,l0,c0,rfl⟩:=hv;obtain⟨fuel,hf⟩:=h;rcases SB (e:=77) Tryz.underlying22 Tryz.underlying77 Aq Aq hf with ⟨hcs,hx⟩|⟨a,len,cap,m,D,Pl,hcs,hb,hl,hm,hmm,hx,hi⟩
 ·simp[Nc] at hcs;obtain⟨rfl,rfl,rfl⟩:=hcs;simp only[Nw] at hx;obtain⟨rfl,rfl⟩:=hx;exact⟨AB,0,0,[],rfl,⟨⟨Rd.nil _ _,AV⟩,.none,AV⟩,by simp[Rows.uptoBulk,Eb,BJ]⟩
 simp[Nc] at hcs;obtain⟨rfl,rfl,rfl⟩:=hcs;simp only[Nw] at hx;obtain⟨rfl,rfl⟩:=hx;have hle:l0<=m:=by rw[hmm];split<;>omega
 have el: ∀i,i<l0->∃x:DM,(W.cell? (a.add (i*2))=AA (.string x.1.nm)/\W.cell? (a.add (i*2+1))=AA (.slice x.1.A x.1.n x.1.c)/\cZ W x.1.A x.1.n x.1.c x.2)/\(x.2.map λf=>f.2.length+1).sum+1<=Rows.uptoBulk (D i):=by
  intro i hil;obtain⟨ys,n',hD,hPl,hyl,hfl⟩:=hi i Ad;obtain⟨v0,y0,e0,g0,t0⟩:=hfl 0 _ rfl;obtain⟨v1,y1,e1,g1,t1⟩:=hfl 1 _ rfl;obtain⟨nm,h0,hy0,_⟩:=DataW.trod_string Tryz.underlying9 t0;simp at h0;subst h0;obtain⟨a1,l1,c1,rfl⟩:=WJ Tryz.underlying25 t1;obtain⟨A1,n1,zS,zs,hz1,hz2,hz4⟩:=jF ⟨_,_,_,rfl⟩ ⟨n',t1⟩;injection hz1 with i1 i2 i3;subst i1;subst i2;subst i3;refine⟨(⟨nm,a1,l1,c1⟩,zs),⟨by simpa using e0,e1,hz2⟩,?_⟩;rw[hD]
  have hys:ys=[y0,y1]:=by
   match ys,hyl with| [z0,z1],_=>simp at g0 g1;rw[g0,g1]
  rw[hys];simp only[BK,EG,Rows.uptoBulk,Rows.uptoBulkAll];omega
 obtain⟨fs,hll,hlp⟩:=collect l0 el;(have hbk:Eb (BJ fs)=(fs.map λx=>(x.2.map λf=>f.2.length+1).sum+1).sum:=by unfold Eb BJ;rw[Eg];congr 1;apply He;intro x _;simp[BD,Function.comp_def]);have hs:=Y3 D l0 fs (λx=>(x.2.map λf=>f.2.length+1).sum+1) hll (λi z hz=>(hlp i z hz).2);refine⟨AA a,l0,c0,fs,rfl,⟨⟨AF9 (by simp[Gi,hll]) hl hm (λi x hx=>?_),λf hf=>?_⟩,(λad e hc=>by injection e with e;subst e;obtain⟨ys,n',_,_,_,hfl⟩:=hi 0 (by rw[hmm];simpa using hc);obtain⟨v0,y0,e0,_,_⟩:=hfl 0 _ rfl;have:=cells_of_cell e0;rwa[add_block] at this),λf hf=>?_⟩,?_⟩
 ·unfold Gi at hx;rw[Bg] at hx
  cases hz:fs[i]? with
  |none=>rw[hz] at hx;cases hx|some z=>
   rw[hz] at hx;simp at hx;subst hx;exact⟨(hlp i z hz).1.1,(hlp i z hz).1.2.1⟩
 ·obtain⟨i,hi'⟩:=Qx hf;exact (hlp i f hi').1.2.2.files
 ·obtain⟨i,hi'⟩:=Qx hf;exact (hlp i f hi').1.2.2
 rw[hbk];simp only[Rows.uptoBulk];omega
theorem ACa{enc:Aj×AP->H}{b:Nat}{r:Go.Reach}{d:Dl H}
  (hv:Value.okWide Tryz.prog W r b 24 v) (h:DataW.Trod enc Tryz.prog W 0 (λ_=>true) held 24 v d p):
  ∃A n c,∃ds:List DM,∃q:Int,v=.agg #[.slice A n c,.int .i64 q]/\AEl W A n c ds/\q<=9223372036854775807/\Eb (BJ ds)+1<=Rows.uptoBulk d:=by
 obtain⟨cs,rfl,hsz⟩:=okWide_struct Tryz.underlying24 hv;obtain⟨c0,c1,rfl⟩:=array2 (hsz.trans Aq);obtain⟨fuel,hf⟩:=h;obtain⟨y0,y1,m,hx,hl,h0,h1⟩:=trod_struct2 Tryz.underlying24 (by simpa[Nc] using hf);simp only[Nw] at hx;obtain⟨rfl,rfl⟩:=hx;(have e0:Tryz.prog.cellsOf 22=1:=by kernel_rfl);(have e1:Tryz.prog.cellsOf 3=1:=by kernel_rfl);simp only[e0,e1,X6,lJ,dL,kM] at h0 h1;obtain⟨a,l,c,hc⟩:=slice_form Tryz.underlying22 h0;simp only[IV,and_true] at hc;subst hc;obtain⟨A,n0,cc,ds,k1,k2,k3⟩:=AEm ⟨_,_,_,rfl⟩ ⟨m,by simpa[Nc] using h0⟩;injection k1 with i1 i2 i3;subst i1;subst i2;subst i3;obtain⟨q,hq,_,hw⟩:=DataW.trod_int Tryz.underlying3 h1;simp only[IV,and_true] at hq;subst hq;refine⟨_,_,_,ds,q,rfl,k2,ATZ hw,?_⟩;simp only[Rows.uptoBulk,Rows.uptoBulkAll];omega
theorem AAM{enc:Aj×AP->H}{c0 c1:AP}{y:Dl H×List GN}(h:DataW.trod enc Tryz.prog W 0 (λ_=>true) held n 30 [c0,c1]=AA y):
  ∃K kn kc,∃ks:List Bool,∃names:Int,c0=.slice K kn kc/\c1=.int .i64 names/\Rd W 1 K kn kc (kv ks)/\WI W K kc/\kn+1<=Rows.uptoBulk y.1:=by
 obtain⟨y0,y1,m,hx,hl,h0,h1⟩:=trod_struct2 Tryz.underlying30 h;subst hx;(have e0:Tryz.prog.cellsOf 28=1:=by kernel_rfl);(have e1:Tryz.prog.cellsOf 3=1:=by kernel_rfl);simp only[e0,e1,X6,lJ,dL,kM] at h0 h1;obtain⟨a,l,c,hc⟩:=slice_form Tryz.underlying28 h0;simp only[IV,and_true] at hc;subst hc;obtain⟨A2,n2,cc2,ks,k1,k2,k3,k4⟩:=AEQ Tryz.underlying28 Tryz.underlying4 Aq ⟨_,_,_,rfl⟩ ⟨m,by simpa[Nc] using h0⟩;injection k1 with i1 i2 i3;subst i1;subst i2;subst i3;obtain⟨q,hq,_,_⟩:=DataW.trod_int Tryz.underlying3 h1;simp only[IV,and_true] at hq;subst hq;refine⟨_,_,_,ks,q,rfl,rfl,k2,jE Tryz.underlying28 Aq h0,?_⟩;simp only[Rows.uptoBulk,Rows.uptoBulkAll];omega
section
variable {W w':AL} (hcar: ∀(a:Ag) (x:AP),W.cell? a=AA x->∃v,w'.cell? a=AA v/\Sh (Ou (JH W)) v x) (hsz:W.heap.size<=w'.heap.size)
theorem QU{x:AP}(h:Sh (Ou (JH W)) v x)(hx:flat x=true):v=x:=h.zI (.flat hx)
theorem AHR(h:Sh (Ou (JH W)) v (.slice A n c))(hA:WI W A c)(hn:n<=c):v=.slice A n c\/(n=0/\c=0/\∃b,v=.slice (AA b) 0 0):=by
 cases A with
 |none=>exact .inl (QU h rfl)|some ad=>
  rcases O1 c with rfl|hc
  ·(obtain rfl:n=0:=by omega);exact .inr ⟨rfl,rfl,h.AL5⟩
  exact .inl (h.zI (.slice ⟨rfl,hA ad rfl hc⟩))
include hcar hsz
theorem AAN(h:Rd W sz A n c xs)(hA:WI W A c)(hv:Sh (Ou (JH W)) v (.slice A n c)):
  ∃A' xs',v=.slice A' n c/\Rd w' sz A' n c xs'/\∀(i:Nat) x,xs[i]? =AA x->∃x',xs'[i]? =AA x'/\Sh (Ou (JH W)) x' x:=by
 rcases AHR hv hA h.2.1 with rfl|⟨rfl,rfl,b,rfl⟩
 ·cases A with
  |none=>
   have hn:=h.2.2.2.1 rfl
   have hx:xs=[]:=by
    have h1:=h.1;have h2:=h.2.1;rw[show n=0 by omega] at h1;simpa using h1
   subst hx;exact⟨AB,[],rfl,⟨h.1,h.2.1,h.2.2.1,h.2.2.2.1,λad e=>by cases e⟩,λi x hx=>by simp at hx⟩
  |some ad=>
   obtain⟨Z,hZ,hz⟩:=collect (Q:=λi (v:AP)=>w'.cell? (ad.add i)=AA v/\∀x,xs[i]? =AA x->Sh (Ou (JH W)) v x) xs.length (λi hi=>by
    obtain⟨v,h1,h2⟩:=hcar _ _ ((h.2.2.2.2 ad rfl).2 i _ (CQ hi))
    exact⟨v,h1,λx hx=>by rw[CQ hi] at hx;cases hx;exact h2⟩)
   refine⟨AA ad,Z,rfl,⟨by rw[hZ];exact h.1,h.2.1,h.2.2.1,h.2.2.2.1,λad' e=>?_⟩,λi x hx=>?_⟩
   ·injection e with e;subst e;exact⟨λhn=>ER ((h.2.2.2.2 ad rfl).1 hn) hsz,λj u hu=>(hz j u hu).1⟩
   have hl:=(DC.1 hx).1;obtain⟨z,hz'⟩: ∃z,Z[i]? =AA z:=⟨_,CQ Ad⟩;exact⟨z,hz',(hz i z hz').2 x hx⟩
 have hx:xs=[]:=by
  have:=h.1;simpa using this
 subst hx;exact⟨AA b,[],rfl,⟨AV,Ba _,D5 _,(λe=>by cases e),λad e=>⟨λh=>Ai h Ad,λj u hu=>by simp at hu⟩⟩,λi x hx=>by simp at hx⟩
theorem ACb(h:Rd W sz A n c xs)(hA:WI W A c)(hv:Sh (Ou (JH W)) v (.slice A n c))(hf: ∀x∈xs,flat x=true): ∃A',v=.slice A' n c/\Rd w' sz A' n c xs:=by
 obtain⟨A',xs',h1,h2,h3⟩:=AAN hcar hsz h hA hv
 have:xs'=xs:=by
  apply N7;intro i
  cases hx:xs[i]? with
  |none=>
   rw[H8];have:=xn.1 hx;have:=h.1;have:=h2.1;omega
  |some x=>
   obtain⟨x',h4,h5⟩:=h3 i x hx;rw[h4,QU h5 (hf x (Bq hx))]
 exact⟨A',h1,by rw[<- this];exact h2⟩
theorem qG{fs:List FM}(h:cZ W A n c fs)(hv:Sh (Ou (JH W)) v (.slice A n c)): ∃A' fs',v=.slice A' n c/\FO w' A' n c fs'/\BD fs'=BD fs:=by
 obtain⟨A',xs',h1,h2,h3⟩:=AAN hcar hsz h.files.row h.row hv;have hl:=h.files.row.Ov
 obtain⟨Z,hZ,hz⟩:=collect (Q:=λi (z:FM)=>xs'[i*2]? =AA (.string z.1.nm)/\xs'[i*2+1]? =AA (.slice z.1.A z.1.n z.1.c)/\Rd w' 1 z.1.A z.1.n z.1.c (bv z.2)/\∀f,fs[i]? =AA f->(z.1.nm,z.2)=(f.1.nm,f.2)) fs.length (λi hi=>by
  obtain⟨f,hf⟩: ∃f,fs[i]? =AA f:=⟨_,CQ hi⟩;(have hff:(F5 fs)[i]? =AA f.1:=by unfold F5;rw[Bg,hf];rfl);have g0:=QQ (F5 fs) i 0 Ar;have g1:=QQ (F5 fs) i 1 Ar;rw[hff] at g0 g1;obtain⟨u0,k0,l0⟩:=h3 (i*2) (.string f.1.nm) (by simpa[Lc.cells] using g0);obtain⟨u1,k1,l1⟩:=h3 (i*2+1) (.slice f.1.A f.1.n f.1.c) (by simpa[Lc.cells] using g1);obtain rfl:=QU l0 rfl;have hm:=Bq hf;obtain⟨B,rfl,hB⟩:=ACb hcar hsz (h.files.dat f hm) (h.dat f hm).1 l1 (λx hx=>by obtain⟨z,_,rfl⟩:=Bz.1 hx;rfl)
  exact⟨(⟨f.1.nm,B,f.1.n,f.1.c⟩,f.2),k0,k1,hB,λf' hf'=>by rw[hf] at hf';cases hf';rfl⟩)
 have hxl:xs'.length=Z.length*2:=by
  have a1:=h2.1;unfold F5 at hl;rw[DZ] at hl;omega
 have hxs:xs'=Ko (F5 Z):=by
  apply N7;intro j;have hj:=QQ (F5 Z) (j/2) (j % 2) (Z8 _ Ar);rw[show j/2*2+j % 2=j by omega] at hj;rw[hj];(have e1:(F5 Z)[j/2]? =(Z[j/2]?).map (·.1):=by unfold F5;rw[Bg]);rw[e1]
  cases hzz:Z[j/2]? with
  |none=>
   have:=xn.1 hzz;rw[H8 Ad];rfl
  |some z=>
   obtain⟨q0,q1,_,_⟩:=hz (j/2) z hzz;rcases xh j with e|e
   ·rw[show j/2*2=j by omega] at q0;rw[q0,e];rfl
   rw[show j/2*2+1=j by omega] at q1;rw[q1,e];rfl
 refine⟨A',Z,h1,⟨by rw[<- hxs];exact h2,λf hf=>?_⟩,?_⟩
 ·obtain⟨i,hi⟩:=Qx hf;exact (hz i f hi).2.2.1
 unfold BD;apply N7;intro i;rw[Bg,Bg];by_cases hi:i<fs.length
 ·obtain⟨f,hf⟩: ∃f,fs[i]? =AA f:=⟨_,CQ hi⟩;obtain⟨z,hzz⟩: ∃z,Z[i]? =AA z:=⟨_,CQ Ad⟩;rw[hf,hzz];exact congrArg AA ((hz i z hzz).2.2.2 f hf)
 rw[H8 Ad,H8 Ad]
theorem AHS{ds:List DM}(h:AEl W A n c ds)(hv:Sh (Ou (JH W)) v (.slice A n c)): ∃A' ds',v=.slice A' n c/\Ib w' A' n c ds'/\BJ ds'=BJ ds:=by
 obtain⟨A',xs',h1,h2,h3⟩:=AAN hcar hsz h.MG.row h.row hv;have hl:=h.MG.row.Ov
 obtain⟨Z,hZ,hz⟩:=collect (Q:=λi (z:DM)=>xs'[i*2]? =AA (.string z.1.nm)/\xs'[i*2+1]? =AA (.slice z.1.A z.1.n z.1.c)/\FO w' z.1.A z.1.n z.1.c z.2/\∀f,ds[i]? =AA f->(z.1.nm,BD z.2)=(f.1.nm,BD f.2)) ds.length (λi hi=>by
  obtain⟨f,hf⟩: ∃f,ds[i]? =AA f:=⟨_,CQ hi⟩;(have hff:(Gi ds)[i]? =AA f.1:=by unfold Gi;rw[Bg,hf];rfl);have g0:=QQ (Gi ds) i 0 Ar;have g1:=QQ (Gi ds) i 1 Ar;rw[hff] at g0 g1;obtain⟨u0,k0,l0⟩:=h3 (i*2) (.string f.1.nm) (by simpa[Lc.cells] using g0);obtain⟨u1,k1,l1⟩:=h3 (i*2+1) (.slice f.1.A f.1.n f.1.c) (by simpa[Lc.cells] using g1);obtain rfl:=QU l0 rfl;have hm:=Bq hf;obtain⟨B,F,rfl,hB,hF⟩:=qG hcar hsz (h.Ed f hm) l1
  exact⟨(⟨f.1.nm,B,f.1.n,f.1.c⟩,F),k0,k1,hB,λf' hf'=>by rw[hf] at hf';cases hf';rw[hF]⟩)
 have hxl:xs'.length=Z.length*2:=by
  have a1:=h2.1;unfold Gi at hl;rw[DZ] at hl;omega
 have hxs:xs'=Ko (Gi Z):=by
  apply N7;intro j;have hj:=QQ (Gi Z) (j/2) (j % 2) (Z8 _ Ar);rw[show j/2*2+j % 2=j by omega] at hj;rw[hj];(have e1:(Gi Z)[j/2]? =(Z[j/2]?).map (·.1):=by unfold Gi;rw[Bg]);rw[e1]
  cases hzz:Z[j/2]? with
  |none=>
   have:=xn.1 hzz;rw[H8 Ad];rfl
  |some z=>
   obtain⟨q0,q1,_,_⟩:=hz (j/2) z hzz;rcases xh j with e|e
   ·rw[show j/2*2=j by omega] at q0;rw[q0,e];rfl
   rw[show j/2*2+1=j by omega] at q1;rw[q1,e];rfl
 refine⟨A',Z,h1,⟨by rw[<- hxs];exact h2,λf hf=>?_⟩,?_⟩
 ·obtain⟨i,hi⟩:=Qx hf;exact (hz i f hi).2.2.1
 unfold BJ;apply N7;intro i;rw[Bg,Bg];by_cases hi:i<ds.length
 ·obtain⟨f,hf⟩: ∃f,ds[i]? =AA f:=⟨_,CQ hi⟩;obtain⟨z,hzz⟩: ∃z,Z[i]? =AA z:=⟨_,CQ Ad⟩;rw[hf,hzz];exact congrArg AA ((hz i z hzz).2.2.2 f hf)
 rw[H8 Ad,H8 Ad]
end
theorem ARN{H:Array Obj}{ts:List AP}
  (hrow: ∀b,JH W b->∀p t f,W.heap[b]? =AA (.cells p t f)->∃p',H[b]? =AA (.cells p' t f)/\UM K1.F (Ou (JH W)) W.heap.size ts p' p) (t:Nat->Question->Nat)
  (a:Ag) (x:AP) (hc:W.cell? a=AA x): ∃v,(({W with heap:=H}:AL).DL t).cell? a=AA v/\Sh (Ou (JH W)) v x:=by
 obtain⟨p,ty,f,hp⟩:=cells_of_cell hc;obtain⟨p',hp',hsz,hst⟩:=hrow _ ⟨p,ty,f,hp⟩ p ty f hp;unfold PU at hc⊢;rw[hp] at hc;rw[show (({W with heap:=H}:AL).DL t).heap[a.block]? =H[a.block]? from rfl,hp'];by_cases hs:a.spot.isSome;simp[hs] at hc;simp only[hs,C9,if_false] at hc⊢;(have hlt:a.off<p'.size:=by rw[hsz];exact (Df.1 hc).1);obtain⟨v,hv⟩: ∃v,p'[a.off]? =AA v:=⟨_,FD hlt⟩;exact⟨v,hv,(hst a.off v x hv hc).2⟩
end
theorem YR(e:Int)(w:AL):A7 Af 38 #[.int .i64 e] w λr w'=>r=.returned (if e=0 then .nilIface else .iface 51 (.int .i64 e))/\w'=w:=by
 by_cases h:e=0
 ·subst h;go_enter AJH,Tryz.ntmps38;go_wp2;go_ret;exact⟨rfl,rfl⟩
 (have hb:(e==0)=false:=by simp[h]);(have hd:decide (e=0)=false:=by simp[h]);simp only[BM h];clear h;go_enter AJH,Tryz.ntmps38;go_wp2;go_ret;exact⟨rfl,rfl⟩
theorem wrap_nil(op:ByteArray)(pl:Int)(w:AL):A7 Af 37 #[.string op,.int .i64 pl,.nilIface] w λr w'=>r=.returned .nilIface/\w'=w:=by
 go_enter AJG,Tryz.ntmps37;go_wp2;go_ret;exact⟨rfl,rfl⟩
theorem YS(op:ByteArray)(pl:Int)(t:Aj)(v:AP)(w:AL):A7 Af 37 #[.string op,.int .i64 pl,.iface t v] w λr w'=>r=.returned (.iface 140 (.pointer (AA ⟨w.heap.size,0,AB⟩)))/\w'=w.alloc (.cells #[.string op,.int .i64 pl,.iface t v] 142):=by
 go_enter AJG,Tryz.ntmps37;go_wp2;go_ret;exact⟨rfl,rfl⟩
theorem AHT(t:Aj)(v:AP)(w:AL):A7 Af 40 #[.iface t v,.nilIface] w λr w'=>r=.returned (.iface t v)/\w'=w:=by
 go_enter AJJ,Tryz.ntmps40;go_wp2;go_ret;exact⟨rfl,rfl⟩
theorem AHU(t u:Aj)(v x:AP)(w:AL):A7 Af 40 #[.iface t v,.iface u x] w λr w'=>r=.returned (.iface 150 (.pointer (AA ⟨w.heap.size,0,AB⟩)))/\w'=w.alloc (.cells #[.iface t v,.iface u x] 152):=by
 go_enter AJJ,Tryz.ntmps40;go_wp2;go_ret;exact⟨rfl,rfl⟩
def idx (s:ByteArray):List ByteArray->Option Nat
 | []=>AB|x::r=>if s=x then AA 0 else (idx s r).map (· +1)
open Classical in
theorem ACc{s:ByteArray}: ∀{l:List ByteArray},(idx s l).isSome=decide (s∈l)
 | []=>by simp[idx]
 |x::r=>by
  unfold idx;by_cases h:s=x;rw[BZ h];simp[h];rw[BM h,xX,ACc];simp[h]
theorem AHV{s:ByteArray}{l:List ByteArray}(h: ∀x∈l,s≠x):idx s l=AB:=by
 induction l with|nil=>rfl|cons x r ih=>unfold idx;rw[BM (h x (D9 ..)),ih λy hy=>h y (CO _ hy)];rfl
theorem AGA{s:ByteArray}: ∀{l:List ByteArray} {k:Nat},(∀x∈l.take k,s≠x)->l[k]? =AA s->idx s l=AA k
 | [],k,_,h=>by simp at h|x::r,0,_,h=>by simp at h;unfold idx;rw[BZ h.symm]
 |x::r,k+1,h1,h=>by
  simp at h;unfold idx;rw[BM (h1 x AV),AGA (k:=k) (λy hy=>h1 y (by simp[hy])) h];rfl
def wI (s:ByteArray) (ns:List ByteArray):Int:=match idx s ns with|some k=>(k:Int)|none=> -1
theorem AEn(A:Option Ag)(n c:Nat)(ns:List ByteArray)(s:ByteArray)(w:AL)(h:Rd w 1 A n c (PN ns))(hn:n<=1073741824):
  A7 Af 128 #[.slice A n c,.string s] w λe w'=>e=.returned (.int .i64 (wI s ns))/\AZ [] w w':=by
 (have hl:ns.length=n:=by have:=h.1;simp[PN] at this;omega);have HR:=AQ h;have HL:=AQ hl;clear h hl;go_enter AJS,Tryz.ntmps128;go_wp2;go_loopw [8] (λi wr=>∃k:Nat,k<=n/\i=.int .i64 k/\AZ [] w wr/\Hid (∀x∈ns.take k,s≠x)) (λi _=>n - (intOf i).toNat)
 case atStart=>exact⟨0,D5 _,rfl,.refl _ _,AQ AV⟩
 obtain⟨k,hk,rfl,EU,hF⟩:=hrel;by_cases hlt:k<n
 ·obtain⟨ad,u,rfl,hu,hcell⟩:=(HR.out.Ak EU AV).fC hlt
  obtain⟨x,hx,rfl⟩: ∃x,ns[k]? =AA x/\u=.string x:=by
   simp only[PN,Bg,Jz] at hu;obtain⟨x,h1,h2⟩:=hu;exact⟨x,h1,h2.symm⟩
  have HX:=AQ hx;clear hu hx;by_cases he:s=x
  ·(have hb:(s.toList==x.toList)=true:=by rw[<- bz];exact decide_eq_true he);have HE:=AQ he;clear he;go_wp2;go_ret;exact⟨by unfold wI;rw[AGA hF.out (by rw[HX.out,HE.out])];rfl,EU⟩
  (have hb:(s.toList==x.toList)=false:=by rw[<- bz];exact decide_eq_false he);have HE:=AQ he;clear he;go_wp2;go_roundw
  case rel=>
   refine⟨k+1,Ad,by go_num,EU,AQ λy hy=>?_⟩;rw[U6,HX.out] at hy;rcases Be.1 hy with hy|hy;exact hF.out y hy;simp at hy;rw[hy];exact HE.out
  simp[intOf];omega
 (have hkn:k=n:=by omega);subst hkn;go_wp2;go_ret;refine⟨?_,EU⟩;have h1:=hF.out;rw[FH (by rw[HL.out];exact Ba _)] at h1;unfold wI;rw[AHV h1];rfl
theorem AHW(s:ByteArray)(ns:List ByteArray):decide (0<=wI s ns)=(idx s ns).isSome:=by
 unfold wI
 cases idx s ns with|none=>rfl|some k=>simp
theorem tu(A:Option Ag)(n c:Nat)(ns:List ByteArray)(s:ByteArray)(w:AL)(h:Rd w 1 A n c (PN ns))(hn:n<=1073741824):
  A7 Af 96 #[.slice A n c,.string s] w λe w'=>e=.returned (.bool (idx s ns).isSome)/\AZ [] w w':=by
 have k1:=AEn A n c ns s w h hn;rw[<- AHW];clear h
 generalize wI s ns=z at*
 have q1:= @AQG;go_enter ANO,Tryz.ntmps96;(go_wp2_with (go_at_call 128;refine k1.mono ?_;rintro e w1 ⟨rfl,hc1⟩));go_ret;exact⟨rfl,hc1⟩
end Go.Proofs.YtkkgcebhfghdnaaGreatDoor.Vw
