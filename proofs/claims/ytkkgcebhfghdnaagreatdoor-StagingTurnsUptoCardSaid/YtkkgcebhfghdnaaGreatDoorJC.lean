/- Layer 28, StagingTurns: behind a publishing that the power ended, another one of the same files to the same place ends as if nothing had been; where what comes in is together of bulk at most 1048576. -/
import Derived.Test.YtkkgcebhfghdnaaGreatDoorJB
set_option maxRecDepth 100000
set_option maxHeartbeats 8000000
open Go renaming wp_region_held_drew→Ei, wpAnyH_done→Ef, TypeId→Aj, Value→AP, World→AL, Calls→A7, Addr→Ag
open List renaming take_succ_cons→lJ, take_zero→dL
open Go.Value renaming cells→Nc
open Go.Frame renaming enter→BV
open Go.Act renaming put→BF
open Option renaming none→AB, some→AA
namespace Go.Proofs.YtkkgcebhfghdnaaGreatDoor.Vw
open Go Go.RowKit
section
variable {dst:ByteArray}{c n:Nat}{A:Option Ag}{w:AL}
theorem xE{v:AP}{L:List Nat}{fs:List J8}(h:JW w v L fs)(hg:NZ w):A7 Af 18 #[v] w λe w'=>e=.returned (.int .i64 (codeF fs))/\AZ [] w w':=by
 cases fs with
 |nil=>
  rw[JW.nil_ h];refine (code_nil w).mono ?_;rintro e w' ⟨rfl,rfl⟩;exact⟨rfl,AZ.refl _ _⟩
 |cons f gs=>exact wQ h hg
theorem Vq{w0 w1:AL}{G:Bh}{S:St}{B:Nat}(h:EI w0 G S)(hi:Inv B S){gs:List FM}{fs:Nb}(ho:Gu w1 A n c gs)(hv:BD gs=fs)(hc:AZ [] w0 w1)
  (hnew: ∀k∈bo A++Gj gs,w0.heap.size<=k) (hby: ∀f∈fs,∀x∈f.2,0<=x/\x<=255) (hB:4*B+2*Vh fs+100<=1073741824):
  A7 Af 14 #[.pointer (AA ⟨G.b,0,AB⟩),.string dst,.slice A n c] w1 (Sj w1 G (S.F7 dst fs).1 (S.F7 dst fs).2):=by
 subst hv;exact Xo (h.CE hc) hi ho.rd (λx hx hm=>by have:=hnew x hx;have:=h.lt x hm;omega) (λx hx=>ho.lt x hx) (λf hf x hx=>hby _ (Bz.2 ⟨f,hf,rfl⟩) x hx) hB
structure AC8 (W:AL) (sb:Nat) (A:Option Ag) (n c:Nat) (ds:List DM) (BI:Int) (dst:ByteArray) (FA:Option Ag) (fn fc:Nat) (fs:List FM) (at_:Int) (K:Option Ag) (kn kc:Nat) (ks:List Bool) (names:Int):Prop where
 g:NZ W
 ds:Ib W A n c ds
 fs:FO W FA fn fc fs
 k:Rd W 1 K kn kc (kv ks)
 s:Bl W sb 24 #[.slice A n c,.int .i64 BI]
 p:Bl W (sb+1) 27 #[.string dst,.slice FA fn fc]
 w:Bl W (sb+2) 32 #[.int .i64 at_,.slice K kn kc,.int .i64 names]
theorem AC8.Ak{W w:AL}{sb:Nat}{A:Option Ag}{n c:Nat}{ds:List DM}{BI:Int}{dst:ByteArray}{FA:Option Ag}{fn fc:Nat}{fs:List FM}{at_:Int}{K:Option Ag}{kn kc:Nat}{ks:List Bool}{names:Int}
  (h:AC8 W sb A n c ds BI dst FA fn fc fs at_ K kn kc ks names) (hc:AZ [] W w):AC8 w sb A n c ds BI dst FA fn fc fs at_ K kn kc ks names:=
 ⟨hc.cell h.g AV,h.ds.Ho hc,h.fs.Ho hc,h.k.Ak hc AV,h.s.Ak hc AV,h.p.Ak hc AV,h.w.Ak hc AV⟩
theorem AT1(hg:NZ w){ds:List DM}{BI:Int}{FA:Option Ag}{fn fc:Nat}{fs:List FM}{at_:Int}{K:Option Ag}{kn kc:Nat}{ks:List Bool}{names:Int}
  (h:Ib w A n c ds) (hf:FO w FA fn fc fs) (hk:Rd w 1 K kn kc (kv ks)):
  ∃W sb,((w.alloc (.cells #[.slice A n c,.int .i64 BI] 24)).alloc (.cells #[.string dst,.slice FA fn fc] 27)).alloc (.cells #[.int .i64 at_,.slice K kn kc,.int .i64 names] 32)=W/\w.heap.size=sb/\AZ [] w W/\W.heap.size=sb+3/\
   AC8 W sb A n c ds BI dst FA fn fc fs at_ K kn kc ks names:=by
 refine⟨_,_,rfl,rfl,(((AZ.refl [] w).alloc _).alloc _).alloc _,AV,?_⟩;have hc:=(((AZ.refl [] w).alloc (.cells #[.slice A n c,.int .i64 BI] 24)).alloc (.cells #[.string dst,.slice FA fn fc] 27)).alloc (.cells #[.int .i64 at_,.slice K kn kc,.int .i64 names] 32);refine⟨hc.cell hg AV,h.Ho hc,hf.Ho hc,hk.Ak hc AV,(Bl.new w _ _).Ak (((AZ.refl [] _).alloc _).alloc _) AV,?_,?_⟩
 ·have:=(Bl.new (w.alloc (.cells #[.slice A n c,.int .i64 BI] 24)) 27 #[.string dst,.slice FA fn fc]).Ak ((AZ.refl [] _).alloc (.cells #[.int .i64 at_,.slice K kn kc,.int .i64 names] 32)) AV;simpa using this
 have:=Bl.new ((w.alloc (.cells #[.slice A n c,.int .i64 BI] 24)).alloc (.cells #[.string dst,.slice FA fn fc] 27)) 32 #[.int .i64 at_,.slice K kn kc,.int .i64 names];simpa using this
theorem AHo(w:AL)(hg:NZ w)(A:Option Ag)(n c:Nat)(ds:List DM)(BI:Int)(dst:ByteArray)(FA:Option Ag)(fn fc:Nat)(fs:List FM)(at_:Int)(K:Option Ag)(kn kc:Nat)(ks:List Bool)(names:Int)
  (h:Ib w A n c ds) (hf:FO w FA fn fc fs) (hK:Rd w 1 K kn kc (kv ks)) (hn:n<=1073741824) (hfn:fn<=1073741824) (hkn:kn<=1073741824) (hb:Eb (BJ ds)<=1048576) (hl:Vh (BD fs)<=6291456)
  (hds: ∀x∈ds,x.1.n<=1073741824/\∀f∈x.2,f.1.n<=1073741824) (hfs: ∀x∈fs,x.1.n<=1073741824) (hby: ∀f∈BD fs,∀x∈f.2,0<=x/\x<=255) (hq:BI<=9223372036854775807):
  A7 Af 4 #[.agg #[.slice A n c,.int .i64 BI],.agg #[.string dst,.slice FA fn fc],.agg #[.int .i64 at_,.slice K kn kc,.int .i64 names]] w λe w'=>e=.returned (.bool true)/\AZ [] w w':=by
 obtain⟨W,sb,hW,hsb,hcW,hWs,hE⟩:=AT1 (BI:=BI) (dst:=dst) (at_:=at_) (names:=names) hg h hf hK;have HWS:=AQ hWs;have HE:Hid (∀w',AZ [] W w'->AC8 w' sb A n c ds BI dst FA fn fc fs at_ K kn kc ks names):=AQ λw' hc=>hE.Ak hc;have HC:=AQ hcW;have HB:=AQ hb;have HL:=AQ hl;have HDS:=AQ hds;have HFS:=AQ hfs;have HBY:=AQ hby;have AGN:Hid (∀w' q s,AZ [] W w'->A7 Af 13 #[.agg #[.slice A n c,.int .i64 q],.int .i64 s] w' (AOj w' (BJ ds) q s)):=AQ λw' q s hc=>AE4 w' A n c ds q s (hE.Ak hc).ds hn Ad hds;have ACy:Hid (∀w',AZ [] W w'->A7 Af 15 #[.slice FA fn fc] w' (wR w' (BD fs))):=AQ λw' hc=>jL FA fn fc fs w' (hE.Ak hc).fs hfn hfs;have q8:= @VC8;have q13:= @ASF;have tV:= @ANV;have zD:= @ANW;have q16:= @ASG;have oG:= @AJd;have q18:= @ANX;have q19:= @ASH;have q20:= @ANZ;clear h hf hb hl hds hfs hby hcW hE hg hWs hK;go_enter VF4,Tryz.ntmps4;(go_wp2_with fail);refine (ACz W (HE.out W (AZ.refl _ _)).g).mono ?_;rintro e w1 ⟨rfl,hc1⟩;have DI:Hid (AZ [] W w1):=AQ hc1;have x0:=(HE.out _ hc1).s.cell 0;have x1:=(HE.out _ hc1).s.cell 1;have x2:=(HE.out _ hc1).w.cell 0;clear hc1;(go_wp2_with fail);refine (AGN.out w1 BI at_ DI.out).mono ?_;rintro e w2 (⟨he,rfl,hc2⟩|⟨he,G,rfl,hF,hN,hc2⟩)
 ·have HC2:Hid (AZ [] w w2):=AQ ((HC.out.Ap DI.out).Ap hc2);clear he hc2 x0 x1 x2;go_wp2;go_ret;exact⟨rfl,HC2.out⟩
 have HC2:Hid (AZ [] W w2):=AQ (DI.out.Ap hc2);have HF:=AQ hF;(have HN:Hid (∀x∈G.all,W.heap.size<=x):=AQ λx hx=>by have:=hN x hx;have:=DI.out.size;omega);have HTP:=AQ (AAc (at_:=at_) (dst:=dst) he hq HB.out HL.out ks names);have HI:=AQ ((Jy (stop:=at_) he hq))
 generalize hS:Ea (BJ ds) BI at_=S at*
 clear hF hN hc2 he x0 x1 x2;have H1:Hid (∀w',AZ G.all w2 w'->w'.cell? ⟨sb+1,0,AB⟩=AA (.string dst)):=AQ λw' hc=>(HE.out _ (HC2.out.trans hc λx hx=>.inr (HN.out x hx))).p.cell 0;have H2:Hid (∀w',AZ G.all w2 w'->w'.cell? ⟨sb+1,1,AB⟩=AA (.slice FA fn fc)):=AQ λw' hc=>(HE.out _ (HC2.out.trans hc λx hx=>.inr (HN.out x hx))).p.cell 1;(go_wp2_with fail);refine Ei (S:=λw'=>AZ G.all w2 w') Aq (((AZ.refl _ _).drew).nil _) (λhHeld=>?_);refine tk 0 ?_;refine tk 1 ?_;refine GI 2 (λw' hSw=>H1.out _ hSw) ?_;refine tk 3 ?_;refine GI 4 (λw' hSw=>H2.out _ hSw) ?_;refine EW 5 λK hK=>?_;go_simp;refine (ACy.out _ (HC2.out.Ap ((AZ.refl _ _).drew))).mono ?_;rintro e w3 ⟨A3,c3,gs3,rfl,hO,hv,hc,hnn⟩;have ACw:Hid (AZ [] w2 w3):=AQ ((AZ.refl _ _).drew.Ap hc);have HP3:=AQ (Vq (dst:=dst) (HF.out.CE (AZ.refl _ _).drew) HI.out hO hv hc hnn HBY.out (by have:=HB.out;have:=HL.out;omega));clear hO hv hc hnn;go_simp;refine hK.out _ _ (ACw.out.nil _) (λhHeld=>?_);(try simp only[BF,Bf]);clear hK K;refine EW 6 λK hK=>?_;go_simp;refine HP3.out.mono ?_;rintro e w4 ⟨v4,G4,L4,rfl,hev,hf,hb,hall,hc,hL⟩;have wX:Hid (AZ G.all w2 w4):=AQ ((ACw.out.nil _).trans hc λx hx=>.inl hx);have TB:=AQ hf;have HB4:=AQ hb;have AUz:=AQ hev;have AU0:=AQ (And.intro hall hL);clear hev hf hb hall hc hL HP3;go_simp;refine hK.out _ _ (wX.out) (λhHeld=>?_);(try simp only[BF,Bf]);clear hK K;refine Ef Aq ?_ _;(try simp only[BF,Bf]);have NV:Hid (AZ [] W w4):=AQ (HC2.out.trans wX.out λx hx=>.inr (HN.out x hx));have HI4:=AQ (HI.out.F7 dst (BD fs));have x0:=(HE.out _ NV.out).w.cell 1;have x1:=(HE.out _ NV.out).w.cell 2;clear H1 H2;(go_wp2_with fail);have hdu:=ACN TB.out HI4.out (by have:=HB.out;have:=HL.out;omega) K kn kc ks names (HE.out _ NV.out).k hkn;rw[HB4.out] at hdu;refine hdu.mono ?_;clear hdu x0 x1;rintro e w5 ⟨A5,n5,c5,ds5,rfl,hd5,hv5,hc5,_⟩;have RJ:Hid (AZ [] W w5):=AQ (NV.out.Ap hc5);have HT:=AQ HTP.out;rw[<- hv5] at HT;have HV5:=AQ hv5;have HD5:=AQ hd5.rd;clear hd5 hv5 hc5 HTP;(go_wp2_with fail);refine (qB w5 A5 n5 c5 ds5 1099511627776 (-1) HD5.out (by obtain⟨h1,_⟩:=Zk HD5.out HT.out.2.1;omega) (by have:=HT.out.2.1;omega)).mono ?_;rintro e w6 hfs;obtain⟨vp,rfl,hc6,hres⟩:=hfs.one;rcases hres with ⟨h,_⟩|⟨_,G6,rfl,hF6,hN6⟩;exact Ai HT.out.1 h;have JE:Hid (AZ [] W w6):=AQ (RJ.out.Ap hc6);have HF6:=AQ hF6;(have Vf:Hid (∀x∈G6.all,W.heap.size<=x):=AQ λx hx=>by have:=hN6 x hx;have:=RJ.out.size;omega);have HE6:=AQ HT.out.1;have jr:=AQ (Jy (BI:=1099511627776) (stop:= -1) HT.out.1 Ar);rw[HE6.out];clear hfs hc6 hF6 hN6 HE6;have x0:=(HE.out _ JE.out).s.cell 0;(go_wp2_with fail);refine (AGN.out w6 1099511627776 (-1) JE.out).mono ?_;rintro e w7 (⟨he,rfl,jv⟩|⟨he,G7,rfl,hF7,hN7,jv⟩);exact Ai HT.out.2.2.1 he;have Oc:Hid (AZ [] W w7):=AQ (JE.out.Ap jv);have HF7:=AQ hF7;have AT2:=AQ (HF6.out.CE jv);have HN7:Hid (∀x∈G7.all,W.heap.size<=x/\x∉G6.all):=AQ λx hx=>⟨by have:=hN7 x hx;have:=JE.out.size;omega,λhm=>by have:=HF6.out.lt x hm;have:=hN7 x hx;omega⟩;have HI7:=AQ (Jy (BI:=1099511627776) (stop:= -1) he Ar);clear hF7 hN7 jv he x0;have H1:Hid (∀w',AZ G6.all w7 w'->w'.cell? ⟨sb+1,0,AB⟩=AA (.string dst)):=AQ λw' hc=>(HE.out _ (Oc.out.trans hc λx hx=>.inr (Vf.out x hx))).p.cell 0;have H2:Hid (∀w',AZ G6.all w7 w'->w'.cell? ⟨sb+1,1,AB⟩=AA (.slice FA fn fc)):=AQ λw' hc=>(HE.out _ (Oc.out.trans hc λx hx=>.inr (Vf.out x hx))).p.cell 1;(go_wp2_with fail);refine Ei (S:=λw'=>AZ G6.all w7 w') Aq (((AZ.refl _ _).drew).nil _) (λhHeld=>?_);refine tk 0 ?_;refine tk 1 ?_;refine GI 2 (λw' hSw=>H1.out _ hSw) ?_;refine tk 3 ?_;refine GI 4 (λw' hSw=>H2.out _ hSw) ?_;refine EW 5 λK hK=>?_;go_simp;refine (ACy.out _ (Oc.out.Ap ((AZ.refl _ _).drew))).mono ?_;rintro e w8 ⟨A8,c8,gs8,rfl,hO,hv,hc,hnn⟩;have qp:Hid (AZ [] w7 w8):=AQ ((AZ.refl _ _).drew.Ap hc);have HP8:=AQ (Vq (dst:=dst) (AT2.out.CE (AZ.refl _ _).drew) jr.out hO hv hc hnn HBY.out (by have:=HT.out.2.1;have:=HL.out;omega));clear hO hv hc hnn;go_simp;refine hK.out _ _ (qp.out.nil _) (λhHeld=>?_);(try simp only[BF,Bf]);clear hK K;refine EW 6 λK hK=>?_;go_simp;refine HP8.out.mono ?_;rintro e w9 ⟨v9,G9,L9,rfl,hev,hf,hb,hall,hc,hL⟩;have ALD:Hid (AZ G6.all w7 w9):=AQ ((qp.out.nil _).trans hc λx hx=>.inl hx);have HF9:=AQ hf;have HB9:=AQ hb;have ALE:=AQ hev;have AOo:=AQ (And.intro hall hL);clear hev hf hb hall hc hL HP8;go_simp;refine hK.out _ _ (ALD.out) (λhHeld=>?_);(try simp only[BF,Bf]);clear hK K;refine tk 7 ?_;refine Ef Aq ?_ _;(try simp only[BF,Bf]);have Xi:Hid (AZ [] W w9):=AQ (Oc.out.trans ALD.out λx hx=>.inr (Vf.out x hx));have AT3:=AQ (HF7.out.keep ALD.out λx hx=>(HN7.out x hx).2)
 have AOp:Hid (∀x∈G7.all,x∉G9.all/\x∉L9):=AQ λx hx=>by
  have h1:=HF7.out.lt x hx;have h2:=qp.out.size;refine⟨λhm=>?_,λhm=>?_⟩
  ·rcases AOo.out.1 x hm with h|h;exact (HN7.out x hx).2 h;omega
  have:=(AOo.out.2 x hm).1;omega
 clear H1 H2;have H1:Hid (∀w',AZ G7.all w9 w'->w'.cell? ⟨sb+1,0,AB⟩=AA (.string dst)):=AQ λw' hc=>(HE.out _ (Xi.out.trans hc λx hx=>.inr (HN7.out x hx).1)).p.cell 0;have H2:Hid (∀w',AZ G7.all w9 w'->w'.cell? ⟨sb+1,1,AB⟩=AA (.slice FA fn fc)):=AQ λw' hc=>(HE.out _ (Xi.out.trans hc λx hx=>.inr (HN7.out x hx).1)).p.cell 1;(go_wp2_with fail);refine Ei (S:=λw'=>AZ G7.all w9 w') Aq (((AZ.refl _ _).drew).nil _) (λhHeld=>?_);refine tk 0 ?_;refine tk 1 ?_;refine GI 2 (λw' hSw=>H1.out _ hSw) ?_;refine tk 3 ?_;refine GI 4 (λw' hSw=>H2.out _ hSw) ?_;refine EW 5 λK hK=>?_;go_simp;refine (ACy.out _ (Xi.out.Ap ((AZ.refl _ _).drew))).mono ?_;rintro e w10 ⟨A10,c10,gs10,rfl,hO,hv,hc,hnn⟩;have ALF:Hid (AZ [] w9 w10):=AQ ((AZ.refl _ _).drew.Ap hc);have AOq:=AQ (Vq (dst:=dst) (AT3.out.CE (AZ.refl _ _).drew) HI7.out hO hv hc hnn HBY.out (by have:=HB.out;have:=HL.out;omega));clear hO hv hc hnn;go_simp;refine hK.out _ _ (ALF.out.nil _) (λhHeld=>?_);(try simp only[BF,Bf]);clear hK K;refine EW 6 λK hK=>?_;go_simp;refine AOq.out.mono ?_;rintro e w11 ⟨v11,G11,L11,rfl,hev,hf,hb,hall,hc,hL⟩;have AAd:Hid (AZ G7.all w9 w11):=AQ ((ALF.out.nil _).trans hc λx hx=>.inl hx);have AT4:=AQ hf;have AT5:=AQ hb;have ALG:=AQ hev;have AUK:=AQ (And.intro hall hL);clear hev hf hb hall hc hL AOq;go_simp;refine hK.out _ _ (AAd.out) (λhHeld=>?_);(try simp only[BF,Bf]);clear hK K;refine tk 7 ?_;refine Ef Aq ?_ _;(try simp only[BF,Bf]);have ALH:Hid (AZ [] W w11):=AQ (Xi.out.trans AAd.out λx hx=>.inr (HN7.out x hx).1);have ARZ:=AQ (ALE.out.Ak AAd.out λb hb hm=>(AOp.out b hm).2 hb);have AT6:=AQ (HF9.out.keep AAd.out λb hb hm=>(AOp.out b hm).1 hb);clear H1 H2;(go_wp2_with fail);refine (xE ARZ.out (HE.out _ ALH.out).g).mono ?_;rintro e w12 ⟨rfl,hc12⟩;have ALI:=AQ hc12;clear hc12;(go_wp2_with fail);refine (xE (ALG.out.Ak ALI.out AV) (HE.out _ (ALH.out.Ap ALI.out)).g).mono ?_;rintro e w13 ⟨rfl,hc13⟩;have ALJ:Hid (AZ [] w11 w13):=AQ (ALI.out.Ap hc13);have HCZ:Hid (AZ [] w w13):=AQ ((HC.out.Ap ALH.out).Ap ALJ.out);rw[HT.out.2.2.2.1];(have hcc: ∀c:Int,(c !=c)=false:=λc=>by simp);have AT7:=hcc (codeF ((Ea (BJ ds) 1099511627776 (-1)).F7 dst (BD fs)).2);clear hc13 hcc;have HEQ:=AQ HT.out.2.2.2
 cases hr:((Ea (BJ ds) 1099511627776 (-1)).F7 dst (BD fs)).2 with
 |nil=>
  have hz9:=ALE.out;have ALK:=ALG.out;rw[HEQ.out.1,hr] at hz9;rw[hr] at ALK;obtain rfl:=hz9.nil_;obtain rfl:=ALK.nil_;have HVW:=AQ (HEQ.out.2 hr)
  have HBV:Hid (Eb ((Ea (BJ ds) 1099511627776 (-1)).F7 dst (BD fs)).1.view<=1073741824):=AQ (by
   have:=AC6 ((Uq.open_ (D:=BJ ds) (q:=1099511627776) (s:= -1)).F7 dst (BD fs)) (HI7.out.F7 dst (BD fs))
   have:=HB.out;have:=HL.out;omega)
  clear hz9 ALK hr AT7;(go_wp2_with fail);have hvw:=bU (AT6.out.CE ALJ.out) (jr.out.F7 dst (BD fs)) (by have:=HT.out.2.1;have:=HL.out;omega);rw[HB9.out,HVW.out] at hvw;refine hvw.mono ?_;clear hvw;rintro e w14 ⟨A14,n14,c14,ALM,rfl,AOr,AOs,AOt,_⟩;have AOu:=AQ AOr.rd;have AOv:=AQ AOs;have AOw:=AQ AOt;clear AOr AOs AOt;(go_wp2_with fail);have hvw:=bU (AT4.out.CE (ALJ.out.Ap AOw.out)) (HI7.out.F7 dst (BD fs)) (by have:=HB.out;have:=HL.out;omega);rw[AT5.out] at hvw;refine hvw.mono ?_;clear hvw;rintro e w15 ⟨A15,n15,c15,AOx,rfl,AOy,AOz,AO0,_⟩;have AT8:=AQ AOy.rd;have AT9:Hid (BJ ALM=BJ AOx):=AQ (AOv.out.trans AOz.symm);have AO1:=AQ AO0
  have AO2:Hid (n14<=1073741824/\∀x∈ALM,x.1.n<=1073741824):=AQ (by
   obtain⟨h1,_,_,h2⟩:=Zk AOu.out (B:=1073741824) (by rw[AOv.out];exact HBV.out)
   exact⟨h1,λx hx=>(h2 x hx).1⟩)
  clear AOy AOz AO0;(go_wp2_with fail);refine (AEx A14 n14 c14 ALM A15 n15 c15 AOx w15 (AOu.out.Ho AO1.out) AT8.out AO2.out.1 AO2.out.2).mono ?_;rintro e w16 ⟨b,rfl,hb16,hc16⟩;obtain rfl:=hb16 AT9.out;have AUA:Hid (AZ [] w w16):=AQ (((HCZ.out.Ap AOw.out).Ap AO1.out).Ap hc16);clear hb16 hc16;go_wp2;go_ret;exact⟨rfl,AUA.out⟩
 |cons f r=>
  have hz9:=ALE.out;rw[HEQ.out.1,hr] at hz9;obtain⟨T,x,rfl,_⟩:=hz9.as_;clear hz9 hr;go_wp2;go_ret;exact⟨rfl,HCZ.out⟩
end
open Go.Conc Go.ChangeShapes Go.WideShapes Go.Deep Go.Joins
section
variable {held:Bool}{r:Go.Reach}{p:List MemPlace}{b:Nat}{H:Type}{v:AP}{W:AL}
theorem AHp{enc:Aj×AP->H}{d:DataW H}
  (hv:Value.okWide Tryz.prog W r b 27 v) (h:DataW.Trod enc Tryz.prog W 0 (λ_=>true) held 27 v d p):
  ∃dst A n c,∃fs:List FM,v=.agg #[.string dst,.slice A n c]/\cZ W A n c fs/\(fs.map λx=>x.2.length+1).sum+1<=Rows.uptoBulk d:=by
 obtain⟨cs,rfl,hsz⟩:=okWide_struct Tryz.underlying27 hv;obtain⟨c0,c1,rfl⟩:=array2 (hsz.trans Aq);obtain⟨fuel,hf⟩:=h;obtain⟨y0,y1,m,hx,hl,h0,h1⟩:=trod_struct2 Tryz.underlying27 (by simpa[Nc] using hf);simp only[Nw] at hx;obtain⟨rfl,rfl⟩:=hx;(have e0:Tryz.prog.cellsOf 9=1:=by kernel_rfl);(have e1:Tryz.prog.cellsOf 25=1:=by kernel_rfl);simp only[e0,e1,X6,lJ,dL,kM] at h0 h1;obtain⟨dst,hd,_,_⟩:=DataW.trod_string Tryz.underlying9 h0;simp only[IV,and_true] at hd;subst hd;obtain⟨a,l,c,hc⟩:=slice_form Tryz.underlying25 h1;simp only[IV,and_true] at hc;subst hc;obtain⟨A,n0,cc,fs,k1,k2,k3⟩:=jF ⟨_,_,_,rfl⟩ ⟨m,by simpa[Nc] using h1⟩;injection k1 with i1 i2 i3;subst i1;subst i2;subst i3;refine⟨dst,_,_,_,fs,rfl,k2,?_⟩;simp only[Rows.uptoBulk,Rows.uptoBulkAll];omega
theorem AC9{enc:Aj×AP->H}{d:DataW H}
  (hv:Value.okWide Tryz.prog W r b 32 v) (h:DataW.Trod enc Tryz.prog W 0 (λ_=>true) held 32 v d p):
  ∃at_ K kn kc,∃ks:List Bool,∃names:Int,v=.agg #[.int .i64 at_,.slice K kn kc,.int .i64 names]/\Rd W 1 K kn kc (kv ks)/\WI W K kc/\kn+1<=Rows.uptoBulk d:=by
 obtain⟨cs,rfl,hsz⟩:=okWide_struct Tryz.underlying32 hv;obtain⟨c0,c1,c2,rfl⟩:=array3 (hsz.trans Aq);obtain⟨fuel,hf⟩:=h;obtain⟨y0,y1,m,hx,hl,h0,h1⟩:=trod_struct2 Tryz.underlying32 (by simpa[Nc] using hf);simp only[Nw] at hx;obtain⟨rfl,rfl⟩:=hx;(have e0:Tryz.prog.cellsOf 3=1:=by kernel_rfl);(have e1:Tryz.prog.cellsOf 30=2:=by kernel_rfl);simp only[e0,e1,X6,lJ,dL,kM] at h0 h1;obtain⟨q,hq,_,_⟩:=DataW.trod_int Tryz.underlying3 h0;simp only[IV,and_true] at hq;subst hq;obtain⟨K,kn,kc,ks,names,rfl,rfl,k1,k2,k3⟩:=AAM h1;refine⟨q,K,kn,kc,ks,names,rfl,k1,k2,?_⟩;simp only[Rows.uptoBulk,Rows.uptoBulkAll];omega
end
end Go.Proofs.YtkkgcebhfghdnaaGreatDoor.Vw
namespace Go.Proofs.YtkkgcebhfghdnaaGreatDoor.lawTurns
open Go Go.RowKit Go.Conc Go.ChangeShapes Go.WideShapes Go.Deep Go.Proofs.YtkkgcebhfghdnaaGreatDoor.Vw
theorem runs(H:Type)(enc:Aj×AP->H)(W:AL)(base:Nat)(args:Array AP)(ds gs:List (DataW H))(before:List MemPlace)(hsh:W.ShapedOpen Tryz.prog)(hl:laidMetH Tryz.prog [("errors.errorType",Rows.laid_errors_errorType)] W)
  (hval: ∀(j:Nat) t v,Tryz.f4.params[j]? =AA t->args[j]? =AA v->Value.okWide Tryz.prog W .any base t v)
  (hW:DataW.Whole enc Tryz.prog Tryz.f4.params.toList Rows.stagingTurnsSpec.vars false W args.toList ds gs before) (hk:Rows.uptoSmall H (ds++gs)=true):
  ∃M last o w' t',runNT Tryz.prog (M+1) (solo (G (BV Tryz.prog 4 args .normal) []) W) #[]=(.ended o w',t')/\runN Tryz.prog M (solo (G (BV Tryz.prog 4 args .normal) []) W)=.next last/\
   step Tryz.prog last=.ended o w'/\Conc.Good Tryz.prog (λv W'=>Rows.stagingTurnsSpec.post enc Tryz.prog Tryz.f4 false true false false W args v W') last o w' t':=by
 have hW':=hW;obtain⟨p,q,hA0,hV,rfl,hfz,hnd⟩:=hW;have hA:DataW.TrodAll enc Tryz.prog W 0 (λ_=>true) true Tryz.f4.params.toList args.toList ds p:=hA0;rw[Tryz.params4] at hA hval;obtain⟨v0,v1,v2,d0,d1,d2,p0,p1,p2,hargs,rfl,rfl,h0,h1,h2⟩:=trodAll_three hA;obtain⟨rfl,rfl⟩:=trodVars_none hV;have hb:=ABs hk;simp only[LM,Rows.uptoBulkAll] at hb;subst hargs;obtain⟨A,n,c,dsk,BI,rfl,hD,hq,hD2⟩:=ACa (hval 0 _ _ rfl rfl) h0;obtain⟨dst,FA,fn,fc,fs,rfl,hFI,hF2⟩:=AHp (hval 1 _ _ rfl rfl) h1;obtain⟨at_,K,kn,kc,ks,names,rfl,hK,hKr,hK2⟩:=AC9 (hval 2 _ _ rfl rfl) h2;have hg:=AHg hl;have hr0:=cells_of_cell hg;have hr1:=AKs hsh
 have hN:2<=W.heap.size:=by
  obtain⟨_,_,_,h⟩:=hr1;exact (Df.1 h).1
 refine AEJ (X:=4) (fn:=Tryz.f4) (r:=6) Ar (by rfl) Tryz.func4 VF4 rfl Aq (Bs:=JH W) hN (λb hb=>?_) (λb hb=>hb) ?_ ?_
 ·rcases b with _|_|b;exact hr0;exact hr1;omega
 ·intro w' hsz hbl ht ho hou
  exact AG3 AHe hW' rfl rfl Tryz.underlying4 (by
   intro t ht;rw[Tryz.params4] at ht;simp at ht
   rcases ht with rfl|rfl|rfl<;>exact⟨Aq,of_decide_eq_true Aq⟩) rfl rfl rfl ⟨ho,ht,hou,hsz,hbl⟩
 intro H ts args' hH hrow hargs t;have hcar:=ARN hrow t;obtain⟨hz,ha⟩:=hargs;obtain⟨v0,v1,v2,rfl⟩:=Go.Joins.array3 (hz.trans rfl);obtain⟨p0,rfl,hz0,ha0⟩:=(ha 0 _ _ rfl rfl).2.zJ;obtain⟨p1,rfl,hz1,ha1⟩:=(ha 1 _ _ rfl rfl).2.zJ;obtain⟨p2,rfl,hz2,ha2⟩:=(ha 2 _ _ rfl rfl).2.zJ;obtain⟨u0,u1,rfl⟩:=Go.Joins.array2 (hz0.trans rfl);obtain⟨u2,u3,rfl⟩:=Go.Joins.array2 (hz1.trans rfl);obtain⟨u4,u5,u6,rfl⟩:=Go.Joins.array3 (hz2.trans rfl);obtain rfl:=QU (ha0 1 _ _ rfl rfl) rfl;obtain rfl:=QU (ha1 0 _ _ rfl rfl) rfl;obtain rfl:=QU (ha2 0 _ _ rfl rfl) rfl;obtain rfl:=QU (ha2 2 _ _ rfl rfl) rfl;have hsz:W.heap.size<=(({W with heap:=H}:AL).DL t).heap.size:=hH;obtain⟨A',ds',rfl,hD',hDv⟩:=AHS hcar hsz hD (ha0 0 _ _ rfl rfl);obtain⟨FA',fs',rfl,hF',hFv⟩:=qG hcar hsz hFI (ha1 1 _ _ rfl rfl);obtain⟨K',rfl,hK'⟩:=ACb hcar hsz hK hKr (ha2 1 _ _ rfl rfl) (λx hx=>by obtain⟨z,_,rfl⟩:=Bz.1 hx;rfl)
 have hg':NZ (({W with heap:=H}:AL).DL t):=by
  obtain⟨v,h1,h2⟩:=hcar _ _ hg
  have:v=.iface 199 (.agg #[.pointer (AA ⟨1,39,AB⟩)]):=h2.zI (.iface (.agg λi x hx=>by
   rcases i with _|i
   ·(obtain rfl:Value.pointer (AA ⟨1,39,AB⟩)=x:=by simpa using hx);exact .ptr ⟨rfl,hr1⟩
   simp at hx))
  rw[this] at h1;exact h1
 (have hB:Eb (BJ ds')<=1048576:=by rw[hDv];omega);obtain⟨b1,_,_,b2⟩:=Zk hD' hB;have hfl:=AHn fs;rw[<- hFv] at hfl;(have hfn:fs'.length=fn:=by have:=hF'.row.Ov;simpa[F5] using this);(have hln:6*fs'.length<=Vh (BD fs'):=by have:=ACh (BD fs');simpa[BD] using this);refine (AHo _ hg' A' n c ds' BI dst FA' fn fc fs' at_ K' kn kc ks names hD' hF' hK' Ad Ad Ad hB Ad (λx hx=>⟨by have:=(b2 x hx).1;omega,λf hf=>by have:=(b2 x hx).2 f hf;omega⟩) (λx hx=>?_) (λf hf x hx=>?_) hq).mono ?_
 ·have h1:=(hF'.dat x hx).1;have hm:(x.1.nm,x.2)∈BD fs':=Bz.2 ⟨x,hx,rfl⟩;have h2:3*x.2.length+6<=Vh (BD fs'):=AKi hm;simp at h1;omega
 ·rw[hFv] at hf;obtain⟨z,hz,rfl⟩:=Bz.1 hf;exact (hFI.dat z hz).2 x hx
 rintro e w' ⟨rfl,hc⟩;exact⟨rfl,λa ha=>hc.block a ha AV⟩
theorem lifted(os:Os)(started:os.Started)(H:Type)(enc:Aj×AP->H)(F:Stop.Interp):
  ReturnsInLeavingWide {} Tryz.checked os 4 .any ((Rows.OpenSpec.upto Rows.stagingTurnsSpec).preRow enc Tryz.prog Tryz.f4 Rows.stagingTurnsUptoRow.domain false [("errors.errorType",Rows.laid_errors_errorType)]) (((Rows.OpenSpec.upto Rows.stagingTurnsSpec).at F).post enc Tryz.prog Tryz.f4 false true false false):=by
 refine jw (C:=Tryz.checked) (s:=Rows.OpenSpec.upto Rows.stagingTurnsSpec) (k:=Rows.uptoSmall) rfl ARR started Tryz.func4
  (witness_row (enc:=enc) (C:=Tryz.checked) (os:=os) (s:=Rows.OpenSpec.upto Rows.stagingTurnsSpec) (k:=Rows.uptoSmall) rfl (AKt os) #[.agg #[.slice AB 0 0,.int .i64 0],.agg #[.string ⟨#[]⟩,.slice AB 0 0],.agg #[.int .i64 0,.slice AB 0 0,.int .i64 0]] 8 rfl Aq Aq Aq
   (x:=([.agg [.nil,.lit (.int .i64 0)],.agg [.lit (.string []),.nil],.agg [.lit (.int .i64 0),.agg [.nil,.lit (.int .i64 0)]]],[],[])) Aq rfl Aq Aq (AEu os _)) ?_
 intro W base args ds gs before hsh hl hval hW hk;exact runs H enc W base args ds gs before hsh hl hval hW hk
theorem row:Rows.StagingTurnsUptoSaid:=
 Zn 4 Tryz.f4 rfl rfl rfl rfl rfl rfl rfl ⟨rfl,rfl,rfl,rfl,rfl⟩ rfl rfl rfl rfl rfl Aq Tryz.func4 Aq
  (of_decide_eq_true Aq) (by unfold Func.isWrapper;first|(rw[BM (of_decide_eq_false Aq)];exact⟨rfl,rfl⟩)|(rw[BZ (of_decide_eq_true Aq)];kernel_rfl))
  (λos started H enc _ F=>lifted os started H enc F)
theorem proved:Rows.StagingTurnsUptoCardSaid:=
 AEv .later [.handle] true (true, "503188990b06714f748bd170a98f75a159cee04e3487e84f51127a3c43b34e91") true row Aq stagingTurnsUpto_row_tie rfl ⟨rfl,rfl⟩ Aq rfl
  (λf fn hf hfn=>by
   obtain rfl:f=4:=EF ((show Tryz.prog.funcNamed "satchel/satchellaw28.StagingTurns" =AA 4 by kernel_rfl).symm.trans hf) |>.symm;obtain rfl:fn=Tryz.f4:=(EF (Tryz.func4.symm.trans hfn)).symm
   exact⟨Aq,λj t ht=>by
    rw[Tryz.params4] at ht;rcases j with _|_|_|j
    ·(obtain rfl:24=t:=by simpa using ht);kernel_rfl
    ·(obtain rfl:27=t:=by simpa using ht);kernel_rfl
    ·(obtain rfl:32=t:=by simpa using ht);kernel_rfl
    simp at ht⟩)
  Aq
end Go.Proofs.YtkkgcebhfghdnaaGreatDoor.lawTurns
