/- Part 26 of what that rests on; no condition. -/
import Derived.Test.YtkkgcebhfghdnaaGreatDoorKx
import Derived.Deep.RegionHeld3
import Derived.Deep.RegionLaw
set_option maxRecDepth 100000
set_option maxHeartbeats 8000000
namespace Go.Proofs.YtkkgcebhfghdnaaGreatDoor.Vw
open Go.RowKit
theorem yB(fs:List FM)(x:FM):BI (fs++[x])=BI fs++[(x.1.nm,x.2)]:=by simp[BI]
theorem yC(ds:List DM)(x:DM):BG (ds++[x])=BG ds++[(x.1.nm,BI x.2)]:=by simp[BG]
theorem ADQ(A:Option Addr)(n c:Nat)(xs:List FM)(B:Option Addr)(m d:Nat)(ys:List FM)(w:World)(ha:Ff w A n c xs)(hb:Ff w B m d ys)(hn:n<=1073741824):
  Calls Ae 24 #[.slice A n c,.slice B m d] w (Zq (BI xs=BI ys) w):=by
 (have hlx:xs.length=n:=by have:=ha.row.OJ;simpa[Fe] using this);(have O1:ys.length=m:=by have:=hb.row.OJ;simpa[Fe] using this);have HA:=AQ ha;have HB:=AQ hb;have Ti:=AQ hlx;have yT:=AQ O1;clear ha hb hlx O1;have k65:= @AQF;go_enter AKW,Tryz.ntmps24;by_cases hnm:n=m
 ·subst hnm;go_wp2;go_loopw [5] (λq wr=>∃i:Nat,i<=n/\q=.int .i64 i/\AZ [] w wr) (λq _=>n - (intOf q).toNat)
  case atStart=>exact⟨0,BP _,rfl,AZ.refl _ _⟩
  obtain⟨i,hi,rfl,hch⟩:=hrel;have Dc:=AQ hch;clear hch;by_cases hlt:i<n
  ·(have hlt':(i:Int)<n:=by omega);obtain⟨x,hx⟩: ∃x,xs[i]? =some x:=⟨_,Af (by have:=Ti.out;omega)⟩;obtain⟨y,hy⟩: ∃y,ys[i]? =some y:=⟨_,Af (by have:=yT.out;omega)⟩;obtain⟨ad,rfl,hat⟩:=(HA.out.GK Dc.out).row.ns (j:=i) (x:=x.1) (by unfold Fe;rw[AV,hx];rfl);obtain⟨bd,rfl,hbt⟩:=(HB.out.GK Dc.out).row.ns (j:=i) (x:=y.1) (by unfold Fe;rw[AV,hy];rfl);have x0:=hat.c0;have x1:=hat.c1;have y0:=hbt.c0;have y1:=hbt.c1;have HX:=AQ hx;have HY:=AQ hy;obtain⟨cb,hneq⟩: ∃cb,(x.1.nm.toList==y.1.nm.toList)=cb:=⟨_,rfl⟩;have HCB:Hid (cb=false->x.1.nm≠y.1.nm):=AQ (λh e=>by rw[e] at hneq;rw[h] at hneq;simp at hneq);have Tf:Hid (∀w',AZ [] wr w'->Calls Ae 65 #[.slice x.1.A x.1.n x.1.c,.slice y.1.A y.1.n y.1.c] w' (Zq (x.2=y.2) w')):=AQ (λw' hc=>ACy _ _ _ _ _ _ _ _ w' (((HA.out.GK Dc.out).dat x (Aa HX.out)).Am hc EY) (((HB.out.GK Dc.out).dat y (Aa HY.out)).Am hc EY))
   have xe:Hid (cb=false->BI xs≠BI ys):=AQ (λh e=>HCB.out h (by
    have:=congrArg (λl=>l[i]?.map Prod.fst) e;simp only[BI,AV,HX.out,HY.out,Option.map_some,BD] at this
    exact this))
   have HEQ:Hid (BI xs=BI ys->x.2=y.2):=AQ (λe=>by
    have:=congrArg (λl=>l[i]?.map Prod.snd) e;simp only[BI,AV,HX.out,HY.out,Option.map_some,BD] at this
    exact this)
   clear hx hy hat hbt
   cases cb with
   |false=>
    go_wp2;refine wp_region_held_drew (S:=λw'=>AZ [] wr w') Ap ((AZ.refl _ _).drew) (λhHeld=>?_);refine tk 0 ?_;refine tk 1 ?_;refine tk 2 ?_;refine tk 3 ?_;refine Gm 4 (λw' hSw=>hSw.cell x0 AB) ?_;refine tk 5 ?_;refine tk 6 ?_;refine tk 7 ?_;refine tk 8 ?_;refine Gm 9 (λw' hSw=>hSw.cell y0 AB) ?_;refine tk 10 ?_;refine tk 11 ?_;refine tk 12 ?_;refine tk 13 ?_;refine tk 14 ?_;refine tk 15 ?_;refine tk 16 ?_;refine tk 17 ?_;refine tk 18 ?_;refine tk 19 ?_;refine tk 20 ?_;refine tk 21 ?_;refine Ee 22 λK hK=>?_;go_simp;refine hK.out _ _ (hHeld) (λhHeld=>?_);(try simp only[Act.put,Be]);clear hK K;refine tk 23 ?_;refine tk 24 ?_;refine wpAnyH_done Ap ?_ _;(try simp only[Act.put,Be]);clear hHeld x0 x1 y0 y1 hneq;go_wp2;go_ret;exact⟨false,rfl,λe=>absurd e (xe.out (by first|rfl|trivial)),Dc.out.drew⟩
   |true=>
    go_wp2;refine wp_region_held_drew (S:=λw'=>AZ [] wr w') Ap ((AZ.refl _ _).drew) (λhHeld=>?_);refine tk 0 ?_;refine tk 1 ?_;refine tk 2 ?_;refine tk 3 ?_;refine Gm 4 (λw' hSw=>hSw.cell x0 AB) ?_;refine tk 5 ?_;refine tk 6 ?_;refine tk 7 ?_;refine tk 8 ?_;refine Gm 9 (λw' hSw=>hSw.cell y0 AB) ?_;refine tk 10 ?_;refine tk 11 ?_;refine tk 12 ?_;refine tk 13 ?_;refine tk 14 ?_;refine tk 15 ?_;refine Gm 16 (λw' hSw=>hSw.cell x1 AB) ?_;refine tk 17 ?_;refine tk 18 ?_;refine tk 19 ?_;refine tk 20 ?_;refine Gm 21 (λw' hSw=>hSw.cell y1 AB) ?_;refine Ee 22 λK hK=>?_;go_simp;refine (Tf.out _ hHeld).mono ?_;rintro e w3 ⟨bb,rfl,hbb,hc3⟩;have AIu:=hHeld.Aq hc3;have HBB:=AQ hbb;refine hK.out _ _ (hHeld.Aq hc3) (λhHeld=>?_);(try simp only[Act.put,Be]);clear hK K;refine tk 23 ?_;refine tk 24 ?_;refine wpAnyH_done Ap ?_ _;(try simp only[Act.put,Be]);have GV:=AQ hHeld;clear hHeld AIu hbb hc3 x0 x1 y0 y1 hneq
    cases bb with
    |true=>
     go_wp2;go_roundw
     case rel=>exact⟨i+1,Ac,by go_num,Dc.out.Aq GV.out⟩
     simp[intOf];omega
    |false=>
     go_wp2;go_ret;exact⟨false,rfl,λe=>HBB.out (HEQ.out e),Dc.out.Aq GV.out⟩
  go_wp2;go_ret;exact⟨true,rfl,λ_=>rfl,Dc.out⟩
 have h1:((n:Int)==m)=false:=beq_eq_false_iff_ne.2 Ac;(have h2:((n:Int) !=m)=true:=by rw[bne,h1];rfl);have HN:=AQ hnm;clear hnm;go_wp2;go_ret;refine⟨false,rfl,λe=>?_,AZ.refl _ _⟩;have:=congrArg List.length e;simp only[BI,BH] at this;have h3:=Ti.out;have h4:=yT.out;exact absurd Ac HN.out
theorem Y7(A:Option Addr)(n c:Nat)(xs:List DM)(B:Option Addr)(m d:Nat)(ys:List DM)(w:World)(ha:Gl w A n c xs)(hb:Gl w B m d ys)(hn:n<=1073741824)(hfn: ∀x∈xs,x.1.n<=1073741824):
  Calls Ae 19 #[.slice A n c,.slice B m d] w (Zq (BG xs=BG ys) w):=by
 (have hlx:xs.length=n:=by have:=ha.row.OJ;simpa[Ej] using this);(have O1:ys.length=m:=by have:=hb.row.OJ;simpa[Ej] using this);have HA:=AQ ha;have HB:=AQ hb;have XD:=AQ hfn;have Ti:=AQ hlx;have yT:=AQ O1;clear ha hb hlx O1 hfn;have k24:= @APs;go_enter AKR,Tryz.ntmps19;by_cases hnm:n=m
 ·subst hnm;go_wp2;go_loopw [5] (λq wr=>∃i:Nat,i<=n/\q=.int .i64 i/\AZ [] w wr) (λq _=>n - (intOf q).toNat)
  case atStart=>exact⟨0,BP _,rfl,AZ.refl _ _⟩
  obtain⟨i,hi,rfl,hch⟩:=hrel;have Dc:=AQ hch;clear hch;by_cases hlt:i<n
  ·(have hlt':(i:Int)<n:=by omega);obtain⟨x,hx⟩: ∃x,xs[i]? =some x:=⟨_,Af (by have:=Ti.out;omega)⟩;obtain⟨y,hy⟩: ∃y,ys[i]? =some y:=⟨_,Af (by have:=yT.out;omega)⟩;obtain⟨ad,rfl,hat⟩:=(HA.out.GK Dc.out).row.ns (j:=i) (x:=x.1) (by unfold Ej;rw[AV,hx];rfl);obtain⟨bd,rfl,hbt⟩:=(HB.out.GK Dc.out).row.ns (j:=i) (x:=y.1) (by unfold Ej;rw[AV,hy];rfl);have x0:=hat.c0;have x1:=hat.c1;have y0:=hbt.c0;have y1:=hbt.c1;have HX:=AQ hx;have HY:=AQ hy;obtain⟨cb,hneq⟩: ∃cb,(x.1.nm.toList==y.1.nm.toList)=cb:=⟨_,rfl⟩;have HCB:Hid (cb=false->x.1.nm≠y.1.nm):=AQ (λh e=>by rw[e] at hneq;rw[h] at hneq;simp at hneq);have Tf:Hid (∀w',AZ [] wr w'->Calls Ae 24 #[.slice x.1.A x.1.n x.1.c,.slice y.1.A y.1.n y.1.c] w' (Zq (BI x.2=BI y.2) w')):=AQ (λw' hc=>ADQ _ _ _ _ _ _ _ _ w' (((HA.out.GK Dc.out).Iu x (Aa HX.out)).GK hc) (((HB.out.GK Dc.out).Iu y (Aa HY.out)).GK hc) (XD.out x (Aa HX.out)))
   have xe:Hid (cb=false->BG xs≠BG ys):=AQ (λh e=>HCB.out h (by
    have:=congrArg (λl=>l[i]?.map Prod.fst) e;simp only[BG,AV,HX.out,HY.out,Option.map_some,BD] at this
    exact this))
   have HEQ:Hid (BG xs=BG ys->BI x.2=BI y.2):=AQ (λe=>by
    have:=congrArg (λl=>l[i]?.map Prod.snd) e;simp only[BG,AV,HX.out,HY.out,Option.map_some,BD] at this
    exact this)
   clear hx hy hat hbt
   cases cb with
   |false=>
    go_wp2;refine wp_region_held_drew (S:=λw'=>AZ [] wr w') Ap ((AZ.refl _ _).drew) (λhHeld=>?_);refine tk 0 ?_;refine tk 1 ?_;refine tk 2 ?_;refine tk 3 ?_;refine Gm 4 (λw' hSw=>hSw.cell x0 AB) ?_;refine tk 5 ?_;refine tk 6 ?_;refine tk 7 ?_;refine tk 8 ?_;refine Gm 9 (λw' hSw=>hSw.cell y0 AB) ?_;refine tk 10 ?_;refine tk 11 ?_;refine tk 12 ?_;refine tk 13 ?_;refine tk 14 ?_;refine tk 15 ?_;refine tk 16 ?_;refine tk 17 ?_;refine tk 18 ?_;refine tk 19 ?_;refine tk 20 ?_;refine tk 21 ?_;refine Ee 22 λK hK=>?_;go_simp;refine hK.out _ _ (hHeld) (λhHeld=>?_);(try simp only[Act.put,Be]);clear hK K;refine tk 23 ?_;refine tk 24 ?_;refine wpAnyH_done Ap ?_ _;(try simp only[Act.put,Be]);clear hHeld x0 x1 y0 y1 hneq;go_wp2;go_ret;exact⟨false,rfl,λe=>absurd e (xe.out (by first|rfl|trivial)),Dc.out.drew⟩
   |true=>
    go_wp2;refine wp_region_held_drew (S:=λw'=>AZ [] wr w') Ap ((AZ.refl _ _).drew) (λhHeld=>?_);refine tk 0 ?_;refine tk 1 ?_;refine tk 2 ?_;refine tk 3 ?_;refine Gm 4 (λw' hSw=>hSw.cell x0 AB) ?_;refine tk 5 ?_;refine tk 6 ?_;refine tk 7 ?_;refine tk 8 ?_;refine Gm 9 (λw' hSw=>hSw.cell y0 AB) ?_;refine tk 10 ?_;refine tk 11 ?_;refine tk 12 ?_;refine tk 13 ?_;refine tk 14 ?_;refine tk 15 ?_;refine Gm 16 (λw' hSw=>hSw.cell x1 AB) ?_;refine tk 17 ?_;refine tk 18 ?_;refine tk 19 ?_;refine tk 20 ?_;refine Gm 21 (λw' hSw=>hSw.cell y1 AB) ?_;refine Ee 22 λK hK=>?_;go_simp;refine (Tf.out _ hHeld).mono ?_;rintro e w3 ⟨bb,rfl,hbb,hc3⟩;have AIu:=hHeld.Aq hc3;have HBB:=AQ hbb;refine hK.out _ _ (hHeld.Aq hc3) (λhHeld=>?_);(try simp only[Act.put,Be]);clear hK K;refine tk 23 ?_;refine tk 24 ?_;refine wpAnyH_done Ap ?_ _;(try simp only[Act.put,Be]);have GV:=AQ hHeld;clear hHeld AIu hbb hc3 x0 x1 y0 y1 hneq
    cases bb with
    |true=>
     go_wp2;go_roundw
     case rel=>exact⟨i+1,Ac,by go_num,Dc.out.Aq GV.out⟩
     simp[intOf];omega
    |false=>
     go_wp2;go_ret;exact⟨false,rfl,λe=>HBB.out (HEQ.out e),Dc.out.Aq GV.out⟩
  go_wp2;go_ret;exact⟨true,rfl,λ_=>rfl,Dc.out⟩
 have h1:((n:Int)==m)=false:=beq_eq_false_iff_ne.2 Ac;(have h2:((n:Int) !=m)=true:=by rw[bne,h1];rfl);have HN:=AQ hnm;clear hnm;go_wp2;go_ret;refine⟨false,rfl,λe=>?_,AZ.refl _ _⟩;have:=congrArg List.length e;simp only[BG,BH] at this;have h3:=Ti.out;have h4:=yT.out;exact absurd Ac HN.out
def AF0 (w:World) (fs:List (ByteArray×List Int)) (e:Ending) (w':World):Prop:=
 ∃A c gs,e=.returned (.slice A fs.length c)/\Gw w' A fs.length c gs/\BI gs=fs/\AZ [] w w'/\∀k∈bo A++GZ gs,w.heap.size<=k
theorem ABU(A:Option Addr)(n c:Nat)(xs:List FM)(w:World)(ha:Ff w A n c xs)(hn:n<=1073741824)(hfn: ∀x∈xs,x.1.n<=1073741824):
  Calls Ae 15 #[.slice A n c] w (AF0 w (BI xs)):=by
 (have hlx:xs.length=n:=by have:=ha.row.OJ;simpa[Fe] using this);have HA:=AQ ha;have Ti:=AQ hlx;have XD:=AQ hfn;clear ha hlx hfn;have k53:= @ALK;go_enter AKN,Tryz.ntmps15;go_wp2;go_loopw [3,4] (λo q wr=>∃(i:Nat) (A':Option Addr) (c':Nat) (zs:List FM),i<=n/\q=.int .i64 i/\o=.slice A' i c'/\Gw wr A' i c' zs/\BI zs=BI (xs.take i)/\AZ [] w wr/\∀k∈bo A'++GZ zs,w.heap.size<=k) (λ_ q _=>n - (intOf q).toNat)
 case atStart=>exact⟨0,_,0,[],BP _,rfl,rfl,⟨Own.lit w 64 2 #[] 0 Az rfl,AY,by simp[GZ]⟩,rfl,(AZ.refl _ _).alloc _,by simp[GZ]⟩
 obtain⟨i,A',c',zs,hi,rfl,rfl,hz,hval,hch,hnw⟩:=hrel;have HZ:=AQ hz;have XC:=AQ hval;have Dc:=AQ hch;have Lh:=AQ hnw;clear hz hval hch hnw;by_cases hlt:i<n
 ·(have hlt':(i:Int)<n:=by omega);obtain⟨x,hx⟩: ∃x,xs[i]? =some x:=⟨_,Af (by have:=Ti.out;omega)⟩;obtain⟨ad,rfl,hat⟩:=HA.out.row.ns (j:=i) (x:=x.1) (by unfold Fe;rw[AV,hx];rfl)
  have nO:Hid (ad.block∉bo A'):=AQ (λhm=>by
   have h1:=World.block_lt_of_cell? w _ hat.c0;rw[add_block] at h1;have h2:=Lh.out _ (Bh _ hm)
   omega)
  have XK:=hat.Am Dc.out AB;have x0:=XK.c0;have x1:=XK.c1;have HX:=AQ hx;have HNN:Hid (∀k∈bo A',w.heap.size<=k):=AQ (λk hk=>Lh.out k (Bh _ hk));clear hx hat XK;go_wp2;refine wp_region_held_drew (S:=λw'=>AZ (bo A') wr w') Ap ((AZ.refl _ _).drew) (λhHeld=>?_);refine tk 0 ?_;refine tk 1 ?_;refine tk 2 ?_;refine tk 3 ?_;refine tk 4 ?_;refine Gm 5 (λw' hSw=>hSw.cell x0 (λh=>nO.out (by simpa[add_block] using h))) ?_;refine tk 6 ?_;refine tk 7 ?_;refine tk 8 ?_;refine tk 9 ?_;refine Gm 10 (λw' hSw=>hSw.cell x1 (λh=>nO.out (by simpa[add_block] using h))) ?_;refine Ee 11 λK hK=>?_;go_simp;refine (sF x.1.A x.1.n x.1.c x.2 _ (XD.out x (Aa HX.out)) ((HA.out.dat x (Aa HX.out)).Am ((Dc.out.trans hHeld (λx hx=>.inr (HNN.out x hx)))) EY)).mono ?_;rintro e w4 ⟨BA,bc,rfl,Yh,hc4,hn4⟩;have qH:=AQ Yh;have MK:=AQ hc4;have X6:=AQ hn4;have V3:Hid (AZ [] wr (w4.alloc (.cells #[.string x.1.nm,.slice BA x.1.n bc] 64))):=AQ ((((AZ.refl [] wr).drew).Aq hc4).alloc _);have HOW:Hid (Gw (w4.alloc (.cells #[.string x.1.nm,.slice BA x.1.n bc] 64)) A' i c' zs):=AQ (HZ.out.Am V3.out EY);have hHc:=hHeld.Aq hc4;clear Yh hn4;refine hK.out _ _ (hHc) (λhHeld=>?_);(try simp only[Act.put,Be]);clear hK K;refine tk 12 ?_;refine Ee 13 λK hK=>?_;go_simp;refine hK.out _ _ (hHeld.alloc _) (λhHeld=>?_);(try simp only[Act.put,Be]);clear hK K;refine Ee 14 λK hK=>?_;refine JE rfl _ _ rfl sH rfl HOW.out.row rfl (Own.lit w4 64 2 #[.string x.1.nm,.slice BA x.1.n bc] 1 Az rfl).rd (UO [⟨x.1.nm,BA,x.1.n,bc⟩]) (by unfold maxLen;omega) Ac ?_;intro A2 c2 w6 hown6 Hq KI _;have mg:=AQ hown6;have Ij:=AQ Hq;have Y1:=AQ KI;have hH6:=hHeld.trans Hq (λx hx=>.inl hx);clear hown6 Hq KI;refine hK.out _ _ (hH6) (λhHeld=>?_);(try simp only[Act.put,Be]);clear hK K;refine tk 15 ?_;refine wpAnyH_done Ap ?_ _;(try simp only[Act.put,Be]);clear hHeld hHc hH6 hc4 x0 x1;go_wp2;go_roundw
  case rel=>
   have hzl:=HZ.out.lt;have hwl:wr.heap.size<=w4.heap.size:=MK.out.size;have hba: ∀k∈bo BA,wr.heap.size<=k:=λk hk=>X6.out k hk
   have jR:Own w6 64 2 A2 (i+1) c2 (Iw (Fe (zs++[(⟨x.1.nm,BA,x.1.n,bc⟩,x.2)]))):=by
    have:=mg.out;unfold Fe at this⊢;rw[Bf,NS];exact this
   have Qr:Gw w6 A2 (i+1) c2 (zs++[(⟨x.1.nm,BA,x.1.n,bc⟩,x.2)]):=HOW.out.snoc Ij.out jR ((qH.out.Am ((AZ.refl [] w4).alloc _) EY).Am Ij.out (λk hk hm=>by have h1:=hba k hk;have h2:=hzl k (Bh _ hm);omega)) (λk hk hm=>by have h1:=hba k hk;have h2:=hzl k (Bi _ hm);omega);refine⟨i+1,A2,c2,zs++[(⟨x.1.nm,BA,x.1.n,bc⟩,x.2)],Ac,by go_num,rfl,Qr,?_,(Dc.out.Aq V3.out).trans Ij.out (λx hx=>.inr (Lh.out x (Bh _ hx))),λk hk=>?_⟩
   ·rw[yB,XC.out];unfold BI;rw[D8,D8,take_snoc _ i _ (show (xs.map _)[i]? =some _ by rw[AV,HX.out];rfl)]
   rw[lN] at hk;have h3:=Dc.out.size;rcases AU.1 hk with hk|hk
   ·rcases Y1.out k hk with h|h;exact Lh.out k (Bh _ h);simp at h;omega
   rcases AU.1 hk with hk|hk;exact Lh.out k (Bi _ hk);have:=hba k hk;omega
  simp[intOf];omega
 (obtain rfl:i=n:=by omega);go_wp2;go_ret;refine⟨A',c',zs,by rw[show (BI xs).length=i by rw[BI,BH];exact Ti.out];rfl,by rw[show (BI xs).length=i by rw[BI,BH];exact Ti.out];exact HZ.out,?_,Dc.out,Lh.out⟩;rw[XC.out,Bc (by rw[Ti.out];exact AP _)]
theorem ABV(A:Option Addr)(n c:Nat)(xs:List DM)(w:World)(ha:Gl w A n c xs)(hn:n<=1073741824)(hfn: ∀x∈xs,x.1.n<=1073741824/\∀f∈x.2,f.1.n<=1073741824):
  Calls Ae 35 #[.slice A n c] w (Xd w (BG xs)):=by
 (have hlx:xs.length=n:=by have:=ha.row.OJ;simpa[Ej] using this);have HA:=AQ ha;have Ti:=AQ hlx;have XD:=AQ hfn;clear ha hlx hfn;have k15:= @APm;go_enter AKa,Tryz.ntmps35;go_wp2;go_loopw [3,4] (λo q wr=>∃(i:Nat) (A':Option Addr) (c':Nat) (zs:List DM),i<=n/\q=.int .i64 i/\o=.slice A' i c'/\JU wr A' i c' zs/\BG zs=BG (xs.take i)/\AZ [] w wr/\∀k∈bo A'++Nv zs,w.heap.size<=k) (λ_ q _=>n - (intOf q).toNat)
 case atStart=>exact⟨0,_,0,[],BP _,rfl,rfl,⟨Own.lit w 77 2 #[] 0 Az rfl,AY,by simp[Nv]⟩,rfl,(AZ.refl _ _).alloc _,by simp[Nv]⟩
 obtain⟨i,A',c',zs,hi,rfl,rfl,hz,hval,hch,hnw⟩:=hrel;have HZ:=AQ hz;have XC:=AQ hval;have Dc:=AQ hch;have Lh:=AQ hnw;clear hz hval hch hnw;by_cases hlt:i<n
 ·(have hlt':(i:Int)<n:=by omega);obtain⟨x,hx⟩: ∃x,xs[i]? =some x:=⟨_,Af (by have:=Ti.out;omega)⟩;obtain⟨ad,rfl,hat⟩:=HA.out.row.ns (j:=i) (x:=x.1) (by unfold Ej;rw[AV,hx];rfl)
  have nO:Hid (ad.block∉bo A'):=AQ (λhm=>by
   have h1:=World.block_lt_of_cell? w _ hat.c0;rw[add_block] at h1;have h2:=Lh.out _ (Bh _ hm)
   omega)
  have XK:=hat.Am Dc.out AB;have x0:=XK.c0;have x1:=XK.c1;have HX:=AQ hx;have HNN:Hid (∀k∈bo A',w.heap.size<=k):=AQ (λk hk=>Lh.out k (Bh _ hk));clear hx hat XK;go_wp2;refine wp_region_held_drew (S:=λw'=>AZ (bo A') wr w') Ap ((AZ.refl _ _).drew) (λhHeld=>?_);refine tk 0 ?_;refine tk 1 ?_;refine tk 2 ?_;refine tk 3 ?_;refine tk 4 ?_;refine Gm 5 (λw' hSw=>hSw.cell x0 (λh=>nO.out (by simpa[add_block] using h))) ?_;refine tk 6 ?_;refine tk 7 ?_;refine tk 8 ?_;refine tk 9 ?_;refine Gm 10 (λw' hSw=>hSw.cell x1 (λh=>nO.out (by simpa[add_block] using h))) ?_;refine Ee 11 λK hK=>?_;go_simp;refine (ABU x.1.A x.1.n x.1.c x.2 _ ((HA.out.Iu x (Aa HX.out)).GK ((Dc.out.trans hHeld (λx hx=>.inr (HNN.out x hx))))) (XD.out x (Aa HX.out)).1 (XD.out x (Aa HX.out)).2).mono ?_;rintro e w4 ⟨BA,bc,fs4,rfl,Yh,hv4,hc4,hn4⟩;have qH:=AQ Yh;have HV4:=AQ hv4;have MK:=AQ hc4;have X6:=AQ hn4;have V3:Hid (AZ [] wr (w4.alloc (.cells #[.string x.1.nm,.slice BA (BI x.2).length bc] 77))):=AQ ((((AZ.refl [] wr).drew).Aq hc4).alloc _);have HOW:Hid (JU (w4.alloc (.cells #[.string x.1.nm,.slice BA (BI x.2).length bc] 77)) A' i c' zs):=AQ (HZ.out.Am V3.out EY);have hHc:=hHeld.Aq hc4;clear Yh hn4 hv4;refine hK.out _ _ (hHc) (λhHeld=>?_);(try simp only[Act.put,Be]);clear hK K;refine tk 12 ?_;refine Ee 13 λK hK=>?_;go_simp;refine hK.out _ _ (hHeld.alloc _) (λhHeld=>?_);(try simp only[Act.put,Be]);clear hK K;refine Ee 14 λK hK=>?_;refine JE rfl _ _ rfl lM rfl HOW.out.row rfl (Own.lit w4 77 2 #[.string x.1.nm,.slice BA (BI x.2).length bc] 1 Az rfl).rd (UO [⟨x.1.nm,BA,(BI x.2).length,bc⟩]) (by unfold maxLen;omega) Ac ?_;intro A2 c2 w6 hown6 Hq KI _;have mg:=AQ hown6;have Ij:=AQ Hq;have Y1:=AQ KI;have hH6:=hHeld.trans Hq (λx hx=>.inl hx);clear hown6 Hq KI;refine hK.out _ _ (hH6) (λhHeld=>?_);(try simp only[Act.put,Be]);clear hK K;refine tk 15 ?_;refine wpAnyH_done Ap ?_ _;(try simp only[Act.put,Be]);clear hHeld hHc hH6 hc4 x0 x1;go_wp2;go_roundw
  case rel=>
   have hzl:=HZ.out.lt;have hwl:wr.heap.size<=w4.heap.size:=MK.out.size;have hba: ∀k∈bo BA++GZ fs4,wr.heap.size<=k:=λk hk=>X6.out k hk
   have jR:Own w6 77 2 A2 (i+1) c2 (Iw (Ej (zs++[(⟨x.1.nm,BA,(BI x.2).length,bc⟩,fs4)]))):=by
    have:=mg.out;unfold Ej at this⊢;rw[Bf,NS];exact this
   have Qr:JU w6 A2 (i+1) c2 (zs++[(⟨x.1.nm,BA,(BI x.2).length,bc⟩,fs4)]):=HOW.out.snoc Ij.out jR ((qH.out.Am ((AZ.refl [] w4).alloc _) EY).Am Ij.out (λk hk hm=>by have h1:=hba k hk;have h2:=hzl k (Bh _ hm);omega)) (λk hk hm=>by have h1:=hba k hk;have h2:=hzl k (Bi _ hm);omega);refine⟨i+1,A2,c2,zs++[(⟨x.1.nm,BA,(BI x.2).length,bc⟩,fs4)],Ac,by go_num,rfl,Qr,?_,(Dc.out.Aq V3.out).trans Ij.out (λx hx=>.inr (Lh.out x (Bh _ hx))),λk hk=>?_⟩
   ·rw[yC,XC.out];unfold BG;rw[D8,D8,take_snoc _ i _ (show (xs.map _)[i]? =some _ by rw[AV,HX.out];rfl)];simp only[HV4.out]
   rw[Yv] at hk;have h3:=Dc.out.size;rcases AU.1 hk with hk|hk
   ·rcases Y1.out k hk with h|h;exact Lh.out k (Bh _ h);simp at h;omega
   rcases AU.1 hk with hk|hk;exact Lh.out k (Bi _ hk);have:=hba k hk;omega
  simp[intOf];omega
 (obtain rfl:i=n:=by omega);go_wp2;go_ret;refine⟨A',i,c',zs,rfl,HZ.out,?_,Dc.out,Lh.out⟩;rw[XC.out,Bc (by rw[Ti.out];exact AP _)]
open Go
def Y8 (nm:ByteArray) (D:He):He:=D.filter λd=> !decide (d.1=nm)
def P5 (nm:ByteArray) (ds:List DM):List DM:=ds.filter λd=> !decide (d.1.nm=nm)
theorem dK(nm:ByteArray)(ds:List DM):BG (P5 nm ds)=Y8 nm (BG ds):=by
 unfold P5 Y8 BG;rw[Ju];rfl
theorem uC{nm:ByteArray}{ds:List DM}{k:Nat}{d:DM}(h:ds[k]? =some d):P5 nm (ds.take (k+1))=if d.1.nm=nm then P5 nm (ds.take k) else P5 nm (ds.take k)++[d]:=by
 unfold P5;rw[FC,h,Option.toList_some,IQ];by_cases hd:d.1.nm=nm;rw[if_pos hd];simp[hd];rw[if_neg hd];simp[hd]
theorem AIv(nm:ByteArray)(ds:List DM)(k:Nat):(P5 nm (ds.take k)).length<=k:=by
 unfold P5;refine Ah (Jn _ _) ?_;rw[CB];omega
def AJ6 (w:World) (L:List DM) (e:Ending) (w':World):Prop:=
 ∃A c,e=.returned (.slice A L.length c)/\Own w' 77 2 A L.length c (Iw (Ej L))/\AZ [] w w'/\∀k∈bo A,w.heap.size<=k
theorem ADR(xs:List Jm)(x:Jm):Iw (xs++[x])=Iw xs++[.string x.nm,.slice x.A x.n x.c]:=by unfold Iw Jm.cells;rw[VH];simp
theorem yD(A:Option Addr)(n c:Nat)(ds:List DM)(nm:ByteArray)(w:World)(h:Gl w A n c ds)(hn:n<=1073741824):
  Calls Ae 22 #[.slice A n c,.string nm] w (AJ6 w (P5 nm ds)):=by
 (have hl:ds.length=n:=by have:=h.row.OJ;simpa[Ej] using this);have HD:=AQ h;have HL:=AQ hl;clear h hl;go_enter AKU,Tryz.ntmps22;go_wp2;go_loopw [5,6] (λs i wr=>∃(k:Nat) (A5:Option Addr) (c5:Nat),k<=n/\i=.int .i64 k/\s=.slice A5 (P5 nm (ds.take k)).length c5/\Own wr 77 2 A5 (P5 nm (ds.take k)).length c5 (Iw (Ej (P5 nm (ds.take k))))/\AZ [] w wr/\∀x∈bo A5,w.heap.size<=x) (λ_ i _=>n - (intOf i).toNat)
 case atStart=>exact⟨0,some ⟨w.heap.size,0,none⟩,0,BP _,rfl,rfl,Own.lit w 77 2 #[] 0 Az rfl,(AZ.refl [] w).alloc _,AY⟩
 obtain⟨k,A5,c5,hk,rfl,rfl,ho,hch,hnew⟩:=hrel;have HO:=AQ ho;have HC:=AQ hch;have HN:=AQ hnew;have hlw:=AIv nm ds k;clear ho hch hnew;by_cases hlt:k<n
 ·obtain⟨d,hd⟩: ∃d,ds[k]? =some d:=⟨_,Af (by have:=HL.out;omega)⟩;obtain⟨⟨FV,dA,dn,dc⟩,Gq⟩:=d;obtain⟨ad,rfl,hat⟩:=(HD.out.GK HC.out).row.ns (j:=k) (x:=⟨FV,dA,dn,dc⟩) (by unfold Ej;rw[AV,hd];rfl);have x0:=hat.c0;have x1:=hat.c1;have HX:=AQ hd;clear hd hat;by_cases hnm:FV=nm
  ·(have hb:(FV.toList==nm.toList)=true:=by rw[<- UZ];exact decide_eq_true hnm);have HW:Hid (P5 nm (ds.take (k+1))=P5 nm (ds.take k)):=AQ (by rw[uC HX.out,if_pos hnm]);clear hnm;go_wp2;go_roundw
   case rel=>exact⟨k+1,A5,c5,Ac,by go_num,by rw[HW.out],by rw[HW.out];exact HO.out,HC.out,HN.out⟩
   simp[intOf];omega
  (have hb:(FV.toList==nm.toList)=false:=by rw[<- UZ];exact decide_eq_false hnm);have HW:Hid (P5 nm (ds.take (k+1))=P5 nm (ds.take k)++[(⟨FV,dA,dn,dc⟩,Gq)]):=AQ (by rw[uC HX.out,if_neg hnm]);clear hnm;(go_wp2_with (at_builtin;refine Fq rfl _ _ rfl lM rfl (HO.out.Am ((AZ.refl [] wr).alloc _) AY) rfl (Own.aH _ 77 2 #[.string FV,.slice dA dn dc] 1 _ _ rfl rfl Az rfl).rd (by simp[Value.oneCell']) (by unfold maxLen;omega) Ac ?_;intro A9 c9 wb hown EJ AOz _));go_roundw
  case rel=>
   refine⟨k+1,A9,c9,Ac,by go_num,by rw[HW.out];simp,?_,((HC.out.alloc _).trans EJ (λx hx=>.inr (HN.out x hx))),λx hx=>?_⟩
   ·rw[HW.out];(have:Ej (P5 nm (ds.take k)++[(⟨FV,dA,dn,dc⟩,Gq)])=Ej (P5 nm (ds.take k))++[⟨FV,dA,dn,dc⟩]:=by simp[Ej]);rw[this,ADR,DU];exact hown
   rcases AOz x hx with h|h;exact HN.out x h;have h1:=h.1;have h2:=HC.out.size;simp at h1;omega
  simp[intOf];omega
 (obtain rfl:k=n:=by omega);go_wp2;go_ret;have h1:ds.take k=ds:=Bc (by have:=HL.out;omega);rw[h1] at HO;rw[h1];exact⟨A5,c5,rfl,HO.out,HC.out,HN.out⟩
def Inn (w:World) (L:List Nat) (vs:List Value) (ws:List (List Int)):Prop:=
 vs.length=ws.length/\∀(i:Nat) (x:List Int),ws[i]? =some x->∃A c,vs[i]? =some (.slice A x.length c)/\Own w 5 1 A x.length c (bv x)/\∀k∈bo A,k∈L
theorem Inn.Am{w w':World}{L M:List Nat}{vs:List Value}{ws:List (List Int)}(h:Inn w L vs ws)(hc:AZ M w w')(hn: ∀k∈L,k∈M->∃t cs,Bo w k t cs/\t≠5):Inn w' L vs ws:=
 ⟨h.1,λi x hx=>by
  obtain⟨A,c,h1,h2,h3⟩:=h.2 i x hx;refine⟨A,c,h1,h2.Am hc (λk hk hm=>?_),h3⟩;obtain⟨t,cs,hb,ht⟩:=hn k (h3 k hk) hm
  exact h2.FZ hb ht k hk rfl⟩
def yE (w:World) (g:Nat) (L:List Nat) (base:List Int) (ws:List (List Int)):Prop:=
 ∃A n c W m d vs,Bo w g 149 #[.slice A n c,.slice W m d]/\Own w 5 1 A n c (bv base)/\Own w 62 1 W m d vs/\Inn w L vs ws/\
  g∈L/\(∀k∈bo A,k∈L)/\(∀k∈bo W,k∈L)/\(∀k∈L,k<w.heap.size)/\n=base.length/\m=ws.length
theorem yE.lt{w:World}{g:Nat}{L:List Nat}{base:List Int}{ws:List (List Int)}(h:yE w g L base ws): ∀k∈L,k<w.heap.size:=by
 obtain⟨A,n,c,W,m,d,vs,hb,h1,h2,h3,h4,h5,h6,h7,_⟩:=h;exact h7
theorem yE.Am{w w':World}{g:Nat}{L M:List Nat}{base:List Int}{ws:List (List Int)}(h:yE w g L base ws)(hc:AZ M w w')(hn: ∀k∈L,k∉M):yE w' g L base ws:=by
 obtain⟨A,n,c,W,m,d,vs,hb,h1,h2,h3,h4,h5,h6,h7,h8⟩:=h;exact⟨A,n,c,W,m,d,vs,hb.Am hc (hn g h4),h1.Am hc (λk hk=>hn k (h5 k hk)),h2.Am hc (λk hk=>hn k (h6 k hk)),h3.Am hc (λk hk hm=>absurd hm (hn k hk)),h4,h5,h6,λk hk=>BU (h7 k hk) hc.size,h8⟩
def AJ7 (w:World) (zs:List Int) (e:Ending) (w':World):Prop:=
 ∃g L,e=.returned (.pointer (some ⟨g,0,none⟩))/\yE w' g L zs []/\AZ [] w w'/\∀k∈L,w.heap.size<=k
theorem uD(A:Option Addr)(n c:Nat)(zs:List Int)(w:World)(hn:n<=1073741824)(hrd:Rd w 1 A n c (bv zs)):
  Calls Ae 31 #[.slice A n c] w (AJ7 w zs):=by
 (have hl:zs.length=n:=by have:=hrd.1;simp at this;omega);have HL:=AQ hl;clear hl;have k53:= @ALK;go_enter AKY,Tryz.ntmps31;(go_wp2_with (go_at_call 53;refine (sF A n c zs _ hn hrd).mono ?_;rintro e w1 ⟨A1,c1,rfl,hown,EJ,hnew⟩));go_ret;have hsz:=EJ.size;refine⟨w1.heap.size,w1.heap.size::bo A1,rfl,⟨A1,n,c1,none,0,0,[],Bo.new w1 149 _,hown.Am ((AZ.refl [] w1).alloc _) AY,Own.nil _ _ _,⟨rfl,λi x hx=>by simp at hx⟩,AY,λk hk=>by simp[hk],AY,?_,HL.out.symm,rfl⟩,EJ.alloc _,?_⟩
 ·intro k hk;simp at hk⊢;rcases hk with rfl|hk;omega;have:=hown.lt k hk;omega
 intro k hk;simp at hk;rcases hk with rfl|hk;omega;exact hnew k hk
def yU (x:Nat):Value:=.pointer (some ⟨x,0,none⟩)
def nmc (q:ByteArray×Nat):List Value:=[.string q.1,.int .i64 (q.2:Nat)]
def XL (xs:Qi):List Value:=xs.flatMap nmc
theorem ABW(xs:Qi):(XL xs).length=xs.length*2:=by
 induction xs with|nil=>rfl|cons x r ih=>simp only[XL,F8,DU,List.length_cons] at ih⊢;rw[ih];simp[nmc];omega
theorem ABX(a b:Qi):XL (a++b)=XL a++XL b:=by simp[XL]
theorem ABY(xs:Qi): ∀u∈XL xs,u.oneCell'=true:=by
 intro u hu;obtain⟨x,_,h⟩:=Bd.1 hu;simp only[nmc,AA,JY,or_false] at h;rcases h with rfl|rfl<;>rfl
theorem Rd.nml{w:World}{A:Option Addr}{n c:Nat}{xs:Qi}(h:Rd w 2 A n c (XL xs)):xs.length=n:=by have:=h.1;rw[ABW] at this;omega
abbrev RF:=Jm×Qi
def Vm (rs:List RF):List Jm:=rs.map (·.1)
def N7 (rs:List RF):Tr:=rs.map λr=>(r.1.nm,r.2)
def Gy (rs:List RF):List Nat:=rs.flatMap λr=>bo r.1.A
structure QQ (w:World) (A:Option Addr) (n c:Nat) (rs:List RF):Prop where
 row:Rd w 2 A n c (Iw (Vm rs))
 Iu: ∀r∈rs,Rd w 2 r.1.A r.1.n r.1.c (XL r.2)
theorem QQ.Am{w w':World}{A:Option Addr}{n c:Nat}{rs:List RF}{L:List Nat}(h:QQ w A n c rs)(hc:AZ L w w')(hn: ∀k∈bo A++Gy rs,k∉L):QQ w' A n c rs:=
 ⟨h.row.Am hc (λk hk=>hn k (Bh _ hk)),λr hr=>(h.Iu r hr).Am hc (λk hk=>hn k (Bi _ (Bd.2 ⟨r,hr,hk⟩)))⟩
theorem QQ.len{w:World}{A:Option Addr}{n c:Nat}{rs:List RF}(h:QQ w A n c rs):rs.length=n:=by have:=h.row.OJ;simpa[Vm] using this
theorem AIw{rs:List RF}{i:Nat}{r:RF}(h:rs[i]? =some r):(Vm rs)[i]? =some r.1:=by unfold Vm;rw[AV,h];rfl
theorem uF:Ety Ae 78 86 2 40 (.agg #[.string ByteArray.empty,.slice none 0 0]):=.mk' AQb Ap rfl Az
theorem ny:Ety Ae 84 88 2 24 (.agg #[.string ByteArray.empty,.int .i64 0]):=.mk' AQe Ap rfl Az
theorem ABZ:Ety Ae 80 89 1 8 (.pointer none):=.mk' AQc Ap rfl Az
def chc:FH->List Value
 | .Dn d=>[.int .i64 1,.string d,.string noS,.string noS,.int .i64 0]| .create d n i=>[.int .i64 2,.string d,.string n,.string noS,.int .i64 (i:Nat)]| .rename a b=>[.int .i64 3,.string a,.string noS,.string b,.int .i64 0]| .remove d n=>[.int .i64 4,.string d,.string n,.string noS,.int .i64 0]| .rmdir d=>[.int .i64 5,.string d,.string noS,.string noS,.int .i64 0]
def chv (cs:List FH):List Value:=cs.flatMap chc
structure yF where
 b:Nat
 sA:Option Addr
 sc:Nat
 rs:List RF
 pA:Option Addr
 pc:Nat
 ps:List RF
 cA:Option Addr
 cc:Nat
 fA:Option Addr
 fc:Nat
 wA:Option Addr
 wc:Nat
 K:List Nat
 sg:List Nat
 Ls:List (List Nat)
def yF.parts (R:yF):List (List Nat):=[R.b]::bo R.cA::bo R.fA::bo R.wA::R.K::R.Ls
def yF.all (R:yF):List Nat:=R.parts.flatten
structure RfM (w:World) (R:yF) (S:St):Prop where
 blk:Bo w R.b 83 #[.slice R.sA S.seen.length R.sc,.slice R.pA S.safe.length R.pc,.slice R.cA S.FQ.length R.cc,.slice R.fA S.files.length R.fc,.slice R.wA S.wr.length R.wc,.int .i64 S.BR,.int .i64 S.stop,.int .i64 (S.steps:Int)]
 seen:QQ w R.sA S.seen.length R.sc R.rs
 ARo:N7 R.rs=S.seen
 ARp: ∀k∈bo R.sA++Gy R.rs,k∈R.K
 safe:QQ w R.pA S.safe.length R.pc R.ps
 ARq:N7 R.ps=S.safe
 ARr: ∀k∈bo R.pA++Gy R.ps,k∈R.K
 Am:Own w 275 5 R.cA S.FQ.length R.cc (chv S.FQ)
 Iu:Own w 89 1 R.fA S.files.length R.fc (R.sg.map yU)
 cO:Own w 3 1 R.wA S.wr.length R.wc (S.wr.map λi=>.int .i64 (i:Nat))
 Qk:R.Ls.length=S.files.length
 Zx: ∀(i g:Nat) (L:List Nat) (f:Hg),R.sg[i]? =some g->R.Ls[i]? =some L->S.files[i]? =some f->yE w g L f.1 f.2
 lay:Lay w R.parts
def AO0 (w:World) (T:Tr) (n:Nat) (e:Ending) (w':World):Prop:=
 ∃A c rs,e=.returned (.slice A n c)/\QQ w' A n c rs/\N7 rs=T/\AZ [] w w'/\∀k∈bo A++Gy rs,w.heap.size<=k/\k<w'.heap.size
theorem nz(rs:List RF)(r:RF):N7 (rs++[r])=N7 rs++[(r.1.nm,r.2)]:=by simp[N7]
theorem NK(rs:List RF)(r:RF):Gy (rs++[r])=Gy rs++bo r.1.A:=by simp[Gy]
theorem oC(rs:List RF)(r:RF):Vm (rs++[r])=Vm rs++[r.1]:=by simp[Vm]
theorem yG(A:Option Addr)(n c:Nat)(rs:List RF)(w:World)(ha:QQ w A n c rs)(hn:n<=1073741824)(hfn: ∀r∈rs,r.1.n<=1073741824):
  Calls Ae 32 #[.slice A n c] w (AO0 w (N7 rs) n):=by
 have hlx:=ha.len;have HA:=AQ ha;have Ti:=AQ hlx;have XD:=AQ hfn;clear ha hlx hfn;go_enter AKZ,Tryz.ntmps32;go_wp2;go_loopw [3,4] (λo q wr=>∃(i:Nat) (A':Option Addr) (c':Nat) (zs:List RF),i<=n/\q=.int .i64 i/\o=.slice A' i c'/\Own wr 86 2 A' i c' (Iw (Vm zs))/\(∀z∈zs,Own wr 88 2 z.1.A z.1.n z.1.c (XL z.2))/\N7 zs=N7 (rs.take i)/\AZ [] w wr/\∀k∈bo A'++Gy zs,w.heap.size<=k) (λ_ q _=>n - (intOf q).toNat)
 case atStart=>exact⟨0,_,0,[],BP _,rfl,rfl,Own.lit w 86 2 #[] 0 Az rfl,AY,rfl,(AZ.refl _ _).alloc _,by simp[Gy]⟩
 obtain⟨i,A',c',zs,hi,rfl,rfl,hz,hzf,hval,hch,hnw⟩:=hrel;have HZ:=AQ hz;have yV:=AQ hzf;have XC:=AQ hval;have Dc:=AQ hch;have Lh:=AQ hnw;clear hz hzf hval hch hnw;by_cases hlt:i<n
 ·(have hlt':(i:Int)<n:=by omega);obtain⟨x,hx⟩: ∃x,rs[i]? =some x:=⟨_,Af (by have:=Ti.out;omega)⟩;obtain⟨ad,rfl,hat⟩:=HA.out.row.ns (AIw hx)
  have nO:Hid (ad.block∉bo A'):=AQ (λhm=>by
   have h1:=World.block_lt_of_cell? w _ hat.c0;rw[add_block] at h1;have h2:=Lh.out _ (Bh _ hm)
   omega)
  have XK:=hat.Am Dc.out AB;have x0:=XK.c0;have x1:=XK.c1;have HX:=AQ hx;have HF:=AQ ((HA.out.Iu x (Aa hx)).Am Dc.out EY);have XP:=XD.out x (Aa hx);clear hx hat XK;go_wp2;refine wp_region_held_drew (S:=λw'=>AZ (bo A') wr w') Ap ((AZ.refl _ _).drew) (λhHeld=>?_);refine tk 0 ?_;refine tk 1 ?_;refine tk 2 ?_;refine tk 3 ?_;refine tk 4 ?_;refine Gm 5 (λw' hSw=>hSw.cell x0 (λh=>nO.out (by simpa[add_block] using h))) ?_;refine tk 7 ?_;refine tk 8 ?_;refine tk 9 ?_;refine tk 10 ?_;refine Gm 11 (λw' hSw=>hSw.cell x1 (λh=>nO.out (by simpa[add_block] using h))) ?_;refine Ee 6 λK hK=>?_;go_simp;refine hK.out _ _ (hHeld.alloc _) (λhHeld=>?_);(try simp only[Act.put,Be]);clear hK K;refine Ee 12 λK hK=>?_;refine JE rfl _ _ rfl ny rfl (Own.lit wr.drew 88 2 #[] 0 Az rfl) rfl (HF.out.Am (((AZ.refl [] wr).drew).alloc (.cells #[] 88)) EY) (ABY _) (by unfold maxLen;omega) Ac ?_;intro B2 d2 w5 hown5 mP mQ _;have X3:Hid (Own w5 88 2 B2 x.1.n d2 (XL x.2)):=AQ (by simpa using hown5);have Ql:Hid (AZ [] wr w5):=AQ (((((AZ.refl [] wr).drew).alloc (.cells #[] 88))).trans mP (λx hx=>by simp at hx;subst hx;right;simp));have Sz:Hid (∀k∈bo B2,wr.heap.size<=k):=AQ (λk hk=>by rcases mQ k hk with h|h;simp at h;omega;have:=h.1;simp at this;omega);have hH5:=(AZ.refl (bo A') wr).trans (Ql.out.nil (bo A')) (λx hx=>.inl hx);have HOW:Hid (Own (w5.alloc (.cells #[.string x.1.nm,.slice B2 x.1.n d2] 86)) 86 2 A' i c' (Iw (Vm zs))):=AQ (HZ.out.Am (Ql.out.alloc _) EY);clear hown5 mP mQ;refine hK.out _ _ (hH5) (λhHeld=>?_);(try simp only[Act.put,Be]);clear hK K;refine tk 13 ?_;refine Ee 14 λK hK=>?_;go_simp;refine hK.out _ _ (hHeld.alloc _) (λhHeld=>?_);(try simp only[Act.put,Be]);clear hK K;refine Ee 15 λK hK=>?_;refine JE rfl _ _ rfl uF rfl HOW.out rfl (Own.lit w5 86 2 #[.string x.1.nm,.slice B2 x.1.n d2] 1 Az rfl).rd (UO [⟨x.1.nm,B2,x.1.n,d2⟩]) (by unfold maxLen;omega) Ac ?_;intro A2 c2 w6 hown6 Hq KI _;have mg:=AQ hown6;have Ij:=AQ Hq;have Y1:=AQ KI;have hH6:=hHeld.trans Hq (λx hx=>.inl hx);clear hown6 Hq KI;refine hK.out _ _ (hH6) (λhHeld=>?_);(try simp only[Act.put,Be]);clear hK K;refine tk 16 ?_;refine wpAnyH_done Ap ?_ _;(try simp only[Act.put,Be]);clear hHeld hH5 hH6 x0 x1;go_wp2;go_roundw
  case rel=>
   have hzl: ∀z∈zs,∀k∈bo z.1.A,k<wr.heap.size:=λz hz k hk=>(yV.out z hz).lt k hk;have hcl:AZ [] wr (w5.alloc (.cells #[.string x.1.nm,.slice B2 x.1.n d2] 86)):=Ql.out.alloc _;have hAl:=HZ.out.lt;refine⟨i+1,A2,c2,zs++[(⟨x.1.nm,B2,x.1.n,d2⟩,x.2)],Ac,by go_num,rfl,?_,λz hz=>?_,?_,(Dc.out.Aq hcl).trans Ij.out (λx hx=>.inr (Lh.out x (Bh _ hx))),λk hk=>?_⟩
   ·have:=mg.out;rw[oC,NS];exact this
   ·rcases AU.1 hz with hz|hz;exact ((yV.out z hz).Am hcl EY).Am Ij.out ((yV.out z hz).own_ne HZ.out Az);simp only[Ad] at hz;subst hz;exact (X3.out.Am ((AZ.refl [] w5).alloc _) EY).Am Ij.out (λk hk hm=>by have h1:=Sz.out k hk;have h2:=hAl k hm;omega)
   ·rw[nz,XC.out];unfold N7;rw[D8,D8,take_snoc _ i _ (show (rs.map _)[i]? =some _ by rw[AV,HX.out];rfl)]
   rw[NK] at hk;have h3:=Dc.out.size;rcases AU.1 hk with hk|hk
   ·rcases Y1.out k hk with h|h;exact Lh.out k (Bh _ h);have h4:=Ql.out.size;simp at h;omega
   rcases AU.1 hk with hk|hk;exact Lh.out k (Bi _ hk);have:=Sz.out k hk;omega
  simp[intOf];omega
 (obtain rfl:i=n:=by omega);go_wp2;go_ret
 refine⟨A',c',zs,rfl,⟨HZ.out.rd,λz hz=>(yV.out z hz).rd⟩,?_,Dc.out,λk hk=>⟨Lh.out k hk,by
  rcases AU.1 hk with hk|hk;exact HZ.out.lt k hk;obtain⟨z,hz,hk⟩:=Bd.1 hk
  exact (yV.out z hz).lt k hk⟩⟩
 rw[XC.out,Bc (by rw[Ti.out];exact AP _)]
def ADS (w:World) (D:He) (BR stop:Int) (e:Ending) (w':World):Prop:=
 (ER D BR≠0/\e=.returned (.tuple #[.pointer none,.int .i64 (ER D BR)])/\AZ [] w w')\/
 (ER D BR=0/\∃R,e=.returned (.tuple #[.pointer (some ⟨R.b,0,none⟩),.int .i64 0])/\RfM w' R (FT D BR stop)/\(∀x∈R.all,w.heap.size<=x)/\AZ [] w w')
structure Ry (w:World) (b:Nat) (sA:Option Addr) (sc:Nat) (rs:List RF) (fA:Option Addr) (fc:Nat) (sg:List Nat) (Ls:List (List Nat)) (fs:List Hg) (q a:Int):Prop where
 blk:Bo w b 83 #[.slice sA rs.length sc,.slice none 0 0,.slice none 0 0,.slice fA fs.length fc,.slice none 0 0,.int .i64 q,.int .i64 a,.int .i64 0]
 row:Own w 86 2 sA rs.length sc (Iw (Vm rs))
 Iu: ∀r∈rs,Own w 88 2 r.1.A r.1.n r.1.c (XL r.2)
 J5:Own w 89 1 fA fs.length fc (sg.map yU)
 Qk:Ls.length=fs.length
 Zx: ∀(i g:Nat) (L:List Nat) (f:Hg),sg[i]? =some g->Ls[i]? =some L->fs[i]? =some f->yE w g L f.1 f.2
 lay:Lay w ([b]::bo sA::bo fA::Gy rs::Ls)
theorem Ry.CX{w w':World}{b:Nat}{sA:Option Addr}{sc:Nat}{rs:List RF}{fA:Option Addr}{fc:Nat}{sg:List Nat}{Ls:List (List Nat)}{fs:List Hg}{q a:Int}(h:Ry w b sA sc rs fA fc sg Ls fs q a)(hc:AZ [] w w'):Ry w' b sA sc rs fA fc sg Ls fs q a:=
 ⟨h.blk.Am hc AB,h.row.Am hc EY,λr hr=>(h.Iu r hr).Am hc EY,h.J5.Am hc EY,h.Qk,λi g L f e1 e2 e3=>(h.Zx i g L f e1 e2 e3).Am hc EY,h.lay.mono hc.size⟩
theorem Ry.Vx{w:World}{b:Nat}{sA:Option Addr}{sc:Nat}{rs:List RF}{fA:Option Addr}{fc:Nat}{sg:List Nat}{Ls:List (List Nat)}{fs:List Hg}{q a:Int}(h:Ry w b sA sc rs fA fc sg Ls fs q a):sg.length=fs.length:=by have:=h.J5.1;simp at this;omega
theorem Ry.file{w w1 w2:World}{b:Nat}{sA:Option Addr}{sc:Nat}{rs:List RF}{fA:Option Addr}{fc:Nat}{sg:List Nat}{Ls:List (List Nat)}{fs:List Hg}{q a:Int}(h:Ry w b sA sc rs fA fc sg Ls fs q a)
  (hc1:AZ [] w w1) {g:Nat} {L:List Nat} {f:List Int} (hL: ∀k∈L,w.heap.size<=k) (hs:yE w1 g L f []) {yX:Option Addr} {fc':Nat} (hc2:AZ (b::bo fA) w1 w2)
  (hb:Bo w2 b 83 #[.slice sA rs.length sc,.slice none 0 0,.slice none 0 0,.slice yX (fs.length+1) fc',.slice none 0 0,.int .i64 q,.int .i64 a,.int .i64 0])
  (ho:Own w2 89 1 yX (fs.length+1) fc' ((sg++[g]).map yU)) (hA: ∀x∈bo yX,x∈bo fA\/w1.heap.size<=x):Ry w2 b sA sc rs yX fc' (sg++[g]) (Ls++[L]) (fs++[(f,[])]) q a:=by
 have h1:=h.CX hc1;have hl1:=h.lay.snoc (w':=w1) hL (hs.lt) hc1.size
 have O3: ∀x∈b::bo fA,∃j P,j∈[0,2]/\([b]::bo sA::bo fA::Gy rs::(Ls++[L]))[j]? =some P/\x∈P:=λx hx=>by
  rcases AA.1 hx with rfl|hx;exact⟨0,_,AY,rfl,AY⟩;exact⟨2,_,AY,rfl,hx⟩
 have hk:=λ(i:Nat) (P:List Nat) (hi:([b]::bo sA::bo fA::Gy rs::(Ls++[L]))[i]? =some P) (hne:i∉[0,2])=>Lay.others (w:=w1) hl1 O3 hi hne;refine⟨by simpa using hb,h1.row.Am hc2 (hk 1 _ rfl AY),λr hr=>(h1.Iu r hr).Am hc2 (λk iR=>hk 3 _ rfl AY k (Bd.2 ⟨r,hr,iR⟩)),by simpa using ho,by simp[h.Qk],λi g' L' f' e1 e2 e3=>?_,?_⟩
 ·have l1:=h.Vx;have l2:=h.Qk;by_cases hi:i<fs.length
  ·rw[Dy Ac] at e1 e2 e3;exact (h1.Zx i g' L' f' e1 e2 e3).Am hc2 (hk (i+4) L' (by simpa using (Dy Ac:(Ls++[L])[i]? =Ls[i]?).trans e2) AY)
  have hie:i=fs.length:=by
   have:=(BB.1 e3).1;simp at this;omega
  subst hie;rw[Bj Ac,l1,DT] at e1;rw[Bj Ac,l2,DT] at e2;rw[Bj Ac,DT] at e3;simp at e1 e2 e3;subst e1;subst e2;subst e3;exact hs.Am hc2 (hk (fs.length+4) L (by simp[<- l2]) AY)
 have:=hl1.Em (w':=w2) (i:=2) (P:=bo fA) (P':=bo yX) rfl hA ho.lt hc2.size;exact this
theorem Ry.dir{w w2:World}{b:Nat}{sA:Option Addr}{sc:Nat}{rs:List RF}{fA:Option Addr}{fc:Nat}{sg:List Nat}{Ls:List (List Nat)}{fs:List Hg}{q a:Int}(h:Ry w b sA sc rs fA fc sg Ls fs q a)
  {r:RF} {w0:World} (hl0:Lay w0 ([b]::bo sA::Gy rs::[])) (hr0: ∀k∈bo r.1.A,w0.heap.size<=k) (hro:Own w 88 2 r.1.A r.1.n r.1.c (XL r.2)) (hrl: ∀k∈bo r.1.A,∀P∈bo fA::Ls,k∉P) {sA':Option Addr} {sc':Nat} (hc2:AZ (b::bo sA) w w2)
  (hb:Bo w2 b 83 #[.slice sA' (rs.length+1) sc',.slice none 0 0,.slice none 0 0,.slice fA fs.length fc,.slice none 0 0,.int .i64 q,.int .i64 a,.int .i64 0])
  (ho:Own w2 86 2 sA' (rs.length+1) sc' (Iw (Vm (rs++[r])))) (hA: ∀x∈bo sA',x∈bo sA\/w.heap.size<=x):Ry w2 b sA' sc' (rs++[r]) fA fc sg Ls fs q a:=by
 have O3: ∀x∈b::bo sA,∃j P,j∈[0,1]/\([b]::bo sA::bo fA::Gy rs::Ls)[j]? =some P/\x∈P:=λx hx=>by
  rcases AA.1 hx with rfl|hx;exact⟨0,_,AY,rfl,AY⟩;exact⟨1,_,AY,rfl,hx⟩
 have hk:=λ(i:Nat) (P:List Nat) (hi:([b]::bo sA::bo fA::Gy rs::Ls)[i]? =some P) (hne:i∉[0,1])=>Lay.others (w:=w) h.lay O3 hi hne
 have hrn: ∀k∈bo r.1.A,k∉b::bo sA:=λk hkr hm=>by
  have h1:=hr0 k hkr;rcases AA.1 hm with rfl|hm;have:=hl0.lt [k] AY k AY;omega;have:=hl0.lt (bo sA) AY k hm;omega
 refine⟨by simpa using hb,by simpa using ho,λx hx=>?_,h.J5.Am hc2 (hk 2 _ rfl AY),h.Qk,λi g' L' f' e1 e2 e3=>(h.Zx i g' L' f' e1 e2 e3).Am hc2 (hk (i+4) L' (by simpa using e2) AY),?_⟩
 ·rcases AU.1 hx with hx|hx;exact (h.Iu x hx).Am hc2 (λk iR=>hk 3 _ rfl AY k (Bd.2 ⟨x,hx,iR⟩));simp only[Ad] at hx;subst hx;exact hro.Am hc2 hrn
 have h3:Lay w ([b]::bo sA::bo fA::Gy (rs++[r])::Ls):=by
  have hs:=h.lay.sep;simp only[Sep,EI] at hs;obtain⟨s0,s1,s2,s3,s4⟩:=hs;have hb0:=hl0.lt;refine⟨?_,λP hP x hx=>?_⟩
  ·simp only[Sep,EI];refine⟨λP hP x hx hm=>?_,λP hP x hx hm=>?_,λP hP x hx hm=>?_,λP hP x hx hm=>?_,s4⟩
   ·simp only[AA] at hP;rcases hP with rfl|rfl|rfl|hP;exact s0 _ AY x hx hm;exact s0 _ AY x hx hm
    ·rw[NK] at hm;rcases AU.1 hm with hm|hm;exact s0 _ AY x hx hm;have h1:=hr0 x hm;have:=hb0 [b] AY x hx;omega
    exact s0 P (by simp[hP]) x hx hm
   ·simp only[AA] at hP;rcases hP with rfl|rfl|hP;exact s1 _ AY x hx hm
    ·rw[NK] at hm;rcases AU.1 hm with hm|hm;exact s1 _ AY x hx hm;have h1:=hr0 x hm;have:=hb0 (bo sA) AY x hx;omega
    exact s1 P (by simp[hP]) x hx hm
   ·simp only[AA] at hP;rcases hP with rfl|hP
    ·rw[NK] at hm;rcases AU.1 hm with hm|hm;exact s2 _ AY x hx hm;exact hrl x hm _ AY hx
    exact s2 P (by simp[hP]) x hx hm
   rw[NK] at hx;rcases AU.1 hx with hx|hx;exact s3 P hP x hx hm;exact hrl x hx P (by simp[hP]) hm
  simp only[AA] at hP;rcases hP with rfl|rfl|rfl|rfl|hP;exact h.lay.lt _ AY x hx;exact h.lay.lt _ AY x hx;exact h.lay.lt _ AY x hx
  ·rw[NK] at hx;rcases AU.1 hx with hx|hx;exact h.lay.lt (Gy rs) AY x hx;exact hro.lt x hx
  exact h.lay.lt P (by simp[hP]) x hx
 have:=h3.Em (w':=w2) (i:=1) (P:=bo sA) (P':=bo sA') rfl hA ho.lt hc2.size;exact this
theorem Lay.sub{w:World}{Ps Qs:List (List Nat)}(h:Lay w Ps)(hs:Qs.Sublist Ps):Lay w Qs:=⟨VG hs h.sep,λP hP=>h.lt P (hs.subset hP)⟩
theorem Ry.done{w w3 w4:World}{b:Nat}{sA:Option Addr}{sc:Nat}{rs:List RF}{fA:Option Addr}{fc:Nat}{sg:List Nat}{Ls:List (List Nat)}{fs:List Hg}{q a:Int}(h:Ry w b sA sc rs fA fc sg Ls fs q a)
  (hc:AZ [] w w3) {pA:Option Addr} {pc n:Nat} {ps:List RF} (hrn:rs.length=n) (hT:QQ w3 pA n pc ps) (hpv:N7 ps=N7 rs) (hnew: ∀k∈bo pA++Gy ps,w.heap.size<=k/\k<w3.heap.size) (hc4:AZ [b] w3 w4)
  (hb:Bo w4 b 83 #[.slice sA n sc,.slice pA n pc,.slice none 0 0,.slice fA fs.length fc,.slice none 0 0,.int .i64 q,.int .i64 a,.int .i64 0]):
  RfM w4 ⟨b,sA,sc,rs,pA,pc,ps,none,0,fA,fc,none,0,bo sA++Gy rs++(bo pA++Gy ps),sg,Ls⟩ ⟨N7 rs,N7 rs,[],fs,[],q,a,0⟩:=by
 have hl:=h.lay;have h3:=h.CX hc;(have hln:(N7 rs).length=n:=by simp[N7,hrn]);have hbl:=h.blk.lt;have hnb: ∀(i:Nat) (P:List Nat),([b]::bo sA::bo fA::Gy rs::Ls)[i+1]? =some P->∀x∈P,x∉[b]:=λi P hi x hx hm=>hl.ne (i:=0) (j:=i+1) rfl hi Ac x hm hx;have hsn:QQ w4 sA n sc rs:=⟨by have:=(h3.row.Am hc4 (hnb 0 _ rfl)).rd;rw[hrn] at this;exact this,λr hr=>((h3.Iu r hr).Am hc4 (λk hk=>hnb 2 _ rfl k (Bd.2 ⟨r,hr,hk⟩))).rd⟩;refine⟨by simpa[hln] using hb,by rw[hln];exact hsn,rfl,λk hk=>Bh _ hk,by rw[hln];exact hT.Am hc4 (λk hk hm=>by have:=(hnew k hk).1;simp at hm;omega),hpv,λk hk=>Bi _ hk,Own.nil _ _ _,h3.J5.Am hc4 (hnb 1 _ rfl),Own.nil _ _ _,h.Qk,λi g L f e1 e2 e3=>(h3.Zx i g L f e1 e2 e3).Am hc4 (hnb (i+3) L (by simpa using e2)),?_⟩;have hlt: ∀P∈([b]::bo sA::bo fA::Gy rs::Ls),∀x∈P,x<w4.heap.size:=λP hP x hx=>BU (hl.lt P hP x hx) (Ah hc.size hc4.size);have hs:=hl.sep;simp only[Sep,EI] at hs;obtain⟨s0,s1,s2,s3,s4⟩:=hs;refine⟨?_,λP hP x hx=>?_⟩
 ·simp only[Sep,yF.parts,EI,Wl];refine⟨λP hP x hx hm=>?_,AY,λP hP x hx hm=>?_,AY,λP hP x hx hm=>?_,s4⟩
  ·simp only[AA] at hP;rcases hP with rfl|rfl|rfl|rfl|hP;simp at hm;exact s0 _ AY x hx hm;simp at hm
   ·rcases AU.1 hm with hm|hm
    ·rcases AU.1 hm with hm|hm;exact s0 (bo sA) AY x hx hm;exact s0 (Gy rs) AY x hx hm
    have:=(hnew x hm).1;simp at hx;omega
   exact s0 P (by simp[hP]) x hx hm
  ·simp only[AA] at hP;rcases hP with rfl|rfl|hP;simp at hm
   ·rcases AU.1 hm with hm|hm
    ·rcases AU.1 hm with hm|hm;exact s1 (bo fA) AY x hm hx;exact s2 (Gy rs) AY x hx hm
    have h1:=(hnew x hm).1;have h2:=hl.lt (bo fA) AY x hx;omega
   exact s2 P (by simp[hP]) x hx hm
  rcases AU.1 hx with hx|hx
  ·rcases AU.1 hx with hx|hx;exact s1 P (by simp[hP]) x hx hm;exact s3 P hP x hx hm
  have h1:=(hnew x hx).1;have h2:=hl.lt P (by simp[hP]) x hm;omega
 simp only[yF.parts,AA,Wl] at hP;rcases hP with rfl|rfl|rfl|rfl|rfl|hP;exact hlt [b] AY x hx;simp at hx;exact hlt (bo fA) AY x hx;simp at hx
 ·rcases AU.1 hx with hx|hx
  ·rcases AU.1 hx with hx|hx;exact hlt (bo sA) AY x hx;exact hlt (Gy rs) AY x hx
  exact BU (hnew x hx).2 hc4.size
 exact hlt P (by simp[hP]) x hx
end Go.Proofs.YtkkgcebhfghdnaaGreatDoor.Vw
