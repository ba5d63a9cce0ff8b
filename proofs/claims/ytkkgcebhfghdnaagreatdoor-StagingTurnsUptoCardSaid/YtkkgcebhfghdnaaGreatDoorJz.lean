/- Part 26 of what that rests on; no condition. -/
import Derived.Test.YtkkgcebhfghdnaaGreatDoorJx
import Derived.Deep.RegionHeld3
import Derived.Deep.RegionLaw
set_option maxRecDepth 100000
set_option maxHeartbeats 8000000
open Go.World renaming block_lt_of_cell?→UC
open Go renaming wp_region_held_drew→Ei, wpAnyH_done→Ef, Ending→Fv, Value→AP, World→AL, Calls→A7, Addr→Ag
open Option renaming map_some→FY, none→AB, some→AA
open ByteArray renaming empty→Lu
open List renaming length→KX
open Prod renaming fst→Aa
open Go.Act renaming put→BF
namespace Go.Proofs.YtkkgcebhfghdnaaGreatDoor.Vw
open Go.RowKit
theorem AAU(fs:List FM)(x:FM):BD (fs++[x])=BD fs++[(x.1.nm,x.2)]:=by simp[BD]
theorem AAV(ds:List DM)(x:DM):BJ (ds++[x])=BJ ds++[(x.1.nm,BD x.2)]:=by simp[BJ]
theorem AEw(A:Option Ag)(n c:Nat)(xs:List FM)(B:Option Ag)(m d:Nat)(ys:List FM)(w:AL)(ha:FO w A n c xs)(hb:FO w B m d ys)(hn:n<=1073741824):
  A7 Af 24 #[.slice A n c,.slice B m d] w (bH (BD xs=BD ys) w):=by
 (have hlx:xs.length=n:=by have:=ha.row.Ov;simpa[F5] using this);(have hly:ys.length=m:=by have:=hb.row.Ov;simpa[F5] using this);have HA:=AQ ha;have HB:=AQ hb;have UU:=AQ hlx;have HLY:=AQ hly;clear ha hb hlx hly;have k65:= @ASg;go_enter AMj,Tryz.ntmps24;by_cases hnm:n=m
 ·subst hnm;go_wp2;go_loopw [5] (λq wr=>∃i:Nat,i<=n/\q=.int .i64 i/\AZ [] w wr) (λq _=>n - (intOf q).toNat)
  case atStart=>exact⟨0,D5 _,rfl,AZ.refl _ _⟩
  obtain⟨i,hi,rfl,hch⟩:=hrel;have DY:=AQ hch;clear hch;by_cases hlt:i<n
  ·(have hlt':(i:Int)<n:=by omega);obtain⟨x,hx⟩: ∃x,xs[i]? =AA x:=⟨_,CQ (by have:=UU.out;omega)⟩;obtain⟨y,hy⟩: ∃y,ys[i]? =AA y:=⟨_,CQ (by have:=HLY.out;omega)⟩;obtain⟨ad,rfl,hat⟩:=(HA.out.Ho DY.out).row.ns (j:=i) (x:=x.1) (by unfold F5;rw[Bg,hx];rfl);obtain⟨bd,rfl,hbt⟩:=(HB.out.Ho DY.out).row.ns (j:=i) (x:=y.1) (by unfold F5;rw[Bg,hy];rfl);have x0:=hat.c0;have x1:=hat.c1;have y0:=hbt.c0;have y1:=hbt.c1;have HX:=AQ hx;have HY:=AQ hy;obtain⟨cb,hneq⟩: ∃cb,(x.1.nm.toList==y.1.nm.toList)=cb:=⟨_,rfl⟩;have HCB:Hid (cb=false->x.1.nm≠y.1.nm):=AQ (λh e=>by rw[e] at hneq;rw[h] at hneq;simp at hneq);have UT:Hid (∀w',AZ [] wr w'->A7 Af 65 #[.slice x.1.A x.1.n x.1.c,.slice y.1.A y.1.n y.1.c] w' (bH (x.2=y.2) w')):=AQ (λw' hc=>AEY _ _ _ _ _ _ _ _ w' (((HA.out.Ho DY.out).dat x (Bq HX.out)).Ak hc Ej) (((HB.out.Ho DY.out).dat y (Bq HY.out)).Ak hc Ej))
   have HNE:Hid (cb=false->BD xs≠BD ys):=AQ (λh e=>HCB.out h (by
    have:=congrArg (λl=>l[i]?.map Aa) e;simp only[BD,Bg,HX.out,HY.out,FY,DN] at this
    exact this))
   have HEQ:Hid (BD xs=BD ys->x.2=y.2):=AQ (λe=>by
    have:=congrArg (λl=>l[i]?.map Prod.snd) e;simp only[BD,Bg,HX.out,HY.out,FY,DN] at this
    exact this)
   clear hx hy hat hbt
   cases cb with
   |false=>
    go_wp2;refine Ei (S:=λw'=>AZ [] wr w') Aq ((AZ.refl _ _).drew) (λhHeld=>?_);refine tk 0 ?_;refine tk 1 ?_;refine tk 2 ?_;refine tk 3 ?_;refine GI 4 (λw' hSw=>hSw.cell x0 BC) ?_;refine tk 5 ?_;refine tk 6 ?_;refine tk 7 ?_;refine tk 8 ?_;refine GI 9 (λw' hSw=>hSw.cell y0 BC) ?_;refine tk 10 ?_;refine tk 11 ?_;refine tk 12 ?_;refine tk 13 ?_;refine tk 14 ?_;refine tk 15 ?_;refine tk 16 ?_;refine tk 17 ?_;refine tk 18 ?_;refine tk 19 ?_;refine tk 20 ?_;refine tk 21 ?_;refine EW 22 λK hK=>?_;go_simp;refine hK.out _ _ (hHeld) (λhHeld=>?_);(try simp only[BF,Bf]);clear hK K;refine tk 23 ?_;refine tk 24 ?_;refine Ef Aq ?_ _;(try simp only[BF,Bf]);clear hHeld x0 x1 y0 y1 hneq;go_wp2;go_ret;exact⟨false,rfl,λe=>Ai e (HNE.out (by first|rfl|trivial)),DY.out.drew⟩
   |true=>
    go_wp2;refine Ei (S:=λw'=>AZ [] wr w') Aq ((AZ.refl _ _).drew) (λhHeld=>?_);refine tk 0 ?_;refine tk 1 ?_;refine tk 2 ?_;refine tk 3 ?_;refine GI 4 (λw' hSw=>hSw.cell x0 BC) ?_;refine tk 5 ?_;refine tk 6 ?_;refine tk 7 ?_;refine tk 8 ?_;refine GI 9 (λw' hSw=>hSw.cell y0 BC) ?_;refine tk 10 ?_;refine tk 11 ?_;refine tk 12 ?_;refine tk 13 ?_;refine tk 14 ?_;refine tk 15 ?_;refine GI 16 (λw' hSw=>hSw.cell x1 BC) ?_;refine tk 17 ?_;refine tk 18 ?_;refine tk 19 ?_;refine tk 20 ?_;refine GI 21 (λw' hSw=>hSw.cell y1 BC) ?_;refine EW 22 λK hK=>?_;go_simp;refine (UT.out _ hHeld).mono ?_;rintro e w3 ⟨bb,rfl,hbb,hc3⟩;have AKu:=hHeld.Ap hc3;have HBB:=AQ hbb;refine hK.out _ _ (hHeld.Ap hc3) (λhHeld=>?_);(try simp only[BF,Bf]);clear hK K;refine tk 23 ?_;refine tk 24 ?_;refine Ef Aq ?_ _;(try simp only[BF,Bf]);have Hz:=AQ hHeld;clear hHeld AKu hbb hc3 x0 x1 y0 y1 hneq
    cases bb with
    |true=>
     go_wp2;go_roundw
     case rel=>exact⟨i+1,Ad,by go_num,DY.out.Ap Hz.out⟩
     simp[intOf];omega
    |false=>
     go_wp2;go_ret;exact⟨false,rfl,λe=>HBB.out (HEQ.out e),DY.out.Ap Hz.out⟩
  go_wp2;go_ret;exact⟨true,rfl,λ_=>rfl,DY.out⟩
 have h1:((n:Int)==m)=false:=beq_eq_false_iff_ne.2 Ad;(have h2:((n:Int) !=m)=true:=by rw[bne,h1];rfl);have HN:=AQ hnm;clear hnm;go_wp2;go_ret;refine⟨false,rfl,λe=>?_,AZ.refl _ _⟩;have:=congrArg KX e;simp only[BD,DZ] at this;have h3:=UU.out;have h4:=HLY.out;exact Ai Ad HN.out
theorem AEx(A:Option Ag)(n c:Nat)(xs:List DM)(B:Option Ag)(m d:Nat)(ys:List DM)(w:AL)(ha:Ib w A n c xs)(hb:Ib w B m d ys)(hn:n<=1073741824)(hfn: ∀x∈xs,x.1.n<=1073741824):
  A7 Af 19 #[.slice A n c,.slice B m d] w (bH (BJ xs=BJ ys) w):=by
 (have hlx:xs.length=n:=by have:=ha.row.Ov;simpa[Gi] using this);(have hly:ys.length=m:=by have:=hb.row.Ov;simpa[Gi] using this);have HA:=AQ ha;have HB:=AQ hb;have Zf:=AQ hfn;have UU:=AQ hlx;have HLY:=AQ hly;clear ha hb hlx hly hfn;have k24:= @ASI;go_enter AMg,Tryz.ntmps19;by_cases hnm:n=m
 ·subst hnm;go_wp2;go_loopw [5] (λq wr=>∃i:Nat,i<=n/\q=.int .i64 i/\AZ [] w wr) (λq _=>n - (intOf q).toNat)
  case atStart=>exact⟨0,D5 _,rfl,AZ.refl _ _⟩
  obtain⟨i,hi,rfl,hch⟩:=hrel;have DY:=AQ hch;clear hch;by_cases hlt:i<n
  ·(have hlt':(i:Int)<n:=by omega);obtain⟨x,hx⟩: ∃x,xs[i]? =AA x:=⟨_,CQ (by have:=UU.out;omega)⟩;obtain⟨y,hy⟩: ∃y,ys[i]? =AA y:=⟨_,CQ (by have:=HLY.out;omega)⟩;obtain⟨ad,rfl,hat⟩:=(HA.out.Ho DY.out).row.ns (j:=i) (x:=x.1) (by unfold Gi;rw[Bg,hx];rfl);obtain⟨bd,rfl,hbt⟩:=(HB.out.Ho DY.out).row.ns (j:=i) (x:=y.1) (by unfold Gi;rw[Bg,hy];rfl);have x0:=hat.c0;have x1:=hat.c1;have y0:=hbt.c0;have y1:=hbt.c1;have HX:=AQ hx;have HY:=AQ hy;obtain⟨cb,hneq⟩: ∃cb,(x.1.nm.toList==y.1.nm.toList)=cb:=⟨_,rfl⟩;have HCB:Hid (cb=false->x.1.nm≠y.1.nm):=AQ (λh e=>by rw[e] at hneq;rw[h] at hneq;simp at hneq);have UT:Hid (∀w',AZ [] wr w'->A7 Af 24 #[.slice x.1.A x.1.n x.1.c,.slice y.1.A y.1.n y.1.c] w' (bH (BD x.2=BD y.2) w')):=AQ (λw' hc=>AEw _ _ _ _ _ _ _ _ w' (((HA.out.Ho DY.out).Ed x (Bq HX.out)).Ho hc) (((HB.out.Ho DY.out).Ed y (Bq HY.out)).Ho hc) (Zf.out x (Bq HX.out)))
   have HNE:Hid (cb=false->BJ xs≠BJ ys):=AQ (λh e=>HCB.out h (by
    have:=congrArg (λl=>l[i]?.map Aa) e;simp only[BJ,Bg,HX.out,HY.out,FY,DN] at this
    exact this))
   have HEQ:Hid (BJ xs=BJ ys->BD x.2=BD y.2):=AQ (λe=>by
    have:=congrArg (λl=>l[i]?.map Prod.snd) e;simp only[BJ,Bg,HX.out,HY.out,FY,DN] at this
    exact this)
   clear hx hy hat hbt
   cases cb with
   |false=>
    go_wp2;refine Ei (S:=λw'=>AZ [] wr w') Aq ((AZ.refl _ _).drew) (λhHeld=>?_);refine tk 0 ?_;refine tk 1 ?_;refine tk 2 ?_;refine tk 3 ?_;refine GI 4 (λw' hSw=>hSw.cell x0 BC) ?_;refine tk 5 ?_;refine tk 6 ?_;refine tk 7 ?_;refine tk 8 ?_;refine GI 9 (λw' hSw=>hSw.cell y0 BC) ?_;refine tk 10 ?_;refine tk 11 ?_;refine tk 12 ?_;refine tk 13 ?_;refine tk 14 ?_;refine tk 15 ?_;refine tk 16 ?_;refine tk 17 ?_;refine tk 18 ?_;refine tk 19 ?_;refine tk 20 ?_;refine tk 21 ?_;refine EW 22 λK hK=>?_;go_simp;refine hK.out _ _ (hHeld) (λhHeld=>?_);(try simp only[BF,Bf]);clear hK K;refine tk 23 ?_;refine tk 24 ?_;refine Ef Aq ?_ _;(try simp only[BF,Bf]);clear hHeld x0 x1 y0 y1 hneq;go_wp2;go_ret;exact⟨false,rfl,λe=>Ai e (HNE.out (by first|rfl|trivial)),DY.out.drew⟩
   |true=>
    go_wp2;refine Ei (S:=λw'=>AZ [] wr w') Aq ((AZ.refl _ _).drew) (λhHeld=>?_);refine tk 0 ?_;refine tk 1 ?_;refine tk 2 ?_;refine tk 3 ?_;refine GI 4 (λw' hSw=>hSw.cell x0 BC) ?_;refine tk 5 ?_;refine tk 6 ?_;refine tk 7 ?_;refine tk 8 ?_;refine GI 9 (λw' hSw=>hSw.cell y0 BC) ?_;refine tk 10 ?_;refine tk 11 ?_;refine tk 12 ?_;refine tk 13 ?_;refine tk 14 ?_;refine tk 15 ?_;refine GI 16 (λw' hSw=>hSw.cell x1 BC) ?_;refine tk 17 ?_;refine tk 18 ?_;refine tk 19 ?_;refine tk 20 ?_;refine GI 21 (λw' hSw=>hSw.cell y1 BC) ?_;refine EW 22 λK hK=>?_;go_simp;refine (UT.out _ hHeld).mono ?_;rintro e w3 ⟨bb,rfl,hbb,hc3⟩;have AKu:=hHeld.Ap hc3;have HBB:=AQ hbb;refine hK.out _ _ (hHeld.Ap hc3) (λhHeld=>?_);(try simp only[BF,Bf]);clear hK K;refine tk 23 ?_;refine tk 24 ?_;refine Ef Aq ?_ _;(try simp only[BF,Bf]);have Hz:=AQ hHeld;clear hHeld AKu hbb hc3 x0 x1 y0 y1 hneq
    cases bb with
    |true=>
     go_wp2;go_roundw
     case rel=>exact⟨i+1,Ad,by go_num,DY.out.Ap Hz.out⟩
     simp[intOf];omega
    |false=>
     go_wp2;go_ret;exact⟨false,rfl,λe=>HBB.out (HEQ.out e),DY.out.Ap Hz.out⟩
  go_wp2;go_ret;exact⟨true,rfl,λ_=>rfl,DY.out⟩
 have h1:((n:Int)==m)=false:=beq_eq_false_iff_ne.2 Ad;(have h2:((n:Int) !=m)=true:=by rw[bne,h1];rfl);have HN:=AQ hnm;clear hnm;go_wp2;go_ret;refine⟨false,rfl,λe=>?_,AZ.refl _ _⟩;have:=congrArg KX e;simp only[BJ,DZ] at this;have h3:=UU.out;have h4:=HLY.out;exact Ai Ad HN.out
def wR (w:AL) (fs:List (ByteArray×List Int)) (e:Fv) (w':AL):Prop:=
 ∃A c gs,e=.returned (.slice A fs.length c)/\Gu w' A fs.length c gs/\BD gs=fs/\AZ [] w w'/\∀k∈bo A++Gj gs,w.heap.size<=k
theorem jL(A:Option Ag)(n c:Nat)(xs:List FM)(w:AL)(ha:FO w A n c xs)(hn:n<=1073741824)(hfn: ∀x∈xs,x.1.n<=1073741824):
  A7 Af 15 #[.slice A n c] w (wR w (BD xs)):=by
 (have hlx:xs.length=n:=by have:=ha.row.Ov;simpa[F5] using this);have HA:=AQ ha;have UU:=AQ hlx;have Zf:=AQ hfn;clear ha hlx hfn;have k53:= @ANc;go_enter AMd,Tryz.ntmps15;go_wp2;go_loopw [3,4] (λo q wr=>∃(i:Nat) (A':Option Ag) (c':Nat) (zs:List FM),i<=n/\q=.int .i64 i/\o=.slice A' i c'/\Gu wr A' i c' zs/\BD zs=BD (xs.take i)/\AZ [] w wr/\∀k∈bo A'++Gj zs,w.heap.size<=k) (λ_ q _=>n - (intOf q).toNat)
 case atStart=>exact⟨0,_,0,[],D5 _,rfl,rfl,⟨Own.lit w 64 2 #[] 0 Ar rfl,AV,by simp[Gj]⟩,rfl,(AZ.refl _ _).alloc _,by simp[Gj]⟩
 obtain⟨i,A',c',zs,hi,rfl,rfl,hz,hval,hch,hnw⟩:=hrel;have HZ:=AQ hz;have Xg:=AQ hval;have DY:=AQ hch;have Nv:=AQ hnw;clear hz hval hch hnw;by_cases hlt:i<n
 ·(have hlt':(i:Int)<n:=by omega);obtain⟨x,hx⟩: ∃x,xs[i]? =AA x:=⟨_,CQ (by have:=UU.out;omega)⟩;obtain⟨ad,rfl,hat⟩:=HA.out.row.ns (j:=i) (x:=x.1) (by unfold F5;rw[Bg,hx];rfl)
  have qO:Hid (ad.block∉bo A'):=AQ (λhm=>by
   have h1:=UC w _ hat.c0;rw[add_block] at h1;have h2:=Nv.out _ (Fh _ hm)
   omega)
  have Xq:=hat.Ak DY.out BC;have x0:=Xq.c0;have x1:=Xq.c1;have HX:=AQ hx;have HNN:Hid (∀k∈bo A',w.heap.size<=k):=AQ (λk hk=>Nv.out k (Fh _ hk));clear hx hat Xq;go_wp2;refine Ei (S:=λw'=>AZ (bo A') wr w') Aq ((AZ.refl _ _).drew) (λhHeld=>?_);refine tk 0 ?_;refine tk 1 ?_;refine tk 2 ?_;refine tk 3 ?_;refine tk 4 ?_;refine GI 5 (λw' hSw=>hSw.cell x0 (λh=>qO.out (by simpa[add_block] using h))) ?_;refine tk 6 ?_;refine tk 7 ?_;refine tk 8 ?_;refine tk 9 ?_;refine GI 10 (λw' hSw=>hSw.cell x1 (λh=>qO.out (by simpa[add_block] using h))) ?_;refine EW 11 λK hK=>?_;go_simp;refine (vO x.1.A x.1.n x.1.c x.2 _ (Zf.out x (Bq HX.out)) ((HA.out.dat x (Bq HX.out)).Ak ((DY.out.trans hHeld (λx hx=>.inr (HNN.out x hx)))) Ej)).mono ?_;rintro e w4 ⟨BA,bc,rfl,ZM,hc4,hn4⟩;have tq:=AQ ZM;have NV:=AQ hc4;have HN4:=AQ hn4;have WW:Hid (AZ [] wr (w4.alloc (.cells #[.string x.1.nm,.slice BA x.1.n bc] 64))):=AQ ((((AZ.refl [] wr).drew).Ap hc4).alloc _);have HOW:Hid (Gu (w4.alloc (.cells #[.string x.1.nm,.slice BA x.1.n bc] 64)) A' i c' zs):=AQ (HZ.out.Ak WW.out Ej);have hHc:=hHeld.Ap hc4;clear ZM hn4;refine hK.out _ _ (hHc) (λhHeld=>?_);(try simp only[BF,Bf]);clear hK K;refine tk 12 ?_;refine EW 13 λK hK=>?_;go_simp;refine hK.out _ _ (hHeld.alloc _) (λhHeld=>?_);(try simp only[BF,Bf]);clear hK K;refine EW 14 λK hK=>?_;refine JU rfl _ _ rfl vS rfl HOW.out.row rfl (Own.lit w4 64 2 #[.string x.1.nm,.slice BA x.1.n bc] 1 Ar rfl).rd (Uu [⟨x.1.nm,BA,x.1.n,bc⟩]) Qv Ad ?_;intro A2 c2 w6 hown6 IE LH _;have qA:=AQ hown6;have JE:=AQ IE;have Vf:=AQ LH;have hH6:=hHeld.trans IE (λx hx=>.inl hx);clear hown6 IE LH;refine hK.out _ _ (hH6) (λhHeld=>?_);(try simp only[BF,Bf]);clear hK K;refine tk 15 ?_;refine Ef Aq ?_ _;(try simp only[BF,Bf]);clear hHeld hHc hH6 hc4 x0 x1;go_wp2;go_roundw
  case rel=>
   have hzl:=HZ.out.lt;have hwl:wr.heap.size<=w4.heap.size:=NV.out.size;have hba: ∀k∈bo BA,wr.heap.size<=k:=λk hk=>HN4.out k hk
   have hO6:Own w6 64 2 A2 (i+1) c2 (Ko (F5 (zs++[(⟨x.1.nm,BA,x.1.n,bc⟩,x.2)]))):=by
    have:=qA.out;unfold F5 at this⊢;rw[Em,Nq];exact this
   have hz6:Gu w6 A2 (i+1) c2 (zs++[(⟨x.1.nm,BA,x.1.n,bc⟩,x.2)]):=HOW.out.snoc JE.out hO6 ((tq.out.Ak ((AZ.refl [] w4).alloc _) Ej).Ak JE.out (λk hk hm=>by have h1:=hba k hk;have h2:=hzl k (Fh _ hm);omega)) (λk hk hm=>by have h1:=hba k hk;have h2:=hzl k (Gx _ hm);omega);refine⟨i+1,A2,c2,zs++[(⟨x.1.nm,BA,x.1.n,bc⟩,x.2)],Ad,by go_num,rfl,hz6,?_,(DY.out.Ap WW.out).trans JE.out (λx hx=>.inr (Nv.out x (Fh _ hx))),λk hk=>?_⟩
   ·rw[AAU,Xg.out];unfold BD;rw[N9,N9,take_snoc _ i _ (show (xs.map _)[i]? =AA _ by rw[Bg,HX.out];rfl)]
   rw[oZ] at hk;have h3:=DY.out.size;rcases Be.1 hk with hk|hk
   ·rcases Vf.out k hk with h|h;exact Nv.out k (Fh _ h);simp at h;omega
   rcases Be.1 hk with hk|hk;exact Nv.out k (Gx _ hk);have:=hba k hk;omega
  simp[intOf];omega
 (obtain rfl:i=n:=by omega);go_wp2;go_ret;refine⟨A',c',zs,by rw[show (BD xs).length=i by rw[BD,DZ];exact UU.out];rfl,by rw[show (BD xs).length=i by rw[BD,DZ];exact UU.out];exact HZ.out,?_,DY.out,Nv.out⟩;rw[Xg.out,FH (by rw[UU.out];exact Ba _)]
theorem ACq(A:Option Ag)(n c:Nat)(xs:List DM)(w:AL)(ha:Ib w A n c xs)(hn:n<=1073741824)(hfn: ∀x∈xs,x.1.n<=1073741824/\∀f∈x.2,f.1.n<=1073741824):
  A7 Af 35 #[.slice A n c] w (bF w (BJ xs)):=by
 (have hlx:xs.length=n:=by have:=ha.row.Ov;simpa[Gi] using this);have HA:=AQ ha;have UU:=AQ hlx;have Zf:=AQ hfn;clear ha hlx hfn;have k15:= @ANW;go_enter AMn,Tryz.ntmps35;go_wp2;go_loopw [3,4] (λo q wr=>∃(i:Nat) (A':Option Ag) (c':Nat) (zs:List DM),i<=n/\q=.int .i64 i/\o=.slice A' i c'/\Jj wr A' i c' zs/\BJ zs=BJ (xs.take i)/\AZ [] w wr/\∀k∈bo A'++OZ zs,w.heap.size<=k) (λ_ q _=>n - (intOf q).toNat)
 case atStart=>exact⟨0,_,0,[],D5 _,rfl,rfl,⟨Own.lit w 77 2 #[] 0 Ar rfl,AV,by simp[OZ]⟩,rfl,(AZ.refl _ _).alloc _,by simp[OZ]⟩
 obtain⟨i,A',c',zs,hi,rfl,rfl,hz,hval,hch,hnw⟩:=hrel;have HZ:=AQ hz;have Xg:=AQ hval;have DY:=AQ hch;have Nv:=AQ hnw;clear hz hval hch hnw;by_cases hlt:i<n
 ·(have hlt':(i:Int)<n:=by omega);obtain⟨x,hx⟩: ∃x,xs[i]? =AA x:=⟨_,CQ (by have:=UU.out;omega)⟩;obtain⟨ad,rfl,hat⟩:=HA.out.row.ns (j:=i) (x:=x.1) (by unfold Gi;rw[Bg,hx];rfl)
  have qO:Hid (ad.block∉bo A'):=AQ (λhm=>by
   have h1:=UC w _ hat.c0;rw[add_block] at h1;have h2:=Nv.out _ (Fh _ hm)
   omega)
  have Xq:=hat.Ak DY.out BC;have x0:=Xq.c0;have x1:=Xq.c1;have HX:=AQ hx;have HNN:Hid (∀k∈bo A',w.heap.size<=k):=AQ (λk hk=>Nv.out k (Fh _ hk));clear hx hat Xq;go_wp2;refine Ei (S:=λw'=>AZ (bo A') wr w') Aq ((AZ.refl _ _).drew) (λhHeld=>?_);refine tk 0 ?_;refine tk 1 ?_;refine tk 2 ?_;refine tk 3 ?_;refine tk 4 ?_;refine GI 5 (λw' hSw=>hSw.cell x0 (λh=>qO.out (by simpa[add_block] using h))) ?_;refine tk 6 ?_;refine tk 7 ?_;refine tk 8 ?_;refine tk 9 ?_;refine GI 10 (λw' hSw=>hSw.cell x1 (λh=>qO.out (by simpa[add_block] using h))) ?_;refine EW 11 λK hK=>?_;go_simp;refine (jL x.1.A x.1.n x.1.c x.2 _ ((HA.out.Ed x (Bq HX.out)).Ho ((DY.out.trans hHeld (λx hx=>.inr (HNN.out x hx))))) (Zf.out x (Bq HX.out)).1 (Zf.out x (Bq HX.out)).2).mono ?_;rintro e w4 ⟨BA,bc,fs4,rfl,ZM,hv4,hc4,hn4⟩;have tq:=AQ ZM;have HV4:=AQ hv4;have NV:=AQ hc4;have HN4:=AQ hn4;have WW:Hid (AZ [] wr (w4.alloc (.cells #[.string x.1.nm,.slice BA (BD x.2).length bc] 77))):=AQ ((((AZ.refl [] wr).drew).Ap hc4).alloc _);have HOW:Hid (Jj (w4.alloc (.cells #[.string x.1.nm,.slice BA (BD x.2).length bc] 77)) A' i c' zs):=AQ (HZ.out.Ak WW.out Ej);have hHc:=hHeld.Ap hc4;clear ZM hn4 hv4;refine hK.out _ _ (hHc) (λhHeld=>?_);(try simp only[BF,Bf]);clear hK K;refine tk 12 ?_;refine EW 13 λK hK=>?_;go_simp;refine hK.out _ _ (hHeld.alloc _) (λhHeld=>?_);(try simp only[BF,Bf]);clear hK K;refine EW 14 λK hK=>?_;refine JU rfl _ _ rfl ABy rfl HOW.out.row rfl (Own.lit w4 77 2 #[.string x.1.nm,.slice BA (BD x.2).length bc] 1 Ar rfl).rd (Uu [⟨x.1.nm,BA,(BD x.2).length,bc⟩]) Qv Ad ?_;intro A2 c2 w6 hown6 IE LH _;have qA:=AQ hown6;have JE:=AQ IE;have Vf:=AQ LH;have hH6:=hHeld.trans IE (λx hx=>.inl hx);clear hown6 IE LH;refine hK.out _ _ (hH6) (λhHeld=>?_);(try simp only[BF,Bf]);clear hK K;refine tk 15 ?_;refine Ef Aq ?_ _;(try simp only[BF,Bf]);clear hHeld hHc hH6 hc4 x0 x1;go_wp2;go_roundw
  case rel=>
   have hzl:=HZ.out.lt;have hwl:wr.heap.size<=w4.heap.size:=NV.out.size;have hba: ∀k∈bo BA++Gj fs4,wr.heap.size<=k:=λk hk=>HN4.out k hk
   have hO6:Own w6 77 2 A2 (i+1) c2 (Ko (Gi (zs++[(⟨x.1.nm,BA,(BD x.2).length,bc⟩,fs4)]))):=by
    have:=qA.out;unfold Gi at this⊢;rw[Em,Nq];exact this
   have hz6:Jj w6 A2 (i+1) c2 (zs++[(⟨x.1.nm,BA,(BD x.2).length,bc⟩,fs4)]):=HOW.out.snoc JE.out hO6 ((tq.out.Ak ((AZ.refl [] w4).alloc _) Ej).Ak JE.out (λk hk hm=>by have h1:=hba k hk;have h2:=hzl k (Fh _ hm);omega)) (λk hk hm=>by have h1:=hba k hk;have h2:=hzl k (Gx _ hm);omega);refine⟨i+1,A2,c2,zs++[(⟨x.1.nm,BA,(BD x.2).length,bc⟩,fs4)],Ad,by go_num,rfl,hz6,?_,(DY.out.Ap WW.out).trans JE.out (λx hx=>.inr (Nv.out x (Fh _ hx))),λk hk=>?_⟩
   ·rw[AAV,Xg.out];unfold BJ;rw[N9,N9,take_snoc _ i _ (show (xs.map _)[i]? =AA _ by rw[Bg,HX.out];rfl)];simp only[HV4.out]
   rw[Za] at hk;have h3:=DY.out.size;rcases Be.1 hk with hk|hk
   ·rcases Vf.out k hk with h|h;exact Nv.out k (Fh _ h);simp at h;omega
   rcases Be.1 hk with hk|hk;exact Nv.out k (Gx _ hk);have:=hba k hk;omega
  simp[intOf];omega
 (obtain rfl:i=n:=by omega);go_wp2;go_ret;refine⟨A',i,c',zs,rfl,HZ.out,?_,DY.out,Nv.out⟩;rw[Xg.out,FH (by rw[UU.out];exact Ba _)]
open Go
def Ox (nm:ByteArray) (D:GH):GH:=D.filter λd=> !decide (d.1=nm)
def Inn (w:AL) (L:List Nat) (vs:List AP) (ws:List (List Int)):Prop:=
 vs.length=ws.length/\∀(i:Nat) (x:List Int),ws[i]? =AA x->∃A c,vs[i]? =AA (.slice A x.length c)/\Own w 5 1 A x.length c (bv x)/\∀k∈bo A,k∈L
theorem Inn.Ak{w w':AL}{L M:List Nat}{vs:List AP}{ws:List (List Int)}(h:Inn w L vs ws)(hc:AZ M w w')(hn: ∀k∈L,k∈M->∃t cs,Bl w k t cs/\t≠5):Inn w' L vs ws:=
 ⟨h.1,λi x hx=>by
  obtain⟨A,c,h1,h2,h3⟩:=h.2 i x hx;refine⟨A,c,h1,h2.Ak hc (λk hk hm=>?_),h3⟩;obtain⟨t,cs,hb,ht⟩:=hn k (h3 k hk) hm
  exact h2.GG hb ht k hk rfl⟩
def Rsp (w:AL) (g:Nat) (L:List Nat) (base:List Int) (ws:List (List Int)):Prop:=
 ∃A n c W m d vs,Bl w g 149 #[.slice A n c,.slice W m d]/\Own w 5 1 A n c (bv base)/\Own w 62 1 W m d vs/\Inn w L vs ws/\
  g∈L/\(∀k∈bo A,k∈L)/\(∀k∈bo W,k∈L)/\(∀k∈L,k<w.heap.size)/\n=base.length/\m=ws.length
theorem Rsp.lt{w:AL}{g:Nat}{L:List Nat}{base:List Int}{ws:List (List Int)}(h:Rsp w g L base ws): ∀k∈L,k<w.heap.size:=by
 obtain⟨A,n,c,W,m,d,vs,hb,h1,h2,h3,h4,h5,h6,h7,_⟩:=h;exact h7
theorem Rsp.Ak{w w':AL}{g:Nat}{L M:List Nat}{base:List Int}{ws:List (List Int)}(h:Rsp w g L base ws)(hc:AZ M w w')(hn: ∀k∈L,k∉M):Rsp w' g L base ws:=by
 obtain⟨A,n,c,W,m,d,vs,hb,h1,h2,h3,h4,h5,h6,h7,h8⟩:=h;exact⟨A,n,c,W,m,d,vs,hb.Ak hc (hn g h4),h1.Ak hc (λk hk=>hn k (h5 k hk)),h2.Ak hc (λk hk=>hn k (h6 k hk)),h3.Ak hc (λk hk hm=>Ai hm (hn k hk)),h4,h5,h6,λk hk=>ER (h7 k hk) hc.size,h8⟩
def AMM (w:AL) (zs:List Int) (e:Fv) (w':AL):Prop:=
 ∃g L,e=.returned (.pointer (AA ⟨g,0,AB⟩))/\Rsp w' g L zs []/\AZ [] w w'/\∀k∈L,w.heap.size<=k
theorem wS(A:Option Ag)(n c:Nat)(zs:List Int)(w:AL)(hn:n<=1073741824)(hrd:Rd w 1 A n c (bv zs)):
  A7 Af 31 #[.slice A n c] w (AMM w zs):=by
 (have hl:zs.length=n:=by have:=hrd.1;simp at this;omega);have HL:=AQ hl;clear hl;have k53:= @ANc;go_enter AMl,Tryz.ntmps31;(go_wp2_with (go_at_call 53;refine (vO A n c zs _ hn hrd).mono ?_;rintro e w1 ⟨A1,c1,rfl,hown,EU,hnew⟩));go_ret;have hsz:=EU.size;refine⟨w1.heap.size,w1.heap.size::bo A1,rfl,⟨A1,n,c1,AB,0,0,[],Bl.new w1 149 _,hown.Ak ((AZ.refl [] w1).alloc _) AV,Own.nil _ _ _,⟨rfl,λi x hx=>by simp at hx⟩,AV,λk hk=>by simp[hk],AV,?_,HL.out.symm,rfl⟩,EU.alloc _,?_⟩
 ·intro k hk;simp at hk⊢;rcases hk with rfl|hk;omega;have:=hown.lt k hk;omega
 intro k hk;simp at hk;rcases hk with rfl|hk;omega;exact hnew k hk
section
variable {c n:Nat}{A:Option Ag}{w:AL}
def pv8 (x:Nat):AP:=.pointer (AA ⟨x,0,AB⟩)
def nmc (q:ByteArray×Nat):List AP:=[.string q.1,.int .i64 (q.2:Nat)]
def Xr (xs:Jl):List AP:=xs.flatMap nmc
theorem ACr(xs:Jl):(Xr xs).length=xs.length*2:=by
 induction xs with|nil=>rfl|cons x r ih=>simp only[Xr,U7,Ig,List.length_cons] at ih⊢;rw[ih];simp[nmc];omega
theorem ACs(a b:Jl):Xr (a++b)=Xr a++Xr b:=by simp[Xr]
theorem ACt(xs:Jl): ∀u∈Xr xs,u.oneCell'=true:=by
 intro u hu;obtain⟨x,_,h⟩:=FI.1 hu;simp only[nmc,BB,kG,or_false] at h;rcases h with rfl|rfl<;>rfl
theorem Rd.nml{xs:Jl}(h:Rd w 2 A n c (Xr xs)):xs.length=n:=by have:=h.1;rw[ACr] at this;omega
abbrev RF:=Lc×Jl
def WL (rs:List RF):List Lc:=rs.map (·.1)
def Oh (rs:List RF):Tr:=rs.map λr=>(r.1.nm,r.2)
def Hr (rs:List RF):List Nat:=rs.flatMap λr=>bo r.1.A
structure Qj (w:AL) (A:Option Ag) (n c:Nat) (rs:List RF):Prop where
 row:Rd w 2 A n c (Ko (WL rs))
 Ed: ∀r∈rs,Rd w 2 r.1.A r.1.n r.1.c (Xr r.2)
theorem Qj.Ak{w w':AL}{A:Option Ag}{n c:Nat}{rs:List RF}{L:List Nat}(h:Qj w A n c rs)(hc:AZ L w w')(hn: ∀k∈bo A++Hr rs,k∉L):Qj w' A n c rs:=
 ⟨h.row.Ak hc (λk hk=>hn k (Fh _ hk)),λr hr=>(h.Ed r hr).Ak hc (λk hk=>hn k (Gx _ (FI.2 ⟨r,hr,hk⟩)))⟩
theorem Qj.len{rs:List RF}(h:Qj w A n c rs):rs.length=n:=by have:=h.row.Ov;simpa[WL] using this
theorem AKv{rs:List RF}{i:Nat}{r:RF}(h:rs[i]? =AA r):(WL rs)[i]? =AA r.1:=by unfold WL;rw[Bg,h];rfl
theorem wU:Ety Af 78 86 2 40 (.agg #[.string Lu,.slice AB 0 0]):=.mk' AS2 Aq rfl Ar
theorem qg:Ety Af 84 88 2 24 (.agg #[.string Lu,.int .i64 0]):=.mk' AS5 Aq rfl Ar
theorem ACu:Ety Af 80 89 1 8 (.pointer AB):=.mk' AS3 Aq rfl Ar
def chc:ED->List AP
 | .CX d=>[.int .i64 1,.string d,.string noS,.string noS,.int .i64 0]| .create d n i=>[.int .i64 2,.string d,.string n,.string noS,.int .i64 (i:Nat)]| .rename a b=>[.int .i64 3,.string a,.string noS,.string b,.int .i64 0]| .remove d n=>[.int .i64 4,.string d,.string n,.string noS,.int .i64 0]| .rmdir d=>[.int .i64 5,.string d,.string noS,.string noS,.int .i64 0]
def chv (cs:List ED):List AP:=cs.flatMap chc
structure RfG where
 b:Nat
 sA:Option Ag
 sc:Nat
 rs:List RF
 pA:Option Ag
 pc:Nat
 ps:List RF
 cA:Option Ag
 cc:Nat
 fA:Option Ag
 fc:Nat
 wA:Option Ag
 wc:Nat
 K:List Nat
 sg:List Nat
 Ls:List (List Nat)
def RfG.parts (R:RfG):List (List Nat):=[R.b]::bo R.cA::bo R.fA::bo R.wA::R.K::R.Ls
def RfG.all (R:RfG):List Nat:=R.parts.flatten
structure RfM (w:AL) (R:RfG) (S:St):Prop where
 blk:Bl w R.b 83 #[.slice R.sA S.seen.length R.sc,.slice R.pA S.safe.length R.pc,.slice R.cA S.D6.length R.cc,.slice R.fA S.files.length R.fc,.slice R.wA S.wr.length R.wc,.int .i64 S.BI,.int .i64 S.stop,.int .i64 (S.steps:Int)]
 seen:Qj w R.sA S.seen.length R.sc R.rs
 AUG:Oh R.rs=S.seen
 AUH: ∀k∈bo R.sA++Hr R.rs,k∈R.K
 safe:Qj w R.pA S.safe.length R.pc R.ps
 AUI:Oh R.ps=S.safe
 AUJ: ∀k∈bo R.pA++Hr R.ps,k∈R.K
 Ak:Own w 275 5 R.cA S.D6.length R.cc (chv S.D6)
 Ed:Own w 89 1 R.fA S.files.length R.fc (R.sg.map pv8)
 fM:Own w 3 1 R.wA S.wr.length R.wc (S.wr.map λi=>.int .i64 (i:Nat))
 RI:R.Ls.length=S.files.length
 bQ: ∀(i g:Nat) (L:List Nat) (f:EX),R.sg[i]? =AA g->R.Ls[i]? =AA L->S.files[i]? =AA f->Rsp w g L f.1 f.2
 lay:Lay w R.parts
def ARS (w:AL) (T:Tr) (n:Nat) (e:Fv) (w':AL):Prop:=
 ∃A c rs,e=.returned (.slice A n c)/\Qj w' A n c rs/\Oh rs=T/\AZ [] w w'/\∀k∈bo A++Hr rs,w.heap.size<=k/\k<w'.heap.size
theorem qh(rs:List RF)(r:RF):Oh (rs++[r])=Oh rs++[(r.1.nm,r.2)]:=by simp[Oh]
theorem Na(rs:List RF)(r:RF):Hr (rs++[r])=Hr rs++bo r.1.A:=by simp[Hr]
theorem qi(rs:List RF)(r:RF):WL (rs++[r])=WL rs++[r.1]:=by simp[WL]
theorem AAW(A:Option Ag)(n c:Nat)(rs:List RF)(w:AL)(ha:Qj w A n c rs)(hn:n<=1073741824)(hfn: ∀r∈rs,r.1.n<=1073741824):
  A7 Af 32 #[.slice A n c] w (ARS w (Oh rs) n):=by
 have hlx:=ha.len;have HA:=AQ ha;have UU:=AQ hlx;have Zf:=AQ hfn;clear ha hlx hfn;go_enter AMm,Tryz.ntmps32;go_wp2;go_loopw [3,4] (λo q wr=>∃(i:Nat) (A':Option Ag) (c':Nat) (zs:List RF),i<=n/\q=.int .i64 i/\o=.slice A' i c'/\Own wr 86 2 A' i c' (Ko (WL zs))/\(∀z∈zs,Own wr 88 2 z.1.A z.1.n z.1.c (Xr z.2))/\Oh zs=Oh (rs.take i)/\AZ [] w wr/\∀k∈bo A'++Hr zs,w.heap.size<=k) (λ_ q _=>n - (intOf q).toNat)
 case atStart=>exact⟨0,_,0,[],D5 _,rfl,rfl,Own.lit w 86 2 #[] 0 Ar rfl,AV,rfl,(AZ.refl _ _).alloc _,by simp[Hr]⟩
 obtain⟨i,A',c',zs,hi,rfl,rfl,hz,hzf,hval,hch,hnw⟩:=hrel;have HZ:=AQ hz;have HZF:=AQ hzf;have Xg:=AQ hval;have DY:=AQ hch;have Nv:=AQ hnw;clear hz hzf hval hch hnw;by_cases hlt:i<n
 ·(have hlt':(i:Int)<n:=by omega);obtain⟨x,hx⟩: ∃x,rs[i]? =AA x:=⟨_,CQ (by have:=UU.out;omega)⟩;obtain⟨ad,rfl,hat⟩:=HA.out.row.ns (AKv hx)
  have qO:Hid (ad.block∉bo A'):=AQ (λhm=>by
   have h1:=UC w _ hat.c0;rw[add_block] at h1;have h2:=Nv.out _ (Fh _ hm)
   omega)
  have Xq:=hat.Ak DY.out BC;have x0:=Xq.c0;have x1:=Xq.c1;have HX:=AQ hx;have HF:=AQ ((HA.out.Ed x (Bq hx)).Ak DY.out Ej);have hxn:=Zf.out x (Bq hx);clear hx hat Xq;go_wp2;refine Ei (S:=λw'=>AZ (bo A') wr w') Aq ((AZ.refl _ _).drew) (λhHeld=>?_);refine tk 0 ?_;refine tk 1 ?_;refine tk 2 ?_;refine tk 3 ?_;refine tk 4 ?_;refine GI 5 (λw' hSw=>hSw.cell x0 (λh=>qO.out (by simpa[add_block] using h))) ?_;refine tk 7 ?_;refine tk 8 ?_;refine tk 9 ?_;refine tk 10 ?_;refine GI 11 (λw' hSw=>hSw.cell x1 (λh=>qO.out (by simpa[add_block] using h))) ?_;refine EW 6 λK hK=>?_;go_simp;refine hK.out _ _ (hHeld.alloc _) (λhHeld=>?_);(try simp only[BF,Bf]);clear hK K;refine EW 12 λK hK=>?_;refine JU rfl _ _ rfl qg rfl (Own.lit wr.drew 88 2 #[] 0 Ar rfl) rfl (HF.out.Ak (((AZ.refl [] wr).drew).alloc (.cells #[] 88)) Ej) (ACt _) Qv Ad ?_;intro B2 d2 w5 hown5 pW pX _;have HO5:Hid (Own w5 88 2 B2 x.1.n d2 (Xr x.2)):=AQ (by simpa using hown5);have RJ:Hid (AZ [] wr w5):=AQ (((((AZ.refl [] wr).drew).alloc (.cells #[] 88))).trans pW (λx hx=>by simp at hx;subst hx;right;simp));have HN5:Hid (∀k∈bo B2,wr.heap.size<=k):=AQ (λk hk=>by rcases pX k hk with h|h;simp at h;omega;have:=h.1;simp at this;omega);have hH5:=(AZ.refl (bo A') wr).trans (RJ.out.nil (bo A')) (λx hx=>.inl hx);have HOW:Hid (Own (w5.alloc (.cells #[.string x.1.nm,.slice B2 x.1.n d2] 86)) 86 2 A' i c' (Ko (WL zs))):=AQ (HZ.out.Ak (RJ.out.alloc _) Ej);clear hown5 pW pX;refine hK.out _ _ (hH5) (λhHeld=>?_);(try simp only[BF,Bf]);clear hK K;refine tk 13 ?_;refine EW 14 λK hK=>?_;go_simp;refine hK.out _ _ (hHeld.alloc _) (λhHeld=>?_);(try simp only[BF,Bf]);clear hK K;refine EW 15 λK hK=>?_;refine JU rfl _ _ rfl wU rfl HOW.out rfl (Own.lit w5 86 2 #[.string x.1.nm,.slice B2 x.1.n d2] 1 Ar rfl).rd (Uu [⟨x.1.nm,B2,x.1.n,d2⟩]) Qv Ad ?_;intro A2 c2 w6 hown6 IE LH _;have qA:=AQ hown6;have JE:=AQ IE;have Vf:=AQ LH;have hH6:=hHeld.trans IE (λx hx=>.inl hx);clear hown6 IE LH;refine hK.out _ _ (hH6) (λhHeld=>?_);(try simp only[BF,Bf]);clear hK K;refine tk 16 ?_;refine Ef Aq ?_ _;(try simp only[BF,Bf]);clear hHeld hH5 hH6 x0 x1;go_wp2;go_roundw
  case rel=>
   have hzl: ∀z∈zs,∀k∈bo z.1.A,k<wr.heap.size:=λz hz k hk=>(HZF.out z hz).lt k hk;have hcl:AZ [] wr (w5.alloc (.cells #[.string x.1.nm,.slice B2 x.1.n d2] 86)):=RJ.out.alloc _;have hAl:=HZ.out.lt;refine⟨i+1,A2,c2,zs++[(⟨x.1.nm,B2,x.1.n,d2⟩,x.2)],Ad,by go_num,rfl,?_,λz hz=>?_,?_,(DY.out.Ap hcl).trans JE.out (λx hx=>.inr (Nv.out x (Fh _ hx))),λk hk=>?_⟩
   ·have:=qA.out;rw[qi,Nq];exact this
   ·rcases Be.1 hz with hz|hz;exact ((HZF.out z hz).Ak hcl Ej).Ak JE.out ((HZF.out z hz).own_ne HZ.out Ar);simp only[CG] at hz;subst hz;exact (HO5.out.Ak ((AZ.refl [] w5).alloc _) Ej).Ak JE.out (λk hk hm=>by have h1:=HN5.out k hk;have h2:=hAl k hm;omega)
   ·rw[qh,Xg.out];unfold Oh;rw[N9,N9,take_snoc _ i _ (show (rs.map _)[i]? =AA _ by rw[Bg,HX.out];rfl)]
   rw[Na] at hk;have h3:=DY.out.size;rcases Be.1 hk with hk|hk
   ·rcases Vf.out k hk with h|h;exact Nv.out k (Fh _ h);have h4:=RJ.out.size;simp at h;omega
   rcases Be.1 hk with hk|hk;exact Nv.out k (Gx _ hk);have:=HN5.out k hk;omega
  simp[intOf];omega
 (obtain rfl:i=n:=by omega);go_wp2;go_ret
 refine⟨A',c',zs,rfl,⟨HZ.out.rd,λz hz=>(HZF.out z hz).rd⟩,?_,DY.out,λk hk=>⟨Nv.out k hk,by
  rcases Be.1 hk with hk|hk;exact HZ.out.lt k hk;obtain⟨z,hz,hk⟩:=FI.1 hk
  exact (HZF.out z hz).lt k hk⟩⟩
 rw[Xg.out,FH (by rw[UU.out];exact Ba _)]
end
section
variable {a q:Int}{Ls:List (List Nat)}{fs:List EX}{sg:List Nat}{rs:List RF}{b fc sc:Nat}{fA:Option Ag}{w w2:AL}
def AEy (w:AL) (D:GH) (BI stop:Int) (e:Fv) (w':AL):Prop:=
 (Dn D BI≠0/\e=.returned (.tuple #[.pointer AB,.int .i64 (Dn D BI)])/\AZ [] w w')\/
 (Dn D BI=0/\∃R,e=.returned (.tuple #[.pointer (AA ⟨R.b,0,AB⟩),.int .i64 0])/\RfM w' R (Ea D BI stop)/\(∀x∈R.all,w.heap.size<=x)/\AZ [] w w')
structure TD (w:AL) (b:Nat) (sA:Option Ag) (sc:Nat) (rs:List RF) (fA:Option Ag) (fc:Nat) (sg:List Nat) (Ls:List (List Nat)) (fs:List EX) (q a:Int):Prop where
 blk:Bl w b 83 #[.slice sA rs.length sc,.slice AB 0 0,.slice AB 0 0,.slice fA fs.length fc,.slice AB 0 0,.int .i64 q,.int .i64 a,.int .i64 0]
 row:Own w 86 2 sA rs.length sc (Ko (WL rs))
 Ed: ∀r∈rs,Own w 88 2 r.1.A r.1.n r.1.c (Xr r.2)
 J7:Own w 89 1 fA fs.length fc (sg.map pv8)
 RI:Ls.length=fs.length
 bQ: ∀(i g:Nat) (L:List Nat) (f:EX),sg[i]? =AA g->Ls[i]? =AA L->fs[i]? =AA f->Rsp w g L f.1 f.2
 lay:Lay w ([b]::bo sA::bo fA::Hr rs::Ls)
theorem TD.CE{w':AL}{sA:Option Ag}(h:TD w b sA sc rs fA fc sg Ls fs q a)(hc:AZ [] w w'):TD w' b sA sc rs fA fc sg Ls fs q a:=
 ⟨h.blk.Ak hc BC,h.row.Ak hc Ej,λr hr=>(h.Ed r hr).Ak hc Ej,h.J7.Ak hc Ej,h.RI,λi g L f e1 e2 e3=>(h.bQ i g L f e1 e2 e3).Ak hc Ej,h.lay.mono hc.size⟩
theorem TD.WR{sA:Option Ag}(h:TD w b sA sc rs fA fc sg Ls fs q a):sg.length=fs.length:=by have:=h.J7.1;simp at this;omega
theorem TD.file{w1:AL}{sA:Option Ag}(h:TD w b sA sc rs fA fc sg Ls fs q a)
  (hc1:AZ [] w w1) {g:Nat} {L:List Nat} {f:List Int} (hL: ∀k∈L,w.heap.size<=k) (hs:Rsp w1 g L f []) {fA':Option Ag} {fc':Nat} (hc2:AZ (b::bo fA) w1 w2)
  (hb:Bl w2 b 83 #[.slice sA rs.length sc,.slice AB 0 0,.slice AB 0 0,.slice fA' (fs.length+1) fc',.slice AB 0 0,.int .i64 q,.int .i64 a,.int .i64 0])
  (ho:Own w2 89 1 fA' (fs.length+1) fc' ((sg++[g]).map pv8)) (hA: ∀x∈bo fA',x∈bo fA\/w1.heap.size<=x):TD w2 b sA sc rs fA' fc' (sg++[g]) (Ls++[L]) (fs++[(f,[])]) q a:=by
 have h1:=h.CE hc1;have hl1:=h.lay.snoc (w':=w1) hL (hs.lt) hc1.size
 have hLL: ∀x∈b::bo fA,∃j P,j∈[0,2]/\([b]::bo sA::bo fA::Hr rs::(Ls++[L]))[j]? =AA P/\x∈P:=λx hx=>by
  rcases BB.1 hx with rfl|hx;exact⟨0,_,AV,rfl,AV⟩;exact⟨2,_,AV,rfl,hx⟩
 have hk:=λ(i:Nat) (P:List Nat) (hi:([b]::bo sA::bo fA::Hr rs::(Ls++[L]))[i]? =AA P) (hne:i∉[0,2])=>Lay.others (w:=w1) hl1 hLL hi hne;refine⟨by simpa using hb,h1.row.Ak hc2 (hk 1 _ rfl AV),λr hr=>(h1.Ed r hr).Ak hc2 (λk jo=>hk 3 _ rfl AV k (FI.2 ⟨r,hr,jo⟩)),by simpa using ho,by simp[h.RI],λi g' L' f' e1 e2 e3=>?_,?_⟩
 ·have l1:=h.WR;have l2:=h.RI;by_cases hi:i<fs.length
  ·rw[NK Ad] at e1 e2 e3;exact (h1.bQ i g' L' f' e1 e2 e3).Ak hc2 (hk (i+4) L' (by simpa using (NK Ad:(Ls++[L])[i]? =Ls[i]?).trans e2) AV)
  have hie:i=fs.length:=by
   have:=(DC.1 e3).1;simp at this;omega
  subst hie;rw[Gt Ad,l1,Jf] at e1;rw[Gt Ad,l2,Jf] at e2;rw[Gt Ad,Jf] at e3;simp at e1 e2 e3;subst e1;subst e2;subst e3;exact hs.Ak hc2 (hk (fs.length+4) L (by simp[<- l2]) AV)
 have:=hl1.FK (w':=w2) (i:=2) (P:=bo fA) (P':=bo fA') rfl hA ho.lt hc2.size;exact this
theorem TD.dir{sA:Option Ag}(h:TD w b sA sc rs fA fc sg Ls fs q a)
  {r:RF} {w0:AL} (hl0:Lay w0 ([b]::bo sA::Hr rs::[])) (hr0: ∀k∈bo r.1.A,w0.heap.size<=k) (hro:Own w 88 2 r.1.A r.1.n r.1.c (Xr r.2)) (hrl: ∀k∈bo r.1.A,∀P∈bo fA::Ls,k∉P) {sA':Option Ag} {sc':Nat} (hc2:AZ (b::bo sA) w w2)
  (hb:Bl w2 b 83 #[.slice sA' (rs.length+1) sc',.slice AB 0 0,.slice AB 0 0,.slice fA fs.length fc,.slice AB 0 0,.int .i64 q,.int .i64 a,.int .i64 0])
  (ho:Own w2 86 2 sA' (rs.length+1) sc' (Ko (WL (rs++[r])))) (hA: ∀x∈bo sA',x∈bo sA\/w.heap.size<=x):TD w2 b sA' sc' (rs++[r]) fA fc sg Ls fs q a:=by
 have hLL: ∀x∈b::bo sA,∃j P,j∈[0,1]/\([b]::bo sA::bo fA::Hr rs::Ls)[j]? =AA P/\x∈P:=λx hx=>by
  rcases BB.1 hx with rfl|hx;exact⟨0,_,AV,rfl,AV⟩;exact⟨1,_,AV,rfl,hx⟩
 have hk:=λ(i:Nat) (P:List Nat) (hi:([b]::bo sA::bo fA::Hr rs::Ls)[i]? =AA P) (hne:i∉[0,1])=>Lay.others (w:=w) h.lay hLL hi hne
 have hrn: ∀k∈bo r.1.A,k∉b::bo sA:=λk hkr hm=>by
  have h1:=hr0 k hkr;rcases BB.1 hm with rfl|hm;have:=hl0.lt [k] AV k AV;omega;have:=hl0.lt (bo sA) AV k hm;omega
 refine⟨by simpa using hb,by simpa using ho,λx hx=>?_,h.J7.Ak hc2 (hk 2 _ rfl AV),h.RI,λi g' L' f' e1 e2 e3=>(h.bQ i g' L' f' e1 e2 e3).Ak hc2 (hk (i+4) L' (by simpa using e2) AV),?_⟩
 ·rcases Be.1 hx with hx|hx;exact (h.Ed x hx).Ak hc2 (λk jo=>hk 3 _ rfl AV k (FI.2 ⟨x,hx,jo⟩));simp only[CG] at hx;subst hx;exact hro.Ak hc2 hrn
 have h3:Lay w ([b]::bo sA::bo fA::Hr (rs++[r])::Ls):=by
  have hs:=h.lay.sep;simp only[Sep,LK] at hs;obtain⟨s0,s1,s2,s3,s4⟩:=hs;have hb0:=hl0.lt;refine⟨?_,λP hP x hx=>?_⟩
  ·simp only[Sep,LK];refine⟨λP hP x hx hm=>?_,λP hP x hx hm=>?_,λP hP x hx hm=>?_,λP hP x hx hm=>?_,s4⟩
   ·simp only[BB] at hP;rcases hP with rfl|rfl|rfl|hP;exact s0 _ AV x hx hm;exact s0 _ AV x hx hm
    ·rw[Na] at hm;rcases Be.1 hm with hm|hm;exact s0 _ AV x hx hm;have h1:=hr0 x hm;have:=hb0 [b] AV x hx;omega
    exact s0 P (by simp[hP]) x hx hm
   ·simp only[BB] at hP;rcases hP with rfl|rfl|hP;exact s1 _ AV x hx hm
    ·rw[Na] at hm;rcases Be.1 hm with hm|hm;exact s1 _ AV x hx hm;have h1:=hr0 x hm;have:=hb0 (bo sA) AV x hx;omega
    exact s1 P (by simp[hP]) x hx hm
   ·simp only[BB] at hP;rcases hP with rfl|hP
    ·rw[Na] at hm;rcases Be.1 hm with hm|hm;exact s2 _ AV x hx hm;exact hrl x hm _ AV hx
    exact s2 P (by simp[hP]) x hx hm
   rw[Na] at hx;rcases Be.1 hx with hx|hx;exact s3 P hP x hx hm;exact hrl x hx P (by simp[hP]) hm
  simp only[BB] at hP;rcases hP with rfl|rfl|rfl|rfl|hP;exact h.lay.lt _ AV x hx;exact h.lay.lt _ AV x hx;exact h.lay.lt _ AV x hx
  ·rw[Na] at hx;rcases Be.1 hx with hx|hx;exact h.lay.lt (Hr rs) AV x hx;exact hro.lt x hx
  exact h.lay.lt P (by simp[hP]) x hx
 have:=h3.FK (w':=w2) (i:=1) (P:=bo sA) (P':=bo sA') rfl hA ho.lt hc2.size;exact this
theorem Lay.sub{Ps Qs:List (List Nat)}(h:Lay w Ps)(hs:Qs.Sublist Ps):Lay w Qs:=⟨AFE hs h.sep,λP hP=>h.lt P (hs.subset hP)⟩
theorem TD.done{w3 w4:AL}{sA:Option Ag}(h:TD w b sA sc rs fA fc sg Ls fs q a)
  (hc:AZ [] w w3) {pA:Option Ag} {pc n:Nat} {ps:List RF} (hrn:rs.length=n) (hT:Qj w3 pA n pc ps) (hpv:Oh ps=Oh rs) (hnew: ∀k∈bo pA++Hr ps,w.heap.size<=k/\k<w3.heap.size) (hc4:AZ [b] w3 w4)
  (hb:Bl w4 b 83 #[.slice sA n sc,.slice pA n pc,.slice AB 0 0,.slice fA fs.length fc,.slice AB 0 0,.int .i64 q,.int .i64 a,.int .i64 0]):
  RfM w4 ⟨b,sA,sc,rs,pA,pc,ps,AB,0,fA,fc,AB,0,bo sA++Hr rs++(bo pA++Hr ps),sg,Ls⟩ ⟨Oh rs,Oh rs,[],fs,[],q,a,0⟩:=by
 have hl:=h.lay;have h3:=h.CE hc;(have hln:(Oh rs).length=n:=by simp[Oh,hrn]);have hbl:=h.blk.lt;have hnb: ∀(i:Nat) (P:List Nat),([b]::bo sA::bo fA::Hr rs::Ls)[i+1]? =AA P->∀x∈P,x∉[b]:=λi P hi x hx hm=>hl.ne (i:=0) (j:=i+1) rfl hi Ad x hm hx;have hsn:Qj w4 sA n sc rs:=⟨by have:=(h3.row.Ak hc4 (hnb 0 _ rfl)).rd;rw[hrn] at this;exact this,λr hr=>((h3.Ed r hr).Ak hc4 (λk hk=>hnb 2 _ rfl k (FI.2 ⟨r,hr,hk⟩))).rd⟩;refine⟨by simpa[hln] using hb,by rw[hln];exact hsn,rfl,λk hk=>Fh _ hk,by rw[hln];exact hT.Ak hc4 (λk hk hm=>by have:=(hnew k hk).1;simp at hm;omega),hpv,λk hk=>Gx _ hk,Own.nil _ _ _,h3.J7.Ak hc4 (hnb 1 _ rfl),Own.nil _ _ _,h.RI,λi g L f e1 e2 e3=>(h3.bQ i g L f e1 e2 e3).Ak hc4 (hnb (i+3) L (by simpa using e2)),?_⟩;have hlt: ∀P∈([b]::bo sA::bo fA::Hr rs::Ls),∀x∈P,x<w4.heap.size:=λP hP x hx=>ER (hl.lt P hP x hx) (Ci hc.size hc4.size);have hs:=hl.sep;simp only[Sep,LK] at hs;obtain⟨s0,s1,s2,s3,s4⟩:=hs;refine⟨?_,λP hP x hx=>?_⟩
 ·simp only[Sep,RfG.parts,LK,XW];refine⟨λP hP x hx hm=>?_,AV,λP hP x hx hm=>?_,AV,λP hP x hx hm=>?_,s4⟩
  ·simp only[BB] at hP;rcases hP with rfl|rfl|rfl|rfl|hP;simp at hm;exact s0 _ AV x hx hm;simp at hm
   ·rcases Be.1 hm with hm|hm
    ·rcases Be.1 hm with hm|hm;exact s0 (bo sA) AV x hx hm;exact s0 (Hr rs) AV x hx hm
    have:=(hnew x hm).1;simp at hx;omega
   exact s0 P (by simp[hP]) x hx hm
  ·simp only[BB] at hP;rcases hP with rfl|rfl|hP;simp at hm
   ·rcases Be.1 hm with hm|hm
    ·rcases Be.1 hm with hm|hm;exact s1 (bo fA) AV x hm hx;exact s2 (Hr rs) AV x hx hm
    have h1:=(hnew x hm).1;have h2:=hl.lt (bo fA) AV x hx;omega
   exact s2 P (by simp[hP]) x hx hm
  rcases Be.1 hx with hx|hx
  ·rcases Be.1 hx with hx|hx;exact s1 P (by simp[hP]) x hx hm;exact s3 P hP x hx hm
  have h1:=(hnew x hx).1;have h2:=hl.lt P (by simp[hP]) x hm;omega
 simp only[RfG.parts,BB,XW] at hP;rcases hP with rfl|rfl|rfl|rfl|rfl|hP;exact hlt [b] AV x hx;simp at hx;exact hlt (bo fA) AV x hx;simp at hx
 ·rcases Be.1 hx with hx|hx
  ·rcases Be.1 hx with hx|hx;exact hlt (bo sA) AV x hx;exact hlt (Hr rs) AV x hx
  exact ER (hnew x hx).2 hc4.size
 exact hlt P (by simp[hP]) x hx
end
end Go.Proofs.YtkkgcebhfghdnaaGreatDoor.Vw
