/- Part 22 of what that rests on; no condition. -/
import Derived.Test.YtkkgcebhfghdnaaGreatDoorJu
set_option maxRecDepth 100000
set_option maxHeartbeats 8000000
open Go.World renaming block_lt_of_cell?→UC
open Go renaming wp_region_held_drew→Ei, run_underlying→IG, wpAnyH_ready→Oo, wpAnyH_done→Ef, World→AL, Calls→A7
open Go.Result renaming andThen_ok→Om
open Go.Instr renaming findAsking→rX, checkKey→Ua, findNow→Ub, lookup→PY
open Option renaming getD_some→Dt, map_some→FY, none→AB, some→AA
open Go.Value renaming oneCell'→UD
open Go.AllReadyH renaming cons→Gh, nil→Oq
open Go.Sem renaming run_bind→Eh
open Prod renaming fst→Aa
open Go.Act renaming put→BF
namespace Go.Proofs.YtkkgcebhfghdnaaGreatDoor.Vw
open Go.RowKit
def shows (β:Nat->List Int) (T:Tr):GH:=T.map λp=>(p.1,p.2.map λq=>(q.1,β q.2))
theorem AF3{w:AL}{A:Option Addr}{n c:Nat}{ns:List ByteArray}(h:Own w 9 1 A n c (PN ns)){j:Nat}(hj:j<n):
  ∃ad s,A=AA ad/\ns[j]? =AA s/\w.cell? (ad.add j)=AA (.string s):=zV h.rd hj
theorem ACG{β:Nat->List Int}{T:Tr}{i:Nat}{p:ByteArray×Jl}(h:T[i]? =AA p):shows β (T.take (i+1))=shows β (T.take i)++[(p.1,p.2.map λq=>(q.1,β q.2))]:=by
 rw[take_snoc _ _ _ h];simp[shows]
theorem ACH(ds:List DM)(x:DM):BJ (ds++[x])=BJ ds++[(x.1.nm,BD x.2)]:=by simp[BJ]
theorem ACI(fs:List FM)(x:FM):BD (fs++[x])=BD fs++[(x.1.nm,x.2)]:=by simp[BD]
theorem wC(X:FuncId)(cp:Array Value)(hcf: ∀(p:Array Value) (w:AL),(callFunc X p).run Af w=.ok (.enter X p) w)(w:AL)(tb:Nat)(g:MX)(ib:List Nat)(T:Tr)(m:Nat)(β:Nat->List Int)(ht:Tree w tb g)(hi:D7 ib g T)(hv:Val m T)(hw:wd T<=1073741824)
  (hcall: ∀i,i<m->∀wr,AZ [] w wr->A7 Af X (#[.pointer (AA ⟨EE ib i,0,AB⟩)]++cp) wr (La 5 1 wr (bv (β i)) (β i).length)):
  A7 Af 55 #[.map (AA tb),.func (.func X) #[] cp] w (bF w (shows β T)):=by
 have HT:=AQ ht;have HI:=AQ hi;have HV:=AQ hv;have HW:=AQ hw;have UT:=AQ hcall;(have hTl:T.length<=1073741824:=by have:=zY T;omega);clear ht hi hv hw hcall;have k87:= @AJl;have k88:= @ANg;have k89:= @ANh;go_enter AM0,Tryz.ntmps55;(go_wp2_with fail);refine (oz (AA tb) w).mono ?_;rintro e w2 ⟨rfl,hw2⟩;have HW2:=AQ hw2;clear hw2;(go_wp2_with fail);rw[HW2.out];refine (Yx HT.out HI.out HV.out hTl rfl).mono ?_;rintro e w3 ⟨NA,nc,rfl,hno,hc3,hn3⟩;have HNO:=AQ hno;have Hz:=AQ hc3;obtain⟨TN,hTN⟩: ∃TN,T.length=TN:=⟨_,rfl⟩;rw[hTN] at HNO hTl⊢;clear hno hc3 hn3;go_wp2;go_loopw [4,6,7,9,14,26] (λo _ _ _ q _ wr=>∃(i:Nat) (A:Option Addr) (c:Nat) (ds:List DM),i<=TN/\q=.int .i64 i/\o=.slice A i c/\Jj wr A i c ds/\BJ ds=shows β (T.take i)/\AZ [] w3 wr/\∀k∈bo A++OZ ds,w.heap.size<=k/\w3.heap.size<=k) (λ_ _ _ _ q _ _=>TN - (intOf q).toNat)
 case atStart=>exact⟨0,AB,0,[],D5 _,rfl,rfl,⟨Own.nil _ _ _,AV,by simp[OZ]⟩,rfl,AZ.refl _ _,by simp[OZ]⟩
 obtain⟨i,A,c,ds,hiT,rfl,rfl,hds,hval,hch,hnew⟩:=hrel;have HDS:=AQ hds;have Xg:=AQ hval;have DY:=AQ hch;have Oy:=AQ hnew;clear hds hval hch hnew;by_cases hlt:i<TN
 ·(have hlt':(i:Int)<TN:=by omega);obtain⟨ad,nmx,rfl,hnm,hcell⟩:=AF3 (HNO.out.Ak DY.out Ej) hlt;obtain⟨p,hp⟩: ∃p,T[i]? =AA p:=⟨_,CQ Ad⟩
  have hpn:p.1=nmx:=by
   rw[Bg,hp] at hnm;exact EF hnm
  subst hpn;have hpm:=Bq hp;have hFT:BH T p.1=AA p.2:=LG HV.out.UR.nodup hpm;obtain⟨e,he,hsub⟩:=HI.out.get hFT;have DI:Hid (AZ [] w wr):=AQ (Hz.out.Ap DY.out);have hTr:=HT.out.keep DI.out Ej;have hl:=λo=>(Mp.lookup ((hTr.top).Ak ((AZ.refl [] wr).alloc o) BC) (Cj KZ) Iy (z:=.map AB) Aq p.1).1;simp only[Eo,he,FY,Dt] at hl;have HP:=AQ hp;have HPM:=AQ hpm;have HE:=AQ (CJ he);have WG:=AQ hsub;have HFL:Hid (p.2.length<=1073741824):=AQ (by have:=zZ hpm;have:=HW.out;omega);clear hnm hp hpm hFT he hsub hTr;(go_wp2_with fail);obtain⟨db,hdb⟩: ∃db,wr.heap.size=db:=⟨_,rfl⟩;obtain⟨W,hWn⟩: ∃W,W=wr.alloc (.cells #[.string p.1,.slice AB 0 0] 77):=⟨_,rfl⟩;(have hbW:Bl W db 77 #[.string p.1,.slice AB 0 0]:=by rw[hWn,<- hdb];exact Bl.new wr _ _);(have hcW:AZ [] wr W:=by rw[hWn];exact (AZ.refl _ _).alloc _);rw[<- hWn];have HBW:=AQ hbW;have QT:=AQ hcW;have HDB:Hid (wr.heap.size<=db):=AQ Ad;rw[hdb];clear hbW hcW hWn hl hcell;refine (o5 (AA e.1) W).mono ?_;rintro ee w4 ⟨rfl,hw4⟩;have HW4:=AQ hw4;clear hw4;(go_wp2_with fail);rw[HW4.out];have hfm:=(HT.out.sub _ HE.out).Ak (DI.out.Ap QT.out) BC;refine (Yy hfm WG.out (HV.out.sub _ HPM.out) (HV.out.zW _ HPM.out) HFL.out rfl).mono ?_;rintro ee w5 ⟨NB,nd,rfl,ANz,hc5,hn5⟩;have AN0:=AQ ANz;have RJ:=AQ hc5;have HN5:=AQ hn5;have HFM:=AQ hfm;obtain⟨FN,hFN⟩: ∃FN,p.2.length=FN:=⟨_,rfl⟩;have hFl:=HFL.out;rw[hFN] at AN0 hFl⊢;have HB5:=AQ (HBW.out.Ak hc5 BC);have HAB:Hid (∀k∈bo A++OZ ds,k<db):=AQ (λk hk=>by have:=HDS.out.lt k hk;have:=HDB.out;omega);have ATJ:=AQ ((HDS.out.Ak QT.out Ej).Ak hc5 Ej);have HLW:Hid (db<W.heap.size/\W.heap.size<=w5.heap.size):=AQ ⟨HBW.out.lt,hc5.size⟩;have Zf:=AQ hFN;clear ANz hc5 hn5 hfm hdb hFN;go_wp2;go_loopw [9,26] (λ_ q wj=>∃(j:Nat) (B:Option Addr) (d:Nat) (fs:List FM),j<=FN/\q=.int .i64 j/\Bl wj db 77 #[.string p.1,.slice B j d]/\Gu wj B j d fs/\BD fs=(p.2.take j).map (λq=>(q.1,β q.2))/\AZ [db] w5 wj/\∀k∈bo B++Gj fs,w5.heap.size<=k) (λ_ q _=>FN - (intOf q).toNat)
  case atStart=>exact⟨0,AB,0,[],D5 _,rfl,HB5.out,⟨Own.nil _ _ _,AV,by simp[Gj]⟩,rfl,AZ.refl _ _,by simp[Gj]⟩
  obtain⟨j,B,d,fs,hjF,rfl,hbj,hfs,hfv,hcj,hnj⟩:=hrel;have HBJ:=AQ hbj;have HFS:=AQ hfs;have HFV:=AQ hfv;have HCJ:=AQ hcj;have HNJ:=AQ hnj;have x1:=hbj.cell 1;have x0:=hbj.cell 0;have f1:=hbj.frozen 1;simp at x1 x0;clear hbj hfs hfv hcj hnj;by_cases hjl:j<FN
  ·have AN1:(j:Int)<FN:=by omega
   have AN2: ∀k∈bo NB,k∉[db]:=λk hk hm=>by
    simp only[CG] at hm;have h1:=HN5.out k hk;have h2:=HLW.out.1;omega
   obtain⟨bd,qn,rfl,mg,hqc⟩:=AF3 (AN0.out.Ak HCJ.out AN2) hjl
   obtain⟨q,hq⟩: ∃q,p.2[j]? =AA q:=by
    rw[Bg] at mg
    cases hh:p.2[j]? with|none=>rw[hh] at mg;cases mg|some q=>exact⟨q,rfl⟩
   have hqq:q.1=qn:=by
    rw[Bg,hq] at mg;exact EF mg
   subst hqq;have hqm:=Bq hq;have hSF:RH p.2:=HV.out.sub _ HPM.out;have hid:=HV.out.ids _ HPM.out _ hqm;(have hge:BH e.2 q.1=AA (EE ib q.2):=by rw[WG.out,LG hSF.nodup hqm];rfl);have AN3:Hid (AZ [] w w5):=AQ ((DI.out.Ap QT.out).Ap RJ.out);have pz:Hid (AZ [] w wr):=AQ (AN3.out.trans HCJ.out (λx hx=>by simp only[CG] at hx;subst hx;right;have h1:=HDB.out;have h2:=DI.out.size;omega));have hTj:=HT.out.keep pz.out Ej;have hlA:=(Mp.lookup (hTj.top.Ak (AZ.refl [] wr).drew BC) (Cj KZ) Iy (z:=.map AB) Aq p.1).1;have hlB:=(Mp.lookup ((hTj.sub _ HE.out).Ak (AZ.refl [] wr).drew BC) (Cj KZ) PH (z:=.pointer AB) Aq q.1).1;simp only[Eo,LG HT.out.nodup HE.out,FY,Dt] at hlA;simp only[VX,hge,FY,Dt] at hlB;have HQ:=AQ hq;have HID:=AQ hid;have HGE:=AQ hge;clear mg hq hqm hSF hid hge AN2;have HTJ:Hid (Tree wr tb g):=AQ (HT.out.keep pz.out Ej)
   have Nv:Hid (∀x∈db::bo B,w.heap.size<=x):=AQ (λx hx=>by
    have h1:=HDB.out;have h2:=DI.out.size;have h3:=AN3.out.size;rcases BB.1 hx with rfl|hx;omega
    have:=HNJ.out x (Fh _ hx);omega)
   have HTB:Hid (tb∉db::bo B/\e.1∉db::bo B):=AQ ⟨λhm=>by have h1:=Nv.out _ hm;have h2:=HT.out.top.lt;omega,λhm=>by have h1:=Nv.out _ hm;have h2:e.1<w.heap.size:=(HT.out.sub _ HE.out).lt;omega⟩;have HLA:Hid (BH (Eu g) p.1=AA (.map (AA e.1))):=AQ (by rw[Eo,LG HT.out.nodup HE.out];rfl);have HLB:Hid (BH (Ip e.2) q.1=AA (.pointer (AA ⟨EE ib q.2,0,AB⟩))):=AQ (by rw[VX,HGE.out];rfl);have ATK:Hid (db∉bo B):=AQ (λhm=>by have:=HNJ.out db (Fh _ hm);have:=HLW.out;omega);(have AUj:j<=1073741824:=by omega);clear hlA hlB hTj;go_wp2;refine Ei (S:=λw'=>AZ (db::bo B) wr w') Aq ((AZ.refl _ _).drew) (λhHeld=>?_);refine tk 0 ?_;refine tk 2 ?_;refine tk 3 ?_;refine tk 4 ?_;refine tk 5 ?_;refine wpAnyH_take (i:=6) (v:=?_) rfl Aq Aq Aq (λ_ _ _ h=>h) (Or.inl ⟨by rfl,?_⟩) (by assumption) ?_;rotate_left
   ·(intro w' hSw;have y:=(Mp.lookup (HTJ.out.top.Ak hSw HTB.out.1) (Cj KZ) Iy (z:=.map AB) Aq p.1).1;rw[HLA.out] at y;simp only[Dt] at y;go_simp;try with_reducible rfl)
   (try simp only[BF,Bf]);refine tk 7 ?_;refine wpAnyH_take (i:=8) (v:=?_) rfl Aq Aq Aq (λ_ _ _ h=>h) (Or.inl ⟨by rfl,?_⟩) (by assumption) ?_;rotate_left
   ·(intro w' hSw;have y:=(Mp.lookup ((HTJ.out.sub _ HE.out).Ak hSw HTB.out.2) (Cj KZ) PH (z:=.pointer AB) Aq q.1).1;rw[HLB.out] at y;simp only[Dt] at y;go_simp;try with_reducible rfl)
   (try simp only[BF,Bf]);refine Oo (rs:=[1,9]) Aq AV ?_;refine Gh rfl (λK hK=>?a5) (Gh rfl (λK hK=>?b5) (Oq))
   case' a5=>
    go_simp;refine hK.out _ _ (hHeld) (λhHeld=>?_);(try simp only[BF,Bf]);clear hK K;refine EW 9 λK hK=>?_;go_simp;refine (UT.out q.2 HID.out _ (pz.out.trans hHeld (λx hx=>.inr (Nv.out x hx)))).mono ?_;rintro ee w4 ⟨BA,bc,rfl,ZM,hc4,hn4⟩;have y1:w4.cell? ⟨db,1,AB⟩=AA (.slice B j d):=hc4.cell (by simpa using x1) BC;have tq:=AQ ZM;have NV:=AQ hc4;have HN4:=AQ hn4;have hHc:=hHeld.Ap hc4;have AN4:Hid (Own (w4.alloc (.cells #[.string q.1,.slice BA (β q.2).length bc] 64)) 64 2 B j d (Ko (F5 fs))):=AQ (HFS.out.row.Ak ((((AZ.refl [] wr).drew).Ap hc4).alloc _) Ej);have AF4:Hid (Bl (w4.alloc (.cells #[.string q.1,.slice BA (β q.2).length bc] 64)) db 77 #[.string p.1,.slice B j d]):=AQ (HBJ.out.Ak ((((AZ.refl [] wr).drew).Ap hc4).alloc _) BC);have WW:Hid (AZ [] wr (w4.alloc (.cells #[.string q.1,.slice BA (β q.2).length bc] 64))):=AQ ((((AZ.refl [] wr).drew).Ap hc4).alloc _);have y1a:(w4.alloc (.cells #[.string q.1,.slice BA (β q.2).length bc] 64)).cell? ⟨db,1,AB⟩=AA (.slice B j d):=AF4.out.cell 1;clear ZM hn4;refine hK.out _ _ (hHc) (λhHeld=>?_);(try simp only[BF,Bf]);clear hK K;refine tk 10 ?_;refine EW 11 λK hK=>?_;go_simp;refine hK.out _ _ (hHeld.alloc _) (λhHeld=>?_)
   case' b5=>
    go_simp;refine (UT.out q.2 HID.out _ (pz.out.trans hHeld (λx hx=>.inr (Nv.out x hx)))).mono ?_;rintro ee w4 ⟨BA,bc,rfl,ZM,hc4,hn4⟩;have y1:w4.cell? ⟨db,1,AB⟩=AA (.slice B j d):=hc4.cell (by simpa using x1) BC;have tq:=AQ ZM;have NV:=AQ hc4;have HN4:=AQ hn4;have hHc:=hHeld.Ap hc4;have AN4:Hid (Own (w4.alloc (.cells #[.string q.1,.slice BA (β q.2).length bc] 64)) 64 2 B j d (Ko (F5 fs))):=AQ (HFS.out.row.Ak ((((AZ.refl [] wr).drew).Ap hc4).alloc _) Ej);have AF4:Hid (Bl (w4.alloc (.cells #[.string q.1,.slice BA (β q.2).length bc] 64)) db 77 #[.string p.1,.slice B j d]):=AQ (HBJ.out.Ak ((((AZ.refl [] wr).drew).Ap hc4).alloc _) BC);have WW:Hid (AZ [] wr (w4.alloc (.cells #[.string q.1,.slice BA (β q.2).length bc] 64))):=AQ ((((AZ.refl [] wr).drew).Ap hc4).alloc _);have y1a:(w4.alloc (.cells #[.string q.1,.slice BA (β q.2).length bc] 64)).cell? ⟨db,1,AB⟩=AA (.slice B j d):=AF4.out.cell 1;clear ZM hn4;refine hK.out _ _ (hHc) (λhHeld=>?_);(try simp only[BF,Bf]);clear hK K;refine tk 10 ?_;refine Oo (rs:=[1,11]) Aq AV ?_;refine Gh rfl (λK hK=>?a6) (Gh rfl (λK hK=>?b6) (Oq))
    case' a6=>
     go_simp;refine hK.out _ _ (hHeld) (λhHeld=>?_);(try simp only[BF,Bf]);clear hK K;refine EW 11 λK hK=>?_;go_simp;refine hK.out _ _ (hHeld.alloc _) (λhHeld=>?_)
    case' b6=>
     go_simp;refine hK.out _ _ (hHeld.alloc _) (λhHeld=>?_);(try simp only[BF,Bf]);clear hK K;refine EW 1 λK hK=>?_;go_simp;refine hK.out _ _ (hHeld) (λhHeld=>?_)
   all_goals
    (try simp only[BF,Bf]);clear hK K;refine EW 12 λK hK=>?_;refine JU rfl _ _ rfl vS rfl AN4.out rfl (Own.lit w4 64 2 #[.string q.1,.slice BA (β q.2).length bc] 1 Ar rfl).rd (Uu [⟨q.1,BA,(β q.2).length,bc⟩]) Qv Ad ?_;intro A2 c2 w6 hown6 IE LH _;have TC:=AQ (AF4.out.Ak IE ATK.out);have y6:=TC.out.cell 1;have f6:=TC.out.frozen 1;simp at y6;have qA:=AQ hown6;have JE:=AQ IE;have Vf:=AQ LH;have hH6:=hHeld.trans IE (λx hx=>.inl (CO _ hx));clear hown6 IE LH;refine hK.out _ _ (hH6) (λhHeld=>?_);(try simp only[BF,Bf]);clear hK K;refine tk 13 ?_;refine EW 14 λK hK=>?_;go_simp;refine hK.out _ _ (hHeld.setCell (.inl AV) _) (λhHeld=>?_);(try simp only[BF,Bf]);clear hK K;refine Ef Aq ?_ _;(try simp only[BF,Bf]);have Yh:Hid (AZ [db] w6 (w6.setCell ⟨db,1,AB⟩ (.slice A2 (j+1) c2))):=AQ ((AZ.refl _ _).setCell (.inl AV) _);have ZX:Hid (Bl (w6.setCell ⟨db,1,AB⟩ (.slice A2 (j+1) c2)) db 77 #[.string p.1,.slice A2 (j+1) c2]):=AQ (by simpa using TC.out.FK 1 (.slice A2 (j+1) c2));clear y6 f6 y1 y1a hHeld hHc hH6 hc4 x1 x0 f1;go_wp2;go_roundw
    case rel=>
     have Xh: ∀k∈bo A2,w5.heap.size<=k:=λk hk=>by
      rcases Vf.out k hk with h|h;exact HNJ.out k (Fh _ h);have h1:=HCJ.out.size;have h2:=WW.out.size;omega
     have ATL: ∀k∈bo A2,k∉[db]:=λk hk hm=>by
      simp only[CG] at hm;have h1:=Xh k hk;have h2:=HLW.out;omega
     have hwl:wr.drew.heap.size<=w4.heap.size:=NV.out.size;have hba: ∀k∈bo BA,wr.heap.size<=k:=λk hk=>HN4.out k hk;have ATM:Own (w4.alloc (.cells #[.string q.1,.slice BA (β q.2).length bc] 64)) 5 1 BA (β q.2).length bc (bv (β q.2)):=tq.out.Ak ((AZ.refl [] w4).alloc _) Ej;have hfl:=HFS.out.lt
     have hO6:Own w6 64 2 A2 (j+1) c2 (Ko (F5 (fs++[(⟨q.1,BA,(β q.2).length,bc⟩,β q.2)]))):=by
      have:=qA.out;unfold F5 at this⊢;rw[Em,Nq];exact this
     have AN5:Gu w6 A2 (j+1) c2 (fs++[(⟨q.1,BA,(β q.2).length,bc⟩,β q.2)]):=
      (HFS.out.Ak WW.out Ej).snoc JE.out hO6 (ATM.Ak JE.out (λk hk hm=>by have h1:=hba k hk;have h2:=hfl k (Fh _ hm);omega)) (λk hk hm=>by have h1:=hba k hk;have h2:=hfl k (Gx _ hm);omega)
     refine⟨j+1,A2,c2,fs++[(⟨q.1,BA,(β q.2).length,bc⟩,β q.2)],Ad,by go_num,ZX.out,AN5.Ak Yh.out (λk hk hm=>?_),?_,?_,?_⟩
     ·rcases Be.1 hk with hk|hk;exact ATL k hk hm;obtain⟨f,hf,hk⟩:=FI.1 hk;simp only[CG] at hm;subst hm;exact (AN5.dat f hf).GG TC.out Ar _ hk rfl
     rw[ACI,take_snoc _ _ _ HQ.out,Em,HFV.out];rfl;exact ((HCJ.out.Ap WW.out).trans JE.out (λx hx=>.inr (HNJ.out x (Fh _ hx)))).trans Yh.out (λx hx=>.inl hx);intro k hk;rw[oZ] at hk;rcases Be.1 hk with hk|hk;exact Xh k hk;rcases Be.1 hk with hk|hk;exact HNJ.out k (Gx _ hk);have h1:=hba k hk;have h2:=HCJ.out.size;omega
    simp[intOf];omega
  obtain rfl:j=FN:=by omega
  have AN6:Hid (Jj wr A i c ds):=AQ (ATJ.out.Ak HCJ.out (λk hk hm=>by
   simp only[CG] at hm
   have:=HAB.out k hk;omega))
  clear f1;(go_wp2_with (at_builtin;refine Gz rfl _ _ rfl ABy rfl (AN6.out.row.Ak ((AZ.refl [] wr).alloc (.cells #[.string p.1,.slice B j d] 77)) Ej) rfl (Own.lit wr 77 2 #[.string p.1,.slice B j d] 1 Ar rfl).rd (Uu [⟨p.1,B,j,d⟩]) Qv Ad ?_;intro A2 c2 w7 AKI AKJ AKK _;have HO7:=AQ AKI;have Oc:=AQ AKJ;have HN7:=AQ AKK;clear AKI AKJ AKK));go_roundw
  case rel=>
   have AKL:AZ [] wr (wr.alloc (.cells #[.string p.1,.slice B j d] 77)):=(AZ.refl [] wr).alloc _;have hsz1:=Hz.out.size;have hsz2:=DY.out.size;have hsz3:=QT.out.size;have ATN:=HCJ.out.size;have hlw:=HLW.out;have hfl:=HFS.out.lt
   have tX: ∀k∈bo B++Gj fs,k∉bo A:=λk hk hm=>by
    have h1:=HNJ.out k hk;have h2:=HAB.out k (Fh _ hm);omega
   have ATO:Jj w7 A2 (i+1) c2 (ds++[(⟨p.1,B,j,d⟩,fs)]):=by
    refine (AN6.out.Ak AKL Ej).snoc Oc.out ?_ ((HFS.out.Ak AKL Ej).Ak Oc.out tX) (λk hk hm=>?_)
    ·have:=HO7.out;unfold Gi at this⊢;rw[Em,Nq];exact this
    have h1:=HNJ.out k hk;have h2:=HAB.out k (Gx _ hm);omega
   refine⟨i+1,A2,c2,ds++[(⟨p.1,B,j,d⟩,fs)],Ad,by go_num,rfl,ATO,?_,?_,?_⟩;rw[ACH,ACG HP.out,Xg.out,HFV.out,show p.2.take j=p.2 from FH (by rw[Zf.out];exact Ba _)];exact ((((DY.out.Ap QT.out).Ap RJ.out).trans HCJ.out (λx hx=>by simp only[CG] at hx;subst hx;right;have:=HDB.out;omega)).Ap AKL).trans Oc.out (λx hx=>.inr (Oy.out x (Fh _ hx)).2);intro k hk;rw[Za] at hk;rcases Be.1 hk with hk|hk
   ·rcases HN7.out k hk with h|h;exact Oy.out k (Fh _ h);simp at h;omega
   rcases Be.1 hk with hk|hk;exact Oy.out k (Gx _ hk);have h1:=HNJ.out k hk;omega
  simp[intOf];omega
 (obtain rfl:i=TN:=by omega);go_wp2;go_ret;refine⟨A,i,c,ds,rfl,HDS.out,?_,Hz.out.Ap DY.out,λk hk=>(Oy.out k hk).1⟩;rw[Xg.out,FH Ad]
section
variable {B i km x:Nat}{S:St}{w:AL}
theorem AEk{G:Bh}(h:EI w G S)(hi:Inv B S)(hB:B<=1073741824)(hil:i<S.files.length):
  A7 Af 62 #[.pointer (AA ⟨EE G.ib i,0,AB⟩)] w (La 5 1 w (bv (S.bytes i)) (S.bytes i).length):=by
 obtain⟨g,L,_,hbx,hs,_⟩:=h.bQ hil;have c0:=hbx.cell 0;simp at c0;have HS:=AQ hs;have HL:=AQ (show _<=1073741824 from Ci (hi.Ed i).1 hB);clear h hi hbx hs;have k63:= @ASe;go_enter AM5,Tryz.ntmps62;(go_wp2_with fail);refine (AG5 g L _ _ w HS.out HL.out (S.bytes i).length rfl).mono ?_;rintro e w2 ⟨A,c,rfl,ho,hc2,hn⟩;have HO:=AQ ho;have HC2:=AQ hc2;have HN:=AQ hn;clear ho hc2 hn;go_wp2;go_ret;exact⟨A,c,rfl,HO.out,HC2.out,HN.out⟩
theorem ACJ(h:S.down=false):S.view=shows S.bytes S.seen:=by
 unfold St.view shows;rw[BM (by simp[h])]
theorem bU{G:Bh}(h:EI w G S)(hi:Inv B S)(hB:B<=1073741824):
  A7 Af 20 #[.pointer (AA ⟨G.b,0,AB⟩)] w (bF w S.view):=by
 have HF:=AQ h;have HI:=AQ hi;have HB:=AQ hB;clear h hi hB;have k55:= @ANd;have k61:= @AJi;go_enter AMh,Tryz.ntmps20;(go_wp2_with fail);refine (AB8 HF.out).mono ?_;rintro e w1 ⟨rfl,hc1⟩;have DI:=AQ hc1
 cases hd:S.down with
 |true=>
  have HR:Hid (S.view=[]):=AQ (by unfold St.view;rw[BZ hd]);clear hc1 hd;go_wp2;go_ret;rw[HR.out];exact⟨AB,0,0,[],rfl,⟨Own.nil _ _ _,AV,by simp[OZ]⟩,rfl,DI.out,by simp[OZ]⟩
 |false=>
  have HR:=AQ (ACJ hd);have GR:=AQ (HF.out.CE hc1);have h0:=GR.out.blk.cell 0;simp at h0;clear hc1 hd;(go_wp2_with fail);refine (wC 62 #[] @ASd w1 G.t1 G.g1 G.ib S.seen S.files.length S.bytes GR.out.FU GR.out.Le HI.out.val (Ci HI.out.wd HB.out) (λi hil wr hc=>AEk (GR.out.CE hc) HI.out HB.out hil)).mono ?_;rintro e w2 ⟨A,n,c,ds,rfl,hds,hv,hc2,hn⟩;have HDS:=AQ hds;have HV:=AQ hv;have HC2:=AQ hc2;have HN:=AQ hn;clear hds hv hc2 hn;go_wp2;go_ret;exact⟨A,n,c,ds,rfl,HDS.out,by rw[HV.out,HR.out],DI.out.Ap HC2.out,λk hk=>Ci DI.out.size (HN.out k hk)⟩
theorem AAF{y:Nat}(hx:Ob w x)(hy:Ob w y):(Op.equal 121 (pv x) (pv y)).run Af w=.ok (decide (x=y)) w:=by
 have h:=pR hx hy;simp only[binOp,Eh] at h
 cases hr:(Op.equal 121 (pv x) (pv y)).run Af w with
 |ok b w'=>
  unfold pv at hr;rw[hr] at h;simp only[Om,Sem.run_pure,Result.ok.injEq,Value.bool.injEq] at h;rw[h.1,h.2]
 |_=>unfold pv at hr;rw[hr] at h;cases h
theorem Y0{w:AL}{x:Nat}(hx:Ob w x): ∀(es:List MapEntry) (ks:List Nat) (i:Nat),es.map (·.key)=ks.map pv->(∀k∈ks,Ob w k)->
  (rX 121 (pv x) es i).run Af w=.ok ((ks.idxOf? x).bind λj=>(es[j]?).map λe=>(i+j,e.val)) w
 | [],[],i,_,_=>by simp[rX]| [],k'::ks,i,he,_=>by simp at he|e::es,[],i,he,_=>by simp at he
 |e::es,k'::ks,i,he,hb=>by
  simp only[BK,IV] at he;unfold rX;rw[he.1];simp only[Eh,AAF hx (hb k' AV),Om];by_cases hk:x=k'
  ·subst hk;rw[Qw,beq_self_eq_true];simp
  simp only[hk,decide_false];have ih:=Y0 hx es ks (i+1) he.2 (λk hk=>hb k (CO _ hk));rw[Qw];(have:(k'==x)=false:=by simp;exact λe=>hk e.symm);rw[this];simp only[C9,if_false];rw[ih]
  cases ks.idxOf? x with|none=>rfl|some j=>simp[U4,lM 1 j]
theorem Zg{ks:List Nat}(hx:Ob w x)(hks: ∀k∈ks,Ob w k):zN Af 121 pv w x ks where
 find:=λes he=>by
  unfold Instr.findKey;simp only[Eh,IG zL,Om]
  cases es with
  |nil=>
   cases ks with|nil=>simp[Ub]|cons k r=>simp at he
  |cons e es=>
   cases ks with
   |nil=>simp at he|cons k r=>
    have hk:e.key=pv k:=by simp only[BK,IV] at he;exact he.1
    have hn:Ub (.pointer 126) (pv x) (e::es) 0=AB:=by
     unfold Ub;rw[hk];simp[Instr.sameNow]
    rw[hn];have:=Y0 hx (e::es) (k::r) 0 he hks;simp only[Ny] at this;exact this
 check:=λe=>by
  show (Ua e (9999+1) 121 (pv x)).run Af w=_;unfold Ua;simp[IG zL,pv]
 bits:=by simp[Instr.sameBits,pv]
structure KN where
 A:Option Addr
 n:Nat
 c:Nat
 bs:List Bool
def KN.v (r:KN):Value:=.slice r.A r.n r.c
def KN.nil:KN:=⟨AB,0,0,[]⟩
abbrev KG:=List (Nat×KN)
def kgv (kg:KG):List (Nat×Value):=kg.map λp=>(p.1,p.2.v)
def Qq (kg:KG):List Nat:=kg.flatMap λp=>bo p.2.A
def fQ (kg:KG) (x:Nat):List Bool:=((BH kg x).getD KN.nil).bs
structure Oz (w:AL) (km:Nat) (kg:KG):Prop where
 top:Mp w km pv (kgv kg)
 row: ∀p∈kg,Own w 4 1 p.2.A p.2.n p.2.c (kv p.2.bs)
 isb: ∀p∈kg,Ob w p.1
 sep:(Qq kg).Nodup
theorem U2(kg:KG):(kgv kg).map Aa=kg.map Aa:=by unfold kgv;rw[Eg];rfl
theorem AHM(kg:KG)(x:Nat):(BH (kgv kg) x).getD (.slice AB 0 0)=((BH kg x).getD KN.nil).v:=by
 unfold kgv;rw[fG (λr:KN=>r.v)];cases BH kg x<;>rfl
theorem Oz.get{kg:KG}(h:Oz w km kg)(x:Nat):Own w 4 1 ((BH kg x).getD KN.nil).A ((BH kg x).getD KN.nil).n ((BH kg x).getD KN.nil).c (kv (fQ kg x)):=by
 unfold fQ
 cases hx:BH kg x with|none=>exact Own.nil _ _ _|some r=>exact h.row _ (CJ hx)
theorem Oz.Ak{w w':AL}{km:Nat}{kg:KG}{L:List Nat}(h:Oz w km kg)(hc:AZ L w w')(h1:km∉L)(h2: ∀k∈Qq kg,k∉L)(h3: ∀p∈kg,p.1∉L):Oz w' km kg:=
 ⟨h.top.Ak hc h1,λp hp=>(h.row p hp).Ak hc (λk hk=>h2 k (FI.2 ⟨p,hp,hk⟩)),λp hp=>(h.isb p hp).Ak hc (h3 p hp),h.sep⟩
theorem Oz.Ho{w':AL}{kg:KG}(h:Oz w km kg)(hc:AZ [] w w'):Oz w' km kg:=h.Ak hc BC Ej Ej
theorem Oz.look{kg:KG}(h:Oz w km kg)(hx:Ob w x):(PY 120 (.map (AA km)) (pv x) false).run Af w=.ok (((BH kg x).getD KN.nil).v) w:=by
 have:=Mp.vN h.top (t:=120) x (Zg hx (λk hk=>by
  rw[U2] at hk;obtain⟨p,hp,rfl⟩:=Bz.1 hk
  exact h.isb p hp)) AEL (z:=.slice AB 0 0) Aq
 rw[AHM] at this;exact this.1
theorem AHN{G:Bh}(h:EI w G S)(hi:Inv B S)(hB:B<=1073741824)(hil:i<S.files.length)(kc km:Nat)(kg:KG)(hk:w.cell? ⟨kc,0,AB⟩=AA (.map (AA km)))(hm:Oz w km kg)(hkl:(fQ kg (EE G.ib i)).length<=1073741824)(ks:List Bool)(hks:fQ kg (EE G.ib i)=ks):
  A7 Af 56 #[.pointer (AA ⟨EE G.ib i,0,AB⟩),.pointer (AA ⟨kc,0,AB⟩)] w (La 5 1 w (bv (PL (S.files.getD i ([],[])).1 (S.files.getD i ([],[])).1.length (S.files.getD i ([],[])).2 ks)) (PL (S.files.getD i ([],[])).1 (S.files.getD i ([],[])).1.length (S.files.getD i ([],[])).2 ks).length):=by
 subst hks;obtain⟨g,L,_,hbx,hs,_⟩:=h.bQ hil;have c0:=hbx.cell 0;simp at c0;have HS:=AQ hs;have hL:=(show _<=1073741824 from Ci (hi.Ed i).1 hB);have hL2:=(show _<=1073741824 from Ci (hi.Ed i).2 hB);clear HS;generalize S.files.getD i ([],[])=f at hs hL hL2⊢;have HS:=AQ hs;have HL:=AQ hL;have HL2:=AQ hL2;have hlk:=(hm.Ho (AZ.refl [] w).drew).look (Ob.Ak ⟨_,_,hbx⟩ (AZ.refl [] w).drew BC);unfold pv KN.v at hlk;have HM:=AQ hm;have HKL:=AQ hkl;clear h hi hbx hs hm hkl hL hL2 hil;have k57:= @ASb;go_enter AM1,Tryz.ntmps56;go_wp2
 go_still_tail 7,Aq
 (go_wp2_with fail);refine (AES g L _ _ _ _ _ _ _ (HS.out.Ak (AZ.refl [] w).drew Ej) HL.out HL2.out (by have h1:=(HM.out.get (EE G.ib i)).1;have h2:=HKL.out;simp at h1;omega) ((HM.out.get (EE G.ib i)).rd.Ak (AZ.refl [] w).drew Ej) _ rfl).mono ?_;rintro e w2 ⟨A,c,rfl,ho,hc2,hn⟩;have HO:=AQ ho;have HC2:Hid (AZ [] w w2):=AQ ((AZ.refl [] w).drew.Ap hc2);have HN:=AQ hn;clear ho hc2 hn;go_wp2;go_ret;exact⟨A,c,rfl,HO.out,HC2.out,HN.out⟩
end
section
variable {kg:KG}{ws:List Nat}{x:Nat}{w:AL}
def AAG (names:Int) (n:Nat):Nat:=min names.toNat n
theorem wE:Ety Af 28 4 1 1 (.bool false):=.mk' AS0 Aq rfl Ar
theorem Zh(hn:(kg.map Aa).Nodup)(x:Nat):(Qq kg).Perm (bo ((BH kg x).getD KN.nil).A++Qq (without kg x)):=by
 cases hx:BH kg x with
 |none=>rw[Jv (En.1 hx)];exact OA _|some r=>
  have h:=VV hn x r;rw[VZ hx] at h;exact h.flatMap_right _
theorem Zi(hn:(kg.map Aa).Nodup)(x:Nat)(r:KN):(Qq (Dk kg x r)).Perm (bo r.A++Qq (without kg x)):=(VV hn x r).flatMap_right _
theorem AHO(kg:KG)(x:Nat)(r:KN):Dk (kgv kg) x r.v=kgv (Dk kg x r):=YK (λr:KN=>r.v) kg x r
theorem Oz.lt{w:AL}{km:Nat}{kg:KG}(h:Oz w km kg): ∀k∈Qq kg,k<w.heap.size:=by
 intro k hk;obtain⟨p,hp,hk⟩:=FI.1 hk;exact (h.row p hp).lt k hk
theorem Oz.put{w':AL}{km:Nat}{r2:KN}(h:Oz w km kg)(hc:AZ (km::bo ((BH kg x).getD KN.nil).A) w w')(ht:Mp w' km pv (Dk (kgv kg) x r2.v))(ho:Own w' 4 1 r2.A r2.n r2.c (kv r2.bs))
  (hA: ∀k∈bo r2.A,k∈bo ((BH kg x).getD KN.nil).A\/w.heap.size<=k) (hx:Ob w' x) (hi: ∀p∈kg,Ob w' p.1) (jo:km∉Qq kg):Oz w' km (Dk kg x r2):=by
 (have hn:(kg.map Aa).Nodup:=by rw[<- U2];exact h.top.nodup);have hp:=Zh hn x;have hnd:=Pj.1 (hp.nodup_iff.1 h.sep);refine⟨by rw[<- AHO];exact ht,λp hpm=>?_,λp hpm=>?_,?_⟩
 ·rcases (Jw hn).1 hpm with rfl|⟨hpm,hpx⟩;exact ho;refine (h.row p hpm).Ak hc (λk hk hm=>?_);have hkw:k∈Qq (without kg x):=FI.2 ⟨p,by unfold without;simp[hpm,hpx],hk⟩;rcases BB.1 hm with rfl|hm;exact jo (hp.mem_iff.2 (Gx _ hkw));exact hnd.2.2 k hm k hkw rfl
 ·rcases (Jw hn).1 hpm with rfl|⟨hpm,_⟩;exact hx;exact hi p hpm
 refine (Zi hn x r2).nodup_iff.2 (Pj.2 ⟨fF _,hnd.2.1,λa ha b hb=>?_⟩);rintro rfl;rcases hA a ha with h1|h1;exact hnd.2.2 a h1 a hb rfl;have:=h.lt a (hp.mem_iff.2 (Gx _ hb));omega
theorem wF(hn:(kg.map Aa).Nodup)(x y:Nat)(r:KN):fQ (Dk kg x r) y=if x=y then r.bs else fQ kg y:=by
 unfold fQ;rw[SH hn];by_cases h:x=y<;>simp[h]
def kI (ws:List Nat) (ks:List Bool) (j x:Nat):List Bool:=(((ws.take j).zipIdx).filter λp=>p.1==x).map λp=>(ks[p.2]?).getD false
theorem AF5(ws:List Nat)(ks:List Bool)(j x:Nat):(kI ws ks j x).length<=j:=by
 unfold kI;rw[DZ];refine Ci (xW _ _) ?_;rw[List.length_zipIdx,Ie];omega
theorem ACK{ks:List Bool}{j y:Nat}(h:ws[j]? =AA y)(x:Nat):kI ws ks (j+1) x=kI ws ks j x++(if y=x then [(ks[j]?).getD false] else []):=by
 unfold kI;have hl:=(DC.1 h).1;rw[take_snoc _ _ _ h,List.zipIdx_append,kK,Em];congr 1;rw[Ie,Je Ad];by_cases hy:y=x<;>simp[hy]
theorem AMD{ib:List Nat}{m:Nat}(hn:ib.Nodup)(hl:ib.length=m)(hw: ∀y∈ws,y<m)(ks:List Bool)(hx:x<m):kI (ws.map (EE ib)) ks ws.length (EE ib x)=(ws.zipIdx.filter λp=>p.1==x).map λp=>(ks[p.2]?).getD false:=by
 unfold kI;rw[FH AV,List.zipIdx_map,xe,Eg]
 have:(ws.zipIdx.filter ((λp:Nat×Nat=>p.1==EE ib x)∘Prod.map (EE ib) id))=ws.zipIdx.filter λp=>p.1==x:=by
  refine kJ λp hp=>?_;have hpw:=hw p.1 (List.fst_mem_of_mem_zipIdx hp);simp only[Function.comp,Prod.map]
  have:(EE ib p.1=EE ib x)↔p.1=x:=⟨λe=>by
   unfold EE at e;rw[GY,GY,CQ Ad,CQ Ad] at e
   exact (List.getElem_inj hn).1 e,λe=>by rw[e]⟩
  by_cases h:p.1=x;rw[h];simp;have h2: ¬EE ib p.1=EE ib x:=λe=>h (this.1 e);exact (beq_eq_false_iff_ne.2 h2).trans (beq_eq_false_iff_ne.2 h).symm
 rw[this];rfl
theorem ACN{G:Bh}{S:St}{B:Nat}(h:EI w G S)(hi:Inv B S)(hB:B<=1073741824)(Ka:Option Addr)(kn kc:Nat)(ks:List Bool)(names:Int)(hKr:Rd w 1 Ka kn kc (kv ks))(hkn:kn<=1073741824):
  A7 Af 16 #[.pointer (AA ⟨G.b,0,AB⟩),.agg #[.slice Ka kn kc,.int .i64 names]] w (bF w (S.left ks names)):=by
 have HF:=AQ h;have HI:=AQ hi;have HB:=AQ hB;have HK:=AQ hKr;(have n1:S.D6.length<=1073741824:=by have:=hi.zh;omega);clear h hi hB hKr;have k54:= @AJh;have k55:= @ANd;go_enter AMe,Tryz.ntmps16;have hbf:=Bl.new w 30 #[.slice Ka kn kc,.int .i64 names];have hcf:AZ [] w (w.alloc (.cells #[.slice Ka kn kc,.int .i64 names] 30)):=(AZ.refl [] w).alloc _;have h1:=(HF.out.CE hcf).blk.cell 1;simp only[GU] at h1;(go_wp2_with fail);obtain⟨fb,hfb⟩: ∃fb,w.heap.size=fb:=⟨_,rfl⟩;obtain⟨W,hW⟩: ∃W,w.alloc (.cells #[.slice Ka kn kc,.int .i64 names] 30)=W:=⟨_,rfl⟩;rw[hfb,hW] at hbf;rw[hW] at hcf;rw[hfb];have hFl:G.g2=G.g2:=rfl;refine (Xd _ G.t2 G.g2 (HF.out.CE ((AZ.refl [] w).alloc _)).tr2).mono ?_;rintro e w1 ⟨ob,g0,rfl,htr,hnew,hc1,hcp⟩;rw[hW] at hc1 hnew;have DI:Hid (AZ [] w w1):=AQ (hcf.Ap hc1);have HFB:=AQ (hbf.Ak hc1 BC);have GR:=AQ (HF.out.CE DI.out);have jl:=AQ htr;have Oy:Hid (∀x∈ET ob g0,w.heap.size<=x):=AQ (λx hx=>Ci hcf.size (hnew x hx));have tY:=AQ hcp;have ACO:Hid (w.heap.size<=fb/\fb<W.heap.size/\∀x∈ET ob g0,fb<x):=AQ ⟨Ad,hbf.lt,λx hx=>by have:=hnew x hx;have:=hbf.lt;omega⟩;have c2:=GR.out.blk.cell 2;have c3:=GR.out.blk.cell 3;have d0:=HFB.out.cell 0;have d1:=HFB.out.cell 1;simp only[GU] at c2 c3 d0 d1;clear hbf hcf h1 hW hfb htr hnew hc1 hcp hFl;obtain⟨kN,hkN⟩: ∃kN,AAG names S.D6.length=kN:=⟨_,rfl⟩;(have hmin:min (max names 0) (S.D6.length:Int)=(kN:Int):=by rw[<- hkN];unfold AAG;omega);(have hkl:kN<=S.D6.length:=by rw[<- hkN];unfold AAG;omega);have hkc:kN<=G.c:=Ci hkl HF.out.own.rd.2.1;have HKN:=AQ hkN;clear hkN;(go_wp2_with fail);refine Ei (S:=λw'=>AZ [] w1 w') Aq ((AZ.refl _ _).drew) (λhHeld=>?_);refine tk 0 ?_;refine tk 1 ?_;refine tk 2 ?_;refine GI 3 (λw' hSw=>hSw.cell c2 BC) ?_;refine tk 4 ?_;refine GI 5 (λw' hSw=>hSw.cell d1 BC) ?_;refine tk 7 ?_;refine tk 8 ?_;refine tk 9 ?_;refine GI 10 (λw' hSw=>hSw.cell c2 BC) ?_;refine tk 11 ?_;refine tk 15 ?_;refine EW 6 λK hK=>?_;go_simp;refine hK.out _ _ (hHeld) (λhHeld=>?_);(try simp only[BF,Bf]);clear hK K;refine EW 12 λK hK=>?_;go_simp;refine hK.out _ _ (hHeld) (λhHeld=>?_);(try simp only[BF,Bf]);clear hK K;refine tk 13 ?_;refine tk 14 ?_;refine Ef Aq ?_ _;(try simp only[BF,Bf]);have HD0:Hid (AZ [] w w1.drew):=AQ (DI.out.drew);clear hHeld hmin hkc d1;go_wp2;go_loopw [7,31] (λ_ q wr=>∃(i:Nat) (g':MX),i<=kN/\q=.int .i64 i/\Tree wr ob g'/\D7 G.ib g' (II S.safe (S.D6.take i))/\(∀x∈ET ob g',fb<x)/\AZ [] w wr/\Bl wr fb 30 #[.slice Ka kn kc,.int .i64 names]) (λ_ q _=>kN - (intOf q).toNat)
 case atStart=>exact⟨0,g0,D5 _,rfl,jl.out.keep (AZ.refl [] w1).drew Ej,HF.out.is2.copied tY.out,ACO.out.2.2,HD0.out,HFB.out.drew⟩
 obtain⟨i,g',hiN,rfl,ht,hti,htn,hch,AN7⟩:=hrel;have HT:=AQ ht;have HTI:=AQ hti;have HTN:=AQ htn;have DY:=AQ hch;have ACP:=AQ AN7;clear ht hti htn hch AN7;by_cases hlt:i<kN
 ·(have hlt':(i:Int)<kN:=by omega);obtain⟨c,hci⟩: ∃c,S.D6[i]? =AA c:=⟨_,CQ Ad⟩;obtain⟨ad,v,hA,hvi,hcell⟩:=HF.out.own.rd.fC (k:=i) Ad;have hcell0:=DY.out.cell hcell BC;have hv:=(HF.out.chn i c v hci hvi).keep DY.out Ej (λ_ h=>h) (λ_ _=>rfl) (Ba _);have hok:=AMC HI.out.D6 hci;have HOK:=AQ hok;have HCI:=AQ hci;have HVL:Hid (Val S.files.length (II S.safe (S.D6.take i))):=AQ (HI.out.safe.run (Ux HI.out.D6 i))
  rw[hA] at*
  clear hcell hvi hok hci;cases c
  case' CX d=>
   obtain⟨k,rfl,hkK,hk⟩:=hv;(go_wp2_with fail);refine (vV HT.out HTI.out HOK.out.2 hk).mono ?_
  case' create d n j=>
   obtain⟨x,k,j2,rfl,hxK,hkK,hjK,hx,hk,hj,hjl⟩:=hv;(go_wp2_with fail);refine (o9 HT.out HTI.out HVL.out HOK.out hx hk hj).mono ?_
  case' rename d n=>
   obtain⟨k,j,rfl,hkK,hjK,hk,hj⟩:=hv;(go_wp2_with fail);refine (pG HT.out HTI.out HOK.out hk hj (λe=>by have h1:=HF.out.lay.lt G.K (Bq (i:=5) rfl) k hkK;have h2:=HTN.out ob (by simp[ET]);have h3:=ACO.out.1;omega) (λe=>by have h1:=HF.out.lay.lt G.K (Bq (i:=5) rfl) j hjK;have h2:=HTN.out ob (by simp[ET]);have h3:=ACO.out.1;omega)).mono ?_
  case' remove d n=>
   obtain⟨k,j,rfl,hkK,hjK,hk,hj⟩:=hv;(go_wp2_with fail);refine (pF HT.out HTI.out HVL.out HOK.out hk hj).mono ?_
  case' rmdir d=>
   obtain⟨k,rfl,hkK,hk⟩:=hv;(go_wp2_with fail);refine (vW HT.out HTI.out hk).mono ?_
  all_goals
   rintro ee w4 ⟨rfl,⟨g2,ht2,hi2,hsub2⟩,jD⟩;have HT2:=AQ ht2;have HI2:=AQ hi2;have HS2:=AQ hsub2;have HC2:=AQ jD;clear ht2 hi2 hsub2 jD;go_wp2;go_roundw
   case rel=>
    have hfl:=ACP.out.lt;refine⟨i+1,g2,Ad,by go_num,HT2.out,by rw[take_snoc _ _ _ HCI.out,SN];exact HI2.out,λx hx=>?_,DY.out.trans HC2.out (λx hx=>.inr (by have:=HTN.out x hx;have:=ACO.out.1;omega)),ACP.out.Ak HC2.out (λhm=>by have:=HTN.out fb hm;omega)⟩;rcases HS2.out x hx with h|h;exact HTN.out x h;omega
   simp[intOf];omega
 (obtain rfl:i=kN:=by omega);have hmm:= @run_makeMap Af;have hw3:=HF.out.fM;obtain⟨km,jo⟩: ∃km,wr.heap.size=km:=⟨_,rfl⟩;obtain⟨W2,hW2⟩: ∃W2,(wr.alloc (.map #[] 0)).alloc (.cells #[.map (AA km)] 120)=W2:=⟨_,rfl⟩;(have hc2:AZ [] wr W2:=by rw[<- hW2];exact ((AZ.refl [] wr).alloc _).alloc _);have c3':=(HF.out.CE (DY.out.Ap hc2)).blk.cell 3;simp only[GU] at c3';have HC2:=AQ hc2;have HKM:Hid (Oz W2 km []):=AQ ⟨by rw[<- hW2,<- jo];exact (Mp.made wr pv).Ak ((AZ.refl [] _).alloc _) BC,AV,AV,by simp[Qq]⟩
 have HKB:Hid (Bl W2 (km+1) 120 #[.map (AA km)]):=AQ (by
  rw[<- hW2];have:=Bl.new (wr.alloc (.map #[] 0)) 120 #[.map (AA km)]
  simpa[jo] using this)
 have Qh:Hid (W2.heap.size=km+2/\wr.heap.size=km):=AQ ⟨by rw[<- hW2];simp[jo],jo⟩;(have hnw:S.wr.length<=1073741824:=by have:=HI.out.nw;have:=HB.out;omega);clear hc2 hw3;go_wp2;have HF2:=AQ (HF.out.CE (DY.out.Ap HC2.out));have HT3:=AQ (HT.out.keep HC2.out Ej);have ATP:=AQ (ACP.out.Ak HC2.out BC);have QT:Hid (AZ [] w W2):=AQ (DY.out.Ap HC2.out);have HLT:Hid (∀x∈ET ob g',x≠km):=AQ (λx hx=>by have:=HT.out.lt x hx;have:=Qh.out;omega)
 have HIS:Hid (∀i,i<S.files.length->Ob W2 (EE G.ib i)/\EE G.ib i≠km):=AQ (λi hi=>by
  obtain⟨gg,LL,_,hbb,_,_,hii⟩:=HF2.out.bQ hi;refine⟨⟨_,_,hbb⟩,?_⟩;have h1:=HF.out.lay.lt G.K (Bq (i:=5) rfl) _ (HF.out.WT _ (Bq hii));have h2:=DY.out.size;have h3:=Qh.out
  omega)
 clear hmm c3' hW2 jo;go_loopw [9,10,45] (λ_ _ q wr=>∃(j:Nat) (kg:KG),j<=S.wr.length/\q=.int .i64 j/\Oz wr km kg/\(∀x,fQ kg x=kI (S.wr.map (EE G.ib)) ks j x)/\AZ [km] W2 wr/\(∀k∈Qq kg,W2.heap.size<=k)/\∀p∈kg,p.1∈S.wr.map (EE G.ib)) (λ_ _ q _=>S.wr.length - (intOf q).toNat)
 case atStart=>exact⟨0,[],D5 _,rfl,HKM.out,λx=>by simp[fQ,kI,BH,KN.nil],AZ.refl _ _,by simp[Qq],AV⟩
 obtain⟨j,kg,hjn,rfl,hkg,hkI,AN8,AKM,AKN⟩:=hrel;have bV:=AQ hkg;have HKI:=AQ hkI;have jq:=AQ AN8;have ACQ:=AQ AKM;have fU:=AQ AKN;clear hkg hkI AN8 AKM AKN;by_cases hjl:j<S.wr.length
 ·(have AN1:(j:Int)<S.wr.length:=by omega);obtain⟨x0,hx0⟩: ∃x0,S.wr[j]? =AA x0:=⟨_,CQ hjl⟩;have AN9:=HI.out.wr x0 (Bq hx0)
  have pz:Hid (∀p v,w.cell? p=AA v->wr.cell? p=AA v):=AQ (λp v hp=>jq.out.cell (QT.out.cell hp BC) (λhm=>by
   simp only[CG] at hm;have h1:=UC w p hp;have h2:=DY.out.size;have h3:=Qh.out
   omega))
  obtain⟨bd,xx,hA2,hxx,hxc⟩:=AAE (xs:=S.wr.map (EE G.ib)) (by have:=HF.out.fM.rd;rw[Eg];exact this) hjl;have ATQ:=pz.out _ _ hxc
  have hxe:xx=EE G.ib x0:=by
   rw[Bg,hx0] at hxx;exact (EF hxx).symm
  subst hxe
  rw[hA2] at*
  have HXX:=AQ hxx;obtain⟨x,hxd⟩: ∃x,EE G.ib x0=x:=⟨_,rfl⟩;have AKO:=AQ (HIS.out x0 AN9);rw[hxd] at ATQ HXX AKO;have HB3:Hid (Ob wr x):=AQ (AKO.out.1.Ak jq.out (by simpa using AKO.out.2));obtain⟨r,hr⟩: ∃r,(BH kg x).getD KN.nil=r:=⟨_,rfl⟩;obtain⟨rA,rn,rc,rb⟩:=r;have HR:=AQ hr;have HOR:Hid (Own wr 4 1 rA rn rc (kv rb)):=AQ (by have:=bV.out.get x;unfold fQ at this;rw[hr] at this;exact this);have HRB:Hid (rb=kI (S.wr.map (EE G.ib)) ks j x):=AQ (by rw[<- HKI.out x];unfold fQ;rw[hr])
  have fV:Hid (∀k∈bo rA,W2.heap.size<=k):=AQ (λk hk=>by
   cases ha:BH kg x with
   |none=>rw[ha] at hr;cases hr;simp at hk|some r0=>
    rw[ha] at hr;simp only[Dt] at hr;subst hr
    exact ACQ.out k (FI.2 ⟨_,CJ ha,hk⟩))
  have hrn:rn<=1073741824:=by
   have h1:=HOR.out.1;simp only[DZ,N8] at h1;have h2:=congrArg List.length HRB.out;have h3:=AF5 (S.wr.map (EE G.ib)) ks j x;omega
  have e0:=ATP.out.Ak jq.out (by have:=Qh.out;have:=ACO.out;have:=ACP.out.lt;simp;omega);have f0:=e0.cell 0;have k0:=(HKB.out.Ak jq.out AV).cell 0
  have AKP:=AQ (show fb∉km::bo rA by
   intro hm;have h2:=ACP.out.lt;have h3:=Qh.out;rcases BB.1 hm with h|h;omega
   have:=fV.out _ h;omega)
  have AF6:=AQ (show km+1∉km::bo rA by
   intro hm;have h3:=Qh.out;rcases BB.1 hm with h|h;omega
   have:=fV.out _ h;omega)
  simp only[GU] at f0 k0;have hlk:=(bV.out.Ho (AZ.refl [] wr).drew).look (HB3.out.Ak (AZ.refl [] wr).drew BC);rw[hr] at hlk;unfold KN.v pv at hlk;simp only at hlk
  have AOA:Hid (∀bb,(PY 120 (.map (AA km)) (.pointer (AA ⟨x,0,AB⟩)) false).run Af (wr.drew.alloc (.cells #[.bool bb] 4))=.ok (.slice rA rn rc) (wr.drew.alloc (.cells #[.bool bb] 4))):=AQ (λbb=>by
   have hc:AZ [] wr (wr.drew.alloc (.cells #[.bool bb] 4)):=((AZ.refl [] wr).drew).alloc _;have:=(bV.out.Ho hc).look (HB3.out.Ak hc BC);rw[HR.out] at this
   exact this)
  clear hx0 AN9 hxc hxx hr e0 hxd
  have wG:Hid (∀y∈S.wr.map (EE G.ib),y<km):=AQ (λy hy=>by
   obtain⟨i2,hi2,rfl⟩:=Bz.1 hy;obtain⟨gg,LL,_,hbb,_,_,hii⟩:=HF.out.bQ (HI.out.wr i2 hi2);have h1:=HF.out.lay.lt G.K (Bq (i:=5) rfl) _ (HF.out.WT _ (Bq hii));have h2:=DY.out.size;have h3:=Qh.out
   omega)
  by_cases hik:j<kn
  ·(have hjk:(j:Int)<kn:=by omega);obtain⟨ka,b,rfl,hkb,AKQ⟩:=ABx HK.out hik;have AME:=pz.out _ _ AKQ;have HKB2:Hid ((ks[j]?).getD false=b):=AQ (by rw[hkb];rfl)
   have ATR:Hid ((ka.add j).block∉km::bo rA):=AQ (λhm=>by
    have h1:=UC w _ AKQ;have h2:=DY.out.size;have h3:=Qh.out;rcases BB.1 hm with h|h;omega
    have:=fV.out _ h;omega)
   clear hkb AKQ;have HOA:Hid (Own (wr.drew.alloc (.cells #[.bool b] 4)) 4 1 rA rn rc (kv rb)):=AQ (HOR.out.Ak (((AZ.refl [] wr).drew).alloc _) Ej);have hlk2:(PY 120 (.map (AA km)) (.pointer (AA ⟨x,0,AB⟩)) false).run Af ((wr.alloc (.cells #[.bool b] 4)).drew)=.ok (.slice rA rn rc) ((wr.alloc (.cells #[.bool b] 4)).drew):=AOA.out b;go_wp2;refine Ei (S:=λw'=>AZ (km::bo rA) wr w') Aq ((AZ.refl _ _).drew) (λhHeld=>?_);refine GI 0 (λw' hSw=>hSw.cell k0 AF6.out) ?_;refine tk 1 ?_;refine GI 2 (λw' hSw=>hSw.cell k0 AF6.out) ?_;refine tk 3 ?_;refine tk 5 ?_;refine tk 6 ?_;refine GI 7 (λw' hSw=>hSw.cell f0 AKP.out) ?_;refine tk 8 ?_;refine tk 9 ?_;refine tk 10 ?_;refine tk 11 ?_;refine GI 12 (λw' hSw=>hSw.cell f0 AKP.out) ?_;refine tk 13 ?_;refine tk 14 ?_;refine GI 15 (λw' hSw=>hSw.cell AME ATR.out) ?_;refine tk 16 ?_;refine Oo (rs:=[4,17]) Aq AV ?_;refine Gh rfl (λK hK=>?a9) (Gh rfl (λK hK=>?b9) (Oq))
   case' a9=>
    go_simp;refine hK.out _ _ (hHeld) (λhHeld=>?_);(try simp only[BF,Bf]);clear hK K;refine EW 17 λK hK=>?_;go_simp;refine hK.out _ _ (hHeld.alloc _) (λhHeld=>?_)
   case' b9=>
    go_simp;refine hK.out _ _ (hHeld.alloc _) (λhHeld=>?_);(try simp only[BF,Bf]);clear hK K;refine EW 4 λK hK=>?_;go_simp;refine hK.out _ _ (hHeld) (λhHeld=>?_)
   all_goals
    (try simp only[BF,Bf]);clear hK K;refine EW 18 λK hK=>?_;refine JU rfl _ _ rfl wE rfl HOA.out rfl (Own.lit wr.drew 4 1 #[.bool b] 1 Ar rfl).rd (by simp[UD]) Qv Ad ?_;intro A2 c2 w6 hown6 IE LH _;have JE:Hid (AZ (bo rA) wr w6):=AQ ((((AZ.refl [] wr).drew.alloc (.cells #[.bool b] 4)).nil (bo rA)).trans IE (λx hx=>.inl hx));have HLR:Hid (∀y∈S.wr.map (EE G.ib),y∉bo rA):=AQ (λy hy hm=>by have h1:=wG.out y hy;have h2:=fV.out y hm;have h3:=Qh.out;omega);have jr:Hid (Ob w6 x/\∀p∈kg,Ob w6 p.1):=AQ ⟨HB3.out.Ak JE.out (HLR.out x (Bq HXX.out)),λp hp=>(bV.out.isb p hp).Ak JE.out (HLR.out p.1 (fU.out p hp))⟩;obtain⟨w7,hu,ACR,jv⟩:=Mp.fD (bV.out.top.Ak JE.out (λhm=>by have h1:=fV.out _ hm;have h2:=Qh.out;omega)) (t:=120) x (Zg jr.out.1 (λk hk=>by rw[U2] at hk;obtain⟨p,hp,rfl⟩:=Bz.1 hk;exact jr.out.2 p hp)) AEL (.slice A2 (rn+1) c2);unfold pv at hu;have qA:=AQ hown6;have Vf:=AQ LH;have HM7:=AQ ACR;have Oc:=AQ jv;have hH6:=hHeld.trans IE (λx hx=>.inl (CO _ hx));have hH7:=hH6.trans jv (λx hx=>.inl (by simp only[CG] at hx;subst hx;simp));clear hown6 IE LH ACR jv;refine hK.out _ _ (hH6) (λhHeld=>?_);(try simp only[BF,Bf]);clear hK K;refine EW 19 λK hK=>?_;go_simp;refine hK.out _ _ (hH7) (λhHeld=>?_);(try simp only[BF,Bf]);clear hK K;refine Ef Aq ?_ _;(try simp only[BF,Bf]);have ACS:Hid (AZ (km::bo rA) wr w7):=AQ ((JE.out.mono (λx hx=>.inl (CO _ hx))).trans Oc.out (λx hx=>.inl (by simp only[CG] at hx;subst hx;simp)));clear hHeld hH6 hH7 hu hlk hlk2 f0 k0;go_wp2;go_roundw
    case rel=>
     (have AKR:km∉Qq kg:=λhm=>by have h1:=ACQ.out km hm;have h2:=Qh.out;omega);have ATS:wr.heap.size<=w6.heap.size:=JE.out.size
     have hput:=bV.out.put (x:=x) (r2:=⟨A2,rn+1,c2,rb++[b]⟩) (w':=w7) (by rw[HR.out];exact ACS.out) HM7.out (by
      have h1:=qA.out.Ak Oc.out (λk hk hm=>by
       simp only[CG] at hm;subst hm;rcases Vf.out _ hk with h|h;have h1:=fV.out _ h;have h2:=Qh.out;omega
       have h1:=bV.out.top.lt;simp at h;omega)
      simp only[Em,BK,EG]
      exact h1) (λk hk=>by rw[HR.out];rcases Vf.out k hk with h|h;exact .inl h;right;simp at h;omega) (jr.out.1.Ak Oc.out (by have h1:=wG.out x (Bq HXX.out);simp;omega)) (λp hp=>(jr.out.2 p hp).Ak Oc.out (by have h1:=wG.out p.1 (fU.out p hp);simp;omega)) AKR
     (have hn:(kg.map Aa).Nodup:=by rw[<- U2];exact bV.out.top.nodup);refine⟨j+1,Dk kg x ⟨A2,rn+1,c2,rb++[b]⟩,Ad,by go_num,hput,λy=>?_,?_,λk hk=>?_,λp hp=>?_⟩
     ·rw[wF hn,ACK HXX.out,HKB2.out];by_cases hxy:x=y
      ·subst hxy;simp[HRB.out]
      simp[hxy,HKI.out y]
     ·refine jq.out.trans ACS.out (λk hk=>?_);rcases BB.1 hk with rfl|hk;left;simp;exact .inr (fV.out k hk)
     ·rcases Be.1 ((Zi hn x _).mem_iff.1 hk) with h|h
      ·rcases Vf.out k h with h|h;exact fV.out k h;have h1:=jq.out.size;simp at h;omega
      have:k∈Qq kg:=(Zh hn x).mem_iff.2 (Gx _ h);exact ACQ.out k this
     rcases (Jw hn).1 hp with rfl|⟨hp,_⟩;exact Bq HXX.out;exact fU.out p hp
    simp[intOf];omega
  have hjk: ¬(j:Int)<kn:=by omega
  have HKB2:Hid ((ks[j]?).getD false=false):=AQ (by
   have h1:=HK.out.1;simp only[DZ,N8] at h1
   rw[H8 Ad];rfl)
  have HOA:Hid (Own (wr.drew.alloc (.cells #[.bool false] 4)) 4 1 rA rn rc (kv rb)):=AQ (HOR.out.Ak (((AZ.refl [] wr).drew).alloc _) Ej);have hlk2:(PY 120 (.map (AA km)) (.pointer (AA ⟨x,0,AB⟩)) false).run Af ((wr.alloc (.cells #[.bool false] 4)).drew)=.ok (.slice rA rn rc) ((wr.alloc (.cells #[.bool false] 4)).drew):=AOA.out false;go_wp2;refine Ei (S:=λw'=>AZ (km::bo rA) wr w') Aq ((AZ.refl _ _).drew) (λhHeld=>?_);refine GI 0 (λw' hSw=>hSw.cell k0 AF6.out) ?_;refine tk 1 ?_;refine GI 2 (λw' hSw=>hSw.cell k0 AF6.out) ?_;refine tk 3 ?_;refine tk 5 ?_;refine tk 6 ?_;refine GI 7 (λw' hSw=>hSw.cell f0 AKP.out) ?_;refine tk 8 ?_;refine tk 9 ?_;refine tk 10 ?_;refine tk 11 ?_;refine tk 12 ?_;refine tk 13 ?_;refine tk 14 ?_;refine tk 15 ?_;refine tk 16 ?_;refine Oo (rs:=[4,17]) Aq AV ?_;refine Gh rfl (λK hK=>?a10) (Gh rfl (λK hK=>?b10) (Oq))
  case' a10=>
   go_simp;refine hK.out _ _ (hHeld) (λhHeld=>?_);(try simp only[BF,Bf]);clear hK K;refine EW 17 λK hK=>?_;go_simp;refine hK.out _ _ (hHeld.alloc _) (λhHeld=>?_)
  case' b10=>
   go_simp;refine hK.out _ _ (hHeld.alloc _) (λhHeld=>?_);(try simp only[BF,Bf]);clear hK K;refine EW 4 λK hK=>?_;go_simp;refine hK.out _ _ (hHeld) (λhHeld=>?_)
  all_goals
   (try simp only[BF,Bf]);clear hK K;refine EW 18 λK hK=>?_;refine JU rfl _ _ rfl wE rfl HOA.out rfl (Own.lit wr.drew 4 1 #[.bool false] 1 Ar rfl).rd (by simp[UD]) Qv Ad ?_;intro A2 c2 w6 hown6 IE LH _;have JE:Hid (AZ (bo rA) wr w6):=AQ ((((AZ.refl [] wr).drew.alloc (.cells #[.bool false] 4)).nil (bo rA)).trans IE (λx hx=>.inl hx));have HLR:Hid (∀y∈S.wr.map (EE G.ib),y∉bo rA):=AQ (λy hy hm=>by have h1:=wG.out y hy;have h2:=fV.out y hm;have h3:=Qh.out;omega);have jr:Hid (Ob w6 x/\∀p∈kg,Ob w6 p.1):=AQ ⟨HB3.out.Ak JE.out (HLR.out x (Bq HXX.out)),λp hp=>(bV.out.isb p hp).Ak JE.out (HLR.out p.1 (fU.out p hp))⟩;obtain⟨w7,hu,ACR,jv⟩:=Mp.fD (bV.out.top.Ak JE.out (λhm=>by have h1:=fV.out _ hm;have h2:=Qh.out;omega)) (t:=120) x (Zg jr.out.1 (λk hk=>by rw[U2] at hk;obtain⟨p,hp,rfl⟩:=Bz.1 hk;exact jr.out.2 p hp)) AEL (.slice A2 (rn+1) c2);unfold pv at hu;have qA:=AQ hown6;have Vf:=AQ LH;have HM7:=AQ ACR;have Oc:=AQ jv;have hH6:=hHeld.trans IE (λx hx=>.inl (CO _ hx));have hH7:=hH6.trans jv (λx hx=>.inl (by simp only[CG] at hx;subst hx;simp));clear hown6 IE LH ACR jv;refine hK.out _ _ (hH6) (λhHeld=>?_);(try simp only[BF,Bf]);clear hK K;refine EW 19 λK hK=>?_;go_simp;refine hK.out _ _ (hH7) (λhHeld=>?_);(try simp only[BF,Bf]);clear hK K;refine Ef Aq ?_ _;(try simp only[BF,Bf]);have ACS:Hid (AZ (km::bo rA) wr w7):=AQ ((JE.out.mono (λx hx=>.inl (CO _ hx))).trans Oc.out (λx hx=>.inl (by simp only[CG] at hx;subst hx;simp)));clear hHeld hH6 hH7 hu hlk hlk2 f0 k0;go_wp2;go_roundw
   case rel=>
    (have AKR:km∉Qq kg:=λhm=>by have h1:=ACQ.out km hm;have h2:=Qh.out;omega);have ATS:wr.heap.size<=w6.heap.size:=JE.out.size
    have hput:=bV.out.put (x:=x) (r2:=⟨A2,rn+1,c2,rb++[false]⟩) (w':=w7) (by rw[HR.out];exact ACS.out) HM7.out (by
     have h1:=qA.out.Ak Oc.out (λk hk hm=>by
      simp only[CG] at hm;subst hm;rcases Vf.out _ hk with h|h;have h1:=fV.out _ h;have h2:=Qh.out;omega
      have h1:=bV.out.top.lt;simp at h;omega)
     simp only[Em,BK,EG]
     exact h1) (λk hk=>by rw[HR.out];rcases Vf.out k hk with h|h;exact .inl h;right;simp at h;omega) (jr.out.1.Ak Oc.out (by have h1:=wG.out x (Bq HXX.out);simp;omega)) (λp hp=>(jr.out.2 p hp).Ak Oc.out (by have h1:=wG.out p.1 (fU.out p hp);simp;omega)) AKR
    (have hn:(kg.map Aa).Nodup:=by rw[<- U2];exact bV.out.top.nodup);refine⟨j+1,Dk kg x ⟨A2,rn+1,c2,rb++[false]⟩,Ad,by go_num,hput,λy=>?_,?_,λk hk=>?_,λp hp=>?_⟩
    ·rw[wF hn,ACK HXX.out,HKB2.out];by_cases hxy:x=y
     ·subst hxy;simp[HRB.out]
     simp[hxy,HKI.out y]
    ·refine jq.out.trans ACS.out (λk hk=>?_);rcases BB.1 hk with rfl|hk;left;simp;exact .inr (fV.out k hk)
    ·rcases Be.1 ((Zi hn x _).mem_iff.1 hk) with h|h
     ·rcases Vf.out k h with h|h;exact fV.out k h;have h1:=jq.out.size;simp at h;omega
     have:k∈Qq kg:=(Zh hn x).mem_iff.2 (Gx _ h);exact ACQ.out k this
    rcases (Jw hn).1 hp with rfl|⟨hp,_⟩;exact Bq HXX.out;exact fU.out p hp
   simp[intOf];omega
 (obtain rfl:j=S.wr.length:=by omega);have HKW:Hid (w.heap.size<=km):=AQ (by have h1:=DY.out.size;have h2:=Qh.out;omega);have HCE:Hid (AZ [] w wr):=AQ (QT.out.trans jq.out (λx hx=>by simp only[CG] at hx;subst hx;exact .inr HKW.out))
 have HFE:=AQ (HF2.out.keep jq.out (λx hx hm=>by
  simp only[CG] at hm;have h1:=HF.out.lt x hx;have h2:=HKW.out
  omega))
 have HKE:=AQ (HKB.out.Ak jq.out AV);have HTE:=AQ (HT3.out.keep jq.out (λx hx hm=>HLT.out x hx (by simpa using hm)));have HVE:Hid (Val S.files.length (II S.safe (S.D6.take i))):=AQ (HI.out.safe.run (Ux HI.out.D6 i))
 have HWE:Hid (wd (II S.safe (S.D6.take i))<=1073741824):=AQ (by
  have h1:=zg (Ux HI.out.D6 i);have h2:=HI.out.zh;have h3:=HB.out;rw[Ie] at h1
  omega)
 have ATT:Hid (∀x,x<S.files.length->fQ kg (EE G.ib x)=S.keep ks x):=AQ (λx hx=>by rw[HKI.out];exact AMD HF.out.Zc HF.out.Qe HI.out.wr ks hx)
 have HKL:Hid (∀x,x<S.files.length->(fQ kg (EE G.ib x)).length<=1073741824):=AQ (λx hx=>by
  rw[HKI.out]
  exact Ci (AF5 _ _ _ _) hnw)
 clear hjn;(go_wp2_with fail);refine (wC 56 #[_] @ASa wr ob g' G.ib (II S.safe (S.D6.take i)) S.files.length (S.after ks) HTE.out HTI.out HVE.out HWE.out (λx hx wr2 hc2=>?_)).mono ?_
 ·have hce:=(HKE.out.Ak hc2 BC).cell 0;exact AHN (HFE.out.CE hc2) HI.out HB.out hx (km+1) km kg (by simpa using hce) (bV.out.Ho hc2) (HKL.out x hx) _ (ATT.out x hx)
 rintro e w9 ⟨A,n,c,ds,rfl,hds,hv,Yi,hn⟩;have HDS:=AQ hds;have HV:=AQ hv;have Xi:=AQ Yi;have HN:=AQ hn;clear hds hv Yi hn;go_wp2;go_ret;refine⟨A,n,c,ds,rfl,HDS.out,?_,HCE.out.Ap Xi.out,λk hk=>Ci HCE.out.size (HN.out k hk)⟩;rw[HV.out];unfold shows St.left
 have ht:S.D6.take i=S.D6.take names.toNat:=by
  rw[<- HKN.out];unfold AAG;rcases ADJ names.toNat S.D6.length with h|h;rw[Je h];rw[Nat.min_eq_right h,xY,FH h]
 rw[ht]
end
end Go.Proofs.YtkkgcebhfghdnaaGreatDoor.Vw
