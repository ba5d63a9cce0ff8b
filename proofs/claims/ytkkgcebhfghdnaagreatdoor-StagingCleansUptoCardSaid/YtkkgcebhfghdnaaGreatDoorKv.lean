/- Part 22 of what that rests on; no condition. -/
import Derived.Test.YtkkgcebhfghdnaaGreatDoorKu
set_option maxRecDepth 100000
set_option maxHeartbeats 8000000
namespace Go.Proofs.YtkkgcebhfghdnaaGreatDoor.Vw
open Go.RowKit
def shows (β:Nat->List Int) (T:Tr):He:=T.map λp=>(p.1,p.2.map λq=>(q.1,β q.2))
theorem AEK{w:World}{A:Option Addr}{n c:Nat}{ns:List ByteArray}(h:Own w 9 1 A n c (Oi ns)){j:Nat}(hj:j<n):
  ∃ad s,A=some ad/\ns[j]? =some s/\w.cell? (ad.add j)=some (.string s):=wS h.rd hj
theorem AAt{β:Nat->List Int}{T:Tr}{i:Nat}{p:ByteArray×Qi}(h:T[i]? =some p):shows β (T.take (i+1))=shows β (T.take i)++[(p.1,p.2.map λq=>(q.1,β q.2))]:=by
 rw[take_snoc _ _ _ h];simp[shows]
theorem AAu(ds:List DM)(x:DM):BG (ds++[x])=BG ds++[(x.1.nm,BI x.2)]:=by simp[BG]
theorem AAv(fs:List FM)(x:FM):BI (fs++[x])=BI fs++[(x.1.nm,x.2)]:=by simp[BI]
theorem tK(X:FuncId)(cp:Array Value)(hcf: ∀(p:Array Value) (w:World),(callFunc X p).run Ae w=.ok (.enter X p) w)(w:World)(tb:Nat)(g:MJ)(ib:List Nat)(T:Tr)(m:Nat)(β:Nat->List Int)(ht:Tree w tb g)(hi:D5 ib g T)(hv:Val m T)(hw:wd T<=1073741824)
  (hcall: ∀i,i<m->∀wr,AZ [] w wr->Calls Ae X (#[.pointer (some ⟨EC ib i,0,none⟩)]++cp) wr (Ko 5 1 wr (bv (β i)) (β i).length)):
  Calls Ae 55 #[.map (some tb),.func (.func X) #[] cp] w (Xd w (shows β T)):=by
 have HT:=AQ ht;have HI:=AQ hi;have HV:=AQ hv;have HW:=AQ hw;have Tf:=AQ hcall;(have hTl:T.length<=1073741824:=by have:=wW T;omega);clear ht hi hv hw hcall;have k87:= @AHl;have k88:= @ALP;have k89:= @ALQ;go_enter AKn,Tryz.ntmps55;(go_wp2_with fail);refine (lV (some tb) w).mono ?_;rintro e w2 ⟨rfl,hw2⟩;have HW2:=AQ hw2;clear hw2;(go_wp2_with fail);rw[HW2.out];refine (YO HT.out HI.out HV.out hTl rfl).mono ?_;rintro e w3 ⟨NA,nc,rfl,hno,hc3,hn3⟩;have HNO:=AQ hno;have GV:=AQ hc3;obtain⟨TN,hTN⟩: ∃TN,T.length=TN:=⟨_,rfl⟩;rw[hTN] at HNO hTl⊢;clear hno hc3 hn3;go_wp2;go_loopw [4,6,7,9,14,26] (λo _ _ _ q _ wr=>∃(i:Nat) (A:Option Addr) (c:Nat) (ds:List DM),i<=TN/\q=.int .i64 i/\o=.slice A i c/\JU wr A i c ds/\BG ds=shows β (T.take i)/\AZ [] w3 wr/\∀k∈bo A++Nv ds,w.heap.size<=k/\w3.heap.size<=k) (λ_ _ _ _ q _ _=>TN - (intOf q).toNat)
 case atStart=>exact⟨0,none,0,[],BP _,rfl,rfl,⟨Own.nil _ _ _,AY,by simp[Nv]⟩,rfl,AZ.refl _ _,by simp[Nv]⟩
 obtain⟨i,A,c,ds,hiT,rfl,rfl,hds,hval,hch,hnew⟩:=hrel;have O4:=AQ hds;have XC:=AQ hval;have Dc:=AQ hch;have OL:=AQ hnew;clear hds hval hch hnew;by_cases hlt:i<TN
 ·(have hlt':(i:Int)<TN:=by omega);obtain⟨ad,nmx,rfl,hnm,hcell⟩:=AEK (HNO.out.Am Dc.out EY) hlt;obtain⟨p,hp⟩: ∃p,T[i]? =some p:=⟨_,Af Ac⟩
  have hpn:p.1=nmx:=by
   rw[AV,hp] at hnm;exact BQ hnm
  subst hpn;have hpm:=Aa hp;have hFT:BJ T p.1=some p.2:=KH HV.out.Vu.nodup hpm;obtain⟨e,he,hsub⟩:=HI.out.get hFT;have DC:Hid (AZ [] w wr):=AQ (GV.out.Aq Dc.out);have hTr:=HT.out.keep DC.out EY;have hl:=λo=>(Mp.lookup ((hTr.top).Am ((AZ.refl [] wr).alloc o) AB) (Cm J4) IZ (z:=.map none) Ap p.1).1;simp only[EZ,he,Option.map_some,Option.getD_some] at hl;have HP:=AQ hp;have HPM:=AQ hpm;have HE:=AQ (CP he);have Vh:=AQ hsub;have HFL:Hid (p.2.length<=1073741824):=AQ (by have:=wX hpm;have:=HW.out;omega);clear hnm hp hpm hFT he hsub hTr;(go_wp2_with fail);obtain⟨db,hdb⟩: ∃db,wr.heap.size=db:=⟨_,rfl⟩;obtain⟨W,hWn⟩: ∃W,W=wr.alloc (.cells #[.string p.1,.slice none 0 0] 77):=⟨_,rfl⟩;(have hbW:Bo W db 77 #[.string p.1,.slice none 0 0]:=by rw[hWn,<- hdb];exact Bo.new wr _ _);(have hcW:AZ [] wr W:=by rw[hWn];exact (AZ.refl _ _).alloc _);rw[<- hWn];have X4:=AQ hbW;have Pz:=AQ hcW;have HDB:Hid (wr.heap.size<=db):=AQ Ac;rw[hdb];clear hbW hcW hWn hl hcell;refine (lW (some e.1) W).mono ?_;rintro ee w4 ⟨rfl,hw4⟩;have X5:=AQ hw4;clear hw4;(go_wp2_with fail);rw[X5.out];have hfm:=(HT.out.sub _ HE.out).Am (DC.out.Aq Pz.out) AB;refine (YP hfm Vh.out (HV.out.sub _ HPM.out) (HV.out.Rl _ HPM.out) HFL.out rfl).mono ?_;rintro ee w5 ⟨NB,nd,rfl,ALi,hc5,hn5⟩;have ALj:=AQ ALi;have Ql:=AQ hc5;have Sz:=AQ hn5;have jQ:=AQ hfm;obtain⟨FN,hFN⟩: ∃FN,p.2.length=FN:=⟨_,rfl⟩;have hFl:=HFL.out;rw[hFN] at ALj hFl⊢;have iP:=AQ (X4.out.Am hc5 AB);have HAB:Hid (∀k∈bo A++Nv ds,k<db):=AQ (λk hk=>by have:=O4.out.lt k hk;have:=HDB.out;omega);have AQs:=AQ ((O4.out.Am Pz.out EY).Am hc5 EY);have xP:Hid (db<W.heap.size/\W.heap.size<=w5.heap.size):=AQ ⟨X4.out.lt,hc5.size⟩;have XD:=AQ hFN;clear ALi hc5 hn5 hfm hdb hFN;go_wp2;go_loopw [9,26] (λ_ q wj=>∃(j:Nat) (B:Option Addr) (d:Nat) (fs:List FM),j<=FN/\q=.int .i64 j/\Bo wj db 77 #[.string p.1,.slice B j d]/\Gw wj B j d fs/\BI fs=(p.2.take j).map (λq=>(q.1,β q.2))/\AZ [db] w5 wj/\∀k∈bo B++GZ fs,w5.heap.size<=k) (λ_ q _=>FN - (intOf q).toNat)
  case atStart=>exact⟨0,none,0,[],BP _,rfl,iP.out,⟨Own.nil _ _ _,AY,by simp[GZ]⟩,rfl,AZ.refl _ _,by simp[GZ]⟩
  obtain⟨j,B,d,fs,hjF,rfl,hbj,hfs,hfv,hcj,hnj⟩:=hrel;have HBJ:=AQ hbj;have O5:=AQ hfs;have HFV:=AQ hfv;have PG:=AQ hcj;have PH:=AQ hnj;have x1:=hbj.cell 1;have x0:=hbj.cell 0;have f1:=hbj.frozen 1;simp at x1 x0;clear hbj hfs hfv hcj hnj;by_cases hjl:j<FN
  ·have ALk:(j:Int)<FN:=by omega
   have ALl: ∀k∈bo NB,k∉[db]:=λk hk hm=>by
    simp only[Ad] at hm;have h1:=Sz.out k hk;have h2:=xP.out.1;omega
   obtain⟨bd,qn,rfl,jo,hqc⟩:=AEK (ALj.out.Am PG.out ALl) hjl
   obtain⟨q,hq⟩: ∃q,p.2[j]? =some q:=by
    rw[AV] at jo
    cases hh:p.2[j]? with|none=>rw[hh] at jo;cases jo|some q=>exact⟨q,rfl⟩
   have hqq:q.1=qn:=by
    rw[AV,hq] at jo;exact BQ jo
   subst hqq;have hqm:=Aa hq;have Xz:Rw p.2:=HV.out.sub _ HPM.out;have hid:=HV.out.ids _ HPM.out _ hqm;(have hge:BJ e.2 q.1=some (EC ib q.2):=by rw[Vh.out,KH Xz.nodup hqm];rfl);have ALm:Hid (AZ [] w w5):=AQ ((DC.out.Aq Pz.out).Aq Ql.out);have mZ:Hid (AZ [] w wr):=AQ (ALm.out.trans PG.out (λx hx=>by simp only[Ad] at hx;subst hx;right;have h1:=HDB.out;have h2:=DC.out.size;omega));have hTj:=HT.out.keep mZ.out EY;have hlA:=(Mp.lookup (hTj.top.Am (AZ.refl [] wr).drew AB) (Cm J4) IZ (z:=.map none) Ap p.1).1;have hlB:=(Mp.lookup ((hTj.sub _ HE.out).Am (AZ.refl [] wr).drew AB) (Cm J4) Oc (z:=.pointer none) Ap q.1).1;simp only[EZ,KH HT.out.nodup HE.out,Option.map_some,Option.getD_some] at hlA;simp only[U2,hge,Option.map_some,Option.getD_some] at hlB;have HQ:=AQ hq;have HID:=AQ hid;have HGE:=AQ hge;clear jo hq hqm Xz hid hge ALl;have HTJ:Hid (Tree wr tb g):=AQ (HT.out.keep mZ.out EY)
   have Lh:Hid (∀x∈db::bo B,w.heap.size<=x):=AQ (λx hx=>by
    have h1:=HDB.out;have h2:=DC.out.size;have h3:=ALm.out.size;rcases AA.1 hx with rfl|hx;omega
    have:=PH.out x (Bh _ hx);omega)
   have HTB:Hid (tb∉db::bo B/\e.1∉db::bo B):=AQ ⟨λhm=>by have h1:=Lh.out _ hm;have h2:=HT.out.top.lt;omega,λhm=>by have h1:=Lh.out _ hm;have h2:e.1<w.heap.size:=(HT.out.sub _ HE.out).lt;omega⟩;have HLA:Hid (BJ (Ef g) p.1=some (.map (some e.1))):=AQ (by rw[EZ,KH HT.out.nodup HE.out];rfl);have HLB:Hid (BJ (IU e.2) q.1=some (.pointer (some ⟨EC ib q.2,0,none⟩))):=AQ (by rw[U2,HGE.out];rfl);have AQt:Hid (db∉bo B):=AQ (λhm=>by have:=PH.out db (Bh _ hm);have:=xP.out;omega);(have ASF:j<=1073741824:=by omega);clear hlA hlB hTj;go_wp2;refine wp_region_held_drew (S:=λw'=>AZ (db::bo B) wr w') Ap ((AZ.refl _ _).drew) (λhHeld=>?_);refine tk 0 ?_;refine tk 2 ?_;refine tk 3 ?_;refine tk 4 ?_;refine tk 5 ?_;refine wpAnyH_take (i:=6) (v:=?_) rfl Ap Ap Ap (λ_ _ _ h=>h) (Or.inl ⟨by rfl,?_⟩) (by assumption) ?_;rotate_left
   ·(intro w' hSw;have y:=(Mp.lookup (HTJ.out.top.Am hSw HTB.out.1) (Cm J4) IZ (z:=.map none) Ap p.1).1;rw[HLA.out] at y;simp only[Option.getD_some] at y;go_simp;try with_reducible rfl)
   (try simp only[Act.put,Be]);refine tk 7 ?_;refine wpAnyH_take (i:=8) (v:=?_) rfl Ap Ap Ap (λ_ _ _ h=>h) (Or.inl ⟨by rfl,?_⟩) (by assumption) ?_;rotate_left
   ·(intro w' hSw;have y:=(Mp.lookup ((HTJ.out.sub _ HE.out).Am hSw HTB.out.2) (Cm J4) Oc (z:=.pointer none) Ap q.1).1;rw[HLB.out] at y;simp only[Option.getD_some] at y;go_simp;try with_reducible rfl)
   (try simp only[Act.put,Be]);refine wpAnyH_ready (rs:=[1,9]) Ap AY ?_;refine AllReadyH.cons rfl (λK hK=>?a5) (AllReadyH.cons rfl (λK hK=>?b5) (AllReadyH.nil))
   case' a5=>
    go_simp;refine hK.out _ _ (hHeld) (λhHeld=>?_);(try simp only[Act.put,Be]);clear hK K;refine Ee 9 λK hK=>?_;go_simp;refine (Tf.out q.2 HID.out _ (mZ.out.trans hHeld (λx hx=>.inr (Lh.out x hx)))).mono ?_;rintro ee w4 ⟨BA,bc,rfl,Yh,hc4,hn4⟩;have y1:w4.cell? ⟨db,1,none⟩=some (.slice B j d):=hc4.cell (by simpa using x1) AB;have qH:=AQ Yh;have MK:=AQ hc4;have X6:=AQ hn4;have hHc:=hHeld.Aq hc4;have ALn:Hid (Own (w4.alloc (.cells #[.string q.1,.slice BA (β q.2).length bc] 64)) 64 2 B j d (Iw (Fe fs))):=AQ (O5.out.row.Am ((((AZ.refl [] wr).drew).Aq hc4).alloc _) EY);have AEL:Hid (Bo (w4.alloc (.cells #[.string q.1,.slice BA (β q.2).length bc] 64)) db 77 #[.string p.1,.slice B j d]):=AQ (HBJ.out.Am ((((AZ.refl [] wr).drew).Aq hc4).alloc _) AB);have V3:Hid (AZ [] wr (w4.alloc (.cells #[.string q.1,.slice BA (β q.2).length bc] 64))):=AQ ((((AZ.refl [] wr).drew).Aq hc4).alloc _);have y1a:(w4.alloc (.cells #[.string q.1,.slice BA (β q.2).length bc] 64)).cell? ⟨db,1,none⟩=some (.slice B j d):=AEL.out.cell 1;clear Yh hn4;refine hK.out _ _ (hHc) (λhHeld=>?_);(try simp only[Act.put,Be]);clear hK K;refine tk 10 ?_;refine Ee 11 λK hK=>?_;go_simp;refine hK.out _ _ (hHeld.alloc _) (λhHeld=>?_)
   case' b5=>
    go_simp;refine (Tf.out q.2 HID.out _ (mZ.out.trans hHeld (λx hx=>.inr (Lh.out x hx)))).mono ?_;rintro ee w4 ⟨BA,bc,rfl,Yh,hc4,hn4⟩;have y1:w4.cell? ⟨db,1,none⟩=some (.slice B j d):=hc4.cell (by simpa using x1) AB;have qH:=AQ Yh;have MK:=AQ hc4;have X6:=AQ hn4;have hHc:=hHeld.Aq hc4;have ALn:Hid (Own (w4.alloc (.cells #[.string q.1,.slice BA (β q.2).length bc] 64)) 64 2 B j d (Iw (Fe fs))):=AQ (O5.out.row.Am ((((AZ.refl [] wr).drew).Aq hc4).alloc _) EY);have AEL:Hid (Bo (w4.alloc (.cells #[.string q.1,.slice BA (β q.2).length bc] 64)) db 77 #[.string p.1,.slice B j d]):=AQ (HBJ.out.Am ((((AZ.refl [] wr).drew).Aq hc4).alloc _) AB);have V3:Hid (AZ [] wr (w4.alloc (.cells #[.string q.1,.slice BA (β q.2).length bc] 64))):=AQ ((((AZ.refl [] wr).drew).Aq hc4).alloc _);have y1a:(w4.alloc (.cells #[.string q.1,.slice BA (β q.2).length bc] 64)).cell? ⟨db,1,none⟩=some (.slice B j d):=AEL.out.cell 1;clear Yh hn4;refine hK.out _ _ (hHc) (λhHeld=>?_);(try simp only[Act.put,Be]);clear hK K;refine tk 10 ?_;refine wpAnyH_ready (rs:=[1,11]) Ap AY ?_;refine AllReadyH.cons rfl (λK hK=>?a6) (AllReadyH.cons rfl (λK hK=>?b6) (AllReadyH.nil))
    case' a6=>
     go_simp;refine hK.out _ _ (hHeld) (λhHeld=>?_);(try simp only[Act.put,Be]);clear hK K;refine Ee 11 λK hK=>?_;go_simp;refine hK.out _ _ (hHeld.alloc _) (λhHeld=>?_)
    case' b6=>
     go_simp;refine hK.out _ _ (hHeld.alloc _) (λhHeld=>?_);(try simp only[Act.put,Be]);clear hK K;refine Ee 1 λK hK=>?_;go_simp;refine hK.out _ _ (hHeld) (λhHeld=>?_)
   all_goals
    (try simp only[Act.put,Be]);clear hK K;refine Ee 12 λK hK=>?_;refine JE rfl _ _ rfl sH rfl ALn.out rfl (Own.lit w4 64 2 #[.string q.1,.slice BA (β q.2).length bc] 1 Az rfl).rd (UO [⟨q.1,BA,(β q.2).length,bc⟩]) (by unfold maxLen;omega) Ac ?_;intro A2 c2 w6 hown6 Hq KI _;have Rx:=AQ (AEL.out.Am Hq AQt.out);have y6:=Rx.out.cell 1;have f6:=Rx.out.frozen 1;simp at y6;have mg:=AQ hown6;have Ij:=AQ Hq;have Y1:=AQ KI;have hH6:=hHeld.trans Hq (λx hx=>.inl (Aj _ hx));clear hown6 Hq KI;refine hK.out _ _ (hH6) (λhHeld=>?_);(try simp only[Act.put,Be]);clear hK K;refine tk 13 ?_;refine Ee 14 λK hK=>?_;go_simp;refine hK.out _ _ (hHeld.setCell (.inl AY) _) (λhHeld=>?_);(try simp only[Act.put,Be]);clear hK K;refine wpAnyH_done Ap ?_ _;(try simp only[Act.put,Be]);have YA:Hid (AZ [db] w6 (w6.setCell ⟨db,1,none⟩ (.slice A2 (j+1) c2))):=AQ ((AZ.refl _ _).setCell (.inl AY) _);have Yr:Hid (Bo (w6.setCell ⟨db,1,none⟩ (.slice A2 (j+1) c2)) db 77 #[.string p.1,.slice A2 (j+1) c2]):=AQ (by simpa using Rx.out.Em 1 (.slice A2 (j+1) c2));clear y6 f6 y1 y1a hHeld hHc hH6 hc4 x1 x0 f1;go_wp2;go_roundw
    case rel=>
     have XE: ∀k∈bo A2,w5.heap.size<=k:=λk hk=>by
      rcases Y1.out k hk with h|h;exact PH.out k (Bh _ h);have h1:=PG.out.size;have h2:=V3.out.size;omega
     have AQu: ∀k∈bo A2,k∉[db]:=λk hk hm=>by
      simp only[Ad] at hm;have h1:=XE k hk;have h2:=xP.out;omega
     have hwl:wr.drew.heap.size<=w4.heap.size:=MK.out.size;have hba: ∀k∈bo BA,wr.heap.size<=k:=λk hk=>X6.out k hk;have AQv:Own (w4.alloc (.cells #[.string q.1,.slice BA (β q.2).length bc] 64)) 5 1 BA (β q.2).length bc (bv (β q.2)):=qH.out.Am ((AZ.refl [] w4).alloc _) EY;have hfl:=O5.out.lt
     have jR:Own w6 64 2 A2 (j+1) c2 (Iw (Fe (fs++[(⟨q.1,BA,(β q.2).length,bc⟩,β q.2)]))):=by
      have:=mg.out;unfold Fe at this⊢;rw[Bf,NS];exact this
     have ALo:Gw w6 A2 (j+1) c2 (fs++[(⟨q.1,BA,(β q.2).length,bc⟩,β q.2)]):=
      (O5.out.Am V3.out EY).snoc Ij.out jR (AQv.Am Ij.out (λk hk hm=>by have h1:=hba k hk;have h2:=hfl k (Bh _ hm);omega)) (λk hk hm=>by have h1:=hba k hk;have h2:=hfl k (Bi _ hm);omega)
     refine⟨j+1,A2,c2,fs++[(⟨q.1,BA,(β q.2).length,bc⟩,β q.2)],Ac,by go_num,Yr.out,ALo.Am YA.out (λk hk hm=>?_),?_,?_,?_⟩
     ·rcases AU.1 hk with hk|hk;exact AQu k hk hm;obtain⟨f,hf,hk⟩:=Bd.1 hk;simp only[Ad] at hm;subst hm;exact (ALo.dat f hf).FZ Rx.out Az _ hk rfl
     rw[AAv,take_snoc _ _ _ HQ.out,Bf,HFV.out];rfl;exact ((PG.out.Aq V3.out).trans Ij.out (λx hx=>.inr (PH.out x (Bh _ hx)))).trans YA.out (λx hx=>.inl hx);intro k hk;rw[lN] at hk;rcases AU.1 hk with hk|hk;exact XE k hk;rcases AU.1 hk with hk|hk;exact PH.out k (Bi _ hk);have h1:=hba k hk;have h2:=PG.out.size;omega
    simp[intOf];omega
  obtain rfl:j=FN:=by omega
  have ALp:Hid (JU wr A i c ds):=AQ (AQs.out.Am PG.out (λk hk hm=>by
   simp only[Ad] at hm
   have:=HAB.out k hk;omega))
  clear f1;(go_wp2_with (at_builtin;refine Fq rfl _ _ rfl lM rfl (ALp.out.row.Am ((AZ.refl [] wr).alloc (.cells #[.string p.1,.slice B j d] 77)) EY) rfl (Own.lit wr 77 2 #[.string p.1,.slice B j d] 1 Az rfl).rd (UO [⟨p.1,B,j,d⟩]) (by unfold maxLen;omega) Ac ?_;intro A2 c2 w7 AIJ AIK AIL _;have HO7:=AQ AIJ;have Ot:=AQ AIK;have HN7:=AQ AIL;clear AIJ AIK AIL));go_roundw
  case rel=>
   have AIM:AZ [] wr (wr.alloc (.cells #[.string p.1,.slice B j d] 77)):=(AZ.refl [] wr).alloc _;have hsz1:=GV.out.size;have hsz2:=Dc.out.size;have hsz3:=Pz.out.size;have AQw:=PG.out.size;have hlw:=xP.out;have hfl:=O5.out.lt
   have qC: ∀k∈bo B++GZ fs,k∉bo A:=λk hk hm=>by
    have h1:=PH.out k hk;have h2:=HAB.out k (Bh _ hm);omega
   have AQx:JU w7 A2 (i+1) c2 (ds++[(⟨p.1,B,j,d⟩,fs)]):=by
    refine (ALp.out.Am AIM EY).snoc Ot.out ?_ ((O5.out.Am AIM EY).Am Ot.out qC) (λk hk hm=>?_)
    ·have:=HO7.out;unfold Ej at this⊢;rw[Bf,NS];exact this
    have h1:=PH.out k hk;have h2:=HAB.out k (Bi _ hm);omega
   refine⟨i+1,A2,c2,ds++[(⟨p.1,B,j,d⟩,fs)],Ac,by go_num,rfl,AQx,?_,?_,?_⟩;rw[AAu,AAt HP.out,XC.out,HFV.out,show p.2.take j=p.2 from Bc (by rw[XD.out];exact AP _)];exact ((((Dc.out.Aq Pz.out).Aq Ql.out).trans PG.out (λx hx=>by simp only[Ad] at hx;subst hx;right;have:=HDB.out;omega)).Aq AIM).trans Ot.out (λx hx=>.inr (OL.out x (Bh _ hx)).2);intro k hk;rw[Yv] at hk;rcases AU.1 hk with hk|hk
   ·rcases HN7.out k hk with h|h;exact OL.out k (Bh _ h);simp at h;omega
   rcases AU.1 hk with hk|hk;exact OL.out k (Bi _ hk);have h1:=PH.out k hk;omega
  simp[intOf];omega
 (obtain rfl:i=TN:=by omega);go_wp2;go_ret;refine⟨A,i,c,ds,rfl,O4.out,?_,GV.out.Aq Dc.out,λk hk=>(OL.out k hk).1⟩;rw[XC.out,Bc Ac]
theorem ADA{w:World}{G:Bg}{S:St}{B:Nat}(h:ED w G S)(hi:Inv B S)(hB:B<=1073741824){i:Nat}(hil:i<S.files.length):
  Calls Ae 62 #[.pointer (some ⟨EC G.ib i,0,none⟩)] w (Ko 5 1 w (bv (S.bytes i)) (S.bytes i).length):=by
 obtain⟨g,L,_,hbx,hs,_⟩:=h.Zx hil;have c0:=hbx.cell 0;simp at c0;have HS:=AQ hs;have HL:=AQ (show _<=1073741824 from Ah (hi.Iu i).1 hB);clear h hi hbx hs;have k63:= @AQD;go_enter AKs,Tryz.ntmps62;(go_wp2_with fail);refine (AFM g L _ _ w HS.out HL.out (S.bytes i).length rfl).mono ?_;rintro e w2 ⟨A,c,rfl,ho,hc2,hn⟩;have HO:=AQ ho;have HC2:=AQ hc2;have HN:=AQ hn;clear ho hc2 hn;go_wp2;go_ret;exact⟨A,c,rfl,HO.out,HC2.out,HN.out⟩
theorem AAw{S:St}(h:S.down=false):S.view=shows S.bytes S.seen:=by
 unfold St.view shows;rw[if_neg (by simp[h])]
theorem Zz{w:World}{G:Bg}{S:St}{B:Nat}(h:ED w G S)(hi:Inv B S)(hB:B<=1073741824):
  Calls Ae 20 #[.pointer (some ⟨G.b,0,none⟩)] w (Xd w S.view):=by
 have HF:=AQ h;have HI:=AQ hi;have HB:=AQ hB;clear h hi hB;have k55:= @ALM;have k61:= @AHi;go_enter AKS,Tryz.ntmps20;(go_wp2_with fail);refine (AAl HF.out).mono ?_;rintro e w1 ⟨rfl,hc1⟩;have DC:=AQ hc1
 cases hd:S.down with
 |true=>
  have HR:Hid (S.view=[]):=AQ (by unfold St.view;rw[if_pos hd]);clear hc1 hd;go_wp2;go_ret;rw[HR.out];exact⟨none,0,0,[],rfl,⟨Own.nil _ _ _,AY,by simp[Nv]⟩,rfl,DC.out,by simp[Nv]⟩
 |false=>
  have HR:=AQ (AAw hd);have Fp:=AQ (HF.out.CX hc1);have h0:=Fp.out.blk.cell 0;simp at h0;clear hc1 hd;(go_wp2_with fail);refine (tK 62 #[] @AQC w1 G.t1 G.g1 G.ib S.seen S.files.length S.bytes Fp.out.Ep Fp.out.Kt HI.out.val (Ah HI.out.wd HB.out) (λi hil wr hc=>ADA (Fp.out.CX hc) HI.out HB.out hil)).mono ?_;rintro e w2 ⟨A,n,c,ds,rfl,hds,hv,hc2,hn⟩;have O4:=AQ hds;have HV:=AQ hv;have HC2:=AQ hc2;have HN:=AQ hn;clear hds hv hc2 hn;go_wp2;go_ret;exact⟨A,n,c,ds,rfl,O4.out,by rw[HV.out,HR.out],DC.out.Aq HC2.out,λk hk=>Ah DC.out.size (HN.out k hk)⟩
theorem xQ{w:World}{x y:Nat}(hx:Ny w x)(hy:Ny w y):(Op.equal 121 (pv x) (pv y)).run Ae w=.ok (decide (x=y)) w:=by
 have h:=mJ hx hy;simp only[binOp,Sem.run_bind] at h
 cases hr:(Op.equal 121 (pv x) (pv y)).run Ae w with
 |ok b w'=>
  unfold pv at hr;rw[hr] at h;simp only[Result.andThen_ok,Sem.run_pure,Result.ok.injEq,Value.bool.injEq] at h;rw[h.1,h.2]
 |_=>unfold pv at hr;rw[hr] at h;cases h
theorem YR{w:World}{x:Nat}(hx:Ny w x): ∀(es:List MapEntry) (ks:List Nat) (i:Nat),es.map (·.key)=ks.map pv->(∀k∈ks,Ny w k)->
  (Instr.findAsking 121 (pv x) es i).run Ae w=.ok ((ks.idxOf? x).bind λj=>(es[j]?).map λe=>(i+j,e.val)) w
 | [],[],i,_,_=>by simp[Instr.findAsking]| [],k'::ks,i,he,_=>by simp at he|e::es,[],i,he,_=>by simp at he
 |e::es,k'::ks,i,he,hb=>by
  simp only[AL,DJ] at he;unfold Instr.findAsking;rw[he.1];simp only[Sem.run_bind,xQ hx (hb k' AY),Result.andThen_ok];by_cases hk:x=k'
  ·subst hk;rw[En,beq_self_eq_true];simp
  simp only[hk,decide_false];have ih:=YR hx es ks (i+1) he.2 (λk hk=>hb k (Aj _ hk));rw[En];(have:(k'==x)=false:=by simp;exact λe=>hk e.symm);rw[this];simp only[Ak,if_false];rw[ih]
  cases ks.idxOf? x with|none=>rfl|some j=>simp[Fj,LK 1 j]
theorem Y2{w:World}{x:Nat}{ks:List Nat}(hx:Ny w x)(hks: ∀k∈ks,Ny w k):wL Ae 121 pv w x ks where
 find:=λes he=>by
  unfold Instr.findKey;simp only[Sem.run_bind,run_underlying wJ,Result.andThen_ok]
  cases es with
  |nil=>
   cases ks with|nil=>simp[Instr.findNow]|cons k r=>simp at he
  |cons e es=>
   cases ks with
   |nil=>simp at he|cons k r=>
    have hk:e.key=pv k:=by simp only[AL,DJ] at he;exact he.1
    have hn:Instr.findNow (.pointer 126) (pv x) (e::es) 0=none:=by
     unfold Instr.findNow;rw[hk];simp[Instr.sameNow]
    rw[hn];have:=YR hx (e::es) (k::r) 0 he hks;simp only[Dx] at this;exact this
 check:=λe=>by
  show (Instr.checkKey e (9999+1) 121 (pv x)).run Ae w=_;unfold Instr.checkKey;simp[run_underlying wJ,pv]
 bits:=by simp[Instr.sameBits,pv]
structure Jq where
 A:Option Addr
 n:Nat
 c:Nat
 bs:List Bool
def Jq.v (r:Jq):Value:=.slice r.A r.n r.c
def Jq.nil:Jq:=⟨none,0,0,[]⟩
abbrev KG:=List (Nat×Jq)
def PI (kg:KG):List (Nat×Value):=kg.map λp=>(p.1,p.2.v)
def QX (kg:KG):List Nat:=kg.flatMap λp=>bo p.2.A
def dC (kg:KG) (x:Nat):List Bool:=((BJ kg x).getD Jq.nil).bs
structure OM (w:World) (km:Nat) (kg:KG):Prop where
 top:Mp w km pv (PI kg)
 row: ∀p∈kg,Own w 4 1 p.2.A p.2.n p.2.c (kv p.2.bs)
 isb: ∀p∈kg,Ny w p.1
 sep:(QX kg).Nodup
theorem UY(kg:KG):(PI kg).map Prod.fst=kg.map Prod.fst:=by unfold PI;rw[Bq];rfl
theorem AFd(kg:KG)(x:Nat):(BJ (PI kg) x).getD (.slice none 0 0)=((BJ kg x).getD Jq.nil).v:=by
 unfold PI;rw[bY (λr:Jq=>r.v)];cases BJ kg x<;>rfl
theorem OM.get{w:World}{km:Nat}{kg:KG}(h:OM w km kg)(x:Nat):Own w 4 1 ((BJ kg x).getD Jq.nil).A ((BJ kg x).getD Jq.nil).n ((BJ kg x).getD Jq.nil).c (kv (dC kg x)):=by
 unfold dC
 cases hx:BJ kg x with|none=>exact Own.nil _ _ _|some r=>exact h.row _ (CP hx)
theorem OM.Am{w w':World}{km:Nat}{kg:KG}{L:List Nat}(h:OM w km kg)(hc:AZ L w w')(h1:km∉L)(h2: ∀k∈QX kg,k∉L)(h3: ∀p∈kg,p.1∉L):OM w' km kg:=
 ⟨h.top.Am hc h1,λp hp=>(h.row p hp).Am hc (λk hk=>h2 k (Bd.2 ⟨p,hp,hk⟩)),λp hp=>(h.isb p hp).Am hc (h3 p hp),h.sep⟩
theorem OM.GK{w w':World}{km:Nat}{kg:KG}(h:OM w km kg)(hc:AZ [] w w'):OM w' km kg:=h.Am hc AB EY EY
theorem OM.look{w:World}{km:Nat}{kg:KG}(h:OM w km kg){x:Nat}(hx:Ny w x):(Instr.lookup 120 (.map (some km)) (pv x) false).run Ae w=.ok (((BJ kg x).getD Jq.nil).v) w:=by
 have:=Mp.sD h.top (t:=120) x (Y2 hx (λk hk=>by
  rw[UY] at hk;obtain⟨p,hp,rfl⟩:=Ag.1 hk
  exact h.isb p hp)) ACl (z:=.slice none 0 0) Ap
 rw[AFd] at this;exact this.1
theorem AFe{w:World}{G:Bg}{S:St}{B:Nat}(h:ED w G S)(hi:Inv B S)(hB:B<=1073741824){i:Nat}(hil:i<S.files.length)(kc km:Nat)(kg:KG)(hk:w.cell? ⟨kc,0,none⟩=some (.map (some km)))(hm:OM w km kg)(hkl:(dC kg (EC G.ib i)).length<=1073741824)(ks:List Bool)(hks:dC kg (EC G.ib i)=ks):
  Calls Ae 56 #[.pointer (some ⟨EC G.ib i,0,none⟩),.pointer (some ⟨kc,0,none⟩)] w (Ko 5 1 w (bv (Oh (S.files.getD i ([],[])).1 (S.files.getD i ([],[])).1.length (S.files.getD i ([],[])).2 ks)) (Oh (S.files.getD i ([],[])).1 (S.files.getD i ([],[])).1.length (S.files.getD i ([],[])).2 ks).length):=by
 subst hks;obtain⟨g,L,_,hbx,hs,_⟩:=h.Zx hil;have c0:=hbx.cell 0;simp at c0;have HS:=AQ hs;have hL:=(show _<=1073741824 from Ah (hi.Iu i).1 hB);have hL2:=(show _<=1073741824 from Ah (hi.Iu i).2 hB);clear HS;generalize S.files.getD i ([],[])=f at hs hL hL2⊢;have HS:=AQ hs;have HL:=AQ hL;have HL2:=AQ hL2;have hlk:=(hm.GK (AZ.refl [] w).drew).look (Ny.Am ⟨_,_,hbx⟩ (AZ.refl [] w).drew AB);unfold pv Jq.v at hlk;have HM:=AQ hm;have HKL:=AQ hkl;clear h hi hbx hs hm hkl hL hL2 hil;have k57:= @AQA;go_enter AKo,Tryz.ntmps56;go_wp2
 go_still_tail 7,Ap
 (go_wp2_with fail);refine (ACs g L _ _ _ _ _ _ _ (HS.out.Am (AZ.refl [] w).drew EY) HL.out HL2.out (by have h1:=(HM.out.get (EC G.ib i)).1;have h2:=HKL.out;simp at h1;omega) ((HM.out.get (EC G.ib i)).rd.Am (AZ.refl [] w).drew EY) _ rfl).mono ?_;rintro e w2 ⟨A,c,rfl,ho,hc2,hn⟩;have HO:=AQ ho;have HC2:Hid (AZ [] w w2):=AQ ((AZ.refl [] w).drew.Aq hc2);have HN:=AQ hn;clear ho hc2 hn;go_wp2;go_ret;exact⟨A,c,rfl,HO.out,HC2.out,HN.out⟩
def xR (names:Int) (n:Nat):Nat:=min names.toNat n
theorem tN:Ety Ae 28 4 1 1 (.bool false):=.mk' AQZ Ap rfl Az
theorem Y3{kg:KG}(hn:(kg.map Prod.fst).Nodup)(x:Nat):(QX kg).Perm (bo ((BJ kg x).getD Jq.nil).A++QX (without kg x)):=by
 cases hx:BJ kg x with
 |none=>rw[MG (Fa.1 hx)];exact EF _|some r=>
  have h:=U0 hn x r;rw[U4 hx] at h;exact h.flatMap_right _
theorem Y4{kg:KG}(hn:(kg.map Prod.fst).Nodup)(x:Nat)(r:Jq):(QX (Dp kg x r)).Perm (bo r.A++QX (without kg x)):=(U0 hn x r).flatMap_right _
theorem AFf(kg:KG)(x:Nat)(r:Jq):Dp (PI kg) x r.v=PI (Dp kg x r):=Xf (λr:Jq=>r.v) kg x r
theorem OM.lt{w:World}{km:Nat}{kg:KG}(h:OM w km kg): ∀k∈QX kg,k<w.heap.size:=by
 intro k hk;obtain⟨p,hp,hk⟩:=Bd.1 hk;exact (h.row p hp).lt k hk
theorem OM.put{w w':World}{km x:Nat}{kg:KG}{r2:Jq}(h:OM w km kg)(hc:AZ (km::bo ((BJ kg x).getD Jq.nil).A) w w')(ht:Mp w' km pv (Dp (PI kg) x r2.v))(ho:Own w' 4 1 r2.A r2.n r2.c (kv r2.bs))
  (hA: ∀k∈bo r2.A,k∈bo ((BJ kg x).getD Jq.nil).A\/w.heap.size<=k) (hx:Ny w' x) (hi: ∀p∈kg,Ny w' p.1) (iR:km∉QX kg):OM w' km (Dp kg x r2):=by
 (have hn:(kg.map Prod.fst).Nodup:=by rw[<- UY];exact h.top.nodup);have hp:=Y3 hn x;have hnd:=EN.1 (hp.nodup_iff.1 h.sep);refine⟨by rw[<- AFf];exact ht,λp hpm=>?_,λp hpm=>?_,?_⟩
 ·rcases (Ji hn).1 hpm with rfl|⟨hpm,hpx⟩;exact ho;refine (h.row p hpm).Am hc (λk hk hm=>?_);have hkw:k∈QX (without kg x):=Bd.2 ⟨p,by unfold without;simp[hpm,hpx],hk⟩;rcases AA.1 hm with rfl|hm;exact iR (hp.mem_iff.2 (Bi _ hkw));exact hnd.2.2 k hm k hkw rfl
 ·rcases (Ji hn).1 hpm with rfl|⟨hpm,_⟩;exact hx;exact hi p hpm
 refine (Y4 hn x r2).nodup_iff.2 (EN.2 ⟨bW _,hnd.2.1,λa ha b hb=>?_⟩);rintro rfl;rcases hA a ha with h1|h1;exact hnd.2.2 a h1 a hb rfl;have:=h.lt a (hp.mem_iff.2 (Bi _ hb));omega
theorem tV{kg:KG}(hn:(kg.map Prod.fst).Nodup)(x y:Nat)(r:Jq):dC (Dp kg x r) y=if x=y then r.bs else dC kg y:=by
 unfold dC;rw[RX hn];by_cases h:x=y<;>simp[h]
def kI (ws:List Nat) (ks:List Bool) (j x:Nat):List Bool:=(((ws.take j).zipIdx).filter λp=>p.1==x).map λp=>(ks[p.2]?).getD false
theorem AEM(ws:List Nat)(ks:List Bool)(j x:Nat):(kI ws ks j x).length<=j:=by
 unfold kI;rw[BH];refine Ah (Jn _ _) ?_;rw[List.length_zipIdx,CB];omega
theorem AAx{ws:List Nat}{ks:List Bool}{j y:Nat}(h:ws[j]? =some y)(x:Nat):kI ws ks (j+1) x=kI ws ks j x++(if y=x then [(ks[j]?).getD false] else []):=by
 unfold kI;have hl:=(BB.1 h).1;rw[take_snoc _ _ _ h,List.zipIdx_append,IQ,Bf];congr 1;rw[CB,DK Ac];by_cases hy:y=x<;>simp[hy]
theorem AJ1{ib ws:List Nat}{m x:Nat}(hn:ib.Nodup)(hl:ib.length=m)(hw: ∀y∈ws,y<m)(ks:List Bool)(hx:x<m):kI (ws.map (EC ib)) ks ws.length (EC ib x)=(ws.zipIdx.filter λp=>p.1==x).map λp=>(ks[p.2]?).getD false:=by
 unfold kI;rw[Bc AY,List.zipIdx_map,Ju,Bq]
 have:(ws.zipIdx.filter ((λp:Nat×Nat=>p.1==EC ib x)∘Prod.map (EC ib) id))=ws.zipIdx.filter λp=>p.1==x:=by
  refine Jt λp hp=>?_;have hpw:=hw p.1 (List.fst_mem_of_mem_zipIdx hp);simp only[Function.comp,Prod.map]
  have:(EC ib p.1=EC ib x)↔p.1=x:=⟨λe=>by
   unfold EC at e;rw[CW,CW,Af Ac,Af Ac] at e
   exact (List.getElem_inj hn).1 e,λe=>by rw[e]⟩
  by_cases h:p.1=x;rw[h];simp;have h2: ¬EC ib p.1=EC ib x:=λe=>h (this.1 e);exact (beq_eq_false_iff_ne.2 h2).trans (beq_eq_false_iff_ne.2 h).symm
 rw[this];rfl
theorem AAy{w:World}{G:Bg}{S:St}{B:Nat}(h:ED w G S)(hi:Inv B S)(hB:B<=1073741824)(Ka:Option Addr)(kn kc:Nat)(ks:List Bool)(names:Int)(hKr:Rd w 1 Ka kn kc (kv ks))(hkn:kn<=1073741824):
  Calls Ae 16 #[.pointer (some ⟨G.b,0,none⟩),.agg #[.slice Ka kn kc,.int .i64 names]] w (Xd w (S.left ks names)):=by
 have HF:=AQ h;have HI:=AQ hi;have HB:=AQ hB;have HK:=AQ hKr;(have n1:S.FQ.length<=1073741824:=by have:=hi.OE;omega);clear h hi hB hKr;have k54:= @AHh;have k55:= @ALM;go_enter AKO,Tryz.ntmps16;have hbf:=Bo.new w 30 #[.slice Ka kn kc,.int .i64 names];have hcf:AZ [] w (w.alloc (.cells #[.slice Ka kn kc,.int .i64 names] 30)):=(AZ.refl [] w).alloc _;have h1:=(HF.out.CX hcf).blk.cell 1;simp only[Fv] at h1;(go_wp2_with fail);obtain⟨fb,hfb⟩: ∃fb,w.heap.size=fb:=⟨_,rfl⟩;obtain⟨W,hW⟩: ∃W,w.alloc (.cells #[.slice Ka kn kc,.int .i64 names] 30)=W:=⟨_,rfl⟩;rw[hfb,hW] at hbf;rw[hW] at hcf;rw[hfb];have hFl:G.g2=G.g2:=rfl;refine (Wy _ G.t2 G.g2 (HF.out.CX ((AZ.refl [] w).alloc _)).Oy).mono ?_;rintro e w1 ⟨ob,g0,rfl,htr,hnew,hc1,hcp⟩;rw[hW] at hc1 hnew;have DC:Hid (AZ [] w w1):=AQ (hcf.Aq hc1);have xU:=AQ (hbf.Am hc1 AB);have Fp:=AQ (HF.out.CX DC.out);have iO:=AQ htr;have OL:Hid (∀x∈EL ob g0,w.heap.size<=x):=AQ (λx hx=>Ah hcf.size (hnew x hx));have qE:=AQ hcp;have AAz:Hid (w.heap.size<=fb/\fb<W.heap.size/\∀x∈EL ob g0,fb<x):=AQ ⟨Ac,hbf.lt,λx hx=>by have:=hnew x hx;have:=hbf.lt;omega⟩;have c2:=Fp.out.blk.cell 2;have c3:=Fp.out.blk.cell 3;have d0:=xU.out.cell 0;have d1:=xU.out.cell 1;simp only[Fv] at c2 c3 d0 d1;clear hbf hcf h1 hW hfb htr hnew hc1 hcp hFl;obtain⟨kN,hkN⟩: ∃kN,xR names S.FQ.length=kN:=⟨_,rfl⟩;(have hmin:min (max names 0) (S.FQ.length:Int)=(kN:Int):=by rw[<- hkN];unfold xR;omega);(have hkl:kN<=S.FQ.length:=by rw[<- hkN];unfold xR;omega);have hkc:kN<=G.c:=Ah hkl HF.out.own.rd.2.1;have HKN:=AQ hkN;clear hkN;(go_wp2_with fail);refine wp_region_held_drew (S:=λw'=>AZ [] w1 w') Ap ((AZ.refl _ _).drew) (λhHeld=>?_);refine tk 0 ?_;refine tk 1 ?_;refine tk 2 ?_;refine Gm 3 (λw' hSw=>hSw.cell c2 AB) ?_;refine tk 4 ?_;refine Gm 5 (λw' hSw=>hSw.cell d1 AB) ?_;refine tk 7 ?_;refine tk 8 ?_;refine tk 9 ?_;refine Gm 10 (λw' hSw=>hSw.cell c2 AB) ?_;refine tk 11 ?_;refine tk 15 ?_;refine Ee 6 λK hK=>?_;go_simp;refine hK.out _ _ (hHeld) (λhHeld=>?_);(try simp only[Act.put,Be]);clear hK K;refine Ee 12 λK hK=>?_;go_simp;refine hK.out _ _ (hHeld) (λhHeld=>?_);(try simp only[Act.put,Be]);clear hK K;refine tk 13 ?_;refine tk 14 ?_;refine wpAnyH_done Ap ?_ _;(try simp only[Act.put,Be]);have HD0:Hid (AZ [] w w1.drew):=AQ (DC.out.drew);clear hHeld hmin hkc d1;go_wp2;go_loopw [7,31] (λ_ q wr=>∃(i:Nat) (g':MJ),i<=kN/\q=.int .i64 i/\Tree wr ob g'/\D5 G.ib g' (Je S.safe (S.FQ.take i))/\(∀x∈EL ob g',fb<x)/\AZ [] w wr/\Bo wr fb 30 #[.slice Ka kn kc,.int .i64 names]) (λ_ q _=>kN - (intOf q).toNat)
 case atStart=>exact⟨0,g0,BP _,rfl,iO.out.keep (AZ.refl [] w1).drew EY,HF.out.Oz.copied qE.out,AAz.out.2.2,HD0.out,xU.out.drew⟩
 obtain⟨i,g',hiN,rfl,ht,hti,htn,hch,ALq⟩:=hrel;have HT:=AQ ht;have X7:=AQ hti;have jS:=AQ htn;have Dc:=AQ hch;have AA0:=AQ ALq;clear ht hti htn hch ALq;by_cases hlt:i<kN
 ·(have hlt':(i:Int)<kN:=by omega);obtain⟨c,hci⟩: ∃c,S.FQ[i]? =some c:=⟨_,Af Ac⟩;obtain⟨ad,v,hA,hvi,hcell⟩:=HF.out.own.rd.bT (k:=i) Ac;have hcell0:=Dc.out.cell hcell AB;have hv:=(HF.out.O0 i c v hci hvi).keep Dc.out EY (λ_ h=>h) (λ_ _=>rfl) (AP _);have hok:=AJ0 HI.out.FQ hci;have X8:=AQ hok;have HCI:=AQ hci;have HVL:Hid (Val S.files.length (Je S.safe (S.FQ.take i))):=AQ (HI.out.safe.run (bn HI.out.FQ i))
  rw[hA] at*
  clear hcell hvi hok hci;cases c
  case' Dn d=>
   obtain⟨k,rfl,jT,hk⟩:=hv;(go_wp2_with fail);refine (sN HT.out X7.out X8.out.2 hk).mono ?_
  case' create d n j=>
   obtain⟨x,k,j2,rfl,hxK,jT,hjK,hx,hk,hj,hjl⟩:=hv;(go_wp2_with fail);refine (lZ HT.out X7.out HVL.out X8.out hx hk hj).mono ?_
  case' rename d n=>
   obtain⟨k,j,rfl,jT,hjK,hk,hj⟩:=hv;(go_wp2_with fail);refine (lh HT.out X7.out X8.out hk hj (λe=>by have h1:=HF.out.lay.lt G.K (Aa (i:=5) rfl) k jT;have h2:=jS.out ob (by simp[EL]);have h3:=AAz.out.1;omega) (λe=>by have h1:=HF.out.lay.lt G.K (Aa (i:=5) rfl) j hjK;have h2:=jS.out ob (by simp[EL]);have h3:=AAz.out.1;omega)).mono ?_
  case' remove d n=>
   obtain⟨k,j,rfl,jT,hjK,hk,hj⟩:=hv;(go_wp2_with fail);refine (lg HT.out X7.out HVL.out X8.out hk hj).mono ?_
  case' rmdir d=>
   obtain⟨k,rfl,jT,hk⟩:=hv;(go_wp2_with fail);refine (sO HT.out X7.out hk).mono ?_
  all_goals
   rintro ee w4 ⟨rfl,⟨g2,ht2,hi2,hsub2⟩,gJ⟩;have HT2:=AQ ht2;have HI2:=AQ hi2;have HS2:=AQ hsub2;have HC2:=AQ gJ;clear ht2 hi2 hsub2 gJ;go_wp2;go_roundw
   case rel=>
    have hfl:=AA0.out.lt;refine⟨i+1,g2,Ac,by go_num,HT2.out,by rw[take_snoc _ _ _ HCI.out,Yx];exact HI2.out,λx hx=>?_,Dc.out.trans HC2.out (λx hx=>.inr (by have:=jS.out x hx;have:=AAz.out.1;omega)),AA0.out.Am HC2.out (λhm=>by have:=jS.out fb hm;omega)⟩;rcases HS2.out x hx with h|h;exact jS.out x h;omega
   simp[intOf];omega
 (obtain rfl:i=kN:=by omega);have hmm:= @run_makeMap Ae;have hw3:=HF.out.cO;obtain⟨km,iR⟩: ∃km,wr.heap.size=km:=⟨_,rfl⟩;obtain⟨W2,hW2⟩: ∃W2,(wr.alloc (.map #[] 0)).alloc (.cells #[.map (some km)] 120)=W2:=⟨_,rfl⟩;(have hc2:AZ [] wr W2:=by rw[<- hW2];exact ((AZ.refl [] wr).alloc _).alloc _);have c3':=(HF.out.CX (Dc.out.Aq hc2)).blk.cell 3;simp only[Fv] at c3';have HC2:=AQ hc2;have HKM:Hid (OM W2 km []):=AQ ⟨by rw[<- hW2,<- iR];exact (Mp.made wr pv).Am ((AZ.refl [] _).alloc _) AB,AY,AY,by simp[QX]⟩
 have HKB:Hid (Bo W2 (km+1) 120 #[.map (some km)]):=AQ (by
  rw[<- hW2];have:=Bo.new (wr.alloc (.map #[] 0)) 120 #[.map (some km)]
  simpa[iR] using this)
 have QI:Hid (W2.heap.size=km+2/\wr.heap.size=km):=AQ ⟨by rw[<- hW2];simp[iR],iR⟩;(have hnw:S.wr.length<=1073741824:=by have:=HI.out.nw;have:=HB.out;omega);clear hc2 hw3;go_wp2;have HF2:=AQ (HF.out.CX (Dc.out.Aq HC2.out));have HT3:=AQ (HT.out.keep HC2.out EY);have AQy:=AQ (AA0.out.Am HC2.out AB);have Pz:Hid (AZ [] w W2):=AQ (Dc.out.Aq HC2.out);have HLT:Hid (∀x∈EL ob g',x≠km):=AQ (λx hx=>by have:=HT.out.lt x hx;have:=QI.out;omega)
 have HIS:Hid (∀i,i<S.files.length->Ny W2 (EC G.ib i)/\EC G.ib i≠km):=AQ (λi hi=>by
  obtain⟨gg,LL,_,hbb,_,_,hii⟩:=HF2.out.Zx hi;refine⟨⟨_,_,hbb⟩,?_⟩;have h1:=HF.out.lay.lt G.K (Aa (i:=5) rfl) _ (HF.out.Vy _ (Aa hii));have h2:=Dc.out.size;have h3:=QI.out
  omega)
 clear hmm c3' hW2 iR;go_loopw [9,10,45] (λ_ _ q wr=>∃(j:Nat) (kg:KG),j<=S.wr.length/\q=.int .i64 j/\OM wr km kg/\(∀x,dC kg x=kI (S.wr.map (EC G.ib)) ks j x)/\AZ [km] W2 wr/\(∀k∈QX kg,W2.heap.size<=k)/\∀p∈kg,p.1∈S.wr.map (EC G.ib)) (λ_ _ q _=>S.wr.length - (intOf q).toNat)
 case atStart=>exact⟨0,[],BP _,rfl,HKM.out,λx=>by simp[dC,kI,BJ,Jq.nil],AZ.refl _ _,by simp[QX],AY⟩
 obtain⟨j,kg,hjn,rfl,hkg,hkI,ALr,AIN,AIO⟩:=hrel;have Z4:=AQ hkg;have oZ:=AQ hkI;have iT:=AQ ALr;have AA1:=AQ AIN;have dD:=AQ AIO;clear hkg hkI ALr AIN AIO;by_cases hjl:j<S.wr.length
 ·(have ALk:(j:Int)<S.wr.length:=by omega);obtain⟨x0,hx0⟩: ∃x0,S.wr[j]? =some x0:=⟨_,Af hjl⟩;have ALs:=HI.out.wr x0 (Aa hx0)
  have mZ:Hid (∀p v,w.cell? p=some v->wr.cell? p=some v):=AQ (λp v hp=>iT.out.cell (Pz.out.cell hp AB) (λhm=>by
   simp only[Ad] at hm;have h1:=World.block_lt_of_cell? w p hp;have h2:=Dc.out.size;have h3:=QI.out
   omega))
  obtain⟨bd,xx,hA2,hxx,hxc⟩:=xO (xs:=S.wr.map (EC G.ib)) (by have:=HF.out.cO.rd;rw[Bq];exact this) hjl;have AQz:=mZ.out _ _ hxc
  have hxe:xx=EC G.ib x0:=by
   rw[AV,hx0] at hxx;exact (BQ hxx).symm
  subst hxe
  rw[hA2] at*
  have xW:=AQ hxx;obtain⟨x,hxd⟩: ∃x,EC G.ib x0=x:=⟨_,rfl⟩;have AIP:=AQ (HIS.out x0 ALs);rw[hxd] at AQz xW AIP;have HB3:Hid (Ny wr x):=AQ (AIP.out.1.Am iT.out (by simpa using AIP.out.2));obtain⟨r,hr⟩: ∃r,(BJ kg x).getD Jq.nil=r:=⟨_,rfl⟩;obtain⟨rA,rn,rc,rb⟩:=r;have HR:=AQ hr;have HOR:Hid (Own wr 4 1 rA rn rc (kv rb)):=AQ (by have:=Z4.out.get x;unfold dC at this;rw[hr] at this;exact this);have HRB:Hid (rb=kI (S.wr.map (EC G.ib)) ks j x):=AQ (by rw[<- oZ.out x];unfold dC;rw[hr])
  have dE:Hid (∀k∈bo rA,W2.heap.size<=k):=AQ (λk hk=>by
   cases ha:BJ kg x with
   |none=>rw[ha] at hr;cases hr;simp at hk|some r0=>
    rw[ha] at hr;simp only[Option.getD_some] at hr;subst hr
    exact AA1.out k (Bd.2 ⟨_,CP ha,hk⟩))
  have hrn:rn<=1073741824:=by
   have h1:=HOR.out.1;simp only[BH,D7] at h1;have h2:=congrArg List.length HRB.out;have h3:=AEM (S.wr.map (EC G.ib)) ks j x;omega
  have e0:=AQy.out.Am iT.out (by have:=QI.out;have:=AAz.out;have:=AA0.out.lt;simp;omega);have f0:=e0.cell 0;have k0:=(HKB.out.Am iT.out AY).cell 0
  have AIQ:=AQ (show fb∉km::bo rA by
   intro hm;have h2:=AA0.out.lt;have h3:=QI.out;rcases AA.1 hm with h|h;omega
   have:=dE.out _ h;omega)
  have AEN:=AQ (show km+1∉km::bo rA by
   intro hm;have h3:=QI.out;rcases AA.1 hm with h|h;omega
   have:=dE.out _ h;omega)
  simp only[Fv] at f0 k0;have hlk:=(Z4.out.GK (AZ.refl [] wr).drew).look (HB3.out.Am (AZ.refl [] wr).drew AB);rw[hr] at hlk;unfold Jq.v pv at hlk;simp only at hlk
  have ALt:Hid (∀bb,(Instr.lookup 120 (.map (some km)) (.pointer (some ⟨x,0,none⟩)) false).run Ae (wr.drew.alloc (.cells #[.bool bb] 4))=.ok (.slice rA rn rc) (wr.drew.alloc (.cells #[.bool bb] 4))):=AQ (λbb=>by
   have hc:AZ [] wr (wr.drew.alloc (.cells #[.bool bb] 4)):=((AZ.refl [] wr).drew).alloc _;have:=(Z4.out.GK hc).look (HB3.out.Am hc AB);rw[HR.out] at this
   exact this)
  clear hx0 ALs hxc hxx hr e0 hxd
  have tX:Hid (∀y∈S.wr.map (EC G.ib),y<km):=AQ (λy hy=>by
   obtain⟨i2,hi2,rfl⟩:=Ag.1 hy;obtain⟨gg,LL,_,hbb,_,_,hii⟩:=HF.out.Zx (HI.out.wr i2 hi2);have h1:=HF.out.lay.lt G.K (Aa (i:=5) rfl) _ (HF.out.Vy _ (Aa hii));have h2:=Dc.out.size;have h3:=QI.out
   omega)
  by_cases hik:j<kn
  ·(have hjk:(j:Int)<kn:=by omega);obtain⟨ka,b,rfl,hkb,AIR⟩:=AAb HK.out hik;have AJ2:=mZ.out _ _ AIR;have HKB2:Hid ((ks[j]?).getD false=b):=AQ (by rw[hkb];rfl)
   have AQ0:Hid ((ka.add j).block∉km::bo rA):=AQ (λhm=>by
    have h1:=World.block_lt_of_cell? w _ AIR;have h2:=Dc.out.size;have h3:=QI.out;rcases AA.1 hm with h|h;omega
    have:=dE.out _ h;omega)
   clear hkb AIR;have HOA:Hid (Own (wr.drew.alloc (.cells #[.bool b] 4)) 4 1 rA rn rc (kv rb)):=AQ (HOR.out.Am (((AZ.refl [] wr).drew).alloc _) EY);have hlk2:(Instr.lookup 120 (.map (some km)) (.pointer (some ⟨x,0,none⟩)) false).run Ae ((wr.alloc (.cells #[.bool b] 4)).drew)=.ok (.slice rA rn rc) ((wr.alloc (.cells #[.bool b] 4)).drew):=ALt.out b;go_wp2;refine wp_region_held_drew (S:=λw'=>AZ (km::bo rA) wr w') Ap ((AZ.refl _ _).drew) (λhHeld=>?_);refine Gm 0 (λw' hSw=>hSw.cell k0 AEN.out) ?_;refine tk 1 ?_;refine Gm 2 (λw' hSw=>hSw.cell k0 AEN.out) ?_;refine tk 3 ?_;refine tk 5 ?_;refine tk 6 ?_;refine Gm 7 (λw' hSw=>hSw.cell f0 AIQ.out) ?_;refine tk 8 ?_;refine tk 9 ?_;refine tk 10 ?_;refine tk 11 ?_;refine Gm 12 (λw' hSw=>hSw.cell f0 AIQ.out) ?_;refine tk 13 ?_;refine tk 14 ?_;refine Gm 15 (λw' hSw=>hSw.cell AJ2 AQ0.out) ?_;refine tk 16 ?_;refine wpAnyH_ready (rs:=[4,17]) Ap AY ?_;refine AllReadyH.cons rfl (λK hK=>?a9) (AllReadyH.cons rfl (λK hK=>?b9) (AllReadyH.nil))
   case' a9=>
    go_simp;refine hK.out _ _ (hHeld) (λhHeld=>?_);(try simp only[Act.put,Be]);clear hK K;refine Ee 17 λK hK=>?_;go_simp;refine hK.out _ _ (hHeld.alloc _) (λhHeld=>?_)
   case' b9=>
    go_simp;refine hK.out _ _ (hHeld.alloc _) (λhHeld=>?_);(try simp only[Act.put,Be]);clear hK K;refine Ee 4 λK hK=>?_;go_simp;refine hK.out _ _ (hHeld) (λhHeld=>?_)
   all_goals
    (try simp only[Act.put,Be]);clear hK K;refine Ee 18 λK hK=>?_;refine JE rfl _ _ rfl tN rfl HOA.out rfl (Own.lit wr.drew 4 1 #[.bool b] 1 Az rfl).rd (by simp[Value.oneCell']) (by unfold maxLen;omega) Ac ?_;intro A2 c2 w6 hown6 Hq KI _;have Ij:Hid (AZ (bo rA) wr w6):=AQ ((((AZ.refl [] wr).drew.alloc (.cells #[.bool b] 4)).nil (bo rA)).trans Hq (λx hx=>.inl hx));have oh:Hid (∀y∈S.wr.map (EC G.ib),y∉bo rA):=AQ (λy hy hm=>by have h1:=tX.out y hy;have h2:=dE.out y hm;have h3:=QI.out;omega);have xX:Hid (Ny w6 x/\∀p∈kg,Ny w6 p.1):=AQ ⟨HB3.out.Am Ij.out (oh.out x (Aa xW.out)),λp hp=>(Z4.out.isb p hp).Am Ij.out (oh.out p.1 (dD.out p hp))⟩;obtain⟨w7,hu,AA2,qI⟩:=Mp.bU (Z4.out.top.Am Ij.out (λhm=>by have h1:=dE.out _ hm;have h2:=QI.out;omega)) (t:=120) x (Y2 xX.out.1 (λk hk=>by rw[UY] at hk;obtain⟨p,hp,rfl⟩:=Ag.1 hk;exact xX.out.2 p hp)) ACl (.slice A2 (rn+1) c2);unfold pv at hu;have mg:=AQ hown6;have Y1:=AQ KI;have HM7:=AQ AA2;have Ot:=AQ qI;have hH6:=hHeld.trans Hq (λx hx=>.inl (Aj _ hx));have hH7:=hH6.trans qI (λx hx=>.inl (by simp only[Ad] at hx;subst hx;simp));clear hown6 Hq KI AA2 qI;refine hK.out _ _ (hH6) (λhHeld=>?_);(try simp only[Act.put,Be]);clear hK K;refine Ee 19 λK hK=>?_;go_simp;refine hK.out _ _ (hH7) (λhHeld=>?_);(try simp only[Act.put,Be]);clear hK K;refine wpAnyH_done Ap ?_ _;(try simp only[Act.put,Be]);have AA3:Hid (AZ (km::bo rA) wr w7):=AQ ((Ij.out.mono (λx hx=>.inl (Aj _ hx))).trans Ot.out (λx hx=>.inl (by simp only[Ad] at hx;subst hx;simp)));clear hHeld hH6 hH7 hu hlk hlk2 f0 k0;go_wp2;go_roundw
    case rel=>
     (have AIS:km∉QX kg:=λhm=>by have h1:=AA1.out km hm;have h2:=QI.out;omega);have AQ1:wr.heap.size<=w6.heap.size:=Ij.out.size
     have hput:=Z4.out.put (x:=x) (r2:=⟨A2,rn+1,c2,rb++[b]⟩) (w':=w7) (by rw[HR.out];exact AA3.out) HM7.out (by
      have h1:=mg.out.Am Ot.out (λk hk hm=>by
       simp only[Ad] at hm;subst hm;rcases Y1.out _ hk with h|h;have h1:=dE.out _ h;have h2:=QI.out;omega
       have h1:=Z4.out.top.lt;simp at h;omega)
      simp only[Bf,AL,BC]
      exact h1) (λk hk=>by rw[HR.out];rcases Y1.out k hk with h|h;exact .inl h;right;simp at h;omega) (xX.out.1.Am Ot.out (by have h1:=tX.out x (Aa xW.out);simp;omega)) (λp hp=>(xX.out.2 p hp).Am Ot.out (by have h1:=tX.out p.1 (dD.out p hp);simp;omega)) AIS
     (have hn:(kg.map Prod.fst).Nodup:=by rw[<- UY];exact Z4.out.top.nodup);refine⟨j+1,Dp kg x ⟨A2,rn+1,c2,rb++[b]⟩,Ac,by go_num,hput,λy=>?_,?_,λk hk=>?_,λp hp=>?_⟩
     ·rw[tV hn,AAx xW.out,HKB2.out];by_cases hxy:x=y
      ·subst hxy;simp[HRB.out]
      simp[hxy,oZ.out y]
     ·refine iT.out.trans AA3.out (λk hk=>?_);rcases AA.1 hk with rfl|hk;left;simp;exact .inr (dE.out k hk)
     ·rcases AU.1 ((Y4 hn x _).mem_iff.1 hk) with h|h
      ·rcases Y1.out k h with h|h;exact dE.out k h;have h1:=iT.out.size;simp at h;omega
      have:k∈QX kg:=(Y3 hn x).mem_iff.2 (Bi _ h);exact AA1.out k this
     rcases (Ji hn).1 hp with rfl|⟨hp,_⟩;exact Aa xW.out;exact dD.out p hp
    simp[intOf];omega
  have hjk: ¬(j:Int)<kn:=by omega
  have HKB2:Hid ((ks[j]?).getD false=false):=AQ (by
   have h1:=HK.out.1;simp only[BH,D7] at h1
   rw[CS Ac];rfl)
  have HOA:Hid (Own (wr.drew.alloc (.cells #[.bool false] 4)) 4 1 rA rn rc (kv rb)):=AQ (HOR.out.Am (((AZ.refl [] wr).drew).alloc _) EY);have hlk2:(Instr.lookup 120 (.map (some km)) (.pointer (some ⟨x,0,none⟩)) false).run Ae ((wr.alloc (.cells #[.bool false] 4)).drew)=.ok (.slice rA rn rc) ((wr.alloc (.cells #[.bool false] 4)).drew):=ALt.out false;go_wp2;refine wp_region_held_drew (S:=λw'=>AZ (km::bo rA) wr w') Ap ((AZ.refl _ _).drew) (λhHeld=>?_);refine Gm 0 (λw' hSw=>hSw.cell k0 AEN.out) ?_;refine tk 1 ?_;refine Gm 2 (λw' hSw=>hSw.cell k0 AEN.out) ?_;refine tk 3 ?_;refine tk 5 ?_;refine tk 6 ?_;refine Gm 7 (λw' hSw=>hSw.cell f0 AIQ.out) ?_;refine tk 8 ?_;refine tk 9 ?_;refine tk 10 ?_;refine tk 11 ?_;refine tk 12 ?_;refine tk 13 ?_;refine tk 14 ?_;refine tk 15 ?_;refine tk 16 ?_;refine wpAnyH_ready (rs:=[4,17]) Ap AY ?_;refine AllReadyH.cons rfl (λK hK=>?a10) (AllReadyH.cons rfl (λK hK=>?b10) (AllReadyH.nil))
  case' a10=>
   go_simp;refine hK.out _ _ (hHeld) (λhHeld=>?_);(try simp only[Act.put,Be]);clear hK K;refine Ee 17 λK hK=>?_;go_simp;refine hK.out _ _ (hHeld.alloc _) (λhHeld=>?_)
  case' b10=>
   go_simp;refine hK.out _ _ (hHeld.alloc _) (λhHeld=>?_);(try simp only[Act.put,Be]);clear hK K;refine Ee 4 λK hK=>?_;go_simp;refine hK.out _ _ (hHeld) (λhHeld=>?_)
  all_goals
   (try simp only[Act.put,Be]);clear hK K;refine Ee 18 λK hK=>?_;refine JE rfl _ _ rfl tN rfl HOA.out rfl (Own.lit wr.drew 4 1 #[.bool false] 1 Az rfl).rd (by simp[Value.oneCell']) (by unfold maxLen;omega) Ac ?_;intro A2 c2 w6 hown6 Hq KI _;have Ij:Hid (AZ (bo rA) wr w6):=AQ ((((AZ.refl [] wr).drew.alloc (.cells #[.bool false] 4)).nil (bo rA)).trans Hq (λx hx=>.inl hx));have oh:Hid (∀y∈S.wr.map (EC G.ib),y∉bo rA):=AQ (λy hy hm=>by have h1:=tX.out y hy;have h2:=dE.out y hm;have h3:=QI.out;omega);have xX:Hid (Ny w6 x/\∀p∈kg,Ny w6 p.1):=AQ ⟨HB3.out.Am Ij.out (oh.out x (Aa xW.out)),λp hp=>(Z4.out.isb p hp).Am Ij.out (oh.out p.1 (dD.out p hp))⟩;obtain⟨w7,hu,AA2,qI⟩:=Mp.bU (Z4.out.top.Am Ij.out (λhm=>by have h1:=dE.out _ hm;have h2:=QI.out;omega)) (t:=120) x (Y2 xX.out.1 (λk hk=>by rw[UY] at hk;obtain⟨p,hp,rfl⟩:=Ag.1 hk;exact xX.out.2 p hp)) ACl (.slice A2 (rn+1) c2);unfold pv at hu;have mg:=AQ hown6;have Y1:=AQ KI;have HM7:=AQ AA2;have Ot:=AQ qI;have hH6:=hHeld.trans Hq (λx hx=>.inl (Aj _ hx));have hH7:=hH6.trans qI (λx hx=>.inl (by simp only[Ad] at hx;subst hx;simp));clear hown6 Hq KI AA2 qI;refine hK.out _ _ (hH6) (λhHeld=>?_);(try simp only[Act.put,Be]);clear hK K;refine Ee 19 λK hK=>?_;go_simp;refine hK.out _ _ (hH7) (λhHeld=>?_);(try simp only[Act.put,Be]);clear hK K;refine wpAnyH_done Ap ?_ _;(try simp only[Act.put,Be]);have AA3:Hid (AZ (km::bo rA) wr w7):=AQ ((Ij.out.mono (λx hx=>.inl (Aj _ hx))).trans Ot.out (λx hx=>.inl (by simp only[Ad] at hx;subst hx;simp)));clear hHeld hH6 hH7 hu hlk hlk2 f0 k0;go_wp2;go_roundw
   case rel=>
    (have AIS:km∉QX kg:=λhm=>by have h1:=AA1.out km hm;have h2:=QI.out;omega);have AQ1:wr.heap.size<=w6.heap.size:=Ij.out.size
    have hput:=Z4.out.put (x:=x) (r2:=⟨A2,rn+1,c2,rb++[false]⟩) (w':=w7) (by rw[HR.out];exact AA3.out) HM7.out (by
     have h1:=mg.out.Am Ot.out (λk hk hm=>by
      simp only[Ad] at hm;subst hm;rcases Y1.out _ hk with h|h;have h1:=dE.out _ h;have h2:=QI.out;omega
      have h1:=Z4.out.top.lt;simp at h;omega)
     simp only[Bf,AL,BC]
     exact h1) (λk hk=>by rw[HR.out];rcases Y1.out k hk with h|h;exact .inl h;right;simp at h;omega) (xX.out.1.Am Ot.out (by have h1:=tX.out x (Aa xW.out);simp;omega)) (λp hp=>(xX.out.2 p hp).Am Ot.out (by have h1:=tX.out p.1 (dD.out p hp);simp;omega)) AIS
    (have hn:(kg.map Prod.fst).Nodup:=by rw[<- UY];exact Z4.out.top.nodup);refine⟨j+1,Dp kg x ⟨A2,rn+1,c2,rb++[false]⟩,Ac,by go_num,hput,λy=>?_,?_,λk hk=>?_,λp hp=>?_⟩
    ·rw[tV hn,AAx xW.out,HKB2.out];by_cases hxy:x=y
     ·subst hxy;simp[HRB.out]
     simp[hxy,oZ.out y]
    ·refine iT.out.trans AA3.out (λk hk=>?_);rcases AA.1 hk with rfl|hk;left;simp;exact .inr (dE.out k hk)
    ·rcases AU.1 ((Y4 hn x _).mem_iff.1 hk) with h|h
     ·rcases Y1.out k h with h|h;exact dE.out k h;have h1:=iT.out.size;simp at h;omega
     have:k∈QX kg:=(Y3 hn x).mem_iff.2 (Bi _ h);exact AA1.out k this
    rcases (Ji hn).1 hp with rfl|⟨hp,_⟩;exact Aa xW.out;exact dD.out p hp
   simp[intOf];omega
 (obtain rfl:j=S.wr.length:=by omega);have HKW:Hid (w.heap.size<=km):=AQ (by have h1:=Dc.out.size;have h2:=QI.out;omega);have HCE:Hid (AZ [] w wr):=AQ (Pz.out.trans iT.out (λx hx=>by simp only[Ad] at hx;subst hx;exact .inr HKW.out))
 have S9:=AQ (HF2.out.keep iT.out (λx hx hm=>by
  simp only[Ad] at hm;have h1:=HF.out.lt x hx;have h2:=HKW.out
  omega))
 have HKE:=AQ (HKB.out.Am iT.out AY);have HTE:=AQ (HT3.out.keep iT.out (λx hx hm=>HLT.out x hx (by simpa using hm)));have HVE:Hid (Val S.files.length (Je S.safe (S.FQ.take i))):=AQ (HI.out.safe.run (bn HI.out.FQ i))
 have HWE:Hid (wd (Je S.safe (S.FQ.take i))<=1073741824):=AQ (by
  have h1:=AEB (bn HI.out.FQ i);have h2:=HI.out.OE;have h3:=HB.out;rw[CB] at h1
  omega)
 have AQ2:Hid (∀x,x<S.files.length->dC kg (EC G.ib x)=S.keep ks x):=AQ (λx hx=>by rw[oZ.out];exact AJ1 HF.out.Yy HF.out.QG HI.out.wr ks hx)
 have HKL:Hid (∀x,x<S.files.length->(dC kg (EC G.ib x)).length<=1073741824):=AQ (λx hx=>by
  rw[oZ.out]
  exact Ah (AEM _ _ _ _) hnw)
 clear hjn;(go_wp2_with fail);refine (tK 56 #[_] @AP9 wr ob g' G.ib (Je S.safe (S.FQ.take i)) S.files.length (S.after ks) HTE.out X7.out HVE.out HWE.out (λx hx wr2 hc2=>?_)).mono ?_
 ·have hce:=(HKE.out.Am hc2 AB).cell 0;exact AFe (S9.out.CX hc2) HI.out HB.out hx (km+1) km kg (by simpa using hce) (Z4.out.GK hc2) (HKL.out x hx) _ (AQ2.out x hx)
 rintro e w9 ⟨A,n,c,ds,rfl,hds,hv,U9,hn⟩;have O4:=AQ hds;have HV:=AQ hv;have Z5:=AQ U9;have HN:=AQ hn;clear hds hv U9 hn;go_wp2;go_ret;refine⟨A,n,c,ds,rfl,O4.out,?_,HCE.out.Aq Z5.out,λk hk=>Ah HCE.out.size (HN.out k hk)⟩;rw[HV.out];unfold shows St.left
 have ht:S.FQ.take i=S.FQ.take names.toNat:=by
  rw[<- HKN.out];unfold xR;rcases QS names.toNat S.FQ.length with h|h;rw[DK h];rw[Nat.min_eq_right h,VL,Bc h]
 rw[ht]
end Go.Proofs.YtkkgcebhfghdnaaGreatDoor.Vw
