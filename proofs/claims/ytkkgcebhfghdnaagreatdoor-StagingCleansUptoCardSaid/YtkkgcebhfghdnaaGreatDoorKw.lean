/- Part 23 of what that rests on; no condition. -/
import Derived.Test.YtkkgcebhfghdnaaGreatDoorKo
import Derived.Test.YtkkgcebhfghdnaaGreatDoorKv
import Derived.Conc.LeavingOf
import Derived.Lib.SmallJoins
import Derived.SevenTold
import Derived.Stop.Joined
set_option maxRecDepth 100000
set_option maxHeartbeats 8000000
namespace Go.Proofs.YtkkgcebhfghdnaaGreatDoor.Vw
open Go.RowKit
theorem Lay.ins{w w':World}{Ps Qs:List (List Nat)}{P:List Nat}(h:Lay w (Ps++Qs))(hn: ∀x∈P,w.heap.size<=x)(hl: ∀x∈P,x<w'.heap.size)(hs:w.heap.size<=w'.heap.size):Lay w' (Ps++P::Qs):=by
 have hsep:=h.sep;unfold Sep at hsep;rw[IM] at hsep;obtain⟨s1,s2,s3⟩:=hsep;refine⟨?_,λQ hQ x hx=>?_⟩
 ·unfold Sep;rw[IM];refine⟨s1,EI.2 ⟨λQ hQ x hx hq=>?_,s2⟩,λA hA B hB x hx hb=>?_⟩
  ·have h1:=hn x hx;have h2:=h.lt Q (Bi _ hQ) x hq;omega
  rcases AA.1 hB with rfl|hB
  ·have h1:=hn x hb;have h2:=h.lt A (Bh _ hA) x hx;omega
  exact s3 A hA B hB x hx hb
 rcases AU.1 hQ with hQ|hQ;exact BU (h.lt Q (Bh _ hQ) x hx) hs;rcases AA.1 hQ with rfl|hQ;exact hl x hx;exact BU (h.lt Q (Bi _ hQ) x hx) hs
theorem Rh{D:He}{d:ByteArray×List (ByteArray×List Int)}(h:d∈D):d.2.length<=Gp D/\∀x∈d.2,x.2.length<=Gp D:=by
 unfold Gp
 induction D with
 |nil=>simp at h|cons y r ih=>
  simp only[AL,List.sum_cons];rcases AA.1 h with rfl|h
  ·have h1:d.2.length<=(d.2.map λx=>x.2.length+1).sum/\∀x∈d.2,x.2.length<=(d.2.map λx=>x.2.length+1).sum:=by
    generalize d.2=l
    induction l with
    |nil=>simp|cons z l ih2=>
     simp only[List.length_cons,AL,List.sum_cons,AA];refine⟨Ac,λx hx=>?_⟩;rcases hx with rfl|hx;omega;have:=ih2.2 x hx;omega
   exact⟨Ac,λx hx=>by have:=h1.2 x hx;omega⟩
  have h1:=ih h;exact⟨Ac,λx hx=>by have:=h1.2 x hx;omega⟩
def xY (w:World) (D:He) (BR stop:Int) (e:Ending) (w':World):Prop:=
 (ER D BR≠0/\e=.returned (.tuple #[.pointer none,.int .i64 (ER D BR)])/\AZ [] w w')\/
 (ER D BR=0/\∃G,e=.returned (.tuple #[.pointer (some ⟨G.b,0,none⟩),.int .i64 0])/\ED w' G (FT D BR stop)/\(∀x∈G.all,w.heap.size<=x)/\AZ [] w w')
theorem AA4(w:World)(A:Option Addr)(n c:Nat)(ds:List DM)(BR stop:Int)(h:Gl w A n c ds)(hn:n<=1073741824)(hb:Gp (BG ds)<=1073741824):
  Calls Ae 17 #[.slice A n c,.int .i64 BR,.int .i64 stop] w (xY w (BG ds) BR stop):=by
 have HD:=AQ h;have HB:=AQ hb;have hmm:= @run_makeMap Ae;clear h hb;have k54:= @AHh;have k58:= @AQB;have k59:= @ALN;go_enter AKP,Tryz.ntmps17;by_cases hq:BR<0
 ·have HE:Hid (ER (BG ds) BR=2):=AQ (by unfold ER;rw[if_pos hq]);go_wp2
  go_ret2
  exact .inl ⟨by rw[HE.out];decide,by rw[HE.out];rfl,AZ.refl _ _⟩
 have HE:Hid (ER (BG ds) BR=GX true noS (BG ds)):=AQ (by unfold ER;rw[if_neg hq]);obtain⟨t1,ht1⟩: ∃t1,w.heap.size=t1:=⟨_,rfl⟩;obtain⟨W,hW⟩: ∃W,(w.alloc (.map #[] 0)).alloc (.cells #[.map (some t1),.map none,.slice none 0 0,.slice none 0 0,.int .i64 BR,.int .i64 stop,.int .i64 0] 116)=W:=⟨_,rfl⟩;have hcW:AZ [] w W:=by rw[<- hW];exact ((AZ.refl [] w).alloc _).alloc _
 have hOp:iQ W ⟨t1+1,t1,[],[],[],[]⟩ [] [] BR stop:=by
  have hbk:Bo W (t1+1) 116 #[.map (some t1),.map none,.slice none 0 0,.slice none 0 0,.int .i64 BR,.int .i64 stop,.int .i64 0]:=by
   rw[<- hW];have:=Bo.new (w.alloc (.map #[] 0)) 116 #[.map (some t1),.map none,.slice none 0 0,.slice none 0 0,.int .i64 BR,.int .i64 stop,.int .i64 0];simpa[ht1] using this
  have htr:Tree W t1 []:=⟨by rw[<- hW,<- ht1];exact (Mp.made w IA).Am ((AZ.refl [] _).alloc _) AB,AY,AY⟩;refine⟨hbk,htr,⟨λk=>rfl,λk d F hd=>by cases hd⟩,rfl,rfl,rfl,AY,AY,⟨?_,?_⟩⟩;simp[Qm.parts,Sep,EL];intro P hP x hx;have h1:=hbk.lt;have h2:=htr.top.lt;simp only[Qm.parts,EL,BC,AA,JY,or_false] at hP;rcases hP with rfl|rfl|rfl;simp at hx;omega;simp at hx;omega;simp at hx
 have HOP:=AQ hOp;have Pz:=AQ hcW;have HT1:=AQ ht1;clear hOp hcW;go_wp2
 go_loopw [9,10,11,12,13,26] (λs9 _ _ _ _ s26 wr=>∃(i:Nat) (g1:MJ) (ib sg:List Nat) (Ls:List (List Nat)),i<=n/\s26=.int .i64 i/\s9=.string (Eh noS ((BG ds).take i))/\GX true noS ((BG ds).take i)=0/\
  iQ wr ⟨t1+1,t1,g1,ib,sg,Ls⟩ (IW 0 ((BG ds).take i)) (J5 ((BG ds).take i)) BR stop/\(∀x∈(Qm.mk (t1+1) t1 g1 ib sg Ls).parts.flatten,w.heap.size<=x)/\AZ [] w wr) (λ_ _ _ _ _ s26 _=>n - (intOf s26).toNat)
 case atStart=>exact⟨0,[],[],[],[],BP _,rfl,rfl,rfl,HOP.out,by have:=HT1.out;simp[Qm.parts,EL];omega,Pz.out⟩
 obtain⟨i,g1,ib,sg,Ls,hin,rfl,rfl,hpre,hop,hnew,hch⟩:=hrel;have YS:=AQ hpre;have YT:=AQ hop;have OL:=AQ hnew;have Dc:=AQ hch;clear hpre hop hnew hch HOP Pz;by_cases hlt:i<n
 ·(have hlt':(i:Int)<n:=by omega);obtain⟨d,hd⟩: ∃d,ds[i]? =some d:=⟨_,Af (by have:=HD.out.row.OJ;simp[Ej] at this;omega)⟩;obtain⟨⟨FV,dA,dn,dc⟩,Gq⟩:=d;(have hdv:(BG ds)[i]? =some (FV,BI Gq):=by unfold BG;rw[AV,hd];rfl);obtain⟨ad,rfl,hat⟩:=(HD.out.GK Dc.out).row.ns (j:=i) (x:=⟨FV,dA,dn,dc⟩) (by unfold Ej;rw[AV,hd];rfl);have x0:=hat.c0;have x1:=hat.c1;have XF:=AQ hdv;have HDM:=AQ (Aa hd);clear hd hdv hat;obtain⟨dv,AA5⟩: ∃dv,wr.heap.size=dv:=⟨_,rfl⟩;obtain⟨W1,hW1⟩: ∃W1,wr.alloc (.cells #[.string FV,.slice dA dn dc] 77)=W1:=⟨_,rfl⟩;(have hv1:Bo W1 dv 77 #[.string FV,.slice dA dn dc]:=by rw[<- hW1,<- AA5];exact Bo.new wr _ _);(have hc1:AZ [] wr W1:=by rw[<- hW1];exact (AZ.refl [] wr).alloc _);have v0:=hv1.cell 0;have v1:=hv1.cell 1;simp only[Fv] at v0 v1;have X9:=AQ hv1;have DC:=AQ hc1;have AIT:=AQ AA5;clear hv1 hc1;(go_wp2_with fail);(have hb0:(((i:Int))==0)=(i==0):=by cases i<;>rfl);rw[hb0];refine (Zp (i==0) (Eh noS ((BG ds).take i)) FV W1).mono ?_;rintro e w2 ⟨rfl,rfl⟩;obtain⟨E,hE⟩: ∃E,Gn (i==0) (Eh noS ((BG ds).take i)) FV=E:=⟨_,rfl⟩;rw[hE];have HEE:=AQ hE;clear hE hb0;by_cases hE0:E=0
  ·subst hE0;have AOt:Hid (FV∉((BG ds).take i).map Prod.fst):=AQ (AII XF.out YS.out HEE.out);have AEO:=AQ (YT.out.CX DC.out);have b0:=AEO.out.blk.cell 0;simp only[Fv] at b0;obtain⟨fb,hfb⟩: ∃fb,w2.heap.size=fb:=⟨_,rfl⟩;have AQ3:=AQ hfb;have hcA:AZ [] w2 ((w2.alloc (.map #[] 0)).drew):=((AZ.refl [] w2).alloc _).drew;obtain⟨W3,hu,AAi,hc3⟩:=Mp.update (AEO.out.Ep.top.Am hcA AB) (Cm J4) IZ FV (.map (some fb))
   have hmf:Mp W3 fb IA []:=by
    (have h1:Mp ((w2.alloc (.map #[] 0)).drew) fb IA []:=by rw[<- hfb];exact (Mp.made w2 IA).Am ((AZ.refl [] _).drew) AB);refine h1.Am hc3 ?_;have h2:=AEO.out.Ep.top.lt;simp only at h2;simp;omega
   have GV:Hid (AZ [t1] w2 W3):=AQ ((hcA.nil [t1]).trans hc3 (λx hx=>.inl hx));have HTD:Hid (BJ (IW 0 ((BG ds).take i)) FV=none):=AQ (Fa.2 (by rw[cu];exact AOt.out));have ALu:=AQ (AEO.out.dir HTD.out GV.out AAi hmf Ac)
   have AA6:Hid (dv≠t1/\w.heap.size<=dv/\w.heap.size<=fb/\t1<dv):=AQ (by
    have h1:=AIT.out;have h2:=Dc.out.size;have h3:=YT.out.Ep.top.lt;have h4:=DC.out.size;simp only at h3
    refine⟨Ac,Ac,Ac,Ac⟩)
   have hS7:=hc3;clear AAi hmf hc3;go_wp2;refine wp_region_held_drew (S:=λw'=>AZ [t1] w2 w') Ap ((AZ.refl _ _).drew) (λhHeld=>?_);refine tk 0 ?_;refine tk 1 ?_;refine tk 2 ?_;refine Gm 3 (λw' hSw=>hSw.cell b0 AY) ?_;refine tk 4 ?_;refine Gm 5 (λw' hSw=>hSw.cell v0 (λh=>AA6.out.1 (by simpa using h))) ?_;refine Ee 6 λK hK=>?_;go_simp;refine hK.out _ _ (hHeld.alloc _) (λhHeld=>?_);(try simp only[Act.put,Be]);clear hK K;refine Ee 7 λK hK=>?_;go_simp;refine hK.out _ _ (hHeld.trans hS7 (λx hx=>.inl hx)) (λhHeld=>?_);(try simp only[Act.put,Be]);clear hK K;refine wpAnyH_done Ap ?_ _;(try simp only[Act.put,Be]);have ZA:=AQ (X9.out.Am GV.out (by simpa using AA6.out.1));have u1:=ZA.out.cell 1;simp only[Fv] at u1;have hFR:=HD.out.Iu _ HDM.out;have TA:=AQ hFR;have hml:Gq.length=dn:=by have:=hFR.row.OJ;simpa[Fe] using this
   have hmb:dn<=1073741824:=by
    have h1:=(Rh (Aa XF.out)).1;have h2:=HB.out;simp only[BI,BH] at h1;omega
   have TB:=AQ hml;have ASG:Hid (wr.heap.size<=W3.heap.size):=AQ (Ah DC.out.size GV.out.size)
   have AIU:Hid (∀x∈(Qm.mk (t1+1) t1 (Dp g1 FV (fb,[])) ib sg Ls).parts.flatten,w.heap.size<=x):=AQ (λx hx=>by
    simp only[Qm.parts,List.flatten_cons,AU] at hx;rcases hx with h|h|h;exact OL.out x (by simp only[Qm.parts,List.flatten_cons,AU];exact .inl h)
    ·rcases NT (B:=w.heap.size) YT.out.Ep.nodup (.inr AA6.out.2.2.1) x h with h|h;exact OL.out x (by simp only[Qm.parts,List.flatten_cons,AU];exact .inr (.inl h));exact h
    exact OL.out x (by simp only[Qm.parts,List.flatten_cons,AU];exact .inr (.inr h)))
   have ALv:Hid (AZ [] w W3):=AQ ((Dc.out.Aq DC.out).trans GV.out (λx hx=>by simp only[Ad] at hx;subst hx;right;have:=HT1.out;omega));clear hHeld b0 hu hfb hS7 hcA hFR hml x0 x1 v0 v1;go_wp2
   go_loopw [13,14,15,16,52] (λs13 _ _ _ s52 wr=>∃(k:Nat) (g1:MJ) (ib sg:List Nat) (Ls:List (List Nat)),k<=dn/\s52=.int .i64 k/\s13=.string (Eh noS ((BI Gq).take k))/\EU true noS ((BI Gq).take k)=0/\
    iQ wr ⟨t1+1,t1,g1,ib,sg,Ls⟩ (IW 0 ((BG ds).take i)++[(FV,IV (0+Hy ((BG ds).take i)) ((BI Gq).take k))]) (J5 ((BG ds).take i)++((BI Gq).take k).map λx=>(x.2,[])) BR stop/\
    Bo wr dv 77 #[.string FV,.slice dA dn dc]/\(∀x∈(Qm.mk (t1+1) t1 g1 ib sg Ls).parts.flatten,w.heap.size<=x)/\AZ [] w wr/\dv∉EL t1 g1) (λ_ _ _ _ s52 _=>dn - (intOf s52).toNat)
   case atStart=>exact⟨0,_,_,_,_,BP _,rfl,rfl,rfl,by simpa[IV] using ALu.out,ZA.out,AIU.out,ALv.out,by
    intro hm;rcases AA.1 hm with h|h;exact AA6.out.1 h;obtain⟨p,hp,e⟩:=Ag.1 h;have h3:=AIT.out;rcases (Ji YT.out.Ep.nodup).1 hp with rfl|⟨hp,_⟩;have h1:=AQ3.out;have h2:=X9.out.lt;simp only at e;omega;have h1:p.2.1<wr.heap.size:=(YT.out.Ep.sub p hp).lt
    omega⟩
   obtain⟨k,g2,ib2,sg2,Ls2,iR,rfl,rfl,mi,zX,hvb,Jl,gJ,ALw⟩:=hrel;have XG:=AQ mi;have Z7:=AQ zX;have xZ:=AQ hvb;have Ia:=AQ Jl;have Sr:=AQ gJ;have AIV:=AQ ALw;clear mi zX hvb Jl gJ ALw ALu ZA AIU ALv;by_cases hkl:k<dn
   ·(have hkl':(k:Int)<dn:=by omega);obtain⟨x,hx⟩: ∃x,Gq[k]? =some x:=⟨_,Af (by have:=TB.out;omega)⟩;(have hxv:(BI Gq)[k]? =some (x.1.nm,x.2):=by unfold BI;rw[AV,hx];rfl);have AIW:=TA.out.GK Sr.out;obtain⟨bd,hbd,hat⟩:=AIW.row.ns (j:=k) (x:=x.1) (by unfold Fe;rw[AV,hx];rfl);subst hbd;have z0:=hat.c0;have z1:=hat.c1;have HXD:=AQ (AIW.dat x (Aa hx));have mr:=AQ hxv
    have HXN:Hid (x.1.n<=1073741824):=AQ (by
     have h1:=(Rh (Aa XF.out)).2 (x.1.nm,x.2) (Aa hxv);have h2:=HB.out;have h3:=HXD.out.1;simp only[BH,D7] at h3;simp only at h1
     omega)
    have AQ4:Hid (∃e,BJ g2 FV=some e):=AQ (by
     obtain⟨e,he,_⟩:=Z7.out.Kt.get (k:=FV) (F:=IV (0+Hy ((BG ds).take i)) ((BI Gq).take k)) (by rw[NI HTD.out,if_pos rfl])
     exact⟨e,he⟩)
    obtain⟨⟨f2,fl2⟩,he⟩:=AQ4.out;have HE2:=AQ he;clear hx hxv AIW hat he;obtain⟨fv,AA7⟩: ∃fv,wr.heap.size=fv:=⟨_,rfl⟩;obtain⟨W4,TC⟩: ∃W4,wr.alloc (.cells #[.string x.1.nm,.slice x.1.A x.1.n x.1.c] 64)=W4:=⟨_,rfl⟩;(have hv4:Bo W4 fv 64 #[.string x.1.nm,.slice x.1.A x.1.n x.1.c]:=by rw[<- TC,<- AA7];exact Bo.new wr _ _);(have hc4:AZ [] wr W4:=by rw[<- TC];exact (AZ.refl [] wr).alloc _);have v0:=hv4.cell 0;have v1:=hv4.cell 1;have d0:=(xZ.out.Am hc4 AB).cell 0;have b0:=(Z7.out.CX hc4).blk.cell 0;simp only[Fv] at v0 v1 d0 b0;have MK:=AQ hc4;have HV4:=AQ hv4;have AA8:=AQ AA7;clear hv4 hc4;(go_wp2_with fail);(have hb0:(((k:Int))==0)=(k==0):=by cases k<;>rfl);rw[hb0];refine (Zp (k==0) (Eh noS ((BI Gq).take k)) x.1.nm W4).mono ?_;rintro e w4 ⟨rfl,rfl⟩;obtain⟨E,hE⟩: ∃E,Gn (k==0) (Eh noS ((BI Gq).take k)) x.1.nm=E:=⟨_,rfl⟩;rw[hE];have HEX:=AQ hE;clear hE hb0;by_cases hE0:E=0
    ·subst hE0;have AIX:=AQ (Z7.out.CX MK.out);have jQ:=AQ (CP HE2.out)
     have PK:Hid (f2≠t1/\t1+1≠f2/\dv≠f2/\fv≠f2/\w.heap.size<=f2):=AQ (by
      have hm:=JF (tb:=t1) jQ.out;refine⟨Z7.out.Ep.Kr jQ.out,λe=>?_,λe=>AIV.out (by rw[e];exact hm),λe=>?_,Ia.out f2 (by simp only[Qm.parts,List.flatten_cons,AU];exact .inr (.inl hm))⟩;exact Z7.out.lay.ne (i:=0) (j:=1) (P:=[t1+1]) (Q:=EL t1 g2) rfl rfl Az (t1+1) AY (by rw[e];exact hm);have h1:=(Z7.out.Ep.sub _ jQ.out).lt;have h2:=AA8.out;simp only at h1
      omega)
     have AQ5:Hid (BJ (Ef g2) FV=some (.map (some f2))):=AQ (by rw[EZ,HE2.out];rfl);go_wp2;refine wp_region_held_drew (S:=λw'=>AZ [f2] w4 w') Ap ((AZ.refl _ _).drew) (λhHeld=>?_);refine tk 0 ?_;refine tk 1 ?_;refine tk 2 ?_;refine Gm 3 (λw' hSw=>hSw.cell b0 (by simpa using PK.out.2.1)) ?_;refine tk 4 ?_;refine Gm 5 (λw' hSw=>hSw.cell d0 (by simpa using PK.out.2.2.1)) ?_;refine wpAnyH_take (i:=6) (v:=?_) rfl Ap Ap Ap (λ_ _ _ h=>h) (Or.inl ⟨by rfl,?_⟩) (by assumption) ?_;rotate_left
     ·(intro w' hSw;have y:=(Mp.lookup (AIX.out.Ep.top.Am hSw (by simpa using PK.out.1.symm)) (Cm J4) IZ (z:=.map none) Ap FV).1;rw[AQ5.out] at y;simp only[Option.getD_some] at y;go_simp;try with_reducible rfl)
     (try simp only[Act.put,Be]);refine tk 7 ?_;refine tk 8 ?_;refine Gm 9 (λw' hSw=>hSw.cell v1 (by simpa using PK.out.2.2.2.1)) ?_;refine Ee 10 λK hK=>?_;go_simp;refine (new_any x.1.A x.1.n x.1.c x.2 _ HXN.out ((HXD.out.Am MK.out EY).Am ((AZ.refl [] _).drew) EY)).mono ?_;rintro ee w5 ⟨oq,L0,rfl,hs5,hc5,hL5⟩;have Ql:Hid (AZ [] w4 w5):=AQ ((AZ.refl [] w4).drew.Aq hc5);have HS5:=AQ hs5;have HL5:Hid (∀k∈L0,w4.heap.size<=k):=AQ hL5;have X0:Hid (Bo (w5.alloc (.cells #[.pointer (some ⟨oq,0,none⟩)] 126)) w5.heap.size 126 #[.pointer (some ⟨oq,0,none⟩)]):=AQ (Bo.new w5 _ _);obtain⟨W6,hu,ALx,hc6⟩:=Mp.update ((AIX.out.Ep.sub _ jQ.out).Am (Ql.out.Aq ((AZ.refl [] w5).alloc (.cells #[.pointer (some ⟨oq,0,none⟩)] 126))) AB) (Cm J4) Oc x.1.nm (.pointer (some ⟨w5.heap.size,0,none⟩));simp only at hu;have HM6:=AQ ALx;have Ij:Hid (AZ [f2] (w5.alloc (.cells #[.pointer (some ⟨oq,0,none⟩)] 126)) W6):=AQ hc6;have hH5:=hHeld.Aq hc5;have hS6:=Ij.out;clear hs5 hL5 ALx hc6;refine hK.out _ _ (hH5) (λhHeld=>?_);(try simp only[Act.put,Be]);clear hK K;refine tk 11 ?_;refine Ee 12 λK hK=>?_;go_simp;refine hK.out _ _ (hHeld.alloc _) (λhHeld=>?_);(try simp only[Act.put,Be]);clear hK K;refine Ee 13 λK hK=>?_;go_simp;refine hK.out _ _ (hHeld.trans hS6 (λx hx=>.inl hx)) (λhHeld=>?_);(try simp only[Act.put,Be]);clear hK K;refine wpAnyH_done Ap ?_ _;(try simp only[Act.put,Be]);have HAN:Hid (BJ (IV (0+Hy ((BG ds).take i)) ((BI Gq).take k)) x.1.nm=none):=AQ (Fa.2 (by rw[cZ];exact AFc mr.out XG.out HEX.out));have HLEN:Hid ((J5 ((BG ds).take i)++((BI Gq).take k).map λx=>((x.2,[]):Hg)).length=0+Hy ((BG ds).take i)+((BI Gq).take k).length):=AQ (by rw[DU,BH,UW];omega)
     have HF6:=AQ (AIX.out.file HTD.out HAN.out (λp hp q hq=>by
      rw[HLEN.out];rcases AU.1 hp with hp|hp;have:=dB p hp q hq;omega;simp only[Ad] at hp;subst hp
      exact tC q hq) HE2.out Ql.out HL5.out HS5.out ((AZ.refl [] w5).alloc _) (AP _) X0.out Ij.out HM6.out)
     have ALy:Hid (AZ [f2] w4 W6):=AQ (((Ql.out.Aq ((AZ.refl [] w5).alloc _)).nil [f2]).trans Ij.out (λx hx=>.inl hx));have yN:=AQ ((xZ.out.Am MK.out AB).Am ALy.out (by simpa using PK.out.2.2.1));clear hHeld hS6 hc5 hu hH5 b0 d0 v0 v1 z0 z1;go_wp2;go_roundw
     case rel=>
      have hsz:w.heap.size<=w4.heap.size:=Ah Sr.out.size MK.out.size;have hsz5:=Ql.out.size;refine⟨k+1,Dp g2 FV (f2,Dp fl2 x.1.nm w5.heap.size),ib2++[w5.heap.size],sg2++[oq],Ls2++[L0],Ac,by go_num,by rw[take_snoc _ _ _ mr.out,XB],U8 mr.out XG.out HEX.out,?_,yN.out,?_,(Sr.out.Aq MK.out).trans ALy.out (λx hx=>by simp only[Ad] at hx;subst hx;exact .inr PK.out.2.2.2.2),?_⟩;rotate_left
      ·intro y hy;simp only[Qm.parts,List.flatten_cons,JW,List.flatten_nil,EK,AU] at hy;have hN:=Ia.out;simp only[Qm.parts,List.flatten_cons,AU] at hN;rcases hy with h|h|h|h|h;exact hN y (.inl h)
       ·rcases NT (B:=w.heap.size) Z7.out.Ep.nodup (.inr PK.out.2.2.2.2) y h with h|h;exact hN y (.inr (.inl h));exact h
       ·rcases h with h|h;exact hN y (.inr (.inr (.inl h)));simp only[Ad] at h;omega
       exact hN y (.inr (.inr (.inr h)));have:=HL5.out y h;omega
      ·intro hm;rcases AA.1 hm with h|h;exact AA6.out.1 h;obtain⟨p,hp,e⟩:=Ag.1 h;rcases (Ji Z7.out.Ep.nodup).1 hp with rfl|⟨hp,_⟩;exact PK.out.2.2.1 e.symm;exact AIV.out (by rw[<- e];exact JF hp)
      have hf:=HF6.out;rw[HLEN.out] at hf;rw[take_snoc _ _ _ mr.out,mV,Bf,<- Dt];exact hf
     simp[intOf];omega
    have hne:(E !=0)=true:=by simp[hE0]
    have S9:Hid (EU true noS (BI Gq)=E):=AQ (by
     rw[Y0 mr.out XG.out];unfold EU
     rw[HEX.out,if_pos hE0])
    have PL:Hid (ER (BG ds) BR=E):=AQ (by
     rw[HE.out,UX XF.out YS.out];unfold GX
     rw[HEE.out,if_neg AY,S9.out,if_pos hE0])
    have xe:=AQ hE0;clear hE0;go_wp2
    go_ret2
    exact .inl ⟨by rw[PL.out];exact xe.out,by rw[PL.out];rfl,Sr.out.Aq MK.out⟩
   (obtain rfl:k=dn:=by omega);have Lc:Hid ((BI Gq).take k=BI Gq):=AQ (Bc (by unfold BI;rw[BH,TB.out];exact AP _));clear u1;go_wp2;go_roundw
   case rel=>
    have hf:=XG.out;rw[Lc.out] at hf;have ho:=Z7.out;rw[Lc.out] at ho;refine⟨i+1,g2,ib2,sg2,Ls2,Ac,by go_num,by rw[take_snoc _ _ _ XF.out,XB],gI XF.out YS.out HEE.out hf,?_,Ia.out,Sr.out⟩;rw[take_snoc _ _ _ XF.out,mW,su];exact ho
   simp[intOf];omega
  have hne:(E !=0)=true:=by simp[hE0]
  have PL:Hid (ER (BG ds) BR=E):=AQ (by
   rw[HE.out,UX XF.out YS.out];unfold GX
   rw[HEE.out,if_pos hE0])
  have xe:=AQ hE0;clear hE0;go_wp2
  go_ret2
  exact .inl ⟨by rw[PL.out];exact xe.out,by rw[PL.out];rfl,Dc.out.Aq DC.out⟩
 (obtain rfl:i=n:=by omega);(have hlen:(BG ds).length=i:=by have:=HD.out.row.OJ;simpa[Ej,BG] using this);have HTK:Hid ((BG ds).take i=BG ds):=AQ (Bc Ac);have AQ6:Hid (ER (BG ds) BR=0):=AQ (by rw[HE.out,<- HTK.out];exact YS.out);have b0:=YT.out.blk.cell 0;simp only[Fv] at b0;clear hmm hlen;(go_wp2_with fail);refine (Wy wr t1 g1 YT.out.Ep).mono ?_;rintro e w2 ⟨ob,g',rfl,htr,hnw,hc2,hcp⟩;have AEP:=AQ (YT.out.CX hc2);have c1:=AEP.out.blk.cell 1;have f1:=AEP.out.blk.frozen 1;have Rx:=AQ (AEP.out.blk.Em 1 (.map (some ob)));simp only[Fv] at c1;have iO:=AQ htr;have Lh:=AQ hnw;have HC2:=AQ hc2;have qE:=AQ hcp;clear htr hnw hc2 hcp b0;go_wp2
 go_ret2
 refine .inr ⟨AQ6.out,⟨t1+1,t1,ob,g1,g',none,0,[],none,0,ib,ib,sg,Ls⟩,rfl,?_,?_,?_⟩
 ·have UU:AZ [t1+1] w2 (w2.setCell ⟨t1+1,1,none⟩ (.map (some ob))):=(AZ.refl [t1+1] w2).setCell (.inl AY) _;generalize w2.setCell ⟨t1+1,1,none⟩ (.map (some ob))=W9 at UU Rx⊢;have hop:=AEP.out;rw[HTK.out] at hop;have hL: ∀x∈[t1+1],x∈[t1+1]:=λx hx=>hx;have hk:=λ(i:Nat) (P:List Nat) (hi:(Qm.mk (t1+1) t1 g1 ib sg Ls).parts[i]? =some P) (hn:i≠0)=>hop.lay.mY (j:=0) rfl hL hi hn
  have AQ7: ∀x∈EL ob g',x∉[t1+1]:=λx hx hm=>by
   simp only[Ad] at hm;subst hm;have h1:=Lh.out _ hx;have h2:=YT.out.blk.lt;simp only at h2;omega
  refine⟨by simpa[FT] using Rx.out,hop.Ep.keep UU (hk 1 _ rfl Az),hop.Kt,iO.out.keep UU AQ7,hop.Kt.copied qE.out,Own.nil _ _ _,λi c v e1=>by simp[FT] at e1,Own.nil _ _ _,hop.QG,hop.Vx,hop.Qk,hop.Yy,λ_ h=>h,λi x g L f e1 e2 e3 e4=>(hop.ino i x g L f e1 e2 e3 e4).keep UU (hk 2 _ rfl Az x (Aa e1)) (hk (i+3) L (by simpa[Qm.parts] using e3) Ac),?_⟩;have l1:Lay W9 (([t1+1]::EL t1 g1::[])++EL ob g'::(ib::Ls)):=Lay.ins (w:=wr) (Ps:=[t1+1]::EL t1 g1::[]) (Qs:=ib::Ls) YT.out.lay (λx hx=>Lh.out x hx) (λx hx=>BU (iO.out.lt x hx) UU.size) (Ah HC2.out.size UU.size);have l2:Lay W9 (([t1+1]::EL t1 g1::EL ob g'::[])++[]::(ib::Ls)):=Lay.ins (w:=W9) (Ps:=[t1+1]::EL t1 g1::EL ob g'::[]) (Qs:=ib::Ls) l1 AY AY (AP _);exact Lay.ins (w:=W9) (P:=[]) (Ps:=[t1+1]::EL t1 g1::EL ob g'::[]::[]) (Qs:=ib::Ls) l2 AY AY (AP _)
 ·intro x hx;have hN:=OL.out;simp only[Qm.parts,List.flatten_cons,AU] at hN;simp only[Bg.all,Bg.parts,List.flatten_cons,AU,Wl,AB,false_or] at hx;rcases hx with h|h|h|h|h;exact hN x (.inl h);exact hN x (.inr (.inl h));exact Ah Dc.out.size (Lh.out x h);exact hN x (.inr (.inr (.inl h)));exact hN x (.inr (.inr (.inr h)))
 exact (Dc.out.Aq HC2.out).setCell (.inr (by have:=HT1.out;simp only;omega)) _
theorem Inv.make{B:Nat}{S:St}(h:Inv B S){c:FH}(hc:c.ok S.files.length S.seen):Inv (B+1) (S.make c):=by
 obtain⟨h1,h2,h3,h4,h5,h6,h7,h8,h9,h10⟩:=h;refine⟨h1,?_,?_,h4,?_,?_,?_,?_,?_,h10⟩;exact AFS.2 ⟨h2,by show FH.ok S.files.length (Je S.safe S.FQ) c;rw[h3];exact hc⟩
 ·show Je S.safe (S.FQ++[c])=c.on S.seen;rw[Yx,h3]
 all_goals (simp only[St.make,DU,List.length_cons,List.length_nil];omega)
theorem Inv.step{B:Nat}{S:St}(h:Inv B S):Inv (B+1) {S with steps:=S.steps+1}:=by
 obtain⟨h1,h2,h3,h4,h5,h6,h7,h8,h9,h10⟩:=h;exact⟨h1,h2,h3,h4,by simp only;omega,by simp only;omega,by simp only;omega,by simp only;omega,by simp only;omega,h10⟩
theorem Inv.Dn{B:Nat}{S:St}(h:Inv B S)(d:ByteArray):Inv (B+1) (S.Dn d).1:=by
 unfold St.Dn;by_cases h0:S.ask false [d]=0
 ·rw[if_neg (by simp[h0])];by_cases h1:(BJ S.seen d).isSome=true;rw[if_pos h1];exact h.mono Ac;rw[if_neg h1];refine h.make ⟨(Gx h0).2.1 d AY,?_⟩
  cases hg:BJ S.seen d with|none=>rfl|some F=>rw[hg] at h1;simp at h1
 rw[if_pos h0];exact h.mono Ac
theorem Inv.create{B:Nat}{S:St}(h:Inv B S)(d n:ByteArray):Inv (B+2) (S.create d n).1:=by
 unfold St.create;by_cases h0:S.ask true [d,n]=0
 ·rw[if_neg (by simp[h0])];by_cases h1:(BJ (GR S.seen d) n).isSome=true;rw[if_pos h1];exact h.mono Ac;rw[if_neg h1];obtain⟨F,hF⟩:=(Gx h0).2.2 rfl;simp only[List.headD_cons] at hF
  have:=(h.Zu []).make (c:=.create d n S.files.length) ⟨AY,(Gx h0).2.1 n AY,F,hF,by
   rw[GU hF] at h1
   cases hg:BJ F n with|none=>rfl|some i=>rw[hg] at h1;simp at h1⟩
  exact this.mono AY
 rw[if_pos h0];exact h.mono Ac
theorem Z8(fs:List Hg)(x:Nat)(φ:Hg->Hg)(k:Nat)(hφ: ∀f,(φ f).all.length+(φ f).2.length<=f.all.length+f.2.length+k):IK (fs.modify x φ)<=IK fs+k:=by
 unfold IK
 induction fs generalizing x with
 |nil=>simp|cons f r ih=>
  cases x with|zero=>simp only[List.modify_zero_cons,AL,List.sum_cons];have:=hφ f;omega|succ x=>simp only[List.modify_succ_cons,AL,List.sum_cons];have:=ih x;omega
theorem Inv.modify{B k:Nat}{S:St}(h:Inv B S)(x:Nat)(φ:Hg->Hg)(wr':List Nat)(hφ: ∀f,(φ f).all.length+(φ f).2.length<=f.all.length+f.2.length+k)(hw: ∀y∈wr',y<S.files.length)(hl:wr'.length<=S.wr.length+1):Inv (B+k+1) {S with files:=S.files.modify x φ,wr:=wr',steps:=S.steps+1}:=by
 obtain⟨h1,h2,h3,h4,h5,h6,h7,h8,h9,h10⟩:=h;have hb:=Z8 S.files x φ k hφ;refine⟨by simpa using h1,by simpa using h2,h3,by simpa using hw,by simp only;omega,by simp only[List.length_modify];omega,by simp only;omega,by simp only;omega,by simp only;omega,h10⟩
theorem Inv.write{B:Nat}{S:St}(h:Inv B S)(d n:ByteArray)(xs:List Int):Inv (B+xs.length+2) (S.write d n xs).1:=by
 unfold St.write
 cases hf:S.Qj d n with
 |mk o e=>
  cases o with
  |none=>exact h.mono Ac|some x=>
   simp only;by_cases hx:xs=[];rw[if_pos hx];exact h.step.mono Ac;rw[if_neg hx];by_cases hq:S.BR<(S.used:Int)+xs.length;rw[if_pos hq];exact h.mono Ac;rw[if_neg hq]
   have:=h.modify (k:=xs.length+1) x (λf=>(f.1,f.2++[xs])) (S.wr++[x]) (λf=>by simp[Hg.all];omega) (λy hy=>by
    rcases AU.1 hy with hy|hy;exact h.wr y hy
    simp only[Ad] at hy;subst hy;exact iq h hf) AY
   exact this.mono Ac
theorem Inv.sync{B:Nat}{S:St}(h:Inv B S)(d n:ByteArray):Inv (B+1) (S.sync d n).1:=by
 unfold St.sync
 cases hf:S.Qj d n with
 |mk o e=>
  cases o with
  |none=>exact h.mono Ac|some x=>
   exact h.modify (k:=0) x (λf=>(Hg.all f,[])) (S.wr.filter (λy=>y !=x)) (λf=>by simp[Hg.all]) (λy hy=>h.wr y (I4.1 hy).1) (Ah (Jn _ _) Ac)
theorem Inv.names{B:Nat}{S:St}(h:Inv B S):Inv (B+1) S.names.1:=by
 unfold St.names;by_cases hd:S.down=true;rw[if_pos hd];exact h.mono Ac;rw[if_neg hd];have hv:=h.val;have hw:=h.wd;obtain⟨h1,h2,h3,h4,h5,h6,h7,h8,h9,h10⟩:=h;exact⟨hv,trivial,rfl,h4,by simp only[List.length_nil];omega,by simp only;omega,by simp only;omega,by simp only;omega,by simp only;omega,h10⟩
theorem Inv.rename{B:Nat}{S:St}(h:Inv B S)(a b:ByteArray):Inv (B+1) (S.rename a b).1:=by
 unfold St.rename;by_cases h0:S.ask true [a,b]=0
 ·rw[if_neg (by simp[h0])];obtain⟨F,hF⟩:=(Gx h0).2.2 rfl;simp only[List.headD_cons] at hF;exact h.make ⟨(Gx h0).2.1 b AY,F,hF⟩
 rw[if_pos h0];exact h.mono Ac
theorem Inv.remove{B:Nat}{S:St}(h:Inv B S)(d n:ByteArray):Inv (B+1) (S.remove d n).1:=by
 unfold St.remove
 cases hf:S.Qj d n with
 |mk o e=>
  cases o with
  |none=>exact h.mono Ac|some x=>
   obtain⟨_,_,F,hF,_⟩:=UT hf;exact h.make ⟨F,hF⟩
theorem Inv.rmdir{B:Nat}{S:St}(h:Inv B S)(d:ByteArray):Inv (B+1) (S.rmdir d).1:=by
 unfold St.rmdir;by_cases h0:S.ask true [d]=0
 ·rw[if_neg (by simp[h0])];obtain⟨F,hF⟩:=(Gx h0).2.2 rfl;simp only[List.headD_cons] at hF;by_cases h1:(GR S.seen d).length>0;rw[if_pos h1];exact h.mono Ac;rw[if_neg h1];exact h.make ⟨F,hF⟩
 rw[if_pos h0];exact h.mono Ac
section
variable {w0 w:World} {p:Nat} {S:St} {B:Nat}
end
open Go.ChangeShapes Go.WideShapes Go.Deep
theorem YU{H:Type}(D:Nat->DataW H)(n:Nat){α:Type}(Z:List α)(G:α->Nat)(hl:Z.length=n)(h: ∀(i:Nat) z,Z[i]? =some z->G z<=Rows.uptoBulk (D i)):(Z.map G).sum<=Rows.uptoBulkAll ((List.range n).map D):=by
 have h1:=Vf D n (λi=>(Z[i]?.map G).getD 0) (λi hil=>by
  have hz:Z[i]? =some (Z[i]'Ac):=Af Ac;rw[hz]
  exact h i _ hz)
 have h2:(List.range n).map (λi=>(Z[i]?.map G).getD 0)=Z.map G:=by
  apply D6;intro i;rw[AV,AV];by_cases hil:i<n
  ·rw[Af (by simpa using hil),Af Ac];(have AH1:i<Z.length:=by omega);simp[AH1]
  rw[CS (by simp;omega),CS Ac];rfl
 rwa[h2] at h1
theorem collect{α:Type}{Q:Nat->α->Prop}(n:Nat)(h: ∀i,i<n->∃z,Q i z): ∃Z:List α,Z.length=n/\∀(i:Nat) z,Z[i]? =some z->Q i z:=by
 induction n with
 |zero=>exact⟨[],rfl,λi z h=>by simp at h⟩|succ k ih=>
  obtain⟨zs,h1,h2⟩:=ih (λi hi=>h i Ac);obtain⟨z,hz⟩:=h k Ac;refine⟨zs++[z],by simp[h1],λi y hy=>?_⟩;by_cases hik:i<k;rw[Dy Ac] at hy;exact h2 i y hy;rw[Bj Ac] at hy
  have h0:i=k:=by
   rcases Gg k i with h3|h3;rw[CS (by simp;omega)] at hy;cases hy;omega
  subst h0;rw[h1,DT] at hy;simp at hy;subst hy;exact hz
theorem AEQ{W:World}{a:Addr}{n c:Nat}{xs:List Jm}(hl:xs.length=n)(hn:n<=c)(hm:c<=maxLen)(h: ∀(i:Nat) x,xs[i]? =some x->W.cell? (a.add (i*2))=some (.string x.nm)/\W.cell? (a.add (i*2+1))=some (.slice x.A x.n x.c)):Rd W 2 (some a) n c (Iw xs):=by
 refine⟨by rw[fO,hl],hn,hm,(λe=>by cases e),λad e=>?_⟩;injection e with e;subst e;refine⟨λhp=>?_,λj u hu=>?_⟩
 ·obtain⟨x,hx⟩: ∃x,xs[0]? =some x:=⟨_,Af Ac⟩;have:=World.block_lt_of_cell? _ _ (h 0 x hx).1;rwa[add_block] at this
 have hj:=Px xs (j/2) (j % 2) (Ib _ Az);rw[show j/2*2+j % 2=j by omega,hu] at hj
 cases hx:xs[j/2]? with
 |none=>rw[hx] at hj;simp at hj|some x=>
  rw[hx] at hj;simp only[Option.bind_some] at hj;have h2:=h _ x hx;rcases MX j with e|e
  ·rw[e] at hj;have:=h2.1;rw[show j/2*2=j by omega] at this;rw[this];simpa[Jm.cells] using hj.symm
  rw[e] at hj;have:=h2.2;rw[show j/2*2+1=j by omega] at this;rw[this];simpa[Jm.cells] using hj.symm
theorem DI.trans{w w1 w2:World}{G G1:Bg}{S2:St}(ha: ∀x∈G1.all,x∈G.all\/w.heap.size<=x)(hb:G1.b=G.b)(hc:AZ G.all w w1)(h:DI w1 G1 S2 w2):DI w G S2 w2:=by
 obtain⟨G',h1,h2,h3,h4⟩:=h;refine⟨G',h1,h2.trans hb,λx hx=>?_,hc.trans h4 ha⟩;rcases h3 x hx with h|h;exact ha x h;exact .inr (Ah hc.size h)
theorem DI.names{w w1:World}{G:Bg}{S1:St}{B:Nat}(h:DI w G S1 w1)(hi:Inv B S1)(hB:B<=1073741824):
  Calls Ae 50 #[.pointer (some ⟨G.b,0,none⟩)] w1 λe w'=>e=.returned (.int .i64 S1.names.2)/\DI w G S1.names.1 w':=by
 obtain⟨G',h1,h2,h3,h4⟩:=h;rw[<- h2];exact (sW h1 hi hB).mono λe w' ⟨a,b⟩=>⟨a,.trans h3 h2 h4 b⟩
theorem DI.before{w w1 w2:World}{G:Bg}{S2:St}(hc:AZ [] w w1)(h:DI w1 G S2 w2):DI w G S2 w2:=by
 obtain⟨G',h1,h2,h3,h4⟩:=h;exact⟨G',h1,h2,λx hx=>(h3 x hx).imp id (λh=>Ah hc.size h),(hc.nil _).trans h4 (λx hx=>.inl hx)⟩
theorem DI.Am{w w1:World}{G:Bg}{S1:St}(h:DI w G S1 w1):AZ G.all w w1:=by obtain⟨_,_,_,_,h⟩:=h;exact h
def dat (D:He):List (List Int):=D.flatMap λd=>d.2.map (·.2)
theorem AFg(g:Nat->List Int){n:Nat}{l:List (ByteArray×List Int)}(h: ∀(k:Nat) x,l[k]? =some x->g (n+k)=x.2):(IV n l).map (λq=>(q.1,g q.2))=l:=by
 induction l generalizing n with
 |nil=>rfl|cons x r ih=>
  simp only[IV,AL];rw[ih (n:=n+1) (λk y hy=>by have:=h (k+1) y (by simpa using hy);rw[<- this];congr 1;omega)];have:=h 0 x rfl;rw[Nat.add_zero] at this;rw[this]
theorem AFh(g:Nat->List Int){n:Nat}{D:He}(h: ∀(k:Nat) x,(dat D)[k]? =some x->g (n+k)=x):(IW n D).map (λp=>(p.1,p.2.map λq=>(q.1,g q.2)))=D:=by
 induction D generalizing n with
 |nil=>rfl|cons d r ih=>
  simp only[IW,AL];have hd:dat (d::r)=d.2.map (·.2)++dat r:=rfl
  rw[ih (n:=n+d.2.length) (λk y hy=>by
    have:=h (d.2.length+k) y (by rw[hd,Bj AY];simpa using hy)
    rw[<- this];congr 1;omega),
   AFg g (n:=n) (l:=d.2) (λk x hx=>h k x.2 (by
    rw[hd,Dy (by simp;exact (BB.1 hx).1),AV,hx];rfl))]
theorem AA9(D:He):J5 D=(dat D).map λx=>(x,[]):=by
 unfold J5 dat;rw[List.map_flatMap];congr 1;funext d;simp
theorem open_bytes{D:He}{q s:Int}{k:Nat}{x:List Int}(h:(dat D)[k]? =some x):(FT D q s).files.getD k ([],[])=(x,[]):=by
 show (J5 D).getD k ([],[])=_;rw[AA9,CW,AV,h];rfl
theorem AIY(out:List Int)(start:Nat)(ks:List Bool):Oh out start [] ks=out:=by simp[Oh]
theorem xg{s:Int}(k:Int)(h:s<0):TZ s k=false:=by unfold TZ;rw[show decide (0<=s)=false from decide_eq_false Ac];rfl
theorem Ou{S:St}(h:S.stop<0):S.down=false:=xg _ h
theorem xh{S:St}(hd:S.down=false){d:ByteArray}{ns:List ByteArray}(hg:(d::ns).all DR=true){F:Qi}(hF:BJ S.seen d=some F)(t:Bool):S.ask t (d::ns)=0:=by
 unfold St.ask;rw[if_neg (by simp[hd]),if_neg (by simp[hg]),if_neg];rw[List.headD_cons,hF];simp
theorem ABA{S:St}(h:S.down=false):S.view=S.seen.map λp=>(p.1,p.2.map λq=>(q.1,S.bytes q.2)):=by unfold St.view;rw[if_neg (by simp[h])]
theorem xk{S:St}{i:Nat}(h:(S.files.getD i ([],[])).2=[])(ks:List Bool):S.after ks i=S.bytes i:=by
 unfold St.after St.bytes;simp only;unfold Hg.all;rw[h,AIY];simp
theorem UZ(a b:ByteArray):decide (a=b)=(a.toList==b.toList):=by
 rw[J3,decide_eq_true_eq,beq_iff_eq];refine⟨λh=>by rw[h],λh=>?_⟩;rw[ByteArray.toList_eq,ByteArray.toList_eq] at h;exact data_inj h
theorem Z9(l:List Nat)(i:Nat):(l.take i).sum<=l.sum:=by
 conv=>rhs;rw[<- Gs i l,Jv]
 omega
theorem Rd.ALz{w:World}{A:Option Addr}{n c:Nat}{xs:List Int}(h:Rd w 1 A n c (bv xs)):xs.length=n:=by have:=h.1;simpa using this
def TD (D:He):Nat:=(D.map λd=>d.2.length+1).sum
theorem ABB{D:He}{d:ByteArray×List (ByteArray×List Int)}(h:d∈D):d.2.length+D.length<=TD D:=by
 unfold TD
 induction D with
 |nil=>simp at h|cons q r ih=>
  simp only[AL,List.sum_cons,List.length_cons]
  have hl:r.length<=(r.map λd=>d.2.length+1).sum:=by
   clear ih h
   induction r with|nil=>simp|cons z l ih=>simp only[List.length_cons,AL,List.sum_cons];omega
  rcases AA.1 h with rfl|h;omega;have:=ih h;omega
theorem AIZ(D:He):D.length<=TD D:=by
 cases D with|nil=>simp|cons d r=>have:=ABB (D:=d::r) (BZ ..);omega
theorem Gl.bnd{w:World}{A:Option Addr}{n c:Nat}{ds:List DM}(h:Gl w A n c ds){B:Nat}(hB:TD (BG ds)<=B):n<=B/\∀d∈ds,d.1.n<=B:=by
 (have h1:(BG ds).length=n:=by have:=h.row.OJ;simpa[BG,Ej] using this);refine⟨by have:=AIZ (BG ds);omega,λd hd=>?_⟩;have h2:(d.1.nm,BI d.2)∈BG ds:=Ag.2 ⟨d,hd,rfl⟩;have h3:=ABB h2;(have h4:(BI d.2).length=d.1.n:=by have:=(h.Iu d hd).row.OJ;simpa[BI,Fe] using this);simp only at h3;omega
theorem VA{w:World}{A:Option Addr}{n c:Nat}{ds:List DM}(h:Gl w A n c ds){B:Nat}(hB:Gp (BG ds)<=B):n<=B/\bytesOf (BG ds)<=B/\TD (BG ds)<=B/\∀x∈ds,x.1.n<=B/\∀f∈x.2,f.1.n<=B:=by
 have hs: ∀l:List (ByteArray×List Int),(l.map λx=>x.2.length+1).sum=(l.map λx=>x.2.length).sum+l.length:=by
  intro l
  induction l with|nil=>rfl|cons x r ih=>simp only[AL,List.sum_cons,List.length_cons,ih];omega
 have he: ∀D:He,Gp D=bytesOf D+TD D:=by
  intro D;unfold Gp bytesOf TD
  induction D with|nil=>rfl|cons x r ih=>simp only[AL,List.sum_cons,hs] at ih⊢;omega
 have h0:=he (BG ds);have h1:=h.bnd (B:=B) Ac;refine⟨h1.1,Ac,Ac,λx hx=>⟨h1.2 x hx,λf hf=>?_⟩⟩;have h2:(x.1.nm,BI x.2)∈BG ds:=Ag.2 ⟨x,hx,rfl⟩;have h3:(f.1.nm,f.2)∈BI x.2:=Ag.2 ⟨f,hf,rfl⟩
 have hm: ∀(l:List (ByteArray×List Int)) y,y∈l->y.2.length<=(l.map λx=>x.2.length).sum:=by
  intro l
  induction l with
  |nil=>simp|cons z r ih=>
   intro y hy;simp only[AL,List.sum_cons];rcases AA.1 hy with rfl|hy;omega;have:=ih y hy;omega
 have hM: ∀(D:He) d,d∈D->(d.2.map λx=>x.2.length).sum<=bytesOf D:=by
  unfold bytesOf;intro D
  induction D with
  |nil=>simp|cons z r ih=>
   intro y hy;simp only[AL,List.sum_cons];rcases AA.1 hy with rfl|hy;omega;have:=ih y hy;omega
 have h4:=hm _ _ h3;have h5:=hM _ _ h2;have h6:=((h.Iu x hx).dat f hf).ALz;simp only at h4 h5;omega
section
variable {w w1:World} {p:Nat} {G:Bg} {S S1:St} {B:Nat}
end
open Go.Joins
theorem AQ8{q:Int}(h:(Lit.int .i64 q).wf=true):q<=9223372036854775807:=by
 simp only[Lit.wf,BF,decide_eq_true_eq] at h;(have h2:IntKind.max .i64=9223372036854775807:=by decide);rw[h2] at h;omega
open Go Go.Conc
def Iz (W:World) (b:Nat):Prop:=∃p t f,W.heap[b]? =some (.cells p t f)
theorem cells_of_cell{W:World}{a:Addr}{v:Value}(h:W.cell? a=some v):Iz W a.block:=by
 unfold World.cell? at h;split at h;exact⟨_,_,_,by assumption⟩;cases h
def Vk (W:World) (A:Option Addr) (c:Nat):Prop:=∀ad,A=some ad->0<c->Iz W ad.block
theorem Vk.none{W:World}{c:Nat}:Vk W none c:=λ_ h=>by cases h
structure iy (W:World) (A:Option Addr) (n c:Nat) (fs:List FM):Prop where
 files:Ff W A n c fs
 row:Vk W A c
 dat: ∀f∈fs,Vk W f.1.A f.1.c/\∀z∈f.2,0<=z/\z<=255
structure ADB (W:World) (A:Option Addr) (n c:Nat) (ds:List DM):Prop where
 Ld:Gl W A n c ds
 row:Vk W A c
 Iu: ∀d∈ds,iy W d.1.A d.1.n d.1.c d.2
theorem Vl{P:Program}{H:Type}{enc:TypeId×Value->H}{W:World}{sp:Nat->Bool}{held:Bool}{t e:TypeId}{v1:Value}{n:Nat}{y:DataW H×List MemPlace}(ht:P.underlying t=some (.slice e))(h1:DataW.trod enc P W 0 sp held n t [v1]=some y): ∃a l c,v1=.slice a l c:=by
 rcases open_slice ht h1 with ⟨h1,_⟩|⟨a,len,cap,m,n,D,Pl,h1,_⟩;simp at h1;exact⟨_,_,_,h1⟩;simp at h1;exact⟨_,_,_,h1⟩
theorem gK{H:Type}{enc:TypeId×Value->H}{W:World}{held:Bool}{t e:TypeId}(ht:Tryz.prog.underlying t=some (.slice e))(he:Tryz.prog.cellsOf e=1){n:Nat}{a:Option Addr}{l c:Nat}{y:DataW H×List MemPlace}
  (h:DataW.trod enc Tryz.prog W 0 (λ_=>true) held n t [.slice a l c]=some y):Vk W a c:=λad e0 hc=>by
 subst e0;rcases open_slice1 ht he h with ⟨h1,_⟩|⟨a2,len,cap,m,n,V,D,Pl,hcs,hb,hl,hm,hmm,hx,hi⟩;simp at h1;simp at hcs;obtain⟨rfl,rfl,rfl⟩:=hcs;have:=cells_of_cell (hi 0 (by rw[hmm];simpa using hc)).1;rwa[add_block] at this
theorem ABC{H:Type}{enc:TypeId×Value->H}{W:World}{held:Bool}{v:Value}{d:DataW H}{p:List MemPlace}
  (hv: ∃a l c,v=.slice a l c) (h:DataW.Trod enc Tryz.prog W 0 (λ_=>true) held 25 v d p):
  ∃A n c,∃fs:List FM,v=.slice A n c/\iy W A n c fs/\(fs.map λx=>x.2.length+1).sum+1<=Rows.uptoBulk d:=by
 obtain⟨a0,l0,c0,rfl⟩:=hv;obtain⟨fuel,hf⟩:=h;rcases RS (e:=64) Tryz.underlying25 Tryz.underlying64 Ap Ap hf with ⟨hcs,hx⟩|⟨a,len,cap,m,D,Pl,hcs,hb,hl,hm,hmm,hx,hi⟩
 ·simp[Value.cells] at hcs;obtain⟨rfl,rfl,rfl⟩:=hcs;simp only[EW] at hx;obtain⟨rfl,rfl⟩:=hx;exact⟨none,0,0,[],rfl,⟨⟨Rd.nil _ _,AY⟩,.none,AY⟩,by simp[Rows.uptoBulk]⟩
 simp[Value.cells] at hcs;obtain⟨rfl,rfl,rfl⟩:=hcs;simp only[EW] at hx;obtain⟨rfl,rfl⟩:=hx;have hle:l0<=m:=by rw[hmm];split<;>omega
 have el: ∀i,i<l0->∃x:FM,(W.cell? (a.add (i*2))=some (.string x.1.nm)/\W.cell? (a.add (i*2+1))=some (.slice x.1.A x.1.n x.1.c)/\Rd W 1 x.1.A x.1.n x.1.c (bv x.2)/\Vk W x.1.A x.1.c/\∀z∈x.2,0<=z/\z<=255)/\x.2.length+1<=Rows.uptoBulk (D i):=by
  intro i hil;obtain⟨ys,n',hD,hPl,hyl,hfl⟩:=hi i Ac;obtain⟨v0,y0,e0,g0,t0⟩:=hfl 0 _ rfl;obtain⟨v1,y1,e1,g1,t1⟩:=hfl 1 _ rfl;obtain⟨nm,h0,hy0,_⟩:=DataW.trod_string Tryz.underlying9 t0;simp at h0;subst h0;obtain⟨a1,l1,c1,rfl⟩:=Vl Tryz.underlying62 t1;obtain⟨A1,n1,wP,zs,hz1,hz2,hz3,hz4,hz5⟩:=AFJ Tryz.underlying62 Tryz.underlying5 Ap ⟨_,_,_,rfl⟩ ⟨n',t1⟩;injection hz1 with i1 i2 i3;subst i1;subst i2;subst i3;refine⟨(⟨nm,a1,l1,c1⟩,zs),⟨by simpa using e0,e1,hz2,gK Tryz.underlying62 Ap t1,λz hz=>bounds_u8 (hz5 z hz)⟩,?_⟩;rw[hD]
  have hys:ys=[y0,y1]:=by
   match ys,hyl with| [z0,z1],_=>simp at g0 g1;rw[g0,g1]
  rw[hys];simp only[AL,BC,Rows.uptoBulk,Rows.uptoBulkAll,hz3];omega
 obtain⟨fs,hll,hlp⟩:=collect l0 el;have hs:=YU D l0 fs (λx=>x.2.length+1) hll (λi z hz=>(hlp i z hz).2);refine⟨some a,l0,c0,fs,rfl,⟨⟨AEQ (by simp[Fe,hll]) hl hm (λi x hx=>?_),λf hf=>?_⟩,(λad e hc=>by injection e with e;subst e;obtain⟨ys,n',_,_,_,hfl⟩:=hi 0 (by rw[hmm];simpa using hc);obtain⟨v0,y0,e0,_,_⟩:=hfl 0 _ rfl;have:=cells_of_cell e0;rwa[add_block] at this),λf hf=>?_⟩,?_⟩
 ·unfold Fe at hx;rw[AV] at hx
  cases hz:fs[i]? with
  |none=>rw[hz] at hx;cases hx|some z=>
   rw[hz] at hx;simp at hx;subst hx;exact⟨(hlp i z hz).1.1,(hlp i z hz).1.2.1⟩
 ·obtain⟨i,hi'⟩:=Eo hf;exact (hlp i f hi').1.2.2.1
 ·obtain⟨i,hi'⟩:=Eo hf;exact (hlp i f hi').1.2.2.2
 simp only[Rows.uptoBulk];omega
theorem ADC{H:Type}{enc:TypeId×Value->H}{W:World}{held:Bool}{v:Value}{d:DataW H}{p:List MemPlace}
  (hv: ∃a l c,v=.slice a l c) (h:DataW.Trod enc Tryz.prog W 0 (λ_=>true) held 22 v d p):
  ∃A n c,∃ds:List DM,v=.slice A n c/\ADB W A n c ds/\Gp (BG ds)+1<=Rows.uptoBulk d:=by
 obtain⟨a0,l0,c0,rfl⟩:=hv;obtain⟨fuel,hf⟩:=h;rcases RS (e:=77) Tryz.underlying22 Tryz.underlying77 Ap Ap hf with ⟨hcs,hx⟩|⟨a,len,cap,m,D,Pl,hcs,hb,hl,hm,hmm,hx,hi⟩
 ·simp[Value.cells] at hcs;obtain⟨rfl,rfl,rfl⟩:=hcs;simp only[EW] at hx;obtain⟨rfl,rfl⟩:=hx;exact⟨none,0,0,[],rfl,⟨⟨Rd.nil _ _,AY⟩,.none,AY⟩,by simp[Rows.uptoBulk,Gp,BG]⟩
 simp[Value.cells] at hcs;obtain⟨rfl,rfl,rfl⟩:=hcs;simp only[EW] at hx;obtain⟨rfl,rfl⟩:=hx;have hle:l0<=m:=by rw[hmm];split<;>omega
 have el: ∀i,i<l0->∃x:DM,(W.cell? (a.add (i*2))=some (.string x.1.nm)/\W.cell? (a.add (i*2+1))=some (.slice x.1.A x.1.n x.1.c)/\iy W x.1.A x.1.n x.1.c x.2)/\(x.2.map λf=>f.2.length+1).sum+1<=Rows.uptoBulk (D i):=by
  intro i hil;obtain⟨ys,n',hD,hPl,hyl,hfl⟩:=hi i Ac;obtain⟨v0,y0,e0,g0,t0⟩:=hfl 0 _ rfl;obtain⟨v1,y1,e1,g1,t1⟩:=hfl 1 _ rfl;obtain⟨nm,h0,hy0,_⟩:=DataW.trod_string Tryz.underlying9 t0;simp at h0;subst h0;obtain⟨a1,l1,c1,rfl⟩:=Vl Tryz.underlying25 t1;obtain⟨A1,n1,wP,zs,hz1,hz2,hz4⟩:=ABC ⟨_,_,_,rfl⟩ ⟨n',t1⟩;injection hz1 with i1 i2 i3;subst i1;subst i2;subst i3;refine⟨(⟨nm,a1,l1,c1⟩,zs),⟨by simpa using e0,e1,hz2⟩,?_⟩;rw[hD]
  have hys:ys=[y0,y1]:=by
   match ys,hyl with| [z0,z1],_=>simp at g0 g1;rw[g0,g1]
  rw[hys];simp only[AL,BC,Rows.uptoBulk,Rows.uptoBulkAll];omega
 obtain⟨fs,hll,hlp⟩:=collect l0 el;(have hbk:Gp (BG fs)=(fs.map λx=>(x.2.map λf=>f.2.length+1).sum+1).sum:=by unfold Gp BG;rw[Bq];congr 1;apply ES;intro x _;simp[BI,Function.comp_def]);have hs:=YU D l0 fs (λx=>(x.2.map λf=>f.2.length+1).sum+1) hll (λi z hz=>(hlp i z hz).2);refine⟨some a,l0,c0,fs,rfl,⟨⟨AEQ (by simp[Ej,hll]) hl hm (λi x hx=>?_),λf hf=>?_⟩,(λad e hc=>by injection e with e;subst e;obtain⟨ys,n',_,_,_,hfl⟩:=hi 0 (by rw[hmm];simpa using hc);obtain⟨v0,y0,e0,_,_⟩:=hfl 0 _ rfl;have:=cells_of_cell e0;rwa[add_block] at this),λf hf=>?_⟩,?_⟩
 ·unfold Ej at hx;rw[AV] at hx
  cases hz:fs[i]? with
  |none=>rw[hz] at hx;cases hx|some z=>
   rw[hz] at hx;simp at hx;subst hx;exact⟨(hlp i z hz).1.1,(hlp i z hz).1.2.1⟩
 ·obtain⟨i,hi'⟩:=Eo hf;exact (hlp i f hi').1.2.2.files
 ·obtain⟨i,hi'⟩:=Eo hf;exact (hlp i f hi').1.2.2
 rw[hbk];simp only[Rows.uptoBulk];omega
theorem ABD{H:Type}{enc:TypeId×Value->H}{W:World}{b:Nat}{r:Go.Reach}{held:Bool}{v:Value}{d:DataW H}{p:List MemPlace}
  (hv:Value.okWide Tryz.prog W r b 24 v) (h:DataW.Trod enc Tryz.prog W 0 (λ_=>true) held 24 v d p):
  ∃A n c,∃ds:List DM,∃q:Int,v=.agg #[.slice A n c,.int .i64 q]/\ADB W A n c ds/\q<=9223372036854775807/\Gp (BG ds)+1<=Rows.uptoBulk d:=by
 obtain⟨cs,rfl,hsz⟩:=okWide_struct Tryz.underlying24 hv;obtain⟨c0,c1,rfl⟩:=array2 (hsz.trans Ap);obtain⟨fuel,hf⟩:=h;obtain⟨y0,y1,m,hx,hl,h0,h1⟩:=trod_struct2 Tryz.underlying24 (by simpa[Value.cells] using hf);simp only[EW] at hx;obtain⟨rfl,rfl⟩:=hx;(have e0:Tryz.prog.cellsOf 22=1:=by kernel_rfl);(have e1:Tryz.prog.cellsOf 3=1:=by kernel_rfl);simp only[e0,e1,Jw,List.take_succ_cons,List.take_zero,VO] at h0 h1;obtain⟨a,l,c,hc⟩:=slice_form Tryz.underlying22 h0;simp only[DJ,and_true] at hc;subst hc;obtain⟨A,n0,cc,ds,k1,k2,k3⟩:=ADC ⟨_,_,_,rfl⟩ ⟨m,by simpa[Value.cells] using h0⟩;injection k1 with i1 i2 i3;subst i1;subst i2;subst i3;obtain⟨q,hq,_,hw⟩:=DataW.trod_int Tryz.underlying3 h1;simp only[DJ,and_true] at hq;subst hq;refine⟨_,_,_,ds,q,rfl,k2,AQ8 hw,?_⟩;simp only[Rows.uptoBulk,Rows.uptoBulkAll];omega
theorem xm{H:Type}{enc:TypeId×Value->H}{W:World}{held:Bool}{n:Nat}{c0 c1:Value}{y:DataW H×List MemPlace}(h:DataW.trod enc Tryz.prog W 0 (λ_=>true) held n 30 [c0,c1]=some y):
  ∃K kn kc,∃ks:List Bool,∃names:Int,c0=.slice K kn kc/\c1=.int .i64 names/\Rd W 1 K kn kc (kv ks)/\Vk W K kc/\kn+1<=Rows.uptoBulk y.1:=by
 obtain⟨y0,y1,m,hx,hl,h0,h1⟩:=trod_struct2 Tryz.underlying30 h;subst hx;(have e0:Tryz.prog.cellsOf 28=1:=by kernel_rfl);(have e1:Tryz.prog.cellsOf 3=1:=by kernel_rfl);simp only[e0,e1,Jw,List.take_succ_cons,List.take_zero,VO] at h0 h1;obtain⟨a,l,c,hc⟩:=slice_form Tryz.underlying28 h0;simp only[DJ,and_true] at hc;subst hc;obtain⟨A2,n2,cc2,ks,k1,k2,k3,k4⟩:=ACq Tryz.underlying28 Tryz.underlying4 Ap ⟨_,_,_,rfl⟩ ⟨m,by simpa[Value.cells] using h0⟩;injection k1 with i1 i2 i3;subst i1;subst i2;subst i3;obtain⟨q,hq,_,_⟩:=DataW.trod_int Tryz.underlying3 h1;simp only[DJ,and_true] at hq;subst hq;refine⟨_,_,_,ks,q,rfl,rfl,k2,gK Tryz.underlying28 Ap h0,?_⟩;simp only[Rows.uptoBulk,Rows.uptoBulkAll];omega
theorem ADE{H:Type}{enc:TypeId×Value->H}{W:World}{b:Nat}{r:Go.Reach}{held:Bool}{v:Value}{d:DataW H}{p:List MemPlace}
  (hv:Value.okWide Tryz.prog W r b 30 v) (h:DataW.Trod enc Tryz.prog W 0 (λ_=>true) held 30 v d p):
  ∃K kn kc,∃ks:List Bool,∃names:Int,v=.agg #[.slice K kn kc,.int .i64 names]/\Rd W 1 K kn kc (kv ks)/\Vk W K kc/\kn+1<=Rows.uptoBulk d:=by
 obtain⟨cs,rfl,hsz⟩:=okWide_struct Tryz.underlying30 hv;obtain⟨c0,c1,rfl⟩:=array2 (hsz.trans Ap);obtain⟨fuel,hf⟩:=h;obtain⟨K,kn,kc,ks,names,rfl,rfl,h1,h2,h3⟩:=xm (y:=(d,p)) (by simpa[Value.cells] using hf);exact⟨K,kn,kc,ks,names,rfl,h1,h2,h3⟩
section
variable {W w':World} (hcar: ∀(a:Addr) (x:Value),W.cell? a=some x->∃v,w'.cell? a=some v/\Sh (OI (Iz W)) v x) (hsz:W.heap.size<=w'.heap.size)
theorem Ua{v x:Value}(h:Sh (OI (Iz W)) v x)(hx:flat x=true):v=x:=h.wH (.flat hx)
theorem AFi{v:Value}{A:Option Addr}{n c:Nat}(h:Sh (OI (Iz W)) v (.slice A n c))(hA:Vk W A c)(hn:n<=c):v=.slice A n c\/(n=0/\c=0/\∃b,v=.slice (some b) 0 0):=by
 cases A with
 |none=>exact .inl (Ua h rfl)|some ad=>
  rcases EM c with rfl|hc
  ·(obtain rfl:n=0:=by omega);exact .inr ⟨rfl,rfl,h.AJs⟩
  exact .inl (h.wH (.slice ⟨rfl,hA ad rfl hc⟩))
include hcar hsz
theorem xn{sz n c:Nat}{A:Option Addr}{xs:List Value}(h:Rd W sz A n c xs)(hA:Vk W A c){v:Value}(hv:Sh (OI (Iz W)) v (.slice A n c)):
  ∃A' xs',v=.slice A' n c/\Rd w' sz A' n c xs'/\∀(i:Nat) x,xs[i]? =some x->∃x',xs'[i]? =some x'/\Sh (OI (Iz W)) x' x:=by
 rcases AFi hv hA h.2.1 with rfl|⟨rfl,rfl,b,rfl⟩
 ·cases A with
  |none=>
   have hn:=h.2.2.2.1 rfl
   have hx:xs=[]:=by
    have h1:=h.1;have h2:=h.2.1;rw[show n=0 by omega] at h1;simpa using h1
   subst hx;exact⟨none,[],rfl,⟨h.1,h.2.1,h.2.2.1,h.2.2.2.1,λad e=>by cases e⟩,λi x hx=>by simp at hx⟩
  |some ad=>
   obtain⟨Z,hZ,hz⟩:=collect (Q:=λi (v:Value)=>w'.cell? (ad.add i)=some v/\∀x,xs[i]? =some x->Sh (OI (Iz W)) v x) xs.length (λi hi=>by
    obtain⟨v,h1,h2⟩:=hcar _ _ ((h.2.2.2.2 ad rfl).2 i _ (Af hi))
    exact⟨v,h1,λx hx=>by rw[Af hi] at hx;cases hx;exact h2⟩)
   refine⟨some ad,Z,rfl,⟨by rw[hZ];exact h.1,h.2.1,h.2.2.1,h.2.2.2.1,λad' e=>?_⟩,λi x hx=>?_⟩
   ·injection e with e;subst e;exact⟨λhn=>BU ((h.2.2.2.2 ad rfl).1 hn) hsz,λj u hu=>(hz j u hu).1⟩
   have hl:=(BB.1 hx).1;obtain⟨z,hz'⟩: ∃z,Z[i]? =some z:=⟨_,Af Ac⟩;exact⟨z,hz',(hz i z hz').2 x hx⟩
 have hx:xs=[]:=by
  have:=h.1;simpa using this
 subst hx;exact⟨some b,[],rfl,⟨AY,AP _,BP _,(λe=>by cases e),λad e=>⟨λh=>absurd h Ac,λj u hu=>by simp at hu⟩⟩,λi x hx=>by simp at hx⟩
theorem ABE{sz n c:Nat}{A:Option Addr}{xs:List Value}(h:Rd W sz A n c xs)(hA:Vk W A c){v:Value}(hv:Sh (OI (Iz W)) v (.slice A n c))(hf: ∀x∈xs,flat x=true): ∃A',v=.slice A' n c/\Rd w' sz A' n c xs:=by
 obtain⟨A',xs',h1,h2,h3⟩:=xn hcar hsz h hA hv
 have:xs'=xs:=by
  apply D6;intro i
  cases hx:xs[i]? with
  |none=>
   rw[CS];have:=NL.1 hx;have:=h.1;have:=h2.1;omega
  |some x=>
   obtain⟨x',h4,h5⟩:=h3 i x hx;rw[h4,Ua h5 (hf x (Aa hx))]
 exact⟨A',h1,by rw[<- this];exact h2⟩
theorem ADF{A:Option Addr}{n c:Nat}{fs:List FM}(h:iy W A n c fs){v:Value}(hv:Sh (OI (Iz W)) v (.slice A n c)): ∃A' fs',v=.slice A' n c/\Ff w' A' n c fs'/\BI fs'=BI fs:=by
 obtain⟨A',xs',h1,h2,h3⟩:=xn hcar hsz h.files.row h.row hv;have hl:=h.files.row.OJ
 obtain⟨Z,hZ,hz⟩:=collect (Q:=λi (z:FM)=>xs'[i*2]? =some (.string z.1.nm)/\xs'[i*2+1]? =some (.slice z.1.A z.1.n z.1.c)/\Rd w' 1 z.1.A z.1.n z.1.c (bv z.2)/\∀f,fs[i]? =some f->(z.1.nm,z.2)=(f.1.nm,f.2)) fs.length (λi hi=>by
  obtain⟨f,hf⟩: ∃f,fs[i]? =some f:=⟨_,Af hi⟩;(have Xw:(Fe fs)[i]? =some f.1:=by unfold Fe;rw[AV,hf];rfl);have g0:=Px (Fe fs) i 0 Az;have g1:=Px (Fe fs) i 1 Az;rw[Xw] at g0 g1;obtain⟨u0,k0,l0⟩:=h3 (i*2) (.string f.1.nm) (by simpa[Jm.cells] using g0);obtain⟨u1,k1,l1⟩:=h3 (i*2+1) (.slice f.1.A f.1.n f.1.c) (by simpa[Jm.cells] using g1);obtain rfl:=Ua l0 rfl;have hm:=Aa hf;obtain⟨B,rfl,hB⟩:=ABE hcar hsz (h.files.dat f hm) (h.dat f hm).1 l1 (λx hx=>by obtain⟨z,_,rfl⟩:=Ag.1 hx;rfl)
  exact⟨(⟨f.1.nm,B,f.1.n,f.1.c⟩,f.2),k0,k1,hB,λf' hf'=>by rw[hf] at hf';cases hf';rfl⟩)
 have hxl:xs'.length=Z.length*2:=by
  have a1:=h2.1;unfold Fe at hl;rw[BH] at hl;omega
 have hxs:xs'=Iw (Fe Z):=by
  apply D6;intro j;have hj:=Px (Fe Z) (j/2) (j % 2) (Ib _ Az);rw[show j/2*2+j % 2=j by omega] at hj;rw[hj];(have e1:(Fe Z)[j/2]? =(Z[j/2]?).map (·.1):=by unfold Fe;rw[AV]);rw[e1]
  cases hzz:Z[j/2]? with
  |none=>
   have:=NL.1 hzz;rw[CS Ac];rfl
  |some z=>
   obtain⟨q0,q1,_,_⟩:=hz (j/2) z hzz;rcases MX j with e|e
   ·rw[show j/2*2=j by omega] at q0;rw[q0,e];rfl
   rw[show j/2*2+1=j by omega] at q1;rw[q1,e];rfl
 refine⟨A',Z,h1,⟨by rw[<- hxs];exact h2,λf hf=>?_⟩,?_⟩
 ·obtain⟨i,hi⟩:=Eo hf;exact (hz i f hi).2.2.1
 unfold BI;apply D6;intro i;rw[AV,AV];by_cases hi:i<fs.length
 ·obtain⟨f,hf⟩: ∃f,fs[i]? =some f:=⟨_,Af hi⟩;obtain⟨z,hzz⟩: ∃z,Z[i]? =some z:=⟨_,Af Ac⟩;rw[hf,hzz];exact congrArg some ((hz i z hzz).2.2.2 f hf)
 rw[CS Ac,CS Ac]
theorem AFj{A:Option Addr}{n c:Nat}{ds:List DM}(h:ADB W A n c ds){v:Value}(hv:Sh (OI (Iz W)) v (.slice A n c)): ∃A' ds',v=.slice A' n c/\Gl w' A' n c ds'/\BG ds'=BG ds:=by
 obtain⟨A',xs',h1,h2,h3⟩:=xn hcar hsz h.Ld.row h.row hv;have hl:=h.Ld.row.OJ
 obtain⟨Z,hZ,hz⟩:=collect (Q:=λi (z:DM)=>xs'[i*2]? =some (.string z.1.nm)/\xs'[i*2+1]? =some (.slice z.1.A z.1.n z.1.c)/\Ff w' z.1.A z.1.n z.1.c z.2/\∀f,ds[i]? =some f->(z.1.nm,BI z.2)=(f.1.nm,BI f.2)) ds.length (λi hi=>by
  obtain⟨f,hf⟩: ∃f,ds[i]? =some f:=⟨_,Af hi⟩;(have Xw:(Ej ds)[i]? =some f.1:=by unfold Ej;rw[AV,hf];rfl);have g0:=Px (Ej ds) i 0 Az;have g1:=Px (Ej ds) i 1 Az;rw[Xw] at g0 g1;obtain⟨u0,k0,l0⟩:=h3 (i*2) (.string f.1.nm) (by simpa[Jm.cells] using g0);obtain⟨u1,k1,l1⟩:=h3 (i*2+1) (.slice f.1.A f.1.n f.1.c) (by simpa[Jm.cells] using g1);obtain rfl:=Ua l0 rfl;have hm:=Aa hf;obtain⟨B,F,rfl,hB,hF⟩:=ADF hcar hsz (h.Iu f hm) l1
  exact⟨(⟨f.1.nm,B,f.1.n,f.1.c⟩,F),k0,k1,hB,λf' hf'=>by rw[hf] at hf';cases hf';rw[hF]⟩)
 have hxl:xs'.length=Z.length*2:=by
  have a1:=h2.1;unfold Ej at hl;rw[BH] at hl;omega
 have hxs:xs'=Iw (Ej Z):=by
  apply D6;intro j;have hj:=Px (Ej Z) (j/2) (j % 2) (Ib _ Az);rw[show j/2*2+j % 2=j by omega] at hj;rw[hj];(have e1:(Ej Z)[j/2]? =(Z[j/2]?).map (·.1):=by unfold Ej;rw[AV]);rw[e1]
  cases hzz:Z[j/2]? with
  |none=>
   have:=NL.1 hzz;rw[CS Ac];rfl
  |some z=>
   obtain⟨q0,q1,_,_⟩:=hz (j/2) z hzz;rcases MX j with e|e
   ·rw[show j/2*2=j by omega] at q0;rw[q0,e];rfl
   rw[show j/2*2+1=j by omega] at q1;rw[q1,e];rfl
 refine⟨A',Z,h1,⟨by rw[<- hxs];exact h2,λf hf=>?_⟩,?_⟩
 ·obtain⟨i,hi⟩:=Eo hf;exact (hz i f hi).2.2.1
 unfold BG;apply D6;intro i;rw[AV,AV];by_cases hi:i<ds.length
 ·obtain⟨f,hf⟩: ∃f,ds[i]? =some f:=⟨_,Af hi⟩;obtain⟨z,hzz⟩: ∃z,Z[i]? =some z:=⟨_,Af Ac⟩;rw[hf,hzz];exact congrArg some ((hz i z hzz).2.2.2 f hf)
 rw[CS Ac,CS Ac]
end
theorem AOu{W:World}{H:Array Obj}{ts:List Value}
  (hrow: ∀b,Iz W b->∀p t f,W.heap[b]? =some (.cells p t f)->∃p',H[b]? =some (.cells p' t f)/\TY K1.F (OI (Iz W)) W.heap.size ts p' p) (t:Nat->Question->Nat)
  (a:Addr) (x:Value) (hc:W.cell? a=some x): ∃v,(({W with heap:=H}:World).DL t).cell? a=some v/\Sh (OI (Iz W)) v x:=by
 obtain⟨p,ty,f,hp⟩:=cells_of_cell hc;obtain⟨p',hp',hsz,hst⟩:=hrow _ ⟨p,ty,f,hp⟩ p ty f hp;unfold World.cell? at hc⊢;rw[hp] at hc;rw[show (({W with heap:=H}:World).DL t).heap[a.block]? =H[a.block]? from rfl,hp'];by_cases hs:a.spot.isSome;simp[hs] at hc;simp only[hs,Ak,if_false] at hc⊢;(have hlt:a.off<p'.size:=by rw[hsz];exact (BK.1 hc).1);obtain⟨v,hv⟩: ∃v,p'[a.off]? =some v:=⟨_,Ba hlt⟩;exact⟨v,hv,(hst a.off v x hv hc).2⟩
theorem Xj(e:Int)(w:World):Calls Ae 38 #[.int .i64 e] w λr w'=>r=.returned (if e=0 then .nilIface else .iface 51 (.int .i64 e))/\w'=w:=by
 by_cases h:e=0
 ·subst h;go_enter AHJ,Tryz.ntmps38;go_wp2;go_ret;exact⟨rfl,rfl⟩
 (have hb:(e==0)=false:=by simp[h]);(have hd:decide (e=0)=false:=by simp[h]);simp only[if_neg h];clear h;go_enter AHJ,Tryz.ntmps38;go_wp2;go_ret;exact⟨rfl,rfl⟩
theorem wrap_nil(op:ByteArray)(pl:Int)(w:World):Calls Ae 37 #[.string op,.int .i64 pl,.nilIface] w λr w'=>r=.returned .nilIface/\w'=w:=by
 go_enter AHI,Tryz.ntmps37;go_wp2;go_ret;exact⟨rfl,rfl⟩
theorem Xk(op:ByteArray)(pl:Int)(t:TypeId)(v:Value)(w:World):Calls Ae 37 #[.string op,.int .i64 pl,.iface t v] w λr w'=>r=.returned (.iface 140 (.pointer (some ⟨w.heap.size,0,none⟩)))/\w'=w.alloc (.cells #[.string op,.int .i64 pl,.iface t v] 142):=by
 go_enter AHI,Tryz.ntmps37;go_wp2;go_ret;exact⟨rfl,rfl⟩
theorem AFk(t:TypeId)(v:Value)(w:World):Calls Ae 40 #[.iface t v,.nilIface] w λr w'=>r=.returned (.iface t v)/\w'=w:=by
 go_enter AHL,Tryz.ntmps40;go_wp2;go_ret;exact⟨rfl,rfl⟩
theorem AFl(t u:TypeId)(v x:Value)(w:World):Calls Ae 40 #[.iface t v,.iface u x] w λr w'=>r=.returned (.iface 150 (.pointer (some ⟨w.heap.size,0,none⟩)))/\w'=w.alloc (.cells #[.iface t v,.iface u x] 152):=by
 go_enter AHL,Tryz.ntmps40;go_wp2;go_ret;exact⟨rfl,rfl⟩
def idx (s:ByteArray):List ByteArray->Option Nat
 | []=>none|x::r=>if s=x then some 0 else (idx s r).map (· +1)
open Classical in
theorem ABF{s:ByteArray}: ∀{l:List ByteArray},(idx s l).isSome=decide (s∈l)
 | []=>by simp[idx]
 |x::r=>by
  unfold idx;by_cases h:s=x;rw[if_pos h];simp[h];rw[if_neg h,MV,ABF];simp[h]
theorem AFm{s:ByteArray}{l:List ByteArray}(h: ∀x∈l,s≠x):idx s l=none:=by
 induction l with|nil=>rfl|cons x r ih=>unfold idx;rw[if_neg (h x (BZ ..)),ih λy hy=>h y (Aj _ hy)];rfl
theorem AER{s:ByteArray}: ∀{l:List ByteArray} {k:Nat},(∀x∈l.take k,s≠x)->l[k]? =some s->idx s l=some k
 | [],k,_,h=>by simp at h|x::r,0,_,h=>by simp at h;unfold idx;rw[if_pos h.symm]
 |x::r,k+1,h1,h=>by
  simp at h;unfold idx;rw[if_neg (h1 x AY),AER (k:=k) (λy hy=>h1 y (by simp[hy])) h];rfl
def tY (s:ByteArray) (ns:List ByteArray):Int:=match idx s ns with|some k=>(k:Int)|none=> -1
theorem ADG(A:Option Addr)(n c:Nat)(ns:List ByteArray)(s:ByteArray)(w:World)(h:Rd w 1 A n c (Oi ns))(hn:n<=1073741824):
  Calls Ae 128 #[.slice A n c,.string s] w λe w'=>e=.returned (.int .i64 (tY s ns))/\AZ [] w w':=by
 (have hl:ns.length=n:=by have:=h.1;simp[Oi] at this;omega);have HR:=AQ h;have HL:=AQ hl;clear h hl;go_enter AHU,Tryz.ntmps128;go_wp2;go_loopw [8] (λi wr=>∃k:Nat,k<=n/\i=.int .i64 k/\AZ [] w wr/\Hid (∀x∈ns.take k,s≠x)) (λi _=>n - (intOf i).toNat)
 case atStart=>exact⟨0,BP _,rfl,.refl _ _,AQ AY⟩
 obtain⟨k,hk,rfl,EJ,hF⟩:=hrel;by_cases hlt:k<n
 ·obtain⟨ad,u,rfl,hu,hcell⟩:=(HR.out.Am EJ AY).bT hlt
  obtain⟨x,hx,rfl⟩: ∃x,ns[k]? =some x/\u=.string x:=by
   simp only[Oi,AV,DV] at hu;obtain⟨x,h1,h2⟩:=hu;exact⟨x,h1,h2.symm⟩
  have HX:=AQ hx;clear hu hx;by_cases he:s=x
  ·(have hb:(s.toList==x.toList)=true:=by rw[<- UZ];exact decide_eq_true he);have HE:=AQ he;clear he;go_wp2;go_ret;exact⟨by unfold tY;rw[AER hF.out (by rw[HX.out,HE.out])];rfl,EJ⟩
  (have hb:(s.toList==x.toList)=false:=by rw[<- UZ];exact decide_eq_false he);have HE:=AQ he;clear he;go_wp2;go_roundw
  case rel=>
   refine⟨k+1,Ac,by go_num,EJ,AQ λy hy=>?_⟩;rw[FC,HX.out] at hy;rcases AU.1 hy with hy|hy;exact hF.out y hy;simp at hy;rw[hy];exact HE.out
  simp[intOf];omega
 (have hkn:k=n:=by omega);subst hkn;go_wp2;go_ret;refine⟨?_,EJ⟩;have h1:=hF.out;rw[Bc (by rw[HL.out];exact AP _)] at h1;unfold tY;rw[AFm h1];rfl
theorem AFn(s:ByteArray)(ns:List ByteArray):decide (0<=tY s ns)=(idx s ns).isSome:=by
 unfold tY
 cases idx s ns with|none=>rfl|some k=>simp
theorem qJ(A:Option Addr)(n c:Nat)(ns:List ByteArray)(s:ByteArray)(w:World)(h:Rd w 1 A n c (Oi ns))(hn:n<=1073741824):
  Calls Ae 96 #[.slice A n c,.string s] w λe w'=>e=.returned (.bool (idx s ns).isSome)/\AZ [] w w':=by
 have k1:=ADG A n c ns s w h hn;rw[<- AFn];clear h
 generalize tY s ns=z at*
 have q1:= @ANp;go_enter ALA,Tryz.ntmps96;(go_wp2_with (go_at_call 128;refine k1.mono ?_;rintro e w1 ⟨rfl,hc1⟩));go_ret;exact⟨rfl,hc1⟩
end Go.Proofs.YtkkgcebhfghdnaaGreatDoor.Vw
