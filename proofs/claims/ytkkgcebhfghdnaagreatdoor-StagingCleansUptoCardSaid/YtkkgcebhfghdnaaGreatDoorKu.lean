/- Part 21 of what that rests on; no condition. -/
import Derived.Test.YtkkgcebhfghdnaaGreatDoorKt
import Derived.Deep.RegionHeld3
import Derived.Deep.RegionLaw
import Derived.LaidEqlPtr
import Derived.Lib.SliceRun
import Derived.StillTailTactics
set_option maxRecDepth 100000
set_option maxHeartbeats 8000000
namespace Go.Proofs.YtkkgcebhfghdnaaGreatDoor.Vw
open Go.RowKit
def pv (x:Nat):Value:=.pointer (some ⟨x,0,none⟩)
def Ny (w:World) (x:Nat):Prop:=∃t cs,Bo w x t cs
theorem Ny.Am{w w':World}{x:Nat}{L:List Nat}(h:Ny w x)(hc:AZ L w w')(hn:x∉L):Ny w' x:=by
 obtain⟨t,cs,h⟩:=h;exact⟨t,cs,h.Am hc hn⟩
theorem mJ{w:World}{x y:Nat}(hx:Ny w x)(hy:Ny w y):(binOp .eql 121 (.pointer (some ⟨x,0,none⟩)) (.pointer (some ⟨y,0,none⟩))).run Ae w=.ok (.bool (decide (x=y))) w:=by
 obtain⟨i,hi,hsz⟩: ∃i,Ae.info? 126=some i/\i.size≠0:=by
  have h:(Ae.info? 126).map (·.size)=some 1:=by kernel_rfl
  cases hi:Ae.info? 126 with|none=>rw[hi] at h;cases h|some i=>rw[hi] at h;injection h with h;exact⟨i,rfl,by have h':i.size=1:=h;omega⟩
 by_cases h:x=y
 ·subst h;rw[decide_eq_true rfl];exact run_eql_ptr_same w _ wJ hi
 rw[decide_eq_false h];obtain⟨t,cs,hbx⟩:=hx;obtain⟨t',cs',hby⟩:=hy;exact run_eql_ptr_other w wJ hi hsz (λe=>h (by injection e)) hbx hby
theorem mM(x y k:Nat)(w:World)(hk:w.cell? ⟨k,0,none⟩=some (pv x))(hx:Ny w x)(hy:Ny w y):
  Calls Ae 84 #[pv y,.pointer (some ⟨k,0,none⟩)] w λe w'=>e=.returned (.bool (decide (x=y)))/\AZ [] w w':=by
 have hq:=mJ hx hy;unfold pv at hk⊢;clear hx hy;obtain⟨b,hb⟩: ∃b,decide (x=y)=b:=⟨_,rfl⟩;rw[hb] at hq⊢;clear hb;go_enter APg,Tryz.ntmps84;go_wp2;go_ret;exact⟨rfl,AZ.refl _ _⟩
theorem xO{w:World}{A:Option Addr}{n c:Nat}{xs:List Nat}(h:Rd w 1 A n c (xs.map pv)){j:Nat}(hj:j<n):
  ∃ad x,A=some ad/\xs[j]? =some x/\w.cell? (ad.add j)=some (.pointer (some ⟨x,0,none⟩)):=by
 obtain⟨ad,u,h1,h2,h3⟩:=h.bT hj;rw[AV] at h2
 cases hz:xs[j]? with|none=>rw[hz] at h2;cases h2|some x=>rw[hz] at h2;simp only[Option.map_some,BD] at h2;subst h2;exact⟨ad,x,h1,rfl,h3⟩
theorem AFX(A:Option Addr)(n c:Nat)(xs:List Nat)(x k:Nat)(w:World)(hr:Rd w 1 A n c (xs.map pv))(hk:w.cell? ⟨k,0,none⟩=some (pv x))(hbx:Ny w x)(hbs: ∀y∈xs,Ny w y)(hn:n<=1073741824):
  Calls Ae 120 #[.slice A n c,.func (.func 84) #[] #[.pointer (some ⟨k,0,none⟩)]] w λe w'=>AZ [] w w'/\
   ((e=.returned (.int .i64 (-1))/\x∉xs)\/∃i:Nat,e=.returned (.int .i64 i)/\xs[i]? =some x/\x∉xs.take i):=by
 (have hl:xs.length=n:=by have:=hr.1;simp at this;omega);have HR:=AQ hr;have HK:=AQ hk;have HL:=AQ hl;have X0:=AQ hbx;have Yr:=AQ hbs;clear hr hk hl hbx hbs;go_enter AHR,Tryz.ntmps120;go_wp2;go_loopw [8] (λq wr=>∃i:Nat,i<=n/\q=.int .i64 i/\x∉xs.take i/\AZ [] w wr) (λq _=>n - (intOf q).toNat)
 case atStart=>exact⟨0,BP _,rfl,AY,AZ.refl _ _⟩
 obtain⟨i,hi,rfl,hall,hch⟩:=hrel;have Lc:=AQ hall;have Dc:=AQ hch;clear hall hch;by_cases hlt:i<n
 ·(have hlt':(i:Int)<n:=by omega);obtain⟨ad,y,rfl,hx,hcell⟩:=xO (HR.out.Am Dc.out EY) hlt;have HX:=AQ hx;clear hx;(go_wp2_with fail);refine (mM x y k wr (Dc.out.cell HK.out AB) (X0.out.Am Dc.out AB) ((Yr.out y (Aa HX.out)).Am Dc.out AB)).mono ?_;rintro e w3 ⟨rfl,hc3⟩;have GV:=AQ (Dc.out.Aq hc3);clear hc3;by_cases hxy:x=y
  ·subst hxy;simp only[decide_true];go_wp2;go_ret;exact⟨GV.out,.inr ⟨i,rfl,HX.out,Lc.out⟩⟩
  simp only[hxy,decide_false];have HXY:=AQ hxy;clear hxy;go_wp2;go_roundw
  case rel=>
   refine⟨i+1,Ac,by go_num,λhy=>?_,GV.out⟩;rw[take_snoc _ _ _ HX.out] at hy;rcases AU.1 hy with h|h;exact Lc.out h;simp at h;exact HXY.out h
  simp[intOf];omega
 (obtain rfl:i=n:=by omega);go_wp2;go_ret;refine⟨Dc.out,.inl ⟨rfl,λhm=>Lc.out ?_⟩⟩;rw[Bc (by rw[HL.out];exact AP _)];exact hm
theorem Own.after{w:World}{e:TypeId}{g n c:Nat}{xs:List Value}(h:Own w e 1 (some ⟨g,0,none⟩) n c xs){o:Nat}(ho:n<=o)(u:Value):Own (w.setCell ⟨g,o,none⟩ u) e 1 (some ⟨g,0,none⟩) n c xs:=by
 rcases h.form with ⟨h1,_⟩|⟨g',cur,hA,hb,hn,hm,hs,ht⟩;(cases h1);injection hA with hA;injection hA with hA;subst hA;refine⟨h.1,.inr ⟨g,c,_,rfl,BP _,hb.Em o u,hn,hm,by rw[Tn];exact hs,?_⟩⟩;rw[<- ht,Tq,Tt];rw[List.set_eq_of_length_le];rw[CB];omega
theorem Own.AEI{e:TypeId}{g n c:Nat}{xs:List Value}: ∀(us:List Value) {w:World} (_:Own w e 1 (some ⟨g,0,none⟩) n c xs) {o:Nat} (_:n<=o),Own (w.setCells g o us) e 1 (some ⟨g,0,none⟩) n c xs/\AZ [g] w (w.setCells g o us)
 | [],w,h,o,ho=>⟨h,AZ.refl _ _⟩
 |u::r,w,h,o,ho=>by
  have h1:=Own.after h ho u;have h2:=Own.AEI r h1 (o:=o+1) Ac;exact⟨h2.1,((AZ.refl [g] w).setCell AY u).trans h2.2 (λx hx=>.inl hx)⟩
structure Vj (xs:List Nat) (x:Nat) (i j:Nat) (l:List Nat):Prop where
 len:l.length=xs.length
 le:i<j
 jn:j<=xs.length
 head:l.take i=(xs.take j).filter (λy=>y !=x)
 rest:l.drop j=xs.drop j
theorem Vj.at_{xs l:List Nat}{x i j:Nat}(h:Vj xs x i j l)(hj:j<xs.length): ∃y,xs[j]? =some y/\l[j]? =some y:=by
 refine⟨xs[j],Af hj,?_⟩;have:=congrArg (λl=>l[0]?) h.rest;simp only[LW,Nat.add_zero] at this;rw[this,Af hj]
theorem Vj.skip{xs l:List Nat}{x i j:Nat}(h:Vj xs x i j l)(hj:xs[j]? =some x):Vj xs x i (j+1) l:=by
 have hl:=(BB.1 hj).1;refine⟨h.len,by have:=h.le;omega,hl,?_,?_⟩
 ·rw[h.head,take_snoc _ _ _ hj,IQ];simp
 have:=congrArg (List.drop 1) h.rest;rw[Gz,Gz] at this;exact this
theorem Vj.keep{xs l:List Nat}{x y i j:Nat}(h:Vj xs x i j l)(hj:xs[j]? =some y)(hy:y≠x):Vj xs x (i+1) (j+1) (l.set i y):=by
 have hl:=(BB.1 hj).1;have hle:=h.le;have hln:=h.len;refine⟨by rw[TP];exact h.len,Ac,hl,?_,?_⟩
 ·rw[take_snoc (l.set i y) i y (by rw[Gi,if_pos rfl,if_pos Ac]),take_snoc _ _ _ hj,IQ,<- h.head,List.take_set_of_le (AP _)];simp[hy]
 have:=congrArg (List.drop 1) h.rest;rw[Gz,Gz] at this;rw[List.drop_set_of_lt Ac];exact this
theorem Vj.done{xs l:List Nat}{x i:Nat}(h:Vj xs x i xs.length l):l.take i=xs.filter (λy=>y !=x):=by
 have:=h.head;rwa[VL] at this
theorem AFY(A:Option Addr)(n c:Nat)(xs:List Nat)(x k:Nat)(w:World)(ho:Own w 121 1 A n c (xs.map pv))(hk:w.cell? ⟨k,0,none⟩=some (pv x))(hkA:k∉bo A)(hbx:Ny w x)(hbs: ∀y∈xs,Ny w y)(hxA: ∀y∈x::xs,y∉bo A)(hn:n<=1073741824):
  Calls Ae 83 #[.slice A n c,.func (.func 84) #[] #[.pointer (some ⟨k,0,none⟩)]] w λe w'=>AZ (bo A) w w'/\
   ∃n',n'=(xs.filter (λy=>y !=x)).length/\e=.returned (.slice A n' c)/\Own w' 121 1 A n' c ((xs.filter (λy=>y !=x)).map pv):=by
 (have hl:xs.length=n:=by have:=ho.1;simp at this;omega);have HO:=AQ ho;have HK:=AQ hk;have HL:=AQ hl;have X0:=AQ hbx;have Yr:=AQ hbs;have HKA:=AQ hkA;have HXA:=AQ hxA;clear ho hk hl hbx hbs hkA hxA;have ASA:= @ANo;go_enter AK2,Tryz.ntmps83;(go_wp2_with fail);refine (AFX A n c xs x k w HO.out.rd HK.out X0.out Yr.out hn).mono ?_;rintro e w1 ⟨hc1,hcase⟩;have DC:=AQ hc1;clear hc1;rcases hcase with ⟨rfl,hno⟩|⟨i0,rfl,hi0,hpre⟩
 ·have HN:=AQ hno;clear hno;go_wp2;go_ret
  have hf:xs.filter (λy=>y !=x)=xs:=by
   rw[JX];intro y hy;simp only[bne_iff_ne,ne_eq];rintro rfl;exact HN.out hy
  refine⟨DC.out.nil _,n,by rw[hf];exact HL.out.symm,rfl,?_⟩;rw[hf];exact HO.out.Am DC.out EY
 have hil:=(BB.1 hi0).1;(have hn0:i0<n:=by have:=HL.out;omega);have hne:((i0:Int)== -1)=false:=beq_eq_false_iff_ne.2 Ac
 have HI0:Hid (Vj xs x i0 (i0+1) xs):=AQ ⟨rfl,Ac,Ac,by
  rw[take_snoc _ _ _ hi0,IQ]
  have:(xs.take i0).filter (λy=>y !=x)=xs.take i0:=by
   rw[JX];intro y hy;simp only[bne_iff_ne,ne_eq];rintro rfl;exact hpre hy
  rw[this];simp,rfl⟩
 have Ox:=AQ (HO.out.Am DC.out EY);clear hi0 hpre hil;go_wp2;go_loopw [5,6,7] (λs5 s6 _ wr=>∃(i j:Nat) (l:List Nat),s5=.int .i64 i/\s6=.int .i64 j/\Vj xs x i j l/\Own wr 121 1 A n c (l.map pv)/\AZ (bo A) w wr) (λ_ s6 _ _=>n - (intOf s6).toNat)
 case atStart=>exact⟨i0,i0+1,xs,rfl,by go_num,HI0.out,Ox.out,DC.out.nil _⟩
 obtain⟨i,j,l,rfl,rfl,hD,hown,hch⟩:=hrel;(have hjn:j<=n:=by have:=hD.jn;have:=HL.out;omega);have hij:i<j:=hD.le;have HD:=AQ hD;have HW:=AQ hown;have Dc:=AQ hch;clear hD hown hch;by_cases hlt:j<n
 ·(have hlt':(j:Int)<n:=by omega);obtain⟨y,hxy,O1⟩:=HD.out.at_ (by have:=HL.out;omega);obtain⟨ad,y',rfl,hy',hcell⟩:=xO HW.out.rd hlt;(have hyy:y'=y:=by rw[O1] at hy';exact (BQ hy').symm);subst hyy;have HY:=AQ hxy;(have hin:i<n:=by omega);obtain⟨ad2,u2,hA2,hu2,hc2,hfz,hset⟩:=HW.out.bT hin;injection hA2 with hA2;subst hA2;have ASB:=AQ hset;have hmem:y'∈xs:=Aa hxy
  have Tf:Hid (Calls Ae 84 #[pv y',.pointer (some ⟨k,0,none⟩)] wr λe w'=>e=.returned (.bool (decide (x=y')))/\AZ [] wr w'):=
   AQ (mM x y' k wr (Dc.out.cell HK.out HKA.out) (X0.out.Am Dc.out (HXA.out x AY)) ((Yr.out y' hmem).Am Dc.out (HXA.out y' (by simp[hmem]))))
  clear hxy O1 hy' hu2 hset hmem;(go_wp2_with fail);refine Tf.out.mono ?_;rintro e w3 ⟨rfl,hc3⟩;have GV:=AQ hc3;have HW3:=AQ (HW.out.Am hc3 EY);have mF:=hc3.cell hc2 AB;by_cases hxe:x=y'
  ·subst hxe;simp only[decide_true];clear hc3 hc2 hfz mF;go_wp2;go_roundw
   case rel=>exact⟨i,j+1,l,rfl,by go_num,HD.out.skip HY.out,HW3.out,Dc.out.Aq GV.out⟩
   simp[intOf];omega
  simp only[hxe,decide_false];have HXE:=AQ hxe;obtain⟨ad3,u3,hA3,hu3,ASC,hf3,AID⟩:=HW3.out.bT hin;injection hA3 with hA3;subst hA3;have HS3:=AQ AID;clear hxe hc3 hc2 hfz mF hu3 AID;go_wp2;go_roundw
  case rel=>
   refine⟨i+1,j+1,l.set i y',by go_num,by go_num,HD.out.keep HY.out (λe=>HXE.out e.symm),?_,?_⟩
   ·have:=HS3.out (pv y');rw[<- Hz] at this;exact this
   exact (Dc.out.Aq GV.out).setCell (.inl (by simp[add_block])) _
  simp[intOf];omega
 (obtain rfl:j=n:=by omega);rcases HW.out.form with ⟨_,h0,_⟩|⟨g,cur,rfl,hb,hnc,hcm,hcs,htk⟩;omega
 have hcl: ∀ty,(Builtin.clear_ #[114] ty #[.slice (some ⟨g,i,none⟩) (j - i) (c - i)]).run Ae wr=.ok (.tuple #[]) (wr.setCells g i (List.replicate (j - i) (.pointer none))):=
  λty=>Lib.run_clear_slice wr _ _ ty _ AHq (by intro w;kernel_rfl) rfl rfl g i _ _ Ac (λt ht=>by rw[hb.cell,Ba Ac];rfl) (λt ht=>hb.frozen _)
 (have hic:i<=c:=by omega);(have hij':(i:Int)<=j:=by omega);have HQ:=AQ (show j<=c from hnc);clear hb hcs htk hcm;go_wp2;go_ret;have hD:=HD.out;have e1:j=xs.length:=HL.out.symm;rw[e1] at hD;have hdone:=hD.done;(have hlen:(xs.filter (λy=>y !=x)).length=i:=by rw[<- hdone,CB];have:=hD.len;omega);have hcut:=HW.out.cut (k:=i) Ac;rw[D7,<- D8,hdone] at hcut;have haf:=Own.AEI (List.replicate (j - i) (Value.pointer none)) hcut (o:=i) (AP _);refine⟨Dc.out.trans haf.2 (λx hx=>.inl (by simpa using hx)),i,hlen.symm,rfl,haf.1⟩
theorem ED.AIE{w w':World}{G:Bg}{S:St}(h:ED w G S){i g:Nat}{L L':List Nat}{φ:Hg->Hg}(hg:G.sg[i]? =some g)(hL:G.Ls[i]? =some L)(hc:AZ L w w')(hs:Vs w' g L' (φ (S.files.getD i ([],[]))).1 (φ (S.files.getD i ([],[]))).2)
  (hn: ∀k∈L',k∈L\/w.heap.size<=k):ED w' {G with Ls:=G.Ls.set i L'} {S with files:=S.files.modify i φ}:=by
 have hil:i<G.Ls.length:=(BB.1 hL).1;(have hpi:G.parts[i+6]? =some L:=by simpa[Bg.parts] using hL);have O3: ∀x∈L,∃j P,j∈[i+6]/\G.parts[j]? =some P/\x∈P:=λx hx=>⟨i+6,L,AY,hpi,hx⟩;have ho:=λ(j:Nat) (P:List Nat) (hj:G.parts[j]? =some P) (hne:j∉[i+6])=>h.lay.others O3 hj hne;have n6: ∀j,j<6->j∉[i+6]:=λj hj hm=>by simp at hm;omega
 refine⟨h.blk.Am hc (ho 0 _ rfl (n6 0 Az) _ AY),h.Ep.keep hc (ho 1 _ rfl (n6 1 Az)),h.Kt,h.Oy.keep hc (ho 2 _ rfl (n6 2 Az)),h.Oz,h.own.Am hc (ho 3 _ rfl (n6 3 Az)),λj c v a b=>(h.O0 j c v a b).keep hc (ho 5 _ rfl (n6 5 Az)) (λ_ h=>h) (λ_ _=>rfl) (AP _),
  h.cO.Am hc (ho 4 _ rfl (n6 4 Az)),by simpa using h.QG,by simpa using h.Vx,by simpa using h.Qk,h.Yy,h.Vy,?_,?_⟩
 ·intro j x gg M f e1 e2 e3 e4;by_cases hij:j=i
  ·subst hij;simp only at e1 e2 e3 e4;rw[AEg hil] at e3;injection e3 with e3;rw[hg] at e2;injection e2 with e2;subst e2;subst e3;rw[VM] at e4;simp only[if_true] at e4
   cases hf:S.files[j]? with
   |none=>rw[hf] at e4;cases e4|some f0=>
    rw[hf] at e4;injection e4 with e4;rw[CW,hf] at hs;subst e4;have:=h.ino j x g L f0 e1 hg hL hf;exact⟨this.1.Am hc (ho 5 _ rfl (n6 5 Az) x (h.Vy x (Aa e1))),hs⟩
  simp only at e1 e2 e3 e4;rw[AEh Ac] at e3;rw[VM] at e4;simp only[show ¬i=j from λe=>hij e.symm,if_false] at e4;(have e4':S.files[j]? =some f:=by simpa using e4);exact (h.ino j x gg M f e1 e2 e3 e4').keep hc (ho 5 _ rfl (n6 5 Az) x (h.Vy x (Aa e1))) (ho (j+6) M (by simpa[Bg.parts] using e3) (by simp;omega))
 have:=h.lay.Em (w':=w') (i:=i+6) (P':=L') hpi hn hs.lt hc.size;simpa[Bg.parts] using this
theorem Bg.mO{G:Bg}{i B:Nat}{L L':List Nat}(hL:G.Ls[i]? =some L)(hn: ∀k∈L',k∈L\/B<=k): ∀y∈Bg.all {G with Ls:=G.Ls.set i L'},y∈G.all\/B<=y:=by
 intro y hy;simp only[Bg.all,Bg.parts,List.flatten_cons,AU] at hy⊢;rcases hy with h|h|h|h|h|h|h;exact .inl (.inl h);exact .inl (.inr (.inl h));exact .inl (.inr (.inr (.inl h)));exact .inl (.inr (.inr (.inr (.inl h))));exact .inl (.inr (.inr (.inr (.inr (.inl h)))));exact .inl (.inr (.inr (.inr (.inr (.inr (.inl h))))));obtain⟨P,hP,hy⟩:=DX.1 h;rcases JV hP with h1|rfl;exact .inl (.inr (.inr (.inr (.inr (.inr (.inr (DX.2 ⟨P,h1,hy⟩)))))));rcases hn y hy with h2|h2;exact .inl (.inr (.inr (.inr (.inr (.inr (.inr (DX.2 ⟨L,Aa hL,h2⟩)))))));exact .inr h2
theorem ED.wrote{w w':World}{G:Bg}{S:St}(h:ED w G S){A':Option Addr}{c':Nat}{wr':List Nat}{st':Nat}(hc:AZ (G.b::bo G.Aw) w w')
  (hb:Bo w' G.b 116 #[.map (some G.t1),.map (some G.t2),.slice G.A S.FQ.length G.c,.slice A' wr'.length c',.int .i64 S.BR,.int .i64 S.stop,.int .i64 (st':Int)])
  (ho:Own w' 121 1 A' wr'.length c' (wr'.map (lq G.ib))) (hA: ∀x∈bo A',x∈bo G.Aw\/w.heap.size<=x):DI w G {S with wr:=wr',steps:=st'} w':=by
 have O3: ∀x∈G.b::bo G.Aw,∃j P,j∈[0,4]/\G.parts[j]? =some P/\x∈P:=λx hx=>by
  rcases AA.1 hx with rfl|hx;exact⟨0,_,AY,rfl,AY⟩;exact⟨4,_,AY,rfl,hx⟩
 have hk:=λ(j:Nat) (P:List Nat) (hj:G.parts[j]? =some P) (hne:j∉[0,4])=>h.lay.others O3 hj hne;have AQq:=h.lay.Em (w':=w') (i:=4) (P:=bo G.Aw) (P':=bo A') rfl hA ho.lt hc.size
 refine⟨{G with Aw:=A',cw:=c'},⟨hb,h.Ep.keep hc (hk 1 _ rfl AY),h.Kt,h.Oy.keep hc (hk 2 _ rfl AY),h.Oz,h.own.Am hc (hk 3 _ rfl AY),λj c v a b=>(h.O0 j c v a b).keep hc (hk 5 _ rfl AY) (λ_ h=>h) (λ_ _=>rfl) (AP _),
  ho,h.QG,h.Vx,h.Qk,h.Yy,h.Vy,λj x g L f e1 e2 e3 e4=>(h.ino j x g L f e1 e2 e3 e4).keep hc (hk 5 _ rfl AY x (h.Vy x (Aa e1))) (hk (j+6) L (by simpa[Bg.parts] using e3) AY),AQq⟩,rfl,?_,?_⟩
 ·intro x hx;obtain⟨P,hP,hx⟩:=DX.1 hx;simp only[Bg.parts,AA] at hP;rcases hP with rfl|rfl|rfl|rfl|rfl|hP;exact .inl (Bg.Es (i:=0) rfl hx);exact .inl (Bg.Es (i:=1) rfl hx);exact .inl (Bg.Es (i:=2) rfl hx);exact .inl (Bg.Es (i:=3) rfl hx);exact (hA x hx).imp (λh=>Bg.Es (i:=4) rfl h) id;exact .inl (DX.2 ⟨P,by simp only[Bg.parts,AA];exact .inr (.inr (.inr (.inr (.inr hP)))),hx⟩)
 exact hc.mono (λx hx=>.inl (by
  obtain⟨j,P,_,hj,hxP⟩:=O3 x hx
  exact Bg.Es hj hxP))
theorem DI.next{w w1 w':World}{G G1:Bg}{S':St}(hc:AZ G.all w w1)(hb:G1.b=G.b)(hsub: ∀x∈G1.all,x∈G.all\/w.heap.size<=x)(h:DI w1 G1 S' w'):DI w G S' w':=by
 obtain⟨G',h1,h2,h3,h4⟩:=h
 exact⟨G',h1,h2.trans hb,λx hx=>by
  rcases h3 x hx with h|h;exact hsub x h
  exact .inr (Ah hc.size h),hc.trans h4 hsub⟩
theorem AC8:Ety Ae 114 121 1 8 (.pointer none):=.mk' AHq Ap rfl Az
theorem AFZ{w:World}{G:Bg}{S:St}{B:Nat}(h:ED w G S)(hi:Inv B S)(d n:ByteArray)(A:Option Addr)(k c:Nat)(xs:List Int)(hr:Rd w 1 A k c (bv xs))(hB:B+k<=1073741824)(hdis: ∀x∈bo A,x∉G.all):
  Calls Ae 178 #[.pointer (some ⟨G.b,0,none⟩),.string d,.string n,.slice A k c] w λe w'=>e=.returned (.int .i64 (S.write d n xs).2)/\DI w G (S.write d n xs).1 w':=by
 (have hlx:xs.length=k:=by have:=hr.1;simp at this;omega);have HF:=AQ h;have HI:=AQ hi;have HBk:=AQ hB;have HB:Hid (B<=1073741824):=AQ Ac;have HR:=AQ hr;have Ti:=AQ hlx;have O4:=AQ hdis;(have k63:k<=1073741824:=by omega);clear h hi hB hr hlx hdis;have k81:= @AHk;have ASD:= @ANu;have ASE:= @ANv;go_enter AHY,Tryz.ntmps178;(go_wp2_with fail);refine (lu HF.out d n).mono ?_;rintro e w1 ⟨rfl,hc1⟩;have DC:=AQ hc1;obtain⟨o,E,hE⟩: ∃o E,S.Qj d n=(o,E):=⟨_,_,rfl⟩;rw[hE];have HE:=AQ hE
 cases o with
 |none=>
  (have hb:(E !=0)=true:=by simpa using mD hE);have HR:Hid (S.write d n xs=(S,E)):=AQ (by unfold St.write;rw[HE.out]);clear hE;simp only[Wq,Option.map_none];go_wp2;go_ret;exact⟨by rw[HR.out];rfl,by rw[HR.out];exact DI.same HF.out DC.out⟩
 |some x=>
  obtain⟨he0,hd0,F,hF,hx⟩:=UT hE;subst he0;have HXL:=AQ (iq HI.out hE);have Fp:=AQ (HF.out.CX hc1);obtain⟨g,L,hL,hbx,hs,hg,hix⟩:=(HF.out.CX hc1).Zx (iq HI.out hE);have HL:=AQ hL;have HG:=AQ hg;have HS:=AQ hs;have c0:=hbx.cell 0;simp at c0;have c6:=Fp.out.blk.cell 6;have f6:=Fp.out.blk.frozen 6;have c4:=Fp.out.blk.cell 4;simp at c6 c4;(have hwt:IntKind.i64.wrap ((S.steps:Int)+1)=((S.steps+1:Nat):Int):=by have:=HI.out.st;have:=HB.out;rw[IntKind.wrap_i64];omega);clear hF hE hx hd0 hs hc1 hL hg hix hbx;simp only[Wq,Option.map_some];by_cases hk0:k=0
  ·subst hk0;have hnil:xs=[]:=E5 Ti.out;have HR2:Hid (S.write d n xs=({S with steps:=S.steps+1},0)):=AQ (by unfold St.write;rw[HE.out];simp only[hnil,if_true]);clear hnil c0 c4;go_wp2;go_ret;refine⟨by rw[HR2.out];rfl,?_⟩;rw[HR2.out];have hF:=Fp.out;have hch:AZ [G.b] w1 (w1.setCell ⟨G.b,6,none⟩ (.int .i64 ((S.steps+1:Nat):Int))):=(AZ.refl _ _).setCell (.inl AY) _;refine DI.of (w0:=w1) (G0:=G) ?_ DC.out rfl (λx hx=>.inl hx);refine hF.wrote (wr':=S.wr) (st':=S.steps+1) (A':=G.Aw) (c':=G.cw) (hch.mono (λx hx=>.inl (by simp only[Ad] at hx;subst hx;simp))) ?_ (hF.cO.Am hch ?_) (λx hx=>.inl hx);simpa using hF.blk.Em 6 (.int .i64 ((S.steps+1:Nat):Int));intro y hy hm;simp only[Ad] at hm;subst hm;exact hF.lay.ne (i:=4) (j:=0) (P:=bo G.Aw) (Q:=[G.b]) rfl rfl Az _ hy AY
  have hkz: ¬k=0:=hk0
  have hw64:IntKind.i64.wrap (S.BR - (S.used:Int))=S.BR - (S.used:Int):=by
   have h1:=HI.out.BR;have h2:=AAs HI.out;have h3:B*B<=1073741824*1073741824:=VJ HB.out HB.out;rw[IntKind.wrap_i64];omega
  have HXN:Hid (xs≠[]):=AQ (by intro e;have:=Ti.out;rw[e] at this;simp at this;omega);(go_wp2_with fail);refine wp_region_held_drew (S:=λw'=>AZ [] w1 w') Ap ((AZ.refl _ _).drew) (λhHeld=>?_);refine tk 0 ?_;refine tk 1 ?_;refine tk 2 ?_;refine tk 3 ?_;refine tk 4 ?_;refine Gm 5 (λw' hSw=>hSw.cell c4 AY) ?_;refine tk 6 ?_;refine Ee 7 λK hK=>?_;go_simp;refine (AH7 (Fp.out.CX hHeld) HI.out HB.out).mono ?_;rintro e w3 ⟨rfl,hc3⟩;refine hK.out _ _ (hHeld.Aq hc3) (λhHeld=>?_);(try simp only[Act.put,Be]);clear hK K;refine tk 8 ?_;refine tk 9 ?_;refine wpAnyH_done Ap ?_ _;(try simp only[Act.put,Be]);have GV:=AQ hHeld;clear hHeld c4;by_cases hlt:S.BR - (S.used:Int)<(k:Int)
  ·(have hdec:decide (S.BR - (S.used:Int)<(k:Int))=true:=by simpa using hlt);rw[hdec]
   have HR2:Hid (S.write d n xs=(S,85)):=AQ (by
    unfold St.write;rw[HE.out];simp only[HXN.out,if_false]
    rw[if_pos (by rw[Ti.out];omega)])
   clear hdec hlt hw64;go_wp2;go_ret;exact⟨by rw[HR2.out];rfl,by rw[HR2.out];exact DI.same HF.out (DC.out.Aq GV.out)⟩
  (have hdec:decide (S.BR - (S.used:Int)<(k:Int))=false:=by simpa using hlt);rw[hdec]
  have HR2:Hid (S.write d n xs=({S with files:=S.files.modify x (λf=>(f.1,f.2++[xs])),wr:=S.wr++[x],steps:=S.steps+1},0)):=AQ (by
   unfold St.write;rw[HE.out];simp only[HXN.out,if_false]
   rw[if_neg (by rw[Ti.out];omega)])
  have c03:=GV.out.cell c0 AB;have HF3:=AQ (Fp.out.CX GV.out);have HS3:=AQ (HS.out.Am GV.out EY);have HW1:Hid (S.wr.length<=1073741824):=AQ (by have:=HI.out.nw;have:=HB.out;omega);have hw1:=HW1.out;clear hdec hlt hw64 c0 c6 f6;(go_wp2_with fail);refine (wO g L _ _ A k c xs w3 HS3.out Ac (by have:=(HI.out.Iu x).1;have:=HBk.out;omega) (by have:=(HI.out.Iu x).2;have:=HB.out;omega) ((HR.out.Am DC.out EY).Am GV.out EY)).mono ?_;rintro e w4 ⟨L',rfl,hs4,hc4,hL4⟩;have QJ:=AQ (HF3.out.AIE (φ:=λf=>(f.1,f.2++[xs])) HG.out HL.out hc4 hs4 hL4);have MK:Hid (AZ G.all w w4):=AQ (((DC.out.Aq GV.out).nil G.all).trans hc4 (λy hy=>.inl (Bg.Es (i:=x+6) (by simpa[Bg.parts] using HL.out) hy)));have Vh:Hid (∀y∈Bg.all {G with Ls:=G.Ls.set x L'},y∈G.all\/w.heap.size<=y):=AQ (Bg.mO HL.out (λy hy=>(hL4 y hy).imp id (λh=>by have h1:=DC.out.size;have h2:=GV.out.size;omega)));have z3:=QJ.out.blk.cell 3;simp at z3;clear hs4 hc4 hL4 c03;(go_wp2_with (at_builtin;refine Fq rfl _ _ rfl AC8 rfl (QJ.out.cO.Am ((AZ.refl [] w4).alloc (.cells #[.pointer (some ⟨EC G.ib x,0,none⟩)] 121)) EY) rfl (Own.lit w4 121 1 #[.pointer (some ⟨EC G.ib x,0,none⟩)] 1 Az rfl).rd (by simp[Value.oneCell']) (by unfold maxLen;show S.wr.length+1<=_;omega) (by show (S.wr.length+1)*_<=_;omega) ?_;intro A2 c2 w5 hown5 mP mQ _;have jO:Hid (AZ (bo G.Aw) w4 w5):=AQ ((((AZ.refl [] w4).alloc (.cells #[.pointer (some ⟨EC G.ib x,0,none⟩)] 121)).nil _).trans mP (λx hx=>.inl hx));have qC:G.b∉bo G.Aw:=(λhm=>QJ.out.lay.ne (i:=4) (j:=0) (P:=bo G.Aw) (Q:=[G.b]) rfl rfl Az _ hm AY);have iP:=AQ (QJ.out.blk.Am jO.out qC);have y3:=iP.out.cell 3;have f3:=iP.out.frozen 3;have Rx:=AQ (iP.out.Em 3 (.slice A2 (S.wr.length+1) c2));have y6:=Rx.out.cell 6;have f6:=Rx.out.frozen 6;simp at y3 y6;have X3:=AQ hown5;have Sz:Hid (∀x∈bo A2,x∈bo G.Aw\/w4.heap.size<=x):=AQ (λx hx=>(mQ x hx).imp id (λh=>by have:=h.1;simp at this;omega));clear hown5 mP mQ qC));go_ret;have hb7:=Rx.out.Em 6 (.int .i64 ((S.steps+1:Nat):Int));have hcs:AZ [G.b] w5 ((w5.setCell ⟨G.b,3,none⟩ (.slice A2 (S.wr.length+1) c2)).setCell ⟨G.b,6,none⟩ (.int .i64 ((S.steps+1:Nat):Int))):=((AZ.refl _ _).setCell (.inl AY) _).setCell (.inl AY) _
  have Yh: ∀y∈bo A2,y∉[G.b]:=λy hy hm=>by
   simp only[Ad] at hm;subst hm;rcases Sz.out _ hy with h1|h1;exact QJ.out.lay.ne (i:=4) (j:=0) (P:=bo G.Aw) (Q:=[G.b]) rfl rfl Az _ h1 AY;have:=QJ.out.blk.lt;simp only at this;omega
  refine⟨by rw[HR2.out];rfl,?_⟩;rw[HR2.out];refine DI.next (G1:={G with Ls:=G.Ls.set x L'}) MK.out rfl Vh.out ?_;refine QJ.out.wrote (wr':=S.wr++[x]) (st':=S.steps+1) (A':=A2) (c':=c2) ?_ ?_ ?_ Sz.out;exact (jO.out.mono (λy hy=>.inl (Aj _ hy))).trans hcs (λy hy=>.inl (by simp only[Ad] at hy;subst hy;simp));simpa using hb7;have q:=X3.out.Am hcs Yh;simpa[lq] using q
theorem AIF{w:World}{G:Bg}{S:St}{B:Nat}(h:ED w G S)(hi:Inv B S)(d n:ByteArray)(hB:B<=1073741824):
  Calls Ae 49 #[.pointer (some ⟨G.b,0,none⟩),.string d,.string n] w λe w'=>e=.returned (.int .i64 (S.sync d n).2)/\DI w G (S.sync d n).1 w':=by
 have HF:=AQ h;have HI:=AQ hi;have HB:=AQ hB;clear h hi hB;have k81:= @AHk;have k82:= @AQJ;have k83:= @AQK;go_enter AKh,Tryz.ntmps49;(go_wp2_with fail);refine (lu HF.out d n).mono ?_;rintro e w1 ⟨rfl,hc1⟩;have DC:=AQ hc1;obtain⟨o,E,hE⟩: ∃o E,S.Qj d n=(o,E):=⟨_,_,rfl⟩;rw[hE];have HE:=AQ hE
 cases o with
 |none=>
  (have hb:(E !=0)=true:=by simpa using mD hE);have HR:Hid (S.sync d n=(S,E)):=AQ (by unfold St.sync;rw[HE.out]);clear hE;simp only[Wq,Option.map_none];go_wp2;go_ret;exact⟨by rw[HR.out];rfl,by rw[HR.out];exact DI.same HF.out (DC.out.alloc _)⟩
 |some x=>
  obtain⟨he0,hd0,F,hF,hx⟩:=UT hE;subst he0;have hxl:=iq HI.out hE;have HXL:=AQ hxl;have hcA:AZ [] w1 (w1.alloc (.cells #[.pointer (some ⟨EC G.ib x,0,none⟩)] 121)):=(AZ.refl [] w1).alloc _;have HF2:=AQ ((HF.out.CX hc1).CX hcA);have HC2:=AQ (hc1.Aq hcA);obtain⟨g,L,hL,hbx,hs,hg,hix⟩:=HF2.out.Zx hxl;have HL:=AQ hL;have HG:=AQ hg;have HS:=AQ hs;have HIX:=AQ hix;have c0:=hbx.cell 0;simp only[Fv] at c0;have HR:Hid (S.sync d n=({S with files:=S.files.modify x (λf=>(Hg.all f,[])),wr:=S.wr.filter (λy=>y !=x),steps:=S.steps+1},0)):=AQ (by unfold St.sync;rw[HE.out]);have HKB:Hid (Bo (w1.alloc (.cells #[.pointer (some ⟨EC G.ib x,0,none⟩)] 121)) w1.heap.size 121 #[.pointer (some ⟨EC G.ib x,0,none⟩)]):=AQ (Bo.new w1 _ _);have QI:Hid (∀y∈G.all,y<w1.heap.size):=AQ (HF.out.CX hc1).lt;obtain⟨kb,hkb⟩: ∃kb,w1.heap.size=kb:=⟨_,rfl⟩;obtain⟨W,hW⟩: ∃W,w1.alloc (.cells #[.pointer (some ⟨EC G.ib x,0,none⟩)] 121)=W:=⟨_,rfl⟩;have hck:=HKB.out.cell 0;simp only[Fv] at hck;rw[hW] at HKB hck HF2 HC2 HS c0;rw[hkb] at HKB hck QI;clear hF hE hx hd0 hs hc1 hL hg hix hbx hcA hxl;simp only[Wq,Option.map_some];(go_wp2_with fail);refine (AFL g L _ _ W HS.out (by have:=(HI.out.Iu x).1;have:=HB.out;omega)).mono ?_;rintro e w4 ⟨L',rfl,hs4,hc4,hL4⟩;have QJ:=AQ (HF2.out.AIE (φ:=λf=>(Hg.all f,[])) HG.out HL.out hc4 hs4 hL4);have MK:Hid (AZ G.all w w4):=AQ ((HC2.out.nil G.all).trans hc4 (λy hy=>.inl (Bg.Es (i:=x+6) (by simpa[Bg.parts] using HL.out) hy)));have Vh:Hid (∀y∈Bg.all {G with Ls:=G.Ls.set x L'},y∈G.all\/w.heap.size<=y):=AQ (Bg.mO HL.out (λy hy=>(hL4 y hy).imp id (λh=>by have h1:=HC2.out.size;omega)))
  have hkL:kb∉L:=λhm=>by
   have:=QI.out kb (Bg.Es (i:=x+6) (by simpa[Bg.parts] using HL.out) hm);omega
  have HKB4:=AQ (HKB.out.Am hc4 hkL);have z3:=QJ.out.blk.cell 3;have zk:=HKB4.out.cell 0;simp at z3 zk;have Lh:Hid (S.wr.length<=1073741824):=AQ (by have:=HI.out.nw;have:=HB.out;omega)
  have HKW:Hid (kb∉bo G.Aw):=AQ (λhm=>by
   have:=QI.out kb (Bg.Es (i:=4) rfl hm)
   omega)
  have HIS:Hid (∀i,i<S.files.length->EC G.ib i∈G.K/\Ny w4 (EC G.ib i)):=AQ (λi hi=>by
   obtain⟨gg,LL,_,hbb,_,_,hii⟩:=QJ.out.Zx (i:=i) (by simpa using hi)
   exact⟨QJ.out.Vy _ (Aa hii),_,_,hbb⟩)
  have HOW:Hid (Own w4 121 1 G.Aw S.wr.length G.cw ((S.wr.map (EC G.ib)).map pv)):=AQ (by
   have:=QJ.out.cO;rw[Bq]
   exact this)
  (have hwt:IntKind.i64.wrap ((S.steps:Int)+1)=((S.steps+1:Nat):Int):=by have:=HI.out.st;have:=HB.out;rw[IntKind.wrap_i64];omega);clear hs4 hc4 hL4 hck c0 hkL;go_wp2_with fail
  refine (AFY G.Aw S.wr.length G.cw (S.wr.map (EC G.ib)) (EC G.ib x) kb w4 HOW.out zk HKW.out (HIS.out x HXL.out).2 (λy hy=>by
   obtain⟨i,hi,rfl⟩:=Ag.1 hy
   exact (HIS.out i (HI.out.wr i hi)).2) (λy hy=>?_) Lh.out).mono ?_
  ·have hyK:y∈G.K:=by
    rcases AA.1 hy with rfl|hy;exact (HIS.out x HXL.out).1;obtain⟨i,hi,rfl⟩:=Ag.1 hy;exact (HIS.out i (HI.out.wr i hi)).1
   exact QJ.out.lay.ne (i:=5) (j:=4) (P:=G.K) (Q:=bo G.Aw) rfl rfl Az y hyK
  rintro e w5 ⟨hc5,n',hn',rfl,ho5⟩
  have hfm:(S.wr.map (EC G.ib)).filter (λy=>y !=EC G.ib x)=(S.wr.filter (λy=>y !=x)).map (EC G.ib):=by
   rw[Ju];congr 1;refine Jt λy hy=>?_;simp only[Function.comp];have hyl:=HI.out.wr y hy;have hxl:=HXL.out;have hlen:=HF.out.QG
   have:(EC G.ib y=EC G.ib x)↔y=x:=⟨λe=>by
    unfold EC at e;rw[CW,CW,Af Ac,Af Ac] at e
    exact (List.getElem_inj HF.out.Yy).1 e,λe=>by rw[e]⟩
   by_cases hxy:y=x;subst hxy;simp;have h2: ¬EC G.ib y=EC G.ib x:=λe=>hxy (this.1 e);exact (bne_iff_ne.2 h2).trans (bne_iff_ne.2 hxy).symm
  rw[hfm] at ho5 hn';rw[BH] at hn';subst hn';have qC:G.b∉bo G.Aw:=(λhm=>QJ.out.lay.ne (i:=4) (j:=0) (P:=bo G.Aw) (Q:=[G.b]) rfl rfl Az _ hm AY);have iP:=AQ (QJ.out.blk.Am hc5 qC);have y3:=iP.out.cell 3;have f3:=iP.out.frozen 3;have Rx:=AQ (iP.out.Em 3 (.slice G.Aw (S.wr.filter (λy=>y !=x)).length G.cw));have y6:=Rx.out.cell 6;have f6:=Rx.out.frozen 6;simp at y3 y6;have X3:=AQ ho5;have Ql:=AQ hc5;clear ho5 hc5 qC hfm z3 zk;obtain⟨m',hm'⟩: ∃m',(S.wr.filter (λy=>y !=x)).length=m':=⟨_,rfl⟩;rw[hm'] at y6 f6 X3 Rx;have HM':=AQ hm';go_wp2;go_ret;have hb7:=Rx.out.Em 6 (.int .i64 ((S.steps+1:Nat):Int));have hcs:AZ [G.b] w5 ((w5.setCell ⟨G.b,3,none⟩ (.slice G.Aw m' G.cw)).setCell ⟨G.b,6,none⟩ (.int .i64 ((S.steps+1:Nat):Int))):=((AZ.refl _ _).setCell (.inl AY) _).setCell (.inl AY) _;refine⟨by rw[HR.out];rfl,?_⟩;rw[HR.out];refine DI.next (G1:={G with Ls:=G.Ls.set x L'}) MK.out rfl Vh.out ?_;refine QJ.out.wrote (wr':=S.wr.filter (λy=>y !=x)) (st':=S.steps+1) (A':=G.Aw) (c':=G.cw) ?_ ?_ ?_ (λy hy=>.inl hy);exact (Ql.out.mono (λy hy=>.inl (Aj _ hy))).trans hcs (λy hy=>.inl (by simp only[Ad] at hy;subst hy;simp))
  ·rw[HM'.out];simpa using hb7
  have q:=X3.out.Am hcs (λy hy hm=>by
   simp only[Ad] at hm;subst hm
   exact QJ.out.lay.ne (i:=4) (j:=0) (P:=bo G.Aw) (Q:=[G.b]) rfl rfl Az _ hy AY)
  rw[HM'.out];rw[Bq] at q;exact q
def noS:ByteArray:={data:=#[]}
def EU (f:Bool) (last:ByteArray):List (ByteArray×List Int)->Int
 | []=>0|x::r=>if Gn f last x.1≠0 then Gn f last x.1 else EU false x.1 r
def GX (f:Bool) (last:ByteArray):He->Int
 | []=>0|d::r=>if Gn f last d.1≠0 then Gn f last d.1 else if EU true noS d.2≠0 then EU true noS d.2 else GX false d.1 r
def ER (D:He) (BR:Int):Int:=if BR<0 then 2 else GX true noS D
def IV (n:Nat):List (ByteArray×List Int)->Qi
 | []=>[]|x::r=>(x.1,n)::IV (n+1) r
def IW (n:Nat):He->Tr
 | []=>[]|d::r=>(d.1,IV n d.2)::IW (n+d.2.length) r
def Hy (D:He):Nat:=(D.map λd=>d.2.length).sum
def J5 (D:He):List Hg:=D.flatMap λd=>d.2.map λx=>(x.2,[])
def FT (D:He) (BR stop:Int):St:=⟨IW 0 D,IW 0 D,[],J5 D,[],BR,stop,0⟩
theorem mV(n:Nat)(l:List (ByteArray×List Int))(x:ByteArray×List Int):IV n (l++[x])=IV n l++[(x.1,n+l.length)]:=by
 induction l generalizing n with|nil=>rfl|cons y r ih=>simp[IV,ih];omega
theorem sZ(n:Nat)(l:List (ByteArray×List Int)):(IV n l).length=l.length:=by
 induction l generalizing n with|nil=>rfl|cons y r ih=>simp[IV,ih]
theorem cZ(n:Nat)(l:List (ByteArray×List Int)):(IV n l).map Prod.fst=l.map Prod.fst:=by
 induction l generalizing n with|nil=>rfl|cons y r ih=>simp[IV,ih]
theorem cu(n:Nat)(D:He):(IW n D).map Prod.fst=D.map Prod.fst:=by
 induction D generalizing n with|nil=>rfl|cons y r ih=>simp[IW,ih]
theorem AC9(D:He)(d:ByteArray×List (ByteArray×List Int)):Hy (D++[d])=Hy D+d.2.length:=by simp[Hy]
theorem mW(n:Nat)(D:He)(d:ByteArray×List (ByteArray×List Int)):IW n (D++[d])=IW n D++[(d.1,IV (n+Hy D) d.2)]:=by
 induction D generalizing n with|nil=>simp[IW,Hy]|cons y r ih=>simp only[List.cons_append,IW,ih,Hy,AL,List.sum_cons];rw[show n+y.2.length+(r.map λd=>d.2.length).sum=n+(y.2.length+(r.map λd=>d.2.length).sum) by omega]
theorem su(D:He)(d:ByteArray×List (ByteArray×List Int)):J5 (D++[d])=J5 D++d.2.map λx=>(x.2,[]):=by simp[J5]
theorem UW(D:He):(J5 D).length=Hy D:=by
 unfold J5 Hy
 induction D with|nil=>rfl|cons y r ih=>simp[ih]
theorem tC{n:Nat}{l:List (ByteArray×List Int)}: ∀q∈IV n l,q.2<n+l.length:=by
 induction l generalizing n with
 |nil=>simp[IV]|cons y r ih=>
  intro q hq;simp only[IV,AA] at hq;simp only[List.length_cons];rcases hq with rfl|hq;simp only;omega;have:=ih q hq;omega
theorem dB{n:Nat}{D:He}: ∀p∈IW n D,∀q∈p.2,q.2<n+Hy D:=by
 induction D generalizing n with
 |nil=>simp[IW]|cons y r ih=>
  intro p hp q hq;simp only[IW,AA] at hp;simp only[Hy,AL,List.sum_cons];rcases hp with rfl|hp;have:=tC q hq;omega;have:=ih p hp q hq;simp only[Hy] at this;omega
theorem AEJ{a b:ByteArray}:UQ a b=false↔Vt b a=true:=by
 unfold UQ Vt;rw[MW];have h1:(Op.bytesLess a.toList b.toList=true)↔a.data.toList<b.data.toList:=RZ;have h2:(Op.bytesLess b.toList a.toList=true)↔b.data.toList<a.data.toList:=RZ;rw[h2];constructor
 ·rintro⟨h3,h4⟩;(have h5: ¬a.data.toList<b.data.toList:=λh=>by rw[h1.2 h] at h3;cases h3);rcases Tv.1 (List.not_lt.1 h5) with h6|h6;exact h6;exfalso;rw[data_inj h6] at h4;simp at h4
 intro h3;refine⟨?_,?_⟩
 ·rw[<- I7,h1];exact λh=>MR _ (List.lt_trans h h3)
 cases he:(a.toList==b.toList) with
 |false=>rfl|true=>
  (have h4:a.toList=b.toList:=by simpa using he);rw[ByteArray.toList_eq,ByteArray.toList_eq] at h4;rw[h4] at h3;exact absurd h3 (MR _)
theorem mX{f:Bool}{last name:ByteArray}:Gn f last name=0↔DR name=true/\(f=false->Vt last name=true):=by
 unfold Gn
 cases hg:DR name with
 |false=>simp|true=>
  rw[if_neg AY];by_cases h:f=false/\UQ name last=true
  ·rw[if_pos h];constructor;intro h2;cases h2;rintro⟨_,h2⟩;have h3:=h2 h.1;rw[<- AEJ,h.2] at h3;cases h3
  rw[if_neg h];refine⟨λ_=>⟨rfl,λhf=>?_⟩,λ_=>rfl⟩;rw[<- AEJ]
  cases hl:UQ name last with|false=>rfl|true=>exact absurd ⟨hf,hl⟩ h
theorem U7{f:Bool}{last:ByteArray}{l:List (ByteArray×List Int)}(h:EU f last l=0):(l.map Prod.fst).Pairwise (λa b=>Vt a b=true)/\(∀x∈l,DR x.1=true)/\(f=false->∀x∈l,Vt last x.1=true):=by
 induction l generalizing f last with
 |nil=>exact⟨List.Pairwise.nil,AY,AY⟩|cons x r ih=>
  unfold EU at h;by_cases ho:Gn f last x.1=0
  ·rw[if_neg (by simp[ho])] at h;obtain⟨h1,h2,h3⟩:=ih h;obtain⟨h4,h5⟩:=mX.1 ho;refine⟨EI.2 ⟨λy hy=>?_,h1⟩,λy hy=>?_,λhf y hy=>?_⟩
   ·obtain⟨z,hz,rfl⟩:=Ag.1 hy;exact h3 rfl z hz
   ·rcases AA.1 hy with rfl|hy;exact h4;exact h2 y hy
   rcases AA.1 hy with rfl|hy;exact h5 hf;exact Yu (h5 hf) (h3 rfl y hy)
  rw[if_pos ho] at h;exact absurd h ho
theorem fZ{f:Bool}{last:ByteArray}{D:He}(h:GX f last D=0):(D.map Prod.fst).Pairwise (λa b=>Vt a b=true)/\(∀x∈D,DR x.1=true)/\(∀x∈D,EU true noS x.2=0)/\(f=false->∀x∈D,Vt last x.1=true):=by
 induction D generalizing f last with
 |nil=>exact⟨List.Pairwise.nil,AY,AY,AY⟩|cons x r ih=>
  unfold GX at h;by_cases ho:Gn f last x.1=0
  ·rw[if_neg (by simp[ho])] at h;by_cases hf0:EU true noS x.2=0
   ·rw[if_neg (by simp[hf0])] at h;obtain⟨h1,h2,h2',h3⟩:=ih h;obtain⟨h4,h5⟩:=mX.1 ho;refine⟨EI.2 ⟨λy hy=>?_,h1⟩,λy hy=>?_,λy hy=>?_,λhf y hy=>?_⟩
    ·obtain⟨z,hz,rfl⟩:=Ag.1 hy;exact h3 rfl z hz
    ·rcases AA.1 hy with rfl|hy;exact h4;exact h2 y hy
    ·rcases AA.1 hy with rfl|hy;exact hf0;exact h2' y hy
    rcases AA.1 hy with rfl|hy;exact h5 hf;exact Yu (h5 hf) (h3 rfl y hy)
   rw[if_pos hf0] at h;exact absurd h hf0
  rw[if_pos ho] at h;exact absurd h ho
theorem Xh{n:Nat}{D:He}{p:ByteArray×Qi}(h:p∈IW n D): ∃m,∃d∈D,p=(d.1,IV m d.2):=by
 induction D generalizing n with
 |nil=>simp[IW] at h|cons y r ih=>
  simp only[IW,AA] at h;rcases h with rfl|h;exact⟨n,y,AY,rfl⟩;obtain⟨m,d,hd,e⟩:=ih h;exact⟨m,d,Aj _ hd,e⟩
theorem AFa{n:Nat}{l:List (ByteArray×List Int)}{q:ByteArray×Nat}(h:q∈IV n l): ∃x∈l,q.1=x.1:=by
 have:q.1∈(IV n l).map Prod.fst:=Ag.2 ⟨q,h,rfl⟩;rw[cZ] at this;obtain⟨x,hx,e⟩:=Ag.1 this;exact⟨x,hx,e.symm⟩
theorem AFb{f:Bool}{last:ByteArray}{D:He}(h:GX f last D=0):Val (Hy D) (IW 0 D):=by
 obtain⟨h1,h2,h3,_⟩:=fZ h;refine⟨by unfold Rw;rw[cu];exact h1,λp hp=>?_,λp hp q hq=>by have:=dB p hp q hq;omega,λp hp=>?_,λp hp q hq=>?_⟩
 ·obtain⟨m,d,hd,rfl⟩:=Xh hp;unfold Rw;rw[cZ];exact (U7 (h3 d hd)).1
 ·obtain⟨m,d,hd,rfl⟩:=Xh hp;exact h2 d hd
 obtain⟨m,d,hd,rfl⟩:=Xh hp;obtain⟨x,hx,e⟩:=AFa hq;rw[e];exact (U7 (h3 d hd)).2.1 x hx
def Gp (D:He):Nat:=(D.map λd=>(d.2.map λx=>x.2.length+1).sum+1).sum
theorem AIH(n:Nat)(D:He):wd (IW n D)<=Gp D:=by
 unfold wd Gp
 induction D generalizing n with
 |nil=>simp[IW]|cons y r ih=>
  simp only[IW,AL,List.sum_cons,sZ];have h1:=ih (n+y.2.length)
  have h2:y.2.length<=(y.2.map λx=>x.2.length+1).sum:=by
   generalize y.2=l
   induction l with|nil=>simp|cons z l ih2=>simp only[List.length_cons,AL,List.sum_cons];omega
  omega
theorem tH(D:He):IK (J5 D)+Hy D<=Gp D:=by
 unfold IK J5 Gp Hy
 induction D with
 |nil=>simp|cons y r ih=>
  simp only[F8,Bf,Jv,AL,List.sum_cons,Bq]
  have h2:((y.2.map ((λf:Hg=>f.all.length+f.2.length)∘λx=>(x.2,[]))).sum)+y.2.length=(y.2.map λx=>x.2.length+1).sum:=by
   generalize y.2=l
   induction l with|nil=>simp|cons z l ih2=>simp only[List.length_cons,AL,List.sum_cons,Function.comp,Hg.all,List.flatten_nil,EK,List.length_nil] at ih2⊢;omega
  omega
theorem Xi{D:He}{BR stop:Int}(h:ER D BR=0)(hq:BR<=9223372036854775807):Inv (Gp D) (FT D BR stop):=by
 unfold ER at h;by_cases h0:BR<0;rw[if_pos h0] at h;cases h;rw[if_neg h0] at h;have hv:=AFb h;have hb:=tH D;refine⟨by simp only[FT,UW];exact hv,trivial,rfl,by simp[FT],?_,?_,?_,by simp[FT],by simp[FT],⟨by simp only[FT];omega,hq⟩⟩;have:=AIH 0 D;simp only[FT,List.length_nil];omega;simp only[FT,UW];omega;simp only[FT];omega
structure Qm where
 b:Nat
 t1:Nat
 g1:MJ
 ib:List Nat
 sg:List Nat
 Ls:List (List Nat)
def Qm.parts (G:Qm):List (List Nat):=[G.b]::EL G.t1 G.g1::G.ib::G.Ls
structure iQ (w:World) (G:Qm) (T:Tr) (fs:List Hg) (q a:Int):Prop where
 blk:Bo w G.b 116 #[.map (some G.t1),.map none,.slice none 0 0,.slice none 0 0,.int .i64 q,.int .i64 a,.int .i64 0]
 Ep:Tree w G.t1 G.g1
 Kt:D5 G.ib G.g1 T
 QG:G.ib.length=fs.length
 Vx:G.sg.length=fs.length
 Qk:G.Ls.length=fs.length
 Yy:G.ib.Nodup
 ino: ∀(i x g:Nat) (L:List Nat) (f:Hg),G.ib[i]? =some x->G.sg[i]? =some g->G.Ls[i]? =some L->fs[i]? =some f->sQ w x g L f
 lay:Lay w G.parts
theorem iQ.CX{w w':World}{G:Qm}{T:Tr}{fs:List Hg}{q a:Int}(h:iQ w G T fs q a)(hc:AZ [] w w'):iQ w' G T fs q a:=
 ⟨h.blk.Am hc AB,h.Ep.keep hc EY,h.Kt,h.QG,h.Vx,h.Qk,h.Yy,λi x g L f e1 e2 e3 e4=>(h.ino i x g L f e1 e2 e3 e4).keep hc AB EY,h.lay.mono hc.size⟩
theorem NI{α:Type}{T:List (ByteArray×α)}{d:ByteArray}{F:α}(hd:BJ T d=none)(k:ByteArray):BJ (T++[(d,F)]) k=if d=k then some F else BJ T k:=by
 induction T with
 |nil=>rw[List.nil_append,Fg]|cons p r ih=>
  rw[Fg] at hd;by_cases hp:p.1=d;rw[if_pos hp] at hd;cases hd;rw[if_neg hp] at hd;rw[List.cons_append,Fg,ih hd,Fg];by_cases h1:p.1=k;rw[if_pos h1,if_neg (λe=>hp (h1.trans e.symm)),if_pos h1];rw[if_neg h1,if_neg h1]
theorem Lay.mY{w:World}{Ps:List (List Nat)}(h:Lay w Ps){L:List Nat}{j:Nat}{Q:List Nat}(hj:Ps[j]? =some Q)(hL: ∀x∈L,x∈Q){i:Nat}{P:List Nat}(hi:Ps[i]? =some P)(hn:i≠j): ∀x∈P,x∉L:=
 λx hx hm=>h.ne hi hj hn x hx (hL x hm)
theorem iQ.dir{w w':World}{G:Qm}{T:Tr}{fs:List Hg}{q a:Int}(h:iQ w G T fs q a){d:ByteArray}{fb:Nat}(hd:BJ T d=none)(hc:AZ [G.t1] w w')(htop:Mp w' G.t1 IA (Dp (Ef G.g1) d (.map (some fb))))(hfb:Mp w' fb IA [])(hge:w.heap.size<=fb):
  iQ w' {G with g1:=Dp G.g1 d (fb,[])} (T++[(d,[])]) fs q a:=by
 (have ht1: ∀x∈[G.t1],x∈EL G.t1 G.g1:=by simp[EL]);have ho:=λ(i:Nat) (P:List Nat) (hi:G.parts[i]? =some P) (hn:i≠1)=>h.lay.mY (j:=1) rfl ht1 hi hn;have htl:=h.Ep.top.lt;have htr:Tree w' G.t1 (Dp G.g1 d (fb,[])):=Tree.put h.Ep.nodup h.Ep.sub h.Ep.apart hc htop (by simpa[IU] using hfb) Ac (λp hp _ e=>by have:=(h.Ep.sub p hp).lt;omega) (λp hp _=>by simpa using h.Ep.Kr hp);refine⟨h.blk.Am hc (ho 0 _ rfl Az _ AY),htr,h.Kt.put h.Ep.nodup (λk=>NI hd k) (λn=>rfl),h.QG,h.Vx,h.Qk,h.Yy,λi x g L f e1 e2 e3 e4=>?_,?_⟩;exact (h.ino i x g L f e1 e2 e3 e4).keep hc (ho 2 _ rfl Az x (Aa e1)) (ho (i+3) L (by simpa[Qm.parts] using e3) Ac);exact h.lay.Em (w':=w') (i:=1) (P':=EL G.t1 (Dp G.g1 d (fb,[]))) rfl (NT h.Ep.nodup (.inr hge)) htr.lt hc.size
theorem iQ.file{w w1 w2 w3:World}{G:Qm}{T:Tr}{fs:List Hg}{q a:Int}{d n:ByteArray}{F:Qi}(h:iQ w G (T++[(d,F)]) fs q a)(hd:BJ T d=none)(hn:BJ F n=none)(AQr: ∀p∈T++[(d,F)],∀q∈p.2,q.2<fs.length)
  {fb:Nat} {f:List (ByteArray×Nat)} (he:BJ G.g1 d=some (fb,f)) (hc1:AZ [] w w1) {g:Nat} {L:List Nat} {ff:List Int} (hL: ∀k∈L,w.heap.size<=k) (hs:Vs w1 g L ff []) (hc2:AZ [] w1 w2) {x:Nat} (hx:w1.heap.size<=x) (hb:Bo w2 x 126 #[.pointer (some ⟨g,0,none⟩)])
  (hc3:AZ [fb] w2 w3) (hfb:Mp w3 fb IA (Dp (IU f) n (.pointer (some ⟨x,0,none⟩)))):
  iQ w3 {G with g1:=Dp G.g1 d (fb,Dp f n x),ib:=G.ib++[x],sg:=G.sg++[g],Ls:=G.Ls++[L]} (T++[(d,F++[(n,fs.length)])]) (fs++[(ff,[])]) q a:=by
 have hmem:=CP he;have h2:=h.CX (hc1.Aq hc2);(have hfm: ∀x∈[fb],x∈EL G.t1 G.g1:=λy hy=>by simp only[Ad] at hy;subst hy;exact JF hmem);have ho:=λ(i:Nat) (P:List Nat) (hi:G.parts[i]? =some P) (hn:i≠1)=>h2.lay.mY (j:=1) rfl hfm hi hn;have hfv:Dp (IU f) n (.pointer (some ⟨x,0,none⟩))=IU (Dp f n x):=Xf (λi:Nat=>Value.pointer (some ⟨i,0,none⟩)) f n x;rw[hfv] at hfb
 have htop:Mp w3 G.t1 IA (Dp (Ef G.g1) d (.map (some fb))):=by
  rw[U4 (by rw[EZ,he];rfl)];exact h2.Ep.top.Am hc3 (by simpa using (h2.Ep.Kr hmem).symm)
 (have hLn: ∀p∈G.g1,p.1≠d->p.2.1∉[fb]:=λp hp hne=>by simpa using h2.Ep.ik hp hmem hne);have htr:Tree w3 G.t1 (Dp G.g1 d (fb,Dp f n x)):=Tree.put h2.Ep.nodup h2.Ep.sub h2.Ep.apart hc3 htop hfb (h2.Ep.Kr hmem) (λp hp hne=>by simpa using hLn p hp hne) hLn;have hfs:=h.Kt.sub d (fb,f) F he (by rw[NI hd,if_pos rfl])
 have hxf:x≠fb:=by
  have:=h.lay.lt (EL G.t1 G.g1) (Aa (i:=1) rfl) fb (JF hmem);have:=hc1.size;omega
 have hgrow:D5 (G.ib++[x]) G.g1 (T++[(d,F)]):=⟨h.Kt.top,λk e F' hk hF' n'=>by
  rw[h.Kt.sub k e F' hk hF' n']
  cases hn':BJ F' n' with
  |none=>rfl|some i=>
   have:=AQr _ (CP hF') _ (CP hn');simp only[Option.map_some]
   rw[Zt (by rw[h.QG];exact this)]⟩
 refine⟨h2.blk.Am hc3 (ho 0 _ rfl Az _ AY),htr,?_,by simp[h.QG],by simp[h.Vx],by simp[h.Qk],?_,?_,?_⟩
 ·refine hgrow.put h.Ep.nodup (F:=F++[(n,fs.length)]) (λk=>?_) (λn'=>?_)
  ·rw[NI hd,NI hd];by_cases hk:d=k<;>simp[hk]
  rw[RX (h2.Ep.Q5 hmem),NI hn,hgrow.sub d (fb,f) F he (by rw[NI hd,if_pos rfl]) n'];by_cases hnn:n=n'
  ·rw[if_pos hnn,if_pos hnn,<- h.QG];simp only[Option.map_some];rw[AAm]
  rw[if_neg hnn,if_neg hnn]
 ·show (G.ib++[x]).Nodup;rw[EN];refine⟨h.Yy,AY,λy hy z hz=>?_⟩;simp only[Ad] at hz;subst hz;have:=h.lay.lt G.ib (Aa (i:=2) rfl) y hy;have:=hc1.size;omega
 ·intro i y gg M f0 e1 e2 e3 e4;have l1:=h.QG;have l2:=h.Vx;have l3:=h.Qk;by_cases hil:i<fs.length
  ·simp only at e1 e2 e3;rw[Dy Ac] at e1 e2 e3 e4;exact (h2.ino i y gg M f0 e1 e2 e3 e4).keep hc3 (ho 2 _ rfl Az y (Aa e1)) (ho (i+3) M (by simpa[Qm.parts] using e3) Ac)
  have hie:i=fs.length:=by
   have:=(BB.1 e4).1;simp at this;omega
  subst hie;simp only at e1 e2 e3;rw[Bj Ac,l1,DT] at e1;rw[Bj Ac,l2,DT] at e2;rw[Bj Ac,l3,DT] at e3;rw[Bj Ac,DT] at e4;simp at e1 e2 e3 e4;subst e1;subst e2;subst e3;subst e4;refine⟨hb.Am hc3 (by simpa using hxf),(hs.Am hc2 EY).Am hc3 (λk hk hm=>?_)⟩;simp only[Ad] at hm;subst hm;have h1:=hL _ hk;have h3:=h.lay.lt (EL G.t1 G.g1) (Aa (i:=1) rfl) _ (JF hmem);simp only at h3;omega
 have l1:=h.lay.snoc (w':=w1) hL hs.lt hc1.size
 have l2:=l1.Em (w':=w2) (i:=2) (P:=G.ib) (P':=G.ib++[x]) rfl (λy hy=>by
  rcases AU.1 hy with hy|hy;exact .inl hy
  ·simp only[Ad] at hy;subst hy;exact .inr hx) (λy hy=>by
  rcases AU.1 hy with hy|hy;exact h2.lay.lt G.ib (Aa (i:=2) rfl) y hy
  simp only[Ad] at hy;subst hy;exact hb.lt) hc2.size
 have l3:=l2.Em (w':=w3) (i:=1) (P:=EL G.t1 G.g1) (P':=EL G.t1 (Dp G.g1 d (fb,Dp f n x))) rfl (NT h.Ep.nodup (.inl (JF hmem))) htr.lt hc3.size;exact l3
def Eh {α:Type} (last:ByteArray) (l:List (ByteArray×α)):ByteArray:=(l.getLast?.map (·.1)).getD last
theorem XB{α:Type}(last:ByteArray)(l:List (ByteArray×α))(x:ByteArray×α):Eh last (l++[x])=x.1:=by simp[Eh]
theorem gG{α:Type}(last:ByteArray)(l:List (ByteArray×α))(x:ByteArray×α):Eh last (x::l)=Eh x.1 l:=by
 unfold Eh
 cases l with|nil=>rfl|cons y r=>simp[List.getLast?_cons]
theorem qG(f:Bool)(last:ByteArray)(a b:List (ByteArray×List Int))(h:EU f last a=0):EU f last (a++b)=EU (f && a.isEmpty) (Eh last a) b:=by
 induction a generalizing f last with
 |nil=>simp[Eh]|cons x r ih=>
  unfold EU at h;by_cases ho:Gn f last x.1=0
  ·rw[if_neg (by simp[ho])] at h;rw[List.cons_append,EU,if_neg (by simp[ho]),ih false x.1 h,gG];simp
  rw[if_pos ho] at h;exact absurd h ho
theorem Zy(f:Bool)(last:ByteArray)(a b:He)(h:GX f last a=0):GX f last (a++b)=GX (f && a.isEmpty) (Eh last a) b:=by
 induction a generalizing f last with
 |nil=>simp[Eh]|cons x r ih=>
  unfold GX at h;by_cases ho:Gn f last x.1=0
  ·rw[if_neg (by simp[ho])] at h;by_cases hf:EU true noS x.2=0
   ·rw[if_neg (by simp[hf])] at h;rw[List.cons_append,GX,if_neg (by simp[ho]),if_neg (by simp[hf]),ih false x.1 h,gG];simp
   rw[if_pos hf] at h;exact absurd h hf
  rw[if_pos ho] at h;exact absurd h ho
theorem YQ{α:Type}{l:List α}{i:Nat}{x:α}(h:l[i]? =some x):l=l.take i++x::l.drop (i+1):=by
 have hi:=(BB.1 h).1
 conv=>lhs;rw[<- Gs i l,Gh hi]
 rw[(BB.1 h).2]
theorem UX{D:He}{i:Nat}{d:ByteArray×List (ByteArray×List Int)}(hd:D[i]? =some d)(h:GX true noS (D.take i)=0):
  GX true noS D=GX (i==0) (Eh noS (D.take i)) (d::D.drop (i+1)):=by
 have hi:=(BB.1 hd).1
 conv=>lhs;rw[YQ hd]
 rw[Zy _ _ _ _ h];congr 1
 cases i with
 |zero=>rfl|succ k=>
  cases D with|nil=>simp at hi|cons y r=>rfl
theorem Y0{l:List (ByteArray×List Int)}{i:Nat}{d:ByteArray×List Int}(hd:l[i]? =some d)(h:EU true noS (l.take i)=0):
  EU true noS l=EU (i==0) (Eh noS (l.take i)) (d::l.drop (i+1)):=by
 have hi:=(BB.1 hd).1
 conv=>lhs;rw[YQ hd]
 rw[qG _ _ _ _ h];congr 1
 cases i with
 |zero=>rfl|succ k=>
  cases l with|nil=>simp at hi|cons y r=>rfl
theorem gI{D:He}{i:Nat}{d:ByteArray×List (ByteArray×List Int)}(hd:D[i]? =some d)(h:GX true noS (D.take i)=0)(ho:Gn (i==0) (Eh noS (D.take i)) d.1=0)(hf:EU true noS d.2=0):GX true noS (D.take (i+1))=0:=by
 have hi:=(BB.1 hd).1;(have h1:(D.take (i+1))[i]? =some d:=by rw[VN Ac];exact hd);rw[UX h1 (by rw[Hw,DK Ac];exact h),Hw,DK Ac];unfold GX;rw[if_neg (by simp[ho]),if_neg (by simp[hf])];rw[Et (by simp;omega)];rfl
theorem U8{l:List (ByteArray×List Int)}{i:Nat}{d:ByteArray×List Int}(hd:l[i]? =some d)(h:EU true noS (l.take i)=0)(ho:Gn (i==0) (Eh noS (l.take i)) d.1=0):EU true noS (l.take (i+1))=0:=by
 have hi:=(BB.1 hd).1;(have h1:(l.take (i+1))[i]? =some d:=by rw[VN Ac];exact hd);rw[Y0 h1 (by rw[Hw,DK Ac];exact h),Hw,DK Ac];unfold EU;rw[if_neg (by simp[ho])];rw[Et (by simp;omega)];rfl
theorem AII{D:He}{i:Nat}{d:ByteArray×List (ByteArray×List Int)}(hd:D[i]? =some d)(h:GX true noS (D.take i)=0)(ho:Gn (i==0) (Eh noS (D.take i)) d.1=0):d.1∉(D.take i).map Prod.fst:=by
 have hi:=(BB.1 hd).1
 have h2:GX true noS (D.take i++[(d.1,[])])=0:=by
  rw[Zy _ _ _ _ h,show (true && (D.take i).isEmpty)=(i==0) by
   cases i with
   |zero=>rfl
   |succ k=>cases D with
    |nil=>simp at hi
    |cons y r=>rfl]
  unfold GX;rw[if_neg (by simp[ho]),if_neg (by simp[EU])];rfl
 have h3:=(fZ h2).1;rw[Bf,IM] at h3;intro hm;have:=h3.2.2 _ hm d.1 AY;rw[Wp] at this;cases this
theorem AFc{l:List (ByteArray×List Int)}{i:Nat}{d:ByteArray×List Int}(hd:l[i]? =some d)(h:EU true noS (l.take i)=0)(ho:Gn (i==0) (Eh noS (l.take i)) d.1=0):d.1∉(l.take i).map Prod.fst:=by
 have h3:=(U7 (U8 hd h ho)).1;rw[take_snoc _ _ _ hd,Bf,IM] at h3;intro hm;have:=h3.2.2 _ hm d.1 AY;rw[Wp] at this;cases this
end Go.Proofs.YtkkgcebhfghdnaaGreatDoor.Vw
