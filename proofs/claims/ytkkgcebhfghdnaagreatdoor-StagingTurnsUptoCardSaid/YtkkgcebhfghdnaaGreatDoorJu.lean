/- Part 21 of what that rests on; no condition. -/
import Derived.Test.YtkkgcebhfghdnaaGreatDoorJt
import Derived.Deep.RegionHeld3
import Derived.Deep.RegionLaw
import Derived.LaidEqlPtr
import Derived.Lib.SliceRun
import Derived.StillTailTactics
set_option maxRecDepth 100000
set_option maxHeartbeats 8000000
open Go.ByteArray renaming toList_eq→Yg
open List renaming length_cons→ES, cons_append→Dj, length_nil→Ha, replicate→L8, sum_cons→Bo
open Go.IntKind renaming wrap_i64→NJ
open Option renaming map_none→Xy, map_some→FY, none→AB, some→AA
open Go.Value renaming pointer→P9
open Prod renaming fst→Aa
open Go renaming Value→AP, World→AL, Calls→A7
namespace Go.Proofs.YtkkgcebhfghdnaaGreatDoor.Vw
open Go.RowKit
section
variable {l xs:List Nat}{c i j n x y:Nat}{w:AL}
def pv (x:Nat):AP:=.pointer (AA ⟨x,0,AB⟩)
def Ob (w:AL) (x:Nat):Prop:=∃t cs,Bl w x t cs
theorem Ob.Ak{w w':AL}{x:Nat}{L:List Nat}(h:Ob w x)(hc:AZ L w w')(hn:x∉L):Ob w' x:=by
 obtain⟨t,cs,h⟩:=h;exact⟨t,cs,h.Ak hc hn⟩
theorem pR(hx:Ob w x)(hy:Ob w y):(binOp .eql 121 (.pointer (AA ⟨x,0,AB⟩)) (.pointer (AA ⟨y,0,AB⟩))).run Af w=.ok (.bool (decide (x=y))) w:=by
 obtain⟨i,hi,hsz⟩: ∃i,Af.info? 126=AA i/\i.size≠0:=by
  have h:(Af.info? 126).map (·.size)=AA 1:=by kernel_rfl
  cases hi:Af.info? 126 with|none=>rw[hi] at h;cases h|some i=>rw[hi] at h;injection h with h;exact⟨i,rfl,by have h':i.size=1:=h;omega⟩
 by_cases h:x=y
 ·subst h;rw[decide_eq_true rfl];exact run_eql_ptr_same w _ zL hi
 rw[decide_eq_false h];obtain⟨t,cs,hbx⟩:=hx;obtain⟨t',cs',hby⟩:=hy;exact run_eql_ptr_other w zL hi hsz (λe=>h (by injection e)) hbx hby
theorem pU(x y k:Nat)(w:AL)(hk:w.cell? ⟨k,0,AB⟩=AA (pv x))(hx:Ob w x)(hy:Ob w y):
  A7 Af 84 #[pv y,.pointer (AA ⟨k,0,AB⟩)] w λe w'=>e=.returned (.bool (decide (x=y)))/\AZ [] w w':=by
 have hq:=pR hx hy;unfold pv at hk⊢;clear hx hy;obtain⟨b,hb⟩: ∃b,decide (x=y)=b:=⟨_,rfl⟩;rw[hb] at hq⊢;clear hb;go_enter ASB,Tryz.ntmps84;go_wp2;go_ret;exact⟨rfl,AZ.refl _ _⟩
theorem AAE{A:Option Addr}(h:Rd w 1 A n c (xs.map pv))(hj:j<n):
  ∃ad x,A=AA ad/\xs[j]? =AA x/\w.cell? (ad.add j)=AA (.pointer (AA ⟨x,0,AB⟩)):=by
 obtain⟨ad,u,h1,h2,h3⟩:=h.fC hj;rw[Bg] at h2
 cases hz:xs[j]? with|none=>rw[hz] at h2;cases h2|some x=>rw[hz] at h2;simp only[FY,DN] at h2;subst h2;exact⟨ad,x,h1,rfl,h3⟩
theorem AHG(A:Option Addr)(n c:Nat)(xs:List Nat)(x k:Nat)(w:AL)(hr:Rd w 1 A n c (xs.map pv))(hk:w.cell? ⟨k,0,AB⟩=AA (pv x))(hbx:Ob w x)(hbs: ∀y∈xs,Ob w y)(hn:n<=1073741824):
  A7 Af 120 #[.slice A n c,.func (.func 84) #[] #[.pointer (AA ⟨k,0,AB⟩)]] w λe w'=>AZ [] w w'/\
   ((e=.returned (.int .i64 (-1))/\x∉xs)\/∃i:Nat,e=.returned (.int .i64 i)/\xs[i]? =AA x/\x∉xs.take i):=by
 (have hl:xs.length=n:=by have:=hr.1;simp at this;omega);have HR:=AQ hr;have HK:=AQ hk;have HL:=AQ hl;have HBX:=AQ hbx;have ZX:=AQ hbs;clear hr hk hl hbx hbs;go_enter AJP,Tryz.ntmps120;go_wp2;go_loopw [8] (λq wr=>∃i:Nat,i<=n/\q=.int .i64 i/\x∉xs.take i/\AZ [] w wr) (λq _=>n - (intOf q).toNat)
 case atStart=>exact⟨0,D5 _,rfl,AV,AZ.refl _ _⟩
 obtain⟨i,hi,rfl,hall,hch⟩:=hrel;have MF:=AQ hall;have DY:=AQ hch;clear hall hch;by_cases hlt:i<n
 ·(have hlt':(i:Int)<n:=by omega);obtain⟨ad,y,rfl,hx,hcell⟩:=AAE (HR.out.Ak DY.out Ej) hlt;have HX:=AQ hx;clear hx;(go_wp2_with fail);refine (pU x y k wr (DY.out.cell HK.out BC) (HBX.out.Ak DY.out BC) ((ZX.out y (Bq HX.out)).Ak DY.out BC)).mono ?_;rintro e w3 ⟨rfl,hc3⟩;have Hz:=AQ (DY.out.Ap hc3);clear hc3;by_cases hxy:x=y
  ·subst hxy;simp only[decide_true];go_wp2;go_ret;exact⟨Hz.out,.inr ⟨i,rfl,HX.out,MF.out⟩⟩
  simp only[hxy,decide_false];have HXY:=AQ hxy;clear hxy;go_wp2;go_roundw
  case rel=>
   refine⟨i+1,Ad,by go_num,λhy=>?_,Hz.out⟩;rw[take_snoc _ _ _ HX.out] at hy;rcases Be.1 hy with h|h;exact MF.out h;simp at h;exact HXY.out h
  simp[intOf];omega
 (obtain rfl:i=n:=by omega);go_wp2;go_ret;refine⟨DY.out,.inl ⟨rfl,λhm=>MF.out ?_⟩⟩;rw[FH (by rw[HL.out];exact Ba _)];exact hm
theorem Own.after{e:TypeId}{g:Nat}{xs:List AP}(h:Own w e 1 (AA ⟨g,0,AB⟩) n c xs){o:Nat}(ho:n<=o)(u:AP):Own (w.setCell ⟨g,o,AB⟩ u) e 1 (AA ⟨g,0,AB⟩) n c xs:=by
 rcases h.form with ⟨h1,_⟩|⟨g',cur,hA,hb,hn,hm,hs,ht⟩;(cases h1);injection hA with hA;injection hA with hA;subst hA;refine⟨h.1,.inr ⟨g,c,_,rfl,D5 _,hb.FK o u,hn,hm,by rw[AE9];exact hs,?_⟩⟩;rw[<- ht,AFA,AFB];rw[List.set_eq_of_length_le];rw[Ie];omega
theorem Own.AF1{e:TypeId}{g n c:Nat}{xs:List AP}: ∀(us:List AP) {w:AL} (_:Own w e 1 (AA ⟨g,0,AB⟩) n c xs) {o:Nat} (_:n<=o),Own (w.setCells g o us) e 1 (AA ⟨g,0,AB⟩) n c xs/\AZ [g] w (w.setCells g o us)
 | [],w,h,o,ho=>⟨h,AZ.refl _ _⟩
 |u::r,w,h,o,ho=>by
  have h1:=Own.after h ho u;have h2:=Own.AF1 r h1 (o:=o+1) Ad;exact⟨h2.1,((AZ.refl [g] w).setCell AV u).trans h2.2 (λx hx=>.inl hx)⟩
structure WH (xs:List Nat) (x:Nat) (i j:Nat) (l:List Nat):Prop where
 len:l.length=xs.length
 le:i<j
 jn:j<=xs.length
 head:l.take i=(xs.take j).filter (λy=>y !=x)
 rest:l.drop j=xs.drop j
theorem WH.at_(h:WH xs x i j l)(hj:j<xs.length): ∃y,xs[j]? =AA y/\l[j]? =AA y:=by
 refine⟨xs[j],CQ hj,?_⟩;have:=congrArg (λl=>l[0]?) h.rest;simp only[xN,Nat.add_zero] at this;rw[this,CQ hj]
theorem WH.skip(h:WH xs x i j l)(hj:xs[j]? =AA x):WH xs x i (j+1) l:=by
 have hl:=(DC.1 hj).1;refine⟨h.len,by have:=h.le;omega,hl,?_,?_⟩
 ·rw[h.head,take_snoc _ _ _ hj,kK];simp
 have:=congrArg (List.drop 1) h.rest;rw[X5,X5] at this;exact this
theorem WH.keep(h:WH xs x i j l)(hj:xs[j]? =AA y)(hy:y≠x):WH xs x (i+1) (j+1) (l.set i y):=by
 have hl:=(DC.1 hj).1;have hle:=h.le;have hln:=h.len;refine⟨by rw[AE8];exact h.len,Ad,hl,?_,?_⟩
 ·rw[take_snoc (l.set i y) i y (by rw[X3,BZ rfl,BZ Ad]),take_snoc _ _ _ hj,kK,<- h.head,List.take_set_of_le (Ba _)];simp[hy]
 have:=congrArg (List.drop 1) h.rest;rw[X5,X5] at this;rw[List.drop_set_of_lt Ad];exact this
theorem WH.done(h:WH xs x i xs.length l):l.take i=xs.filter (λy=>y !=x):=by
 have:=h.head;rwa[xY] at this
theorem AHH(A:Option Addr)(n c:Nat)(xs:List Nat)(x k:Nat)(w:AL)(ho:Own w 121 1 A n c (xs.map pv))(hk:w.cell? ⟨k,0,AB⟩=AA (pv x))(hkA:k∉bo A)(hbx:Ob w x)(hbs: ∀y∈xs,Ob w y)(hxA: ∀y∈x::xs,y∉bo A)(hn:n<=1073741824):
  A7 Af 83 #[.slice A n c,.func (.func 84) #[] #[.pointer (AA ⟨k,0,AB⟩)]] w λe w'=>AZ (bo A) w w'/\
   ∃n',n'=(xs.filter (λy=>y !=x)).length/\e=.returned (.slice A n' c)/\Own w' 121 1 A n' c ((xs.filter (λy=>y !=x)).map pv):=by
 (have hl:xs.length=n:=by have:=ho.1;simp at this;omega);have HO:=AQ ho;have HK:=AQ hk;have HL:=AQ hl;have HBX:=AQ hbx;have ZX:=AQ hbs;have HKA:=AQ hkA;have HXA:=AQ hxA;clear ho hk hl hbx hbs hkA hxA;have AUe:= @AQF;go_enter ANG,Tryz.ntmps83;(go_wp2_with fail);refine (AHG A n c xs x k w HO.out.rd HK.out HBX.out ZX.out hn).mono ?_;rintro e w1 ⟨hc1,hcase⟩;have DI:=AQ hc1;clear hc1;rcases hcase with ⟨rfl,hno⟩|⟨i0,rfl,hi0,hpre⟩
 ·have HN:=AQ hno;clear hno;go_wp2;go_ret
  have hf:xs.filter (λy=>y !=x)=xs:=by
   rw[kF];intro y hy;simp only[bne_iff_ne,ne_eq];rintro rfl;exact HN.out hy
  refine⟨DI.out.nil _,n,by rw[hf];exact HL.out.symm,rfl,?_⟩;rw[hf];exact HO.out.Ak DI.out Ej
 have hil:=(DC.1 hi0).1;(have hn0:i0<n:=by have:=HL.out;omega);have hne:((i0:Int)== -1)=false:=beq_eq_false_iff_ne.2 Ad
 have HI0:Hid (WH xs x i0 (i0+1) xs):=AQ ⟨rfl,Ad,Ad,by
  rw[take_snoc _ _ _ hi0,kK]
  have:(xs.take i0).filter (λy=>y !=x)=xs.take i0:=by
   rw[kF];intro y hy;simp only[bne_iff_ne,ne_eq];rintro rfl;exact hpre hy
  rw[this];simp,rfl⟩
 have HO1:=AQ (HO.out.Ak DI.out Ej);clear hi0 hpre hil;go_wp2;go_loopw [5,6,7] (λs5 s6 _ wr=>∃(i j:Nat) (l:List Nat),s5=.int .i64 i/\s6=.int .i64 j/\WH xs x i j l/\Own wr 121 1 A n c (l.map pv)/\AZ (bo A) w wr) (λ_ s6 _ _=>n - (intOf s6).toNat)
 case atStart=>exact⟨i0,i0+1,xs,rfl,by go_num,HI0.out,HO1.out,DI.out.nil _⟩
 obtain⟨i,j,l,rfl,rfl,hD,hown,hch⟩:=hrel;(have hjn:j<=n:=by have:=hD.jn;have:=HL.out;omega);have hij:i<j:=hD.le;have HD:=AQ hD;have HW:=AQ hown;have DY:=AQ hch;clear hD hown hch;by_cases hlt:j<n
 ·(have hlt':(j:Int)<n:=by omega);obtain⟨y,hxy,hly⟩:=HD.out.at_ (by have:=HL.out;omega);obtain⟨ad,y',rfl,hy',hcell⟩:=AAE HW.out.rd hlt;(have hyy:y'=y:=by rw[hly] at hy';exact (EF hy').symm);subst hyy;have HY:=AQ hxy;(have hin:i<n:=by omega);obtain⟨ad2,u2,hA2,hu2,hc2,hfz,hset⟩:=HW.out.fC hin;injection hA2 with hA2;subst hA2;have AUf:=AQ hset;have hmem:y'∈xs:=Bq hxy
  have UT:Hid (A7 Af 84 #[pv y',.pointer (AA ⟨k,0,AB⟩)] wr λe w'=>e=.returned (.bool (decide (x=y')))/\AZ [] wr w'):=
   AQ (pU x y' k wr (DY.out.cell HK.out HKA.out) (HBX.out.Ak DY.out (HXA.out x AV)) ((ZX.out y' hmem).Ak DY.out (HXA.out y' (by simp[hmem]))))
  clear hxy hly hy' hu2 hset hmem;(go_wp2_with fail);refine UT.out.mono ?_;rintro e w3 ⟨rfl,hc3⟩;have Hz:=AQ hc3;have HW3:=AQ (HW.out.Ak hc3 Ej);have pM:=hc3.cell hc2 BC;by_cases hxe:x=y'
  ·subst hxe;simp only[decide_true];clear hc3 hc2 hfz pM;go_wp2;go_roundw
   case rel=>exact⟨i,j+1,l,rfl,by go_num,HD.out.skip HY.out,HW3.out,DY.out.Ap Hz.out⟩
   simp[intOf];omega
  simp only[hxe,decide_false];have HXE:=AQ hxe;obtain⟨ad3,u3,hA3,hu3,AUg,hf3,AKD⟩:=HW3.out.fC hin;injection hA3 with hA3;subst hA3;have HS3:=AQ AKD;clear hxe hc3 hc2 hfz pM hu3 AKD;go_wp2;go_roundw
  case rel=>
   refine⟨i+1,j+1,l.set i y',by go_num,by go_num,HD.out.keep HY.out (λe=>HXE.out e.symm),?_,?_⟩
   ·have:=HS3.out (pv y');rw[<- Z4] at this;exact this
   exact (DY.out.Ap Hz.out).setCell (.inl (by simp[add_block])) _
  simp[intOf];omega
 (obtain rfl:j=n:=by omega);rcases HW.out.form with ⟨_,h0,_⟩|⟨g,cur,rfl,hb,hnc,hcm,hcs,htk⟩;omega
 have hcl: ∀ty,(Builtin.clear_ #[114] ty #[.slice (AA ⟨g,i,AB⟩) (j - i) (c - i)]).run Af wr=.ok (.tuple #[]) (wr.setCells g i (L8 (j - i) (.pointer AB))):=
  λty=>Lib.run_clear_slice wr _ _ ty _ AJq (by intro w;kernel_rfl) rfl rfl g i _ _ Ad (λt ht=>by rw[hb.cell,FD Ad];rfl) (λt ht=>hb.frozen _)
 (have hic:i<=c:=by omega);(have hij':(i:Int)<=j:=by omega);have HQ:=AQ (show j<=c from hnc);clear hb hcs htk hcm;go_wp2;go_ret;have hD:=HD.out;have e1:j=xs.length:=HL.out.symm;rw[e1] at hD;have hdone:=hD.done;(have hlen:(xs.filter (λy=>y !=x)).length=i:=by rw[<- hdone,Ie];have:=hD.len;omega);have hcut:=HW.out.cut (k:=i) Ad;rw[N8,<- N9,hdone] at hcut;have haf:=Own.AF1 (L8 (j - i) (P9 AB)) hcut (o:=i) (Ba _);refine⟨DY.out.trans haf.2 (λx hx=>.inl (by simpa using hx)),i,hlen.symm,rfl,haf.1⟩
end
section
variable {L L':List Nat}{B i:Nat}{S:St}{w w':AL}
theorem EI.AKE{G:Bh}(h:EI w G S){g:Nat}{φ:EX->EX}(hg:G.sg[i]? =AA g)(hL:G.Ls[i]? =AA L)(hc:AZ L w w')(hs:WQ w' g L' (φ (S.files.getD i ([],[]))).1 (φ (S.files.getD i ([],[]))).2)
  (hn: ∀k∈L',k∈L\/w.heap.size<=k):EI w' {G with Ls:=G.Ls.set i L'} {S with files:=S.files.modify i φ}:=by
 have hil:i<G.Ls.length:=(DC.1 hL).1;(have hpi:G.parts[i+6]? =AA L:=by simpa[Bh.parts] using hL);have hLL: ∀x∈L,∃j P,j∈[i+6]/\G.parts[j]? =AA P/\x∈P:=λx hx=>⟨i+6,L,AV,hpi,hx⟩;have ho:=λ(j:Nat) (P:List Nat) (hj:G.parts[j]? =AA P) (hne:j∉[i+6])=>h.lay.others hLL hj hne;have n6: ∀j,j<6->j∉[i+6]:=λj hj hm=>by simp at hm;omega
 refine⟨h.blk.Ak hc (ho 0 _ rfl (n6 0 Ar) _ AV),h.FU.keep hc (ho 1 _ rfl (n6 1 Ar)),h.Le,h.tr2.keep hc (ho 2 _ rfl (n6 2 Ar)),h.is2,h.own.Ak hc (ho 3 _ rfl (n6 3 Ar)),λj c v a b=>(h.chn j c v a b).keep hc (ho 5 _ rfl (n6 5 Ar)) (λ_ h=>h) (λ_ _=>rfl) (Ba _),
  h.fM.Ak hc (ho 4 _ rfl (n6 4 Ar)),by simpa using h.Qe,by simpa using h.WR,by simpa using h.RI,h.Zc,h.WT,?_,?_⟩
 ·intro j x gg M f e1 e2 e3 e4;by_cases hij:j=i
  ·subst hij;simp only at e1 e2 e3 e4;rw[ALQ hil] at e3;injection e3 with e3;rw[hg] at e2;injection e2 with e2;subst e2;subst e3;rw[xZ] at e4;simp only[if_true] at e4
   cases hf:S.files[j]? with
   |none=>rw[hf] at e4;cases e4|some f0=>
    rw[hf] at e4;injection e4 with e4;rw[GY,hf] at hs;subst e4;have:=h.ino j x g L f0 e1 hg hL hf;exact⟨this.1.Ak hc (ho 5 _ rfl (n6 5 Ar) x (h.WT x (Bq e1))),hs⟩
  simp only at e1 e2 e3 e4;rw[ALR Ad] at e3;rw[xZ] at e4;simp only[show ¬i=j from λe=>hij e.symm,if_false] at e4;(have e4':S.files[j]? =AA f:=by simpa using e4);exact (h.ino j x gg M f e1 e2 e3 e4').keep hc (ho 5 _ rfl (n6 5 Ar) x (h.WT x (Bq e1))) (ho (j+6) M (by simpa[Bh.parts] using e3) (by simp;omega))
 have:=h.lay.FK (w':=w') (i:=i+6) (P':=L') hpi hn hs.lt hc.size;simpa[Bh.parts] using this
theorem Bh.pV{G:Bh}(hL:G.Ls[i]? =AA L)(hn: ∀k∈L',k∈L\/B<=k): ∀y∈Bh.all {G with Ls:=G.Ls.set i L'},y∈G.all\/B<=y:=by
 intro y hy;simp only[Bh.all,Bh.parts,List.flatten_cons,Be] at hy⊢;rcases hy with h|h|h|h|h|h|h;exact .inl (.inl h);exact .inl (.inr (.inl h));exact .inl (.inr (.inr (.inl h)));exact .inl (.inr (.inr (.inr (.inl h))));exact .inl (.inr (.inr (.inr (.inr (.inl h)))));exact .inl (.inr (.inr (.inr (.inr (.inr (.inl h))))));obtain⟨P,hP,hy⟩:=KD.1 h;rcases kD hP with h1|rfl;exact .inl (.inr (.inr (.inr (.inr (.inr (.inr (KD.2 ⟨P,h1,hy⟩)))))));rcases hn y hy with h2|h2;exact .inl (.inr (.inr (.inr (.inr (.inr (.inr (KD.2 ⟨L,Bq hL,h2⟩)))))));exact .inr h2
theorem EI.wrote{G:Bh}(h:EI w G S){A':Option Addr}{c':Nat}{wr':List Nat}{st':Nat}(hc:AZ (G.b::bo G.Aw) w w')
  (hb:Bl w' G.b 116 #[.map (AA G.t1),.map (AA G.t2),.slice G.A S.D6.length G.c,.slice A' wr'.length c',.int .i64 S.BI,.int .i64 S.stop,.int .i64 (st':Int)])
  (ho:Own w' 121 1 A' wr'.length c' (wr'.map (pI G.ib))) (hA: ∀x∈bo A',x∈bo G.Aw\/w.heap.size<=x):DJ w G {S with wr:=wr',steps:=st'} w':=by
 have hLL: ∀x∈G.b::bo G.Aw,∃j P,j∈[0,4]/\G.parts[j]? =AA P/\x∈P:=λx hx=>by
  rcases BB.1 hx with rfl|hx;exact⟨0,_,AV,rfl,AV⟩;exact⟨4,_,AV,rfl,hx⟩
 have hk:=λ(j:Nat) (P:List Nat) (hj:G.parts[j]? =AA P) (hne:j∉[0,4])=>h.lay.others hLL hj hne;have ATH:=h.lay.FK (w':=w') (i:=4) (P:=bo G.Aw) (P':=bo A') rfl hA ho.lt hc.size
 refine⟨{G with Aw:=A',cw:=c'},⟨hb,h.FU.keep hc (hk 1 _ rfl AV),h.Le,h.tr2.keep hc (hk 2 _ rfl AV),h.is2,h.own.Ak hc (hk 3 _ rfl AV),λj c v a b=>(h.chn j c v a b).keep hc (hk 5 _ rfl AV) (λ_ h=>h) (λ_ _=>rfl) (Ba _),
  ho,h.Qe,h.WR,h.RI,h.Zc,h.WT,λj x g L f e1 e2 e3 e4=>(h.ino j x g L f e1 e2 e3 e4).keep hc (hk 5 _ rfl AV x (h.WT x (Bq e1))) (hk (j+6) L (by simpa[Bh.parts] using e3) AV),ATH⟩,rfl,?_,?_⟩
 ·intro x hx;obtain⟨P,hP,hx⟩:=KD.1 hx;simp only[Bh.parts,BB] at hP;rcases hP with rfl|rfl|rfl|rfl|rfl|hP;exact .inl (Bh.FV (i:=0) rfl hx);exact .inl (Bh.FV (i:=1) rfl hx);exact .inl (Bh.FV (i:=2) rfl hx);exact .inl (Bh.FV (i:=3) rfl hx);exact (hA x hx).imp (λh=>Bh.FV (i:=4) rfl h) id;exact .inl (KD.2 ⟨P,by simp only[Bh.parts,BB];exact .inr (.inr (.inr (.inr (.inr hP)))),hx⟩)
 exact hc.mono (λx hx=>.inl (by
  obtain⟨j,P,_,hj,hxP⟩:=hLL x hx
  exact Bh.FV hj hxP))
theorem DJ.next{w1:AL}{G G1:Bh}{S':St}(hc:AZ G.all w w1)(hb:G1.b=G.b)(hsub: ∀x∈G1.all,x∈G.all\/w.heap.size<=x)(h:DJ w1 G1 S' w'):DJ w G S' w':=by
 obtain⟨G',h1,h2,h3,h4⟩:=h
 exact⟨G',h1,h2.trans hb,λx hx=>by
  rcases h3 x hx with h|h;exact hsub x h
  exact .inr (Ci hc.size h),hc.trans h4 hsub⟩
theorem AEi:Ety Af 114 121 1 8 (.pointer AB):=.mk' AJq Aq rfl Ar
theorem AHI{G:Bh}(h:EI w G S)(hi:Inv B S)(d n:ByteArray)(A:Option Addr)(k c:Nat)(xs:List Int)(hr:Rd w 1 A k c (bv xs))(hB:B+k<=1073741824)(hdis: ∀x∈bo A,x∉G.all):
  A7 Af 178 #[.pointer (AA ⟨G.b,0,AB⟩),.string d,.string n,.slice A k c] w λe w'=>e=.returned (.int .i64 (S.write d n xs).2)/\DJ w G (S.write d n xs).1 w':=by
 (have hlx:xs.length=k:=by have:=hr.1;simp at this;omega);have HF:=AQ h;have HI:=AQ hi;have HBk:=AQ hB;have HB:Hid (B<=1073741824):=AQ Ad;have HR:=AQ hr;have UU:=AQ hlx;have HDS:=AQ hdis;(have k63:k<=1073741824:=by omega);clear h hi hB hr hlx hdis;have k81:= @AJk;have AUh:= @AQL;have AUi:= @AQM;go_enter AJW,Tryz.ntmps178;(go_wp2_with fail);refine (pJ HF.out d n).mono ?_;rintro e w1 ⟨rfl,hc1⟩;have DI:=AQ hc1;obtain⟨o,E,hE⟩: ∃o E,S.Oa d n=(o,E):=⟨_,_,rfl⟩;rw[hE];have HE:=AQ hE
 cases o with
 |none=>
  (have hb:(E !=0)=true:=by simpa using pK hE);have HR:Hid (S.write d n xs=(S,E)):=AQ (by unfold St.write;rw[HE.out]);clear hE;simp only[XZ,Xy];go_wp2;go_ret;exact⟨by rw[HR.out];rfl,by rw[HR.out];exact DJ.same HF.out DI.out⟩
 |some x=>
  obtain⟨he0,hd0,F,hF,hx⟩:=Uz hE;subst he0;have HXL:=AQ (kX HI.out hE);have GR:=AQ (HF.out.CE hc1);obtain⟨g,L,hL,hbx,hs,hg,hix⟩:=(HF.out.CE hc1).bQ (kX HI.out hE);have HL:=AQ hL;have HG:=AQ hg;have HS:=AQ hs;have c0:=hbx.cell 0;simp at c0;have c6:=GR.out.blk.cell 6;have f6:=GR.out.blk.frozen 6;have c4:=GR.out.blk.cell 4;simp at c6 c4;(have hwt:IntKind.i64.wrap ((S.steps:Int)+1)=((S.steps+1:Nat):Int):=by have:=HI.out.st;have:=HB.out;rw[NJ];omega);clear hF hE hx hd0 hs hc1 hL hg hix hbx;simp only[XZ,FY];by_cases hk0:k=0
  ·subst hk0;have hnil:xs=[]:=TF UU.out;have HR2:Hid (S.write d n xs=({S with steps:=S.steps+1},0)):=AQ (by unfold St.write;rw[HE.out];simp only[hnil,if_true]);clear hnil c0 c4;go_wp2;go_ret;refine⟨by rw[HR2.out];rfl,?_⟩;rw[HR2.out];have hF:=GR.out;have hch:AZ [G.b] w1 (w1.setCell ⟨G.b,6,AB⟩ (.int .i64 ((S.steps+1:Nat):Int))):=(AZ.refl _ _).setCell (.inl AV) _;refine DJ.of (w0:=w1) (G0:=G) ?_ DI.out rfl (λx hx=>.inl hx);refine hF.wrote (wr':=S.wr) (st':=S.steps+1) (A':=G.Aw) (c':=G.cw) (hch.mono (λx hx=>.inl (by simp only[CG] at hx;subst hx;simp))) ?_ (hF.fM.Ak hch ?_) (λx hx=>.inl hx);simpa using hF.blk.FK 6 (.int .i64 ((S.steps+1:Nat):Int));intro y hy hm;simp only[CG] at hm;subst hm;exact hF.lay.ne (i:=4) (j:=0) (P:=bo G.Aw) (Q:=[G.b]) rfl rfl Ar _ hy AV
  have hkz: ¬k=0:=hk0
  have hw64:IntKind.i64.wrap (S.BI - (S.used:Int))=S.BI - (S.used:Int):=by
   have h1:=HI.out.BI;have h2:=ACF HI.out;have h3:B*B<=1073741824*1073741824:=AFG HB.out HB.out;rw[NJ];omega
  have HXN:Hid (xs≠[]):=AQ (by intro e;have:=UU.out;rw[e] at this;simp at this;omega);(go_wp2_with fail);refine wp_region_held_drew (S:=λw'=>AZ [] w1 w') Aq ((AZ.refl _ _).drew) (λhHeld=>?_);refine tk 0 ?_;refine tk 1 ?_;refine tk 2 ?_;refine tk 3 ?_;refine tk 4 ?_;refine GI 5 (λw' hSw=>hSw.cell c4 AV) ?_;refine tk 6 ?_;refine EW 7 λK hK=>?_;go_simp;refine (AJ7 (GR.out.CE hHeld) HI.out HB.out).mono ?_;rintro e w3 ⟨rfl,hc3⟩;refine hK.out _ _ (hHeld.Ap hc3) (λhHeld=>?_);(try simp only[Act.put,Bf]);clear hK K;refine tk 8 ?_;refine tk 9 ?_;refine wpAnyH_done Aq ?_ _;(try simp only[Act.put,Bf]);have Hz:=AQ hHeld;clear hHeld c4;by_cases hlt:S.BI - (S.used:Int)<(k:Int)
  ·(have hdec:decide (S.BI - (S.used:Int)<(k:Int))=true:=by simpa using hlt);rw[hdec]
   have HR2:Hid (S.write d n xs=(S,85)):=AQ (by
    unfold St.write;rw[HE.out];simp only[HXN.out,if_false]
    rw[BZ (by rw[UU.out];omega)])
   clear hdec hlt hw64;go_wp2;go_ret;exact⟨by rw[HR2.out];rfl,by rw[HR2.out];exact DJ.same HF.out (DI.out.Ap Hz.out)⟩
  (have hdec:decide (S.BI - (S.used:Int)<(k:Int))=false:=by simpa using hlt);rw[hdec]
  have HR2:Hid (S.write d n xs=({S with files:=S.files.modify x (λf=>(f.1,f.2++[xs])),wr:=S.wr++[x],steps:=S.steps+1},0)):=AQ (by
   unfold St.write;rw[HE.out];simp only[HXN.out,if_false]
   rw[BM (by rw[UU.out];omega)])
  have c03:=Hz.out.cell c0 BC;have HF3:=AQ (GR.out.CE Hz.out);have HS3:=AQ (HS.out.Ak Hz.out Ej);have HW1:Hid (S.wr.length<=1073741824):=AQ (by have:=HI.out.nw;have:=HB.out;omega);have hw1:=HW1.out;clear hdec hlt hw64 c0 c6 f6;(go_wp2_with fail);refine (zQ g L _ _ A k c xs w3 HS3.out Ad (by have:=(HI.out.Ed x).1;have:=HBk.out;omega) (by have:=(HI.out.Ed x).2;have:=HB.out;omega) ((HR.out.Ak DI.out Ej).Ak Hz.out Ej)).mono ?_;rintro e w4 ⟨L',rfl,hs4,hc4,hL4⟩;have TB:=AQ (HF3.out.AKE (φ:=λf=>(f.1,f.2++[xs])) HG.out HL.out hc4 hs4 hL4);have NV:Hid (AZ G.all w w4):=AQ (((DI.out.Ap Hz.out).nil G.all).trans hc4 (λy hy=>.inl (Bh.FV (i:=x+6) (by simpa[Bh.parts] using HL.out) hy)));have WG:Hid (∀y∈Bh.all {G with Ls:=G.Ls.set x L'},y∈G.all\/w.heap.size<=y):=AQ (Bh.pV HL.out (λy hy=>(hL4 y hy).imp id (λh=>by have h1:=DI.out.size;have h2:=Hz.out.size;omega)));have z3:=TB.out.blk.cell 3;simp at z3;clear hs4 hc4 hL4 c03;(go_wp2_with (at_builtin;refine Gz rfl _ _ rfl AEi rfl (TB.out.fM.Ak ((AZ.refl [] w4).alloc (.cells #[.pointer (AA ⟨EE G.ib x,0,AB⟩)] 121)) Ej) rfl (Own.lit w4 121 1 #[.pointer (AA ⟨EE G.ib x,0,AB⟩)] 1 Ar rfl).rd (by simp[Value.oneCell']) (by unfold maxLen;show S.wr.length+1<=_;omega) (by show (S.wr.length+1)*_<=_;omega) ?_;intro A2 c2 w5 hown5 pW pX _;have HCX:Hid (AZ (bo G.Aw) w4 w5):=AQ ((((AZ.refl [] w4).alloc (.cells #[.pointer (AA ⟨EE G.ib x,0,AB⟩)] 121)).nil _).trans pW (λx hx=>.inl hx));have tX:G.b∉bo G.Aw:=(λhm=>TB.out.lay.ne (i:=4) (j:=0) (P:=bo G.Aw) (Q:=[G.b]) rfl rfl Ar _ hm AV);have HB5:=AQ (TB.out.blk.Ak HCX.out tX);have y3:=HB5.out.cell 3;have f3:=HB5.out.frozen 3;have TC:=AQ (HB5.out.FK 3 (.slice A2 (S.wr.length+1) c2));have y6:=TC.out.cell 6;have f6:=TC.out.frozen 6;simp at y3 y6;have HO5:=AQ hown5;have HN5:Hid (∀x∈bo A2,x∈bo G.Aw\/w4.heap.size<=x):=AQ (λx hx=>(pX x hx).imp id (λh=>by have:=h.1;simp at this;omega));clear hown5 pW pX tX));go_ret;have hb7:=TC.out.FK 6 (.int .i64 ((S.steps+1:Nat):Int));have hcs:AZ [G.b] w5 ((w5.setCell ⟨G.b,3,AB⟩ (.slice A2 (S.wr.length+1) c2)).setCell ⟨G.b,6,AB⟩ (.int .i64 ((S.steps+1:Nat):Int))):=((AZ.refl _ _).setCell (.inl AV) _).setCell (.inl AV) _
  have ZM: ∀y∈bo A2,y∉[G.b]:=λy hy hm=>by
   simp only[CG] at hm;subst hm;rcases HN5.out _ hy with h1|h1;exact TB.out.lay.ne (i:=4) (j:=0) (P:=bo G.Aw) (Q:=[G.b]) rfl rfl Ar _ h1 AV;have:=TB.out.blk.lt;simp only at this;omega
  refine⟨by rw[HR2.out];rfl,?_⟩;rw[HR2.out];refine DJ.next (G1:={G with Ls:=G.Ls.set x L'}) NV.out rfl WG.out ?_;refine TB.out.wrote (wr':=S.wr++[x]) (st':=S.steps+1) (A':=A2) (c':=c2) ?_ ?_ ?_ HN5.out;exact (HCX.out.mono (λy hy=>.inl (CO _ hy))).trans hcs (λy hy=>.inl (by simp only[CG] at hy;subst hy;simp));simpa using hb7;have q:=HO5.out.Ak hcs ZM;simpa[pI] using q
theorem AKF{G:Bh}(h:EI w G S)(hi:Inv B S)(d n:ByteArray)(hB:B<=1073741824):
  A7 Af 49 #[.pointer (AA ⟨G.b,0,AB⟩),.string d,.string n] w λe w'=>e=.returned (.int .i64 (S.sync d n).2)/\DJ w G (S.sync d n).1 w':=by
 have HF:=AQ h;have HI:=AQ hi;have HB:=AQ hB;clear h hi hB;have k81:= @AJk;have k82:= @ASk;have k83:= @ASl;go_enter AMu,Tryz.ntmps49;(go_wp2_with fail);refine (pJ HF.out d n).mono ?_;rintro e w1 ⟨rfl,hc1⟩;have DI:=AQ hc1;obtain⟨o,E,hE⟩: ∃o E,S.Oa d n=(o,E):=⟨_,_,rfl⟩;rw[hE];have HE:=AQ hE
 cases o with
 |none=>
  (have hb:(E !=0)=true:=by simpa using pK hE);have HR:Hid (S.sync d n=(S,E)):=AQ (by unfold St.sync;rw[HE.out]);clear hE;simp only[XZ,Xy];go_wp2;go_ret;exact⟨by rw[HR.out];rfl,by rw[HR.out];exact DJ.same HF.out (DI.out.alloc _)⟩
 |some x=>
  obtain⟨he0,hd0,F,hF,hx⟩:=Uz hE;subst he0;have hxl:=kX HI.out hE;have HXL:=AQ hxl;have hcA:AZ [] w1 (w1.alloc (.cells #[.pointer (AA ⟨EE G.ib x,0,AB⟩)] 121)):=(AZ.refl [] w1).alloc _;have HF2:=AQ ((HF.out.CE hc1).CE hcA);have HC2:=AQ (hc1.Ap hcA);obtain⟨g,L,hL,hbx,hs,hg,hix⟩:=HF2.out.bQ hxl;have HL:=AQ hL;have HG:=AQ hg;have HS:=AQ hs;have HIX:=AQ hix;have c0:=hbx.cell 0;simp only[GU] at c0;have HR:Hid (S.sync d n=({S with files:=S.files.modify x (λf=>(EX.all f,[])),wr:=S.wr.filter (λy=>y !=x),steps:=S.steps+1},0)):=AQ (by unfold St.sync;rw[HE.out]);have HKB:Hid (Bl (w1.alloc (.cells #[.pointer (AA ⟨EE G.ib x,0,AB⟩)] 121)) w1.heap.size 121 #[.pointer (AA ⟨EE G.ib x,0,AB⟩)]):=AQ (Bl.new w1 _ _);have Qh:Hid (∀y∈G.all,y<w1.heap.size):=AQ (HF.out.CE hc1).lt;obtain⟨kb,hkb⟩: ∃kb,w1.heap.size=kb:=⟨_,rfl⟩;obtain⟨W,hW⟩: ∃W,w1.alloc (.cells #[.pointer (AA ⟨EE G.ib x,0,AB⟩)] 121)=W:=⟨_,rfl⟩;have hck:=HKB.out.cell 0;simp only[GU] at hck;rw[hW] at HKB hck HF2 HC2 HS c0;rw[hkb] at HKB hck Qh;clear hF hE hx hd0 hs hc1 hL hg hix hbx hcA hxl;simp only[XZ,FY];(go_wp2_with fail);refine (AG4 g L _ _ W HS.out (by have:=(HI.out.Ed x).1;have:=HB.out;omega)).mono ?_;rintro e w4 ⟨L',rfl,hs4,hc4,hL4⟩;have TB:=AQ (HF2.out.AKE (φ:=λf=>(EX.all f,[])) HG.out HL.out hc4 hs4 hL4);have NV:Hid (AZ G.all w w4):=AQ ((HC2.out.nil G.all).trans hc4 (λy hy=>.inl (Bh.FV (i:=x+6) (by simpa[Bh.parts] using HL.out) hy)));have WG:Hid (∀y∈Bh.all {G with Ls:=G.Ls.set x L'},y∈G.all\/w.heap.size<=y):=AQ (Bh.pV HL.out (λy hy=>(hL4 y hy).imp id (λh=>by have h1:=HC2.out.size;omega)))
  have hkL:kb∉L:=λhm=>by
   have:=Qh.out kb (Bh.FV (i:=x+6) (by simpa[Bh.parts] using HL.out) hm);omega
  have HKB4:=AQ (HKB.out.Ak hc4 hkL);have z3:=TB.out.blk.cell 3;have zk:=HKB4.out.cell 0;simp at z3 zk;have Nv:Hid (S.wr.length<=1073741824):=AQ (by have:=HI.out.nw;have:=HB.out;omega)
  have HKW:Hid (kb∉bo G.Aw):=AQ (λhm=>by
   have:=Qh.out kb (Bh.FV (i:=4) rfl hm)
   omega)
  have HIS:Hid (∀i,i<S.files.length->EE G.ib i∈G.K/\Ob w4 (EE G.ib i)):=AQ (λi hi=>by
   obtain⟨gg,LL,_,hbb,_,_,hii⟩:=TB.out.bQ (i:=i) (by simpa using hi)
   exact⟨TB.out.WT _ (Bq hii),_,_,hbb⟩)
  have HOW:Hid (Own w4 121 1 G.Aw S.wr.length G.cw ((S.wr.map (EE G.ib)).map pv)):=AQ (by
   have:=TB.out.fM;rw[Eg]
   exact this)
  (have hwt:IntKind.i64.wrap ((S.steps:Int)+1)=((S.steps+1:Nat):Int):=by have:=HI.out.st;have:=HB.out;rw[NJ];omega);clear hs4 hc4 hL4 hck c0 hkL;go_wp2_with fail
  refine (AHH G.Aw S.wr.length G.cw (S.wr.map (EE G.ib)) (EE G.ib x) kb w4 HOW.out zk HKW.out (HIS.out x HXL.out).2 (λy hy=>by
   obtain⟨i,hi,rfl⟩:=Bz.1 hy
   exact (HIS.out i (HI.out.wr i hi)).2) (λy hy=>?_) Nv.out).mono ?_
  ·have hyK:y∈G.K:=by
    rcases BB.1 hy with rfl|hy;exact (HIS.out x HXL.out).1;obtain⟨i,hi,rfl⟩:=Bz.1 hy;exact (HIS.out i (HI.out.wr i hi)).1
   exact TB.out.lay.ne (i:=5) (j:=4) (P:=G.K) (Q:=bo G.Aw) rfl rfl Ar y hyK
  rintro e w5 ⟨hc5,n',hn',rfl,ho5⟩
  have hfm:(S.wr.map (EE G.ib)).filter (λy=>y !=EE G.ib x)=(S.wr.filter (λy=>y !=x)).map (EE G.ib):=by
   rw[xe];congr 1;refine kJ λy hy=>?_;simp only[Function.comp];have hyl:=HI.out.wr y hy;have hxl:=HXL.out;have hlen:=HF.out.Qe
   have:(EE G.ib y=EE G.ib x)↔y=x:=⟨λe=>by
    unfold EE at e;rw[GY,GY,CQ Ad,CQ Ad] at e
    exact (List.getElem_inj HF.out.Zc).1 e,λe=>by rw[e]⟩
   by_cases hxy:y=x;subst hxy;simp;have h2: ¬EE G.ib y=EE G.ib x:=λe=>hxy (this.1 e);exact (bne_iff_ne.2 h2).trans (bne_iff_ne.2 hxy).symm
  rw[hfm] at ho5 hn';rw[DZ] at hn';subst hn';have tX:G.b∉bo G.Aw:=(λhm=>TB.out.lay.ne (i:=4) (j:=0) (P:=bo G.Aw) (Q:=[G.b]) rfl rfl Ar _ hm AV);have HB5:=AQ (TB.out.blk.Ak hc5 tX);have y3:=HB5.out.cell 3;have f3:=HB5.out.frozen 3;have TC:=AQ (HB5.out.FK 3 (.slice G.Aw (S.wr.filter (λy=>y !=x)).length G.cw));have y6:=TC.out.cell 6;have f6:=TC.out.frozen 6;simp at y3 y6;have HO5:=AQ ho5;have RJ:=AQ hc5;clear ho5 hc5 tX hfm z3 zk;obtain⟨m',hm'⟩: ∃m',(S.wr.filter (λy=>y !=x)).length=m':=⟨_,rfl⟩;rw[hm'] at y6 f6 HO5 TC;have HM':=AQ hm';go_wp2;go_ret;have hb7:=TC.out.FK 6 (.int .i64 ((S.steps+1:Nat):Int));have hcs:AZ [G.b] w5 ((w5.setCell ⟨G.b,3,AB⟩ (.slice G.Aw m' G.cw)).setCell ⟨G.b,6,AB⟩ (.int .i64 ((S.steps+1:Nat):Int))):=((AZ.refl _ _).setCell (.inl AV) _).setCell (.inl AV) _;refine⟨by rw[HR.out];rfl,?_⟩;rw[HR.out];refine DJ.next (G1:={G with Ls:=G.Ls.set x L'}) NV.out rfl WG.out ?_;refine TB.out.wrote (wr':=S.wr.filter (λy=>y !=x)) (st':=S.steps+1) (A':=G.Aw) (c':=G.cw) ?_ ?_ ?_ (λy hy=>.inl hy);exact (RJ.out.mono (λy hy=>.inl (CO _ hy))).trans hcs (λy hy=>.inl (by simp only[CG] at hy;subst hy;simp))
  ·rw[HM'.out];simpa using hb7
  have q:=HO5.out.Ak hcs (λy hy hm=>by
   simp only[CG] at hm;subst hm
   exact TB.out.lay.ne (i:=4) (j:=0) (P:=bo G.Aw) (Q:=[G.b]) rfl rfl Ar _ hy AV)
  rw[HM'.out];rw[Eg] at q;exact q
end
section
variable {f:Bool}{d last:ByteArray}{D:GH}{a q:Int}{l:List (ByteArray×List Int)}{fs:List EX}{i n:Nat}{T:Tr}{α:Type}{w w':AL}
def noS:ByteArray:={data:=#[]}
def EN (f:Bool) (last:ByteArray):List (ByteArray×List Int)->Int
 | []=>0|x::r=>if Gl f last x.1≠0 then Gl f last x.1 else EN false x.1 r
def GK (f:Bool) (last:ByteArray):GH->Int
 | []=>0|d::r=>if Gl f last d.1≠0 then Gl f last d.1 else if EN true noS d.2≠0 then EN true noS d.2 else GK false d.1 r
def Dn (D:GH) (BI:Int):Int:=if BI<0 then 2 else GK true noS D
def IJ (n:Nat):List (ByteArray×List Int)->Jl
 | []=>[]|x::r=>(x.1,n)::IJ (n+1) r
def GV (n:Nat):GH->Tr
 | []=>[]|d::r=>(d.1,IJ n d.2)::GV (n+d.2.length) r
def Gm (D:GH):Nat:=(D.map λd=>d.2.length).sum
def J7 (D:GH):List EX:=D.flatMap λd=>d.2.map λx=>(x.2,[])
def Ea (D:GH) (BI stop:Int):St:=⟨GV 0 D,GV 0 D,[],J7 D,[],BI,stop,0⟩
theorem pY(n:Nat)(l:List (ByteArray×List Int))(x:ByteArray×List Int):IJ n (l++[x])=IJ n l++[(x.1,n+l.length)]:=by
 induction l generalizing n with|nil=>rfl|cons y r ih=>simp[IJ,ih];omega
theorem vk(n:Nat)(l:List (ByteArray×List Int)):(IJ n l).length=l.length:=by
 induction l generalizing n with|nil=>rfl|cons y r ih=>simp[IJ,ih]
theorem fO(n:Nat)(l:List (ByteArray×List Int)):(IJ n l).map Aa=l.map Aa:=by
 induction l generalizing n with|nil=>rfl|cons y r ih=>simp[IJ,ih]
theorem fP(n:Nat)(D:GH):(GV n D).map Aa=D.map Aa:=by
 induction D generalizing n with|nil=>rfl|cons y r ih=>simp[GV,ih]
theorem AEj(D:GH)(d:ByteArray×List (ByteArray×List Int)):Gm (D++[d])=Gm D+d.2.length:=by simp[Gm]
theorem pg(n:Nat)(D:GH)(d:ByteArray×List (ByteArray×List Int)):GV n (D++[d])=GV n D++[(d.1,IJ (n+Gm D) d.2)]:=by
 induction D generalizing n with|nil=>simp[GV,Gm]|cons y r ih=>simp only[Dj,GV,ih,Gm,BK,Bo];rw[show n+y.2.length+(r.map λd=>d.2.length).sum=n+(y.2.length+(r.map λd=>d.2.length).sum) by omega]
theorem vw(D:GH)(d:ByteArray×List (ByteArray×List Int)):J7 (D++[d])=J7 D++d.2.map λx=>(x.2,[]):=by simp[J7]
theorem SX(D:GH):(J7 D).length=Gm D:=by
 unfold J7 Gm
 induction D with|nil=>rfl|cons y r ih=>simp[ih]
theorem vz: ∀q∈IJ n l,q.2<n+l.length:=by
 induction l generalizing n with
 |nil=>simp[IJ]|cons y r ih=>
  intro q hq;simp only[IJ,BB] at hq;simp only[ES];rcases hq with rfl|hq;simp only;omega;have:=ih q hq;omega
theorem YM: ∀p∈GV n D,∀q∈p.2,q.2<n+Gm D:=by
 induction D generalizing n with
 |nil=>simp[GV]|cons y r ih=>
  intro p hp q hq;simp only[GV,BB] at hp;simp only[Gm,BK,Bo];rcases hp with rfl|hp;have:=vz q hq;omega;have:=ih p hp q hq;simp only[Gm] at this;omega
theorem AF2{a b:ByteArray}:Uw a b=false↔UN b a=true:=by
 unfold Uw UN;rw[xg];have h1:(Op.bytesLess a.toList b.toList=true)↔a.data.toList<b.data.toList:=SK;have h2:(Op.bytesLess b.toList a.toList=true)↔b.data.toList<a.data.toList:=SK;rw[h2];constructor
 ·rintro⟨h3,h4⟩;(have h5: ¬a.data.toList<b.data.toList:=λh=>by rw[h1.2 h] at h3;cases h3);rcases AFD.1 (List.not_lt.1 h5) with h6|h6;exact h6;exfalso;rw[data_inj h6] at h4;simp at h4
 intro h3;refine⟨?_,?_⟩
 ·rw[<- dQ,h1];exact λh=>xU _ (List.lt_trans h h3)
 cases he:(a.toList==b.toList) with
 |false=>rfl|true=>
  (have h4:a.toList=b.toList:=by simpa using he);rw[Yg,Yg] at h4;rw[h4] at h3;exact Ai h3 (xU _)
theorem Vb{name:ByteArray}:Gl f last name=0↔CS name=true/\(f=false->UN last name=true):=by
 unfold Gl
 cases hg:CS name with
 |false=>simp|true=>
  rw[BM AV];by_cases h:f=false/\Uw name last=true
  ·rw[BZ h];constructor;intro h2;cases h2;rintro⟨_,h2⟩;have h3:=h2 h.1;rw[<- AF2,h.2] at h3;cases h3
  rw[BM h];refine⟨λ_=>⟨rfl,λhf=>?_⟩,λ_=>rfl⟩;rw[<- AF2]
  cases hl:Uw name last with|false=>rfl|true=>exact Ai ⟨hf,hl⟩ h
theorem Vd(h:EN f last l=0):(l.map Aa).Pairwise (λa b=>UN a b=true)/\(∀x∈l,CS x.1=true)/\(f=false->∀x∈l,UN last x.1=true):=by
 induction l generalizing f last with
 |nil=>exact⟨List.Pairwise.nil,AV,AV⟩|cons x r ih=>
  unfold EN at h;by_cases ho:Gl f last x.1=0
  ·rw[BM (by simp[ho])] at h;obtain⟨h1,h2,h3⟩:=ih h;obtain⟨h4,h5⟩:=Vb.1 ho;refine⟨LK.2 ⟨λy hy=>?_,h1⟩,λy hy=>?_,λhf y hy=>?_⟩
   ·obtain⟨z,hz,rfl⟩:=Bz.1 hy;exact h3 rfl z hz
   ·rcases BB.1 hy with rfl|hy;exact h4;exact h2 y hy
   rcases BB.1 hy with rfl|hy;exact h5 hf;exact ZZ (h5 hf) (h3 rfl y hy)
  rw[BZ ho] at h;exact Ai h ho
theorem jA(h:GK f last D=0):(D.map Aa).Pairwise (λa b=>UN a b=true)/\(∀x∈D,CS x.1=true)/\(∀x∈D,EN true noS x.2=0)/\(f=false->∀x∈D,UN last x.1=true):=by
 induction D generalizing f last with
 |nil=>exact⟨List.Pairwise.nil,AV,AV,AV⟩|cons x r ih=>
  unfold GK at h;by_cases ho:Gl f last x.1=0
  ·rw[BM (by simp[ho])] at h;by_cases hf0:EN true noS x.2=0
   ·rw[BM (by simp[hf0])] at h;obtain⟨h1,h2,h2',h3⟩:=ih h;obtain⟨h4,h5⟩:=Vb.1 ho;refine⟨LK.2 ⟨λy hy=>?_,h1⟩,λy hy=>?_,λy hy=>?_,λhf y hy=>?_⟩
    ·obtain⟨z,hz,rfl⟩:=Bz.1 hy;exact h3 rfl z hz
    ·rcases BB.1 hy with rfl|hy;exact h4;exact h2 y hy
    ·rcases BB.1 hy with rfl|hy;exact hf0;exact h2' y hy
    rcases BB.1 hy with rfl|hy;exact h5 hf;exact ZZ (h5 hf) (h3 rfl y hy)
   rw[BZ hf0] at h;exact Ai h hf0
  rw[BZ ho] at h;exact Ai h ho
theorem YN{p:ByteArray×Jl}(h:p∈GV n D): ∃m,∃d∈D,p=(d.1,IJ m d.2):=by
 induction D generalizing n with
 |nil=>simp[GV] at h|cons y r ih=>
  simp only[GV,BB] at h;rcases h with rfl|h;exact⟨n,y,AV,rfl⟩;obtain⟨m,d,hd,e⟩:=ih h;exact⟨m,d,CO _ hd,e⟩
theorem AHJ{q:ByteArray×Nat}(h:q∈IJ n l): ∃x∈l,q.1=x.1:=by
 have:q.1∈(IJ n l).map Aa:=Bz.2 ⟨q,h,rfl⟩;rw[fO] at this;obtain⟨x,hx,e⟩:=Bz.1 this;exact⟨x,hx,e.symm⟩
theorem AHK(h:GK f last D=0):Val (Gm D) (GV 0 D):=by
 obtain⟨h1,h2,h3,_⟩:=jA h;refine⟨by unfold RH;rw[fP];exact h1,λp hp=>?_,λp hp q hq=>by have:=YM p hp q hq;omega,λp hp=>?_,λp hp q hq=>?_⟩
 ·obtain⟨m,d,hd,rfl⟩:=YN hp;unfold RH;rw[fO];exact (Vd (h3 d hd)).1
 ·obtain⟨m,d,hd,rfl⟩:=YN hp;exact h2 d hd
 obtain⟨m,d,hd,rfl⟩:=YN hp;obtain⟨x,hx,e⟩:=AHJ hq;rw[e];exact (Vd (h3 d hd)).2.1 x hx
def Eb (D:GH):Nat:=(D.map λd=>(d.2.map λx=>x.2.length+1).sum+1).sum
theorem AKG(n:Nat)(D:GH):wd (GV n D)<=Eb D:=by
 unfold wd Eb
 induction D generalizing n with
 |nil=>simp[GV]|cons y r ih=>
  simp only[GV,BK,Bo,vk];have h1:=ih (n+y.2.length)
  have h2:y.2.length<=(y.2.map λx=>x.2.length+1).sum:=by
   generalize y.2=l
   induction l with|nil=>simp|cons z l ih2=>simp only[ES,BK,Bo];omega
  omega
theorem wB(D:GH):Ic (J7 D)+Gm D<=Eb D:=by
 unfold Ic J7 Eb Gm
 induction D with
 |nil=>simp|cons y r ih=>
  simp only[U7,Em,U8,BK,Bo,Eg]
  have h2:((y.2.map ((λf:EX=>f.all.length+f.2.length)∘λx=>(x.2,[]))).sum)+y.2.length=(y.2.map λx=>x.2.length+1).sum:=by
   generalize y.2=l
   induction l with|nil=>simp|cons z l ih2=>simp only[ES,BK,Bo,Function.comp,EX.all,List.flatten_nil,LM,Ha] at ih2⊢;omega
  omega
theorem Jy{BI stop:Int}(h:Dn D BI=0)(hq:BI<=9223372036854775807):Inv (Eb D) (Ea D BI stop):=by
 unfold Dn at h;by_cases h0:BI<0;rw[BZ h0] at h;cases h;rw[BM h0] at h;have hv:=AHK h;have hb:=wB D;refine⟨by simp only[Ea,SX];exact hv,Am,rfl,by simp[Ea],?_,?_,?_,by simp[Ea],by simp[Ea],⟨by simp only[Ea];omega,hq⟩⟩;have:=AKG 0 D;simp only[Ea,Ha];omega;simp only[Ea,SX];omega;simp only[Ea];omega
structure RN where
 b:Nat
 t1:Nat
 g1:MX
 ib:List Nat
 sg:List Nat
 Ls:List (List Nat)
def RN.parts (G:RN):List (List Nat):=[G.b]::ET G.t1 G.g1::G.ib::G.Ls
structure jm (w:AL) (G:RN) (T:Tr) (fs:List EX) (q a:Int):Prop where
 blk:Bl w G.b 116 #[.map (AA G.t1),.map AB,.slice AB 0 0,.slice AB 0 0,.int .i64 q,.int .i64 a,.int .i64 0]
 FU:Tree w G.t1 G.g1
 Le:D7 G.ib G.g1 T
 Qe:G.ib.length=fs.length
 WR:G.sg.length=fs.length
 RI:G.Ls.length=fs.length
 Zc:G.ib.Nodup
 ino: ∀(i x g:Nat) (L:List Nat) (f:EX),G.ib[i]? =AA x->G.sg[i]? =AA g->G.Ls[i]? =AA L->fs[i]? =AA f->vX w x g L f
 lay:Lay w G.parts
theorem jm.CE{G:RN}(h:jm w G T fs q a)(hc:AZ [] w w'):jm w' G T fs q a:=
 ⟨h.blk.Ak hc BC,h.FU.keep hc Ej,h.Le,h.Qe,h.WR,h.RI,h.Zc,λi x g L f e1 e2 e3 e4=>(h.ino i x g L f e1 e2 e3 e4).keep hc BC Ej,h.lay.mono hc.size⟩
theorem NW{T:List (ByteArray×α)}{F:α}(hd:BH T d=AB)(k:ByteArray):BH (T++[(d,F)]) k=if d=k then AA F else BH T k:=by
 induction T with
 |nil=>rw[List.nil_append,FC]|cons p r ih=>
  rw[FC] at hd;by_cases hp:p.1=d;rw[BZ hp] at hd;cases hd;rw[BM hp] at hd;rw[Dj,FC,ih hd,FC];by_cases h1:p.1=k;rw[BZ h1,BM (λe=>hp (h1.trans e.symm)),BZ h1];rw[BM h1,BM h1]
theorem Lay.pq{Ps:List (List Nat)}(h:Lay w Ps){L:List Nat}{j:Nat}{Q:List Nat}(hj:Ps[j]? =AA Q)(hL: ∀x∈L,x∈Q){P:List Nat}(hi:Ps[i]? =AA P)(hn:i≠j): ∀x∈P,x∉L:=
 λx hx hm=>h.ne hi hj hn x hx (hL x hm)
theorem jm.dir{G:RN}(h:jm w G T fs q a){fb:Nat}(hd:BH T d=AB)(hc:AZ [G.t1] w w')(htop:Mp w' G.t1 IQ (Dk (Eu G.g1) d (.map (AA fb))))(hfb:Mp w' fb IQ [])(hge:w.heap.size<=fb):
  jm w' {G with g1:=Dk G.g1 d (fb,[])} (T++[(d,[])]) fs q a:=by
 (have ht1: ∀x∈[G.t1],x∈ET G.t1 G.g1:=by simp[ET]);have ho:=λ(i:Nat) (P:List Nat) (hi:G.parts[i]? =AA P) (hn:i≠1)=>h.lay.pq (j:=1) rfl ht1 hi hn;have htl:=h.FU.top.lt;have htr:Tree w' G.t1 (Dk G.g1 d (fb,[])):=Tree.put h.FU.nodup h.FU.sub h.FU.apart hc htop (by simpa[Ip] using hfb) Ad (λp hp _ e=>by have:=(h.FU.sub p hp).lt;omega) (λp hp _=>by simpa using h.FU.Ld hp);refine⟨h.blk.Ak hc (ho 0 _ rfl Ar _ AV),htr,h.Le.put h.FU.nodup (λk=>NW hd k) (λn=>rfl),h.Qe,h.WR,h.RI,h.Zc,λi x g L f e1 e2 e3 e4=>?_,?_⟩;exact (h.ino i x g L f e1 e2 e3 e4).keep hc (ho 2 _ rfl Ar x (Bq e1)) (ho (i+3) L (by simpa[RN.parts] using e3) Ad);exact h.lay.FK (w':=w') (i:=1) (P':=ET G.t1 (Dk G.g1 d (fb,[]))) rfl (Nr h.FU.nodup (.inr hge)) htr.lt hc.size
theorem jm.file{w1 w2 w3:AL}{G:RN}{n:ByteArray}{F:Jl}(h:jm w G (T++[(d,F)]) fs q a)(hd:BH T d=AB)(hn:BH F n=AB)(ATI: ∀p∈T++[(d,F)],∀q∈p.2,q.2<fs.length)
  {fb:Nat} {f:List (ByteArray×Nat)} (he:BH G.g1 d=AA (fb,f)) (hc1:AZ [] w w1) {g:Nat} {L:List Nat} {ff:List Int} (hL: ∀k∈L,w.heap.size<=k) (hs:WQ w1 g L ff []) (hc2:AZ [] w1 w2) {x:Nat} (hx:w1.heap.size<=x) (hb:Bl w2 x 126 #[.pointer (AA ⟨g,0,AB⟩)])
  (hc3:AZ [fb] w2 w3) (hfb:Mp w3 fb IQ (Dk (Ip f) n (.pointer (AA ⟨x,0,AB⟩)))):
  jm w3 {G with g1:=Dk G.g1 d (fb,Dk f n x),ib:=G.ib++[x],sg:=G.sg++[g],Ls:=G.Ls++[L]} (T++[(d,F++[(n,fs.length)])]) (fs++[(ff,[])]) q a:=by
 have hmem:=CJ he;have h2:=h.CE (hc1.Ap hc2);(have hfm: ∀x∈[fb],x∈ET G.t1 G.g1:=λy hy=>by simp only[CG] at hy;subst hy;exact JV hmem);have ho:=λ(i:Nat) (P:List Nat) (hi:G.parts[i]? =AA P) (hn:i≠1)=>h2.lay.pq (j:=1) rfl hfm hi hn;have hfv:Dk (Ip f) n (.pointer (AA ⟨x,0,AB⟩))=Ip (Dk f n x):=YK (λi:Nat=>P9 (AA ⟨i,0,AB⟩)) f n x;rw[hfv] at hfb
 have htop:Mp w3 G.t1 IQ (Dk (Eu G.g1) d (.map (AA fb))):=by
  rw[VZ (by rw[Eo,he];rfl)];exact h2.FU.top.Ak hc3 (by simpa using (h2.FU.Ld hmem).symm)
 (have hLn: ∀p∈G.g1,p.1≠d->p.2.1∉[fb]:=λp hp hne=>by simpa using h2.FU.kV hp hmem hne);have htr:Tree w3 G.t1 (Dk G.g1 d (fb,Dk f n x)):=Tree.put h2.FU.nodup h2.FU.sub h2.FU.apart hc3 htop hfb (h2.FU.Ld hmem) (λp hp hne=>by simpa using hLn p hp hne) hLn;have hfs:=h.Le.sub d (fb,f) F he (by rw[NW hd,BZ rfl])
 have hxf:x≠fb:=by
  have:=h.lay.lt (ET G.t1 G.g1) (Bq (i:=1) rfl) fb (JV hmem);have:=hc1.size;omega
 have hgrow:D7 (G.ib++[x]) G.g1 (T++[(d,F)]):=⟨h.Le.top,λk e F' hk hF' n'=>by
  rw[h.Le.sub k e F' hk hF' n']
  cases hn':BH F' n' with
  |none=>rfl|some i=>
   have:=ATI _ (CJ hF') _ (CJ hn');simp only[FY]
   rw[bJ (by rw[h.Qe];exact this)]⟩
 refine⟨h2.blk.Ak hc3 (ho 0 _ rfl Ar _ AV),htr,?_,by simp[h.Qe],by simp[h.WR],by simp[h.RI],?_,?_,?_⟩
 ·refine hgrow.put h.FU.nodup (F:=F++[(n,fs.length)]) (λk=>?_) (λn'=>?_)
  ·rw[NW hd,NW hd];by_cases hk:d=k<;>simp[hk]
  rw[SH (h2.FU.Ri hmem),NW hn,hgrow.sub d (fb,f) F he (by rw[NW hd,BZ rfl]) n'];by_cases hnn:n=n'
  ·rw[BZ hnn,BZ hnn,<- h.Qe];simp only[FY];rw[AB9]
  rw[BM hnn,BM hnn]
 ·show (G.ib++[x]).Nodup;rw[Pj];refine⟨h.Zc,AV,λy hy z hz=>?_⟩;simp only[CG] at hz;subst hz;have:=h.lay.lt G.ib (Bq (i:=2) rfl) y hy;have:=hc1.size;omega
 ·intro i y gg M f0 e1 e2 e3 e4;have l1:=h.Qe;have l2:=h.WR;have l3:=h.RI;by_cases hil:i<fs.length
  ·simp only at e1 e2 e3;rw[NK Ad] at e1 e2 e3 e4;exact (h2.ino i y gg M f0 e1 e2 e3 e4).keep hc3 (ho 2 _ rfl Ar y (Bq e1)) (ho (i+3) M (by simpa[RN.parts] using e3) Ad)
  have hie:i=fs.length:=by
   have:=(DC.1 e4).1;simp at this;omega
  subst hie;simp only at e1 e2 e3;rw[Gt Ad,l1,Jf] at e1;rw[Gt Ad,l2,Jf] at e2;rw[Gt Ad,l3,Jf] at e3;rw[Gt Ad,Jf] at e4;simp at e1 e2 e3 e4;subst e1;subst e2;subst e3;subst e4;refine⟨hb.Ak hc3 (by simpa using hxf),(hs.Ak hc2 Ej).Ak hc3 (λk hk hm=>?_)⟩;simp only[CG] at hm;subst hm;have h1:=hL _ hk;have h3:=h.lay.lt (ET G.t1 G.g1) (Bq (i:=1) rfl) _ (JV hmem);simp only at h3;omega
 have l1:=h.lay.snoc (w':=w1) hL hs.lt hc1.size
 have l2:=l1.FK (w':=w2) (i:=2) (P:=G.ib) (P':=G.ib++[x]) rfl (λy hy=>by
  rcases Be.1 hy with hy|hy;exact .inl hy
  ·simp only[CG] at hy;subst hy;exact .inr hx) (λy hy=>by
  rcases Be.1 hy with hy|hy;exact h2.lay.lt G.ib (Bq (i:=2) rfl) y hy
  simp only[CG] at hy;subst hy;exact hb.lt) hc2.size
 have l3:=l2.FK (w':=w3) (i:=1) (P:=ET G.t1 G.g1) (P':=ET G.t1 (Dk G.g1 d (fb,Dk f n x))) rfl (Nr h.FU.nodup (.inl (JV hmem))) htr.lt hc3.size;exact l3
def E5 {α:Type} (last:ByteArray) (l:List (ByteArray×α)):ByteArray:=(l.getLast?.map (·.1)).getD last
theorem Xf(last:ByteArray)(l:List (ByteArray×α))(x:ByteArray×α):E5 last (l++[x])=x.1:=by simp[E5]
theorem jB(last:ByteArray)(l:List (ByteArray×α))(x:ByteArray×α):E5 last (x::l)=E5 x.1 l:=by
 unfold E5
 cases l with|nil=>rfl|cons y r=>simp[List.getLast?_cons]
theorem tZ(f:Bool)(last:ByteArray)(a b:List (ByteArray×List Int))(h:EN f last a=0):EN f last (a++b)=EN (f && a.isEmpty) (E5 last a) b:=by
 induction a generalizing f last with
 |nil=>simp[E5]|cons x r ih=>
  unfold EN at h;by_cases ho:Gl f last x.1=0
  ·rw[BM (by simp[ho])] at h;rw[Dj,EN,BM (by simp[ho]),ih false x.1 h,jB];simp
  rw[BZ ho] at h;exact Ai h ho
theorem bT(f:Bool)(last:ByteArray)(a b:GH)(h:GK f last a=0):GK f last (a++b)=GK (f && a.isEmpty) (E5 last a) b:=by
 induction a generalizing f last with
 |nil=>simp[E5]|cons x r ih=>
  unfold GK at h;by_cases ho:Gl f last x.1=0
  ·rw[BM (by simp[ho])] at h;by_cases hf:EN true noS x.2=0
   ·rw[BM (by simp[hf])] at h;rw[Dj,GK,BM (by simp[ho]),BM (by simp[hf]),ih false x.1 h,jB];simp
   rw[BZ hf] at h;exact Ai h hf
  rw[BZ ho] at h;exact Ai h ho
theorem Yz{l:List α}{x:α}(h:l[i]? =AA x):l=l.take i++x::l.drop (i+1):=by
 have hi:=(DC.1 h).1
 conv=>lhs;rw[<- X4 i l,X0 hi]
 rw[(DC.1 h).2]
theorem U1{d:ByteArray×List (ByteArray×List Int)}(hd:D[i]? =AA d)(h:GK true noS (D.take i)=0):
  GK true noS D=GK (i==0) (E5 noS (D.take i)) (d::D.drop (i+1)):=by
 have hi:=(DC.1 hd).1
 conv=>lhs;rw[Yz hd]
 rw[bT _ _ _ _ h];congr 1
 cases i with
 |zero=>rfl|succ k=>
  cases D with|nil=>simp at hi|cons y r=>rfl
theorem Ze{d:ByteArray×List Int}(hd:l[i]? =AA d)(h:EN true noS (l.take i)=0):
  EN true noS l=EN (i==0) (E5 noS (l.take i)) (d::l.drop (i+1)):=by
 have hi:=(DC.1 hd).1
 conv=>lhs;rw[Yz hd]
 rw[tZ _ _ _ _ h];congr 1
 cases i with
 |zero=>rfl|succ k=>
  cases l with|nil=>simp at hi|cons y r=>rfl
theorem jC{d:ByteArray×List (ByteArray×List Int)}(hd:D[i]? =AA d)(h:GK true noS (D.take i)=0)(ho:Gl (i==0) (E5 noS (D.take i)) d.1=0)(hf:EN true noS d.2=0):GK true noS (D.take (i+1))=0:=by
 have hi:=(DC.1 hd).1;(have h1:(D.take (i+1))[i]? =AA d:=by rw[AFI Ad];exact hd);rw[U1 h1 (by rw[Zz,Je Ad];exact h),Zz,Je Ad];unfold GK;rw[BM (by simp[ho]),BM (by simp[hf])];rw[Qy (by simp;omega)];rfl
theorem Ve{d:ByteArray×List Int}(hd:l[i]? =AA d)(h:EN true noS (l.take i)=0)(ho:Gl (i==0) (E5 noS (l.take i)) d.1=0):EN true noS (l.take (i+1))=0:=by
 have hi:=(DC.1 hd).1;(have h1:(l.take (i+1))[i]? =AA d:=by rw[AFI Ad];exact hd);rw[Ze h1 (by rw[Zz,Je Ad];exact h),Zz,Je Ad];unfold EN;rw[BM (by simp[ho])];rw[Qy (by simp;omega)];rfl
theorem AKH{d:ByteArray×List (ByteArray×List Int)}(hd:D[i]? =AA d)(h:GK true noS (D.take i)=0)(ho:Gl (i==0) (E5 noS (D.take i)) d.1=0):d.1∉(D.take i).map Aa:=by
 have hi:=(DC.1 hd).1
 have h2:GK true noS (D.take i++[(d.1,[])])=0:=by
  rw[bT _ _ _ _ h,show (true && (D.take i).isEmpty)=(i==0) by
   cases i with
   |zero=>rfl
   |succ k=>cases D with
    |nil=>simp at hi
    |cons y r=>rfl]
  unfold GK;rw[BM (by simp[ho]),BM (by simp[EN])];rfl
 have h3:=(jA h2).1;rw[Em,Z5] at h3;intro hm;have:=h3.2.2 _ hm d.1 AV;rw[XY] at this;cases this
theorem AHL{d:ByteArray×List Int}(hd:l[i]? =AA d)(h:EN true noS (l.take i)=0)(ho:Gl (i==0) (E5 noS (l.take i)) d.1=0):d.1∉(l.take i).map Aa:=by
 have h3:=(Vd (Ve hd h ho)).1;rw[take_snoc _ _ _ hd,Em,Z5] at h3;intro hm;have:=h3.2.2 _ hm d.1 AV;rw[XY] at this;cases this
end
end Go.Proofs.YtkkgcebhfghdnaaGreatDoor.Vw
