/- Part 6 of what that rests on; no condition. -/
import Derived.Test.YtkkgcebhfghdnaaGreatDoorLd
import Derived.Test.YtkkgcebhfghdnaaGreatDoorLe
import Derived.Conc.LeavingOf
import Derived.Deep.RegionHeld3
import Derived.Deep.RegionLaw
import Derived.Defers
import Derived.LaidEql
import Derived.LaidEqlPtr
import Derived.Lib.AppendStr
import Derived.Lib.SliceRun
import Derived.Lib.SmallJoins
import Derived.RowKitTokens
import Derived.SevenTold
import Derived.StillTailTactics
import Derived.Stop.Asserts
import Derived.Stop.Joined
set_option maxRecDepth 100000
set_option maxHeartbeats 8000000
open Go.Extern.ReflectliteType renaming assignableTo→UO, implements_→mF, abiMethod→mJ, relation→QS, toType→lq, typeOf→WJ, method→lu, elem→mD
open Go.Extern.ReflectliteValue renaming valueError→O5, methodAny→ABO, flagAddr→ABP, unpack→UQ, method→UT, parts→WL, isNil→Yx, elem→Yy, set→eQ
open Go.Extern.Rtype renaming directlyAssignable→ABN
open Go.World renaming block_lt_of_cell?→UU, cell?→Pz
open Go.ByteArray renaming toList_eq→Y0
open Go renaming wp_region_held_drew→FU, run_underlying→IQ, wpAnyH_ready→O7, wpAnyH_done→Eu, strOfNums→Fe, Deferred→EM, callFunc→E5, MemPlace→GZ, TypeId→Am, maxLen→ET, Ending→FT, Value→AQ, World→AL, Calls→Au, DataW→Dt, Addr→Af
open List renaming take_succ_cons→mQ, flatten_cons→JS, length_cons→EU, cons_append→Dp, flatten_nil→mP, length_nil→Hr, nil_append→D9, headD_cons→Rt, replicate→MN, take_zero→eU, sum_cons→CE, length→Ky, range→Fv
open Go.Result renaming andThen_ok→O6, andThen→QU
open List.Pairwise renaming nil→mO
open Go.Instr renaming findAsking→uA, makeFunc→aO, checkKey→Ut, findNow→Uu, lookup→P7
open Option renaming getD_some→Dx, map_none→YG, map_some→Fq, none→AB, some→AA
open Go.IntKind renaming wrap_i64→NZ
open Nat renaming strongRecOn→eP
open Go.Value renaming oneCell'→Kz, pointer→QW, string→WN, cells→Ny, int→Kw
open Go.AllReadyH renaming cons→Gp, nil→O8
open Go.Sem renaming run_bind→Et
open Prod renaming fst→Ac
open Go.Act renaming put→BJ
namespace Go.Proofs.YtkkgcebhfghdnaaGreatDoor.Vw
open Go.RowKit
section
variable {l xs:List Nat}{c i j n x y:Nat}{w:AL}
def pv (x:Nat):AQ:=.pointer (AA ⟨x,0,AB⟩)
def Ox (w:AL) (x:Nat):Prop:=∃t cs,Bl w x t cs
theorem Ox.Aj{w w':AL}{x:Nat}{L:List Nat}(h:Ox w x)(hc:AZ L w w')(hn:x∉L):Ox w' x:=by
 obtain⟨t,cs,h⟩:=h;exact⟨t,cs,h.Aj hc hn⟩
theorem qR(hx:Ox w x)(hy:Ox w y):(binOp .eql 121 (.pointer (AA ⟨x,0,AB⟩)) (.pointer (AA ⟨y,0,AB⟩))).run Ag w=.ok (.bool (decide (x=y))) w:=by
 obtain⟨i,hi,hsz⟩: ∃i,Ag.info? 126=AA i/\i.size≠0:=by
  have h:(Ag.info? 126).map (·.size)=AA 1:=by kernel_rfl
  cases hi:Ag.info? 126 with|none=>rw[hi] at h;cases h|some i=>rw[hi] at h;injection h with h;exact⟨i,rfl,by have h':i.size=1:=h;omega⟩
 by_cases h:x=y
 ·subst h;rw[decide_eq_true rfl];exact run_eql_ptr_same w _ AAN hi
 rw[decide_eq_false h];obtain⟨t,cs,hbx⟩:=hx;obtain⟨t',cs',hby⟩:=hy;exact run_eql_ptr_other w AAN hi hsz (λe=>h (by injection e)) hbx hby
theorem qU(x y k:Nat)(w:AL)(hk:w.cell? ⟨k,0,AB⟩=AA (pv x))(hx:Ox w x)(hy:Ox w y):
  Au Ag 84 #[pv y,.pointer (AA ⟨k,0,AB⟩)] w λe w'=>e=.returned (.bool (decide (x=y)))/\AZ [] w w':=by
 have hq:=qR hx hy;unfold pv at hk⊢;clear hx hy;obtain⟨b,hb⟩: ∃b,decide (x=y)=b:=⟨_,rfl⟩;rw[hb] at hq⊢;clear hb;go_enter ASq,Tryz.ntmps84;go_wp2;go_ret;exact⟨rfl,AZ.refl _ _⟩
theorem AAm{A:Option Af}(h:Rd w 1 A n c (xs.map pv))(hj:j<n):
  ∃ad x,A=AA ad/\xs[j]? =AA x/\w.cell? (ad.add j)=AA (.pointer (AA ⟨x,0,AB⟩)):=by
 obtain⟨ad,u,h1,h2,h3⟩:=h.gU hj;rw[Bg] at h2
 cases hz:xs[j]? with|none=>rw[hz] at h2;cases h2|some x=>rw[hz] at h2;simp only[Fq,DR] at h2;subst h2;exact⟨ad,x,h1,rfl,h3⟩
theorem AHw(A:Option Af)(n c:Nat)(xs:List Nat)(x k:Nat)(w:AL)(hr:Rd w 1 A n c (xs.map pv))(hk:w.cell? ⟨k,0,AB⟩=AA (pv x))(hbx:Ox w x)(hbs: ∀y∈xs,Ox w y)(hn:n<=1073741824):
  Au Ag 120 #[.slice A n c,.func (.func 84) #[] #[.pointer (AA ⟨k,0,AB⟩)]] w λe w'=>AZ [] w w'/\
   ((e=.returned (.int .i64 (-1))/\x∉xs)\/∃i:Nat,e=.returned (.int .i64 i)/\xs[i]? =AA x/\x∉xs.take i):=by
 (have hl:xs.length=n:=by have:=hr.1;simp at this;omega);have HR:=AP hr;have HK:=AP hk;have HL:=AP hl;have HBX:=AP hbx;have Zt:=AP hbs;clear hr hk hl hbx hbs;go_enter AJ6,Tryz.ntmps120;go_wp2;go_loopw [8] (λq wr=>∃i:Nat,i<=n/\q=.int .i64 i/\x∉xs.take i/\AZ [] w wr) (λq _=>n - (intOf q).toNat)
 case atStart=>exact⟨0,Dn _,rfl,AV,AZ.refl _ _⟩
 obtain⟨i,hi,rfl,hall,hch⟩:=hrel;have MQ:=AP hall;have DX:=AP hch;clear hall hch;by_cases hlt:i<n
 ·(have hlt':(i:Int)<n:=by omega);obtain⟨ad,y,rfl,hx,hcell⟩:=AAm (HR.out.Aj DX.out Ew) hlt;have HX:=AP hx;clear hx;(go_wp2_with fail);refine (qU x y k wr (DX.out.cell HK.out BH) (HBX.out.Aj DX.out BH) ((Zt.out y (Bq HX.out)).Aj DX.out BH)).mono ?_;rintro e w3 ⟨rfl,hc3⟩;have Ff:=AP (DX.out.Ah hc3);clear hc3;by_cases hxy:x=y
  ·subst hxy;simp only[decide_true];go_wp2;go_ret;exact⟨Ff.out,.inr ⟨i,rfl,HX.out,MQ.out⟩⟩
  simp only[hxy,decide_false];have HXY:=AP hxy;clear hxy;go_wp2;go_roundw
  case rel=>
   refine⟨i+1,Aa,by go_num,λhy=>?_,Ff.out⟩;rw[take_snoc _ _ _ HX.out] at hy;rcases Bd.1 hy with h|h;exact MQ.out h;simp at h;exact HXY.out h
  simp[intOf];omega
 (obtain rfl:i=n:=by omega);go_wp2;go_ret;refine⟨DX.out,.inl ⟨rfl,λhm=>MQ.out ?_⟩⟩;rw[Ep (by rw[HL.out];exact Bc _)];exact hm
theorem Own.after{e:Am}{g:Nat}{xs:List AQ}(h:Own w e 1 (AA ⟨g,0,AB⟩) n c xs){o:Nat}(ho:n<=o)(u:AQ):Own (w.setCell ⟨g,o,AB⟩ u) e 1 (AA ⟨g,0,AB⟩) n c xs:=by
 rcases h.form with ⟨h1,_⟩|⟨g',cur,hA,hb,hn,hm,hs,ht⟩;(cases h1);injection hA with hA;injection hA with hA;subst hA;refine⟨h.1,.inr ⟨g,c,_,rfl,Dn _,hb.FX o u,hn,hm,by rw[yR];exact hs,?_⟩⟩;rw[<- ht,yS,yT];rw[List.set_eq_of_length_le];rw[Ht];omega
theorem Own.AGj{e:Am}{g n c:Nat}{xs:List AQ}: ∀(us:List AQ) {w:AL} (_:Own w e 1 (AA ⟨g,0,AB⟩) n c xs) {o:Nat} (_:n<=o),Own (w.setCells g o us) e 1 (AA ⟨g,0,AB⟩) n c xs/\AZ [g] w (w.setCells g o us)
 | [],w,h,o,ho=>⟨h,AZ.refl _ _⟩
 |u::r,w,h,o,ho=>by
  have h1:=Own.after h ho u;have h2:=Own.AGj r h1 (o:=o+1) Aa;exact⟨h2.1,((AZ.refl [g] w).setCell AV u).trans h2.2 (λx hx=>.inl hx)⟩
structure WY (xs:List Nat) (x:Nat) (i j:Nat) (l:List Nat):Prop where
 len:l.length=xs.length
 le:i<j
 jn:j<=xs.length
 head:l.take i=(xs.take j).filter (λy=>y !=x)
 rest:l.drop j=xs.drop j
theorem WY.at_(h:WY xs x i j l)(hj:j<xs.length): ∃y,xs[j]? =AA y/\l[j]? =AA y:=by
 refine⟨xs[j],CB hj,?_⟩;have:=congrArg (λl=>l[0]?) h.rest;simp only[yU,Nat.add_zero] at this;rw[this,CB hj]
theorem WY.skip(h:WY xs x i j l)(hj:xs[j]? =AA x):WY xs x i (j+1) l:=by
 have hl:=(CP.1 hj).1;refine⟨h.len,by have:=h.le;omega,hl,?_,?_⟩
 ·rw[h.head,take_snoc _ _ _ hj,aZ];simp
 have:=congrArg (List.drop 1) h.rest;rw[YM,YM] at this;exact this
theorem WY.keep(h:WY xs x i j l)(hj:xs[j]? =AA y)(hy:y≠x):WY xs x (i+1) (j+1) (l.set i y):=by
 have hl:=(CP.1 hj).1;have hle:=h.le;have hln:=h.len;refine⟨by rw[kZ];exact h.len,Aa,hl,?_,?_⟩
 ·rw[take_snoc (l.set i y) i y (by rw[YJ,BZ rfl,BZ Aa]),take_snoc _ _ _ hj,aZ,<- h.head,List.take_set_of_le (Bc _)];simp[hy]
 have:=congrArg (List.drop 1) h.rest;rw[YM,YM] at this;rw[List.drop_set_of_lt Aa];exact this
theorem WY.done(h:WY xs x i xs.length l):l.take i=xs.filter (λy=>y !=x):=by
 have:=h.head;rwa[yg] at this
theorem AHx(A:Option Af)(n c:Nat)(xs:List Nat)(x k:Nat)(w:AL)(ho:Own w 121 1 A n c (xs.map pv))(hk:w.cell? ⟨k,0,AB⟩=AA (pv x))(hkA:k∉bo A)(hbx:Ox w x)(hbs: ∀y∈xs,Ox w y)(hxA: ∀y∈x::xs,y∉bo A)(hn:n<=1073741824):
  Au Ag 83 #[.slice A n c,.func (.func 84) #[] #[.pointer (AA ⟨k,0,AB⟩)]] w λe w'=>AZ (bo A) w w'/\
   ∃n',n'=(xs.filter (λy=>y !=x)).length/\e=.returned (.slice A n' c)/\Own w' 121 1 A n' c ((xs.filter (λy=>y !=x)).map pv):=by
 (have hl:xs.length=n:=by have:=ho.1;simp at this;omega);have HO:=AP ho;have HK:=AP hk;have HL:=AP hl;have HBX:=AP hbx;have Zt:=AP hbs;have HKA:=AP hkA;have HXA:=AP hxA;clear ho hk hl hbx hbs hkA hxA;have AVE:= @AQs;go_enter AN7,Tryz.ntmps83;(go_wp2_with fail);refine (AHw A n c xs x k w HO.out.rd HK.out HBX.out Zt.out hn).mono ?_;rintro e w1 ⟨hc1,hcase⟩;have CZ:=AP hc1;clear hc1;rcases hcase with ⟨rfl,hno⟩|⟨i0,rfl,hi0,hpre⟩
 ·have HN:=AP hno;clear hno;go_wp2;go_ret
  have hf:xs.filter (λy=>y !=x)=xs:=by
   rw[lD];intro y hy;simp only[bne_iff_ne,ne_eq];rintro rfl;exact HN.out hy
  refine⟨CZ.out.nil _,n,by rw[hf];exact HL.out.symm,rfl,?_⟩;rw[hf];exact HO.out.Aj CZ.out Ew
 have hil:=(CP.1 hi0).1;(have hn0:i0<n:=by have:=HL.out;omega);have hne:((i0:Int)== -1)=false:=beq_eq_false_iff_ne.2 Aa
 have HI0:Hid (WY xs x i0 (i0+1) xs):=AP ⟨rfl,Aa,Aa,by
  rw[take_snoc _ _ _ hi0,aZ]
  have:(xs.take i0).filter (λy=>y !=x)=xs.take i0:=by
   rw[lD];intro y hy;simp only[bne_iff_ne,ne_eq];rintro rfl;exact hpre hy
  rw[this];simp,rfl⟩
 have qI:=AP (HO.out.Aj CZ.out Ew);clear hi0 hpre hil;go_wp2;go_loopw [5,6,7] (λs5 s6 _ wr=>∃(i j:Nat) (l:List Nat),s5=.int .i64 i/\s6=.int .i64 j/\WY xs x i j l/\Own wr 121 1 A n c (l.map pv)/\AZ (bo A) w wr) (λ_ s6 _ _=>n - (intOf s6).toNat)
 case atStart=>exact⟨i0,i0+1,xs,rfl,by go_num,HI0.out,qI.out,CZ.out.nil _⟩
 obtain⟨i,j,l,rfl,rfl,hD,hown,hch⟩:=hrel;(have hjn:j<=n:=by have:=hD.jn;have:=HL.out;omega);have hij:i<j:=hD.le;have HD:=AP hD;have HW:=AP hown;have DX:=AP hch;clear hD hown hch;by_cases hlt:j<n
 ·(have hlt':(j:Int)<n:=by omega);obtain⟨y,hxy,hly⟩:=HD.out.at_ (by have:=HL.out;omega);obtain⟨ad,y',rfl,hy',hcell⟩:=AAm HW.out.rd hlt;(have hyy:y'=y:=by rw[hly] at hy';exact (EI hy').symm);subst hyy;have HY:=AP hxy;(have hin:i<n:=by omega);obtain⟨ad2,u2,hA2,hu2,hc2,hfz,hset⟩:=HW.out.gU hin;injection hA2 with hA2;subst hA2;have AVF:=AP hset;have hmem:y'∈xs:=Bq hxy
  have Ui:Hid (Au Ag 84 #[pv y',.pointer (AA ⟨k,0,AB⟩)] wr λe w'=>e=.returned (.bool (decide (x=y')))/\AZ [] wr w'):=
   AP (qU x y' k wr (DX.out.cell HK.out HKA.out) (HBX.out.Aj DX.out (HXA.out x AV)) ((Zt.out y' hmem).Aj DX.out (HXA.out y' (by simp[hmem]))))
  clear hxy hly hy' hu2 hset hmem;(go_wp2_with fail);refine Ui.out.mono ?_;rintro e w3 ⟨rfl,hc3⟩;have Ff:=AP hc3;have HW3:=AP (HW.out.Aj hc3 Ew);have qP:=hc3.cell hc2 BH;by_cases hxe:x=y'
  ·subst hxe;simp only[decide_true];clear hc3 hc2 hfz qP;go_wp2;go_roundw
   case rel=>exact⟨i,j+1,l,rfl,by go_num,HD.out.skip HY.out,HW3.out,DX.out.Ah Ff.out⟩
   simp[intOf];omega
  simp only[hxe,decide_false];have HXE:=AP hxe;obtain⟨ad3,u3,hA3,hu3,AVG,hf3,AKu⟩:=HW3.out.gU hin;injection hA3 with hA3;subst hA3;have Px:=AP AKu;clear hxe hc3 hc2 hfz qP hu3 AKu;go_wp2;go_roundw
  case rel=>
   refine⟨i+1,j+1,l.set i y',by go_num,by go_num,HD.out.keep HY.out (λe=>HXE.out e.symm),?_,?_⟩
   ·have:=Px.out (pv y');rw[<- VO] at this;exact this
   exact (DX.out.Ah Ff.out).setCell (.inl (by simp[add_block])) _
  simp[intOf];omega
 (obtain rfl:j=n:=by omega);rcases HW.out.form with ⟨_,h0,_⟩|⟨g,cur,rfl,hb,hnc,hcm,hcs,htk⟩;omega
 have hcl: ∀ty,(Builtin.clear_ #[114] ty #[.slice (AA ⟨g,i,AB⟩) (j - i) (c - i)]).run Ag wr=.ok (.tuple #[]) (wr.setCells g i (MN (j - i) (.pointer AB))):=
  λty=>Lib.run_clear_slice wr _ _ ty _ AKX (by intro w;kernel_rfl) rfl rfl g i _ _ Aa (λt ht=>by rw[hb.cell,Fa Aa];rfl) (λt ht=>hb.frozen _)
 (have hic:i<=c:=by omega);(have hij':(i:Int)<=j:=by omega);have HQ:=AP (show j<=c from hnc);clear hb hcs htk hcm;go_wp2;go_ret;have hD:=HD.out;have e1:j=xs.length:=HL.out.symm;rw[e1] at hD;have hdone:=hD.done;(have hlen:(xs.filter (λy=>y !=x)).length=i:=by rw[<- hdone,Ht];have:=hD.len;omega);have hcut:=HW.out.cut (k:=i) Aa;rw[OT,<- OU,hdone] at hcut;have haf:=Own.AGj (MN (j - i) (QW AB)) hcut (o:=i) (Bc _);refine⟨DX.out.trans haf.2 (λx hx=>.inl (by simpa using hx)),i,hlen.symm,rfl,haf.1⟩
end
section
variable {L L':List Nat}{B i:Nat}{S:St}{w w':AL}
theorem EH.AKv{G:Bi}(h:EH w G S){g:Nat}{φ:Ee->Ee}(hg:G.sg[i]? =AA g)(hL:G.Ls[i]? =AA L)(hc:AZ L w w')(hs:Wn w' g L' (φ (S.files.getD i ([],[]))).1 (φ (S.files.getD i ([],[]))).2)
  (hn: ∀k∈L',k∈L\/w.heap.size<=k):EH w' {G with Ls:=G.Ls.set i L'} {S with files:=S.files.modify i φ}:=by
 have hil:i<G.Ls.length:=(CP.1 hL).1;(have hpi:G.parts[i+6]? =AA L:=by simpa[Bi.parts] using hL);have hLL: ∀x∈L,∃j P,j∈[i+6]/\G.parts[j]? =AA P/\x∈P:=λx hx=>⟨i+6,L,AV,hpi,hx⟩;have ho:=λ(j:Nat) (P:List Nat) (hj:G.parts[j]? =AA P) (hne:j∉[i+6])=>h.lay.others hLL hj hne;have n6: ∀j,j<6->j∉[i+6]:=λj hj hm=>by simp at hm;omega
 refine⟨h.blk.Aj hc (ho 0 _ rfl (n6 0 Ar) _ AV),h.Fg.keep hc (ho 1 _ rfl (n6 1 Ar)),h.MB,h.tr2.keep hc (ho 2 _ rfl (n6 2 Ar)),h.is2,h.own.Aj hc (ho 3 _ rfl (n6 3 Ar)),λj c v a b=>(h.chn j c v a b).keep hc (ho 5 _ rfl (n6 5 Ar)) (λ_ h=>h) (λ_ _=>rfl) (Bc _),
  h.gq.Aj hc (ho 4 _ rfl (n6 4 Ar)),by simpa using h.Qx,by simpa using h.Wp,by simpa using h.Rk,h.Zy,h.Wq,?_,?_⟩
 ·intro j x gg M f e1 e2 e3 e4;by_cases hij:j=i
  ·subst hij;simp only at e1 e2 e3 e4;rw[lH hil] at e3;injection e3 with e3;rw[hg] at e2;injection e2 with e2;subst e2;subst e3;rw[yh] at e4;simp only[if_true] at e4
   cases hf:S.files[j]? with
   |none=>rw[hf] at e4;cases e4|some f0=>
    rw[hf] at e4;injection e4 with e4;rw[Gj,hf] at hs;subst e4;have:=h.ino j x g L f0 e1 hg hL hf;exact⟨this.1.Aj hc (ho 5 _ rfl (n6 5 Ar) x (h.Wq x (Bq e1))),hs⟩
  simp only at e1 e2 e3 e4;rw[lI Aa] at e3;rw[yh] at e4;simp only[show ¬i=j from λe=>hij e.symm,if_false] at e4;(have e4':S.files[j]? =AA f:=by simpa using e4);exact (h.ino j x gg M f e1 e2 e3 e4').keep hc (ho 5 _ rfl (n6 5 Ar) x (h.Wq x (Bq e1))) (ho (j+6) M (by simpa[Bi.parts] using e3) (by simp;omega))
 have:=h.lay.FX (w':=w') (i:=i+6) (P':=L') hpi hn hs.lt hc.size;simpa[Bi.parts] using this
theorem Bi.qV{G:Bi}(hL:G.Ls[i]? =AA L)(hn: ∀k∈L',k∈L\/B<=k): ∀y∈Bi.all {G with Ls:=G.Ls.set i L'},y∈G.all\/B<=y:=by
 intro y hy;simp only[Bi.all,Bi.parts,JS,Bd] at hy⊢;rcases hy with h|h|h|h|h|h|h;exact .inl (.inl h);exact .inl (.inr (.inl h));exact .inl (.inr (.inr (.inl h)));exact .inl (.inr (.inr (.inr (.inl h))));exact .inl (.inr (.inr (.inr (.inr (.inl h)))));exact .inl (.inr (.inr (.inr (.inr (.inr (.inl h))))));obtain⟨P,hP,hy⟩:=KN.1 h;rcases kz hP with h1|rfl;exact .inl (.inr (.inr (.inr (.inr (.inr (.inr (KN.2 ⟨P,h1,hy⟩)))))));rcases hn y hy with h2|h2;exact .inl (.inr (.inr (.inr (.inr (.inr (.inr (KN.2 ⟨L,Bq hL,h2⟩)))))));exact .inr h2
theorem EH.wrote{G:Bi}(h:EH w G S){A':Option Af}{c':Nat}{wr':List Nat}{st':Nat}(hc:AZ (G.b::bo G.Aw) w w')
  (hb:Bl w' G.b 116 #[.map (AA G.t1),.map (AA G.t2),.slice G.A S.ED.length G.c,.slice A' wr'.length c',.int .i64 S.BG,.int .i64 S.stop,.int .i64 (st':Int)])
  (ho:Own w' 121 1 A' wr'.length c' (wr'.map (qM G.ib))) (hA: ∀x∈bo A',x∈bo G.Aw\/w.heap.size<=x):DK w G {S with wr:=wr',steps:=st'} w':=by
 have hLL: ∀x∈G.b::bo G.Aw,∃j P,j∈[0,4]/\G.parts[j]? =AA P/\x∈P:=λx hx=>by
  rcases BD.1 hx with rfl|hx;exact⟨0,_,AV,rfl,AV⟩;exact⟨4,_,AV,rfl,hx⟩
 have hk:=λ(j:Nat) (P:List Nat) (hj:G.parts[j]? =AA P) (hne:j∉[0,4])=>h.lay.others hLL hj hne;have AT0:=h.lay.FX (w':=w') (i:=4) (P:=bo G.Aw) (P':=bo A') rfl hA ho.lt hc.size
 refine⟨{G with Aw:=A',cw:=c'},⟨hb,h.Fg.keep hc (hk 1 _ rfl AV),h.MB,h.tr2.keep hc (hk 2 _ rfl AV),h.is2,h.own.Aj hc (hk 3 _ rfl AV),λj c v a b=>(h.chn j c v a b).keep hc (hk 5 _ rfl AV) (λ_ h=>h) (λ_ _=>rfl) (Bc _),
  ho,h.Qx,h.Wp,h.Rk,h.Zy,h.Wq,λj x g L f e1 e2 e3 e4=>(h.ino j x g L f e1 e2 e3 e4).keep hc (hk 5 _ rfl AV x (h.Wq x (Bq e1))) (hk (j+6) L (by simpa[Bi.parts] using e3) AV),AT0⟩,rfl,?_,?_⟩
 ·intro x hx;obtain⟨P,hP,hx⟩:=KN.1 hx;simp only[Bi.parts,BD] at hP;rcases hP with rfl|rfl|rfl|rfl|rfl|hP;exact .inl (Bi.Fh (i:=0) rfl hx);exact .inl (Bi.Fh (i:=1) rfl hx);exact .inl (Bi.Fh (i:=2) rfl hx);exact .inl (Bi.Fh (i:=3) rfl hx);exact (hA x hx).imp (λh=>Bi.Fh (i:=4) rfl h) id;exact .inl (KN.2 ⟨P,by simp only[Bi.parts,BD];exact .inr (.inr (.inr (.inr (.inr hP)))),hx⟩)
 exact hc.mono (λx hx=>.inl (by
  obtain⟨j,P,_,hj,hxP⟩:=hLL x hx
  exact Bi.Fh hj hxP))
theorem DK.next{w1:AL}{G G1:Bi}{S':St}(hc:AZ G.all w w1)(hb:G1.b=G.b)(hsub: ∀x∈G1.all,x∈G.all\/w.heap.size<=x)(h:DK w1 G1 S' w'):DK w G S' w':=by
 obtain⟨G',h1,h2,h3,h4⟩:=h
 exact⟨G',h1,h2.trans hb,λx hx=>by
  rcases h3 x hx with h|h;exact hsub x h
  exact .inr (CY hc.size h),hc.trans h4 hsub⟩
theorem AFU:Ety Ag 114 121 1 8 (.pointer AB):=.mk' AKX Aq rfl Ar
theorem AHy{G:Bi}(h:EH w G S)(hi:Inv B S)(d n:ByteArray)(A:Option Af)(k c:Nat)(xs:List Int)(hr:Rd w 1 A k c (bv xs))(hB:B+k<=1073741824)(hdis: ∀x∈bo A,x∉G.all):
  Au Ag 178 #[.pointer (AA ⟨G.b,0,AB⟩),.string d,.string n,.slice A k c] w λe w'=>e=.returned (.int .i64 (S.write d n xs).2)/\DK w G (S.write d n xs).1 w':=by
 (have hlx:xs.length=k:=by have:=hr.1;simp at this;omega);have HF:=AP h;have HI:=AP hi;have HBk:=AP hB;have HB:Hid (B<=1073741824):=AP Aa;have HR:=AP hr;have Uj:=AP hlx;have uo:=AP hdis;(have k63:k<=1073741824:=by omega);clear h hi hB hr hlx hdis;have k81:= @AKR;have AVH:= @AQy;have AVI:= @AQz;go_enter AKD,Tryz.ntmps178;(go_wp2_with fail);refine (qN HF.out d n).mono ?_;rintro e w1 ⟨rfl,hc1⟩;have CZ:=AP hc1;obtain⟨o,E,hE⟩: ∃o E,S.Ov d n=(o,E):=⟨_,_,rfl⟩;rw[hE];have HE:=AP hE
 cases o with
 |none=>
  (have hb:(E !=0)=true:=by simpa using qO hE);have HR:Hid (S.write d n xs=(S,E)):=AP (by unfold St.write;rw[HE.out]);clear hE;simp only[Xl,YG];go_wp2;go_ret;exact⟨by rw[HR.out];rfl,by rw[HR.out];exact DK.same HF.out CZ.out⟩
 |some x=>
  obtain⟨he0,hd0,F,hF,hx⟩:=VF hE;subst he0;have HXL:=AP (lX HI.out hE);have Gf:=AP (HF.out.CX hc1);obtain⟨g,L,hL,hbx,hs,hg,hix⟩:=(HF.out.CX hc1).dL (lX HI.out hE);have HL:=AP hL;have HG:=AP hg;have HS:=AP hs;have c0:=hbx.cell 0;simp at c0;have c6:=Gf.out.blk.cell 6;have f6:=Gf.out.blk.frozen 6;have c4:=Gf.out.blk.cell 4;simp at c6 c4;(have hwt:IntKind.i64.wrap ((S.steps:Int)+1)=((S.steps+1:Nat):Int):=by have:=HI.out.st;have:=HB.out;rw[NZ];omega);clear hF hE hx hd0 hs hc1 hL hg hix hbx;simp only[Xl,Fq];by_cases hk0:k=0
  ·subst hk0;have hnil:xs=[]:=Tf Uj.out;have HR2:Hid (S.write d n xs=({S with steps:=S.steps+1},0)):=AP (by unfold St.write;rw[HE.out];simp only[hnil,if_true]);clear hnil c0 c4;go_wp2;go_ret;refine⟨by rw[HR2.out];rfl,?_⟩;rw[HR2.out];have hF:=Gf.out;have hch:AZ [G.b] w1 (w1.setCell ⟨G.b,6,AB⟩ (.int .i64 ((S.steps+1:Nat):Int))):=(AZ.refl _ _).setCell (.inl AV) _;refine DK.of (w0:=w1) (G0:=G) ?_ CZ.out rfl (λx hx=>.inl hx);refine hF.wrote (wr':=S.wr) (st':=S.steps+1) (A':=G.Aw) (c':=G.cw) (hch.mono (λx hx=>.inl (by simp only[CJ] at hx;subst hx;simp))) ?_ (hF.gq.Aj hch ?_) (λx hx=>.inl hx);simpa using hF.blk.FX 6 (.int .i64 ((S.steps+1:Nat):Int));intro y hy hm;simp only[CJ] at hm;subst hm;exact hF.lay.ne (i:=4) (j:=0) (P:=bo G.Aw) (Q:=[G.b]) rfl rfl Ar _ hy AV
  have hkz: ¬k=0:=hk0
  have hw64:IntKind.i64.wrap (S.BG - (S.used:Int))=S.BG - (S.used:Int):=by
   have h1:=HI.out.BG;have h2:=ACw HI.out;have h3:B*B<=1073741824*1073741824:=AFx HB.out HB.out;rw[NZ];omega
  have HXN:Hid (xs≠[]):=AP (by intro e;have:=Uj.out;rw[e] at this;simp at this;omega);(go_wp2_with fail);refine FU (S:=λw'=>AZ [] w1 w') Aq ((AZ.refl _ _).drew) (λhHeld=>?_);refine tk 0 ?_;refine tk 1 ?_;refine tk 2 ?_;refine tk 3 ?_;refine tk 4 ?_;refine Gh 5 (λw' hSw=>hSw.cell c4 AV) ?_;refine tk 6 ?_;refine Em 7 λK hK=>?_;go_simp;refine (AKo (Gf.out.CX hHeld) HI.out HB.out).mono ?_;rintro e w3 ⟨rfl,hc3⟩;refine hK.out _ _ (hHeld.Ah hc3) (λhHeld=>?_);(try simp only[BJ,Bh]);clear hK K;refine tk 8 ?_;refine tk 9 ?_;refine Eu Aq ?_ _;(try simp only[BJ,Bh]);have Ff:=AP hHeld;clear hHeld c4;by_cases hlt:S.BG - (S.used:Int)<(k:Int)
  ·(have hdec:decide (S.BG - (S.used:Int)<(k:Int))=true:=by simpa using hlt);rw[hdec]
   have HR2:Hid (S.write d n xs=(S,85)):=AP (by
    unfold St.write;rw[HE.out];simp only[HXN.out,if_false]
    rw[BZ (by rw[Uj.out];omega)])
   clear hdec hlt hw64;go_wp2;go_ret;exact⟨by rw[HR2.out];rfl,by rw[HR2.out];exact DK.same HF.out (CZ.out.Ah Ff.out)⟩
  (have hdec:decide (S.BG - (S.used:Int)<(k:Int))=false:=by simpa using hlt);rw[hdec]
  have HR2:Hid (S.write d n xs=({S with files:=S.files.modify x (λf=>(f.1,f.2++[xs])),wr:=S.wr++[x],steps:=S.steps+1},0)):=AP (by
   unfold St.write;rw[HE.out];simp only[HXN.out,if_false]
   rw[BM (by rw[Uj.out];omega)])
  have c03:=Ff.out.cell c0 BH;have HF3:=AP (Gf.out.CX Ff.out);have Px:=AP (HS.out.Aj Ff.out Ew);have HW1:Hid (S.wr.length<=1073741824):=AP (by have:=HI.out.nw;have:=HB.out;omega);have hw1:=HW1.out;clear hdec hlt hw64 c0 c6 f6;(go_wp2_with fail);refine (AAR g L _ _ A k c xs w3 Px.out Aa (by have:=(HI.out.Eb x).1;have:=HBk.out;omega) (by have:=(HI.out.Eb x).2;have:=HB.out;omega) ((HR.out.Aj CZ.out Ew).Aj Ff.out Ew)).mono ?_;rintro e w4 ⟨L',rfl,hs4,hc4,hL4⟩;have TY:=AP (HF3.out.AKv (φ:=λf=>(f.1,f.2++[xs])) HG.out HL.out hc4 hs4 hL4);have JD:Hid (AZ G.all w w4):=AP (((CZ.out.Ah Ff.out).nil G.all).trans hc4 (λy hy=>.inl (Bi.Fh (i:=x+6) (by simpa[Bi.parts] using HL.out) hy)));have WX:Hid (∀y∈Bi.all {G with Ls:=G.Ls.set x L'},y∈G.all\/w.heap.size<=y):=AP (Bi.qV HL.out (λy hy=>(hL4 y hy).imp id (λh=>by have h1:=CZ.out.size;have h2:=Ff.out.size;omega)));have z3:=TY.out.blk.cell 3;simp at z3;clear hs4 hc4 hL4 c03;(go_wp2_with (at_builtin;refine EW rfl _ _ rfl AFU rfl (TY.out.gq.Aj ((AZ.refl [] w4).alloc (.cells #[.pointer (AA ⟨EG G.ib x,0,AB⟩)] 121)) Ew) rfl (Own.lit w4 121 1 #[.pointer (AA ⟨EG G.ib x,0,AB⟩)] 1 Ar rfl).rd (by simp[Kz]) (by unfold ET;show S.wr.length+1<=_;omega) (by show (S.wr.length+1)*_<=_;omega) ?_;intro A2 c2 w5 hown5 qW qX _;have HCX:Hid (AZ (bo G.Aw) w4 w5):=AP ((((AZ.refl [] w4).alloc (.cells #[.pointer (AA ⟨EG G.ib x,0,AB⟩)] 121)).nil _).trans qW (λx hx=>.inl hx));have um:G.b∉bo G.Aw:=(λhm=>TY.out.lay.ne (i:=4) (j:=0) (P:=bo G.Aw) (Q:=[G.b]) rfl rfl Ar _ hm AV);have qY:=AP (TY.out.blk.Aj HCX.out um);have y3:=qY.out.cell 3;have f3:=qY.out.frozen 3;have TZ:=AP (qY.out.FX 3 (.slice A2 (S.wr.length+1) c2));have y6:=TZ.out.cell 6;have f6:=TZ.out.frozen 6;simp at y3 y6;have HO5:=AP hown5;have HN5:Hid (∀x∈bo A2,x∈bo G.Aw\/w4.heap.size<=x):=AP (λx hx=>(qX x hx).imp id (λh=>by have:=h.1;simp at this;omega));clear hown5 qW qX um));go_ret;have hb7:=TZ.out.FX 6 (.int .i64 ((S.steps+1:Nat):Int));have hcs:AZ [G.b] w5 ((w5.setCell ⟨G.b,3,AB⟩ (.slice A2 (S.wr.length+1) c2)).setCell ⟨G.b,6,AB⟩ (.int .i64 ((S.steps+1:Nat):Int))):=((AZ.refl _ _).setCell (.inl AV) _).setCell (.inl AV) _
  have Zi: ∀y∈bo A2,y∉[G.b]:=λy hy hm=>by
   simp only[CJ] at hm;subst hm;rcases HN5.out _ hy with h1|h1;exact TY.out.lay.ne (i:=4) (j:=0) (P:=bo G.Aw) (Q:=[G.b]) rfl rfl Ar _ h1 AV;have:=TY.out.blk.lt;simp only at this;omega
  refine⟨by rw[HR2.out];rfl,?_⟩;rw[HR2.out];refine DK.next (G1:={G with Ls:=G.Ls.set x L'}) JD.out rfl WX.out ?_;refine TY.out.wrote (wr':=S.wr++[x]) (st':=S.steps+1) (A':=A2) (c':=c2) ?_ ?_ ?_ HN5.out;exact (HCX.out.mono (λy hy=>.inl (CO _ hy))).trans hcs (λy hy=>.inl (by simp only[CJ] at hy;subst hy;simp));simpa using hb7;have q:=HO5.out.Aj hcs Zi;simpa[qM] using q
theorem AKw{G:Bi}(h:EH w G S)(hi:Inv B S)(d n:ByteArray)(hB:B<=1073741824):
  Au Ag 49 #[.pointer (AA ⟨G.b,0,AB⟩),.string d,.string n] w λe w'=>e=.returned (.int .i64 (S.sync d n).2)/\DK w G (S.sync d n).1 w':=by
 have HF:=AP h;have HI:=AP hi;have HB:=AP hB;clear h hi hB;have k81:= @AKR;have k82:= @ATT;have k83:= @ATU;go_enter ANm,Tryz.ntmps49;(go_wp2_with fail);refine (qN HF.out d n).mono ?_;rintro e w1 ⟨rfl,hc1⟩;have CZ:=AP hc1;obtain⟨o,E,hE⟩: ∃o E,S.Ov d n=(o,E):=⟨_,_,rfl⟩;rw[hE];have HE:=AP hE
 cases o with
 |none=>
  (have hb:(E !=0)=true:=by simpa using qO hE);have HR:Hid (S.sync d n=(S,E)):=AP (by unfold St.sync;rw[HE.out]);clear hE;simp only[Xl,YG];go_wp2;go_ret;exact⟨by rw[HR.out];rfl,by rw[HR.out];exact DK.same HF.out (CZ.out.alloc _)⟩
 |some x=>
  obtain⟨he0,hd0,F,hF,hx⟩:=VF hE;subst he0;have hxl:=lX HI.out hE;have HXL:=AP hxl;have hcA:AZ [] w1 (w1.alloc (.cells #[.pointer (AA ⟨EG G.ib x,0,AB⟩)] 121)):=(AZ.refl [] w1).alloc _;have HF2:=AP ((HF.out.CX hc1).CX hcA);have HC2:=AP (hc1.Ah hcA);obtain⟨g,L,hL,hbx,hs,hg,hix⟩:=HF2.out.dL hxl;have HL:=AP hL;have HG:=AP hg;have HS:=AP hs;have HIX:=AP hix;have c0:=hbx.cell 0;simp only[GG] at c0;have HR:Hid (S.sync d n=({S with files:=S.files.modify x (λf=>(Ee.all f,[])),wr:=S.wr.filter (λy=>y !=x),steps:=S.steps+1},0)):=AP (by unfold St.sync;rw[HE.out]);have HKB:Hid (Bl (w1.alloc (.cells #[.pointer (AA ⟨EG G.ib x,0,AB⟩)] 121)) w1.heap.size 121 #[.pointer (AA ⟨EG G.ib x,0,AB⟩)]):=AP (Bl.new w1 _ _);have Qz:Hid (∀y∈G.all,y<w1.heap.size):=AP (HF.out.CX hc1).lt;obtain⟨kb,hkb⟩: ∃kb,w1.heap.size=kb:=⟨_,rfl⟩;obtain⟨W,hW⟩: ∃W,w1.alloc (.cells #[.pointer (AA ⟨EG G.ib x,0,AB⟩)] 121)=W:=⟨_,rfl⟩;have hck:=HKB.out.cell 0;simp only[GG] at hck;rw[hW] at HKB hck HF2 HC2 HS c0;rw[hkb] at HKB hck Qz;clear hF hE hx hd0 hs hc1 hL hg hix hbx hcA hxl;simp only[Xl,Fq];(go_wp2_with fail);refine (AHk g L _ _ W HS.out (by have:=(HI.out.Eb x).1;have:=HB.out;omega)).mono ?_;rintro e w4 ⟨L',rfl,hs4,hc4,hL4⟩;have TY:=AP (HF2.out.AKv (φ:=λf=>(Ee.all f,[])) HG.out HL.out hc4 hs4 hL4);have JD:Hid (AZ G.all w w4):=AP ((HC2.out.nil G.all).trans hc4 (λy hy=>.inl (Bi.Fh (i:=x+6) (by simpa[Bi.parts] using HL.out) hy)));have WX:Hid (∀y∈Bi.all {G with Ls:=G.Ls.set x L'},y∈G.all\/w.heap.size<=y):=AP (Bi.qV HL.out (λy hy=>(hL4 y hy).imp id (λh=>by have h1:=HC2.out.size;omega)))
  have hkL:kb∉L:=λhm=>by
   have:=Qz.out kb (Bi.Fh (i:=x+6) (by simpa[Bi.parts] using HL.out) hm);omega
  have HKB4:=AP (HKB.out.Aj hc4 hkL);have z3:=TY.out.blk.cell 3;have zk:=HKB4.out.cell 0;simp at z3 zk;have OJ:Hid (S.wr.length<=1073741824):=AP (by have:=HI.out.nw;have:=HB.out;omega)
  have HKW:Hid (kb∉bo G.Aw):=AP (λhm=>by
   have:=Qz.out kb (Bi.Fh (i:=4) rfl hm)
   omega)
  have HIS:Hid (∀i,i<S.files.length->EG G.ib i∈G.K/\Ox w4 (EG G.ib i)):=AP (λi hi=>by
   obtain⟨gg,LL,_,hbb,_,_,hii⟩:=TY.out.dL (i:=i) (by simpa using hi)
   exact⟨TY.out.Wq _ (Bq hii),_,_,hbb⟩)
  have HOW:Hid (Own w4 121 1 G.Aw S.wr.length G.cw ((S.wr.map (EG G.ib)).map pv)):=AP (by
   have:=TY.out.gq;rw[Eo]
   exact this)
  (have hwt:IntKind.i64.wrap ((S.steps:Int)+1)=((S.steps+1:Nat):Int):=by have:=HI.out.st;have:=HB.out;rw[NZ];omega);clear hs4 hc4 hL4 hck c0 hkL;go_wp2_with fail
  refine (AHx G.Aw S.wr.length G.cw (S.wr.map (EG G.ib)) (EG G.ib x) kb w4 HOW.out zk HKW.out (HIS.out x HXL.out).2 (λy hy=>by
   obtain⟨i,hi,rfl⟩:=Bv.1 hy
   exact (HIS.out i (HI.out.wr i hi)).2) (λy hy=>?_) OJ.out).mono ?_
  ·have hyK:y∈G.K:=by
    rcases BD.1 hy with rfl|hy;exact (HIS.out x HXL.out).1;obtain⟨i,hi,rfl⟩:=Bv.1 hy;exact (HIS.out i (HI.out.wr i hi)).1
   exact TY.out.lay.ne (i:=5) (j:=4) (P:=G.K) (Q:=bo G.Aw) rfl rfl Ar y hyK
  rintro e w5 ⟨hc5,n',hn',rfl,ho5⟩
  have hfm:(S.wr.map (EG G.ib)).filter (λy=>y !=EG G.ib x)=(S.wr.filter (λy=>y !=x)).map (EG G.ib):=by
   rw[lJ];congr 1;refine lG λy hy=>?_;simp only[Function.comp];have hyl:=HI.out.wr y hy;have hxl:=HXL.out;have hlen:=HF.out.Qx
   have:(EG G.ib y=EG G.ib x)↔y=x:=⟨λe=>by
    unfold EG at e;rw[Gj,Gj,CB Aa,CB Aa] at e
    exact (List.getElem_inj HF.out.Zy).1 e,λe=>by rw[e]⟩
   by_cases hxy:y=x;subst hxy;simp;have h2: ¬EG G.ib y=EG G.ib x:=λe=>hxy (this.1 e);exact (bne_iff_ne.2 h2).trans (bne_iff_ne.2 hxy).symm
  rw[hfm] at ho5 hn';rw[DY] at hn';subst hn';have um:G.b∉bo G.Aw:=(λhm=>TY.out.lay.ne (i:=4) (j:=0) (P:=bo G.Aw) (Q:=[G.b]) rfl rfl Ar _ hm AV);have qY:=AP (TY.out.blk.Aj hc5 um);have y3:=qY.out.cell 3;have f3:=qY.out.frozen 3;have TZ:=AP (qY.out.FX 3 (.slice G.Aw (S.wr.filter (λy=>y !=x)).length G.cw));have y6:=TZ.out.cell 6;have f6:=TZ.out.frozen 6;simp at y3 y6;have HO5:=AP ho5;have MW:=AP hc5;clear ho5 hc5 um hfm z3 zk;obtain⟨m',hm'⟩: ∃m',(S.wr.filter (λy=>y !=x)).length=m':=⟨_,rfl⟩;rw[hm'] at y6 f6 HO5 TZ;have HM':=AP hm';go_wp2;go_ret;have hb7:=TZ.out.FX 6 (.int .i64 ((S.steps+1:Nat):Int));have hcs:AZ [G.b] w5 ((w5.setCell ⟨G.b,3,AB⟩ (.slice G.Aw m' G.cw)).setCell ⟨G.b,6,AB⟩ (.int .i64 ((S.steps+1:Nat):Int))):=((AZ.refl _ _).setCell (.inl AV) _).setCell (.inl AV) _;refine⟨by rw[HR.out];rfl,?_⟩;rw[HR.out];refine DK.next (G1:={G with Ls:=G.Ls.set x L'}) JD.out rfl WX.out ?_;refine TY.out.wrote (wr':=S.wr.filter (λy=>y !=x)) (st':=S.steps+1) (A':=G.Aw) (c':=G.cw) ?_ ?_ ?_ (λy hy=>.inl hy);exact (MW.out.mono (λy hy=>.inl (CO _ hy))).trans hcs (λy hy=>.inl (by simp only[CJ] at hy;subst hy;simp))
  ·rw[HM'.out];simpa using hb7
  have q:=HO5.out.Aj hcs (λy hy hm=>by
   simp only[CJ] at hm;subst hm
   exact TY.out.lay.ne (i:=4) (j:=0) (P:=bo G.Aw) (Q:=[G.b]) rfl rfl Ar _ hy AV)
  rw[HM'.out];rw[Eo] at q;exact q
end
section
variable {f:Bool}{d last:ByteArray}{D:FI}{a q:Int}{l:List (ByteArray×List Int)}{fs:List Ee}{i n:Nat}{T:Tr}{α:Type}{w w':AL}
def noS:ByteArray:={data:=#[]}
def ES (f:Bool) (last:ByteArray):List (ByteArray×List Int)->Int
 | []=>0|x::r=>if Gq f last x.1≠0 then Gq f last x.1 else ES false x.1 r
def GX (f:Bool) (last:ByteArray):FI->Int
 | []=>0|d::r=>if Gq f last d.1≠0 then Gq f last d.1 else if ES true noS d.2≠0 then ES true noS d.2 else GX false d.1 r
def Di (D:FI) (BG:Int):Int:=if BG<0 then 2 else GX true noS D
def IU (n:Nat):List (ByteArray×List Int)->Jv
 | []=>[]|x::r=>(x.1,n)::IU (n+1) r
def Gx (n:Nat):FI->Tr
 | []=>[]|d::r=>(d.1,IU n d.2)::Gx (n+d.2.length) r
def Gs (D:FI):Nat:=(D.map λd=>d.2.length).sum
def KH (D:FI):List Ee:=D.flatMap λd=>d.2.map λx=>(x.2,[])
def Ei (D:FI) (BG stop:Int):St:=⟨Gx 0 D,Gx 0 D,[],KH D,[],BG,stop,0⟩
theorem qZ(n:Nat)(l:List (ByteArray×List Int))(x:ByteArray×List Int):IU n (l++[x])=IU n l++[(x.1,n+l.length)]:=by
 induction l generalizing n with|nil=>rfl|cons y r ih=>simp[IU,ih];omega
theorem xM(n:Nat)(l:List (ByteArray×List Int)):(IU n l).length=l.length:=by
 induction l generalizing n with|nil=>rfl|cons y r ih=>simp[IU,ih]
theorem gy(n:Nat)(l:List (ByteArray×List Int)):(IU n l).map Ac=l.map Ac:=by
 induction l generalizing n with|nil=>rfl|cons y r ih=>simp[IU,ih]
theorem gz(n:Nat)(D:FI):(Gx n D).map Ac=D.map Ac:=by
 induction D generalizing n with|nil=>rfl|cons y r ih=>simp[Gx,ih]
theorem AFV(D:FI)(d:ByteArray×List (ByteArray×List Int)):Gs (D++[d])=Gs D+d.2.length:=by simp[Gs]
theorem qc(n:Nat)(D:FI)(d:ByteArray×List (ByteArray×List Int)):Gx n (D++[d])=Gx n D++[(d.1,IU (n+Gs D) d.2)]:=by
 induction D generalizing n with|nil=>simp[Gx,Gs]|cons y r ih=>simp only[Dp,Gx,ih,Gs,BN,CE];rw[show n+y.2.length+(r.map λd=>d.2.length).sum=n+(y.2.length+(r.map λd=>d.2.length).sum) by omega]
theorem xN(D:FI)(d:ByteArray×List (ByteArray×List Int)):KH (D++[d])=KH D++d.2.map λx=>(x.2,[]):=by simp[KH]
theorem TG(D:FI):(KH D).length=Gs D:=by
 unfold KH Gs
 induction D with|nil=>rfl|cons y r ih=>simp[ih]
theorem xO: ∀q∈IU n l,q.2<n+l.length:=by
 induction l generalizing n with
 |nil=>simp[IU]|cons y r ih=>
  intro q hq;simp only[IU,BD] at hq;simp only[EU];rcases hq with rfl|hq;simp only;omega;have:=ih q hq;omega
theorem Ye: ∀p∈Gx n D,∀q∈p.2,q.2<n+Gs D:=by
 induction D generalizing n with
 |nil=>simp[Gx]|cons y r ih=>
  intro p hp q hq;simp only[Gx,BD] at hp;simp only[Gs,BN,CE];rcases hp with rfl|hp;have:=xO q hq;omega;have:=ih p hp q hq;simp only[Gs] at this;omega
theorem lY{a b:ByteArray}:PE a b=false↔Jg b a=true:=by
 unfold PE Jg;rw[yj];have h1:(Op.bytesLess a.toList b.toList=true)↔a.data.toList<b.data.toList:=TB;have h2:(Op.bytesLess b.toList a.toList=true)↔b.data.toList<a.data.toList:=TB;rw[h2];constructor
 ·rintro⟨h3,h4⟩;(have h5: ¬a.data.toList<b.data.toList:=λh=>by rw[h1.2 h] at h3;cases h3);rcases AFt.1 (List.not_lt.1 h5) with h6|h6;exact h6;exfalso;rw[data_inj h6] at h4;simp at h4
 intro h3;refine⟨?_,?_⟩
 ·rw[<- fD,h1];exact λh=>yc _ (List.lt_trans h h3)
 cases he:(a.toList==b.toList) with
 |false=>rfl|true=>
  (have h4:a.toList=b.toList:=by simpa using he);rw[Y0,Y0] at h4;rw[h4] at h3;exact Ak h3 (yc _)
theorem Vu{name:ByteArray}:Gq f last name=0↔CV name=true/\(f=false->Jg last name=true):=by
 unfold Gq
 cases hg:CV name with
 |false=>simp|true=>
  rw[BM AV];by_cases h:f=false/\PE name last=true
  ·rw[BZ h];constructor;intro h2;cases h2;rintro⟨_,h2⟩;have h3:=h2 h.1;rw[<- lY,h.2] at h3;cases h3
  rw[BM h];refine⟨λ_=>⟨rfl,λhf=>?_⟩,λ_=>rfl⟩;rw[<- lY]
  cases hl:PE name last with|false=>rfl|true=>exact Ak ⟨hf,hl⟩ h
theorem Vx(h:ES f last l=0):(l.map Ac).Pairwise (λa b=>Jg a b=true)/\(∀x∈l,CV x.1=true)/\(f=false->∀x∈l,Jg last x.1=true):=by
 induction l generalizing f last with
 |nil=>exact⟨mO,AV,AV⟩|cons x r ih=>
  unfold ES at h;by_cases ho:Gq f last x.1=0
  ·rw[BM (by simp[ho])] at h;obtain⟨h1,h2,h3⟩:=ih h;obtain⟨h4,h5⟩:=Vu.1 ho;refine⟨KL.2 ⟨λy hy=>?_,h1⟩,λy hy=>?_,λhf y hy=>?_⟩
   ·obtain⟨z,hz,rfl⟩:=Bv.1 hy;exact h3 rfl z hz
   ·rcases BD.1 hy with rfl|hy;exact h4;exact h2 y hy
   rcases BD.1 hy with rfl|hy;exact h5 hf;exact Pj (h5 hf) (h3 rfl y hy)
  rw[BZ ho] at h;exact Ak h ho
theorem Xr(h:GX f last D=0):(D.map Ac).Pairwise (λa b=>Jg a b=true)/\(∀x∈D,CV x.1=true)/\(∀x∈D,ES true noS x.2=0)/\(f=false->∀x∈D,Jg last x.1=true):=by
 induction D generalizing f last with
 |nil=>exact⟨mO,AV,AV,AV⟩|cons x r ih=>
  unfold GX at h;by_cases ho:Gq f last x.1=0
  ·rw[BM (by simp[ho])] at h;by_cases hf0:ES true noS x.2=0
   ·rw[BM (by simp[hf0])] at h;obtain⟨h1,h2,h2',h3⟩:=ih h;obtain⟨h4,h5⟩:=Vu.1 ho;refine⟨KL.2 ⟨λy hy=>?_,h1⟩,λy hy=>?_,λy hy=>?_,λhf y hy=>?_⟩
    ·obtain⟨z,hz,rfl⟩:=Bv.1 hy;exact h3 rfl z hz
    ·rcases BD.1 hy with rfl|hy;exact h4;exact h2 y hy
    ·rcases BD.1 hy with rfl|hy;exact hf0;exact h2' y hy
    rcases BD.1 hy with rfl|hy;exact h5 hf;exact Pj (h5 hf) (h3 rfl y hy)
   rw[BZ hf0] at h;exact Ak h hf0
  rw[BZ ho] at h;exact Ak h ho
theorem Yf{p:ByteArray×Jv}(h:p∈Gx n D): ∃m,∃d∈D,p=(d.1,IU m d.2):=by
 induction D generalizing n with
 |nil=>simp[Gx] at h|cons y r ih=>
  simp only[Gx,BD] at h;rcases h with rfl|h;exact⟨n,y,AV,rfl⟩;obtain⟨m,d,hd,e⟩:=ih h;exact⟨m,d,CO _ hd,e⟩
theorem AHz{q:ByteArray×Nat}(h:q∈IU n l): ∃x∈l,q.1=x.1:=by
 have:q.1∈(IU n l).map Ac:=Bv.2 ⟨q,h,rfl⟩;rw[gy] at this;obtain⟨x,hx,e⟩:=Bv.1 this;exact⟨x,hx,e.symm⟩
theorem AH0(h:GX f last D=0):Val (Gs D) (Gx 0 D):=by
 obtain⟨h1,h2,h3,_⟩:=Xr h;refine⟨by unfold OI;rw[gz];exact h1,λp hp=>?_,λp hp q hq=>by have:=Ye p hp q hq;omega,λp hp=>?_,λp hp q hq=>?_⟩
 ·obtain⟨m,d,hd,rfl⟩:=Yf hp;unfold OI;rw[gy];exact (Vx (h3 d hd)).1
 ·obtain⟨m,d,hd,rfl⟩:=Yf hp;exact h2 d hd
 obtain⟨m,d,hd,rfl⟩:=Yf hp;obtain⟨x,hx,e⟩:=AHz hq;rw[e];exact (Vx (h3 d hd)).2.1 x hx
def Fj (D:FI):Nat:=(D.map λd=>(d.2.map λx=>x.2.length+1).sum+1).sum
theorem AKx(n:Nat)(D:FI):wd (Gx n D)<=Fj D:=by
 unfold wd Fj
 induction D generalizing n with
 |nil=>simp[Gx]|cons y r ih=>
  simp only[Gx,BN,CE,xM];have h1:=ih (n+y.2.length)
  have h2:y.2.length<=(y.2.map λx=>x.2.length+1).sum:=by
   generalize y.2=l
   induction l with|nil=>simp|cons z l ih2=>simp only[EU,BN,CE];omega
  omega
theorem xP(D:FI):Ik (KH D)+Gs D<=Fj D:=by
 unfold Ik KH Fj Gs
 induction D with
 |nil=>simp|cons y r ih=>
  simp only[Tm,Ey,YN,BN,CE,Eo]
  have h2:((y.2.map ((λf:Ee=>f.all.length+f.2.length)∘λx=>(x.2,[]))).sum)+y.2.length=(y.2.map λx=>x.2.length+1).sum:=by
   generalize y.2=l
   induction l with|nil=>simp|cons z l ih2=>simp only[EU,BN,CE,Function.comp,Ee.all,mP,I9,Hr] at ih2⊢;omega
  omega
theorem OD{BG stop:Int}(h:Di D BG=0)(hq:BG<=9223372036854775807):Inv (Fj D) (Ei D BG stop):=by
 unfold Di at h;by_cases h0:BG<0;rw[BZ h0] at h;cases h;rw[BM h0] at h;have hv:=AH0 h;have hb:=xP D;refine⟨by simp only[Ei,TG];exact hv,Ap,rfl,by simp[Ei],?_,?_,?_,by simp[Ei],by simp[Ei],⟨by simp only[Ei];omega,hq⟩⟩;have:=AKx 0 D;simp only[Ei,Hr];omega;simp only[Ei,TG];omega;simp only[Ei];omega
structure Rl where
 b:Nat
 t1:Nat
 g1:NM
 ib:List Nat
 sg:List Nat
 Ls:List (List Nat)
def Rl.parts (G:Rl):List (List Nat):=[G.b]::Ea G.t1 G.g1::G.ib::G.Ls
structure kP (w:AL) (G:Rl) (T:Tr) (fs:List Ee) (q a:Int):Prop where
 blk:Bl w G.b 116 #[.map (AA G.t1),.map AB,.slice AB 0 0,.slice AB 0 0,.int .i64 q,.int .i64 a,.int .i64 0]
 Fg:Tree w G.t1 G.g1
 MB:D8 G.ib G.g1 T
 Qx:G.ib.length=fs.length
 Wp:G.sg.length=fs.length
 Rk:G.Ls.length=fs.length
 Zy:G.ib.Nodup
 ino: ∀(i x g:Nat) (L:List Nat) (f:Ee),G.ib[i]? =AA x->G.sg[i]? =AA g->G.Ls[i]? =AA L->fs[i]? =AA f->xG w x g L f
 lay:Lay w G.parts
theorem kP.CX{G:Rl}(h:kP w G T fs q a)(hc:AZ [] w w'):kP w' G T fs q a:=
 ⟨h.blk.Aj hc BH,h.Fg.keep hc Ew,h.MB,h.Qx,h.Wp,h.Rk,h.Zy,λi x g L f e1 e2 e3 e4=>(h.ino i x g L f e1 e2 e3 e4).keep hc BH Ew,h.lay.mono hc.size⟩
theorem Ns{T:List (ByteArray×α)}{F:α}(hd:BK T d=AB)(k:ByteArray):BK (T++[(d,F)]) k=if d=k then AA F else BK T k:=by
 induction T with
 |nil=>rw[D9,FZ]|cons p r ih=>
  rw[FZ] at hd;by_cases hp:p.1=d;rw[BZ hp] at hd;cases hd;rw[BM hp] at hd;rw[Dp,FZ,ih hd,FZ];by_cases h1:p.1=k;rw[BZ h1,BM (λe=>hp (h1.trans e.symm)),BZ h1];rw[BM h1,BM h1]
theorem Lay.qf{Ps:List (List Nat)}(h:Lay w Ps){L:List Nat}{j:Nat}{Q:List Nat}(hj:Ps[j]? =AA Q)(hL: ∀x∈L,x∈Q){P:List Nat}(hi:Ps[i]? =AA P)(hn:i≠j): ∀x∈P,x∉L:=
 λx hx hm=>h.ne hi hj hn x hx (hL x hm)
theorem kP.dir{G:Rl}(h:kP w G T fs q a){fb:Nat}(hd:BK T d=AB)(hc:AZ [G.t1] w w')(htop:Mp w' G.t1 IZ (Dq (FD G.g1) d (.map (AA fb))))(hfb:Mp w' fb IZ [])(hge:w.heap.size<=fb):
  kP w' {G with g1:=Dq G.g1 d (fb,[])} (T++[(d,[])]) fs q a:=by
 (have ht1: ∀x∈[G.t1],x∈Ea G.t1 G.g1:=by simp[Ea]);have ho:=λ(i:Nat) (P:List Nat) (hi:G.parts[i]? =AA P) (hn:i≠1)=>h.lay.qf (j:=1) rfl ht1 hi hn;have htl:=h.Fg.top.lt;have htr:Tree w' G.t1 (Dq G.g1 d (fb,[])):=Tree.put h.Fg.nodup h.Fg.sub h.Fg.apart hc htop (by simpa[Iu] using hfb) Aa (λp hp _ e=>by have:=(h.Fg.sub p hp).lt;omega) (λp hp _=>by simpa using h.Fg.L8 hp);refine⟨h.blk.Aj hc (ho 0 _ rfl Ar _ AV),htr,h.MB.put h.Fg.nodup (λk=>Ns hd k) (λn=>rfl),h.Qx,h.Wp,h.Rk,h.Zy,λi x g L f e1 e2 e3 e4=>?_,?_⟩;exact (h.ino i x g L f e1 e2 e3 e4).keep hc (ho 2 _ rfl Ar x (Bq e1)) (ho (i+3) L (by simpa[Rl.parts] using e3) Aa);exact h.lay.FX (w':=w') (i:=1) (P':=Ea G.t1 (Dq G.g1 d (fb,[]))) rfl (OC h.Fg.nodup (.inr hge)) htr.lt hc.size
theorem kP.file{w1 w2 w3:AL}{G:Rl}{n:ByteArray}{F:Jv}(h:kP w G (T++[(d,F)]) fs q a)(hd:BK T d=AB)(hn:BK F n=AB)(AT1: ∀p∈T++[(d,F)],∀q∈p.2,q.2<fs.length)
  {fb:Nat} {f:List (ByteArray×Nat)} (he:BK G.g1 d=AA (fb,f)) (hc1:AZ [] w w1) {g:Nat} {L:List Nat} {ff:List Int} (hL: ∀k∈L,w.heap.size<=k) (hs:Wn w1 g L ff []) (hc2:AZ [] w1 w2) {x:Nat} (hx:w1.heap.size<=x) (hb:Bl w2 x 126 #[.pointer (AA ⟨g,0,AB⟩)])
  (hc3:AZ [fb] w2 w3) (hfb:Mp w3 fb IZ (Dq (Iu f) n (.pointer (AA ⟨x,0,AB⟩)))):
  kP w3 {G with g1:=Dq G.g1 d (fb,Dq f n x),ib:=G.ib++[x],sg:=G.sg++[g],Ls:=G.Ls++[L]} (T++[(d,F++[(n,fs.length)])]) (fs++[(ff,[])]) q a:=by
 have hmem:=CQ he;have h2:=h.CX (hc1.Ah hc2);(have hfm: ∀x∈[fb],x∈Ea G.t1 G.g1:=λy hy=>by simp only[CJ] at hy;subst hy;exact Jc hmem);have ho:=λ(i:Nat) (P:List Nat) (hi:G.parts[i]? =AA P) (hn:i≠1)=>h2.lay.qf (j:=1) rfl hfm hi hn;have hfv:Dq (Iu f) n (.pointer (AA ⟨x,0,AB⟩))=Iu (Dq f n x):=Yc (λi:Nat=>QW (AA ⟨i,0,AB⟩)) f n x;rw[hfv] at hfb
 have htop:Mp w3 G.t1 IZ (Dq (FD G.g1) d (.map (AA fb))):=by
  rw[Vs (by rw[Ez,he];rfl)];exact h2.Fg.top.Aj hc3 (by simpa using (h2.Fg.L8 hmem).symm)
 (have hLn: ∀p∈G.g1,p.1≠d->p.2.1∉[fb]:=λp hp hne=>by simpa using h2.Fg.lW hp hmem hne);have htr:Tree w3 G.t1 (Dq G.g1 d (fb,Dq f n x)):=Tree.put h2.Fg.nodup h2.Fg.sub h2.Fg.apart hc3 htop hfb (h2.Fg.L8 hmem) (λp hp hne=>by simpa using hLn p hp hne) hLn;have hfs:=h.MB.sub d (fb,f) F he (by rw[Ns hd,BZ rfl])
 have hxf:x≠fb:=by
  have:=h.lay.lt (Ea G.t1 G.g1) (Bq (i:=1) rfl) fb (Jc hmem);have:=hc1.size;omega
 have hgrow:D8 (G.ib++[x]) G.g1 (T++[(d,F)]):=⟨h.MB.top,λk e F' hk hF' n'=>by
  rw[h.MB.sub k e F' hk hF' n']
  cases hn':BK F' n' with
  |none=>rfl|some i=>
   have:=AT1 _ (CQ hF') _ (CQ hn');simp only[Fq]
   rw[dH (by rw[h.Qx];exact this)]⟩
 refine⟨h2.blk.Aj hc3 (ho 0 _ rfl Ar _ AV),htr,?_,by simp[h.Qx],by simp[h.Wp],by simp[h.Rk],?_,?_,?_⟩
 ·refine hgrow.put h.Fg.nodup (F:=F++[(n,fs.length)]) (λk=>?_) (λn'=>?_)
  ·rw[Ns hd,Ns hd];by_cases hk:d=k<;>simp[hk]
  rw[S9 (h2.Fg.SC hmem),Ns hn,hgrow.sub d (fb,f) F he (by rw[Ns hd,BZ rfl]) n'];by_cases hnn:n=n'
  ·rw[BZ hnn,BZ hnn,<- h.Qx];simp only[Fq];rw[ACq]
  rw[BM hnn,BM hnn]
 ·show (G.ib++[x]).Nodup;rw[QD];refine⟨h.Zy,AV,λy hy z hz=>?_⟩;simp only[CJ] at hz;subst hz;have:=h.lay.lt G.ib (Bq (i:=2) rfl) y hy;have:=hc1.size;omega
 ·intro i y gg M f0 e1 e2 e3 e4;have l1:=h.Qx;have l2:=h.Wp;have l3:=h.Rk;by_cases hil:i<fs.length
  ·simp only at e1 e2 e3;rw[Nb Aa] at e1 e2 e3 e4;exact (h2.ino i y gg M f0 e1 e2 e3 e4).keep hc3 (ho 2 _ rfl Ar y (Bq e1)) (ho (i+3) M (by simpa[Rl.parts] using e3) Aa)
  have hie:i=fs.length:=by
   have:=(CP.1 e4).1;simp at this;omega
  subst hie;simp only at e1 e2 e3;rw[Gy Aa,l1,Jn] at e1;rw[Gy Aa,l2,Jn] at e2;rw[Gy Aa,l3,Jn] at e3;rw[Gy Aa,Jn] at e4;simp at e1 e2 e3 e4;subst e1;subst e2;subst e3;subst e4;refine⟨hb.Aj hc3 (by simpa using hxf),(hs.Aj hc2 Ew).Aj hc3 (λk hk hm=>?_)⟩;simp only[CJ] at hm;subst hm;have h1:=hL _ hk;have h3:=h.lay.lt (Ea G.t1 G.g1) (Bq (i:=1) rfl) _ (Jc hmem);simp only at h3;omega
 have l1:=h.lay.snoc (w':=w1) hL hs.lt hc1.size
 have l2:=l1.FX (w':=w2) (i:=2) (P:=G.ib) (P':=G.ib++[x]) rfl (λy hy=>by
  rcases Bd.1 hy with hy|hy;exact .inl hy
  ·simp only[CJ] at hy;subst hy;exact .inr hx) (λy hy=>by
  rcases Bd.1 hy with hy|hy;exact h2.lay.lt G.ib (Bq (i:=2) rfl) y hy
  simp only[CJ] at hy;subst hy;exact hb.lt) hc2.size
 have l3:=l2.FX (w':=w3) (i:=1) (P:=Ea G.t1 G.g1) (P':=Ea G.t1 (Dq G.g1 d (fb,Dq f n x))) rfl (OC h.Fg.nodup (.inl (Jc hmem))) htr.lt hc3.size;exact l3
def FQ {α:Type} (last:ByteArray) (l:List (ByteArray×α)):ByteArray:=(l.getLast?.map (·.1)).getD last
theorem Xt(last:ByteArray)(l:List (ByteArray×α))(x:ByteArray×α):FQ last (l++[x])=x.1:=by simp[FQ]
theorem jY(last:ByteArray)(l:List (ByteArray×α))(x:ByteArray×α):FQ last (x::l)=FQ x.1 l:=by
 unfold FQ
 cases l with|nil=>rfl|cons y r=>simp[List.getLast?_cons]
theorem uq(f:Bool)(last:ByteArray)(a b:List (ByteArray×List Int))(h:ES f last a=0):ES f last (a++b)=ES (f && a.isEmpty) (FQ last a) b:=by
 induction a generalizing f last with
 |nil=>simp[FQ]|cons x r ih=>
  unfold ES at h;by_cases ho:Gq f last x.1=0
  ·rw[BM (by simp[ho])] at h;rw[Dp,ES,BM (by simp[ho]),ih false x.1 h,jY];simp
  rw[BZ ho] at h;exact Ak h ho
theorem dN(f:Bool)(last:ByteArray)(a b:FI)(h:GX f last a=0):GX f last (a++b)=GX (f && a.isEmpty) (FQ last a) b:=by
 induction a generalizing f last with
 |nil=>simp[FQ]|cons x r ih=>
  unfold GX at h;by_cases ho:Gq f last x.1=0
  ·rw[BM (by simp[ho])] at h;by_cases hf:ES true noS x.2=0
   ·rw[BM (by simp[hf])] at h;rw[Dp,GX,BM (by simp[ho]),BM (by simp[hf]),ih false x.1 h,jY];simp
   rw[BZ hf] at h;exact Ak h hf
  rw[BZ ho] at h;exact Ak h ho
theorem ZJ{l:List α}{x:α}(h:l[i]? =AA x):l=l.take i++x::l.drop (i+1):=by
 have hi:=(CP.1 h).1
 conv=>lhs;rw[<- YK i l,YI hi]
 rw[(CP.1 h).2]
theorem VH{d:ByteArray×List (ByteArray×List Int)}(hd:D[i]? =AA d)(h:GX true noS (D.take i)=0):
  GX true noS D=GX (i==0) (FQ noS (D.take i)) (d::D.drop (i+1)):=by
 have hi:=(CP.1 hd).1
 conv=>lhs;rw[ZJ hd]
 rw[dN _ _ _ _ h];congr 1
 cases i with
 |zero=>rfl|succ k=>
  cases D with|nil=>simp at hi|cons y r=>rfl
theorem Z4{d:ByteArray×List Int}(hd:l[i]? =AA d)(h:ES true noS (l.take i)=0):
  ES true noS l=ES (i==0) (FQ noS (l.take i)) (d::l.drop (i+1)):=by
 have hi:=(CP.1 hd).1
 conv=>lhs;rw[ZJ hd]
 rw[uq _ _ _ _ h];congr 1
 cases i with
 |zero=>rfl|succ k=>
  cases l with|nil=>simp at hi|cons y r=>rfl
theorem jZ{d:ByteArray×List (ByteArray×List Int)}(hd:D[i]? =AA d)(h:GX true noS (D.take i)=0)(ho:Gq (i==0) (FQ noS (D.take i)) d.1=0)(hf:ES true noS d.2=0):GX true noS (D.take (i+1))=0:=by
 have hi:=(CP.1 hd).1;(have h1:(D.take (i+1))[i]? =AA d:=by rw[AFz Aa];exact hd);rw[VH h1 (by rw[aV,Jm Aa];exact h),aV,Jm Aa];unfold GX;rw[BM (by simp[ho]),BM (by simp[hf])];rw[RS (by simp;omega)];rfl
theorem Vy{d:ByteArray×List Int}(hd:l[i]? =AA d)(h:ES true noS (l.take i)=0)(ho:Gq (i==0) (FQ noS (l.take i)) d.1=0):ES true noS (l.take (i+1))=0:=by
 have hi:=(CP.1 hd).1;(have h1:(l.take (i+1))[i]? =AA d:=by rw[AFz Aa];exact hd);rw[Z4 h1 (by rw[aV,Jm Aa];exact h),aV,Jm Aa];unfold ES;rw[BM (by simp[ho])];rw[RS (by simp;omega)];rfl
theorem AKy{d:ByteArray×List (ByteArray×List Int)}(hd:D[i]? =AA d)(h:GX true noS (D.take i)=0)(ho:Gq (i==0) (FQ noS (D.take i)) d.1=0):d.1∉(D.take i).map Ac:=by
 have hi:=(CP.1 hd).1
 have h2:GX true noS (D.take i++[(d.1,[])])=0:=by
  rw[dN _ _ _ _ h,show (true && (D.take i).isEmpty)=(i==0) by
   cases i with
   |zero=>rfl
   |succ k=>cases D with
    |nil=>simp at hi
    |cons y r=>rfl]
  unfold GX;rw[BM (by simp[ho]),BM (by simp[ES])];rfl
 have h3:=(Xr h2).1;rw[Ey,aX] at h3;intro hm;have:=h3.2.2 _ hm d.1 AV;rw[LW] at this;cases this
theorem AH1{d:ByteArray×List Int}(hd:l[i]? =AA d)(h:ES true noS (l.take i)=0)(ho:Gq (i==0) (FQ noS (l.take i)) d.1=0):d.1∉(l.take i).map Ac:=by
 have h3:=(Vx (Vy hd h ho)).1;rw[take_snoc _ _ _ hd,Ey,aX] at h3;intro hm;have:=h3.2.2 _ hm d.1 AV;rw[LW] at this;cases this
end
def shows (β:Nat->List Int) (T:Tr):FI:=T.map λp=>(p.1,p.2.map λq=>(q.1,β q.2))
theorem AGk{w:AL}{A:Option Af}{n c:Nat}{ns:List ByteArray}(h:Own w 9 1 A n c (Pm ns)){j:Nat}(hj:j<n):
  ∃ad s,A=AA ad/\ns[j]? =AA s/\w.cell? (ad.add j)=AA (.string s):=AAU h.rd hj
theorem ACx{β:Nat->List Int}{T:Tr}{i:Nat}{p:ByteArray×Jv}(h:T[i]? =AA p):shows β (T.take (i+1))=shows β (T.take i)++[(p.1,p.2.map λq=>(q.1,β q.2))]:=by
 rw[take_snoc _ _ _ h];simp[shows]
theorem ACy(ds:List DM)(x:DM):BF (ds++[x])=BF ds++[(x.1.nm,BB x.2)]:=by simp[BF]
theorem ACz(fs:List FM)(x:FM):BB (fs++[x])=BB fs++[(x.1.nm,x.2)]:=by simp[BB]
theorem xQ(X:FuncId)(cp:Array AQ)(hcf: ∀(p:Array AQ) (w:AL),(E5 X p).run Ag w=.ok (.enter X p) w)(w:AL)(tb:Nat)(g:NM)(ib:List Nat)(T:Tr)(m:Nat)(β:Nat->List Int)(ht:Tree w tb g)(hi:D8 ib g T)(hv:Val m T)(hw:wd T<=1073741824)
  (hcall: ∀i,i<m->∀wr,AZ [] w wr->Au Ag X (#[.pointer (AA ⟨EG ib i,0,AB⟩)]++cp) wr (Lu 5 1 wr (bv (β i)) (β i).length)):
  Au Ag 55 #[.map (AA tb),.func (.func X) #[] cp] w (dD w (shows β T)):=by
 have HT:=AP ht;have HI:=AP hi;have HV:=AP hv;have HW:=AP hw;have Ui:=AP hcall;(have hTl:T.length<=1073741824:=by have:=AAW T;omega);clear ht hi hv hw hcall;have k87:= @AKS;have k88:= @AOU;have k89:= @AOV;go_enter ANs,Tryz.ntmps55;(go_wp2_with fail);refine (qE (AA tb) w).mono ?_;rintro e w2 ⟨rfl,hw2⟩;have HW2:=AP hw2;clear hw2;(go_wp2_with fail);rw[HW2.out];refine (ZH HT.out HI.out HV.out hTl rfl).mono ?_;rintro e w3 ⟨NA,nc,rfl,hno,hc3,hn3⟩;have HNO:=AP hno;have Ff:=AP hc3;obtain⟨TN,hTN⟩: ∃TN,T.length=TN:=⟨_,rfl⟩;rw[hTN] at HNO hTl⊢;clear hno hc3 hn3;go_wp2;go_loopw [4,6,7,9,14,26] (λo _ _ _ q _ wr=>∃(i:Nat) (A:Option Af) (c:Nat) (ds:List DM),i<=TN/\q=.int .i64 i/\o=.slice A i c/\Jt wr A i c ds/\BF ds=shows β (T.take i)/\AZ [] w3 wr/\∀k∈bo A++Ou ds,w.heap.size<=k/\w3.heap.size<=k) (λ_ _ _ _ q _ _=>TN - (intOf q).toNat)
 case atStart=>exact⟨0,AB,0,[],Dn _,rfl,rfl,⟨Own.nil _ _ _,AV,by simp[Ou]⟩,rfl,AZ.refl _ _,by simp[Ou]⟩
 obtain⟨i,A,c,ds,hiT,rfl,rfl,hds,hval,hch,hnew⟩:=hrel;have uo:=AP hds;have Xu:=AP hval;have DX:=AP hch;have PG:=AP hnew;clear hds hval hch hnew;by_cases hlt:i<TN
 ·(have hlt':(i:Int)<TN:=by omega);obtain⟨ad,nmx,rfl,hnm,hcell⟩:=AGk (HNO.out.Aj DX.out Ew) hlt;obtain⟨p,hp⟩: ∃p,T[i]? =AA p:=⟨_,CB Aa⟩
  have hpn:p.1=nmx:=by
   rw[Bg,hp] at hnm;exact EI hnm
  subst hpn;have hpm:=Bq hp;have hFT:BK T p.1=AA p.2:=LX HV.out.Uh.nodup hpm;obtain⟨e,he,hsub⟩:=HI.out.get hFT;have CZ:Hid (AZ [] w wr):=AP (Ff.out.Ah DX.out);have hTr:=HT.out.keep CZ.out Ew;have hl:=λo=>(Mp.lookup ((hTr.top).Aj ((AZ.refl [] wr).alloc o) BH) (DC LC) I4 (z:=.map AB) Aq p.1).1;simp only[Ez,he,Fq,Dx] at hl;have HP:=AP hp;have HPM:=AP hpm;have HE:=AP (CQ he);have WX:=AP hsub;have HFL:Hid (p.2.length<=1073741824):=AP (by have:=AAX hpm;have:=HW.out;omega);clear hnm hp hpm hFT he hsub hTr;(go_wp2_with fail);obtain⟨db,hdb⟩: ∃db,wr.heap.size=db:=⟨_,rfl⟩;obtain⟨W,hWn⟩: ∃W,W=wr.alloc (.cells #[.string p.1,.slice AB 0 0] 77):=⟨_,rfl⟩;(have hbW:Bl W db 77 #[.string p.1,.slice AB 0 0]:=by rw[hWn,<- hdb];exact Bl.new wr _ _);(have hcW:AZ [] wr W:=by rw[hWn];exact (AZ.refl _ _).alloc _);rw[<- hWn];have HBW:=AP hbW;have Ql:=AP hcW;have HDB:Hid (wr.heap.size<=db):=AP Aa;rw[hdb];clear hbW hcW hWn hl hcell;refine (qF (AA e.1) W).mono ?_;rintro ee w4 ⟨rfl,hw4⟩;have HW4:=AP hw4;clear hw4;(go_wp2_with fail);rw[HW4.out];have hfm:=(HT.out.sub _ HE.out).Aj (CZ.out.Ah Ql.out) BH;refine (ZI hfm WX.out (HV.out.sub _ HPM.out) (HV.out.nms _ HPM.out) HFL.out rfl).mono ?_;rintro ee w5 ⟨NB,nd,rfl,AOo,hc5,hn5⟩;have AOp:=AP AOo;have MW:=AP hc5;have HN5:=AP hn5;have HFM:=AP hfm;obtain⟨FN,hFN⟩: ∃FN,p.2.length=FN:=⟨_,rfl⟩;have hFl:=HFL.out;rw[hFN] at AOp hFl⊢;have qY:=AP (HBW.out.Aj hc5 BH);have HAB:Hid (∀k∈bo A++Ou ds,k<db):=AP (λk hk=>by have:=uo.out.lt k hk;have:=HDB.out;omega);have AT2:=AP ((uo.out.Aj Ql.out Ew).Aj hc5 Ew);have HLW:Hid (db<W.heap.size/\W.heap.size<=w5.heap.size):=AP ⟨HBW.out.lt,hc5.size⟩;have Z5:=AP hFN;clear AOo hc5 hn5 hfm hdb hFN;go_wp2;go_loopw [9,26] (λ_ q wj=>∃(j:Nat) (B:Option Af) (d:Nat) (fs:List FM),j<=FN/\q=.int .i64 j/\Bl wj db 77 #[.string p.1,.slice B j d]/\G8 wj B j d fs/\BB fs=(p.2.take j).map (λq=>(q.1,β q.2))/\AZ [db] w5 wj/\∀k∈bo B++Gg fs,w5.heap.size<=k) (λ_ q _=>FN - (intOf q).toNat)
  case atStart=>exact⟨0,AB,0,[],Dn _,rfl,qY.out,⟨Own.nil _ _ _,AV,by simp[Gg]⟩,rfl,AZ.refl _ _,by simp[Gg]⟩
  obtain⟨j,B,d,fs,hjF,rfl,hbj,hfs,hfv,hcj,hnj⟩:=hrel;have HBJ:=AP hbj;have kQ:=AP hfs;have HFV:=AP hfv;have HCJ:=AP hcj;have HNJ:=AP hnj;have x1:=hbj.cell 1;have x0:=hbj.cell 0;have f1:=hbj.frozen 1;simp at x1 x0;clear hbj hfs hfv hcj hnj;by_cases hjl:j<FN
  ·have AOq:(j:Int)<FN:=by omega
   have AOr: ∀k∈bo NB,k∉[db]:=λk hk hm=>by
    simp only[CJ] at hm;have h1:=HN5.out k hk;have h2:=HLW.out.1;omega
   obtain⟨bd,qn,rfl,oD,hqc⟩:=AGk (AOp.out.Aj HCJ.out AOr) hjl
   obtain⟨q,hq⟩: ∃q,p.2[j]? =AA q:=by
    rw[Bg] at oD
    cases hh:p.2[j]? with|none=>rw[hh] at oD;cases oD|some q=>exact⟨q,rfl⟩
   have hqq:q.1=qn:=by
    rw[Bg,hq] at oD;exact EI oD
   subst hqq;have hqm:=Bq hq;have hSF:OI p.2:=HV.out.sub _ HPM.out;have hid:=HV.out.ids _ HPM.out _ hqm;(have hge:BK e.2 q.1=AA (EG ib q.2):=by rw[WX.out,LX hSF.nodup hqm];rfl);have AOs:Hid (AZ [] w w5):=AP ((CZ.out.Ah Ql.out).Ah MW.out);have qg:Hid (AZ [] w wr):=AP (AOs.out.trans HCJ.out (λx hx=>by simp only[CJ] at hx;subst hx;right;have h1:=HDB.out;have h2:=CZ.out.size;omega));have hTj:=HT.out.keep qg.out Ew;have hlA:=(Mp.lookup (hTj.top.Aj (AZ.refl [] wr).drew BH) (DC LC) I4 (z:=.map AB) Aq p.1).1;have hlB:=(Mp.lookup ((hTj.sub _ HE.out).Aj (AZ.refl [] wr).drew BH) (DC LC) PY (z:=.pointer AB) Aq q.1).1;simp only[Ez,LX HT.out.nodup HE.out,Fq,Dx] at hlA;simp only[Vp,hge,Fq,Dx] at hlB;have HQ:=AP hq;have HID:=AP hid;have HGE:=AP hge;clear oD hq hqm hSF hid hge AOr;have HTJ:Hid (Tree wr tb g):=AP (HT.out.keep qg.out Ew)
   have OJ:Hid (∀x∈db::bo B,w.heap.size<=x):=AP (λx hx=>by
    have h1:=HDB.out;have h2:=CZ.out.size;have h3:=AOs.out.size;rcases BD.1 hx with rfl|hx;omega
    have:=HNJ.out x (F7 _ hx);omega)
   have HTB:Hid (tb∉db::bo B/\e.1∉db::bo B):=AP ⟨λhm=>by have h1:=OJ.out _ hm;have h2:=HT.out.top.lt;omega,λhm=>by have h1:=OJ.out _ hm;have h2:e.1<w.heap.size:=(HT.out.sub _ HE.out).lt;omega⟩;have HLA:Hid (BK (FD g) p.1=AA (.map (AA e.1))):=AP (by rw[Ez,LX HT.out.nodup HE.out];rfl);have HLB:Hid (BK (Iu e.2) q.1=AA (.pointer (AA ⟨EG ib q.2,0,AB⟩))):=AP (by rw[Vp,HGE.out];rfl);have AT3:Hid (db∉bo B):=AP (λhm=>by have:=HNJ.out db (F7 _ hm);have:=HLW.out;omega);(have AVJ:j<=1073741824:=by omega);clear hlA hlB hTj;go_wp2;refine FU (S:=λw'=>AZ (db::bo B) wr w') Aq ((AZ.refl _ _).drew) (λhHeld=>?_);refine tk 0 ?_;refine tk 2 ?_;refine tk 3 ?_;refine tk 4 ?_;refine tk 5 ?_;refine wpAnyH_take (i:=6) (v:=?_) rfl Aq Aq Aq (λ_ _ _ h=>h) (Or.inl ⟨by rfl,?_⟩) (by assumption) ?_;rotate_left
   ·(intro w' hSw;have y:=(Mp.lookup (HTJ.out.top.Aj hSw HTB.out.1) (DC LC) I4 (z:=.map AB) Aq p.1).1;rw[HLA.out] at y;simp only[Dx] at y;go_simp;try with_reducible rfl)
   (try simp only[BJ,Bh]);refine tk 7 ?_;refine wpAnyH_take (i:=8) (v:=?_) rfl Aq Aq Aq (λ_ _ _ h=>h) (Or.inl ⟨by rfl,?_⟩) (by assumption) ?_;rotate_left
   ·(intro w' hSw;have y:=(Mp.lookup ((HTJ.out.sub _ HE.out).Aj hSw HTB.out.2) (DC LC) PY (z:=.pointer AB) Aq q.1).1;rw[HLB.out] at y;simp only[Dx] at y;go_simp;try with_reducible rfl)
   (try simp only[BJ,Bh]);refine O7 (rs:=[1,9]) Aq AV ?_;refine Gp rfl (λK hK=>?a5) (Gp rfl (λK hK=>?b5) (O8))
   case' a5=>
    go_simp;refine hK.out _ _ (hHeld) (λhHeld=>?_);(try simp only[BJ,Bh]);clear hK K;refine Em 9 λK hK=>?_;go_simp;refine (Ui.out q.2 HID.out _ (qg.out.trans hHeld (λx hx=>.inr (OJ.out x hx)))).mono ?_;rintro ee w4 ⟨BA,bc,rfl,Zi,hc4,hn4⟩;have y1:w4.cell? ⟨db,1,AB⟩=AA (.slice B j d):=hc4.cell (by simpa using x1) BH;have uu:=AP Zi;have JD:=AP hc4;have HN4:=AP hn4;have hHc:=hHeld.Ah hc4;have AOt:Hid (Own (w4.alloc (.cells #[.string q.1,.slice BA (β q.2).length bc] 64)) 64 2 B j d (Ho (EZ fs))):=AP (kQ.out.row.Aj ((((AZ.refl [] wr).drew).Ah hc4).alloc _) Ew);have AGl:Hid (Bl (w4.alloc (.cells #[.string q.1,.slice BA (β q.2).length bc] 64)) db 77 #[.string p.1,.slice B j d]):=AP (HBJ.out.Aj ((((AZ.refl [] wr).drew).Ah hc4).alloc _) BH);have Uk:Hid (AZ [] wr (w4.alloc (.cells #[.string q.1,.slice BA (β q.2).length bc] 64))):=AP ((((AZ.refl [] wr).drew).Ah hc4).alloc _);have y1a:(w4.alloc (.cells #[.string q.1,.slice BA (β q.2).length bc] 64)).cell? ⟨db,1,AB⟩=AA (.slice B j d):=AGl.out.cell 1;clear Zi hn4;refine hK.out _ _ (hHc) (λhHeld=>?_);(try simp only[BJ,Bh]);clear hK K;refine tk 10 ?_;refine Em 11 λK hK=>?_;go_simp;refine hK.out _ _ (hHeld.alloc _) (λhHeld=>?_)
   case' b5=>
    go_simp;refine (Ui.out q.2 HID.out _ (qg.out.trans hHeld (λx hx=>.inr (OJ.out x hx)))).mono ?_;rintro ee w4 ⟨BA,bc,rfl,Zi,hc4,hn4⟩;have y1:w4.cell? ⟨db,1,AB⟩=AA (.slice B j d):=hc4.cell (by simpa using x1) BH;have uu:=AP Zi;have JD:=AP hc4;have HN4:=AP hn4;have hHc:=hHeld.Ah hc4;have AOt:Hid (Own (w4.alloc (.cells #[.string q.1,.slice BA (β q.2).length bc] 64)) 64 2 B j d (Ho (EZ fs))):=AP (kQ.out.row.Aj ((((AZ.refl [] wr).drew).Ah hc4).alloc _) Ew);have AGl:Hid (Bl (w4.alloc (.cells #[.string q.1,.slice BA (β q.2).length bc] 64)) db 77 #[.string p.1,.slice B j d]):=AP (HBJ.out.Aj ((((AZ.refl [] wr).drew).Ah hc4).alloc _) BH);have Uk:Hid (AZ [] wr (w4.alloc (.cells #[.string q.1,.slice BA (β q.2).length bc] 64))):=AP ((((AZ.refl [] wr).drew).Ah hc4).alloc _);have y1a:(w4.alloc (.cells #[.string q.1,.slice BA (β q.2).length bc] 64)).cell? ⟨db,1,AB⟩=AA (.slice B j d):=AGl.out.cell 1;clear Zi hn4;refine hK.out _ _ (hHc) (λhHeld=>?_);(try simp only[BJ,Bh]);clear hK K;refine tk 10 ?_;refine O7 (rs:=[1,11]) Aq AV ?_;refine Gp rfl (λK hK=>?a6) (Gp rfl (λK hK=>?b6) (O8))
    case' a6=>
     go_simp;refine hK.out _ _ (hHeld) (λhHeld=>?_);(try simp only[BJ,Bh]);clear hK K;refine Em 11 λK hK=>?_;go_simp;refine hK.out _ _ (hHeld.alloc _) (λhHeld=>?_)
    case' b6=>
     go_simp;refine hK.out _ _ (hHeld.alloc _) (λhHeld=>?_);(try simp only[BJ,Bh]);clear hK K;refine Em 1 λK hK=>?_;go_simp;refine hK.out _ _ (hHeld) (λhHeld=>?_)
   all_goals
    (try simp only[BJ,Bh]);clear hK K;refine Em 12 λK hK=>?_;refine Jb rfl _ _ rfl wo rfl AOt.out rfl (Own.lit w4 64 2 #[.string q.1,.slice BA (β q.2).length bc] 1 Ar rfl).rd (VC [⟨q.1,BA,(β q.2).length,bc⟩]) OH Aa ?_;intro A2 c2 w6 hown6 IP LZ _;have TZ:=AP (AGl.out.Aj IP AT3.out);have y6:=TZ.out.cell 1;have f6:=TZ.out.frozen 1;simp at y6;have qh:=AP hown6;have Jh:=AP IP;have Xv:=AP LZ;have hH6:=hHeld.trans IP (λx hx=>.inl (CO _ hx));clear hown6 IP LZ;refine hK.out _ _ (hH6) (λhHeld=>?_);(try simp only[BJ,Bh]);clear hK K;refine tk 13 ?_;refine Em 14 λK hK=>?_;go_simp;refine hK.out _ _ (hHeld.setCell (.inl AV) _) (λhHeld=>?_);(try simp only[BJ,Bh]);clear hK K;refine Eu Aq ?_ _;(try simp only[BJ,Bh]);have Y1:Hid (AZ [db] w6 (w6.setCell ⟨db,1,AB⟩ (.slice A2 (j+1) c2))):=AP ((AZ.refl _ _).setCell (.inl AV) _);have Zt:Hid (Bl (w6.setCell ⟨db,1,AB⟩ (.slice A2 (j+1) c2)) db 77 #[.string p.1,.slice A2 (j+1) c2]):=AP (by simpa using TZ.out.FX 1 (.slice A2 (j+1) c2));clear y6 f6 y1 y1a hHeld hHc hH6 hc4 x1 x0 f1;go_wp2;go_roundw
    case rel=>
     have Xw: ∀k∈bo A2,w5.heap.size<=k:=λk hk=>by
      rcases Xv.out k hk with h|h;exact HNJ.out k (F7 _ h);have h1:=HCJ.out.size;have h2:=Uk.out.size;omega
     have AT4: ∀k∈bo A2,k∉[db]:=λk hk hm=>by
      simp only[CJ] at hm;have h1:=Xw k hk;have h2:=HLW.out;omega
     have hwl:wr.drew.heap.size<=w4.heap.size:=JD.out.size;have hba: ∀k∈bo BA,wr.heap.size<=k:=λk hk=>HN4.out k hk;have AT5:Own (w4.alloc (.cells #[.string q.1,.slice BA (β q.2).length bc] 64)) 5 1 BA (β q.2).length bc (bv (β q.2)):=uu.out.Aj ((AZ.refl [] w4).alloc _) Ew;have hfl:=kQ.out.lt
     have hO6:Own w6 64 2 A2 (j+1) c2 (Ho (EZ (fs++[(⟨q.1,BA,(β q.2).length,bc⟩,β q.2)]))):=by
      have:=qh.out;unfold EZ at this⊢;rw[Ey,OB];exact this
     have AOu:G8 w6 A2 (j+1) c2 (fs++[(⟨q.1,BA,(β q.2).length,bc⟩,β q.2)]):=
      (kQ.out.Aj Uk.out Ew).snoc Jh.out hO6 (AT5.Aj Jh.out (λk hk hm=>by have h1:=hba k hk;have h2:=hfl k (F7 _ hm);omega)) (λk hk hm=>by have h1:=hba k hk;have h2:=hfl k (Hg _ hm);omega)
     refine⟨j+1,A2,c2,fs++[(⟨q.1,BA,(β q.2).length,bc⟩,β q.2)],Aa,by go_num,Zt.out,AOu.Aj Y1.out (λk hk hm=>?_),?_,?_,?_⟩
     ·rcases Bd.1 hk with hk|hk;exact AT4 k hk hm;obtain⟨f,hf,hk⟩:=Es.1 hk;simp only[CJ] at hm;subst hm;exact (AOu.dat f hf).GV TZ.out Ar _ hk rfl
     rw[ACz,take_snoc _ _ _ HQ.out,Ey,HFV.out];rfl;exact ((HCJ.out.Ah Uk.out).trans Jh.out (λx hx=>.inr (HNJ.out x (F7 _ hx)))).trans Y1.out (λx hx=>.inl hx);intro k hk;rw[qA] at hk;rcases Bd.1 hk with hk|hk;exact Xw k hk;rcases Bd.1 hk with hk|hk;exact HNJ.out k (Hg _ hk);have h1:=hba k hk;have h2:=HCJ.out.size;omega
    simp[intOf];omega
  obtain rfl:j=FN:=by omega
  have AOv:Hid (Jt wr A i c ds):=AP (AT2.out.Aj HCJ.out (λk hk hm=>by
   simp only[CJ] at hm
   have:=HAB.out k hk;omega))
  clear f1;(go_wp2_with (at_builtin;refine EW rfl _ _ rfl Qi rfl (AOv.out.row.Aj ((AZ.refl [] wr).alloc (.cells #[.string p.1,.slice B j d] 77)) Ew) rfl (Own.lit wr 77 2 #[.string p.1,.slice B j d] 1 Ar rfl).rd (VC [⟨p.1,B,j,d⟩]) OH Aa ?_;intro A2 c2 w7 AKz AK0 AK1 _;have HO7:=AP AKz;have MX:=AP AK0;have HN7:=AP AK1;clear AKz AK0 AK1));go_roundw
  case rel=>
   have AK2:AZ [] wr (wr.alloc (.cells #[.string p.1,.slice B j d] 77)):=(AZ.refl [] wr).alloc _;have hsz1:=Ff.out.size;have hsz2:=DX.out.size;have hsz3:=Ql.out.size;have AT6:=HCJ.out.size;have hlw:=HLW.out;have hfl:=kQ.out.lt
   have um: ∀k∈bo B++Gg fs,k∉bo A:=λk hk hm=>by
    have h1:=HNJ.out k hk;have h2:=HAB.out k (F7 _ hm);omega
   have AT7:Jt w7 A2 (i+1) c2 (ds++[(⟨p.1,B,j,d⟩,fs)]):=by
    refine (AOv.out.Aj AK2 Ew).snoc MX.out ?_ ((kQ.out.Aj AK2 Ew).Aj MX.out um) (λk hk hm=>?_)
    ·have:=HO7.out;unfold EP at this⊢;rw[Ey,OB];exact this
    have h1:=HNJ.out k hk;have h2:=HAB.out k (Hg _ hm);omega
   refine⟨i+1,A2,c2,ds++[(⟨p.1,B,j,d⟩,fs)],Aa,by go_num,rfl,AT7,?_,?_,?_⟩;rw[ACy,ACx HP.out,Xu.out,HFV.out,show p.2.take j=p.2 from Ep (by rw[Z5.out];exact Bc _)];exact ((((DX.out.Ah Ql.out).Ah MW.out).trans HCJ.out (λx hx=>by simp only[CJ] at hx;subst hx;right;have:=HDB.out;omega)).Ah AK2).trans MX.out (λx hx=>.inr (PG.out x (F7 _ hx)).2);intro k hk;rw[Zv] at hk;rcases Bd.1 hk with hk|hk
   ·rcases HN7.out k hk with h|h;exact PG.out k (F7 _ h);simp at h;omega
   rcases Bd.1 hk with hk|hk;exact PG.out k (Hg _ hk);have h1:=HNJ.out k hk;omega
  simp[intOf];omega
 (obtain rfl:i=TN:=by omega);go_wp2;go_ret;refine⟨A,i,c,ds,rfl,uo.out,?_,Ff.out.Ah DX.out,λk hk=>(PG.out k hk).1⟩;rw[Xu.out,Ep Aa]
section
variable {B i km x:Nat}{S:St}{w:AL}
theorem AFW{G:Bi}(h:EH w G S)(hi:Inv B S)(hB:B<=1073741824)(hil:i<S.files.length):
  Au Ag 62 #[.pointer (AA ⟨EG G.ib i,0,AB⟩)] w (Lu 5 1 w (bv (S.bytes i)) (S.bytes i).length):=by
 obtain⟨g,L,_,hbx,hs,_⟩:=h.dL hil;have c0:=hbx.cell 0;simp at c0;have HS:=AP hs;have HL:=AP (show _<=1073741824 from CY (hi.Eb i).1 hB);clear h hi hbx hs;have k63:= @ATN;go_enter ANx,Tryz.ntmps62;(go_wp2_with fail);refine (AHl g L _ _ w HS.out HL.out (S.bytes i).length rfl).mono ?_;rintro e w2 ⟨A,c,rfl,ho,hc2,hn⟩;have HO:=AP ho;have HC2:=AP hc2;have HN:=AP hn;clear ho hc2 hn;go_wp2;go_ret;exact⟨A,c,rfl,HO.out,HC2.out,HN.out⟩
theorem AC0(h:S.down=false):S.view=shows S.bytes S.seen:=by
 unfold St.view shows;rw[BM (by simp[h])]
theorem qi{G:Bi}(h:EH w G S)(hi:Inv B S)(hB:B<=1073741824):
  Au Ag 20 #[.pointer (AA ⟨G.b,0,AB⟩)] w (dD w S.view):=by
 have HF:=AP h;have HI:=AP hi;have HB:=AP hB;clear h hi hB;have k55:= @AOR;have k61:= @AKP;go_enter ANV,Tryz.ntmps20;(go_wp2_with fail);refine (ACp HF.out).mono ?_;rintro e w1 ⟨rfl,hc1⟩;have CZ:=AP hc1
 cases hd:S.down with
 |true=>
  have HR:Hid (S.view=[]):=AP (by unfold St.view;rw[BZ hd]);clear hc1 hd;go_wp2;go_ret;rw[HR.out];exact⟨AB,0,0,[],rfl,⟨Own.nil _ _ _,AV,by simp[Ou]⟩,rfl,CZ.out,by simp[Ou]⟩
 |false=>
  have HR:=AP (AC0 hd);have Gf:=AP (HF.out.CX hc1);have h0:=Gf.out.blk.cell 0;simp at h0;clear hc1 hd;(go_wp2_with fail);refine (xQ 62 #[] @ATM w1 G.t1 G.g1 G.ib S.seen S.files.length S.bytes Gf.out.Fg Gf.out.MB HI.out.val (CY HI.out.wd HB.out) (λi hil wr hc=>AFW (Gf.out.CX hc) HI.out HB.out hil)).mono ?_;rintro e w2 ⟨A,n,c,ds,rfl,hds,hv,hc2,hn⟩;have uo:=AP hds;have HV:=AP hv;have HC2:=AP hc2;have HN:=AP hn;clear hds hv hc2 hn;go_wp2;go_ret;exact⟨A,n,c,ds,rfl,uo.out,by rw[HV.out,HR.out],CZ.out.Ah HC2.out,λk hk=>CY CZ.out.size (HN.out k hk)⟩
theorem AAn{y:Nat}(hx:Ox w x)(hy:Ox w y):(Op.equal 121 (pv x) (pv y)).run Ag w=.ok (decide (x=y)) w:=by
 have h:=qR hx hy;simp only[binOp,Et] at h
 cases hr:(Op.equal 121 (pv x) (pv y)).run Ag w with
 |ok b w'=>
  unfold pv at hr;rw[hr] at h;simp only[O6,Sem.run_pure,Result.ok.injEq,Value.bool.injEq] at h;rw[h.1,h.2]
 |_=>unfold pv at hr;rw[hr] at h;cases h
theorem ZK{w:AL}{x:Nat}(hx:Ox w x): ∀(es:List MapEntry) (ks:List Nat) (i:Nat),es.map (·.key)=ks.map pv->(∀k∈ks,Ox w k)->
  (uA 121 (pv x) es i).run Ag w=.ok ((ks.idxOf? x).bind λj=>(es[j]?).map λe=>(i+j,e.val)) w
 | [],[],i,_,_=>by simp[uA]| [],k'::ks,i,he,_=>by simp at he|e::es,[],i,he,_=>by simp at he
 |e::es,k'::ks,i,he,hb=>by
  simp only[BN,Ib] at he;unfold uA;rw[he.1];simp only[Et,AAn hx (hb k' AV),O6];by_cases hk:x=k'
  ·subst hk;rw[RN,beq_self_eq_true];simp
  simp only[hk,decide_false];have ih:=ZK hx es ks (i+1) he.2 (λk hk=>hb k (CO _ hk));rw[RN];(have:(k'==x)=false:=by simp;exact λe=>hk e.symm);rw[this];simp only[DF,if_false];rw[ih]
  cases ks.idxOf? x with|none=>rfl|some j=>simp[VM,mX 1 j]
theorem Z7{ks:List Nat}(hx:Ox w x)(hks: ∀k∈ks,Ox w k):AAP Ag 121 pv w x ks where
 find:=λes he=>by
  unfold Instr.findKey;simp only[Et,IQ AAN,O6]
  cases es with
  |nil=>
   cases ks with|nil=>simp[Uu]|cons k r=>simp at he
  |cons e es=>
   cases ks with
   |nil=>simp at he|cons k r=>
    have hk:e.key=pv k:=by simp only[BN,Ib] at he;exact he.1
    have hn:Uu (.pointer 126) (pv x) (e::es) 0=AB:=by
     unfold Uu;rw[hk];simp[Instr.sameNow]
    rw[hn];have:=ZK hx (e::es) (k::r) 0 he hks;simp only[Na] at this;exact this
 check:=λe=>by
  show (Ut e (9999+1) 121 (pv x)).run Ag w=_;unfold Ut;simp[IQ AAN,pv]
 bits:=by simp[Instr.sameBits,pv]
structure KZ where
 A:Option Af
 n:Nat
 c:Nat
 bs:List Bool
def KZ.v (r:KZ):AQ:=.slice r.A r.n r.c
def KZ.nil:KZ:=⟨AB,0,0,[]⟩
abbrev KG:=List (Nat×KZ)
def kgv (kg:KG):List (Nat×AQ):=kg.map λp=>(p.1,p.2.v)
def RI (kg:KG):List Nat:=kg.flatMap λp=>bo p.2.A
def iC (kg:KG) (x:Nat):List Bool:=((BK kg x).getD KZ.nil).bs
structure PH (w:AL) (km:Nat) (kg:KG):Prop where
 top:Mp w km pv (kgv kg)
 row: ∀p∈kg,Own w 4 1 p.2.A p.2.n p.2.c (kv p.2.bs)
 isb: ∀p∈kg,Ox w p.1
 sep:(RI kg).Nodup
theorem VI(kg:KG):(kgv kg).map Ac=kg.map Ac:=by unfold kgv;rw[Eo];rfl
theorem AH2(kg:KG)(x:Nat):(BK (kgv kg) x).getD (.slice AB 0 0)=((BK kg x).getD KZ.nil).v:=by
 unfold kgv;rw[gY (λr:KZ=>r.v)];cases BK kg x<;>rfl
theorem PH.get{kg:KG}(h:PH w km kg)(x:Nat):Own w 4 1 ((BK kg x).getD KZ.nil).A ((BK kg x).getD KZ.nil).n ((BK kg x).getD KZ.nil).c (kv (iC kg x)):=by
 unfold iC
 cases hx:BK kg x with|none=>exact Own.nil _ _ _|some r=>exact h.row _ (CQ hx)
theorem PH.Aj{w w':AL}{km:Nat}{kg:KG}{L:List Nat}(h:PH w km kg)(hc:AZ L w w')(h1:km∉L)(h2: ∀k∈RI kg,k∉L)(h3: ∀p∈kg,p.1∉L):PH w' km kg:=
 ⟨h.top.Aj hc h1,λp hp=>(h.row p hp).Aj hc (λk hk=>h2 k (Es.2 ⟨p,hp,hk⟩)),λp hp=>(h.isb p hp).Aj hc (h3 p hp),h.sep⟩
theorem PH.GH{w':AL}{kg:KG}(h:PH w km kg)(hc:AZ [] w w'):PH w' km kg:=h.Aj hc BH Ew Ew
theorem PH.look{kg:KG}(h:PH w km kg)(hx:Ox w x):(P7 120 (.map (AA km)) (pv x) false).run Ag w=.ok (((BK kg x).getD KZ.nil).v) w:=by
 have:=Mp.wX h.top (t:=120) x (Z7 hx (λk hk=>by
  rw[VI] at hk;obtain⟨p,hp,rfl⟩:=Bv.1 hk
  exact h.isb p hp)) AE7 (z:=.slice AB 0 0) Aq
 rw[AH2] at this;exact this.1
theorem AH3{G:Bi}(h:EH w G S)(hi:Inv B S)(hB:B<=1073741824)(hil:i<S.files.length)(kc km:Nat)(kg:KG)(hk:w.cell? ⟨kc,0,AB⟩=AA (.map (AA km)))(hm:PH w km kg)(hkl:(iC kg (EG G.ib i)).length<=1073741824)(ks:List Bool)(hks:iC kg (EG G.ib i)=ks):
  Au Ag 56 #[.pointer (AA ⟨EG G.ib i,0,AB⟩),.pointer (AA ⟨kc,0,AB⟩)] w (Lu 5 1 w (bv (Ph (S.files.getD i ([],[])).1 (S.files.getD i ([],[])).1.length (S.files.getD i ([],[])).2 ks)) (Ph (S.files.getD i ([],[])).1 (S.files.getD i ([],[])).1.length (S.files.getD i ([],[])).2 ks).length):=by
 subst hks;obtain⟨g,L,_,hbx,hs,_⟩:=h.dL hil;have c0:=hbx.cell 0;simp at c0;have HS:=AP hs;have hL:=(show _<=1073741824 from CY (hi.Eb i).1 hB);have hL2:=(show _<=1073741824 from CY (hi.Eb i).2 hB);clear HS;generalize S.files.getD i ([],[])=f at hs hL hL2⊢;have HS:=AP hs;have HL:=AP hL;have HL2:=AP hL2;have hlk:=(hm.GH (AZ.refl [] w).drew).look (Ox.Aj ⟨_,_,hbx⟩ (AZ.refl [] w).drew BH);unfold pv KZ.v at hlk;have HM:=AP hm;have HKL:=AP hkl;clear h hi hbx hs hm hkl hL hL2 hil;have k57:= @ATK;go_enter ANt,Tryz.ntmps56;go_wp2
 go_still_tail 7,Aq
 (go_wp2_with fail);refine (AFE g L _ _ _ _ _ _ _ (HS.out.Aj (AZ.refl [] w).drew Ew) HL.out HL2.out (by have h1:=(HM.out.get (EG G.ib i)).1;have h2:=HKL.out;simp at h1;omega) ((HM.out.get (EG G.ib i)).rd.Aj (AZ.refl [] w).drew Ew) _ rfl).mono ?_;rintro e w2 ⟨A,c,rfl,ho,hc2,hn⟩;have HO:=AP ho;have HC2:Hid (AZ [] w w2):=AP ((AZ.refl [] w).drew.Ah hc2);have HN:=AP hn;clear ho hc2 hn;go_wp2;go_ret;exact⟨A,c,rfl,HO.out,HC2.out,HN.out⟩
end
section
variable {kg:KG}{ws:List Nat}{x:Nat}{w:AL}
def AAo (names:Int) (n:Nat):Nat:=min names.toNat n
theorem xR:Ety Ag 28 4 1 1 (.bool false):=.mk' ATj Aq rfl Ar
theorem Z8(hn:(kg.map Ac).Nodup)(x:Nat):(RI kg).Perm (bo ((BK kg x).getD KZ.nil).A++RI (without kg x)):=by
 cases hx:BK kg x with
 |none=>rw[JJ (Eh.1 hx)];exact OV _|some r=>
  have h:=Vo hn x r;rw[Vs hx] at h;exact h.flatMap_right _
theorem Z9(hn:(kg.map Ac).Nodup)(x:Nat)(r:KZ):(RI (Dq kg x r)).Perm (bo r.A++RI (without kg x)):=(Vo hn x r).flatMap_right _
theorem AH4(kg:KG)(x:Nat)(r:KZ):Dq (kgv kg) x r.v=kgv (Dq kg x r):=Yc (λr:KZ=>r.v) kg x r
theorem PH.lt{w:AL}{km:Nat}{kg:KG}(h:PH w km kg): ∀k∈RI kg,k<w.heap.size:=by
 intro k hk;obtain⟨p,hp,hk⟩:=Es.1 hk;exact (h.row p hp).lt k hk
theorem PH.put{w':AL}{km:Nat}{r2:KZ}(h:PH w km kg)(hc:AZ (km::bo ((BK kg x).getD KZ.nil).A) w w')(ht:Mp w' km pv (Dq (kgv kg) x r2.v))(ho:Own w' 4 1 r2.A r2.n r2.c (kv r2.bs))
  (hA: ∀k∈bo r2.A,k∈bo ((BK kg x).getD KZ.nil).A\/w.heap.size<=k) (hx:Ox w' x) (hi: ∀p∈kg,Ox w' p.1) (kR:km∉RI kg):PH w' km (Dq kg x r2):=by
 (have hn:(kg.map Ac).Nodup:=by rw[<- VI];exact h.top.nodup);have hp:=Z8 hn x;have hnd:=QD.1 (hp.nodup_iff.1 h.sep);refine⟨by rw[<- AH4];exact ht,λp hpm=>?_,λp hpm=>?_,?_⟩
 ·rcases (J8 hn).1 hpm with rfl|⟨hpm,hpx⟩;exact ho;refine (h.row p hpm).Aj hc (λk hk hm=>?_);have hkw:k∈RI (without kg x):=Es.2 ⟨p,by unfold without;simp[hpm,hpx],hk⟩;rcases BD.1 hm with rfl|hm;exact kR (hp.mem_iff.2 (Hg _ hkw));exact hnd.2.2 k hm k hkw rfl
 ·rcases (J8 hn).1 hpm with rfl|⟨hpm,_⟩;exact hx;exact hi p hpm
 refine (Z9 hn x r2).nodup_iff.2 (QD.2 ⟨gX _,hnd.2.1,λa ha b hb=>?_⟩);rintro rfl;rcases hA a ha with h1|h1;exact hnd.2.2 a h1 a hb rfl;have:=h.lt a (hp.mem_iff.2 (Hg _ hb));omega
theorem xU(hn:(kg.map Ac).Nodup)(x y:Nat)(r:KZ):iC (Dq kg x r) y=if x=y then r.bs else iC kg y:=by
 unfold iC;rw[S9 hn];by_cases h:x=y<;>simp[h]
def kI (ws:List Nat) (ks:List Bool) (j x:Nat):List Bool:=(((ws.take j).zipIdx).filter λp=>p.1==x).map λp=>(ks[p.2]?).getD false
theorem AGm(ws:List Nat)(ks:List Bool)(j x:Nat):(kI ws ks j x).length<=j:=by
 unfold kI;rw[DY];refine CY (aW _ _) ?_;rw[List.length_zipIdx,Ht];omega
theorem AC1{ks:List Bool}{j y:Nat}(h:ws[j]? =AA y)(x:Nat):kI ws ks (j+1) x=kI ws ks j x++(if y=x then [(ks[j]?).getD false] else []):=by
 unfold kI;have hl:=(CP.1 h).1;rw[take_snoc _ _ _ h,List.zipIdx_append,aZ,Ey];congr 1;rw[Ht,Jm Aa];by_cases hy:y=x<;>simp[hy]
theorem AMv{ib:List Nat}{m:Nat}(hn:ib.Nodup)(hl:ib.length=m)(hw: ∀y∈ws,y<m)(ks:List Bool)(hx:x<m):kI (ws.map (EG ib)) ks ws.length (EG ib x)=(ws.zipIdx.filter λp=>p.1==x).map λp=>(ks[p.2]?).getD false:=by
 unfold kI;rw[Ep AV,List.zipIdx_map,lJ,Eo]
 have:(ws.zipIdx.filter ((λp:Nat×Nat=>p.1==EG ib x)∘Prod.map (EG ib) id))=ws.zipIdx.filter λp=>p.1==x:=by
  refine lG λp hp=>?_;have hpw:=hw p.1 (List.fst_mem_of_mem_zipIdx hp);simp only[Function.comp,Prod.map]
  have:(EG ib p.1=EG ib x)↔p.1=x:=⟨λe=>by
   unfold EG at e;rw[Gj,Gj,CB Aa,CB Aa] at e
   exact (List.getElem_inj hn).1 e,λe=>by rw[e]⟩
  by_cases h:p.1=x;rw[h];simp;have h2: ¬EG ib p.1=EG ib x:=λe=>h (this.1 e);exact (beq_eq_false_iff_ne.2 h2).trans (beq_eq_false_iff_ne.2 h).symm
 rw[this];rfl
theorem AC2{G:Bi}{S:St}{B:Nat}(h:EH w G S)(hi:Inv B S)(hB:B<=1073741824)(Ka:Option Af)(kn kc:Nat)(ks:List Bool)(names:Int)(hKr:Rd w 1 Ka kn kc (kv ks))(hkn:kn<=1073741824):
  Au Ag 16 #[.pointer (AA ⟨G.b,0,AB⟩),.agg #[.slice Ka kn kc,.int .i64 names]] w (dD w (S.left ks names)):=by
 have HF:=AP h;have HI:=AP hi;have HB:=AP hB;have HK:=AP hKr;(have n1:S.ED.length<=1073741824:=by have:=hi.wds;omega);clear h hi hB hKr;have k54:= @AKO;have k55:= @AOR;go_enter ANQ,Tryz.ntmps16;have hbf:=Bl.new w 30 #[.slice Ka kn kc,.int .i64 names];have hcf:AZ [] w (w.alloc (.cells #[.slice Ka kn kc,.int .i64 names] 30)):=(AZ.refl [] w).alloc _;have h1:=(HF.out.CX hcf).blk.cell 1;simp only[GG] at h1;(go_wp2_with fail);obtain⟨fb,hfb⟩: ∃fb,w.heap.size=fb:=⟨_,rfl⟩;obtain⟨W,hW⟩: ∃W,w.alloc (.cells #[.slice Ka kn kc,.int .i64 names] 30)=W:=⟨_,rfl⟩;rw[hfb,hW] at hbf;rw[hW] at hcf;rw[hfb];have hFl:G.g2=G.g2:=rfl;refine (Xp _ G.t2 G.g2 (HF.out.CX ((AZ.refl [] w).alloc _)).tr2).mono ?_;rintro e w1 ⟨ob,g0,rfl,htr,hnew,hc1,hcp⟩;rw[hW] at hc1 hnew;have CZ:Hid (AZ [] w w1):=AP (hcf.Ah hc1);have HFB:=AP (hbf.Aj hc1 BH);have Gf:=AP (HF.out.CX CZ.out);have kM:=AP htr;have PG:Hid (∀x∈Ea ob g0,w.heap.size<=x):=AP (λx hx=>CY hcf.size (hnew x hx));have gu:=AP hcp;have AC3:Hid (w.heap.size<=fb/\fb<W.heap.size/\∀x∈Ea ob g0,fb<x):=AP ⟨Aa,hbf.lt,λx hx=>by have:=hnew x hx;have:=hbf.lt;omega⟩;have c2:=Gf.out.blk.cell 2;have c3:=Gf.out.blk.cell 3;have d0:=HFB.out.cell 0;have d1:=HFB.out.cell 1;simp only[GG] at c2 c3 d0 d1;clear hbf hcf h1 hW hfb htr hnew hc1 hcp hFl;obtain⟨kN,hkN⟩: ∃kN,AAo names S.ED.length=kN:=⟨_,rfl⟩;(have hmin:min (max names 0) (S.ED.length:Int)=(kN:Int):=by rw[<- hkN];unfold AAo;omega);(have hkl:kN<=S.ED.length:=by rw[<- hkN];unfold AAo;omega);have hkc:kN<=G.c:=CY hkl HF.out.own.rd.2.1;have HKN:=AP hkN;clear hkN;(go_wp2_with fail);refine FU (S:=λw'=>AZ [] w1 w') Aq ((AZ.refl _ _).drew) (λhHeld=>?_);refine tk 0 ?_;refine tk 1 ?_;refine tk 2 ?_;refine Gh 3 (λw' hSw=>hSw.cell c2 BH) ?_;refine tk 4 ?_;refine Gh 5 (λw' hSw=>hSw.cell d1 BH) ?_;refine tk 7 ?_;refine tk 8 ?_;refine tk 9 ?_;refine Gh 10 (λw' hSw=>hSw.cell c2 BH) ?_;refine tk 11 ?_;refine tk 15 ?_;refine Em 6 λK hK=>?_;go_simp;refine hK.out _ _ (hHeld) (λhHeld=>?_);(try simp only[BJ,Bh]);clear hK K;refine Em 12 λK hK=>?_;go_simp;refine hK.out _ _ (hHeld) (λhHeld=>?_);(try simp only[BJ,Bh]);clear hK K;refine tk 13 ?_;refine tk 14 ?_;refine Eu Aq ?_ _;(try simp only[BJ,Bh]);have HD0:Hid (AZ [] w w1.drew):=AP (CZ.out.drew);clear hHeld hmin hkc d1;go_wp2;go_loopw [7,31] (λ_ q wr=>∃(i:Nat) (g':NM),i<=kN/\q=.int .i64 i/\Tree wr ob g'/\D8 G.ib g' (IC S.safe (S.ED.take i))/\(∀x∈Ea ob g',fb<x)/\AZ [] w wr/\Bl wr fb 30 #[.slice Ka kn kc,.int .i64 names]) (λ_ q _=>kN - (intOf q).toNat)
 case atStart=>exact⟨0,g0,Dn _,rfl,kM.out.keep (AZ.refl [] w1).drew Ew,HF.out.is2.copied gu.out,AC3.out.2.2,HD0.out,HFB.out.drew⟩
 obtain⟨i,g',hiN,rfl,ht,hti,htn,hch,AOw⟩:=hrel;have HT:=AP ht;have HTI:=AP hti;have HTN:=AP htn;have DX:=AP hch;have AC4:=AP AOw;clear ht hti htn hch AOw;by_cases hlt:i<kN
 ·(have hlt':(i:Int)<kN:=by omega);obtain⟨c,hci⟩: ∃c,S.ED[i]? =AA c:=⟨_,CB Aa⟩;obtain⟨ad,v,hA,hvi,hcell⟩:=HF.out.own.rd.gU (k:=i) Aa;have hcell0:=DX.out.cell hcell BH;have hv:=(HF.out.chn i c v hci hvi).keep DX.out Ew (λ_ h=>h) (λ_ _=>rfl) (Bc _);have hok:=AMu HI.out.ED hci;have HOK:=AP hok;have HCI:=AP hci;have HVL:Hid (Val S.files.length (IC S.safe (S.ED.take i))):=AP (HI.out.safe.run (VD HI.out.ED i))
  rw[hA] at*
  clear hcell hvi hok hci;cases c
  case' Cc d=>
   obtain⟨k,rfl,hkK,hk⟩:=hv;(go_wp2_with fail);refine (xC HT.out HTI.out HOK.out.2 hk).mono ?_
  case' create d n j=>
   obtain⟨x,k,j2,rfl,hxK,hkK,hjK,hx,hk,hj,hjl⟩:=hv;(go_wp2_with fail);refine (qJ HT.out HTI.out HVL.out HOK.out hx hk hj).mono ?_
  case' rename d n=>
   obtain⟨k,j,rfl,hkK,hjK,hk,hj⟩:=hv;(go_wp2_with fail);refine (qL HT.out HTI.out HOK.out hk hj (λe=>by have h1:=HF.out.lay.lt G.K (Bq (i:=5) rfl) k hkK;have h2:=HTN.out ob (by simp[Ea]);have h3:=AC3.out.1;omega) (λe=>by have h1:=HF.out.lay.lt G.K (Bq (i:=5) rfl) j hjK;have h2:=HTN.out ob (by simp[Ea]);have h3:=AC3.out.1;omega)).mono ?_
  case' remove d n=>
   obtain⟨k,j,rfl,hkK,hjK,hk,hj⟩:=hv;(go_wp2_with fail);refine (qK HT.out HTI.out HVL.out HOK.out hk hj).mono ?_
  case' rmdir d=>
   obtain⟨k,rfl,hkK,hk⟩:=hv;(go_wp2_with fail);refine (xE HT.out HTI.out hk).mono ?_
  all_goals
   rintro ee w4 ⟨rfl,⟨g2,ht2,hi2,hsub2⟩,Xx⟩;have HT2:=AP ht2;have HI2:=AP hi2;have HS2:=AP hsub2;have HC2:=AP Xx;clear ht2 hi2 hsub2 Xx;go_wp2;go_roundw
   case rel=>
    have hfl:=AC4.out.lt;refine⟨i+1,g2,Aa,by go_num,HT2.out,by rw[take_snoc _ _ _ HCI.out,TC];exact HI2.out,λx hx=>?_,DX.out.trans HC2.out (λx hx=>.inr (by have:=HTN.out x hx;have:=AC3.out.1;omega)),AC4.out.Aj HC2.out (λhm=>by have:=HTN.out fb hm;omega)⟩;rcases HS2.out x hx with h|h;exact HTN.out x h;omega
   simp[intOf];omega
 (obtain rfl:i=kN:=by omega);have hmm:= @run_makeMap Ag;have hw3:=HF.out.gq;obtain⟨km,kR⟩: ∃km,wr.heap.size=km:=⟨_,rfl⟩;obtain⟨W2,hW2⟩: ∃W2,(wr.alloc (.map #[] 0)).alloc (.cells #[.map (AA km)] 120)=W2:=⟨_,rfl⟩;(have hc2:AZ [] wr W2:=by rw[<- hW2];exact ((AZ.refl [] wr).alloc _).alloc _);have c3':=(HF.out.CX (DX.out.Ah hc2)).blk.cell 3;simp only[GG] at c3';have HC2:=AP hc2;have HKM:Hid (PH W2 km []):=AP ⟨by rw[<- hW2,<- kR];exact (Mp.made wr pv).Aj ((AZ.refl [] _).alloc _) BH,AV,AV,by simp[RI]⟩
 have HKB:Hid (Bl W2 (km+1) 120 #[.map (AA km)]):=AP (by
  rw[<- hW2];have:=Bl.new (wr.alloc (.map #[] 0)) 120 #[.map (AA km)]
  simpa[kR] using this)
 have Qz:Hid (W2.heap.size=km+2/\wr.heap.size=km):=AP ⟨by rw[<- hW2];simp[kR],kR⟩;(have hnw:S.wr.length<=1073741824:=by have:=HI.out.nw;have:=HB.out;omega);clear hc2 hw3;go_wp2;have HF2:=AP (HF.out.CX (DX.out.Ah HC2.out));have HT3:=AP (HT.out.keep HC2.out Ew);have AT8:=AP (AC4.out.Aj HC2.out BH);have Ql:Hid (AZ [] w W2):=AP (DX.out.Ah HC2.out);have HLT:Hid (∀x∈Ea ob g',x≠km):=AP (λx hx=>by have:=HT.out.lt x hx;have:=Qz.out;omega)
 have HIS:Hid (∀i,i<S.files.length->Ox W2 (EG G.ib i)/\EG G.ib i≠km):=AP (λi hi=>by
  obtain⟨gg,LL,_,hbb,_,_,hii⟩:=HF2.out.dL hi;refine⟨⟨_,_,hbb⟩,?_⟩;have h1:=HF.out.lay.lt G.K (Bq (i:=5) rfl) _ (HF.out.Wq _ (Bq hii));have h2:=DX.out.size;have h3:=Qz.out
  omega)
 clear hmm c3' hW2 kR;go_loopw [9,10,45] (λ_ _ q wr=>∃(j:Nat) (kg:KG),j<=S.wr.length/\q=.int .i64 j/\PH wr km kg/\(∀x,iC kg x=kI (S.wr.map (EG G.ib)) ks j x)/\AZ [km] W2 wr/\(∀k∈RI kg,W2.heap.size<=k)/\∀p∈kg,p.1∈S.wr.map (EG G.ib)) (λ_ _ q _=>S.wr.length - (intOf q).toNat)
 case atStart=>exact⟨0,[],Dn _,rfl,HKM.out,λx=>by simp[iC,kI,BK,KZ.nil],AZ.refl _ _,by simp[RI],AV⟩
 obtain⟨j,kg,hjn,rfl,hkg,hkI,AOx,AK3,AK4⟩:=hrel;have dO:=AP hkg;have HKI:=AP hkI;have kS:=AP AOx;have AC5:=AP AK3;have iD:=AP AK4;clear hkg hkI AOx AK3 AK4;by_cases hjl:j<S.wr.length
 ·(have AOq:(j:Int)<S.wr.length:=by omega);obtain⟨x0,hx0⟩: ∃x0,S.wr[j]? =AA x0:=⟨_,CB hjl⟩;have AOy:=HI.out.wr x0 (Bq hx0)
  have qg:Hid (∀p v,w.cell? p=AA v->wr.cell? p=AA v):=AP (λp v hp=>kS.out.cell (Ql.out.cell hp BH) (λhm=>by
   simp only[CJ] at hm;have h1:=UU w p hp;have h2:=DX.out.size;have h3:=Qz.out
   omega))
  obtain⟨bd,xx,hA2,hxx,hxc⟩:=AAm (xs:=S.wr.map (EG G.ib)) (by have:=HF.out.gq.rd;rw[Eo];exact this) hjl;have AT9:=qg.out _ _ hxc
  have hxe:xx=EG G.ib x0:=by
   rw[Bg,hx0] at hxx;exact (EI hxx).symm
  subst hxe
  rw[hA2] at*
  have HXX:=AP hxx;obtain⟨x,hxd⟩: ∃x,EG G.ib x0=x:=⟨_,rfl⟩;have AK5:=AP (HIS.out x0 AOy);rw[hxd] at AT9 HXX AK5;have HB3:Hid (Ox wr x):=AP (AK5.out.1.Aj kS.out (by simpa using AK5.out.2));obtain⟨r,hr⟩: ∃r,(BK kg x).getD KZ.nil=r:=⟨_,rfl⟩;obtain⟨rA,rn,rc,rb⟩:=r;have HR:=AP hr;have HOR:Hid (Own wr 4 1 rA rn rc (kv rb)):=AP (by have:=dO.out.get x;unfold iC at this;rw[hr] at this;exact this);have HRB:Hid (rb=kI (S.wr.map (EG G.ib)) ks j x):=AP (by rw[<- HKI.out x];unfold iC;rw[hr])
  have iE:Hid (∀k∈bo rA,W2.heap.size<=k):=AP (λk hk=>by
   cases ha:BK kg x with
   |none=>rw[ha] at hr;cases hr;simp at hk|some r0=>
    rw[ha] at hr;simp only[Dx] at hr;subst hr
    exact AC5.out k (Es.2 ⟨_,CQ ha,hk⟩))
  have hrn:rn<=1073741824:=by
   have h1:=HOR.out.1;simp only[DY,OT] at h1;have h2:=congrArg Ky HRB.out;have h3:=AGm (S.wr.map (EG G.ib)) ks j x;omega
  have e0:=AT8.out.Aj kS.out (by have:=Qz.out;have:=AC3.out;have:=AC4.out.lt;simp;omega);have f0:=e0.cell 0;have k0:=(HKB.out.Aj kS.out AV).cell 0
  have AK6:=AP (show fb∉km::bo rA by
   intro hm;have h2:=AC4.out.lt;have h3:=Qz.out;rcases BD.1 hm with h|h;omega
   have:=iE.out _ h;omega)
  have AGn:=AP (show km+1∉km::bo rA by
   intro hm;have h3:=Qz.out;rcases BD.1 hm with h|h;omega
   have:=iE.out _ h;omega)
  simp only[GG] at f0 k0;have hlk:=(dO.out.GH (AZ.refl [] wr).drew).look (HB3.out.Aj (AZ.refl [] wr).drew BH);rw[hr] at hlk;unfold KZ.v pv at hlk;simp only at hlk
  have AOz:Hid (∀bb,(P7 120 (.map (AA km)) (.pointer (AA ⟨x,0,AB⟩)) false).run Ag (wr.drew.alloc (.cells #[.bool bb] 4))=.ok (.slice rA rn rc) (wr.drew.alloc (.cells #[.bool bb] 4))):=AP (λbb=>by
   have hc:AZ [] wr (wr.drew.alloc (.cells #[.bool bb] 4)):=((AZ.refl [] wr).drew).alloc _;have:=(dO.out.GH hc).look (HB3.out.Aj hc BH);rw[HR.out] at this
   exact this)
  clear hx0 AOy hxc hxx hr e0 hxd
  have xW:Hid (∀y∈S.wr.map (EG G.ib),y<km):=AP (λy hy=>by
   obtain⟨i2,hi2,rfl⟩:=Bv.1 hy;obtain⟨gg,LL,_,hbb,_,_,hii⟩:=HF.out.dL (HI.out.wr i2 hi2);have h1:=HF.out.lay.lt G.K (Bq (i:=5) rfl) _ (HF.out.Wq _ (Bq hii));have h2:=DX.out.size;have h3:=Qz.out
   omega)
  by_cases hik:j<kn
  ·(have hjk:(j:Int)<kn:=by omega);obtain⟨ka,b,rfl,hkb,AK7⟩:=ACe HK.out hik;have AMw:=qg.out _ _ AK7;have HKB2:Hid ((ks[j]?).getD false=b):=AP (by rw[hkb];rfl)
   have AUA:Hid ((ka.add j).block∉km::bo rA):=AP (λhm=>by
    have h1:=UU w _ AK7;have h2:=DX.out.size;have h3:=Qz.out;rcases BD.1 hm with h|h;omega
    have:=iE.out _ h;omega)
   clear hkb AK7;have HOA:Hid (Own (wr.drew.alloc (.cells #[.bool b] 4)) 4 1 rA rn rc (kv rb)):=AP (HOR.out.Aj (((AZ.refl [] wr).drew).alloc _) Ew);have hlk2:(P7 120 (.map (AA km)) (.pointer (AA ⟨x,0,AB⟩)) false).run Ag ((wr.alloc (.cells #[.bool b] 4)).drew)=.ok (.slice rA rn rc) ((wr.alloc (.cells #[.bool b] 4)).drew):=AOz.out b;go_wp2;refine FU (S:=λw'=>AZ (km::bo rA) wr w') Aq ((AZ.refl _ _).drew) (λhHeld=>?_);refine Gh 0 (λw' hSw=>hSw.cell k0 AGn.out) ?_;refine tk 1 ?_;refine Gh 2 (λw' hSw=>hSw.cell k0 AGn.out) ?_;refine tk 3 ?_;refine tk 5 ?_;refine tk 6 ?_;refine Gh 7 (λw' hSw=>hSw.cell f0 AK6.out) ?_;refine tk 8 ?_;refine tk 9 ?_;refine tk 10 ?_;refine tk 11 ?_;refine Gh 12 (λw' hSw=>hSw.cell f0 AK6.out) ?_;refine tk 13 ?_;refine tk 14 ?_;refine Gh 15 (λw' hSw=>hSw.cell AMw AUA.out) ?_;refine tk 16 ?_;refine O7 (rs:=[4,17]) Aq AV ?_;refine Gp rfl (λK hK=>?a9) (Gp rfl (λK hK=>?b9) (O8))
   case' a9=>
    go_simp;refine hK.out _ _ (hHeld) (λhHeld=>?_);(try simp only[BJ,Bh]);clear hK K;refine Em 17 λK hK=>?_;go_simp;refine hK.out _ _ (hHeld.alloc _) (λhHeld=>?_)
   case' b9=>
    go_simp;refine hK.out _ _ (hHeld.alloc _) (λhHeld=>?_);(try simp only[BJ,Bh]);clear hK K;refine Em 4 λK hK=>?_;go_simp;refine hK.out _ _ (hHeld) (λhHeld=>?_)
   all_goals
    (try simp only[BJ,Bh]);clear hK K;refine Em 18 λK hK=>?_;refine Jb rfl _ _ rfl xR rfl HOA.out rfl (Own.lit wr.drew 4 1 #[.bool b] 1 Ar rfl).rd (by simp[Kz]) OH Aa ?_;intro A2 c2 w6 hown6 IP LZ _;have Jh:Hid (AZ (bo rA) wr w6):=AP ((((AZ.refl [] wr).drew.alloc (.cells #[.bool b] 4)).nil (bo rA)).trans IP (λx hx=>.inl hx));have HLR:Hid (∀y∈S.wr.map (EG G.ib),y∉bo rA):=AP (λy hy hm=>by have h1:=xW.out y hy;have h2:=iE.out y hm;have h3:=Qz.out;omega);have kT:Hid (Ox w6 x/\∀p∈kg,Ox w6 p.1):=AP ⟨HB3.out.Aj Jh.out (HLR.out x (Bq HXX.out)),λp hp=>(dO.out.isb p hp).Aj Jh.out (HLR.out p.1 (iD.out p hp))⟩;obtain⟨w7,hu,AC6,Xy⟩:=Mp.gV (dO.out.top.Aj Jh.out (λhm=>by have h1:=iE.out _ hm;have h2:=Qz.out;omega)) (t:=120) x (Z7 kT.out.1 (λk hk=>by rw[VI] at hk;obtain⟨p,hp,rfl⟩:=Bv.1 hk;exact kT.out.2 p hp)) AE7 (.slice A2 (rn+1) c2);unfold pv at hu;have qh:=AP hown6;have Xv:=AP LZ;have HM7:=AP AC6;have MX:=AP Xy;have hH6:=hHeld.trans IP (λx hx=>.inl (CO _ hx));have hH7:=hH6.trans Xy (λx hx=>.inl (by simp only[CJ] at hx;subst hx;simp));clear hown6 IP LZ AC6 Xy;refine hK.out _ _ (hH6) (λhHeld=>?_);(try simp only[BJ,Bh]);clear hK K;refine Em 19 λK hK=>?_;go_simp;refine hK.out _ _ (hH7) (λhHeld=>?_);(try simp only[BJ,Bh]);clear hK K;refine Eu Aq ?_ _;(try simp only[BJ,Bh]);have AC7:Hid (AZ (km::bo rA) wr w7):=AP ((Jh.out.mono (λx hx=>.inl (CO _ hx))).trans MX.out (λx hx=>.inl (by simp only[CJ] at hx;subst hx;simp)));clear hHeld hH6 hH7 hu hlk hlk2 f0 k0;go_wp2;go_roundw
    case rel=>
     (have AK8:km∉RI kg:=λhm=>by have h1:=AC5.out km hm;have h2:=Qz.out;omega);have AUB:wr.heap.size<=w6.heap.size:=Jh.out.size
     have hput:=dO.out.put (x:=x) (r2:=⟨A2,rn+1,c2,rb++[b]⟩) (w':=w7) (by rw[HR.out];exact AC7.out) HM7.out (by
      have h1:=qh.out.Aj MX.out (λk hk hm=>by
       simp only[CJ] at hm;subst hm;rcases Xv.out _ hk with h|h;have h1:=iE.out _ h;have h2:=Qz.out;omega
       have h1:=dO.out.top.lt;simp at h;omega)
      simp only[Ey,BN,EJ]
      exact h1) (λk hk=>by rw[HR.out];rcases Xv.out k hk with h|h;exact .inl h;right;simp at h;omega) (kT.out.1.Aj MX.out (by have h1:=xW.out x (Bq HXX.out);simp;omega)) (λp hp=>(kT.out.2 p hp).Aj MX.out (by have h1:=xW.out p.1 (iD.out p hp);simp;omega)) AK8
     (have hn:(kg.map Ac).Nodup:=by rw[<- VI];exact dO.out.top.nodup);refine⟨j+1,Dq kg x ⟨A2,rn+1,c2,rb++[b]⟩,Aa,by go_num,hput,λy=>?_,?_,λk hk=>?_,λp hp=>?_⟩
     ·rw[xU hn,AC1 HXX.out,HKB2.out];by_cases hxy:x=y
      ·subst hxy;simp[HRB.out]
      simp[hxy,HKI.out y]
     ·refine kS.out.trans AC7.out (λk hk=>?_);rcases BD.1 hk with rfl|hk;left;simp;exact .inr (iE.out k hk)
     ·rcases Bd.1 ((Z9 hn x _).mem_iff.1 hk) with h|h
      ·rcases Xv.out k h with h|h;exact iE.out k h;have h1:=kS.out.size;simp at h;omega
      have:k∈RI kg:=(Z8 hn x).mem_iff.2 (Hg _ h);exact AC5.out k this
     rcases (J8 hn).1 hp with rfl|⟨hp,_⟩;exact Bq HXX.out;exact iD.out p hp
    simp[intOf];omega
  have hjk: ¬(j:Int)<kn:=by omega
  have HKB2:Hid ((ks[j]?).getD false=false):=AP (by
   have h1:=HK.out.1;simp only[DY,OT] at h1
   rw[IG Aa];rfl)
  have HOA:Hid (Own (wr.drew.alloc (.cells #[.bool false] 4)) 4 1 rA rn rc (kv rb)):=AP (HOR.out.Aj (((AZ.refl [] wr).drew).alloc _) Ew);have hlk2:(P7 120 (.map (AA km)) (.pointer (AA ⟨x,0,AB⟩)) false).run Ag ((wr.alloc (.cells #[.bool false] 4)).drew)=.ok (.slice rA rn rc) ((wr.alloc (.cells #[.bool false] 4)).drew):=AOz.out false;go_wp2;refine FU (S:=λw'=>AZ (km::bo rA) wr w') Aq ((AZ.refl _ _).drew) (λhHeld=>?_);refine Gh 0 (λw' hSw=>hSw.cell k0 AGn.out) ?_;refine tk 1 ?_;refine Gh 2 (λw' hSw=>hSw.cell k0 AGn.out) ?_;refine tk 3 ?_;refine tk 5 ?_;refine tk 6 ?_;refine Gh 7 (λw' hSw=>hSw.cell f0 AK6.out) ?_;refine tk 8 ?_;refine tk 9 ?_;refine tk 10 ?_;refine tk 11 ?_;refine tk 12 ?_;refine tk 13 ?_;refine tk 14 ?_;refine tk 15 ?_;refine tk 16 ?_;refine O7 (rs:=[4,17]) Aq AV ?_;refine Gp rfl (λK hK=>?a10) (Gp rfl (λK hK=>?b10) (O8))
  case' a10=>
   go_simp;refine hK.out _ _ (hHeld) (λhHeld=>?_);(try simp only[BJ,Bh]);clear hK K;refine Em 17 λK hK=>?_;go_simp;refine hK.out _ _ (hHeld.alloc _) (λhHeld=>?_)
  case' b10=>
   go_simp;refine hK.out _ _ (hHeld.alloc _) (λhHeld=>?_);(try simp only[BJ,Bh]);clear hK K;refine Em 4 λK hK=>?_;go_simp;refine hK.out _ _ (hHeld) (λhHeld=>?_)
  all_goals
   (try simp only[BJ,Bh]);clear hK K;refine Em 18 λK hK=>?_;refine Jb rfl _ _ rfl xR rfl HOA.out rfl (Own.lit wr.drew 4 1 #[.bool false] 1 Ar rfl).rd (by simp[Kz]) OH Aa ?_;intro A2 c2 w6 hown6 IP LZ _;have Jh:Hid (AZ (bo rA) wr w6):=AP ((((AZ.refl [] wr).drew.alloc (.cells #[.bool false] 4)).nil (bo rA)).trans IP (λx hx=>.inl hx));have HLR:Hid (∀y∈S.wr.map (EG G.ib),y∉bo rA):=AP (λy hy hm=>by have h1:=xW.out y hy;have h2:=iE.out y hm;have h3:=Qz.out;omega);have kT:Hid (Ox w6 x/\∀p∈kg,Ox w6 p.1):=AP ⟨HB3.out.Aj Jh.out (HLR.out x (Bq HXX.out)),λp hp=>(dO.out.isb p hp).Aj Jh.out (HLR.out p.1 (iD.out p hp))⟩;obtain⟨w7,hu,AC6,Xy⟩:=Mp.gV (dO.out.top.Aj Jh.out (λhm=>by have h1:=iE.out _ hm;have h2:=Qz.out;omega)) (t:=120) x (Z7 kT.out.1 (λk hk=>by rw[VI] at hk;obtain⟨p,hp,rfl⟩:=Bv.1 hk;exact kT.out.2 p hp)) AE7 (.slice A2 (rn+1) c2);unfold pv at hu;have qh:=AP hown6;have Xv:=AP LZ;have HM7:=AP AC6;have MX:=AP Xy;have hH6:=hHeld.trans IP (λx hx=>.inl (CO _ hx));have hH7:=hH6.trans Xy (λx hx=>.inl (by simp only[CJ] at hx;subst hx;simp));clear hown6 IP LZ AC6 Xy;refine hK.out _ _ (hH6) (λhHeld=>?_);(try simp only[BJ,Bh]);clear hK K;refine Em 19 λK hK=>?_;go_simp;refine hK.out _ _ (hH7) (λhHeld=>?_);(try simp only[BJ,Bh]);clear hK K;refine Eu Aq ?_ _;(try simp only[BJ,Bh]);have AC7:Hid (AZ (km::bo rA) wr w7):=AP ((Jh.out.mono (λx hx=>.inl (CO _ hx))).trans MX.out (λx hx=>.inl (by simp only[CJ] at hx;subst hx;simp)));clear hHeld hH6 hH7 hu hlk hlk2 f0 k0;go_wp2;go_roundw
   case rel=>
    (have AK8:km∉RI kg:=λhm=>by have h1:=AC5.out km hm;have h2:=Qz.out;omega);have AUB:wr.heap.size<=w6.heap.size:=Jh.out.size
    have hput:=dO.out.put (x:=x) (r2:=⟨A2,rn+1,c2,rb++[false]⟩) (w':=w7) (by rw[HR.out];exact AC7.out) HM7.out (by
     have h1:=qh.out.Aj MX.out (λk hk hm=>by
      simp only[CJ] at hm;subst hm;rcases Xv.out _ hk with h|h;have h1:=iE.out _ h;have h2:=Qz.out;omega
      have h1:=dO.out.top.lt;simp at h;omega)
     simp only[Ey,BN,EJ]
     exact h1) (λk hk=>by rw[HR.out];rcases Xv.out k hk with h|h;exact .inl h;right;simp at h;omega) (kT.out.1.Aj MX.out (by have h1:=xW.out x (Bq HXX.out);simp;omega)) (λp hp=>(kT.out.2 p hp).Aj MX.out (by have h1:=xW.out p.1 (iD.out p hp);simp;omega)) AK8
    (have hn:(kg.map Ac).Nodup:=by rw[<- VI];exact dO.out.top.nodup);refine⟨j+1,Dq kg x ⟨A2,rn+1,c2,rb++[false]⟩,Aa,by go_num,hput,λy=>?_,?_,λk hk=>?_,λp hp=>?_⟩
    ·rw[xU hn,AC1 HXX.out,HKB2.out];by_cases hxy:x=y
     ·subst hxy;simp[HRB.out]
     simp[hxy,HKI.out y]
    ·refine kS.out.trans AC7.out (λk hk=>?_);rcases BD.1 hk with rfl|hk;left;simp;exact .inr (iE.out k hk)
    ·rcases Bd.1 ((Z9 hn x _).mem_iff.1 hk) with h|h
     ·rcases Xv.out k h with h|h;exact iE.out k h;have h1:=kS.out.size;simp at h;omega
     have:k∈RI kg:=(Z8 hn x).mem_iff.2 (Hg _ h);exact AC5.out k this
    rcases (J8 hn).1 hp with rfl|⟨hp,_⟩;exact Bq HXX.out;exact iD.out p hp
   simp[intOf];omega
 (obtain rfl:j=S.wr.length:=by omega);have HKW:Hid (w.heap.size<=km):=AP (by have h1:=DX.out.size;have h2:=Qz.out;omega);have HCE:Hid (AZ [] w wr):=AP (Ql.out.trans kS.out (λx hx=>by simp only[CJ] at hx;subst hx;exact .inr HKW.out))
 have HFE:=AP (HF2.out.keep kS.out (λx hx hm=>by
  simp only[CJ] at hm;have h1:=HF.out.lt x hx;have h2:=HKW.out
  omega))
 have HKE:=AP (HKB.out.Aj kS.out AV);have HTE:=AP (HT3.out.keep kS.out (λx hx hm=>HLT.out x hx (by simpa using hm)));have HVE:Hid (Val S.files.length (IC S.safe (S.ED.take i))):=AP (HI.out.safe.run (VD HI.out.ED i))
 have HWE:Hid (wd (IC S.safe (S.ED.take i))<=1073741824):=AP (by
  have h1:=AAZ (VD HI.out.ED i);have h2:=HI.out.wds;have h3:=HB.out;rw[Ht] at h1
  omega)
 have AUC:Hid (∀x,x<S.files.length->iC kg (EG G.ib x)=S.keep ks x):=AP (λx hx=>by rw[HKI.out];exact AMv HF.out.Zy HF.out.Qx HI.out.wr ks hx)
 have HKL:Hid (∀x,x<S.files.length->(iC kg (EG G.ib x)).length<=1073741824):=AP (λx hx=>by
  rw[HKI.out]
  exact CY (AGm _ _ _ _) hnw)
 clear hjn;(go_wp2_with fail);refine (xQ 56 #[_] @ATJ wr ob g' G.ib (IC S.safe (S.ED.take i)) S.files.length (S.after ks) HTE.out HTI.out HVE.out HWE.out (λx hx wr2 hc2=>?_)).mono ?_
 ·have hce:=(HKE.out.Aj hc2 BH).cell 0;exact AH3 (HFE.out.CX hc2) HI.out HB.out hx (km+1) km kg (by simpa using hce) (dO.out.GH hc2) (HKL.out x hx) _ (AUC.out x hx)
 rintro e w9 ⟨A,n,c,ds,rfl,hds,hv,Y2,hn⟩;have uo:=AP hds;have HV:=AP hv;have kU:=AP Y2;have HN:=AP hn;clear hds hv Y2 hn;go_wp2;go_ret;refine⟨A,n,c,ds,rfl,uo.out,?_,HCE.out.Ah kU.out,λk hk=>CY HCE.out.size (HN.out k hk)⟩;rw[HV.out];unfold shows St.left
 have ht:S.ED.take i=S.ED.take names.toNat:=by
  rw[<- HKN.out];unfold AAo;rcases AD5 names.toNat S.ED.length with h|h;rw[Jm h];rw[Nat.min_eq_right h,yg,Ep h]
 rw[ht]
end
theorem Lay.ins{w w':AL}{Ps Qs:List (List Nat)}{P:List Nat}(h:Lay w (Ps++Qs))(hn: ∀x∈P,w.heap.size<=x)(hl: ∀x∈P,x<w'.heap.size)(hs:w.heap.size<=w'.heap.size):Lay w' (Ps++P::Qs):=by
 have hsep:=h.sep;unfold Sep at hsep;rw[aX] at hsep;obtain⟨s1,s2,s3⟩:=hsep;refine⟨?_,λQ hQ x hx=>?_⟩
 ·unfold Sep;rw[aX];refine⟨s1,KL.2 ⟨λQ hQ x hx hq=>?_,s2⟩,λA hA B hB x hx hb=>?_⟩
  ·have h1:=hn x hx;have h2:=h.lt Q (Hg _ hQ) x hq;omega
  rcases BD.1 hB with rfl|hB
  ·have h1:=hn x hb;have h2:=h.lt A (F7 _ hA) x hx;omega
  exact s3 A hA B hB x hx hb
 rcases Bd.1 hQ with hQ|hQ;exact EY (h.lt Q (F7 _ hQ) x hx) hs;rcases BD.1 hQ with rfl|hQ;exact hl x hx;exact EY (h.lt Q (Hg _ hQ) x hx) hs
theorem TJ{D:FI}{d:ByteArray×List (ByteArray×List Int)}(h:d∈D):d.2.length<=Fj D/\∀x∈d.2,x.2.length<=Fj D:=by
 unfold Fj
 induction D with
 |nil=>simp at h|cons y r ih=>
  simp only[BN,CE];rcases BD.1 h with rfl|h
  ·have h1:d.2.length<=(d.2.map λx=>x.2.length+1).sum/\∀x∈d.2,x.2.length<=(d.2.map λx=>x.2.length+1).sum:=by
    generalize d.2=l
    induction l with
    |nil=>simp|cons z l ih2=>
     simp only[EU,BN,CE,BD];refine⟨Aa,λx hx=>?_⟩;rcases hx with rfl|hx;omega;have:=ih2.2 x hx;omega
   exact⟨Aa,λx hx=>by have:=h1.2 x hx;omega⟩
  have h1:=ih h;exact⟨Aa,λx hx=>by have:=h1.2 x hx;omega⟩
def AAp (w:AL) (D:FI) (BG stop:Int) (e:FT) (w':AL):Prop:=
 (Di D BG≠0/\e=.returned (.tuple #[.pointer AB,.int .i64 (Di D BG)])/\AZ [] w w')\/
 (Di D BG=0/\∃G,e=.returned (.tuple #[.pointer (AA ⟨G.b,0,AB⟩),.int .i64 0])/\EH w' G (Ei D BG stop)/\(∀x∈G.all,w.heap.size<=x)/\AZ [] w w')
theorem qj(w:AL)(A:Option Af)(n c:Nat)(ds:List DM)(BG stop:Int)(h:FY w A n c ds)(hn:n<=1073741824)(hb:Fj (BF ds)<=1073741824):
  Au Ag 17 #[.slice A n c,.int .i64 BG,.int .i64 stop] w (AAp w (BF ds) BG stop):=by
 have HD:=AP h;have HB:=AP hb;have hmm:= @run_makeMap Ag;clear h hb;have k54:= @AKO;have k58:= @ATL;have k59:= @AOS;go_enter ANR,Tryz.ntmps17;by_cases hq:BG<0
 ·have HE:Hid (Di (BF ds) BG=2):=AP (by unfold Di;rw[BZ hq]);go_wp2
  go_ret2
  exact .inl ⟨by rw[HE.out];decide,by rw[HE.out];rfl,AZ.refl _ _⟩
 have HE:Hid (Di (BF ds) BG=GX true noS (BF ds)):=AP (by unfold Di;rw[BM hq]);obtain⟨t1,ht1⟩: ∃t1,w.heap.size=t1:=⟨_,rfl⟩;obtain⟨W,hW⟩: ∃W,(w.alloc (.map #[] 0)).alloc (.cells #[.map (AA t1),.map AB,.slice AB 0 0,.slice AB 0 0,.int .i64 BG,.int .i64 stop,.int .i64 0] 116)=W:=⟨_,rfl⟩;have hcW:AZ [] w W:=by rw[<- hW];exact ((AZ.refl [] w).alloc _).alloc _
 have hOp:kP W ⟨t1+1,t1,[],[],[],[]⟩ [] [] BG stop:=by
  have hbk:Bl W (t1+1) 116 #[.map (AA t1),.map AB,.slice AB 0 0,.slice AB 0 0,.int .i64 BG,.int .i64 stop,.int .i64 0]:=by
   rw[<- hW];have:=Bl.new (w.alloc (.map #[] 0)) 116 #[.map (AA t1),.map AB,.slice AB 0 0,.slice AB 0 0,.int .i64 BG,.int .i64 stop,.int .i64 0];simpa[ht1] using this
  have htr:Tree W t1 []:=⟨by rw[<- hW,<- ht1];exact (Mp.made w IZ).Aj ((AZ.refl [] _).alloc _) BH,AV,AV⟩;refine⟨hbk,htr,⟨λk=>rfl,λk d F hd=>by cases hd⟩,rfl,rfl,rfl,AV,AV,⟨?_,?_⟩⟩;simp[Rl.parts,Sep,Ea];intro P hP x hx;have h1:=hbk.lt;have h2:=htr.top.lt;simp only[Rl.parts,Ea,EJ,BD,lF,or_false] at hP;rcases hP with rfl|rfl|rfl;simp at hx;omega;simp at hx;omega;simp at hx
 have HOP:=AP hOp;have Ql:=AP hcW;have HT1:=AP ht1;clear hOp hcW;go_wp2
 go_loopw [9,10,11,12,13,26] (λs9 _ _ _ _ s26 wr=>∃(i:Nat) (g1:NM) (ib sg:List Nat) (Ls:List (List Nat)),i<=n/\s26=.int .i64 i/\s9=.string (FQ noS ((BF ds).take i))/\GX true noS ((BF ds).take i)=0/\
  kP wr ⟨t1+1,t1,g1,ib,sg,Ls⟩ (Gx 0 ((BF ds).take i)) (KH ((BF ds).take i)) BG stop/\(∀x∈(Rl.mk (t1+1) t1 g1 ib sg Ls).parts.flatten,w.heap.size<=x)/\AZ [] w wr) (λ_ _ _ _ _ s26 _=>n - (intOf s26).toNat)
 case atStart=>exact⟨0,[],[],[],[],Dn _,rfl,rfl,rfl,HOP.out,by have:=HT1.out;simp[Rl.parts,Ea];omega,Ql.out⟩
 obtain⟨i,g1,ib,sg,Ls,hin,rfl,rfl,hpre,hop,hnew,hch⟩:=hrel;have ZL:=AP hpre;have ZM:=AP hop;have PG:=AP hnew;have DX:=AP hch;clear hpre hop hnew hch HOP Ql;by_cases hlt:i<n
 ·(have hlt':(i:Int)<n:=by omega);obtain⟨d,hd⟩: ∃d,ds[i]? =AA d:=⟨_,CB (by have:=HD.out.row.MV;simp[EP] at this;omega)⟩;obtain⟨⟨Dz,dA,dn,dc⟩,GL⟩:=d;(have hdv:(BF ds)[i]? =AA (Dz,BB GL):=by unfold BF;rw[Bg,hd];rfl);obtain⟨ad,rfl,hat⟩:=(HD.out.GH DX.out).row.ns (j:=i) (x:=⟨Dz,dA,dn,dc⟩) (by unfold EP;rw[Bg,hd];rfl);have x0:=hat.c0;have x1:=hat.c1;have Xz:=AP hdv;have HDM:=AP (Bq hd);clear hd hdv hat;obtain⟨dv,AC8⟩: ∃dv,wr.heap.size=dv:=⟨_,rfl⟩;obtain⟨W1,hW1⟩: ∃W1,wr.alloc (.cells #[.string Dz,.slice dA dn dc] 77)=W1:=⟨_,rfl⟩;(have hv1:Bl W1 dv 77 #[.string Dz,.slice dA dn dc]:=by rw[<- hW1,<- AC8];exact Bl.new wr _ _);(have hc1:AZ [] wr W1:=by rw[<- hW1];exact (AZ.refl [] wr).alloc _);have v0:=hv1.cell 0;have v1:=hv1.cell 1;simp only[GG] at v0 v1;have HV1:=AP hv1;have CZ:=AP hc1;have AK9:=AP AC8;clear hv1 hc1;(go_wp2_with fail);(have hb0:(((i:Int))==0)=(i==0):=by cases i<;>rfl);rw[hb0];refine (dE (i==0) (FQ noS ((BF ds).take i)) Dz W1).mono ?_;rintro e w2 ⟨rfl,rfl⟩;obtain⟨E,hE⟩: ∃E,Gq (i==0) (FQ noS ((BF ds).take i)) Dz=E:=⟨_,rfl⟩;rw[hE];have HEE:=AP hE;clear hE hb0;by_cases hE0:E=0
  ·subst hE0;have ARz:Hid (Dz∉((BF ds).take i).map Ac):=AP (AKy Xz.out ZL.out HEE.out);have AGo:=AP (ZM.out.CX CZ.out);have b0:=AGo.out.blk.cell 0;simp only[GG] at b0;obtain⟨fb,hfb⟩: ∃fb,w2.heap.size=fb:=⟨_,rfl⟩;have AUD:=AP hfb;have hcA:AZ [] w2 ((w2.alloc (.map #[] 0)).drew):=((AZ.refl [] w2).alloc _).drew;obtain⟨W3,hu,ACm,hc3⟩:=Mp.update (AGo.out.Fg.top.Aj hcA BH) (DC LC) I4 Dz (.map (AA fb))
   have hmf:Mp W3 fb IZ []:=by
    (have h1:Mp ((w2.alloc (.map #[] 0)).drew) fb IZ []:=by rw[<- hfb];exact (Mp.made w2 IZ).Aj ((AZ.refl [] _).drew) BH);refine h1.Aj hc3 ?_;have h2:=AGo.out.Fg.top.lt;simp only at h2;simp;omega
   have Ff:Hid (AZ [t1] w2 W3):=AP ((hcA.nil [t1]).trans hc3 (λx hx=>.inl hx));have HTD:Hid (BK (Gx 0 ((BF ds).take i)) Dz=AB):=AP (Eh.2 (by rw[gz];exact ARz.out));have AO0:=AP (AGo.out.dir HTD.out Ff.out ACm hmf Aa)
   have AC9:Hid (dv≠t1/\w.heap.size<=dv/\w.heap.size<=fb/\t1<dv):=AP (by
    have h1:=AK9.out;have h2:=DX.out.size;have h3:=ZM.out.Fg.top.lt;have h4:=CZ.out.size;simp only at h3
    refine⟨Aa,Aa,Aa,Aa⟩)
   have hS7:=hc3;clear ACm hmf hc3;go_wp2;refine FU (S:=λw'=>AZ [t1] w2 w') Aq ((AZ.refl _ _).drew) (λhHeld=>?_);refine tk 0 ?_;refine tk 1 ?_;refine tk 2 ?_;refine Gh 3 (λw' hSw=>hSw.cell b0 AV) ?_;refine tk 4 ?_;refine Gh 5 (λw' hSw=>hSw.cell v0 (λh=>AC9.out.1 (by simpa using h))) ?_;refine Em 6 λK hK=>?_;go_simp;refine hK.out _ _ (hHeld.alloc _) (λhHeld=>?_);(try simp only[BJ,Bh]);clear hK K;refine Em 7 λK hK=>?_;go_simp;refine hK.out _ _ (hHeld.trans hS7 (λx hx=>.inl hx)) (λhHeld=>?_);(try simp only[BJ,Bh]);clear hK K;refine Eu Aq ?_ _;(try simp only[BJ,Bh]);have HV3:=AP (HV1.out.Aj Ff.out (by simpa using AC9.out.1));have u1:=HV3.out.cell 1;simp only[GG] at u1;have hFR:=HD.out.Eb _ HDM.out;have HFR:=AP hFR;have hml:GL.length=dn:=by have:=hFR.row.MV;simpa[EZ] using this
   have hmb:dn<=1073741824:=by
    have h1:=(TJ (Bq Xz.out)).1;have h2:=HB.out;simp only[BB,DY] at h1;omega
   have HML:=AP hml;have AVK:Hid (wr.heap.size<=W3.heap.size):=AP (CY CZ.out.size Ff.out.size)
   have ALA:Hid (∀x∈(Rl.mk (t1+1) t1 (Dq g1 Dz (fb,[])) ib sg Ls).parts.flatten,w.heap.size<=x):=AP (λx hx=>by
    simp only[Rl.parts,JS,Bd] at hx;rcases hx with h|h|h;exact PG.out x (by simp only[Rl.parts,JS,Bd];exact .inl h)
    ·rcases OC (B:=w.heap.size) ZM.out.Fg.nodup (.inr AC9.out.2.2.1) x h with h|h;exact PG.out x (by simp only[Rl.parts,JS,Bd];exact .inr (.inl h));exact h
    exact PG.out x (by simp only[Rl.parts,JS,Bd];exact .inr (.inr h)))
   have AO1:Hid (AZ [] w W3):=AP ((DX.out.Ah CZ.out).trans Ff.out (λx hx=>by simp only[CJ] at hx;subst hx;right;have:=HT1.out;omega));clear hHeld b0 hu hfb hS7 hcA hFR hml x0 x1 v0 v1;go_wp2
   go_loopw [13,14,15,16,52] (λs13 _ _ _ s52 wr=>∃(k:Nat) (g1:NM) (ib sg:List Nat) (Ls:List (List Nat)),k<=dn/\s52=.int .i64 k/\s13=.string (FQ noS ((BB GL).take k))/\ES true noS ((BB GL).take k)=0/\
    kP wr ⟨t1+1,t1,g1,ib,sg,Ls⟩ (Gx 0 ((BF ds).take i)++[(Dz,IU (0+Gs ((BF ds).take i)) ((BB GL).take k))]) (KH ((BF ds).take i)++((BB GL).take k).map λx=>(x.2,[])) BG stop/\
    Bl wr dv 77 #[.string Dz,.slice dA dn dc]/\(∀x∈(Rl.mk (t1+1) t1 g1 ib sg Ls).parts.flatten,w.heap.size<=x)/\AZ [] w wr/\dv∉Ea t1 g1) (λ_ _ _ _ s52 _=>dn - (intOf s52).toNat)
   case atStart=>exact⟨0,_,_,_,_,Dn _,rfl,rfl,rfl,by simpa[IU] using AO0.out,HV3.out,ALA.out,AO1.out,by
    intro hm;rcases BD.1 hm with h|h;exact AC9.out.1 h;obtain⟨p,hp,e⟩:=Bv.1 h;have h3:=AK9.out;rcases (J8 ZM.out.Fg.nodup).1 hp with rfl|⟨hp,_⟩;have h1:=AUD.out;have h2:=HV1.out.lt;simp only at e;omega;have h1:p.2.1<wr.heap.size:=(ZM.out.Fg.sub p hp).lt
    omega⟩
   obtain⟨k,g2,ib2,sg2,Ls2,kR,rfl,rfl,ql,ABw,hvb,KF,Xx,AO2⟩:=hrel;have X0:=AP ql;have dP:=AP ABw;have HVB:=AP hvb;have I5:=AP KF;have PI:=AP Xx;have ALB:=AP AO2;clear ql ABw hvb KF Xx AO2 AO0 HV3 ALA AO1;by_cases hkl:k<dn
   ·(have hkl':(k:Int)<dn:=by omega);obtain⟨x,hx⟩: ∃x,GL[k]? =AA x:=⟨_,CB (by have:=HML.out;omega)⟩;(have hxv:(BB GL)[k]? =AA (x.1.nm,x.2):=by unfold BB;rw[Bg,hx];rfl);have ALC:=HFR.out.GH PI.out;obtain⟨bd,hbd,hat⟩:=ALC.row.ns (j:=k) (x:=x.1) (by unfold EZ;rw[Bg,hx];rfl);subst hbd;have z0:=hat.c0;have z1:=hat.c1;have HXD:=AP (ALC.dat x (Bq hx));have qm:=AP hxv
    have HXN:Hid (x.1.n<=1073741824):=AP (by
     have h1:=(TJ (Bq Xz.out)).2 (x.1.nm,x.2) (Bq hxv);have h2:=HB.out;have h3:=HXD.out.1;simp only[DY,OT] at h3;simp only at h1
     omega)
    have AUE:Hid (∃e,BK g2 Dz=AA e):=AP (by
     obtain⟨e,he,_⟩:=dP.out.MB.get (k:=Dz) (F:=IU (0+Gs ((BF ds).take i)) ((BB GL).take k)) (by rw[Ns HTD.out,BZ rfl])
     exact⟨e,he⟩)
    obtain⟨⟨f2,fl2⟩,he⟩:=AUE.out;have HE2:=AP he;clear hx hxv ALC hat he;obtain⟨fv,ADA⟩: ∃fv,wr.heap.size=fv:=⟨_,rfl⟩;obtain⟨W4,hW4⟩: ∃W4,wr.alloc (.cells #[.string x.1.nm,.slice x.1.A x.1.n x.1.c] 64)=W4:=⟨_,rfl⟩;(have hv4:Bl W4 fv 64 #[.string x.1.nm,.slice x.1.A x.1.n x.1.c]:=by rw[<- hW4,<- ADA];exact Bl.new wr _ _);(have hc4:AZ [] wr W4:=by rw[<- hW4];exact (AZ.refl [] wr).alloc _);have v0:=hv4.cell 0;have v1:=hv4.cell 1;have d0:=(HVB.out.Aj hc4 BH).cell 0;have b0:=(dP.out.CX hc4).blk.cell 0;simp only[GG] at v0 v1 d0 b0;have JD:=AP hc4;have HV4:=AP hv4;have ADB:=AP ADA;clear hv4 hc4;(go_wp2_with fail);(have hb0:(((k:Int))==0)=(k==0):=by cases k<;>rfl);rw[hb0];refine (dE (k==0) (FQ noS ((BB GL).take k)) x.1.nm W4).mono ?_;rintro e w4 ⟨rfl,rfl⟩;obtain⟨E,hE⟩: ∃E,Gq (k==0) (FQ noS ((BB GL).take k)) x.1.nm=E:=⟨_,rfl⟩;rw[hE];have HEX:=AP hE;clear hE hb0;by_cases hE0:E=0
    ·subst hE0;have ALD:=AP (dP.out.CX JD.out);have HFM:=AP (CQ HE2.out)
     have HFT:Hid (f2≠t1/\t1+1≠f2/\dv≠f2/\fv≠f2/\w.heap.size<=f2):=AP (by
      have hm:=Jc (tb:=t1) HFM.out;refine⟨dP.out.Fg.L8 HFM.out,λe=>?_,λe=>ALB.out (by rw[e];exact hm),λe=>?_,I5.out f2 (by simp only[Rl.parts,JS,Bd];exact .inr (.inl hm))⟩;exact dP.out.lay.ne (i:=0) (j:=1) (P:=[t1+1]) (Q:=Ea t1 g2) rfl rfl Ar (t1+1) AV (by rw[e];exact hm);have h1:=(dP.out.Fg.sub _ HFM.out).lt;have h2:=ADB.out;simp only at h1
      omega)
     have AUF:Hid (BK (FD g2) Dz=AA (.map (AA f2))):=AP (by rw[Ez,HE2.out];rfl);go_wp2;refine FU (S:=λw'=>AZ [f2] w4 w') Aq ((AZ.refl _ _).drew) (λhHeld=>?_);refine tk 0 ?_;refine tk 1 ?_;refine tk 2 ?_;refine Gh 3 (λw' hSw=>hSw.cell b0 (by simpa using HFT.out.2.1)) ?_;refine tk 4 ?_;refine Gh 5 (λw' hSw=>hSw.cell d0 (by simpa using HFT.out.2.2.1)) ?_;refine wpAnyH_take (i:=6) (v:=?_) rfl Aq Aq Aq (λ_ _ _ h=>h) (Or.inl ⟨by rfl,?_⟩) (by assumption) ?_;rotate_left
     ·(intro w' hSw;have y:=(Mp.lookup (ALD.out.Fg.top.Aj hSw (by simpa using HFT.out.1.symm)) (DC LC) I4 (z:=.map AB) Aq Dz).1;rw[AUF.out] at y;simp only[Dx] at y;go_simp;try with_reducible rfl)
     (try simp only[BJ,Bh]);refine tk 7 ?_;refine tk 8 ?_;refine Gh 9 (λw' hSw=>hSw.cell v1 (by simpa using HFT.out.2.2.2.1)) ?_;refine Em 10 λK hK=>?_;go_simp;refine (new_any x.1.A x.1.n x.1.c x.2 _ HXN.out ((HXD.out.Aj JD.out Ew).Aj ((AZ.refl [] _).drew) Ew)).mono ?_;rintro ee w5 ⟨sg0,L0,rfl,hs5,hc5,hL5⟩;have MW:Hid (AZ [] w4 w5):=AP ((AZ.refl [] w4).drew.Ah hc5);have HS5:=AP hs5;have HL5:Hid (∀k∈L0,w4.heap.size<=k):=AP hL5;have HBX:Hid (Bl (w5.alloc (.cells #[.pointer (AA ⟨sg0,0,AB⟩)] 126)) w5.heap.size 126 #[.pointer (AA ⟨sg0,0,AB⟩)]):=AP (Bl.new w5 _ _);obtain⟨W6,hu,AO3,hc6⟩:=Mp.update ((ALD.out.Fg.sub _ HFM.out).Aj (MW.out.Ah ((AZ.refl [] w5).alloc (.cells #[.pointer (AA ⟨sg0,0,AB⟩)] 126))) BH) (DC LC) PY x.1.nm (.pointer (AA ⟨w5.heap.size,0,AB⟩));simp only at hu;have HM6:=AP AO3;have Jh:Hid (AZ [f2] (w5.alloc (.cells #[.pointer (AA ⟨sg0,0,AB⟩)] 126)) W6):=AP hc6;have hH5:=hHeld.Ah hc5;have hS6:=Jh.out;clear hs5 hL5 AO3 hc6;refine hK.out _ _ (hH5) (λhHeld=>?_);(try simp only[BJ,Bh]);clear hK K;refine tk 11 ?_;refine Em 12 λK hK=>?_;go_simp;refine hK.out _ _ (hHeld.alloc _) (λhHeld=>?_);(try simp only[BJ,Bh]);clear hK K;refine Em 13 λK hK=>?_;go_simp;refine hK.out _ _ (hHeld.trans hS6 (λx hx=>.inl hx)) (λhHeld=>?_);(try simp only[BJ,Bh]);clear hK K;refine Eu Aq ?_ _;(try simp only[BJ,Bh]);have HAN:Hid (BK (IU (0+Gs ((BF ds).take i)) ((BB GL).take k)) x.1.nm=AB):=AP (Eh.2 (by rw[gy];exact AH1 qm.out X0.out HEX.out));have HLEN:Hid ((KH ((BF ds).take i)++((BB GL).take k).map λx=>((x.2,[]):Ee)).length=0+Gs ((BF ds).take i)+((BB GL).take k).length):=AP (by rw[Gz,DY,TG];omega)
     have HF6:=AP (ALD.out.file HTD.out HAN.out (λp hp q hq=>by
      rw[HLEN.out];rcases Bd.1 hp with hp|hp;have:=Ye p hp q hq;omega;simp only[CJ] at hp;subst hp
      exact xO q hq) HE2.out MW.out HL5.out HS5.out ((AZ.refl [] w5).alloc _) (Bc _) HBX.out Jh.out HM6.out)
     have AO4:Hid (AZ [f2] w4 W6):=AP (((MW.out.Ah ((AZ.refl [] w5).alloc _)).nil [f2]).trans Jh.out (λx hx=>.inl hx));have HV6:=AP ((HVB.out.Aj JD.out BH).Aj AO4.out (by simpa using HFT.out.2.2.1));clear hHeld hS6 hc5 hu hH5 b0 d0 v0 v1 z0 z1;go_wp2;go_roundw
     case rel=>
      have hsz:w.heap.size<=w4.heap.size:=CY PI.out.size JD.out.size;have hsz5:=MW.out.size;refine⟨k+1,Dq g2 Dz (f2,Dq fl2 x.1.nm w5.heap.size),ib2++[w5.heap.size],sg2++[sg0],Ls2++[L0],Aa,by go_num,by rw[take_snoc _ _ _ qm.out,Xt],Vy qm.out X0.out HEX.out,?_,HV6.out,?_,(PI.out.Ah JD.out).trans AO4.out (λx hx=>by simp only[CJ] at hx;subst hx;exact .inr HFT.out.2.2.2.2),?_⟩;rotate_left
      ·intro y hy;simp only[Rl.parts,JS,lC,mP,I9,Bd] at hy;have hN:=I5.out;simp only[Rl.parts,JS,Bd] at hN;rcases hy with h|h|h|h|h;exact hN y (.inl h)
       ·rcases OC (B:=w.heap.size) dP.out.Fg.nodup (.inr HFT.out.2.2.2.2) y h with h|h;exact hN y (.inr (.inl h));exact h
       ·rcases h with h|h;exact hN y (.inr (.inr (.inl h)));simp only[CJ] at h;omega
       exact hN y (.inr (.inr (.inr h)));have:=HL5.out y h;omega
      ·intro hm;rcases BD.1 hm with h|h;exact AC9.out.1 h;obtain⟨p,hp,e⟩:=Bv.1 h;rcases (J8 dP.out.Fg.nodup).1 hp with rfl|⟨hp,_⟩;exact HFT.out.2.2.1 e.symm;exact ALB.out (by rw[<- e];exact Jc hp)
      have hf:=HF6.out;rw[HLEN.out] at hf;rw[take_snoc _ _ _ qm.out,qZ,Ey,<- Jo];exact hf
     simp[intOf];omega
    have hne:(E !=0)=true:=by simp[hE0]
    have HFE:Hid (ES true noS (BB GL)=E):=AP (by
     rw[Z4 qm.out X0.out];unfold ES
     rw[HEX.out,BZ hE0])
    have HDE:Hid (Di (BF ds) BG=E):=AP (by
     rw[HE.out,VH Xz.out ZL.out];unfold GX
     rw[HEE.out,BM AV,HFE.out,BZ hE0])
    have HNE:=AP hE0;clear hE0;go_wp2
    go_ret2
    exact .inl ⟨by rw[HDE.out];exact HNE.out,by rw[HDE.out];rfl,PI.out.Ah JD.out⟩
   (obtain rfl:k=dn:=by omega);have MQ:Hid ((BB GL).take k=BB GL):=AP (Ep (by unfold BB;rw[DY,HML.out];exact Bc _));clear u1;go_wp2;go_roundw
   case rel=>
    have hf:=X0.out;rw[MQ.out] at hf;have ho:=dP.out;rw[MQ.out] at ho;refine⟨i+1,g2,ib2,sg2,Ls2,Aa,by go_num,by rw[take_snoc _ _ _ Xz.out,Xt],jZ Xz.out ZL.out HEE.out hf,?_,I5.out,PI.out⟩;rw[take_snoc _ _ _ Xz.out,qc,xN];exact ho
   simp[intOf];omega
  have hne:(E !=0)=true:=by simp[hE0]
  have HDE:Hid (Di (BF ds) BG=E):=AP (by
   rw[HE.out,VH Xz.out ZL.out];unfold GX
   rw[HEE.out,BZ hE0])
  have HNE:=AP hE0;clear hE0;go_wp2
  go_ret2
  exact .inl ⟨by rw[HDE.out];exact HNE.out,by rw[HDE.out];rfl,DX.out.Ah CZ.out⟩
 (obtain rfl:i=n:=by omega);(have hlen:(BF ds).length=i:=by have:=HD.out.row.MV;simpa[EP,BF] using this);have HTK:Hid ((BF ds).take i=BF ds):=AP (Ep Aa);have AUG:Hid (Di (BF ds) BG=0):=AP (by rw[HE.out,<- HTK.out];exact ZL.out);have b0:=ZM.out.blk.cell 0;simp only[GG] at b0;clear hmm hlen;(go_wp2_with fail);refine (Xp wr t1 g1 ZM.out.Fg).mono ?_;rintro e w2 ⟨ob,g',rfl,htr,hnw,hc2,hcp⟩;have AGp:=AP (ZM.out.CX hc2);have c1:=AGp.out.blk.cell 1;have f1:=AGp.out.blk.frozen 1;have TZ:=AP (AGp.out.blk.FX 1 (.map (AA ob)));simp only[GG] at c1;have kM:=AP htr;have OJ:=AP hnw;have HC2:=AP hc2;have gu:=AP hcp;clear htr hnw hc2 hcp b0;go_wp2
 go_ret2
 refine .inr ⟨AUG.out,⟨t1+1,t1,ob,g1,g',AB,0,[],AB,0,ib,ib,sg,Ls⟩,rfl,?_,?_,?_⟩
 ·have VG:AZ [t1+1] w2 (w2.setCell ⟨t1+1,1,AB⟩ (.map (AA ob))):=(AZ.refl [t1+1] w2).setCell (.inl AV) _;generalize w2.setCell ⟨t1+1,1,AB⟩ (.map (AA ob))=W9 at VG TZ⊢;have hop:=AGp.out;rw[HTK.out] at hop;have hL: ∀x∈[t1+1],x∈[t1+1]:=λx hx=>hx;have hk:=λ(i:Nat) (P:List Nat) (hi:(Rl.mk (t1+1) t1 g1 ib sg Ls).parts[i]? =AA P) (hn:i≠0)=>hop.lay.qf (j:=0) rfl hL hi hn
  have AUH: ∀x∈Ea ob g',x∉[t1+1]:=λx hx hm=>by
   simp only[CJ] at hm;subst hm;have h1:=OJ.out _ hx;have h2:=ZM.out.blk.lt;simp only at h2;omega
  refine⟨by simpa[Ei] using TZ.out,hop.Fg.keep VG (hk 1 _ rfl Ar),hop.MB,kM.out.keep VG AUH,hop.MB.copied gu.out,Own.nil _ _ _,λi c v e1=>by simp[Ei] at e1,Own.nil _ _ _,hop.Qx,hop.Wp,hop.Rk,hop.Zy,λ_ h=>h,λi x g L f e1 e2 e3 e4=>(hop.ino i x g L f e1 e2 e3 e4).keep VG (hk 2 _ rfl Ar x (Bq e1)) (hk (i+3) L (by simpa[Rl.parts] using e3) Aa),?_⟩;have l1:Lay W9 (([t1+1]::Ea t1 g1::[])++Ea ob g'::(ib::Ls)):=Lay.ins (w:=wr) (Ps:=[t1+1]::Ea t1 g1::[]) (Qs:=ib::Ls) ZM.out.lay (λx hx=>OJ.out x hx) (λx hx=>EY (kM.out.lt x hx) VG.size) (CY HC2.out.size VG.size);have l2:Lay W9 (([t1+1]::Ea t1 g1::Ea ob g'::[])++[]::(ib::Ls)):=Lay.ins (w:=W9) (Ps:=[t1+1]::Ea t1 g1::Ea ob g'::[]) (Qs:=ib::Ls) l1 AV AV (Bc _);exact Lay.ins (w:=W9) (P:=[]) (Ps:=[t1+1]::Ea t1 g1::Ea ob g'::[]::[]) (Qs:=ib::Ls) l2 AV AV (Bc _)
 ·intro x hx;have hN:=PG.out;simp only[Rl.parts,JS,Bd] at hN;simp only[Bi.all,Bi.parts,JS,Bd,Xj,BH,false_or] at hx;rcases hx with h|h|h|h|h;exact hN x (.inl h);exact hN x (.inr (.inl h));exact CY DX.out.size (OJ.out x h);exact hN x (.inr (.inr (.inl h)));exact hN x (.inr (.inr (.inr h)))
 exact (DX.out.Ah HC2.out).setCell (.inr (by have:=HT1.out;simp only;omega)) _
theorem Inv.make{B:Nat}{S:St}(h:Inv B S){c:EF}(hc:c.ok S.files.length S.seen):Inv (B+1) (S.make c):=by
 obtain⟨h1,h2,h3,h4,h5,h6,h7,h8,h9,h10⟩:=h;refine⟨h1,?_,?_,h4,?_,?_,?_,?_,?_,h10⟩;exact AHr.2 ⟨h2,by show EF.ok S.files.length (IC S.safe S.ED) c;rw[h3];exact hc⟩
 ·show IC S.safe (S.ED++[c])=c.on S.seen;rw[TC,h3]
 all_goals (simp only[St.make,Gz,EU,Hr];omega)
theorem Inv.step{B:Nat}{S:St}(h:Inv B S):Inv (B+1) {S with steps:=S.steps+1}:=by
 obtain⟨h1,h2,h3,h4,h5,h6,h7,h8,h9,h10⟩:=h;exact⟨h1,h2,h3,h4,by simp only;omega,by simp only;omega,by simp only;omega,by simp only;omega,by simp only;omega,h10⟩
theorem Inv.Cc{B:Nat}{S:St}(h:Inv B S)(d:ByteArray):Inv (B+1) (S.Cc d).1:=by
 unfold St.Cc;by_cases h0:S.ask false [d]=0
 ·rw[BM (by simp[h0])];by_cases h1:(BK S.seen d).isSome=true;rw[BZ h1];exact h.mono Aa;rw[BM h1];refine h.make ⟨(H7 h0).2.1 d AV,?_⟩
  cases hg:BK S.seen d with|none=>rfl|some F=>rw[hg] at h1;simp at h1
 rw[BZ h0];exact h.mono Aa
theorem Inv.create{B:Nat}{S:St}(h:Inv B S)(d n:ByteArray):Inv (B+2) (S.create d n).1:=by
 unfold St.create;by_cases h0:S.ask true [d,n]=0
 ·rw[BM (by simp[h0])];by_cases h1:(BK (FO S.seen d) n).isSome=true;rw[BZ h1];exact h.mono Aa;rw[BM h1];obtain⟨F,hF⟩:=(H7 h0).2.2 rfl;simp only[Rt] at hF
  have:=(h.dI []).make (c:=.create d n S.files.length) ⟨AV,(H7 h0).2.1 n AV,F,hF,by
   rw[FP hF] at h1
   cases hg:BK F n with|none=>rfl|some i=>rw[hg] at h1;simp at h1⟩
  exact this.mono AV
 rw[BZ h0];exact h.mono Aa
theorem dQ(fs:List Ee)(x:Nat)(φ:Ee->Ee)(k:Nat)(hφ: ∀f,(φ f).all.length+(φ f).2.length<=f.all.length+f.2.length+k):Ik (fs.modify x φ)<=Ik fs+k:=by
 unfold Ik
 induction fs generalizing x with
 |nil=>simp|cons f r ih=>
  cases x with|zero=>simp only[List.modify_zero_cons,BN,CE];have:=hφ f;omega|succ x=>simp only[List.modify_succ_cons,BN,CE];have:=ih x;omega
theorem Inv.modify{B k:Nat}{S:St}(h:Inv B S)(x:Nat)(φ:Ee->Ee)(wr':List Nat)(hφ: ∀f,(φ f).all.length+(φ f).2.length<=f.all.length+f.2.length+k)(hw: ∀y∈wr',y<S.files.length)(hl:wr'.length<=S.wr.length+1):Inv (B+k+1) {S with files:=S.files.modify x φ,wr:=wr',steps:=S.steps+1}:=by
 obtain⟨h1,h2,h3,h4,h5,h6,h7,h8,h9,h10⟩:=h;have hb:=dQ S.files x φ k hφ;refine⟨by simpa using h1,by simpa using h2,h3,by simpa using hw,by simp only;omega,by simp only[List.length_modify];omega,by simp only;omega,by simp only;omega,by simp only;omega,h10⟩
theorem Inv.write{B:Nat}{S:St}(h:Inv B S)(d n:ByteArray)(xs:List Int):Inv (B+xs.length+2) (S.write d n xs).1:=by
 unfold St.write
 cases hf:S.Ov d n with
 |mk o e=>
  cases o with
  |none=>exact h.mono Aa|some x=>
   simp only;by_cases hx:xs=[];rw[BZ hx];exact h.step.mono Aa;rw[BM hx];by_cases hq:S.BG<(S.used:Int)+xs.length;rw[BZ hq];exact h.mono Aa;rw[BM hq]
   have:=h.modify (k:=xs.length+1) x (λf=>(f.1,f.2++[xs])) (S.wr++[x]) (λf=>by simp[Ee.all];omega) (λy hy=>by
    rcases Bd.1 hy with hy|hy;exact h.wr y hy
    simp only[CJ] at hy;subst hy;exact lX h hf) AV
   exact this.mono Aa
theorem Inv.sync{B:Nat}{S:St}(h:Inv B S)(d n:ByteArray):Inv (B+1) (S.sync d n).1:=by
 unfold St.sync
 cases hf:S.Ov d n with
 |mk o e=>
  cases o with
  |none=>exact h.mono Aa|some x=>
   exact h.modify (k:=0) x (λf=>(Ee.all f,[])) (S.wr.filter (λy=>y !=x)) (λf=>by simp[Ee.all]) (λy hy=>h.wr y (ZV.1 hy).1) (CY (aW _ _) Aa)
theorem Inv.names{B:Nat}{S:St}(h:Inv B S):Inv (B+1) S.names.1:=by
 unfold St.names;by_cases hd:S.down=true;rw[BZ hd];exact h.mono Aa;rw[BM hd];have hv:=h.val;have hw:=h.wd;obtain⟨h1,h2,h3,h4,h5,h6,h7,h8,h9,h10⟩:=h;exact⟨hv,Ap,rfl,h4,by simp only[Hr];omega,by simp only;omega,by simp only;omega,by simp only;omega,by simp only;omega,h10⟩
theorem Inv.rename{B:Nat}{S:St}(h:Inv B S)(a b:ByteArray):Inv (B+1) (S.rename a b).1:=by
 unfold St.rename;by_cases h0:S.ask true [a,b]=0
 ·rw[BM (by simp[h0])];obtain⟨F,hF⟩:=(H7 h0).2.2 rfl;simp only[Rt] at hF;exact h.make ⟨(H7 h0).2.1 b AV,F,hF⟩
 rw[BZ h0];exact h.mono Aa
theorem Inv.remove{B:Nat}{S:St}(h:Inv B S)(d n:ByteArray):Inv (B+1) (S.remove d n).1:=by
 unfold St.remove
 cases hf:S.Ov d n with
 |mk o e=>
  cases o with
  |none=>exact h.mono Aa|some x=>
   obtain⟨_,_,F,hF,_⟩:=VF hf;exact h.make ⟨F,hF⟩
theorem Inv.rmdir{B:Nat}{S:St}(h:Inv B S)(d:ByteArray):Inv (B+1) (S.rmdir d).1:=by
 unfold St.rmdir;by_cases h0:S.ask true [d]=0
 ·rw[BM (by simp[h0])];obtain⟨F,hF⟩:=(H7 h0).2.2 rfl;simp only[Rt] at hF;by_cases h1:(FO S.seen d).length>0;rw[BZ h1];exact h.mono Aa;rw[BM h1];exact h.make ⟨F,hF⟩
 rw[BZ h0];exact h.mono Aa
section
variable {w0 w:AL} {p:Nat} {S:St} {B:Nat}
end
open Go.ChangeShapes Go.WideShapes Go.Deep
section
variable {D:FI}{q s:Int}{ds:List DM}{B a c n:Nat}{f g k:Nat->Nat}{A:Option Af}{S:St}{α:Type}{w w1:AL}
theorem ZN{H:Type}(D:Nat->Dt H)(n:Nat)(Z:List α)(G:α->Nat)(hl:Z.length=n)(h: ∀(i:Nat) z,Z[i]? =AA z->G z<=Rows.uptoBulk (D i)):(Z.map G).sum<=Rows.uptoBulkAll ((Fv n).map D):=by
 have h1:=WV D n (λi=>(Z[i]?.map G).getD 0) (λi hil=>by
  have hz:Z[i]? =AA (Z[i]'Aa):=CB Aa;rw[hz]
  exact h i _ hz)
 have h2:(Fv n).map (λi=>(Z[i]?.map G).getD 0)=Z.map G:=by
  apply OQ;intro i;rw[Bg,Bg];by_cases hil:i<n
  ·rw[CB (by simpa using hil),CB Aa];(have AKi:i<Z.length:=by omega);simp[AKi]
  rw[IG (by simp;omega),IG Aa];rfl
 rwa[h2] at h1
theorem collect{Q:Nat->α->Prop}(n:Nat)(h: ∀i,i<n->∃z,Q i z): ∃Z:List α,Z.length=n/\∀(i:Nat) z,Z[i]? =AA z->Q i z:=by
 induction n with
 |zero=>exact⟨[],rfl,λi z h=>by simp at h⟩|succ k ih=>
  obtain⟨zs,h1,h2⟩:=ih (λi hi=>h i Aa);obtain⟨z,hz⟩:=h k Aa;refine⟨zs++[z],by simp[h1],λi y hy=>?_⟩;by_cases hik:i<k;rw[Nb Aa] at hy;exact h2 i y hy;rw[Gy Aa] at hy
  have h0:i=k:=by
   rcases XE k i with h3|h3;rw[IG (by simp;omega)] at hy;cases hy;omega
  subst h0;rw[h1,Jn] at hy;simp at hy;subst hy;exact hz
theorem AGq{W:AL}{a:Af}{xs:List Ir}(hl:xs.length=n)(hn:n<=c)(hm:c<=ET)(h: ∀(i:Nat) x,xs[i]? =AA x->W.cell? (a.add (i*2))=AA (.string x.nm)/\W.cell? (a.add (i*2+1))=AA (.slice x.A x.n x.c)):Rd W 2 (AA a) n c (Ho xs):=by
 refine⟨by rw[jT,hl],hn,hm,(λe=>by cases e),λad e=>?_⟩;injection e with e;subst e;refine⟨λhp=>?_,λj u hu=>?_⟩
 ·obtain⟨x,hx⟩: ∃x,xs[0]? =AA x:=⟨_,CB Aa⟩;have:=UU _ _ (h 0 x hx).1;rwa[add_block] at this
 have hj:=Qh xs (j/2) (j % 2) (ae _ Ar);rw[show j/2*2+j % 2=j by omega,hu] at hj
 cases hx:xs[j/2]? with
 |none=>rw[hx] at hj;simp at hj|some x=>
  rw[hx] at hj;simp only[Option.bind_some] at hj;have h2:=h _ x hx;rcases yl j with e|e
  ·rw[e] at hj;have:=h2.1;rw[show j/2*2=j by omega] at this;rw[this];simpa[Ir.cells] using hj.symm
  rw[e] at hj;have:=h2.2;rw[show j/2*2+1=j by omega] at this;rw[this];simpa[Ir.cells] using hj.symm
theorem DK.trans{w w1 w2:AL}{G G1:Bi}{S2:St}(ha: ∀x∈G1.all,x∈G.all\/w.heap.size<=x)(hb:G1.b=G.b)(hc:AZ G.all w w1)(h:DK w1 G1 S2 w2):DK w G S2 w2:=by
 obtain⟨G',h1,h2,h3,h4⟩:=h;refine⟨G',h1,h2.trans hb,λx hx=>?_,hc.trans h4 ha⟩;rcases h3 x hx with h|h;exact ha x h;exact .inr (CY hc.size h)
theorem DK.names{w w1:AL}{G:Bi}{S1:St}{B:Nat}(h:DK w G S1 w1)(hi:Inv B S1)(hB:B<=1073741824):
  Au Ag 50 #[.pointer (AA ⟨G.b,0,AB⟩)] w1 λe w'=>e=.returned (.int .i64 S1.names.2)/\DK w G S1.names.1 w':=by
 obtain⟨G',h1,h2,h3,h4⟩:=h;rw[<- h2];exact (xK h1 hi hB).mono λe w' ⟨a,b⟩=>⟨a,.trans h3 h2 h4 b⟩
theorem DK.before{w2:AL}{G:Bi}{S2:St}(hc:AZ [] w w1)(h:DK w1 G S2 w2):DK w G S2 w2:=by
 obtain⟨G',h1,h2,h3,h4⟩:=h;exact⟨G',h1,h2,λx hx=>(h3 x hx).imp id (λh=>CY hc.size h),(hc.nil _).trans h4 (λx hx=>.inl hx)⟩
theorem DK.Aj{G:Bi}{S1:St}(h:DK w G S1 w1):AZ G.all w w1:=by obtain⟨_,_,_,_,h⟩:=h;exact h
theorem Yg(h:S.down=true)(t:Bool)(ns:List ByteArray):S.ask t ns=80:=by unfold St.ask;rw[BZ h]
def Wf (f:Nat->Nat) (F:Jv):Nat:=(F.map λq=>f q.2).sum
def Wt (f:Nat->Nat) (T:Tr):Nat:=(T.map λp=>Wf f p.2).sum
theorem xX(f:Nat->Nat)(n:ByteArray)(i:Nat)(F:Jv):Wf f (Dh n i F)=f i+Wf f F:=by
 unfold Wf;rw[((Hm n i F).map _).sum_nat,BN,CE]
theorem Yh(f:Nat->Nat)(d:ByteArray)(F:Jv)(T:Tr):Wt f (Dh d F T)=Wf f F+Wt f T:=by
 unfold Wt;rw[((Hm d F T).map _).sum_nat,BN,CE]
theorem ADC(f:Nat->Nat)(F:Jv)(n:ByteArray):Wf f (without F n)<=Wf f F:=by
 unfold Wf without
 induction F with
 |nil=>simp|cons p r ih=>
  rw[XC];split;simp only[BN,CE];omega;simp only[BN,CE];omega
theorem X3(f:Nat->Nat)(T:Tr)(d:ByteArray):Wt f (without T d)<=Wt f T:=by
 unfold Wt without
 induction T with
 |nil=>simp|cons p r ih=>
  rw[XC];split;simp only[BN,CE];omega;simp only[BN,CE];omega
theorem AAq(f:Nat->Nat)(T:Tr)(d:ByteArray):Wf f (FO T d)+Wt f (without T d)<=Wt f T:=by
 induction T with
 |nil=>simp[FO,BK,Wt,Wf,without]|cons p r ih=>
  unfold FO at ih⊢;rw[FZ,Ed];by_cases h:p.1=d
  ·rw[BZ h,BZ h];have:=X3 f r d;simp only[Dx,Wt,BN,CE] at this⊢;omega
  rw[BM h,BM h];simp only[Wt,BN,CE] at ih⊢;omega
def EF.made (f:Nat->Nat):EF->Nat
 | .create _ _ i=>f i|_=>0
theorem AAr(f:Nat->Nat)(T:Tr)(c:EF):Wt f (c.on T)<=Wt f T+c.made f:=by
 cases c with
 |Cc d=>simp only[EF.on,Yh,EF.made];simp[Wf]|create d n i=>
  have:=AAq f T d;simp only[EF.on,Yh,xX,EF.made];omega
 |rename a b=>
  have h1:=AAq f T a;have h2:=X3 f (without T a) b;simp only[EF.on,Yh,EF.made];omega
 |remove d n=>
  have h1:=AAq f T d;have h2:=ADC f (FO T d) n;simp only[EF.on,Yh,EF.made];omega
 |rmdir d=>simp only[EF.on,EF.made];exact X3 f T d
theorem dR{T:Tr}(h: ∀p∈T,∀q∈p.2,f q.2=0):Wt f T=0:=by
 unfold Wt
 induction T with
 |nil=>rfl|cons p r ih=>
  simp only[BN,CE];rw[ih (λp hp=>h p (CO _ hp))];have h1:=h p (D7 ..);unfold Wf;generalize p.2=F at h1
  induction F with
  |nil=>rfl|cons q r ih2=>
   simp only[BN,CE];rw[h1 q (D7 ..)];have:=ih2 (λq hq=>h1 q (CO _ hq));omega
theorem AMx(h: ∀i,f i<=g i+a*k i)(F:Jv):Wf f F<=Wf g F+a*Wf k F:=by
 unfold Wf
 induction F with
 |nil=>simp|cons q r ih=>
  simp only[BN,CE,Nat.mul_add];have:=h q.2;omega
theorem AMy(h: ∀i,f i<=g i+a*k i)(T:Tr):Wt f T<=Wt g T+a*Wt k T:=by
 unfold Wt
 induction T with
 |nil=>simp|cons p r ih=>
  simp only[BN,CE,Nat.mul_add];have:=AMx h p.2;omega
def IA (i:Nat):Nat->Nat:=λj=>if j=i then 1 else 0
def qo (S:St):Nat->Nat:=λi=>(S.bytes i).length
def St.tot (S:St):Nat:=Wt (qo S) S.seen
theorem ALE(h:S.down=false):S.used=S.tot:=by
 unfold St.used St.view St.tot bytesOf Wt Wf qo;rw[BM (by simp[h]),Eo];congr 1;apply Hu;intro p _;simp[Function.comp_def]
theorem aA(l:List α)(d:α)(i:Nat):(l++[d]).getD i d=l.getD i d:=by
 rw[Gj,Gj];by_cases h:i<l.length;rw[Nb h];rw[Gy Aa,IG (l:=l) Aa]
 cases i - l.length with|zero=>rfl|succ k=>rfl
theorem getD_modify(l:List α)(x:Nat)(φ:α->α)(d:α)(i:Nat):(l.modify x φ).getD i d=if i=x/\x<l.length then φ (l.getD i d) else l.getD i d:=by
 rw[Gj,Gj,yh];by_cases h:x=i
 ·subst h;simp only[if_true,true_and];by_cases hx:x<l.length;rw[BZ hx,CB hx];rfl;rw[BM hx,IG Aa];rfl
 rw[BM (λe=>h e.1.symm)];simp[h]
def dat (D:FI):List (List Int):=D.flatMap λd=>d.2.map (·.2)
theorem AH5(g:Nat->List Int){l:List (ByteArray×List Int)}(h: ∀(k:Nat) x,l[k]? =AA x->g (n+k)=x.2):(IU n l).map (λq=>(q.1,g q.2))=l:=by
 induction l generalizing n with
 |nil=>rfl|cons x r ih=>
  simp only[IU,BN];rw[ih (n:=n+1) (λk y hy=>by have:=h (k+1) y (by simpa using hy);rw[<- this];congr 1;omega)];have:=h 0 x rfl;rw[Nat.add_zero] at this;rw[this]
theorem AH6(g:Nat->List Int)(h: ∀(k:Nat) x,(dat D)[k]? =AA x->g (n+k)=x):(Gx n D).map (λp=>(p.1,p.2.map λq=>(q.1,g q.2)))=D:=by
 induction D generalizing n with
 |nil=>rfl|cons d r ih=>
  simp only[Gx,BN];have hd:dat (d::r)=d.2.map (·.2)++dat r:=rfl
  rw[ih (n:=n+d.2.length) (λk y hy=>by
    have:=h (d.2.length+k) y (by rw[hd,Gy AV];simpa using hy)
    rw[<- this];congr 1;omega),
   AH5 g (n:=n) (l:=d.2) (λk x hx=>h k x.2 (by
    rw[hd,Nb (by simp;exact (CP.1 hx).1),Bg,hx];rfl))]
theorem ADE(D:FI):KH D=(dat D).map λx=>(x,[]):=by
 unfold KH dat;rw[List.map_flatMap];congr 1;funext d;simp
theorem open_bytes{k:Nat}{x:List Int}(h:(dat D)[k]? =AA x):(Ei D q s).files.getD k ([],[])=(x,[]):=by
 show (KH D).getD k ([],[])=_;rw[ADE,Gj,Bg,h];rfl
theorem ALF(out:List Int)(start:Nat)(ks:List Bool):Ph out start [] ks=out:=by simp[Ph]
theorem range_one(i k:Nat): ∀n,((List.range' n k).map (IA i)).sum<=1/\(i<n->((List.range' n k).map (IA i)).sum=0):=by
 induction k with
 |zero=>intro n;simp
 |succ k ih=>
  intro n;rw[List.range'_succ,BN,CE];obtain⟨h1,h2⟩:=ih (n+1);by_cases h:n=i
  ·have h4:=h2 Aa;(have h3:IA i n=1:=by unfold IA;rw[BZ h]);rw[h3,h4];exact⟨Aa,λh5=>by omega⟩
  (have h3:IA i n=0:=by unfold IA;rw[BM h]);rw[h3];exact⟨Aa,λh4=>by have:=h2 Aa;omega⟩
theorem AMz(f:Nat->Nat)(n:Nat)(l:List (ByteArray×List Int)):Wf f (IU n l)=((List.range' n l.length).map f).sum:=by
 unfold Wf
 induction l generalizing n with|nil=>rfl|cons x r ih=>simp only[IU,BN,CE,EU,List.range'_succ,ih]
theorem AM0(f:Nat->Nat)(n:Nat)(D:FI):Wt f (Gx n D)=((List.range' n (Gs D)).map f).sum:=by
 unfold Wt
 induction D generalizing n with
 |nil=>rfl|cons d r ih=>
  simp only[Gx,BN,CE,ih,AMz];(have:Gs (d::r)=d.2.length+Gs r:=by simp[Gs]);rw[this,<- List.range'_append_1,Ey,YN]
theorem AAs(k:Int)(h:s<0):Uf s k=false:=by unfold Uf;rw[show decide (0<=s)=false from decide_eq_false Aa];rfl
theorem MF(h:S.stop<0):S.down=false:=AAs _ h
theorem Yi(hd:S.down=false){d:ByteArray}{ns:List ByteArray}(hg:(d::ns).all CV=true){F:Jv}(hF:BK S.seen d=AA F)(t:Bool):S.ask t (d::ns)=0:=by
 unfold St.ask;rw[BM (by simp[hd]),BM (by simp[hg]),BM];rw[Rt,hF];simp
theorem ADF(h:S.down=false):S.view=S.seen.map λp=>(p.1,p.2.map λq=>(q.1,S.bytes q.2)):=by unfold St.view;rw[BM (by simp[h])]
theorem dS{i:Nat}(h:(S.files.getD i ([],[])).2=[])(ks:List Bool):S.after ks i=S.bytes i:=by
 unfold St.after St.bytes;simp only;unfold Ee.all;rw[h,ALF];simp
theorem JE(a b:ByteArray):decide (a=b)=(a.toList==b.toList):=by
 rw[mY,decide_eq_true_eq,beq_iff_eq];refine⟨λh=>by rw[h],λh=>?_⟩;rw[Y0,Y0] at h;exact data_inj h
def JO (fs:List (ByteArray×List Int)):Nat:=(fs.map λq=>q.2.length).sum
theorem AAt(fs:List (ByteArray×List Int))(f:ByteArray×List Int):JO (fs++[f])=JO fs+f.2.length:=by simp[JO]
theorem dU(l:List Nat)(i:Nat):(l.take i).sum<=l.sum:=by
 conv=>rhs;rw[<- YK i l,YN]
 omega
theorem Rd.AO5{xs:List Int}(h:Rd w 1 A n c (bv xs)):xs.length=n:=by have:=h.1;simpa using this
def siz (D:FI):Nat:=(D.map λd=>d.2.length+1).sum
theorem ADG{d:ByteArray×List (ByteArray×List Int)}(h:d∈D):d.2.length+D.length<=siz D:=by
 unfold siz
 induction D with
 |nil=>simp at h|cons q r ih=>
  simp only[BN,CE,EU]
  have hl:r.length<=(r.map λd=>d.2.length+1).sum:=by
   clear ih h
   induction r with|nil=>simp|cons z l ih=>simp only[EU,BN,CE];omega
  rcases BD.1 h with rfl|h;omega;have:=ih h;omega
theorem ALG(D:FI):D.length<=siz D:=by
 cases D with|nil=>simp|cons d r=>have:=ADG (D:=d::r) (D7 ..);omega
theorem FY.bnd(h:FY w A n c ds)(hB:siz (BF ds)<=B):n<=B/\∀d∈ds,d.1.n<=B:=by
 (have h1:(BF ds).length=n:=by have:=h.row.MV;simpa[BF,EP] using this);refine⟨by have:=ALG (BF ds);omega,λd hd=>?_⟩;have h2:(d.1.nm,BB d.2)∈BF ds:=Bv.2 ⟨d,hd,rfl⟩;have h3:=ADG h2;(have h4:(BB d.2).length=d.1.n:=by have:=(h.Eb d hd).row.MV;simpa[BB,EZ] using this);simp only at h3;omega
theorem aB(h:FY w A n c ds)(hB:Fj (BF ds)<=B):n<=B/\bytesOf (BF ds)<=B/\siz (BF ds)<=B/\∀x∈ds,x.1.n<=B/\∀f∈x.2,f.1.n<=B:=by
 have hs: ∀l:List (ByteArray×List Int),(l.map λx=>x.2.length+1).sum=(l.map λx=>x.2.length).sum+l.length:=by
  intro l
  induction l with|nil=>rfl|cons x r ih=>simp only[BN,CE,EU,ih];omega
 have he: ∀D:FI,Fj D=bytesOf D+siz D:=by
  intro D;unfold Fj bytesOf siz
  induction D with|nil=>rfl|cons x r ih=>simp only[BN,CE,hs] at ih⊢;omega
 have h0:=he (BF ds);have h1:=h.bnd (B:=B) Aa;refine⟨h1.1,Aa,Aa,λx hx=>⟨h1.2 x hx,λf hf=>?_⟩⟩;have h2:(x.1.nm,BB x.2)∈BF ds:=Bv.2 ⟨x,hx,rfl⟩;have h3:(f.1.nm,f.2)∈BB x.2:=Bv.2 ⟨f,hf,rfl⟩
 have hm: ∀(l:List (ByteArray×List Int)) y,y∈l->y.2.length<=(l.map λx=>x.2.length).sum:=by
  intro l
  induction l with
  |nil=>simp|cons z r ih=>
   intro y hy;simp only[BN,CE];rcases BD.1 hy with rfl|hy;omega;have:=ih y hy;omega
 have hM: ∀(D:FI) d,d∈D->(d.2.map λx=>x.2.length).sum<=bytesOf D:=by
  unfold bytesOf;intro D
  induction D with
  |nil=>simp|cons z r ih=>
   intro y hy;simp only[BN,CE];rcases BD.1 hy with rfl|hy;omega;have:=ih y hy;omega
 have h4:=hm _ _ h3;have h5:=hM _ _ h2;have h6:=((h.Eb x hx).dat f hf).AO5;simp only at h4 h5;omega
section
variable {w w1:AL} {p:Nat} {G:Bi} {S S1:St} {B:Nat}
end
open Go.Joins
theorem AUI(h:(Lit.int .i64 q).wf=true):q<=9223372036854775807:=by
 simp only[Lit.wf,DV,decide_eq_true_eq] at h;(have h2:IntKind.max .i64=9223372036854775807:=by decide);rw[h2] at h;omega
end
open Go Go.Conc Go.Joins
section
variable {held:Bool}{p:List GZ}{xs:List AQ}{c n sz:Nat}{A:Option Af}{H:Type}{e t:Am}{v:AQ}{W:AL}
def JP (W:AL) (b:Nat):Prop:=∃p t f,W.heap[b]? =AA (.cells p t f)
theorem cells_of_cell{a:Af}(h:W.cell? a=AA v):JP W a.block:=by
 unfold Pz at h;split at h;exact⟨_,_,_,by assumption⟩;cases h
def WZ (W:AL) (A:Option Af) (c:Nat):Prop:=∀ad,A=AA ad->0<c->JP W ad.block
theorem WZ.none{W:AL}{c:Nat}:WZ W AB c:=λ_ h=>by cases h
structure dV (W:AL) (A:Option Af) (n c:Nat) (fs:List FM):Prop where
 files:ER W A n c fs
 row:WZ W A c
 dat: ∀f∈fs,WZ W f.1.A f.1.c/\∀z∈f.2,0<=z/\z<=255
structure AFX (W:AL) (A:Option Af) (n c:Nat) (ds:List DM):Prop where
 LY:FY W A n c ds
 row:WZ W A c
 Eb: ∀d∈ds,dV W d.1.A d.1.n d.1.c d.2
theorem We{P:Program}{enc:Am×AQ->H}{sp:Nat->Bool}{v1:AQ}{y:Dt H×List GZ}(ht:P.underlying t=AA (.slice e))(h1:DataW.trod enc P W 0 sp held n t [v1]=AA y): ∃a l c,v1=.slice a l c:=by
 rcases open_slice ht h1 with ⟨h1,_⟩|⟨a,len,cap,m,n,D,Pl,h1,_⟩;simp at h1;exact⟨_,_,_,h1⟩;simp at h1;exact⟨_,_,_,h1⟩
theorem ja{enc:Am×AQ->H}(ht:Tryz.prog.underlying t=AA (.slice e))(he:Tryz.prog.cellsOf e=1){a:Option Af}{l:Nat}{y:Dt H×List GZ}
  (h:DataW.trod enc Tryz.prog W 0 (λ_=>true) held n t [.slice a l c]=AA y):WZ W a c:=λad e0 hc=>by
 subst e0;rcases open_slice1 ht he h with ⟨h1,_⟩|⟨a2,len,cap,m,n,V,D,Pl,hcs,hb,hl,hm,hmm,hx,hi⟩;simp at h1;simp at hcs;obtain⟨rfl,rfl,rfl⟩:=hcs;have:=cells_of_cell (hi 0 (by rw[hmm];simpa using hc)).1;rwa[add_block] at this
theorem jb{enc:Am×AQ->H}{d:Dt H}
  (hv: ∃a l c,v=.slice a l c) (h:DataW.Trod enc Tryz.prog W 0 (λ_=>true) held 25 v d p):
  ∃A n c,∃fs:List FM,v=.slice A n c/\dV W A n c fs/\(fs.map λx=>x.2.length+1).sum+1<=Rows.uptoBulk d:=by
 obtain⟨a0,l0,c0,rfl⟩:=hv;obtain⟨fuel,hf⟩:=h;rcases Su (e:=64) Tryz.underlying25 Tryz.underlying64 Aq Aq hf with ⟨hcs,hx⟩|⟨a,len,cap,m,D,Pl,hcs,hb,hl,hm,hmm,hx,hi⟩
 ·simp[Ny] at hcs;obtain⟨rfl,rfl,rfl⟩:=hcs;simp only[OM] at hx;obtain⟨rfl,rfl⟩:=hx;exact⟨AB,0,0,[],rfl,⟨⟨Rd.nil _ _,AV⟩,.none,AV⟩,by simp[Rows.uptoBulk]⟩
 simp[Ny] at hcs;obtain⟨rfl,rfl,rfl⟩:=hcs;simp only[OM] at hx;obtain⟨rfl,rfl⟩:=hx;have hle:l0<=m:=by rw[hmm];split<;>omega
 have el: ∀i,i<l0->∃x:FM,(W.cell? (a.add (i*2))=AA (.string x.1.nm)/\W.cell? (a.add (i*2+1))=AA (.slice x.1.A x.1.n x.1.c)/\Rd W 1 x.1.A x.1.n x.1.c (bv x.2)/\WZ W x.1.A x.1.c/\∀z∈x.2,0<=z/\z<=255)/\x.2.length+1<=Rows.uptoBulk (D i):=by
  intro i hil;obtain⟨ys,n',hD,hPl,hyl,hfl⟩:=hi i Aa;obtain⟨v0,y0,e0,g0,t0⟩:=hfl 0 _ rfl;obtain⟨v1,y1,e1,g1,t1⟩:=hfl 1 _ rfl;obtain⟨nm,h0,hy0,_⟩:=DataW.trod_string Tryz.underlying9 t0;simp at h0;subst h0;obtain⟨a1,l1,c1,rfl⟩:=We Tryz.underlying62 t1;obtain⟨A1,n1,cc1,zs,hz1,hz2,hz3,hz4,hz5⟩:=AHi Tryz.underlying62 Tryz.underlying5 Aq ⟨_,_,_,rfl⟩ ⟨n',t1⟩;injection hz1 with i1 i2 i3;subst i1;subst i2;subst i3;refine⟨(⟨nm,a1,l1,c1⟩,zs),⟨by simpa using e0,e1,hz2,ja Tryz.underlying62 Aq t1,λz hz=>bounds_u8 (hz5 z hz)⟩,?_⟩;rw[hD]
  have hys:ys=[y0,y1]:=by
   match ys,hyl with| [z0,z1],_=>simp at g0 g1;rw[g0,g1]
  rw[hys];simp only[BN,EJ,Rows.uptoBulk,Rows.uptoBulkAll,hz3];omega
 obtain⟨fs,hll,hlp⟩:=collect l0 el;have hs:=ZN D l0 fs (λx=>x.2.length+1) hll (λi z hz=>(hlp i z hz).2);refine⟨AA a,l0,c0,fs,rfl,⟨⟨AGq (by simp[EZ,hll]) hl hm (λi x hx=>?_),λf hf=>?_⟩,(λad e hc=>by injection e with e;subst e;obtain⟨ys,n',_,_,_,hfl⟩:=hi 0 (by rw[hmm];simpa using hc);obtain⟨v0,y0,e0,_,_⟩:=hfl 0 _ rfl;have:=cells_of_cell e0;rwa[add_block] at this),λf hf=>?_⟩,?_⟩
 ·unfold EZ at hx;rw[Bg] at hx
  cases hz:fs[i]? with
  |none=>rw[hz] at hx;cases hx|some z=>
   rw[hz] at hx;simp at hx;subst hx;exact⟨(hlp i z hz).1.1,(hlp i z hz).1.2.1⟩
 ·obtain⟨i,hi'⟩:=RP hf;exact (hlp i f hi').1.2.2.1
 ·obtain⟨i,hi'⟩:=RP hf;exact (hlp i f hi').1.2.2.2
 simp only[Rows.uptoBulk];omega
theorem AFY{enc:Am×AQ->H}{d:Dt H}
  (hv: ∃a l c,v=.slice a l c) (h:DataW.Trod enc Tryz.prog W 0 (λ_=>true) held 22 v d p):
  ∃A n c,∃ds:List DM,v=.slice A n c/\AFX W A n c ds/\Fj (BF ds)+1<=Rows.uptoBulk d:=by
 obtain⟨a0,l0,c0,rfl⟩:=hv;obtain⟨fuel,hf⟩:=h;rcases Su (e:=77) Tryz.underlying22 Tryz.underlying77 Aq Aq hf with ⟨hcs,hx⟩|⟨a,len,cap,m,D,Pl,hcs,hb,hl,hm,hmm,hx,hi⟩
 ·simp[Ny] at hcs;obtain⟨rfl,rfl,rfl⟩:=hcs;simp only[OM] at hx;obtain⟨rfl,rfl⟩:=hx;exact⟨AB,0,0,[],rfl,⟨⟨Rd.nil _ _,AV⟩,.none,AV⟩,by simp[Rows.uptoBulk,Fj,BF]⟩
 simp[Ny] at hcs;obtain⟨rfl,rfl,rfl⟩:=hcs;simp only[OM] at hx;obtain⟨rfl,rfl⟩:=hx;have hle:l0<=m:=by rw[hmm];split<;>omega
 have el: ∀i,i<l0->∃x:DM,(W.cell? (a.add (i*2))=AA (.string x.1.nm)/\W.cell? (a.add (i*2+1))=AA (.slice x.1.A x.1.n x.1.c)/\dV W x.1.A x.1.n x.1.c x.2)/\(x.2.map λf=>f.2.length+1).sum+1<=Rows.uptoBulk (D i):=by
  intro i hil;obtain⟨ys,n',hD,hPl,hyl,hfl⟩:=hi i Aa;obtain⟨v0,y0,e0,g0,t0⟩:=hfl 0 _ rfl;obtain⟨v1,y1,e1,g1,t1⟩:=hfl 1 _ rfl;obtain⟨nm,h0,hy0,_⟩:=DataW.trod_string Tryz.underlying9 t0;simp at h0;subst h0;obtain⟨a1,l1,c1,rfl⟩:=We Tryz.underlying25 t1;obtain⟨A1,n1,cc1,zs,hz1,hz2,hz4⟩:=jb ⟨_,_,_,rfl⟩ ⟨n',t1⟩;injection hz1 with i1 i2 i3;subst i1;subst i2;subst i3;refine⟨(⟨nm,a1,l1,c1⟩,zs),⟨by simpa using e0,e1,hz2⟩,?_⟩;rw[hD]
  have hys:ys=[y0,y1]:=by
   match ys,hyl with| [z0,z1],_=>simp at g0 g1;rw[g0,g1]
  rw[hys];simp only[BN,EJ,Rows.uptoBulk,Rows.uptoBulkAll];omega
 obtain⟨fs,hll,hlp⟩:=collect l0 el;(have hbk:Fj (BF fs)=(fs.map λx=>(x.2.map λf=>f.2.length+1).sum+1).sum:=by unfold Fj BF;rw[Eo];congr 1;apply Hu;intro x _;simp[BB,Function.comp_def]);have hs:=ZN D l0 fs (λx=>(x.2.map λf=>f.2.length+1).sum+1) hll (λi z hz=>(hlp i z hz).2);refine⟨AA a,l0,c0,fs,rfl,⟨⟨AGq (by simp[EP,hll]) hl hm (λi x hx=>?_),λf hf=>?_⟩,(λad e hc=>by injection e with e;subst e;obtain⟨ys,n',_,_,_,hfl⟩:=hi 0 (by rw[hmm];simpa using hc);obtain⟨v0,y0,e0,_,_⟩:=hfl 0 _ rfl;have:=cells_of_cell e0;rwa[add_block] at this),λf hf=>?_⟩,?_⟩
 ·unfold EP at hx;rw[Bg] at hx
  cases hz:fs[i]? with
  |none=>rw[hz] at hx;cases hx|some z=>
   rw[hz] at hx;simp at hx;subst hx;exact⟨(hlp i z hz).1.1,(hlp i z hz).1.2.1⟩
 ·obtain⟨i,hi'⟩:=RP hf;exact (hlp i f hi').1.2.2.files
 ·obtain⟨i,hi'⟩:=RP hf;exact (hlp i f hi').1.2.2
 rw[hbk];simp only[Rows.uptoBulk];omega
theorem ADH{enc:Am×AQ->H}{b:Nat}{r:Go.Reach}{d:Dt H}
  (hv:Value.okWide Tryz.prog W r b 24 v) (h:DataW.Trod enc Tryz.prog W 0 (λ_=>true) held 24 v d p):
  ∃A n c,∃ds:List DM,∃q:Int,v=.agg #[.slice A n c,.int .i64 q]/\AFX W A n c ds/\q<=9223372036854775807/\Fj (BF ds)+1<=Rows.uptoBulk d:=by
 obtain⟨cs,rfl,hsz⟩:=okWide_struct Tryz.underlying24 hv;obtain⟨c0,c1,rfl⟩:=array2 (hsz.trans Aq);obtain⟨fuel,hf⟩:=h;obtain⟨y0,y1,m,hx,hl,h0,h1⟩:=trod_struct2 Tryz.underlying24 (by simpa[Ny] using hf);simp only[OM] at hx;obtain⟨rfl,rfl⟩:=hx;(have e0:Tryz.prog.cellsOf 22=1:=by kernel_rfl);(have e1:Tryz.prog.cellsOf 3=1:=by kernel_rfl);simp only[e0,e1,YO,mQ,eU,lL] at h0 h1;obtain⟨a,l,c,hc⟩:=slice_form Tryz.underlying22 h0;simp only[Ib,and_true] at hc;subst hc;obtain⟨A,n0,cc,ds,k1,k2,k3⟩:=AFY ⟨_,_,_,rfl⟩ ⟨m,by simpa[Ny] using h0⟩;injection k1 with i1 i2 i3;subst i1;subst i2;subst i3;obtain⟨q,hq,_,hw⟩:=DataW.trod_int Tryz.underlying3 h1;simp only[Ib,and_true] at hq;subst hq;refine⟨_,_,_,ds,q,rfl,k2,AUI hw,?_⟩;simp only[Rows.uptoBulk,Rows.uptoBulkAll];omega
theorem AAu{enc:Am×AQ->H}{c0 c1:AQ}{y:Dt H×List GZ}(h:DataW.trod enc Tryz.prog W 0 (λ_=>true) held n 30 [c0,c1]=AA y):
  ∃K kn kc,∃ks:List Bool,∃names:Int,c0=.slice K kn kc/\c1=.int .i64 names/\Rd W 1 K kn kc (kv ks)/\WZ W K kc/\kn+1<=Rows.uptoBulk y.1:=by
 obtain⟨y0,y1,m,hx,hl,h0,h1⟩:=trod_struct2 Tryz.underlying30 h;subst hx;(have e0:Tryz.prog.cellsOf 28=1:=by kernel_rfl);(have e1:Tryz.prog.cellsOf 3=1:=by kernel_rfl);simp only[e0,e1,YO,mQ,eU,lL] at h0 h1;obtain⟨a,l,c,hc⟩:=slice_form Tryz.underlying28 h0;simp only[Ib,and_true] at hc;subst hc;obtain⟨A2,n2,cc2,ks,k1,k2,k3,k4⟩:=AFC Tryz.underlying28 Tryz.underlying4 Aq ⟨_,_,_,rfl⟩ ⟨m,by simpa[Ny] using h0⟩;injection k1 with i1 i2 i3;subst i1;subst i2;subst i3;obtain⟨q,hq,_,_⟩:=DataW.trod_int Tryz.underlying3 h1;simp only[Ib,and_true] at hq;subst hq;refine⟨_,_,_,ks,q,rfl,rfl,k2,ja Tryz.underlying28 Aq h0,?_⟩;simp only[Rows.uptoBulk,Rows.uptoBulkAll];omega
section
variable {W w':AL} (hcar: ∀(a:Af) (x:AQ),W.cell? a=AA x->∃v,w'.cell? a=AA v/\Sh (PD (JP W)) v x) (hsz:W.heap.size<=w'.heap.size)
theorem Qm{x:AQ}(h:Sh (PD (JP W)) v x)(hx:flat x=true):v=x:=h.AAK (.flat hx)
theorem AH7(h:Sh (PD (JP W)) v (.slice A n c))(hA:WZ W A c)(hn:n<=c):v=.slice A n c\/(n=0/\c=0/\∃b,v=.slice (AA b) 0 0):=by
 cases A with
 |none=>exact .inl (Qm h rfl)|some ad=>
  rcases PK c with rfl|hc
  ·(obtain rfl:n=0:=by omega);exact .inr ⟨rfl,rfl,h.AMo⟩
  exact .inl (h.AAK (.slice ⟨rfl,hA ad rfl hc⟩))
include hcar hsz
theorem AAv(h:Rd W sz A n c xs)(hA:WZ W A c)(hv:Sh (PD (JP W)) v (.slice A n c)):
  ∃A' xs',v=.slice A' n c/\Rd w' sz A' n c xs'/\∀(i:Nat) x,xs[i]? =AA x->∃x',xs'[i]? =AA x'/\Sh (PD (JP W)) x' x:=by
 rcases AH7 hv hA h.2.1 with rfl|⟨rfl,rfl,b,rfl⟩
 ·cases A with
  |none=>
   have hn:=h.2.2.2.1 rfl
   have hx:xs=[]:=by
    have h1:=h.1;have h2:=h.2.1;rw[show n=0 by omega] at h1;simpa using h1
   subst hx;exact⟨AB,[],rfl,⟨h.1,h.2.1,h.2.2.1,h.2.2.2.1,λad e=>by cases e⟩,λi x hx=>by simp at hx⟩
  |some ad=>
   obtain⟨Z,hZ,hz⟩:=collect (Q:=λi (v:AQ)=>w'.cell? (ad.add i)=AA v/\∀x,xs[i]? =AA x->Sh (PD (JP W)) v x) xs.length (λi hi=>by
    obtain⟨v,h1,h2⟩:=hcar _ _ ((h.2.2.2.2 ad rfl).2 i _ (CB hi))
    exact⟨v,h1,λx hx=>by rw[CB hi] at hx;cases hx;exact h2⟩)
   refine⟨AA ad,Z,rfl,⟨by rw[hZ];exact h.1,h.2.1,h.2.2.1,h.2.2.2.1,λad' e=>?_⟩,λi x hx=>?_⟩
   ·injection e with e;subst e;exact⟨λhn=>EY ((h.2.2.2.2 ad rfl).1 hn) hsz,λj u hu=>(hz j u hu).1⟩
   have hl:=(CP.1 hx).1;obtain⟨z,hz'⟩: ∃z,Z[i]? =AA z:=⟨_,CB Aa⟩;exact⟨z,hz',(hz i z hz').2 x hx⟩
 have hx:xs=[]:=by
  have:=h.1;simpa using this
 subst hx;exact⟨AA b,[],rfl,⟨AV,Bc _,Dn _,(λe=>by cases e),λad e=>⟨λh=>Ak h Aa,λj u hu=>by simp at hu⟩⟩,λi x hx=>by simp at hx⟩
theorem ADI(h:Rd W sz A n c xs)(hA:WZ W A c)(hv:Sh (PD (JP W)) v (.slice A n c))(hf: ∀x∈xs,flat x=true): ∃A',v=.slice A' n c/\Rd w' sz A' n c xs:=by
 obtain⟨A',xs',h1,h2,h3⟩:=AAv hcar hsz h hA hv
 have:xs'=xs:=by
  apply OQ;intro i
  cases hx:xs[i]? with
  |none=>
   rw[IG];have:=yw.1 hx;have:=h.1;have:=h2.1;omega
  |some x=>
   obtain⟨x',h4,h5⟩:=h3 i x hx;rw[h4,Qm h5 (hf x (Bq hx))]
 exact⟨A',h1,by rw[<- this];exact h2⟩
theorem qp{fs:List FM}(h:dV W A n c fs)(hv:Sh (PD (JP W)) v (.slice A n c)): ∃A' fs',v=.slice A' n c/\ER w' A' n c fs'/\BB fs'=BB fs:=by
 obtain⟨A',xs',h1,h2,h3⟩:=AAv hcar hsz h.files.row h.row hv;have hl:=h.files.row.MV
 obtain⟨Z,hZ,hz⟩:=collect (Q:=λi (z:FM)=>xs'[i*2]? =AA (.string z.1.nm)/\xs'[i*2+1]? =AA (.slice z.1.A z.1.n z.1.c)/\Rd w' 1 z.1.A z.1.n z.1.c (bv z.2)/\∀f,fs[i]? =AA f->(z.1.nm,z.2)=(f.1.nm,f.2)) fs.length (λi hi=>by
  obtain⟨f,hf⟩: ∃f,fs[i]? =AA f:=⟨_,CB hi⟩;(have hff:(EZ fs)[i]? =AA f.1:=by unfold EZ;rw[Bg,hf];rfl);have g0:=Qh (EZ fs) i 0 Ar;have g1:=Qh (EZ fs) i 1 Ar;rw[hff] at g0 g1;obtain⟨u0,k0,l0⟩:=h3 (i*2) (.string f.1.nm) (by simpa[Ir.cells] using g0);obtain⟨u1,k1,l1⟩:=h3 (i*2+1) (.slice f.1.A f.1.n f.1.c) (by simpa[Ir.cells] using g1);obtain rfl:=Qm l0 rfl;have hm:=Bq hf;obtain⟨B,rfl,hB⟩:=ADI hcar hsz (h.files.dat f hm) (h.dat f hm).1 l1 (λx hx=>by obtain⟨z,_,rfl⟩:=Bv.1 hx;rfl)
  exact⟨(⟨f.1.nm,B,f.1.n,f.1.c⟩,f.2),k0,k1,hB,λf' hf'=>by rw[hf] at hf';cases hf';rfl⟩)
 have hxl:xs'.length=Z.length*2:=by
  have a1:=h2.1;unfold EZ at hl;rw[DY] at hl;omega
 have hxs:xs'=Ho (EZ Z):=by
  apply OQ;intro j;have hj:=Qh (EZ Z) (j/2) (j % 2) (ae _ Ar);rw[show j/2*2+j % 2=j by omega] at hj;rw[hj];(have e1:(EZ Z)[j/2]? =(Z[j/2]?).map (·.1):=by unfold EZ;rw[Bg]);rw[e1]
  cases hzz:Z[j/2]? with
  |none=>
   have:=yw.1 hzz;rw[IG Aa];rfl
  |some z=>
   obtain⟨q0,q1,_,_⟩:=hz (j/2) z hzz;rcases yl j with e|e
   ·rw[show j/2*2=j by omega] at q0;rw[q0,e];rfl
   rw[show j/2*2+1=j by omega] at q1;rw[q1,e];rfl
 refine⟨A',Z,h1,⟨by rw[<- hxs];exact h2,λf hf=>?_⟩,?_⟩
 ·obtain⟨i,hi⟩:=RP hf;exact (hz i f hi).2.2.1
 unfold BB;apply OQ;intro i;rw[Bg,Bg];by_cases hi:i<fs.length
 ·obtain⟨f,hf⟩: ∃f,fs[i]? =AA f:=⟨_,CB hi⟩;obtain⟨z,hzz⟩: ∃z,Z[i]? =AA z:=⟨_,CB Aa⟩;rw[hf,hzz];exact congrArg AA ((hz i z hzz).2.2.2 f hf)
 rw[IG Aa,IG Aa]
theorem AH8{ds:List DM}(h:AFX W A n c ds)(hv:Sh (PD (JP W)) v (.slice A n c)): ∃A' ds',v=.slice A' n c/\FY w' A' n c ds'/\BF ds'=BF ds:=by
 obtain⟨A',xs',h1,h2,h3⟩:=AAv hcar hsz h.LY.row h.row hv;have hl:=h.LY.row.MV
 obtain⟨Z,hZ,hz⟩:=collect (Q:=λi (z:DM)=>xs'[i*2]? =AA (.string z.1.nm)/\xs'[i*2+1]? =AA (.slice z.1.A z.1.n z.1.c)/\ER w' z.1.A z.1.n z.1.c z.2/\∀f,ds[i]? =AA f->(z.1.nm,BB z.2)=(f.1.nm,BB f.2)) ds.length (λi hi=>by
  obtain⟨f,hf⟩: ∃f,ds[i]? =AA f:=⟨_,CB hi⟩;(have hff:(EP ds)[i]? =AA f.1:=by unfold EP;rw[Bg,hf];rfl);have g0:=Qh (EP ds) i 0 Ar;have g1:=Qh (EP ds) i 1 Ar;rw[hff] at g0 g1;obtain⟨u0,k0,l0⟩:=h3 (i*2) (.string f.1.nm) (by simpa[Ir.cells] using g0);obtain⟨u1,k1,l1⟩:=h3 (i*2+1) (.slice f.1.A f.1.n f.1.c) (by simpa[Ir.cells] using g1);obtain rfl:=Qm l0 rfl;have hm:=Bq hf;obtain⟨B,F,rfl,hB,hF⟩:=qp hcar hsz (h.Eb f hm) l1
  exact⟨(⟨f.1.nm,B,f.1.n,f.1.c⟩,F),k0,k1,hB,λf' hf'=>by rw[hf] at hf';cases hf';rw[hF]⟩)
 have hxl:xs'.length=Z.length*2:=by
  have a1:=h2.1;unfold EP at hl;rw[DY] at hl;omega
 have hxs:xs'=Ho (EP Z):=by
  apply OQ;intro j;have hj:=Qh (EP Z) (j/2) (j % 2) (ae _ Ar);rw[show j/2*2+j % 2=j by omega] at hj;rw[hj];(have e1:(EP Z)[j/2]? =(Z[j/2]?).map (·.1):=by unfold EP;rw[Bg]);rw[e1]
  cases hzz:Z[j/2]? with
  |none=>
   have:=yw.1 hzz;rw[IG Aa];rfl
  |some z=>
   obtain⟨q0,q1,_,_⟩:=hz (j/2) z hzz;rcases yl j with e|e
   ·rw[show j/2*2=j by omega] at q0;rw[q0,e];rfl
   rw[show j/2*2+1=j by omega] at q1;rw[q1,e];rfl
 refine⟨A',Z,h1,⟨by rw[<- hxs];exact h2,λf hf=>?_⟩,?_⟩
 ·obtain⟨i,hi⟩:=RP hf;exact (hz i f hi).2.2.1
 unfold BF;apply OQ;intro i;rw[Bg,Bg];by_cases hi:i<ds.length
 ·obtain⟨f,hf⟩: ∃f,ds[i]? =AA f:=⟨_,CB hi⟩;obtain⟨z,hzz⟩: ∃z,Z[i]? =AA z:=⟨_,CB Aa⟩;rw[hf,hzz];exact congrArg AA ((hz i z hzz).2.2.2 f hf)
 rw[IG Aa,IG Aa]
end
theorem AR0{H:Array Obj}{ts:List AQ}
  (hrow: ∀b,JP W b->∀p t f,W.heap[b]? =AA (.cells p t f)->∃p',H[b]? =AA (.cells p' t f)/\Ue K1.F (PD (JP W)) W.heap.size ts p' p) (t:Nat->Question->Nat)
  (a:Af) (x:AQ) (hc:W.cell? a=AA x): ∃v,(({W with heap:=H}:AL).DN t).cell? a=AA v/\Sh (PD (JP W)) v x:=by
 obtain⟨p,ty,f,hp⟩:=cells_of_cell hc;obtain⟨p',hp',hsz,hst⟩:=hrow _ ⟨p,ty,f,hp⟩ p ty f hp;unfold Pz at hc⊢;rw[hp] at hc;rw[show (({W with heap:=H}:AL).DN t).heap[a.block]? =H[a.block]? from rfl,hp'];by_cases hs:a.spot.isSome;simp[hs] at hc;simp only[hs,DF,if_false] at hc⊢;(have hlt:a.off<p'.size:=by rw[hsz];exact (Dj.1 hc).1);obtain⟨v,hv⟩: ∃v,p'[a.off]? =AA v:=⟨_,Fa hlt⟩;exact⟨v,hv,(hst a.off v x hv hc).2⟩
end
theorem Yj(e:Int)(w:AL):Au Ag 38 #[.int .i64 e] w λr w'=>r=.returned (if e=0 then .nilIface else .iface 51 (.int .i64 e))/\w'=w:=by
 by_cases h:e=0
 ·subst h;go_enter AJy,Tryz.ntmps38;go_wp2;go_ret;exact⟨rfl,rfl⟩
 (have hb:(e==0)=false:=by simp[h]);(have hd:decide (e=0)=false:=by simp[h]);simp only[BM h];clear h;go_enter AJy,Tryz.ntmps38;go_wp2;go_ret;exact⟨rfl,rfl⟩
theorem wrap_nil(op:ByteArray)(pl:Int)(w:AL):Au Ag 37 #[.string op,.int .i64 pl,.nilIface] w λr w'=>r=.returned .nilIface/\w'=w:=by
 go_enter AJx,Tryz.ntmps37;go_wp2;go_ret;exact⟨rfl,rfl⟩
theorem Yk(op:ByteArray)(pl:Int)(t:Am)(v:AQ)(w:AL):Au Ag 37 #[.string op,.int .i64 pl,.iface t v] w λr w'=>r=.returned (.iface 140 (.pointer (AA ⟨w.heap.size,0,AB⟩)))/\w'=w.alloc (.cells #[.string op,.int .i64 pl,.iface t v] 142):=by
 go_enter AJx,Tryz.ntmps37;go_wp2;go_ret;exact⟨rfl,rfl⟩
theorem AH9(t:Am)(v:AQ)(w:AL):Au Ag 40 #[.iface t v,.nilIface] w λr w'=>r=.returned (.iface t v)/\w'=w:=by
 go_enter AJ0,Tryz.ntmps40;go_wp2;go_ret;exact⟨rfl,rfl⟩
theorem AIA(t u:Am)(v x:AQ)(w:AL):Au Ag 40 #[.iface t v,.iface u x] w λr w'=>r=.returned (.iface 150 (.pointer (AA ⟨w.heap.size,0,AB⟩)))/\w'=w.alloc (.cells #[.iface t v,.iface u x] 152):=by
 go_enter AJ0,Tryz.ntmps40;go_wp2;go_ret;exact⟨rfl,rfl⟩
def idx (s:ByteArray):List ByteArray->Option Nat
 | []=>AB|x::r=>if s=x then AA 0 else (idx s r).map (· +1)
open Classical in
theorem ADJ{s:ByteArray}: ∀{l:List ByteArray},(idx s l).isSome=decide (s∈l)
 | []=>by simp[idx]
 |x::r=>by
  unfold idx;by_cases h:s=x;rw[BZ h];simp[h];rw[BM h,yf,ADJ];simp[h]
theorem AIB{s:ByteArray}{l:List ByteArray}(h: ∀x∈l,s≠x):idx s l=AB:=by
 induction l with|nil=>rfl|cons x r ih=>unfold idx;rw[BM (h x (D7 ..)),ih λy hy=>h y (CO _ hy)];rfl
theorem AGr{s:ByteArray}: ∀{l:List ByteArray} {k:Nat},(∀x∈l.take k,s≠x)->l[k]? =AA s->idx s l=AA k
 | [],k,_,h=>by simp at h|x::r,0,_,h=>by simp at h;unfold idx;rw[BZ h.symm]
 |x::r,k+1,h1,h=>by
  simp at h;unfold idx;rw[BM (h1 x AV),AGr (k:=k) (λy hy=>h1 y (by simp[hy])) h];rfl
def xY (s:ByteArray) (ns:List ByteArray):Int:=match idx s ns with|some k=>(k:Int)|none=> -1
theorem AFZ(A:Option Af)(n c:Nat)(ns:List ByteArray)(s:ByteArray)(w:AL)(h:Rd w 1 A n c (Pm ns))(hn:n<=1073741824):
  Au Ag 128 #[.slice A n c,.string s] w λe w'=>e=.returned (.int .i64 (xY s ns))/\AZ [] w w':=by
 (have hl:ns.length=n:=by have:=h.1;simp[Pm] at this;omega);have HR:=AP h;have HL:=AP hl;clear h hl;go_enter AJ9,Tryz.ntmps128;go_wp2;go_loopw [8] (λi wr=>∃k:Nat,k<=n/\i=.int .i64 k/\AZ [] w wr/\Hid (∀x∈ns.take k,s≠x)) (λi _=>n - (intOf i).toNat)
 case atStart=>exact⟨0,Dn _,rfl,.refl _ _,AP AV⟩
 obtain⟨k,hk,rfl,EX,hF⟩:=hrel;by_cases hlt:k<n
 ·obtain⟨ad,u,rfl,hu,hcell⟩:=(HR.out.Aj EX AV).gU hlt
  obtain⟨x,hx,rfl⟩: ∃x,ns[k]? =AA x/\u=.string x:=by
   simp only[Pm,Bg,J9] at hu;obtain⟨x,h1,h2⟩:=hu;exact⟨x,h1,h2.symm⟩
  have HX:=AP hx;clear hu hx;by_cases he:s=x
  ·(have hb:(s.toList==x.toList)=true:=by rw[<- JE];exact decide_eq_true he);have HE:=AP he;clear he;go_wp2;go_ret;exact⟨by unfold xY;rw[AGr hF.out (by rw[HX.out,HE.out])];rfl,EX⟩
  (have hb:(s.toList==x.toList)=false:=by rw[<- JE];exact decide_eq_false he);have HE:=AP he;clear he;go_wp2;go_roundw
  case rel=>
   refine⟨k+1,Aa,by go_num,EX,AP λy hy=>?_⟩;rw[RQ,HX.out] at hy;rcases Bd.1 hy with hy|hy;exact hF.out y hy;simp at hy;rw[hy];exact HE.out
  simp[intOf];omega
 (have hkn:k=n:=by omega);subst hkn;go_wp2;go_ret;refine⟨?_,EX⟩;have h1:=hF.out;rw[Ep (by rw[HL.out];exact Bc _)] at h1;unfold xY;rw[AIB h1];rfl
theorem AIC(s:ByteArray)(ns:List ByteArray):decide (0<=xY s ns)=(idx s ns).isSome:=by
 unfold xY
 cases idx s ns with|none=>rfl|some k=>simp
theorem uw(A:Option Af)(n c:Nat)(ns:List ByteArray)(s:ByteArray)(w:AL)(h:Rd w 1 A n c (Pm ns))(hn:n<=1073741824):
  Au Ag 96 #[.slice A n c,.string s] w λe w'=>e=.returned (.bool (idx s ns).isSome)/\AZ [] w w':=by
 have k1:=AFZ A n c ns s w h hn;rw[<- AIC];clear h
 generalize xY s ns=z at*
 have q1:= @AQt;go_enter AOF,Tryz.ntmps96;(go_wp2_with (go_at_call 128;refine k1.mono ?_;rintro e w1 ⟨rfl,hc1⟩));go_ret;exact⟨rfl,hc1⟩
section
variable {B:Nat}{S S':St}{w:AL}
def BP:ByteArray:={data:=#[46,115,116,97,103,101]}
def St.EL (d:ByteArray) (S:St):List ByteArray->St×Int
 | []=>(S,0)|n::r=>if (S.remove d n).2=0 then St.EL d (S.remove d n).1 r else S.remove d n
theorem AID{d:ByteArray}{l:List ByteArray}{j:Nat}{x:ByteArray}(h:l[j]? =AA x):St.EL d S (l.drop j)=if (S.remove d x).2=0 then St.EL d (S.remove d x).1 (l.drop (j+1)) else S.remove d x:=by
 obtain⟨hl,rfl⟩:=CP.1 h;rw[YI hl];rfl
def St.MG (d:ByteArray) (S:St) (l:List ByteArray):St×Int:=
 if (St.EL d S l).2=0 then (if ((St.EL d S l).1.rmdir d).2=0 then ((St.EL d S l).1.rmdir d).1.names else (St.EL d S l).1.rmdir d) else St.EL d S l
def St.clean (S:St):St×Int:=
 if S.LY.2=0 then (if (idx BP S.LY.1).isSome=true then (if (S.list BP).2=0 then S.MG BP (S.list BP).1 else (S,(S.list BP).2)) else (S,0)) else (S,S.LY.2)
theorem Inv.EL{B:Nat}(d:ByteArray): ∀(l:List ByteArray) {S:St},Inv B S->Inv (B+l.length) (St.EL d S l).1
 | [],S,h=>h
 |n::r,S,h=>by
  unfold St.EL;by_cases h0:(S.remove d n).2=0
  ·rw[BZ h0];have:=Inv.EL d r (h.remove d n);exact this.mono (by simp only[EU];omega)
  rw[BM h0];exact (h.remove d n).mono (by simp only[EU];omega)
theorem xZ(h:Inv B S)(d:ByteArray):(S.list d).1.length<=B:=by
 unfold St.list;split;simp;simp only[DY];unfold FO
 cases hf:BK S.seen d with
 |none=>simp|some F=>
  have:=AAX (CQ hf);have:=h.wd
  simp only at*
  simp only[Dx];omega
theorem AIE(h:Inv B S):S.LY.1.length<=B:=by
 unfold St.LY;split;simp;have:=AAW S.seen;have:=h.wd;simp only[DY];omega
theorem Inv.clean{B:Nat}{S:St}(h:Inv B S):Inv (2*B+2) S.clean.1:=by
 have hl:=xZ h BP;have h1:=h.EL BP (S.list BP).1;have h2:=h1.rmdir BP;have h3:=h2.names;unfold St.clean;split
 ·split
  ·split
   ·unfold St.MG;split
    ·split;exact h3.mono Aa;exact h2.mono Aa
    exact h1.mono Aa
   exact h.mono Aa
  exact h.mono Aa
 exact h.mono Aa
theorem DK.remove{w w1:AL}{G:Bi}{S1:St}{B:Nat}(h:DK w G S1 w1)(hi:Inv B S1)(hB:B<=1073741824)(d n:ByteArray):
  Au Ag 98 #[.pointer (AA ⟨G.b,0,AB⟩),.string d,.string n] w1 λe w2=>e=.returned (.int .i64 (S1.remove d n).2)/\DK w G (S1.remove d n).1 w2:=by
 obtain⟨G1,h1,h2,h3,h4⟩:=h;rw[<- h2];exact (AFP h1 hi hB d n).mono λe w2 ⟨he,ht⟩=>⟨he,ht.trans h3 h2 h4⟩
theorem DK.rmdir{w w1:AL}{G:Bi}{S1:St}{B:Nat}(h:DK w G S1 w1)(hi:Inv B S1)(hB:B<=1073741824)(d:ByteArray):
  Au Ag 99 #[.pointer (AA ⟨G.b,0,AB⟩),.string d] w1 λe w2=>e=.returned (.int .i64 (S1.rmdir d).2)/\DK w G (S1.rmdir d).1 w2:=by
 obtain⟨G1,h1,h2,h3,h4⟩:=h;rw[<- h2];exact (AHu h1 hi hB d).mono λe w2 ⟨he,ht⟩=>⟨he,ht.trans h3 h2 h4⟩
theorem ADK{G:Bi}(h:EH w G S)(hi:Inv B S)(hB:2*B+2<=1073741824):
  Au Ag 64 #[.pointer (AA ⟨G.b,0,AB⟩)] w λe w'=>e=.returned (.int .i64 S.clean.2)/\DK w G S.clean.1 w':=by
 have HF:=AP h;have HI:=AP hi;have hL1:=AIE hi;have hL2:=xZ hi BP;clear h hi;have q1:= @ATY;have q2:= @ATZ;have q3:= @ATa;have q4:= @ATb;have q5:= @ATc;have q6:= @AOP;obtain⟨ds,hds⟩: ∃ds,S.LY.1=ds:=⟨_,rfl⟩;obtain⟨de,hde⟩: ∃de,S.LY.2=de:=⟨_,rfl⟩;obtain⟨ls,hls⟩: ∃ls,(S.list BP).1=ls:=⟨_,rfl⟩;obtain⟨le,hle⟩: ∃le,(S.list BP).2=le:=⟨_,rfl⟩;have HC:Hid (S.clean=if de=0 then (if (idx BP ds).isSome=true then (if le=0 then S.MG BP ls else (S,le)) else (S,0)) else (S,de)):=AP (by unfold St.clean;rw[hds,hde,hls,hle]);(have HD:Hid (∀w,EH w G S->Au Ag 95 #[.pointer (AA ⟨G.b,0,AB⟩)] w (dK 9 w (Pm ds) ds.length de)):=AP λw hf=>by have:=AKs hf HI.out Aa;rwa[hds,hde] at this);(have HLL:Hid (∀w,EH w G S->Au Ag 97 #[.pointer (AA ⟨G.b,0,AB⟩),.string BP] w (dK 9 w (Pm ls) ls.length le)):=AP λw hf=>by have:=AKt hf HI.out Aa BP;rwa[hls,hle] at this);rw[hds] at hL1;rw[hls] at hL2;clear hds hde hls hle;unfold BP at HLL;go_enter ANz,Tryz.ntmps64;(go_wp2_with fail);refine (HD.out _ HF.out).mono ?_;rintro e w1 ⟨A1,c1,rfl,ho1,hc1,hn1⟩;have qI:=AP ho1;have CZ:=AP hc1;clear ho1 hc1 hn1;by_cases hde:de=0
 ·subst hde;(go_wp2_with fail);refine (uw A1 ds.length c1 ds _ w1 qI.out.rd Aa).mono ?_;rintro e w2 ⟨rfl,hc2⟩;have HC2:=AP (CZ.out.Ah hc2);clear hc2
  cases hb:(idx {data:=#[46,115,116,97,103,101]} ds).isSome with
  |false=>
   go_wp2;go_ret;(have:S.clean=(S,0):=by rw[HC.out,BZ trivial,BM (by show ¬(idx {data:=#[46,115,116,97,103,101]} ds).isSome=true;rw[hb];decide)]);rw[this];exact⟨rfl,.same HF.out HC2.out⟩
  |true=>
   (have hcl:S.clean=if le=0 then S.MG BP ls else (S,le):=by rw[HC.out,BZ trivial,BZ (show (idx BP ds).isSome=true from hb)]);have Uk:=AP hcl;clear hcl hb;(go_wp2_with fail);refine (HLL.out _ (HF.out.CX HC2.out)).mono ?_;rintro e w3 ⟨A3,c3,rfl,ho3,hc3,hn3⟩;have HO3:=AP ho3;have Ff:=AP (HC2.out.Ah hc3);have HN3:=AP hn3;clear ho3 hc3 hn3;by_cases hle:le=0
   ·subst hle;(have hcl:S.clean=S.MG BP ls:=by rw[Uk.out,BZ rfl]);have AO6:=AP hcl;clear hcl Uk;have hlo:Hid (ls.length<=B):=AP hL2;go_wp2;go_loopw [33] (λi wr=>∃(k:Nat) (S1:St),k<=ls.length/\i=.int .i64 k/\Hid (Inv (B+k) S1)/\DK w3 G S1 wr/\Hid (S.EL BP ls=S1.EL BP (ls.drop k))) (λi _=>ls.length - (intOf i).toNat)
    case atStart=>exact⟨0,S,Dn _,rfl,HI,.same (HF.out.CX Ff.out) (.refl _ _),AP rfl⟩
    obtain⟨k,S1,hk,rfl,hI1,hT1,hE1⟩:=hrel;by_cases hlt:k<ls.length
    ·obtain⟨ad,u,rfl,hu,hcell⟩:=(HO3.out.rd.Aj hT1.Aj (λx hx hm=>by have:=HN3.out x hx;have:=HF.out.lt x hm;have:=HC2.out.size;omega)).gU hlt
     obtain⟨x,hx,rfl⟩: ∃x,ls[k]? =AA x/\u=.string x:=by
      simp only[Pm,Bg,J9] at hu;obtain⟨x,h1,h2⟩:=hu;exact⟨x,h1,h2.symm⟩
     have hE2:=hE1.out;rw[AID hx] at hE2;obtain⟨S2,hS2⟩: ∃S2,(S1.remove BP x)=S2:=⟨_,rfl⟩;obtain⟨S2,e2⟩:=S2;have hI2:Inv (B+(k+1)) S2:=by have:=hI1.out.remove BP x;rw[hS2] at this;exact this
     have hR:Hid (∀w1,DK w3 G S1 w1->Au Ag 98 #[.pointer (AA ⟨G.b,0,AB⟩),.string BP,.string x] w1 λe w2=>e=.returned (.int .i64 e2)/\DK w3 G S2 w2):=AP λw1 hf=>by
      have:=hf.remove hI1.out Aa BP x;rw[hS2] at this;exact this
     rw[hS2] at hE2;have HE2:=AP hE2;have HI2:=AP hI2;have HT1:=AP hT1;clear hE2 hI2 hT1 hS2 hE1 hI1 hu hx;(go_wp2_with fail);refine (hR.out _ HT1.out).mono ?_;rintro e w4 ⟨rfl,hT2⟩;have HT2:=AP hT2;clear hT2;by_cases he:e2=0
     ·subst he;go_wp2;go_roundw
      case rel=>
       refine⟨k+1,S2,Aa,by go_num,HI2,HT2.out,AP ?_⟩;rw[HE2.out,BZ trivial]
      simp[intOf];omega
     (have hd:(e2==0)=false:=by simp[he]);(have hd2:decide (e2=0)=false:=by simp[he]);have HX:=AP he;clear he;go_wp2;go_ret;have h1:=HE2.out;rw[BM HX.out] at h1;rw[AO6.out];unfold St.MG;rw[h1,BM HX.out];exact⟨rfl,.before Ff.out HT2.out⟩
    (have hkn:k=ls.length:=by omega);subst hkn;have h1:=hE1.out;rw[RS (Bc _)] at h1;obtain⟨S2,hS2⟩: ∃S2,S1.rmdir BP=S2:=⟨_,rfl⟩;obtain⟨S2,e2⟩:=S2;have hI2:Inv (B+(ls.length+1)) S2:=by have:=hI1.out.rmdir BP;rw[hS2] at this;exact this
    have hR:Hid (∀w1,DK w3 G S1 w1->Au Ag 99 #[.pointer (AA ⟨G.b,0,AB⟩),.string BP] w1 λe w2=>e=.returned (.int .i64 e2)/\DK w3 G S2 w2):=AP λw1 hf=>by
     have:=hf.rmdir hI1.out Aa BP;rw[hS2] at this;exact this
    have hcl:=AO6.out;unfold St.MG at hcl;have h2:S.EL BP ls=(S1,0):=h1;rw[h2] at hcl;simp only[if_true,hS2] at hcl;have ALH:=AP hcl;have HI2:=AP hI2;have HT1:=AP hT1;clear hcl h1 h2 hI2 hT1 hS2 hE1 hI1;(go_wp2_with fail);refine (hR.out _ HT1.out).mono ?_;rintro e w4 ⟨rfl,hT2⟩;have HT2:=AP hT2;clear hT2;by_cases he:e2=0
    ·subst he;have hcl:=ALH.out;have AUJ:=AP hcl;clear hcl ALH;(go_wp2_with fail);refine (HT2.out.names HI2.out Aa).mono ?_;rintro e w5 ⟨rfl,hT3⟩;go_wp2;go_ret;have h3:=AUJ.out;simp only[if_true] at h3;rw[h3];exact⟨rfl,.before Ff.out hT3⟩
    (have hd:(e2==0)=false:=by simp[he]);(have hd2:decide (e2=0)=false:=by simp[he]);have HX:=AP he;clear he;go_wp2;go_ret;rw[ALH.out,BM HX.out];exact⟨rfl,.before Ff.out HT2.out⟩
   (have hd:(le==0)=false:=by simp[hle]);(have hd2:decide (le=0)=false:=by simp[hle]);have HX:=AP hle;clear hle;go_wp2;go_ret;rw[Uk.out,BM HX.out];exact⟨rfl,.same HF.out Ff.out⟩
 (have hd:(de==0)=false:=by simp[hde]);(have hd2:decide (de=0)=false:=by simp[hde]);have HX:=AP hde;clear hde;go_wp2;go_ret;rw[HC.out,BM HX.out];exact⟨rfl,.same HF.out CZ.out⟩
structure LD where
 op:ByteArray
 pl:Int
 cd:Int
def RJ (w:AL) (b:Nat) (v:AQ) (f:LD):Prop:=v=.iface 140 (.pointer (AA ⟨b,0,AB⟩))/\Bl w b 142 #[.string f.op,.int .i64 f.pl,.iface 51 (.int .i64 f.cd)]/\f.cd≠0
def JK (w:AL) (v:AQ):List Nat->List LD->Prop
 | [],[]=>v=.nilIface| [b],[f]=>RJ w b v f| [b,c,d],[f,g]=>∃x y,v=.iface 150 (.pointer (AA ⟨b,0,AB⟩))/\Bl w b 152 #[x,y]/\RJ w c x f/\RJ w d y g|_,_=>False
theorem RJ.Aj{w w':AL}{b:Nat}{v:AQ}{f:LD}{M:List Nat}(h:RJ w b v f)(hc:AZ M w w')(hb:b∉M):RJ w' b v f:=⟨h.1,h.2.1.Aj hc hb,h.2.2⟩
theorem JK.Aj{w w':AL}{v:AQ}{L:List Nat}{fs:List LD}{M:List Nat}(h:JK w v L fs)(hc:AZ M w w')(hb: ∀b∈L,b∉M):JK w' v L fs:=by
 unfold JK at*
 split at h;exact h;exact h.Aj hc (hb _ AV)
 ·obtain⟨x,y,h1,h2,h3,h4⟩:=h;exact⟨x,y,h1,h2.Aj hc (hb _ AV),h3.Aj hc (hb _ AV),h4.Aj hc (hb _ AV)⟩
 exact h
def qw (op:ByteArray) (pl cd:Int):List LD:=if cd=0 then [] else [⟨op,pl,cd⟩]
def TK (w:AL) (G:Bi) (S':St) (fs:List LD) (e:FT) (w':AL):Prop:=
 ∃v G' L,e=.returned v/\JK w' v L fs/\EH w' G' S'/\G'.b=G.b/\(∀x∈G'.all,x∈G.all\/w.heap.size<=x)/\AZ G.all w w'/\∀x∈L,w.heap.size<=x/\x∉G'.all
theorem TK.nil{w':AL}{G:Bi}(h:DK w G S' w'):TK w G S' [] (.returned .nilIface) w':=by
 obtain⟨G',h1,h2,h3,h4⟩:=h;exact⟨_,G',[],rfl,rfl,h1,h2,h3,h4,AV⟩
theorem TK.one{w1:AL}{G:Bi}(h:DK w G S' w1){op:ByteArray}{pl cd:Int}(hcd:cd≠0):TK w G S' (qw op pl cd) (.returned (.iface 140 (.pointer (AA ⟨w1.heap.size,0,AB⟩)))) (w1.alloc (.cells #[.string op,.int .i64 pl,.iface 51 (.int .i64 cd)] 142)):=by
 obtain⟨G',h1,h2,h3,h4⟩:=h;have hal:AZ [] w1 (w1.alloc (.cells #[.string op,.int .i64 pl,.iface 51 (.int .i64 cd)] 142)):=(AZ.refl [] w1).alloc _;refine⟨_,G',[w1.heap.size],rfl,?_,h1.CX hal,h2,h3,h4.Ah hal,?_⟩
 ·unfold qw;rw[BM hcd];exact⟨rfl,.new _ _ _,hcd⟩
 intro x hx;simp only[CJ] at hx;subst hx;exact⟨h4.size,λhm=>by have:=h1.lt _ hm;omega⟩
def Ko (cd:Int):List LD:=qw {data:=#[99,108,101,97,110,117,112]} 0 cd
theorem Yl{G:Bi}(h:EH w G S)(hi:Inv B S)(hB:2*B+2<=1073741824):
  Au Ag 21 #[.pointer (AA ⟨G.b,0,AB⟩)] w (TK w G S.clean.1 (Ko S.clean.2)):=by
 have HF:=AP h;have HI:=AP hi;clear h hi;have q1:= @ATO;have q2:= @AKN;have q3:= @AKM;go_enter ANW,Tryz.ntmps21;(go_wp2_with fail);refine (ADK HF.out HI.out hB).mono ?_
 generalize S.clean=R at*
 obtain⟨S1,cd⟩:=R;rintro e w1 ⟨rfl,hT⟩;have HT:=AP hT;clear hT;by_cases he:cd=0
 ·subst he
  go_wp2_with (first
   |(go_at_call 38;refine (Yj 0 _).mono ?_;rintro e w2 ⟨rfl,rfl⟩)
   |(go_at_call 37;refine (wrap_nil _ _ _).mono ?_;rintro e w3 ⟨rfl,rfl⟩))
  go_ret;exact .nil HT.out
 have HE:=AP he;clear he
 go_wp2_with (first
  |(go_at_call 38;refine (Yj cd _).mono ?_;rintro e w2 ⟨rfl,rfl⟩;rw[BM HE.out])
  |(go_at_call 37;refine (Yk _ _ _ _ _).mono ?_;rintro e w3 ⟨rfl,rfl⟩))
 go_ret;exact .one HT.out HE.out
end
section
variable {d:Int}{zs:List Int}{n:Nat}{w:AL}
theorem Jk:Ag.underlying 62=AA (.slice 5):=wU
def Kr (d:Nat) (l:List Int):List (List Int):=
 match l with| []=>[]|x::r=>((x::r).take (d+1))::Kr d (r.drop d)
 termination_by l.length
 decreasing_by simp;omega
theorem VJ(d:Nat):Kr d []=[]:=by unfold Kr;rfl
theorem Ym(d:Nat)(l:List Int)(h:l≠[]):Kr d l=l.take (d+1)::Kr d (l.drop (d+1)):=by
 cases l with|nil=>exact Ak rfl h|cons x r=>rw[Kr];rfl
theorem AFa(d:Nat)(p:List Int)(h0:p≠[])(h:p.length<=d+1):Kr d p=[p]:=by
 rw[Ym d p h0,Ep h,RS h,VJ]
theorem aC(d:Nat): ∀(n:Nat) (l:List Int),l.length=n->(Kr d l).flatten=l:=by
 intro n
 induction n using eP with
 |_ n ih=>
  intro l hl;by_cases h:l=[];subst h;rw[VJ];rfl
  rw[Ym d l h,JS,ih (l.drop (d+1)).length (by
   have:0<l.length:=AF2.2 h
   simp;omega) _ rfl,YK]
theorem xe(d:Nat): ∀(n:Nat) (l:List Int),l.length=n->∀p∈Kr d l,0<p.length/\p.length<=n:=by
 intro n
 induction n using eP with
 |_ n ih=>
  intro l hl p hp;by_cases h:l=[];subst h;rw[VJ] at hp;cases hp;have h0:0<l.length:=AF2.2 h;rw[Ym d l h] at hp;rcases BD.1 hp with rfl|hp;simp;omega;have:=ih (l.drop (d+1)).length (by simp;omega) _ rfl p hp;simp at this;omega
def UJ (size:Int) (n:Nat):Nat:=if size<1 then n - 1 else size.toNat - 1
theorem Ai.ntmps47:Ai.f47.ntmps=20:=rfl
def Yn (zs:List Int) (size:Int):AQ:=.func (.func 79) #[] #[.string (Fe zs),.int .i64 ((UJ size zs.length+1:Nat):Int)]
theorem aF{size:Int}(hl:zs.length=n)(h:d=((UJ size n+1:Nat):Int)):Ending.returned (.func (.func 79) #[] #[.string (Fe zs),.int .i64 d])=.returned (Yn zs size):=by subst hl;subst h;rfl
theorem jc{A:Option Af}{c:Nat}{size:Int}(hn:n<=1073741824)(hrd:Rd w 1 A n c (bv zs))(hb: ∀x∈zs,0<=x/\x<=255)(hs:size<=9223372036854775807):
  Au Ag 47 #[.slice A n c,.int .i64 size] w λe w'=>e=.returned (Yn zs size)/\w'=w:=by
 (have hl:zs.length=n:=by have:=hrd.1;simp at this;omega);have h1:=qH hrd;(have hsz:(Fe zs).size=n:=by rw[strOfNums_size];exact hl);(have i1:(n:Int)<=1073741824:=by omega);have HR:=AP hrd;have HL:=AP hl;have HB:=AP hb;clear hrd hl hb;go_enter ACC,Ai.ntmps47;go_wp2;unfold Ai.JY;go_loopw [11] (λi wr=>∃(k:Nat),k<=n/\i=.int .i64 k/\wr=w) (λi _=>n - (intOf i).toNat)
 case atStart=>exact⟨0,Dn _,rfl,rfl⟩
 obtain⟨k,hk,rfl,rfl⟩:=hrel;by_cases hlt:k<n
 ·obtain⟨ad,x,rfl,hx,hcell⟩:=pg HR.out hlt;have hx2:=HB.out x (Bq hx);(have q1:decide (0<=x)=true:=by simpa using hx2.1);(have q2:decide (x<=255)=true:=by simpa using hx2.2);have HX:=AP hx2;clear hx hx2;go_wp2;go_roundw
  case rel=>exact⟨k+1,Aa,by go_num,Ap⟩
  simp[intOf];omega
 (have hkn:k=n:=by omega);by_cases hs1:size<1
 ·(have q1:decide (size<1)=true:=by simpa using hs1);have HS:=AP hs1;by_cases hn0:n<1
  ·have HN0:=AP hn0;go_wp2;unfold Ai.Ii;go_wp2;all_goals (go_ret;exact⟨aF HL.out (by unfold UJ;have:=HS.out;rw[BZ this];have:=HN0.out;omega),rfl⟩)
  have HN0:=AP hn0;go_wp2;unfold Ai.Ii;go_wp2;all_goals (go_ret;exact⟨aF HL.out (by unfold UJ;have:=HS.out;rw[BZ this];have:=HN0.out;omega),rfl⟩)
 (have q1:decide (size<1)=false:=by simpa using hs1);have HS:=AP hs1;go_wp2;unfold Ai.Ii;go_wp2;all_goals (go_ret;exact⟨aF HL.out (by unfold UJ;have:=HS.out;rw[BM (show ¬size<1 by omega)];omega),rfl⟩)
theorem AIF:Ag.underlying 9=AA .string:=LC
theorem qy{ys:List Int}(hb: ∀x∈ys,0<=x/\x<=255):Lib.strCells (Fe ys)=bv ys:=by
 unfold Lib.strCells;rw[strOfNums_data,Eo];apply Hu;intro x hx;have:=hb x hx;simp;omega
theorem TL(zs:List Int)(i j:Nat):(Fe zs).extract i j=Fe ((zs.drop i).take (j - i)):=by
 apply ByteArray.ext;apply Array.ext';rw[AF0,AF1,strOfNums_data,strOfNums_data,List.extract_eq_take_drop,OU,List.map_drop]
theorem dX{ops:Array Oper}{rest:List Oper}{o:Oper}{a:Act}{Q:Exit->Act->AL->Prop}(hgd:o.guard=AB)(s x:Operand)
  (ho:o.op=.call {callee:=.builtin .append,args:=#[s,x],argTypes:=#[62,9]}) {ys:List Int} (hb: ∀x∈ys,0<=x/\x<=255)
  (hs:a.eval s=.slice AB 0 0) (hx:a.eval x=.string (Fe ys)) (hl:ys.length<=1073741824)
  (h: ∀A' c' w',Own w' 5 1 A' ys.length c' (bv ys)->AZ [] w w'->(∀k∈bo A',w.heap.size<=k)->wpList Ag ops Q rest (a.put o.dst (.slice A' ys.length c')) w'):
  wpList Ag ops Q (o::rest) a w:=by
 have hi: ∃ie,Ag.info? 5=AA ie/\ie.zero=AA (.int .u8 0)/\ie.size=1/\ie.bytes=1:=by
  (have h:(Ag.info? 5).map (λi=>(i.zero,i.size,i.bytes))=AA (AA (.int .u8 0),1,1):=by kernel_rfl);exact info_parts h
 obtain⟨ie,hi1,hi2,hi3,hi4⟩:=hi;have hsz:(Fe ys).size=ys.length:=strOfNums_size ys;refine Lib.wpList_append_own_string (P:=Ag) w hgd s x 62 9 ho w.heap.size 5 ie Jk AIF hi1 hi2 hi3 hi4 (.slice AB 0 0) 0 [] hs (World.ownsRow_nil w _ 5 1) (Fe ys) hx (by rw[hsz];unfold ET;omega) (by rw[hsz];omega) (Bc _) ?_;intro v' w' hown hg hnil;rw[qy hb,hsz,D9,Na] at hown;have EX:AZ [] w w':=AZ.wV hg;rcases hown.2 with ⟨h1,h2⟩|⟨g,cap,cur,h1,hb2,h3⟩
 ·subst h1;have:=h AB 0 w' (by rw[h2];have hz:bv ys=[]:=Tf (by simp[h2]);rw[hz];exact Own.nil _ _ _) EX AV;rwa[h2] at this
 subst h1;exact h _ _ w' ⟨hown.1,.inr ⟨g,cap,cur,rfl,Dn _,h3⟩⟩ EX (λk hk=>by simp at hk;omega)
theorem AUK(p:Array AQ)(w:AL):(E5 79 p).run Ag w=.ok (.enter 79 p) w:=BX (f:=79) (fn:=Ai.f79) oQ rfl Aq p w
theorem Ai.ntmps79:Ai.f79.ntmps=8:=rfl
theorem Ai.ntmps46:Ai.f46.ntmps=19:=rfl
theorem ALI{s:ByteArray}(h0:0<=d)(h1:d<=9223372036854775807):Au Ag 79 #[.int .i64 0,.int .i64 0,.int .i64 0,.int .i64 0,.int .i64 0,.string s,.int .i64 d] w λe w'=>e=.returned (.tuple #[.string s,.int .i64 d])/\w'=w:=by
 go_enter oQ,Ai.ntmps79;go_wp2
 go_ret2
 exact⟨rfl,rfl⟩
theorem ALJ{d lo:Nat}{C:List (List Int)}{k:Nat}(h:Kr d (zs.drop lo)=C.drop k)(hlo:lo<zs.length):
  C[k]? =AA ((zs.drop lo).take (d+1))/\Kr d (zs.drop (lo+(d+1)))=C.drop (k+1):=by
 rw[Ym d _ (by intro e;have:=congrArg Ky e;simp at this;omega),YM] at h;constructor
 ·(have h1:(C.drop k)[0]? =AA ((zs.drop lo).take (d+1)):=by rw[<- h];rfl);simpa using h1
 (have h2:(C.drop k).drop 1=Kr d (zs.drop (lo+(d+1))):=by rw[<- h];rfl);rw[YM] at h2;exact h2.symm
def Cpd (S:Nat->AL->Prop) (E:Nat->Int->AL->Prop) (N:Nat) (e:FT) (w':AL):Prop:=
 (e=.returned (.tuple #[.int .i64 (N:Int),.int .i64 0])/\S N w')\/(∃(k:Nat) (c:Int),k<N/\c≠0/\e=.returned (.tuple #[.int .i64 (k:Int),.int .i64 c])/\E k c w')
def Tkn (S:Nat->AL->Prop) (E:Nat->Int->AL->Prop) (k:Nat) (e:FT) (w':AL):Prop:=
 (e=.returned (.int .i64 0)/\S (k+1) w')\/(∃c:Int,(c==0)=false/\(c !=0)=true/\Hid (c≠0)/\c*1=c/\0<=c/\c<=1000/\e=.returned (.int .i64 c)/\E k c w')
theorem AFb{size:Int}{rv:AQ}{S:Nat->AL->Prop}{E:Nat->Int->AL->Prop}(hb: ∀x∈zs,0<=x/\x<=255)(hn:zs.length<=1073741824)(hs:size<=9223372036854775807)(h0:S 0 w)
  (hT: ∀(k:Nat) (p:List Int) (wr w2:AL) (A:Option Af) (c:Nat),(Kr (UJ size zs.length) zs)[k]? =AA p->S k wr->AZ [] wr w2->Own w2 5 1 A p.length c (bv p)->(∀j∈bo A,wr.heap.size<=j)->
   Au Ag 177 #[rv,.slice A p.length c] w2 (Tkn S E k)):
  Au Ag 46 #[Yn zs size,.iface 109 rv] w (Cpd S E (Kr (UJ size zs.length) zs).length):=by
 unfold Yn;have hcl:(Fe zs).size=zs.length:=strOfNums_size zs
 generalize hd:UJ size zs.length=d at*
 generalize hC:Kr d zs=C at*
 generalize hN:zs.length=n at*
 (have hd1:(d:Int)+1<=9223372036854775807:=by subst hd;unfold UJ;split<;>omega);have HT:=AP hT;have HB:=AP hb;have HC:=AP hC;have HN:=AP hN;have H0:=AP h0;(have hm: ∀w,(method 392 109 rv "Take").run Ag w=.ok (177,rv) w:=λ_=>by kernel_rfl);clear hT hb hC hN h0 hd;have ASE:=AUK;have AUn:= @AQw;go_enter wH,Ai.ntmps46;(go_wp2_with (go_at_call 79;refine (ALI Aa Aa).mono ?_;rintro e w1 ⟨rfl,rfl⟩));unfold Ai.loop;go_loopw [4,5,8] (λc e lo wr=>∃k l:Nat,c=.int .i64 k/\e=.int .i64 0/\lo=.int .i64 l/\l<=n/\k<=l/\k<=C.length/\Kr d (zs.drop l)=C.drop k/\S k wr) (λ_ _ l _=>n - (intOf l).toNat)
 case atStart=>exact⟨0,0,rfl,rfl,rfl,Dn _,Bc _,Dn _,by rw[YO,YO];exact HC.out,H0.out⟩
 obtain⟨k,l,rfl,rfl,rfl,hl,hkl,hkC,hcut,hS⟩:=hrel;by_cases hlt:l<n
 ·have q:=ALJ hcut (by rw[HN.out];exact hlt);have HQ:=AP q;have HS:=AP hS;clear q hcut hS;by_cases hm1:d+1<=n - l
  ·(have hm2: ¬(n:Int) - (l:Int)<(d:Int)+1:=by omega);have HM:=AP hm1;obtain⟨ys,hys⟩: ∃ys,ys=(zs.drop l).take (d+1):=⟨_,rfl⟩;(have hyl:ys.length=(d+1):=by rw[hys,Ht,Ti,HN.out];omega);have HSL:Hid ((Fe zs).extract l ((l:Int)+min ((d:Int)+1) ((n:Int) - l)).toNat=Fe ys):=AP (by rw[TL,hys];congr 2;omega);have HYS:=AP hys;have HYL:=AP hyl;have hyb: ∀x∈ys,0<=x/\x<=255:=λx hx=>HB.out x (by rw[hys] at hx;exact List.drop_subset _ _ (List.take_subset _ _ hx));have HYB:=AP hyb;clear hys hyb hyl
   go_wp2_with (first
    |(at_builtin;refine dX rfl _ _ rfl HYB.out rfl (by first|rfl|exact congrArg WN HSL.out) (by have:=HYL.out;omega) ?_;intro A1 c1 w1 hown1 Zr pz)
    |(go_at_call 177;refine (HT.out k ys _ _ _ _ (by rw[HYS.out];exact HQ.out.1) HS.out Zr hown1 pz).mono ?_;rintro e w3 (⟨rfl,hS3⟩|⟨ec,hec,AUL,HEC,AUM,AUN,AUO,rfl,hE3⟩)))
   all_goals (have hkl2:k<C.length:=(CP.1 HQ.out.1).1)
   all_goals first
    |(refine⟨⟨k+1,l+(d+1),by go_num,rfl,by first|go_num|(congr 1;omega),Aa,Aa,hkl2,HQ.out.2,hS3⟩,?_⟩
      all_goals (simp[intOf];omega;done))
    |(go_ret2;exact .inr ⟨k,ec,hkl2,HEC.out,rfl,hE3⟩)
  (have hm2:(n:Int) - (l:Int)<(d:Int)+1:=by omega);have HM:=AP hm1;obtain⟨ys,hys⟩: ∃ys,ys=(zs.drop l).take (d+1):=⟨_,rfl⟩;(have hyl:ys.length=(n - l):=by rw[hys,Ht,Ti,HN.out];omega);have HSL:Hid ((Fe zs).extract l ((l:Int)+min ((d:Int)+1) ((n:Int) - l)).toNat=Fe ys):=AP (by rw[TL,hys,Ep (by rw[Ti,HN.out];omega),Ep (by rw[Ti,HN.out];omega)]);have HYS:=AP hys;have HYL:=AP hyl;have hyb: ∀x∈ys,0<=x/\x<=255:=λx hx=>HB.out x (by rw[hys] at hx;exact List.drop_subset _ _ (List.take_subset _ _ hx));have HYB:=AP hyb;clear hys hyb hyl
  go_wp2_with (first
   |(at_builtin;refine dX rfl _ _ rfl HYB.out rfl (by first|rfl|exact congrArg WN HSL.out) (by have:=HYL.out;omega) ?_;intro A1 c1 w1 hown1 Zr pz)
   |(go_at_call 177;refine (HT.out k ys _ _ _ _ (by rw[HYS.out];exact HQ.out.1) HS.out Zr hown1 pz).mono ?_;rintro e w3 (⟨rfl,hS3⟩|⟨ec,hec,AUL,HEC,AUM,AUN,AUO,rfl,hE3⟩)))
  all_goals (have hkl2:k<C.length:=(CP.1 HQ.out.1).1)
  all_goals first
   |(refine⟨⟨k+1,n,by go_num,rfl,by first|go_num|(congr 1;omega),Bc _,Aa,hkl2,by rw[<- HQ.out.2,RS (by rw[HN.out];omega),RS (by rw[HN.out];omega)],hS3⟩,?_⟩
     all_goals (simp[intOf];omega;done))
   |(go_ret2;exact .inr ⟨k,ec,hkl2,HEC.out,rfl,hE3⟩)
 (have hk:(C.drop k)=[]:=by rw[<- hcut,RS (by rw[HN.out];omega),VJ]);go_wp2
 go_ret2
 have hk2:k=C.length:=by
  have:=List.drop_eq_nil_iff.1 hk;omega
 subst hk2;exact .inl ⟨rfl,hS⟩
end
section
variable {nm:ByteArray}{zs:List Int}{dv:AQ}
def rC (w:AL) (G:Bi) (R:St×Int) (e:FT) (w':AL):Prop:=e=.returned (.int .i64 R.2)/\DK w G R.1 w'
abbrev Py (G:Bi):AQ:=.pointer (AA ⟨G.b,0,AB⟩)
section
variable {w:AL} {G:Bi} {S:St} {B b3 b4 bf:Nat}
theorem uy(h:EH w G S)(hi:Inv B S)(hB:B<=1073741824)(h3:w.cell? ⟨b3,0,AB⟩=AA (Py G)):
  Au Ag 41 #[.pointer (AA ⟨b3,0,AB⟩)] w (rC w G (S.Cc BP)):=by
 have k1:=AHt h hi hB BP;have HK:=AP k1;clear k1 h hi;have q1:= @AS9;unfold Py at h3;go_enter ANg,Tryz.ntmps41;(go_wp2_with (go_at_call 42;refine HK.out.mono ?_;rintro e w1 ⟨rfl,hT⟩));go_ret;exact⟨rfl,hT⟩
theorem rD(h:EH w G S)(hi:Inv B S)(hB:B+1<=1073741824)(h3:w.cell? ⟨b3,0,AB⟩=AA (Py G))(hf:Bl w bf 64 #[.string nm,dv]):
  Au Ag 43 #[.pointer (AA ⟨b3,0,AB⟩),.pointer (AA ⟨bf,0,AB⟩)] w (rC w G (S.create BP nm)):=by
 have k1:=AFQ h hi hB BP nm;have HK:=AP k1;have h4:w.cell? ⟨bf,0,AB⟩=AA (.string nm):=hf.cell 0;clear k1 h hi hf;have q1:= @ATB;unfold Py at h3;go_enter ANi,Tryz.ntmps43;(go_wp2_with (go_at_call 44;refine HK.out.mono ?_;rintro e w1 ⟨rfl,hT⟩));go_ret;exact⟨rfl,hT⟩
theorem AAw(h:EH w G S)(hi:Inv B S)(hB:B<=1073741824)(h3:w.cell? ⟨b3,0,AB⟩=AA (Py G))(hf:Bl w bf 64 #[.string nm,dv]):
  Au Ag 48 #[.pointer (AA ⟨b3,0,AB⟩),.pointer (AA ⟨bf,0,AB⟩)] w (rC w G (S.sync BP nm)):=by
 have k1:=AKw h hi BP nm hB;have HK:=AP k1;have h4:w.cell? ⟨bf,0,AB⟩=AA (.string nm):=hf.cell 0;clear k1 h hi hf;have q1:= @ATG;unfold Py at h3;go_enter ANl,Tryz.ntmps48;(go_wp2_with (go_at_call 49;refine HK.out.mono ?_;rintro e w1 ⟨rfl,hT⟩));go_ret;exact⟨rfl,hT⟩
theorem rE(h:EH w G S)(hi:Inv B S)(hB:B<=1073741824){dst:ByteArray}(h3:w.cell? ⟨b3,0,AB⟩=AA (Py G))(h4:w.cell? ⟨b4,0,AB⟩=AA (.string dst)):
  Au Ag 51 #[.pointer (AA ⟨b3,0,AB⟩),.pointer (AA ⟨b4,0,AB⟩)] w (rC w G (S.rename BP dst)):=by
 have k1:=AFO h hi hB BP dst;have HK:=AP k1;clear k1 h hi;have q1:= @ATI;unfold Py at h3;go_enter ANo,Tryz.ntmps51;(go_wp2_with (go_at_call 52;refine HK.out.mono ?_;rintro e w1 ⟨rfl,hT⟩));go_ret;exact⟨rfl,hT⟩
theorem take_any(h:EH w G S)(hi:Inv B S)(nm:ByteArray)(A:Option Af)(k c:Nat)(xs:List Int)(hr:Rd w 1 A k c (bv xs))(hB:B+k<=1073741824)(hd: ∀x∈bo A,x∉G.all):
  Au Ag 177 #[.agg #[Py G,.string nm],.slice A k c] w (rC w G (S.write BP nm xs)):=by
 obtain⟨W,hW⟩: ∃W,w.alloc (.cells #[.pointer (AA ⟨G.b,0,AB⟩),.string nm] 109)=W:=⟨_,rfl⟩;(have hc:AZ [] w W:=by rw[<- hW];exact (AZ.refl [] w).alloc _);(have hb:Bl W w.heap.size 109 #[.pointer (AA ⟨G.b,0,AB⟩),.string nm]:=by rw[<- hW];exact .new _ _ _);have k1:=AHy (h.CX hc) hi BP nm A k c xs (hr.Aj hc AV) hB hd;have HK:=AP k1;have HC:=AP hc;have c1:W.cell? ⟨w.heap.size,0,AB⟩=AA (.pointer (AA ⟨G.b,0,AB⟩)):=hb.cell 0;have c2:W.cell? ⟨w.heap.size,1,AB⟩=AA (.string nm):=hb.cell 1;clear k1 h hi hr hc hb;have q1:= @AQx;go_enter AKC,Tryz.ntmps177;(go_wp2_with (first|(go_at_call 178;refine HK.out.mono ?_;rintro e w1 ⟨rfl,hT⟩)|(rw[hW])|(simp only[hW])));go_ret;exact⟨rfl,.before HC.out hT⟩
end
def St.puts (n:ByteArray) (S:St):List (List Int)->St×Int
 | []=>(S,0)|p::r=>if (S.write BP n p).2=0 then St.puts n (S.write BP n p).1 r else S.write BP n p
theorem ALK{n:ByteArray}{S:St}{l:List (List Int)}{j:Nat}{x:List Int}(h:l[j]? =AA x):St.puts n S (l.drop j)=if (S.write BP n x).2=0 then St.puts n (S.write BP n x).1 (l.drop (j+1)) else S.write BP n x:=by
 obtain⟨hl,rfl⟩:=CP.1 h;rw[YI hl];rfl
theorem AIH(S:St)(t:Bool)(ns:List ByteArray):0<=S.ask t ns/\S.ask t ns<=1000:=by
 unfold St.ask;split;decide;split;decide;split<;>decide
theorem AII(S:St)(d n:ByteArray):0<=(S.Ov d n).2/\(S.Ov d n).2<=1000:=by
 unfold St.Ov;split;exact AIH S true [d,n];split<;>exact⟨AV,AV⟩
theorem ADL(S:St)(d n:ByteArray)(xs:List Int):0<=(S.write d n xs).2/\(S.write d n xs).2<=1000:=by
 have h:=AII S d n;unfold St.write;split
 ·rename_i e he;rw[he] at h;exact h
 split;exact⟨AV,AV⟩;split<;>exact⟨AV,AV⟩
def Q3 (C:List (List Int)):Nat:=(C.map λp=>p.length+2).sum
theorem ADM{C:List (List Int)}{k:Nat}{p:List Int}(h:C[k]? =AA p):Q3 (C.take (k+1))=Q3 (C.take k)+(p.length+2):=by
 unfold Q3;rw[RQ,h];simp
theorem rF(C:List (List Int))(k:Nat):Q3 (C.take k)<=Q3 C:=by
 unfold Q3;rw[OU];exact dU _ _
theorem jd(d:Nat)(l:List Int):Q3 (Kr d l)<=3*l.length:=by
 have h1:=aC d l.length l rfl;have h2:=xe d l.length l rfl
 generalize Kr d l=C at*
 rw[<- h1];clear h1;unfold Q3;rw[List.length_flatten];have: ∀p∈C,0<p.length:=λp hp=>(h2 p hp).1;clear h2
 induction C with
 |nil=>simp|cons p r ih=>
  simp only[BN,CE];have h3:=ih (λq hq=>this q (CO _ hq));have h4:=this p (D7 ..);omega
theorem Inv.puts{n:ByteArray}: ∀(C:List (List Int)) {B:Nat} {S:St},Inv B S->Inv (B+Q3 C) (St.puts n S C).1
 | [],B,S,h=>h.mono Aa
 |p::r,B,S,h=>by
  have h1:=h.write BP n p;unfold St.puts;split;exact (Inv.puts r h1).mono (by simp only[Q3,BN,CE];omega);exact h1.mono (by simp only[Q3,BN,CE];omega)
def Vz (xs:List Int):List (List Int):=Kr 511 xs
theorem AM1(xs:List Int):Kr (UJ 512 xs.length) xs=Vz xs:=rfl
section
variable {w:AL} {G:Bi} {S:St} {B:Nat}
def CpS (w:AL) (G:Bi) (S:St) (B:Nat) (nm:ByteArray) (C:List (List Int)) (k:Nat) (wr:AL):Prop:=
 ∃S1,DK w G S1 wr/\Inv (B+Q3 (C.take k)) S1/\St.puts nm S C=St.puts nm S1 (C.drop k)
def CpE (w:AL) (G:Bi) (S:St) (nm:ByteArray) (C:List (List Int)) (_:Nat) (c:Int) (wr:AL):Prop:=
 ∃S1,DK w G S1 wr/\St.puts nm S C=(S1,c)
theorem AFc(h:EH w G S)(hi:Inv B S)(nm:ByteArray)(hb: ∀x∈zs,0<=x/\x<=255)(hB:B+3*zs.length<=1073741824):
  Au Ag 46 #[Yn zs 512,.iface 109 (.agg #[Py G,.string nm])] w λe w'=>∃k:Int,e=.returned (.tuple #[.int .i64 k,.int .i64 (S.puts nm (Vz zs)).2])/\DK w G (S.puts nm (Vz zs)).1 w':=by
 have hp:=jd (UJ 512 zs.length) zs;refine (AFb (rv:=.agg #[Py G,.string nm]) (S:=CpS w G S B nm (Kr (UJ 512 zs.length) zs)) (E:=CpE w G S nm (Kr (UJ 512 zs.length) zs)) hb Aa Aa ?_ ?_).mono ?_;exact⟨S,.same h (.refl _ _),hi.mono Aa,rfl⟩
 ·intro k p wr w2 A c hk hS hch ho hnew;obtain⟨S1,⟨G1,h1,h2,h3,h4⟩,hI,hE⟩:=hS;have hb1:=ADM hk;have hb2:=rF (Kr (UJ 512 zs.length) zs) (k+1);have k1:=take_any (h1.CX hch) hI nm A p.length c p ho.rd Aa (λx hx hm=>by have:=h1.lt x hm;have:=hnew x hx;omega);unfold Py at k1⊢;rw[h2] at k1;rw[ALK hk] at hE;have hW:=hI.write BP nm p;have hcd:=ADL S1 BP nm p;refine k1.mono ?_
  generalize S1.write BP nm p=R at*
  obtain⟨S2,cd⟩:=R;rintro e w3 ⟨rfl,hT⟩;have hT2:DK w G S2 w3:=.trans h3 h2 h4 (.before hch hT);by_cases hc:cd=0
  ·subst hc;rw[BZ rfl] at hE;exact .inl ⟨rfl,S2,hT2,hW.mono Aa,hE⟩
  rw[BM hc] at hE;exact .inr ⟨cd,by simp[hc],by simp[hc],AP hc,Aa,hcd.1,hcd.2,rfl,S2,hT2,hE⟩
 intro e w' hh;rw[<- AM1];rcases hh with ⟨rfl,S1,hT,_,hE⟩|⟨k,c,_,_,rfl,S1,hT,hE⟩
 ·rw[RS (Bc _)] at hE;rw[hE];exact⟨_,rfl,hT⟩
 rw[hE];exact⟨_,rfl,hT⟩
theorem uz{b3 bf:Nat}(h:EH w G S)(hi:Inv B S){A:Option Af}{n c:Nat}(hd:Rd w 1 A n c (bv zs))(hb: ∀x∈zs,0<=x/\x<=255)(hB:B+3*zs.length<=1073741824)
  (h3:w.cell? ⟨b3,0,AB⟩=AA (Py G)) (hf:Bl w bf 64 #[.string nm,.slice A n c]) (hn3:b3∉G.all) (hnf:bf∉G.all):
  Au Ag 45 #[.pointer (AA ⟨bf,0,AB⟩),.pointer (AA ⟨b3,0,AB⟩)] w (rC w G (S.puts nm (Vz zs))):=by
 have hl:=hd.AO5;have HD:=AP hd;have HB:=AP hb;have HN:Hid (n<=1073741824):=AP Aa;have h4:w.cell? ⟨bf,0,AB⟩=AA (.string nm):=hf.cell 0;have h5:w.cell? ⟨bf,1,AB⟩=AA (.slice A n c):=hf.cell 1;have H3:Hid (∀w',AZ G.all w w'->w'.cell? ⟨b3,0,AB⟩=AA (.pointer (AA ⟨G.b,0,AB⟩))):=AP λw' hc=>hc.cell h3 hn3;have H4:Hid (∀w',AZ G.all w w'->w'.cell? ⟨bf,0,AB⟩=AA (.string nm)):=AP λw' hc=>hc.cell h4 hnf;have H5:Hid (∀w',AZ G.all w w'->w'.cell? ⟨bf,1,AB⟩=AA (.slice A n c)):=AP λw' hc=>hc.cell h5 hnf;have HDR:Hid (AZ G.all w w.drew):=AP (AZ.refl G.all w).drew
 have gu:Hid (Au Ag 46 #[Yn zs 512,.iface 109 (.agg #[Py G,.string nm])] w.drew λe w'=>∃k:Int,e=.returned (.tuple #[.int .i64 k,.int .i64 (S.puts nm (Vz zs)).2])/\DK w G (S.puts nm (Vz zs)).1 w'):=AP (by
  refine (AFc (h.CX (AZ.refl [] w).drew) hi nm hb hB).mono ?_;rintro e w' ⟨k,h1,h2⟩
  exact⟨k,h1,.before (AZ.refl [] w).drew h2⟩)
 clear h hi hd hb hf h3 h4 h5;have q1:= @ATE;have q2:= @ATD;go_enter ANk,Tryz.ntmps45;(go_wp2_with fail);refine FU (S:=λw'=>AZ G.all w w') Aq ((AZ.refl G.all w).drew) (λhHeld=>?_);refine tk 0 ?_;refine Gh 1 (λw' hSw=>H5.out _ hSw) ?_;refine Gh 3 (λw' hSw=>H3.out _ hSw) ?_;refine tk 4 ?_;refine Gh 5 (λw' hSw=>H4.out _ hSw) ?_;refine tk 6 ?_;refine O7 (rs:=[2,7]) Aq AV ?_;refine Gp rfl (λK hK=>?a11) (Gp rfl (λK hK=>?b11) (O8))
 case' a11=>
  go_simp;refine (jc (size:=512) HN.out (HD.out.Aj (AZ.drew (AZ.refl [] w)) AV) HB.out Aa).mono ?_;rintro e w1 ⟨rfl,rfl⟩;refine hK.out _ _ (hHeld) (λhHeld=>?_);(try simp only[BJ,Bh]);clear hK K;refine Em 7 λK hK=>?_;go_simp
 case' b11=>
  go_simp;refine hK.out _ _ (hHeld) (λhHeld=>?_);(try simp only[BJ,Bh]);clear hK K;refine Em 2 λK hK=>?_;go_simp;refine (jc (size:=512) HN.out (HD.out.Aj (AZ.drew (AZ.refl [] w)) AV) HB.out Aa).mono ?_;rintro e w1 ⟨rfl,rfl⟩
 all_goals
  refine hK.out _ _ (hHeld) (λhHeld=>?_);(try simp only[BJ,Bh]);clear hK K;refine Em 8 λK hK=>?_;go_simp;refine gu.out.mono ?_;rintro e w1 ⟨k,rfl,hT⟩;go_simp;refine hK.out _ _ (hT.Aj) (λhHeld=>?_);(try simp only[BJ,Bh]);clear hK K;refine tk 9 ?_;refine tk 10 ?_;refine tk 11 ?_;refine tk 12 ?_;refine tk 13 ?_;refine Eu Aq ?_ _;(try simp only[BJ,Bh]);go_wp2;go_ret;exact⟨rfl,hT⟩
end
end
section
variable {u:FrameMode}{f:LD}{fs gs:List LD}{L:List Nat}{b3 b6 bb:Nat}{S':St}{v:AQ}{w w1:AL}
theorem ADN(cd:Int):(Ko cd).length<=1:=by unfold Ko qw;split<;>simp
theorem JK.rG(h:JK w v L gs)(hg:gs.length<=1):(v=.nilIface/\L=[]/\gs=[])\/∃b g,L=[b]/\gs=[g]/\RJ w b v g:=by
 unfold JK at h;split at h;exact .inl ⟨h,rfl,rfl⟩;exact .inr ⟨_,_,rfl,rfl,h⟩;simp at hg;exact h.elim
theorem ALM{u:AQ}(hv:RJ w bb v f)(hu:JK w u L gs)(hg:gs.length<=1):
  Au Ag 40 #[v,u] w λe w'=>∃(t:Am) (y:AQ) (L':List Nat),e=.returned (.iface t y)/\JK w' (.iface t y) L' (f::gs)/\AZ [] w w'/\∀x∈L',x=bb\/x∈L\/w.heap.size<=x:=by
 rcases hu.rG hg with ⟨rfl,rfl,rfl⟩|⟨b,g,rfl,rfl,hb⟩
 ·have h1:=hv.1;subst h1;refine (AH9 _ _ w).mono ?_;rintro e w' ⟨rfl,rfl⟩;exact⟨_,_,[bb],rfl,hv,.refl _ _,AV⟩
 have h1:=hv.1;have h2:=hb.1;subst h1;subst h2;refine (AIA _ _ _ _ w).mono ?_;rintro e w' ⟨rfl,rfl⟩;have hc:AZ [] w (w.alloc (.cells #[.iface 140 (.pointer (AA ⟨bb,0,AB⟩)),.iface 140 (.pointer (AA ⟨b,0,AB⟩))] 152)):=(AZ.refl [] w).alloc _;refine⟨_,_,[w.heap.size,bb,b],rfl,⟨_,_,rfl,.new _ _ _,hv.Aj hc AV,hb.Aj hc AV⟩,hc,?_⟩;intro x hx;simp only[BD,BH,or_false] at hx;rcases hx with rfl|rfl|rfl;exact .inr (.inr (Bc _));exact .inl rfl;exact .inr (.inl AV)
theorem TK.before{G:Bi}{e:FT}{w':AL}(hc:AZ [] w w1)(h:TK w1 G S' fs e w'):TK w G S' fs e w':=by
 obtain⟨v,G',L,h1,h2,h3,h4,h5,h6,h7⟩:=h;exact⟨v,G',L,h1,h2,h3,h4,λx hx=>(h5 x hx).imp id (CY hc.size),(hc.nil _).trans h6 (λx hx=>.inl hx),λx hx=>⟨CY hc.size (h7 x hx).1,(h7 x hx).2⟩⟩
theorem ALN(h6:w.cell? ⟨b6,0,AB⟩=AA .nilIface):
  CallsD Ag 39 #[.pointer (AA ⟨b6,0,AB⟩),.pointer (AA ⟨b3,0,AB⟩)] u w λe u' w'=>u'=u/\(e=.returned (.tuple #[])/\w'=w):=by
 go_enter_d AJz,Tryz.ntmps39
 go_wp2
 go_end0
 exact⟨rfl,rfl⟩
section
variable {w:AL} {G:Bi} {S:St} {B:Nat}
def D39 (w:AL) (G:Bi) (b6 bb:Nat) (S':St) (fs:List LD) (e:FT) (w':AL):Prop:=
 e=.returned (.tuple #[])/\∃v G' L,w'.cell? ⟨b6,0,AB⟩=AA v/\JK w' v L fs/\EH w' G' S'/\G'.b=G.b/\(∀x∈G'.all,x∈G.all\/w.heap.size<=x)/\AZ (b6::G.all) w w'/\∀x∈L,x∉G'.all/\(x=bb\/w.heap.size<=x)
theorem AIJ{w2:AL}{G1:Bi}{L1 L2:List Nat}{t2:Am}{y2:AQ}(hQ:AZ G.all w w1)(hC:AZ [] w1 w2)(hE:JK w2 (.iface t2 y2) L2 fs)(hF:EH w1 G1 S')(hb:G1.b=G.b)
  (hA: ∀x∈G1.all,x∈G.all\/w.heap.size<=x) (hN1: ∀x∈L1,w.heap.size<=x/\x∉G1.all) (hN2: ∀x∈L2,x=bb\/x∈L1\/w1.heap.size<=x) (h6:Bl w2 b6 39 #[v]) (Xw:b6∉G.all) (hnb:bb∉G.all) (hlb:bb<w.heap.size) (hne:bb≠b6) (hl:b6<w.heap.size):
  D39 w G b6 bb S' fs (.returned (.tuple #[])) (w2.setCell ⟨b6,0,AB⟩ (.iface t2 y2)):=by
 have h1:=h6.FX 0 (.iface t2 y2);have hcs:AZ [b6] w2 (w2.setCell ⟨b6,0,AB⟩ (.iface t2 y2)):=(AZ.refl [b6] w2).setCell (.inl AV) _;have hz:=hQ.size
 have AGs:b6∉G1.all:=λhm=>by
  rcases hA _ hm with h|h;exact Xw h;omega
 have hL2: ∀x∈L2,x≠b6/\x∉G1.all/\(x=bb\/w.heap.size<=x):=λx hx=>by
  rcases hN2 x hx with rfl|h|h
  ·exact⟨hne,λhm=>by
    rcases hA _ hm with h|h;exact hnb h
    omega,.inl rfl⟩
  exact⟨by have:=(hN1 x h).1;omega,(hN1 x h).2,.inr (hN1 x h).1⟩;exact⟨Aa,λhm=>by have:=hF.lt x hm;omega,.inr Aa⟩
 refine⟨rfl,_,G1,L2,h1.cell 0,hE.Aj hcs (λx hx=>by simpa using (hL2 x hx).1),(hF.CX hC).keep hcs (λx hx hm=>by simp at hm;subst hm;exact AGs hx),hb,hA,?_,λx hx=>(hL2 x hx).2⟩;exact ((hQ.mono (λx hx=>.inl (CO _ hx))).Ah hC).trans hcs (λx hx=>by simp at hx;subst hx;exact .inl AV)
theorem ALO(h:EH w G S)(hi:Inv B S)(hB:2*B+2<=1073741824)(h3:w.cell? ⟨b3,0,AB⟩=AA (Py G))(h6:Bl w b6 39 #[v])(hv:RJ w bb v f)
  (Xw:b6∉G.all) (hnb:bb∉G.all) (hne:bb≠b6):
  CallsD Ag 39 #[.pointer (AA ⟨b6,0,AB⟩),.pointer (AA ⟨b3,0,AB⟩)] u w λe u' w'=>u'=u/\D39 w G b6 bb S.clean.1 (f::Ko S.clean.2) e w':=by
 have HV:=AP hv;have rH:Hid (bb∉G.all):=AP hnb;have HNE:Hid (bb≠b6):=AP hne;have H3:Hid (w.cell? ⟨b3,0,AB⟩=AA (.pointer (AA ⟨G.b,0,AB⟩))):=AP h3;have H6B:Hid (∀w',AZ G.all w w'->Bl w' b6 39 #[v]):=AP λw' hc=>h6.Aj hc Xw;have H6:Hid (∀w',AZ G.all w w'->w'.cell? ⟨b6,0,AB⟩=AA v):=AP λw' hc=>(h6.Aj hc Xw).cell 0;have HQ1:Hid (AZ G.all w w.drew):=AP (AZ.refl G.all w).drew;have Uk:Hid (Au Ag 21 #[.pointer (AA ⟨G.b,0,AB⟩)] w.drew (TK w G S.clean.1 (Ko S.clean.2))):=AP ((Yl (h.CX (AZ.refl [] w).drew) hi hB).mono λe w' hh=>hh.before (AZ.refl [] w).drew);have h6c:=h6.cell 0;have HL:Hid (bb<w.heap.size/\b6<w.heap.size):=AP ⟨hv.2.1.lt,h6.lt⟩;obtain⟨hv1,_,_⟩:=hv;subst hv1;clear h hi h3 h6;have q1:= @AGX;have q2:= @AS7
 go_enter_d AJz,Tryz.ntmps39
 (go_wp2_with fail);refine FU (S:=λ_=>True) Aq (Ap) (λhHeld=>?_);refine O7 (rs:=[0,1]) Aq AV ?_;refine Gp rfl (λK hK=>?a12) (Gp rfl (λK hK=>?b12) (O8))
 case' a12=>
  have q:=H6.out _ HQ1.out;go_simp;refine hK.out _ _ (Ap) (λhHeld=>?_);(try simp only[BJ,Bh]);clear hK K;refine Em 1 λK hK=>?_;have q:=H3.out;go_simp;refine hK.out _ _ (Ap) (λhHeld=>?_);(try simp only[BJ,Bh]);clear hK K;refine Em 2 λK hK=>?_;go_simp;refine Uk.out.mono ?_;rintro e w1 ⟨v1,G1,L1,rfl,hE1,hF1,hG1,hA1,X4,hN1⟩;have HQ2:=AP X4;have rJ:=AP hE1;have Gf:=AP hF1;have HA1:=AP hA1;have vC:=AP hN1;clear hE1 hF1 hA1 X4 hN1
 case' b12=>
  have q:=H3.out;go_simp;refine hK.out _ _ (Ap) (λhHeld=>?_);(try simp only[BJ,Bh]);clear hK K;refine O7 (rs:=[0,2]) Aq AV ?_;refine Gp rfl (λK hK=>?LV) (Gp rfl (λK hK=>?b13) (O8))
  case' LV=>
   have q:=H6.out _ HQ1.out;go_simp;refine hK.out _ _ (Ap) (λhHeld=>?_);(try simp only[BJ,Bh]);clear hK K;refine Em 2 λK hK=>?_;go_simp;refine Uk.out.mono ?_;rintro e w1 ⟨v1,G1,L1,rfl,hE1,hF1,hG1,hA1,X4,hN1⟩;have HQ2:=AP X4;have rJ:=AP hE1;have Gf:=AP hF1;have HA1:=AP hA1;have vC:=AP hN1;clear hE1 hF1 hA1 X4 hN1
  case' b13=>
   go_simp;refine Uk.out.mono ?_;rintro e w1 ⟨v1,G1,L1,rfl,hE1,hF1,hG1,hA1,X4,hN1⟩;have HQ2:=AP X4;have rJ:=AP hE1;have Gf:=AP hF1;have HA1:=AP hA1;have vC:=AP hN1;clear hE1 hF1 hA1 X4 hN1;go_simp;refine hK.out _ _ (Ap) (λhHeld=>?_);(try simp only[BJ,Bh]);clear hK K;refine Em 0 λK hK=>?_;have q:=H6.out _ HQ2.out
 all_goals
  go_simp;refine hK.out _ _ (Ap) (λhHeld=>?_);(try simp only[BJ,Bh]);clear hK K;refine Em 3 λK hK=>?_;go_simp;refine (ALM (HV.out.Aj HQ2.out rH.out) rJ.out (ADN _)).mono ?_;rintro e w2 ⟨t2,y2,L2,rfl,hE2,hC2,hN2⟩;have hb:=H6B.out _ (HQ2.out.Ah hC2);have hz:=hb.frozen 0;have q:=hb.cell 0;simp only[GG] at q;have HE2:=AP hE2;have HB:=AP hb;have HC2:=AP hC2;have HN2:=AP hN2;clear hE2 hC2 hN2 hb;go_simp;refine hK.out _ _ (Ap) (λhHeld=>?_);(try simp only[BJ,Bh]);clear hK K;refine Em 4 λK hK=>?_;go_simp;refine hK.out _ _ (Ap) (λhHeld=>?_);(try simp only[BJ,Bh]);clear hK K;refine Eu Aq ?_ _;(try simp only[BJ,Bh]);go_wp2
  go_end0
  exact AIJ HQ2.out HC2.out HE2.out Gf.out hG1 HA1.out vC.out HN2.out HB.out Xw rH.out HL.out.1 HNE.out HL.out.2
end
end
section
variable {vs:List AQ}{b3 b4 j m:Nat}{S:St}{f:AQ}{w:AL}
inductive Do where
 |Cc|create (n:ByteArray)|write (n:ByteArray) (xs:List Int)|sync (n:ByteArray)|names|rename (d:ByteArray)
def St.act (S:St):Do->St×Int
 | .Cc=>S.Cc BP| .create n=>S.create BP n| .write n xs=>S.puts n (Vz xs)| .sync n=>S.sync BP n| .names=>S.names| .rename d=>S.rename BP d
def Do.bulk:Do->Nat
 | .write _ xs=>3*xs.length+2|_=>2
theorem Inv.act{B:Nat}{S:St}(h:Inv B S)(d:Do):Inv (B+d.bulk) (S.act d).1:=by
 cases d with|Cc=>exact (h.Cc BP).mono (by simp[Do.bulk])|create n=>exact (h.create BP n).mono (by simp[Do.bulk])|write n xs=>exact (h.puts (n:=n) (Vz xs)).mono (by have:=jd 511 xs;simp only[Do.bulk,Vz];omega)|sync n=>exact (h.sync BP n).mono (by simp[Do.bulk])|names=>exact h.names.mono (by simp[Do.bulk])|rename d=>exact (h.rename BP d).mono (by simp[Do.bulk])
structure JL where
 op:ByteArray
 pl:Int
 d:Do
def iF (i:Nat) (f:ByteArray×List Int):List JL:=[⟨{data:=#[99,114,101,97,116,101]},i,.create f.1⟩,⟨{data:=#[119,114,105,116,101]},i,.write f.1 f.2⟩,⟨{data:=#[115,121,110,99]},i,.sync f.1⟩]
def Ha (i:Nat):List (ByteArray×List Int)->List JL
 | []=>[]|f::r=>iF i f++Ha (i+1) r
theorem dY(f:ByteArray×List Int): ∀(fs:List (ByteArray×List Int)) (i:Nat),Ha i (fs++[f])=Ha i fs++iF (i+fs.length) f
 | [],i=>by simp[Ha]
 |g::r,i=>by
  simp only[Dp,Ha,dY f r (i+1),Jo,EU];rw[show i+1+r.length=i+(r.length+1) by omega]
theorem X5: ∀(fs:List (ByteArray×List Int)) (i:Nat),(Ha i fs).length=3*fs.length
 | [],i=>rfl|g::r,i=>by simp only[Ha,Gz,X5 r,iF,EU,Hr];omega
def iG:List JL:=[⟨{data:=#[109,107,100,105,114]},0,.Cc⟩]
def Oy (dst:ByteArray):List JL:=[⟨{data:=#[110,97,109,101,115]},0,.names⟩,⟨{data:=#[114,101,110,97,109,101]},0,.rename dst⟩,⟨{data:=#[115,97,102,101]},0,.names⟩]
def Ec (dst:ByteArray) (fs:List (ByteArray×List Int)):List JL:=iG++Ha 0 fs++Oy dst
def St.runT (S:St):List JL->St×List LD
 | []=>(S,[])|t::r=>if (S.act t.d).2=0 then St.runT (S.act t.d).1 r else ((S.act t.d).1,[⟨t.op,t.pl,(S.act t.d).2⟩])
theorem ALP{l:List JL}{t:JL}(h:l[j]? =AA t):St.runT S (l.drop j)=if (S.act t.d).2=0 then St.runT (S.act t.d).1 (l.drop (j+1)) else ((S.act t.d).1,[⟨t.op,t.pl,(S.act t.d).2⟩]):=by
 obtain⟨hl,rfl⟩:=CP.1 h;rw[YI hl];rfl
def St.KI (S:St) (dst:ByteArray) (fs:List (ByteArray×List Int)):St×List LD:=
 if CV dst=false\/dst=BP then (S,[⟨{data:=#[112,97,116,104,115]},0,81⟩])
 else if S.clean.2≠0 then (S.clean.1,Ko S.clean.2)
 else if (S.clean.1.runT (Ec dst fs)).2=[] then S.clean.1.runT (Ec dst fs)
 else ((S.clean.1.runT (Ec dst fs)).1.clean.1,(S.clean.1.runT (Ec dst fs)).2++Ko (S.clean.1.runT (Ec dst fs)).1.clean.2)
def Jd (ts:List JL):Nat:=(ts.map λt=>t.d.bulk).sum
theorem xg{ts:List JL}{t:JL}(h:ts[j]? =AA t):Jd (ts.take (j+1))=Jd (ts.take j)+t.d.bulk:=by
 unfold Jd;rw[RQ,h];simp
theorem rM(ts:List JL)(j:Nat):Jd (ts.take j)<=Jd ts:=by
 unfold Jd;rw[OU];exact dU _ _
theorem Inv.runT: ∀(ts:List JL) {B:Nat} {S:St},Inv B S->Inv (B+Jd ts) (St.runT S ts).1
 | [],B,S,h=>h.mono Aa
 |t::r,B,S,h=>by
  have h1:=h.act t.d;unfold St.runT;split;exact (Inv.runT r h1).mono (by simp only[Jd,BN,CE];omega);exact h1.mono (by simp only[Jd,BN,CE];omega)
def Wu (fs:List (ByteArray×List Int)):Nat:=(fs.map λf=>3*f.2.length+6).sum
theorem Ul(a b:List JL):Jd (a++b)=Jd a+Jd b:=by unfold Jd;rw[Ey,YN]
theorem dZ: ∀(fs:List (ByteArray×List Int)) (i:Nat),Jd (Ha i fs)=Wu fs
 | [],i=>rfl
 |f::r,i=>by
  have h1:Wu (f::r)=(3*f.2.length+6)+Wu r:=rfl;have h2:Jd (iF i f)=2+((3*f.2.length+2)+(2+0)):=rfl;rw[Ha,Ul,dZ r (i+1),h1,h2];omega
theorem df(dst:ByteArray)(fs:List (ByteArray×List Int)):Jd (Ec dst fs)=Wu fs+8:=by
 have h1:Jd iG=2:=rfl;have h2:Jd (Oy dst)=6:=rfl;unfold Ec;rw[Ul,Ul,dZ,h1,h2];omega
theorem ADO(fs:List (ByteArray×List Int)):6*fs.length<=Wu fs:=by
 unfold Wu
 induction fs with|nil=>simp|cons f r ih=>simp only[BN,CE,EU];omega
theorem ALQ{fs:List (ByteArray×List Int)}{f:ByteArray×List Int}(h:f∈fs):3*f.2.length+6<=Wu fs:=by
 unfold Wu
 induction fs with
 |nil=>cases h|cons g r ih=>
  simp only[BN,CE];rcases BD.1 h with rfl|h;omega;have:=ih h;omega
inductive iH (w:AL) (G:Bi) (b3 b4 m:Nat):Do->AQ->Prop
 |Cc:iH w G b3 b4 m .Cc (.func (.func 41) #[] #[.pointer (AA ⟨b3,0,AB⟩)])|create (b:Nat) (nm:ByteArray) (dv:AQ):Bl w b 64 #[.string nm,dv]->b∉G.all->iH w G b3 b4 m (.create nm) (.func (.func 43) #[] #[.pointer (AA ⟨b3,0,AB⟩),.pointer (AA ⟨b,0,AB⟩)])
 |write (b:Nat) (nm:ByteArray) (A:Option Af) (n c:Nat) (xs:List Int):Bl w b 64 #[.string nm,.slice A n c]->b∉G.all->Rd w 1 A n c (bv xs)->(∀x∈bo A,x∉G.all/\x<m)->(∀x∈xs,0<=x/\x<=255)->
   iH w G b3 b4 m (.write nm xs) (.func (.func 45) #[] #[.pointer (AA ⟨b,0,AB⟩),.pointer (AA ⟨b3,0,AB⟩)])
 |sync (b:Nat) (nm:ByteArray) (dv:AQ):Bl w b 64 #[.string nm,dv]->b∉G.all->iH w G b3 b4 m (.sync nm) (.func (.func 48) #[] #[.pointer (AA ⟨b3,0,AB⟩),.pointer (AA ⟨b,0,AB⟩)])|names:iH w G b3 b4 m .names (.func (.func 50) #[.pointer (AA ⟨G.b,0,AB⟩)] #[])|rename (d:ByteArray):w.cell? ⟨b4,0,AB⟩=AA (.string d)->b4∉G.all->b4<m->iH w G b3 b4 m (.rename d) (.func (.func 51) #[] #[.pointer (AA ⟨b3,0,AB⟩),.pointer (AA ⟨b4,0,AB⟩)])
theorem iH.AGt{w':AL}{G:Bi}{d:Do}{L:List Nat}(h:iH w G b3 b4 m d f)(hc:AZ L w w')(hL: ∀x∈L,m<=x/\∃cs,Bl w x 100 cs):iH w' G b3 b4 m d f:=by
 have hb: ∀(b:Nat) (cs:Array AQ),Bl w b 64 cs->b∉L:=λb cs h hm=>by
  obtain⟨_,cs',h'⟩:=hL b hm;exact h.ne_ h' Ar rfl
 cases h with|Cc=>exact .Cc|create b nm dv h1 h2=>exact .create b nm dv (h1.Aj hc (hb _ _ h1)) h2|write b nm A n c xs h1 h2 h3 h4 h5=>exact .write b nm A n c xs (h1.Aj hc (hb _ _ h1)) h2 (h3.Aj hc (λx hx hm=>by have:=(h4 x hx).2;have:=(hL x hm).1;omega)) h4 h5|sync b nm dv h1 h2=>exact .sync b nm dv (h1.Aj hc (hb _ _ h1)) h2|names=>exact .names|rename d h1 h2 h3=>exact .rename d (hc.cell h1 (λhm=>by have:=(hL _ hm).1;simp only at this;omega)) h2 h3
theorem iH.call{wr:AL}{G G1:Bi}{d:Do}{B:Nat}(h:iH w G b3 b4 m d f)(h3:w.cell? ⟨b3,0,AB⟩=AA (Py G))(hn3:b3∉G.all)(hl3:b3<w.heap.size)
  (hF:EH wr G1 S) (hb:G1.b=G.b) (hA: ∀x∈G1.all,x∈G.all\/w.heap.size<=x) (hc:AZ G.all w wr) (hi:Inv B S) (hB:B+d.bulk<=1073741824):
  ∃(id:FuncId) (bd cp:Array AQ),f=.func (.func id) bd cp/\(∀(p:Array AQ) (w:AL),(E5 id p).run Ag w=.ok (.enter id p) w)/\Au Ag id (bd++cp) wr (rC wr G1 (S.act d)):=by
 have h3':wr.cell? ⟨b3,0,AB⟩=AA (Py G1):=by rw[show Py G1=Py G by unfold Py;rw[hb]];exact hc.cell h3 hn3
 have hout: ∀x,x∉G.all->x<w.heap.size->x∉G1.all:=λx h1 h2 hm=>by
  rcases hA x hm with h|h;exact h1 h;omega
 cases h with
 |Cc=>exact⟨41,#[],_,rfl,AS8,uy hF hi (by simp only[Do.bulk] at hB;omega) h3'⟩|create b nm dv h1 h2=>exact⟨43,#[],_,rfl,ATA,rD hF hi (by simp only[Do.bulk] at hB;omega) h3' (h1.Aj hc h2)⟩|write b nm A n c xs h1 h2 h3 h4 h5=>
  exact⟨45,#[],_,rfl,ATC,uz hF hi (h3.Aj hc λx hx=>(h4 x hx).1) h5 (by simp only[Do.bulk] at hB;omega) h3' (h1.Aj hc h2) (hout _ hn3 hl3) (hout _ h2 h1.lt)⟩
 |sync b nm dv h1 h2=>exact⟨48,#[],_,rfl,ATF,AAw hF hi (by simp only[Do.bulk] at hB;omega) h3' (h1.Aj hc h2)⟩|names=>
  refine⟨50,_,#[],rfl,AOP,?_⟩;rw[<- hb];exact xK hF hi (by simp only[Do.bulk] at hB;omega)
 |rename d h1 h2 _=>exact⟨51,#[],_,rfl,ATH,rE hF hi (by simp only[Do.bulk] at hB;omega) h3' (hc.cell h1 h2)⟩
inductive Nu (w:AL) (G:Bi) (b3 b4 m:Nat):List JL->List AQ->Prop
 |nil:Nu w G b3 b4 m [] []|cons {t:JL} {f:AQ} {ts:List JL} {vs:List AQ}:iH w G b3 b4 m t.d f->Nu w G b3 b4 m ts vs->Nu w G b3 b4 m (t::ts) (.string t.op:: .int .i64 t.pl::f::vs)
theorem Nu.AGt{w w':AL}{G:Bi}{b3 b4 m:Nat}{ts:List JL}{vs:List AQ}{L:List Nat}(h:Nu w G b3 b4 m ts vs)(hc:AZ L w w')(hL: ∀x∈L,m<=x/\∃cs,Bl w x 100 cs):Nu w' G b3 b4 m ts vs:=by
 induction h with|nil=>exact .nil|cons h1 _ ih=>exact .cons (h1.AGt hc hL) ih
theorem Nu.append{G:Bi}{ts us:List JL}{xs:List AQ}(h:Nu w G b3 b4 m ts vs)(k:Nu w G b3 b4 m us xs):Nu w G b3 b4 m (ts++us) (vs++xs):=by
 induction h with|nil=>exact k|cons h1 _ ih=>exact .cons h1 ih
theorem Nu.at_{G:Bi}{ts:List JL}(h:Nu w G b3 b4 m ts vs): ∀{j:Nat} {t:JL},ts[j]? =AA t->∃f,iH w G b3 b4 m t.d f/\vs[j*3]? =AA (.string t.op)/\vs[j*3+1]? =AA (.int .i64 t.pl)/\vs[j*3+2]? =AA f:=by
 induction h with
 |nil=>intro j t hj;cases hj
 |cons h1 _ ih=>
  intro j t hj
  cases j with
  |zero=>simp at hj;subst hj;exact⟨_,h1,rfl,rfl,rfl⟩|succ j=>
   simp at hj;obtain⟨f,g1,g2,g3,g4⟩:=ih hj;refine⟨f,g1,?_,?_,?_⟩;rw[show (j+1)*3=j*3+3 by omega];exact g2;rw[show (j+1)*3+1=j*3+1+3 by omega];exact g3;rw[show (j+1)*3+2=j*3+2+3 by omega];exact g4
end
section
variable {fs:List FM}{vs:List AQ}{b3 b4 c k m n:Nat}{A A8:Option Af}{wz:AL}
def TM:Code->List Code
 | .loop c=>[c]| .seq a b=>TM a++TM b| .block _ c=>TM c| .scope c=>TM c| .cond _ a b=>TM a++TM b|_=>[]
noncomputable def ADP (k:Nat):Code:=((Tryz.f14.body.map TM).getD [])[k]?.getD .skip
theorem xh:Ety Ag 101 100 3 32 (.agg #[.string ByteArray.empty,.int .i64 0,.nilFunc]):=.mk' AQ3 Aq rfl Ar
structure dh (wz wr:AL) (G:Bi) (b3 b4 m:Nat) (fs:List FM) (A8:Option Af) (c8:Nat) (vs:List AQ) (k:Nat):Prop where
 own:Own wr 100 3 A8 (1+3*k) c8 vs
 stp:Nu wr G b3 b4 m (iG++Ha 0 ((BB fs).take k)) vs
 Aj:AZ [] wz wr
 new: ∀x∈bo A8,wz.heap.size<=x
theorem dh.AO7{wr:AL}{G:Bi}{c8:Nat}(h:dh wz wr G b3 b4 m fs A8 c8 vs k){w':AL}(hc:AZ [] wr w'):Own w' 100 3 A8 (1+3*k) c8 vs:=h.own.Aj hc AV
theorem Own.UK(w:AL)(e:Am)(sz:Nat)(cs:Array AQ)(n g:Nat)(xs:List AQ)(hg:g=w.heap.size)(hx:cs.toList=xs)(hm:n<=ET)(hs:cs.size=n*sz):Own (w.alloc (.cells cs e)) e sz (AA ⟨g,0,AB⟩) n n xs:=by
 subst hg;subst hx;exact Own.lit w e sz cs n hm hs
theorem Own.AGu{w:AL}(h:Own w 100 3 A n c vs): ∀x∈bo A,∃cs,Bl w x 100 cs:=by
 rcases h.form with ⟨rfl,_⟩|⟨g,cur,rfl,hb,_⟩;simp;intro x hx;simp at hx;subst hx;exact⟨cur,hb⟩
def AO8 (b3 b:Nat) (k:Nat):List AQ:=[.string {data:=#[99,114,101,97,116,101]},.int .i64 (k:Int),.func (.func 43) #[] #[.pointer (AA ⟨b3,0,AB⟩),.pointer (AA ⟨b,0,AB⟩)],.string {data:=#[119,114,105,116,101]},.int .i64 (k:Int),.func (.func 45) #[] #[.pointer (AA ⟨b,0,AB⟩),.pointer (AA ⟨b3,0,AB⟩)],.string {data:=#[115,121,110,99]},.int .i64 (k:Int),.func (.func 48) #[] #[.pointer (AA ⟨b3,0,AB⟩),.pointer (AA ⟨b,0,AB⟩)]]
theorem dh.next{wr wb:AL}{G:Bi}{A9:Option Af}{c8 c9:Nat}(h:dh wz wr G b3 b4 m fs A8 c8 vs k){nm:ByteArray}{dA:Option Af}{dn dc:Nat}{dx:List Int}(hx:fs[k]? =AA (⟨nm,dA,dn,dc⟩,dx))
  (hM: ∀x∈bo A++Gg fs,x<m) (hD: ∀x∈bo A++Gg fs,x∉G.all) (hby: ∀f∈fs,∀x∈f.2,0<=x/\x<=255) (hR:ER wz A n c fs) (hG: ∀x∈G.all,x<wz.heap.size) (hmz:m<=wz.heap.size) {cs:Obj}
  (ho:Own wb 100 3 A9 (1+3*k+3) c9 (vs++AO8 b3 wr.heap.size k)) (hc:AZ (bo A8) ((wr.alloc (.cells #[.string nm,.slice dA dn dc] 64)).alloc cs) wb) (hn: ∀x∈bo A9,x∈bo A8\/(((wr.alloc (.cells #[.string nm,.slice dA dn dc] 64)).alloc cs).heap.size<=x/\x<wb.heap.size)):
  dh wz wb G b3 b4 m fs A9 c9 (vs++AO8 b3 wr.heap.size k) (k+1):=by
 have ha:AZ [] wr ((wr.alloc (.cells #[.string nm,.slice dA dn dc] 64)).alloc cs):=((AZ.refl [] wr).alloc _).alloc _;have hcc:AZ (bo A8) wr wb:=(ha.nil _).trans hc (λx hx=>.inl hx);have hL: ∀x∈bo A8,m<=x/\∃cs,Bl wr x 100 cs:=λx hx=>⟨CY hmz (h.new x hx),h.own.AGu x hx⟩;have hz:=h.Aj.size;have hmem:=Bq hx
 have hb:Bl wb wr.heap.size 64 #[.string nm,.slice dA dn dc]:=by
  have:=(Bl.new wr 64 #[.string nm,.slice dA dn dc]).alloc cs;exact this.Aj hc (λhm=>by have:=h.own.lt _ hm;omega)
 (have hbn:wr.heap.size∉G.all:=λhm=>by have:=hG _ hm;omega);have hdm: ∀x∈bo dA,x∈bo A++Gg fs:=λx hx=>Bd.2 (.inr (Es.2 ⟨_,hmem,hx⟩));have hd:Rd wb 1 dA dn dc (bv dx):=(hR.dat _ hmem).Aj (h.Aj.trans hcc (λx hx=>.inr (h.new x hx))) AV;refine⟨ho,?_,h.Aj.trans hcc (λx hx=>.inr (h.new x hx)),λx hx=>?_⟩
 ·have hfx:(BB fs)[k]? =AA (nm,dx):=by unfold BB;rw[Bg,hx];rfl
  have hkl:((BB fs).take k).length=k:=by
   have:=(CP.1 hfx).1;rw[Ht];omega
  rw[RQ,hfx,Option.toList_some,dY,hkl,Na,<- Jo];refine (h.stp.AGt hcc hL).append ?_;exact .cons (.create _ _ _ hb hbn) (.cons (.write _ _ _ _ _ _ hb hbn hd (λx hx=>⟨hD x (hdm x hx),hM x (hdm x hx)⟩) (hby _ hmem)) (.cons (.sync _ _ _ hb hbn) .nil))
 rcases hn x hx with h'|h'
 ·exact h.new x h'
 have:=h'.1;simp at this;omega
theorem ALR{G:Bi}{A0:Option Af}{c0:Nat}{vs0:List AQ}{D:List EM}{w0:AL}(wz:AL)(Q0:Exit->Act->AL->Prop)
  (HR:Hid (ER w0 A n c fs)) (HM:Hid (∀x∈bo A++Gg fs,x<m)) (HD:Hid (∀x∈bo A++Gg fs,x∉G.all)) (HBY:Hid (∀f∈fs,∀x∈f.2,0<=x/\x<=255)) (hn:n<=178956970)
  (HS:Hid (dh w0 wz G b3 b4 m fs A0 c0 vs0 0)) (HG:Hid (∀x∈G.all,x<w0.heap.size)) (HMZ:Hid (m<=w0.heap.size))
  (u0 u1 u4 u5 u6 u7 u9 u10 u11 u12 u13 u14 u15 u16 u17 u18 u19 u20 u21 u22 u23 u24 u25 u26 u27 u28 u29 u30 u31 u35 u36 u37 u38 u39 u40 u41 u42 u43 u44 u45 u46 u47 u48 u49 u50 u51 u52 u53 u54 u55 u56 u57 u58 u59 u60 u61 u62 u63 u64 u65 u66 u67 u68 u69 u70 u71 u72 u73 u74 u75 u76 u77 u78 u79 u80 u81:AQ)
  (AFd:Hid (∀(A8:Option Af) (c8:Nat) (vs:List AQ) (v9 v10 v35 v36 v37 v38 v39 v40 v41 v42 v43 v44 v45 v46 v47 v48 v49 v50 v51:AQ) (wr:AL),dh w0 wr G b3 b4 m fs A8 c8 vs n->Q0 (.exit 0) ⟨(List.toArray (u0::u1:: .slice A n c:: .pointer (AA ⟨b3,0,AB⟩)::u4::u5::u6::u7:: .slice A8 (1+3*n) c8::v9::v10::u11::u12::u13::u14::u15::u16::u17::u18::u19::u20::u21::u22::u23::u24::u25::u26::u27::u28::u29::u30::u31:: .slice A n c:: .int .i64 (n:Int):: .int .i64 (n:Int)::v35::v36::v37::v38::v39::v40::v41::v42::v43::v44::v45::v46::v47::v48::v49::v50::v51::u52::u53::u54::u55::u56::u57::u58::u59::u60::u61::u62::u63::u64::u65::u66::u67::u68::u69::u70::u71::u72::u73::u74::u75::u76::u77::u78::u79::u80::u81::[])),D⟩ wr)):
  Code.wp Ag (.loop (ADP 0)) Q0 ⟨(List.toArray (u0::u1:: .slice A n c:: .pointer (AA ⟨b3,0,AB⟩)::u4::u5::u6::u7:: .slice A0 1 c0::u9::u10::u11::u12::u13::u14::u15::u16::u17::u18::u19::u20::u21::u22::u23::u24::u25::u26::u27::u28::u29::u30::u31:: .slice A n c:: .int .i64 (n:Int):: .int .i64 0::u35::u36::u37::u38::u39::u40::u41::u42::u43::u44::u45::u46::u47::u48::u49::u50::u51::u52::u53::u54::u55::u56::u57::u58::u59::u60::u61::u62::u63::u64::u65::u66::u67::u68::u69::u70::u71::u72::u73::u74::u75::u76::u77::u78::u79::u80::u81::[])),D⟩ wz:=by
 have hmf: ∀(fn:Fn) (first cap:Array AQ) (w:AL),(aO fn first cap).run Ag w=.ok (.func fn first cap) w:=λ_ _ _ _=>rfl
 conv=>arg 2;arg 1;whnf
 go_loopw [8,34] (λs q wr=>∃(k:Nat) (A8:Option Af) (c8:Nat) (vs:List AQ),k<=n/\q=.int .i64 k/\s=.slice A8 (1+3*k) c8/\dh w0 wr G b3 b4 m fs A8 c8 vs k) (λ_ q _=>n - (intOf q).toNat)
 case atStart=>exact⟨0,A0,c0,vs0,Dn _,rfl,rfl,HS.out⟩
 obtain⟨k,A8,c8,vs,hk,rfl,rfl,hS⟩:=hrel;have HS8:=AP hS;clear hS;by_cases hlt:k<n
 ·(have hlt':(k:Int)<n:=by omega);obtain⟨x,hx⟩: ∃x,fs[k]? =AA x:=⟨_,CB (by have:=HR.out.row.MV;simp[EZ] at this;omega)⟩;obtain⟨⟨nm,dA,dn,dc⟩,dx⟩:=x;obtain⟨ad,rfl,hat⟩:=(HR.out.GH HS8.out.Aj).row.ns (j:=k) (x:=⟨nm,dA,dn,dc⟩) (by unfold EZ;rw[Bg,hx];rfl);have x0:=hat.c0;have x1:=hat.c1;have HX:=AP hx;clear hat hx;(go_wp2_with (at_builtin;refine EW rfl _ _ rfl xh rfl (HS8.out.AO7 ((AZ.refl [] wr).alloc _ |>.alloc _)) rfl (Own.UK _ 100 3 #[.string {data:=#[99,114,101,97,116,101]},.int .i64 (k:Int),.func (.func 43) #[] #[.pointer (AA ⟨b3,0,AB⟩),.pointer (AA ⟨wr.heap.size,0,AB⟩)],.string {data:=#[119,114,105,116,101]},.int .i64 (k:Int),.func (.func 45) #[] #[.pointer (AA ⟨wr.heap.size,0,AB⟩),.pointer (AA ⟨b3,0,AB⟩)],.string {data:=#[115,121,110,99]},.int .i64 (k:Int),.func (.func 48) #[] #[.pointer (AA ⟨b3,0,AB⟩),.pointer (AA ⟨wr.heap.size,0,AB⟩)]] 3 _ _ AV rfl Ar rfl).rd (by simp[Kz]) OH Aa ?_;intro A9 c9 wb hown EX hnew _));go_roundw
  case rel=>exact⟨k+1,A9,c9,_,Aa,by go_num,by first|rfl|(congr 1),HS8.out.next HX.out HM.out HD.out HBY.out HR.out HG.out HMZ.out hown EX hnew⟩
  simp[intOf];omega
 (obtain rfl:k=n:=by omega);go_wp2;exact AFd.out A8 c8 vs _ _ _ _ _ _ _ _ _ _ _ _ _ _ _ _ _ _ _ _ HS8.out
end
section
variable {G1:Bi}{b6 n:Nat}{v:AQ}{w2 wz:AL}
theorem Rd.at3{w:AL}{A:Option Af}{c:Nat}{xs:List AQ}(h:Rd w 3 A n c xs){k:Nat}(hk:k<n){a b d:AQ}(h0:xs[k*3]? =AA a)(h1:xs[k*3+1]? =AA b)(h2:xs[k*3+2]? =AA d):
  ∃ad,A=AA ad/\w.cell? (ad.add (k*3))=AA a/\w.cell? ⟨(ad.add (k*3)).block,(ad.add (k*3)).off+1,AB⟩=AA b/\w.cell? ⟨(ad.add (k*3)).block,(ad.add (k*3)).off+2,AB⟩=AA d:=by
 obtain⟨ad,rfl,_⟩:=h.some_ Aa;have hc:=(h.2.2.2.2 ad rfl).2;have e1:=hc _ _ h1;have e2:=hc _ _ h2;rw[pX] at e1 e2;exact⟨ad,rfl,hc _ _ h0,e1,e2⟩
def AO9 (wz wr:AL) (G:Bi) (b6:Nat) (S1:St) (f:LD):Prop:=
 ∃G' bb v,EH wr G' S1/\G'.b=G.b/\(∀x∈G'.all,x∈G.all\/wz.heap.size<=x)/\AZ (b6::G.all) wz wr/\Bl wr b6 39 #[v]/\RJ wr bb v f/\bb∉G'.all/\wz.heap.size<=bb
theorem DK.from_{wr:AL}{G:Bi}{S2:St}(h:DK wr G1 S2 w2)(hb:G1.b=G.b)(hA: ∀x∈G1.all,x∈G.all\/wz.heap.size<=x)(hc:AZ G.all wz wr):DK wz G S2 w2:=.trans hA hb hc h
theorem rO{wr:AL}{G:Bi}{S2:St}{o:Obj}(h:DK wr G1 S2 w2)(hA: ∀x∈G1.all,x∈G.all\/wz.heap.size<=x)(hc:AZ G.all wz wr)(h6:Bl wz b6 39 #[v])(hn:b6∉G.all):Bl (w2.alloc o) b6 39 #[v]:=by
 have hn1:b6∉G1.all:=λhm=>by
  rcases hA _ hm with h|h;exact hn h;have:=h6.lt;omega
 exact ((h6.Aj hc hn).Aj h.Aj hn1).alloc o
theorem ALS{wr:AL}{G:Bi}{S2:St}{op:ByteArray}{pl cd:Int}(h:DK wr G1 S2 w2)(hb:G1.b=G.b)(hA: ∀x∈G1.all,x∈G.all\/wz.heap.size<=x)(hc:AZ G.all wz wr)(h6:Bl wz b6 39 #[v])(hn:b6∉G.all)(hcd:cd≠0):
  AO9 wz ((w2.alloc (.cells #[.string op,.int .i64 pl,.iface 51 (.int .i64 cd)] 142)).setCell ⟨b6,0,AB⟩ (.iface 140 (.pointer (AA ⟨w2.heap.size,0,AB⟩)))) G b6 S2 ⟨op,pl,cd⟩:=by
 have hk:=rO (o:=.cells #[.string op,.int .i64 pl,.iface 51 (.int .i64 cd)] 142) h hA hc h6 hn;obtain⟨G2,h1,h2,h3,h4⟩:=h.from_ hb hA hc;have hal:AZ [] w2 (w2.alloc (.cells #[.string op,.int .i64 pl,.iface 51 (.int .i64 cd)] 142)):=(AZ.refl [] w2).alloc _;have hst: ∀u,AZ [b6] (w2.alloc (.cells #[.string op,.int .i64 pl,.iface 51 (.int .i64 cd)] 142)) ((w2.alloc (.cells #[.string op,.int .i64 pl,.iface 51 (.int .i64 cd)] 142)).setCell ⟨b6,0,AB⟩ u):=λu=>(AZ.refl _ _).setCell (.inl AV) _;have hl6:=h6.lt;have hz:=h4.size
 have hn2:b6∉G2.all:=λhm=>by
  rcases h3 _ hm with h|h;exact hn h;omega
 refine⟨G2,w2.heap.size,_,(h1.CX hal).keep (hst _) (λx hx hm=>by simp at hm;subst hm;exact hn2 hx),h2,h3,?_,hk.FX 0 _,⟨rfl,(Bl.new w2 _ _).Aj (hst _) (by simp;omega),hcd⟩,λhm=>by have:=h1.lt _ hm;omega,Aa⟩;exact ((h4.mono (λx hx=>.inl (CO _ hx))).Ah hal).trans (hst _) (λx hx=>by simp at hx;subst hx;exact .inl AV)
theorem ALT{G:Bi}{S:St}{B b3 b4 m:Nat}{A8:Option Af}{c8:Nat}{vs:List AQ}{ts:List JL}{D:List EM}(wz:AL)(Q0:Exit->Act->AL->Prop)
  (AKm:Hid (∀c a d v w,6<d->Q0 (.panic c) (BJ a (AA d) v) w->Q0 (.panic c) a w))
  (HF:Hid (EH wz G S)) (HI:Hid (Inv B S)) (hB:B+Jd ts<=1073741824) (hn:n<=1073741824) (hts:ts.length=n)
  (HO:Hid (Own wz 100 3 A8 n c8 vs)) (HS:Hid (Nu wz G b3 b4 m ts vs)) (HNA:Hid (∀x∈bo A8,x∉G.all)) (H3:Hid (wz.cell? ⟨b3,0,AB⟩=AA (Py G)/\b3∉G.all/\b3<wz.heap.size)) (H6:Hid (Bl wz b6 39 #[.nilIface]/\b6∉G.all))
  (u0 u1 u2 u3 u4 u5 u7 u8 u9 u10 u11 u12 u13 u14 u15 u16 u17 u18 u19 u20 u21 u22 u23 u24 u25 u26 u27 u28 u29 u30 u31 u32 u33 u34 u35 u36 u37 u38 u39 u40 u41 u42 u43 u44 u45 u46 u47 u48 u49 u50 u51 u52 u53 u54 u55 u56 u57 u58 u59 u60 u61 u62 u66 u67 u68 u69 u70 u71 u72 u73 u74 u75 u76 u77 u78 u79 u80 u81:AQ)
  (AFd:Hid (∀(v12 v13 v66 v67 v68 v69 v70 v71 v72 v73 v74 v75 v76 v77 v78 v79 v80 v81:AQ) (wr:AL) (S1:St),DK wz G S1 wr->S.runT ts=(S1,[])->Q0 (.exit 2) ⟨(List.toArray (u0::u1::u2::u3::u4::u5:: .pointer (AA ⟨b6,0,AB⟩)::u7::u8::u9::u10::u11::v12::v13::u14::u15::u16::u17::u18::u19::u20::u21::u22::u23::u24::u25::u26::u27::u28::u29::u30::u31::u32::u33::u34::u35::u36::u37::u38::u39::u40::u41::u42::u43::u44::u45::u46::u47::u48::u49::u50::u51::u52::u53::u54::u55::u56::u57::u58::u59::u60::u61::u62:: .slice A8 n c8:: .int .i64 (n:Int):: .int .i64 (n:Int)::v66::v67::v68::v69::v70::v71::v72::v73::v74::v75::v76::v77::v78::v79::v80::v81::[])),D⟩ wr))
  (AUP:Hid (∀(v65 v12 v13 v66 v67 v68 v69 v70 v71 v72 v73 v74 v75 v76 v77 v78 v79 v80 v81:AQ) (wr:AL) (S1:St) (f:LD),AO9 wz wr G b6 S1 f->S.runT ts=(S1,[f])->Q0 .ret ⟨(List.toArray (u0::u1::u2::u3::u4::u5:: .pointer (AA ⟨b6,0,AB⟩)::u7::u8::u9::u10::u11::v12::v13::u14::u15::u16::u17::u18::u19::u20::u21::u22::u23::u24::u25::u26::u27::u28::u29::u30::u31::u32::u33::u34::u35::u36::u37::u38::u39::u40::u41::u42::u43::u44::u45::u46::u47::u48::u49::u50::u51::u52::u53::u54::u55::u56::u57::u58::u59::u60::u61::u62:: .slice A8 n c8:: .int .i64 (n:Int)::v65::v66::v67::v68::v69::v70::v71::v72::v73::v74::v75::v76::v77::v78::v79::v80::v81::[])),D⟩ wr)):
  Code.wp Ag (.loop (ADP 1)) Q0 ⟨(List.toArray (u0::u1::u2::u3::u4::u5:: .pointer (AA ⟨b6,0,AB⟩)::u7::u8::u9::u10::u11::u12::u13::u14::u15::u16::u17::u18::u19::u20::u21::u22::u23::u24::u25::u26::u27::u28::u29::u30::u31::u32::u33::u34::u35::u36::u37::u38::u39::u40::u41::u42::u43::u44::u45::u46::u47::u48::u49::u50::u51::u52::u53::u54::u55::u56::u57::u58::u59::u60::u61::u62:: .slice A8 n c8:: .int .i64 (n:Int):: .int .i64 0::u66::u67::u68::u69::u70::u71::u72::u73::u74::u75::u76::u77::u78::u79::u80::u81::[])),D⟩ wz:=by
 have q1:= @AKN;have q2:= @AKM;have hst: ∀(a:Af) (fn:Fn) (x y:Array AQ) (m:Mode) (w:AL),(store a (.func fn x y) m).run Ag w=stored Ag w a (.func fn x y) m:=λa fn x y m w=>run_store Ag w a _ m rfl
 conv=>arg 2;arg 1;whnf
 go_loopw [65] (λq wr=>∃(j:Nat) (S1:St),j<=n/\q=.int .i64 j/\DK wz G S1 wr/\Inv (B+Jd (ts.take j)) S1/\S.runT ts=S1.runT (ts.drop j)) (λq _=>n - (intOf q).toNat)
 case atStart=>exact⟨0,S,Dn _,rfl,.same HF.out (.refl _ _),HI.out.mono Aa,rfl⟩
 obtain⟨j,S1,hj,rfl,⟨G1,hF1,hG1,hA1,X4⟩,hI1,hE1⟩:=hrel;have Gf:=AP hF1;have HA1:=AP hA1;have CZ:=AP X4;have HI1:=AP hI1;have rJ:=AP hE1;have rQ:=AP hG1;clear hF1 hA1 X4 hI1 hE1 hG1;by_cases hlt:j<n
 ·(have hlt':(j:Int)<n:=by omega);obtain⟨t,ht⟩: ∃t,ts[j]? =AA t:=⟨_,CB Aa⟩;obtain⟨f,hf,y0,y1,y2⟩:=HS.out.at_ ht;obtain⟨ad,rfl,z0,z1,z2⟩:=(HO.out.rd.Aj CZ.out HNA.out).at3 hlt y0 y1 y2;have HT:=AP ht;obtain⟨W,hW⟩: ∃W,wr.alloc (.cells #[.string t.op,.int .i64 t.pl,f] 100)=W:=⟨_,rfl⟩;(have hcW:AZ [] wr W:=by rw[<- hW];exact (AZ.refl [] wr).alloc _);(have hbW:Bl W wr.heap.size 100 #[.string t.op,.int .i64 t.pl,f]:=by rw[<- hW];exact .new _ _ _);(have hnW:wr.heap.size∉G1.all:=λhm=>by have:=Gf.out.lt _ hm;omega);have HT0:Hid (∀w',AZ G1.all W w'->w'.cell? ⟨wr.heap.size,0,AB⟩=AA (.string t.op)):=AP λw' hc=>(hbW.Aj hc hnW).cell 0;have HT1:Hid (∀w',AZ G1.all W w'->w'.cell? ⟨wr.heap.size,1,AB⟩=AA (.int .i64 t.pl)):=AP λw' hc=>(hbW.Aj hc hnW).cell 1;have HT2:Hid (∀w',AZ G1.all W w'->w'.cell? ⟨wr.heap.size,2,AB⟩=AA f):=AP λw' hc=>(hbW.Aj hc hnW).cell 2;have hb1:=xg ht;have hb2:=rM ts (j+1);have hcd:AZ [] wr W.drew:=hcW.drew;obtain⟨id,bd,cp,rfl,hcf,hcall⟩:=hf.call (wr:=W.drew) (G1:=G1) (S:=S1) H3.out.1 H3.out.2.1 H3.out.2.2 (Gf.out.CX hcd) rQ.out HA1.out (CZ.out.Ah hcd) HI1.out Aa;have Ui:=AP hcall;have Ql:=AP hcW;clear hcall hbW hcW hb1 hb2 hcd hf y0 y1 y2 ht;(go_wp2_with fail);refine FU (S:=λw'=>AZ G1.all W w') Aq ((AZ.refl _ _).drew) (λhHeld=>?_);refine tk 0 ?_;refine Gh 1 (λw' hSw=>HT0.out _ hSw) ?_;refine tk 2 ?_;refine Gh 3 (λw' hSw=>HT1.out _ hSw) ?_;refine tk 4 ?_;refine Gh 5 (λw' hSw=>HT2.out _ hSw) ?_;refine Em 6 λK hK=>?_;go_simp;refine Ui.out.mono ?_;rintro e w2 ⟨rfl,hT⟩;have HI2:=AP (HI1.out.act t.d);have HE2:=AP (ALP (S:=S1) HT.out)
  generalize S1.act t.d=R at*
  obtain⟨S2,cd⟩:=R;have hcw:AZ G1.all W w2:=(AZ.refl _ W).drew.trans hT.Aj (λx hx=>.inl hx);have HT9:=AP (DK.before Ql.out.drew hT);have rU:=AP hcw;clear hT;simp only[];refine hK.out _ _ (hcw) (λhHeld=>?_);(try simp only[BJ,Bh]);clear hK K;by_cases hec:cd=0
  ·subst hec;refine Em 7 λK hK=>?_;go_simp;refine (Yj 0 _).mono ?_;rintro e w3 ⟨rfl,rfl⟩;go_simp;refine hK.out _ _ (rU.out) (λhHeld=>?_);(try simp only[BJ,Bh]);clear hK K;refine Em 8 λK hK=>?_;go_simp;refine (wrap_nil _ _ _).mono ?_;rintro e w3 ⟨rfl,rfl⟩;go_simp;refine hK.out _ _ (rU.out) (λhHeld=>?_);(try simp only[BJ,Bh]);clear hK K;refine tk 9 ?_;refine Eu Aq ?_ _;(try simp only[BJ,Bh]);go_wp2;go_roundw
   case rel=>exact⟨j+1,S2,Aa,by go_num,HT9.out.from_ rQ.out HA1.out CZ.out,HI2.out.mono (by have:=xg HT.out;omega),by rw[rJ.out,HE2.out,BZ rfl]⟩
   simp[intOf];omega
  have HEC:=AP hec;(have e1:(cd==0)=false:=by simp[hec]);have hb6:Bl (w2.alloc (.cells #[.string t.op,.int .i64 t.pl,.iface 51 (.int .i64 cd)] 142)) b6 39 #[.nilIface]:=rO HT9.out HA1.out CZ.out H6.out.1 H6.out.2;have c6:=hb6.cell 0;have z6:=hb6.frozen 0;simp only[GG] at c6;clear hb6 hec;refine Em 7 λK hK=>?_;go_simp;refine (Yj cd _).mono ?_;rintro e w3 ⟨rfl,rfl⟩;rw[BM HEC.out];go_simp;refine hK.out _ _ (rU.out) (λhHeld=>?_);(try simp only[BJ,Bh]);clear hK K;refine Em 8 λK hK=>?_;go_simp;refine (Yk _ _ _ _ _).mono ?_;rintro e w3 ⟨rfl,rfl⟩;go_simp;refine hK.out _ _ (rU.out.alloc _) (λhHeld=>?_);(try simp only[BJ,Bh]);clear hK K;refine tk 9 ?_;refine Eu Aq ?_ _;(try simp only[BJ,Bh]);go_wp2;exact AUP.out _ _ _ _ _ _ _ _ _ _ _ _ _ _ _ _ _ _ _ _ S2 ⟨t.op,t.pl,cd⟩ (ALS HT9.out rQ.out HA1.out CZ.out H6.out.1 H6.out.2 HEC.out) (by rw[rJ.out,HE2.out,BM HEC.out])
 (obtain rfl:j=n:=by omega);go_wp2;have h1:=rJ.out;rw[RS Aa] at h1;exact AFd.out _ _ _ _ _ _ _ _ _ _ _ _ _ _ _ _ _ _ _ S1 ⟨G1,Gf.out,rQ.out,HA1.out,CZ.out⟩ h1
end
section
variable {L:List Nat}{b6:Nat}{v:AQ}{w:AL}
theorem TK.tell{wr:AL}{G:Bi}{S1:St}{G1:Bi}{fs:List LD}(hF:EH wr G1 S1)(hb:G1.b=G.b)(hA: ∀x∈G1.all,x∈G.all\/w.heap.size<=x)(hc:AZ G.all w wr)(hE:JK wr v L fs)(hL: ∀x∈L,w.heap.size<=x/\x∉G1.all)(hL6: ∀x∈L,x≠b6)
  (hn:b6∉G1.all) (hl:w.heap.size<=b6):TK w G S1 fs (.returned v) (wr.setCell ⟨b6,0,AB⟩ v):=by
 have hst:AZ [b6] wr (wr.setCell ⟨b6,0,AB⟩ v):=(AZ.refl _ _).setCell (.inl AV) _;exact⟨v,G1,L,rfl,hE.Aj hst (λx hx hm=>hL6 x hx (by simpa using hm)),hF.keep hst (λx hx hm=>by simp at hm;subst hm;exact hn hx),hb,hA,hc.trans hst (λx hx=>by simp at hx;subst hx;exact .inr hl),hL⟩
theorem rV{tm:Array AQ}(ht:tm[6]? =AA (.pointer (AA ⟨b6,0,AB⟩)))(hc:w.cell? ⟨b6,0,AB⟩=AA v):(results Tryz.f14 tm).run Ag w=.ok v w:=by
 have h1:Tryz.f14.results= #[.cell 6 39]:=rfl;simp[results,h1,ht,asAddr,go_sem,hc]
theorem Um{P:Program}{fn:Func}{t1 t2:Array AQ}{R:FT->AL->Prop}(ht: ∀w,(results fn t1).run P w=(results fn t2).run P w): ∀(ds:List EM) (u:FrameMode) (w:AL),Leaves P fn t1 R ds u w->Leaves P fn t2 R ds u w
 | [],.returning,w,h=>by obtain⟨v,h1,h2⟩:=h;exact⟨v,(ht w).symm.trans h1,h2⟩
 | [],.panicking _,_,h=>h| [],.run,_,h=>h
 |d::ds,u,w,h=>by
  obtain⟨h1,fv,cap,f,args,h2,h3,h4⟩:=h;refine⟨h1,fv,cap,f,args,h2,h3,h4.mono λe u' w' hh=>?_⟩
  cases e with|returned v=>exact Um ht ds _ _ hh|panicked c=>exact Um ht ds _ _ hh|outgrown=>exact hh
theorem AR1{R:FT->AL->Prop}{c:List PanicEntry}{a:Act}{d:Nat}(hd:6<d)(h:bodyPostD Ag Tryz.f14 R (.panic c) (a.put (AA d) v) w):bodyPostD Ag Tryz.f14 R (.panic c) a w:=by
 refine Um (λw=>?_) _ _ _ h;have h1:Tryz.f14.results= #[.cell 6 39]:=rfl
 have h2:(a.put (AA d) v).tmps.getD 6 undef=a.tmps.getD 6 undef:=by
  simp only[BJ,RD];rw[D5 Aa]
 simp only[RD] at h2;simp only[results,h1];simp[h2]
theorem JK.nil_(h:JK w v L []):v=.nilIface:=by
 rcases h.rG AV with ⟨h,_⟩|⟨_,_,_,h,_⟩;exact h;cases h
theorem X6{G:Bi}{S:St}{B:Nat}(h:EH w G S)(hi:Inv B S){dst:ByteArray}{A:Option Af}{n c:Nat}{fs:List FM}(hf:ER w A n c fs)(hdis: ∀x∈bo A++Gg fs,x∉G.all)
  (hlt: ∀x∈bo A++Gg fs,x<w.heap.size) (hby: ∀f∈fs,∀x∈f.2,0<=x/\x<=255) (hB:4*B+2*Wu (BB fs)+100<=1073741824):
  Au Ag 14 #[.pointer (AA ⟨G.b,0,AB⟩),.string dst,.slice A n c] w (TK w G (S.KI dst (BB fs)).1 (S.KI dst (BB fs)).2):=by
 have HF:=AP h;have HI:=AP hi;have HR:=AP hf;have HD:=AP hdis;have HBY:=AP hby;have HLT:=AP hlt;clear h hi hf hdis hby hlt;obtain⟨b3,hb3⟩: ∃b3,w.heap.size=b3:=⟨_,rfl⟩;obtain⟨W0,hW0⟩: ∃W0,((w.alloc (.cells #[.pointer (AA ⟨G.b,0,AB⟩)] 45)).alloc (.cells #[.string dst] 9)).alloc (.cells #[.nilIface] 39)=W0:=⟨_,rfl⟩;(have hc0:AZ [] w W0:=by rw[<- hW0];exact (((AZ.refl [] w).alloc _).alloc _).alloc _);have k3:Bl W0 b3 45 #[.pointer (AA ⟨G.b,0,AB⟩)]:=by rw[<- hW0,<- hb3];exact ((Bl.new w _ _).alloc _).alloc _
 have k4:Bl W0 (b3+1) 9 #[.string dst]:=by
  rw[<- hW0,<- hb3];have:=(Bl.new (w.alloc (.cells #[.pointer (AA ⟨G.b,0,AB⟩)] 45)) 9 #[.string dst]).alloc (.cells #[.nilIface] 39);simpa using this
 have k6:Bl W0 (b3+1+1) 39 #[.nilIface]:=by
  rw[<- hW0,<- hb3];have:=Bl.new ((w.alloc (.cells #[.pointer (AA ⟨G.b,0,AB⟩)] 45)).alloc (.cells #[.string dst] 9)) 39 #[.nilIface];simpa using this
 (have hz0:W0.heap.size=b3+1+1+1:=by rw[<- hW0,<- hb3];simp);have c3:=k3.cell 0;have c4:=k4.cell 0;have c6:=k6.cell 0;have z6:=k6.frozen 0;simp only[GG] at c3 c4 c6;have q1:= @wS;have q2:= @AKN;have q3:= @AKM;have q4:= @AGX;have TF:=AP hc0;have HK3:=AP k3;have HK4:=AP k4;have HK6:=AP k6;have HZ0:=AP hz0;have HB3:=AP hb3;(have Xw:Hid (∀k,b3<=k->k∉G.all):=AP λk hk hm=>by have:=HF.out.lt _ hm;omega);obtain⟨R,hRR⟩: ∃R,S.KI dst (BB fs)=R:=⟨_,rfl⟩;have HRR:=AP hRR;rw[hRR];clear hc0 k3 k4 k6 hz0 hRR;go_enter_defers ANO,Tryz.ntmps14;(go_wp2_with fail);refine (SA dst _).mono ?_;rintro e w1 ⟨rfl,rfl⟩;by_cases hg:CV dst=false
 ·have HR1:Hid (R=(S,[⟨{data:=#[112,97,116,104,115]},0,81⟩])):=AP (by rw[<- HRR.out];unfold St.KI;rw[BZ (.inl hg)]);rw[hg]
  go_wp2_with (first
   |(go_at_call 38;refine (Yj 81 _).mono ?_;rintro e w3 ⟨rfl,rfl⟩)
   |(go_at_call 37;refine (Yk _ _ _ _ _).mono ?_;rintro e w3 ⟨rfl,rfl⟩;have hb6:=HK6.out.alloc (.cells #[.string {data:=#[112,97,116,104,115]},.int .i64 0,.iface 51 (.int .i64 81)] 142);have d6:=hb6.cell 0;have y6:=hb6.frozen 0;simp only[GG] at d6))
  refine⟨_,rV rfl (hb6.FX 0 _ |>.cell 0),?_⟩;rw[HR1.out];have hal:=(AZ.refl [] w3).alloc (.cells #[.string {data:=#[112,97,116,104,115]},.int .i64 0,.iface 51 (.int .i64 81)] 142);have hz:=HZ0.out;have hw:=HB3.out;exact .tell (HF.out.CX (TF.out.Ah hal)) rfl (λ_ h=>.inl h) ((TF.out.Ah hal).nil _) (L:=[w3.heap.size]) ⟨rfl,.new _ _ _,Ar⟩ (λx hx=>by simp at hx;subst hx;exact⟨Aa,Xw.out _ Aa⟩) (λx hx=>by simp at hx;subst hx;omega) (Xw.out _ Aa) Aa
 (have hg1:CV dst=true:=by simpa using hg);rw[hg1];by_cases hs:dst=BP
 ·have HR1:Hid (R=(S,[⟨{data:=#[112,97,116,104,115]},0,81⟩])):=AP (by rw[<- HRR.out];unfold St.KI;rw[BZ (.inr hs)]);(have hst:(dst.toList==[46,115,116,97,103,101])=true:=by rw[show ([46,115,116,97,103,101]:List UInt8)=BP.toList by decide+kernel,<- JE];exact decide_eq_true hs);clear hs
  go_wp2_with (first
   |(go_at_call 38;refine (Yj 81 _).mono ?_;rintro e w3 ⟨rfl,rfl⟩)
   |(go_at_call 37;refine (Yk _ _ _ _ _).mono ?_;rintro e w3 ⟨rfl,rfl⟩;have hb6:=HK6.out.alloc (.cells #[.string {data:=#[112,97,116,104,115]},.int .i64 0,.iface 51 (.int .i64 81)] 142);have d6:=hb6.cell 0;have y6:=hb6.frozen 0;simp only[GG] at d6))
  refine⟨_,rV rfl (hb6.FX 0 _ |>.cell 0),?_⟩;rw[HR1.out];have hal:=(AZ.refl [] w3).alloc (.cells #[.string {data:=#[112,97,116,104,115]},.int .i64 0,.iface 51 (.int .i64 81)] 142);have hz:=HZ0.out;have hw:=HB3.out;exact .tell (HF.out.CX (TF.out.Ah hal)) rfl (λ_ h=>.inl h) ((TF.out.Ah hal).nil _) (L:=[w3.heap.size]) ⟨rfl,.new _ _ _,Ar⟩ (λx hx=>by simp at hx;subst hx;exact⟨Aa,Xw.out _ Aa⟩) (λx hx=>by simp at hx;subst hx;omega) (Xw.out _ Aa) Aa
 have hst:(dst.toList==[46,115,116,97,103,101])=false:=by rw[show ([46,115,116,97,103,101]:List UInt8)=BP.toList by decide+kernel,<- JE];exact decide_eq_false hs
 have HRX:Hid (R=if S.clean.2≠0 then (S.clean.1,Ko S.clean.2) else if (S.clean.1.runT (Ec dst (BB fs))).2=[] then S.clean.1.runT (Ec dst (BB fs)) else ((S.clean.1.runT (Ec dst (BB fs))).1.clean.1,(S.clean.1.runT (Ec dst (BB fs))).2++Ko (S.clean.1.runT (Ec dst (BB fs))).1.clean.2)):=AP (by
  rw[<- HRR.out];unfold St.KI;rw[BM (by rw[hg1];simp[hs])])
 have HIC:=AP HI.out.clean;clear hs;(go_wp2_with fail);refine (Yl (HF.out.CX TF.out) HI.out Aa).mono ?_
 generalize S.clean=Z at*
 obtain⟨S1,cd⟩:=Z;rintro e w2 ⟨v1,G1,L1,rfl,hE1,hF1,hG1,hA1,X4,hN1⟩;have hb6:Bl w2 (b3+1+1) 39 #[.nilIface]:=HK6.out.Aj X4 (Xw.out _ Aa);have d6:=hb6.cell 0;have y6:=hb6.frozen 0;have APA:Bl w2 b3 45 #[.pointer (AA ⟨G.b,0,AB⟩)]:=HK3.out.Aj X4 (Xw.out _ Aa);have hb4:Bl w2 (b3+1) 9 #[.string dst]:=HK4.out.Aj X4 (Xw.out _ Aa)
 have AGs: ∀k,b3<=k->k<b3+1+1+1->k∉G1.all:=λk h1 h2 hm=>by
  have hz:=HZ0.out;rcases hA1 k hm with h|h;exact Xw.out k h1 h;omega
 have TZ:=AP hb6;have rJ:=AP hE1;have Gf:=AP hF1;have HA1:=AP hA1;have CZ:=AP X4;have vC:=AP hN1;have AGv:=AP AGs;have APB:=AP APA;have HB4:=AP hb4;have rQ:=AP hG1;simp only[GG] at d6;clear hE1 hF1 hA1 X4 hN1 hb6 AGs APA hb4 hG1 c3 c4 c6 z6 hst;by_cases hcd:cd=0
 ·subst hcd;have hx:v1=.nilIface:=rJ.out.nil_;subst hx;have HR1:Hid (R=if (S1.runT (Ec dst (BB fs))).2=[] then S1.runT (Ec dst (BB fs)) else ((S1.runT (Ec dst (BB fs))).1.clean.1,(S1.runT (Ec dst (BB fs))).2++Ko (S1.runT (Ec dst (BB fs))).1.clean.2)):=AP (by rw[HRX.out,BM AV]);have hmf: ∀(fn:Fn) (first cap:Array AQ) (w:AL),(aO fn first cap).run Ag w=.ok (.func fn first cap) w:=λ_ _ _ _=>rfl;clear HRX;obtain⟨wz,hwz⟩: ∃wz,w2.alloc (.cells #[.string {data:=#[109,107,100,105,114]},.int .i64 0,.func (.func 41) #[] #[.pointer (AA ⟨b3,0,AB⟩)]] 100)=wz:=⟨_,rfl⟩;(have hcz:AZ [] w2 wz:=by rw[<- hwz];exact (AZ.refl [] w2).alloc _);(have hoz:Own wz 100 3 (AA ⟨w2.heap.size,0,AB⟩) 1 1 [.string {data:=#[109,107,100,105,114]},.int .i64 0,.func (.func 41) #[] #[.pointer (AA ⟨b3,0,AB⟩)]]:=by rw[<- hwz];exact Own.lit w2 100 3 _ 1 Ar rfl);(have hfl:(BB fs).length=n:=by have:=HR.out.row.MV;simpa[EZ,BB] using this);have hfk:=ADO (BB fs);(have hsz:w2.heap.size+1=wz.heap.size:=by rw[<- hwz];simp);have AVL:w.heap.size<=w2.heap.size:=CY TF.out.size CZ.out.size;have AUr:=CZ.out.size;have hz0:=HZ0.out;have AVM:=HB3.out;have HCZ:=AP hcz;have HOZ:=AP hoz;have hcw:AZ G.all w w2:=(TF.out.nil _).trans CZ.out (λx hx=>.inl hx);have HM:Hid (∀x∈bo A++Gg fs,x<b3+1+1):=AP λx hx=>by have:=HLT.out x hx;omega
  have HD1:Hid (∀x∈bo A++Gg fs,x∉G1.all):=AP λx hx hm=>by
   rcases HA1.out x hm with h|h;exact HD.out x hx h;have:=HLT.out x hx;have:=TF.out.size;omega
  have APC:Hid (∀x∈G1.all,x<w2.heap.size):=AP Gf.out.lt;have HRZ:Hid (ER w2 A n c fs):=AP ⟨HR.out.row.Aj hcw (λx hx=>HD.out x (Bd.2 (.inl hx))),λf hf=>(HR.out.dat f hf).Aj hcw (λx hx=>HD.out x (Bd.2 (.inr (Es.2 ⟨f,hf,hx⟩))))⟩;have HPZ:Hid (dh w2 wz G1 b3 (b3+1) (b3+1+1) fs (AA ⟨w2.heap.size,0,AB⟩) 1 [.string {data:=#[109,107,100,105,114]},.int .i64 0,.func (.func 41) #[] #[.pointer (AA ⟨b3,0,AB⟩)]] 0):=AP ⟨hoz,.cons .Cc .nil,hcz,λx hx=>by simp at hx;omega⟩;clear hcz hoz hcw;go_wp2;refine ALR (G:=G1) (b3:=b3) (b4:=b3+1) (m:=b3+1+1) (fs:=fs) (A0:=AA ⟨w2.heap.size,0,AB⟩) (c0:=1) wz _ HRZ HM HD1 HBY Aa HPZ APC (AP Aa) _ _ _ _ _ _ _ _ _ _ _ _ _ _ _ _ _ _ _ _ _ _ _ _ _ _ _ _ _ _ _ _ _ _ _ _ _ _ _ _ _ _ _ _ _ _ _ _ _ _ _ _ _ _ _ _ _ _ _ _ _ _ _ _ _ _ _ _ _ _ _ _ _ _ _ _ ?_;refine AP ?_;rintro A8 c8 vs v9 v10 v35 v36 v37 v38 v39 v40 v41 v42 v43 v44 v45 v46 v47 v48 v49 v50 v51 wr hP;have HP:=AP hP;have hrc:=hP.Aj;have APD:=APB.out.Aj hrc AV;have c3:=APD.cell 0;simp only[GG] at c3;have HRC:=AP hrc;clear hP HPZ APD hrc;(go_wp2_with (at_builtin;refine EW rfl _ _ rfl xh rfl (HP.out.AO7 ((AZ.refl [] wr).alloc _)) rfl (Own.UK _ 100 3 #[.string {data:=#[110,97,109,101,115]},.int .i64 0,.func (.func 50) #[.pointer (AA ⟨G.b,0,AB⟩)] #[],.string {data:=#[114,101,110,97,109,101]},.int .i64 0,.func (.func 51) #[] #[.pointer (AA ⟨b3,0,AB⟩),.pointer (AA ⟨b3+1,0,AB⟩)],.string {data:=#[115,97,102,101]},.int .i64 0,.func (.func 50) #[.pointer (AA ⟨G.b,0,AB⟩)] #[]] 3 _ _ rfl rfl Ar rfl).rd (by simp[Kz]) OH Aa ?_;intro A9 c9 wb hown EX hnew _));have hab:AZ [] wr (wr.alloc (.cells #[.string {data:=#[110,97,109,101,115]},.int .i64 0,.func (.func 50) #[.pointer (AA ⟨G.b,0,AB⟩)] #[],.string {data:=#[114,101,110,97,109,101]},.int .i64 0,.func (.func 51) #[] #[.pointer (AA ⟨b3,0,AB⟩),.pointer (AA ⟨b3+1,0,AB⟩)],.string {data:=#[115,97,102,101]},.int .i64 0,.func (.func 50) #[.pointer (AA ⟨G.b,0,AB⟩)] #[]] 100)):=(AZ.refl [] wr).alloc _;have hwb:AZ (bo A8) wr wb:=(hab.nil _).trans EX (λx hx=>.inl hx);have hzb:AZ [] w2 wb:=HRC.out.trans hwb (λx hx=>.inr (by have:=HP.out.new x hx;omega))
  have KF: ∀x∈bo A9,w2.heap.size<=x:=λx hx=>by
   rcases hnew x hx with h|h;have:=HP.out.new x h;omega;have h1:=h.1;have h2:=HRC.out.size;simp at h1;omega
  have hL8: ∀x∈bo A8,b3+1+1<=x/\∃cs,Bl wr x 100 cs:=λx hx=>⟨by have:=HP.out.new x hx;omega,HP.out.own.AGu x hx⟩;have hst:=HP.out.stp.AGt hwb hL8;have APE:=HB4.out.Aj hzb AV;have ALU:=APB.out.Aj hzb AV;have AUQ:=TZ.out.Aj hzb AV
  have hst2:Nu wb G1 b3 (b3+1) (b3+1+1) (Ec dst (BB fs)) (vs++(#[.string {data:=#[110,97,109,101,115]},.int .i64 0,.func (.func 50) #[.pointer (AA ⟨G.b,0,AB⟩)] #[],.string {data:=#[114,101,110,97,109,101]},.int .i64 0,.func (.func 51) #[] #[.pointer (AA ⟨b3,0,AB⟩),.pointer (AA ⟨b3+1,0,AB⟩)],.string {data:=#[115,97,102,101]},.int .i64 0,.func (.func 50) #[.pointer (AA ⟨G.b,0,AB⟩)] #[]]:Array AQ).toList):=by
   have h1:(BB fs).take n=BB fs:=Ep Aa;rw[h1] at hst;unfold Ec;refine hst.append ?_;refine .cons ?_ (.cons ?_ (.cons ?_ .nil));rw[<- rQ.out];exact .names;exact .rename _ (APE.cell 0) (AGv.out _ Aa Aa) Aa;rw[<- rQ.out];exact .names
  have HO9:=AP hown;have ADQ:=AP hst2;have HZB:=AP hzb;have hFb:=Gf.out.CX hzb;have HFB:=AP hFb;(have HNA:Hid (∀x∈bo A9,x∉G1.all):=AP λx hx hm=>by have:=KF x hx;have:=APC.out x hm;omega);have H3b:Hid (wb.cell? ⟨b3,0,AB⟩=AA (Py G1)/\b3∉G1.all/\b3<wb.heap.size):=AP ⟨by unfold Py;rw[rQ.out];exact ALU.cell 0,AGv.out _ Aa Aa,ALU.lt⟩;have H6b:Hid (Bl wb (b3+1+1) 39 #[.nilIface]/\b3+1+1∉G1.all):=AP ⟨AUQ,AGv.out _ Aa Aa⟩;have hbl:=df dst (BB fs)
  have hct:(Ec dst (BB fs)).length=1+3*n+3:=by
   unfold Ec;rw[Gz,Gz,X5];simp only[iG,Oy,EU,Hr];omega
  clear hab hwb KF hL8 hst APE ALU hst2 hown EX hnew hFb;go_wp2;refine ALT (G:=G1) (S:=S1) (B:=2*B+2) (b3:=b3) (b4:=b3+1) (b6:=b3+1+1) (m:=b3+1+1) (ts:=Ec dst (BB fs)) wb _ (AP (by intro c a d v w hd h;exact AR1 hd h)) HFB HIC Aa Aa hct HO9 ADQ HNA H3b H6b _ _ _ _ _ _ _ _ _ _ _ _ _ _ _ _ _ _ _ _ _ _ _ _ _ _ _ _ _ _ _ _ _ _ _ _ _ _ _ _ _ _ _ _ _ _ _ _ _ _ _ _ _ _ _ _ _ _ _ _ _ _ _ _ _ _ _ _ _ _ _ _ _ _ _ _ _ _ ?_ ?_
  ·refine AP ?_;intro x12 x13 x66 x67 x68 x69 x70 x71 x72 x73 x74 x75 x76 x77 x78 x79 x80 x81 wr2 S2 hT hrun;have AGw:=H6b.out.1.Aj hT.Aj H6b.out.2;have d6:=AGw.cell 0;have y6:=AGw.frozen 0;simp only[GG] at d6;have HT:=AP hT;have AUR:=AP hrun;have APF:=AP AGw;clear hT hrun AGw;go_wp2;refine leaves_cons (f:=39) (args:=#[.pointer (AA ⟨b3+1+1,0,AB⟩),.pointer (AA ⟨b3,0,AB⟩)]) AV (by simp[go_sem,AOO]) ?_;refine (ALN (APF.out.FX 0 _ |>.cell 0)).mono ?_;rintro e u' w5 ⟨rfl,rfl,rfl⟩;refine⟨_,rV rfl (APF.out.FX 0 _ |>.cell 0),?_⟩;(have hR:R=(S2,[]):=by rw[HR1.out,AUR.out];rfl);rw[hR];obtain⟨G2,g1,g2,g3,g4⟩:=HT.out;have hcb:AZ G.all w wb:=((TF.out.nil _).trans CZ.out (λx hx=>.inl hx)).Ah HZB.out;have AUS:=HZB.out.size;have ADR: ∀x∈G1.all,x∈G.all\/w.heap.size<=x:=λx hx=>(HA1.out x hx).imp id (λh=>by omega)
   exact .tell (L:=[]) g1 (g2.trans rQ.out) (λx hx=>by
    rcases g3 x hx with h|h
    ·exact ADR x h
    ·exact .inr Aa) (hcb.trans g4 ADR) rfl (λx hx=>by cases hx) (λx hx=>by cases hx) (λhm=>by
    rcases g3 _ hm with h|h;exact H6b.out.2 h
    have:=H6b.out.1.lt;omega) Aa
  refine AP ?_;intro x65 x12 x13 x66 x67 x68 x69 x70 x71 x72 x73 x74 x75 x76 x77 x78 x79 x80 x81 wr2 S2 f hP2 hrun;obtain⟨G2,bb,v,g1,g2,g3,g4,g5,g6,g7,g8⟩:=hP2;have hIR:=HIC.out.runT (Ec dst (BB fs));rw[hrun] at hIR;have hl6:=H6b.out.1.lt
  have AUT: ∀k,k<wb.heap.size->k∉G1.all->k∉G2.all:=λk hk hn hm=>by
   rcases g3 _ hm with h|h;exact hn h;omega
  have hc3:wr2.cell? ⟨b3,0,AB⟩=AA (Py G2):=by
   rw[show Py G2=Py G1 by unfold Py;rw[g2]]
   exact g4.cell H3b.out.1 (λhm=>by
    rcases BD.1 hm with h|h;simp only at h;omega
    exact H3b.out.2.1 h)
  (have hR:R=(S2.clean.1,f::Ko S2.clean.2):=by rw[HR1.out,hrun];rfl);have k1:=ALO (u:=.returning) g1 hIR Aa hc3 g5 g6 (AUT _ hl6 H6b.out.2) g7 Aa;refine leaves_cons (f:=39) (args:=#[.pointer (AA ⟨b3+1+1,0,AB⟩),.pointer (AA ⟨b3,0,AB⟩)]) AV (by simp[go_sem,AOO]) ?_;refine k1.mono ?_;rintro e u' w5 ⟨rfl,rfl,v5,G5,L5,e1,e2,e3,e4,e5,e6,e7⟩;refine⟨_,rV rfl e1,?_⟩;rw[hR];have hcb:AZ G.all w wb:=((TF.out.nil _).trans CZ.out (λx hx=>.inl hx)).Ah HZB.out;have AUS:=HZB.out.size;have AT6:=g4.size;have ADR: ∀x∈G1.all,x∈G.all\/w.heap.size<=x:=λx hx=>(HA1.out x hx).imp id (λh=>by omega)
  have APG: ∀x∈G2.all,x∈G.all\/w.heap.size<=x:=λx hx=>by
   rcases g3 x hx with h|h
   ·exact ADR x h
   exact .inr Aa
  refine⟨v5,G5,L5,rfl,e2,e3,e4.trans (g2.trans rQ.out),λx hx=>?_,(hcb.trans g4 (λx hx=>?_)).trans e6 (λx hx=>?_),λx hx=>⟨?_,(e7 x hx).1⟩⟩
  ·rcases e5 x hx with h|h
   ·exact APG x h
   exact .inr Aa
  ·rcases BD.1 hx with h|h;exact .inr Aa;exact ADR x h
  ·rcases BD.1 hx with h|h;exact .inr Aa;exact APG x h
  rcases (e7 x hx).2 with h|h<;>omega
 have hx:(∃b,v1=.iface 140 (.pointer (AA ⟨b,0,AB⟩))):=by
  have:=rJ.out;unfold Ko qw at this;simp only[BM hcd] at this;rcases this.rG AV with ⟨_,_,h⟩|⟨b,g,_,_,h⟩;(cases h);exact⟨b,h.1⟩
 obtain⟨b,rfl⟩:=hx;have HR1:Hid (R=(S1,Ko cd)):=AP (by rw[HRX.out,BZ hcd]);clear hcd HRX;go_wp2;refine⟨_,rV rfl (TZ.out.FX 0 _ |>.cell 0),?_⟩;rw[HR1.out];have hz:=HZ0.out;have hw:=HB3.out;have hsz:=CZ.out.size;exact .tell Gf.out rQ.out (λx hx=>(HA1.out x hx).imp id (λh=>by omega)) (TF.out.nil _ |>.trans CZ.out (λx hx=>.inl hx)) rJ.out (λx hx=>⟨by have:=(vC.out x hx).1;omega,(vC.out x hx).2⟩) (λx hx=>by have:=(vC.out x hx).1;omega) (AGv.out _ Aa Aa) Aa
end
open Go.Extern.Stop Go.Stop Go.Extern
theorem rW(t:Af)(w:AL):(UQ (.iface 133 (.pointer (AA t)))).run Ag w
  =.ok (.agg #[.pointer (AA ⟨1,133,AB⟩),.pointer (AA ⟨w.heap.size,0,AB⟩),.int .u64 150]) (w.alloc (.cells #[.pointer (AA t)] 133)):=by kernel_rfl
theorem ADS(a:Af)(w:AL):(ABO (O5 "reflectlite.Value.Type" 0) (λt _ _ _=>lq t) #[.agg #[.pointer (AA ⟨1,133,AB⟩),.pointer (AA a),.int .u64 150]]).run Ag w
  =.ok (.iface 199 (.agg #[.pointer (AA ⟨1,133,AB⟩)])) w:=by kernel_rfl
theorem rX(h:AQ)(w:AL):(Go.method 392 199 (.agg #[h]) "Kind").run Ag w=.ok (171,h) w:=by kernel_rfl
theorem ADT(w:AL):((mJ λt=>(λa:Nat=>Kw IntKind.u8 (a:Int))<$>Rtype.kind t) #[.pointer (AA ⟨1,133,AB⟩)]).run Ag w=.ok (.int .u8 22) w:=by kernel_rfl
theorem AFe(w:AL):((mJ λt=>(λa:Nat=>Kw IntKind.u8 (a:Int))<$>Rtype.kind t) #[.pointer (AA ⟨1,51,AB⟩)]).run Ag w=.ok (.int .u8 2) w:=by kernel_rfl
theorem rlm(z:Sem AQ)(f:Am->Af->Nat->Nat->Sem AQ)(v:AQ):
  UT z f #[v]=(do match <- WL v with|none=>z|some (t,a,fl)=>f t a fl (fl % 32)):=rfl
theorem di(a:Af)(w:AL):(WL (.agg #[.pointer (AA ⟨1,133,AB⟩),.pointer (AA a),.int .u64 150])).run Ag w=.ok (AA (133,a,150)) w:=by kernel_rfl
theorem AAx(a p:Af)(W:AL)(ha:W.cell? a=AA (.pointer (AA p))):
  (UT (O5 "reflectlite.Value.IsNil" 0) Yx #[.agg #[.pointer (AA ⟨1,133,AB⟩),.pointer (AA a),.int .u64 150]]).run Ag W=.ok (.bool false) W:=by
 rw[rlm];simp only[Et,di,QU];simp[Yx,loadVar,isAgg,underlying,AKb,ha,QU]
theorem rY(h:AQ)(w:AL):(Go.method 392 199 (.agg #[h]) "Elem").run Ag w=.ok (192,.agg #[h]) w:=by kernel_rfl
theorem X7(h:AQ)(w:AL):(Go.method 392 199 (.agg #[h]) "Implements").run Ag w=.ok (193,.agg #[h]) w:=by kernel_rfl
theorem Oz(h:AQ)(w:AL):(Go.method 392 199 (.agg #[h]) "AssignableTo").run Ag w=.ok (190,.agg #[h]) w:=by kernel_rfl
theorem ADU(w:AL):(lu mD #[.agg #[.pointer (AA ⟨1,133,AB⟩)]]).run Ag w=.ok (.iface 199 (.agg #[.pointer (AA ⟨1,51,AB⟩)])) w:=by kernel_rfl
theorem iI(w:AL):(QS "Implements" mF #[.agg #[.pointer (AA ⟨1,51,AB⟩)],.iface 199 (.agg #[.pointer (AA ⟨1,39,AB⟩)])]).run Ag w=.ok (.bool true) w:=by kernel_rfl
theorem AAy(v:AQ)(w:AL):(WJ #[.iface 51 v]).run Ag w=.ok (.iface 199 (.agg #[.pointer (AA ⟨1,51,AB⟩)])) w:=by kernel_rfl
theorem vF(v:AQ)(w:AL):(WJ #[.iface 140 v]).run Ag w=.ok (.iface 199 (.agg #[.pointer (AA ⟨1,140,AB⟩)])) w:=by kernel_rfl
theorem vG(v:AQ)(w:AL):(WJ #[.iface 150 v]).run Ag w=.ok (.iface 199 (.agg #[.pointer (AA ⟨1,150,AB⟩)])) w:=by kernel_rfl
theorem iJ(w:AL):(QS "AssignableTo" UO #[.agg #[.pointer (AA ⟨1,51,AB⟩)],.iface 199 (.agg #[.pointer (AA ⟨1,51,AB⟩)])]).run Ag w=.ok (.bool true) w:=by kernel_rfl
theorem eF(w:AL):(QS "AssignableTo" UO #[.agg #[.pointer (AA ⟨1,140,AB⟩)],.iface 199 (.agg #[.pointer (AA ⟨1,51,AB⟩)])]).run Ag w=.ok (.bool false) w:=by kernel_rfl
theorem eG(w:AL):(QS "AssignableTo" UO #[.agg #[.pointer (AA ⟨1,150,AB⟩)],.iface 199 (.agg #[.pointer (AA ⟨1,51,AB⟩)])]).run Ag w=.ok (.bool false) w:=by kernel_rfl
theorem vH(e:Int)(w:AL):(UQ (.iface 51 (.int .i64 e))).run Ag w
  =.ok (.agg #[.pointer (AA ⟨1,51,AB⟩),.pointer (AA ⟨w.heap.size,0,AB⟩),.int .u64 130]) (w.alloc (.cells #[.int .i64 e] 51)):=by kernel_rfl
theorem vI(w:AL):(Rtype.elem? 133).run Ag w=.ok (AA 51) w:=by kernel_rfl
theorem ALV(p:Af)(w:AL):(ReflectliteValue.mk 51 p ABP).run Ag w=.ok (.agg #[.pointer (AA ⟨1,51,AB⟩),.pointer (AA p),.int .u64 386]) w:=by kernel_rfl
theorem ADV(a p:Af)(W:AL)(ha:W.cell? a=AA (.pointer (AA p))):
  (UT (O5 "reflectlite.Value.Elem" 0) Yy #[.agg #[.pointer (AA ⟨1,133,AB⟩),.pointer (AA a),.int .u64 150]]).run Ag W
   =.ok (.agg #[.pointer (AA ⟨1,51,AB⟩),.pointer (AA p),.int .u64 386]) W:=by
 rw[rlm];simp only[Et,di,QU];simp[Yy,loadVar,isAgg,underlying,AKb,ha,QU,vI,ALV]
theorem rls(v x:AQ):eQ #[v,x]=(do
  let (AA (dst,a,fl),AA (src,b,_)):=(<- WL v,<- WL x)
   |unsupported (.noEntry "extern/(internal/reflectlite.Value).Set.zeroValue")
  if fl/ABP % 2==0 then unsupported (.noEntry "extern/(internal/reflectlite.Value).Set.unaddressable")
  let val <- loadVar src b
  if <- ABN dst src then storeVar dst a val
  else if <- Rtype.implements dst src then
   if (<- Rtype.kind src)==20 then
    match val with| .nilIface=>unsupported (.noEntry "extern/reflectlite: a nil value of one interface type handed on as a value of another")|_=>storeVar dst a val
   else storeVar dst a (.iface src val)
  else panicString ("reflectlite.Set: value of type " ++(<- Rtype.spelt src)++ " is not assignable to type " ++(<- Rtype.spelt dst))
  pure (.tuple #[])):=rfl
theorem AAz(a:Af)(w:AL):(WL (.agg #[.pointer (AA ⟨1,51,AB⟩),.pointer (AA a),.int .u64 386])).run Ag w=.ok (AA (51,a,386)) w:=by kernel_rfl
theorem ADW(a:Af)(w:AL):(WL (.agg #[.pointer (AA ⟨1,51,AB⟩),.pointer (AA a),.int .u64 130])).run Ag w=.ok (AA (51,a,130)) w:=by kernel_rfl
theorem AA0(w:AL):(ABN 51 51).run Ag w=.ok true w:=by kernel_rfl
theorem AIK(ta b:Af)(e:Int)(old:AQ)(W:AL)(hb:W.cell? b=AA (.int .i64 e))(ht:W.cell? ta=AA old)(hf:W.frozen? ta=false):
  (eQ #[.agg #[.pointer (AA ⟨1,51,AB⟩),.pointer (AA ta),.int .u64 386],.agg #[.pointer (AA ⟨1,51,AB⟩),.pointer (AA b),.int .u64 130]]).run Ag W
   =.ok (.tuple #[]) (W.setCell ta (.int .i64 e)):=by
 rw[rls];simp only[Et,AAz,ADW,QU];simp[ABP,loadVar,isAgg,underlying,ATk,hb,QU,AA0,storeVar,Ny,storeCells,Addr.add];rw[run_store Ag W ta _ _ (by rfl)];simp[ht,hf]
end Go.Proofs.YtkkgcebhfghdnaaGreatDoor.Vw
