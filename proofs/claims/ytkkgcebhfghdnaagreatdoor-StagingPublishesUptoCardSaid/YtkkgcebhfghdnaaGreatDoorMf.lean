/- Part 6 of what that rests on; no condition. -/
import Derived.Test.YtkkgcebhfghdnaaGreatDoorMd
import Derived.Test.YtkkgcebhfghdnaaGreatDoorMe
import Derived.Conc.LeavingOf
import Derived.Deep.RegionHeld3
import Derived.Deep.RegionLaw
import Derived.Defers
import Derived.LaidEqlPtr
import Derived.Lib.AppendStr
import Derived.Lib.SliceRun
import Derived.Lib.SmallJoins
import Derived.SevenTold
import Derived.StillTailTactics
import Derived.Stop.Joined
set_option maxRecDepth 100000
set_option maxHeartbeats 8000000
open Go.World renaming block_lt_of_cell?→UT, cell?→Pj
open Go.ByteArray renaming toList_eq→Yt
open Go renaming wp_region_held_drew→Ew, run_underlying→IK, wpAnyH_ready→Oz, wpAnyH_done→Ej, strOfNums→Fa, Deferred→EL, callFunc→E8, MemPlace→GZ, TypeId→Am, maxLen→ER, Ending→Fe, Value→AQ, World→AL, Calls→Au, DataW→Dt, Addr→Ag
open List renaming take_succ_cons→ABK, flatten_cons→Js, length_cons→EY, cons_append→Dn, flatten_nil→mX, length_nil→Hg, nil_append→EE, headD_cons→Rj, replicate→MJ, sum_cons→Bz, length→NZ, range→Fp
open Go.Result renaming andThen_ok→Oy
open List.Pairwise renaming nil→mW
open Go.Instr renaming findAsking→tZ, makeFunc→aS, checkKey→Uo, findNow→Ur, lookup→Po
open Option renaming getD_some→Dx, map_none→YC, map_some→Fj, none→AB, some→AA
open Go.IntKind renaming wrap_i64→NY
open Nat renaming strongRecOn→eX
open Go.Value renaming oneCell'→Jr, pointer→QL, string→WL, cells→Nv
open Go.AllReadyH renaming cons→Gp, nil→O0
open Function renaming comp→Yo
open Go.Sem renaming run_bind→Eu
open Prod renaming fst→Ac
open Go.Act renaming put→BG
namespace Go.Proofs.YtkkgcebhfghdnaaGreatDoor.Vw
open Go.RowKit
section
variable {l xs:List Nat}{c i j n x y:Nat}{w:AL}
def pv (x:Nat):AQ:=.pointer (AA ⟨x,0,AB⟩)
def Oo (w:AL) (x:Nat):Prop:=∃t cs,Bv w x t cs
theorem Oo.Ap{w w':AL}{x:Nat}{L:List Nat}(h:Oo w x)(hc:AZ L w w')(hn:x∉L):Oo w' x:=by
 obtain⟨t,cs,h⟩:=h;exact⟨t,cs,h.Ap hc hn⟩
theorem qX(hx:Oo w x)(hy:Oo w y):(binOp .eql 121 (.pointer (AA ⟨x,0,AB⟩)) (.pointer (AA ⟨y,0,AB⟩))).run Ae w=.ok (.bool (decide (x=y))) w:=by
 obtain⟨i,hi,hsz⟩: ∃i,Ae.info? 126=AA i/\i.size≠0:=by
  have h:(Ae.info? 126).map (·.size)=AA 1:=by kernel_rfl
  cases hi:Ae.info? 126 with|none=>rw[hi] at h;cases h|some i=>rw[hi] at h;injection h with h;exact⟨i,rfl,by have h':i.size=1:=h;omega⟩
 by_cases h:x=y
 ·subst h;rw[decide_eq_true rfl];exact run_eql_ptr_same w _ AAJ hi
 rw[decide_eq_false h];obtain⟨t,cs,hbx⟩:=hx;obtain⟨t',cs',hby⟩:=hy;exact run_eql_ptr_other w AAJ hi hsz (λe=>h (by injection e)) hbx hby
theorem qY(x y k:Nat)(w:AL)(hk:w.cell? ⟨k,0,AB⟩=AA (pv x))(hx:Oo w x)(hy:Oo w y):
  Au Ae 84 #[pv y,.pointer (AA ⟨k,0,AB⟩)] w λe w'=>e=.returned (.bool (decide (x=y)))/\AZ [] w w':=by
 have hq:=qX hx hy;unfold pv at hk⊢;clear hx hy;obtain⟨b,hb⟩: ∃b,decide (x=y)=b:=⟨_,rfl⟩;rw[hb] at hq⊢;clear hb;go_enter ATC,Tryz.ntmps84;go_wp2;go_ret;exact⟨rfl,AZ.refl _ _⟩
theorem AAh{A:Option Ag}(h:Rd w 1 A n c (xs.map pv))(hj:j<n):
  ∃ad x,A=AA ad/\xs[j]? =AA x/\w.cell? (ad.add j)=AA (.pointer (AA ⟨x,0,AB⟩)):=by
 obtain⟨ad,u,h1,h2,h3⟩:=h.Yu hj;rw[Ba] at h2
 cases hz:xs[j]? with|none=>rw[hz] at h2;cases h2|some x=>rw[hz] at h2;simp only[Fj,DR] at h2;subst h2;exact⟨ad,x,h1,rfl,h3⟩
theorem AH4(A:Option Ag)(n c:Nat)(xs:List Nat)(x k:Nat)(w:AL)(hr:Rd w 1 A n c (xs.map pv))(hk:w.cell? ⟨k,0,AB⟩=AA (pv x))(hbx:Oo w x)(hbs: ∀y∈xs,Oo w y)(hn:n<=1073741824):
  Au Ae 120 #[.slice A n c,.func (.func 84) #[] #[.pointer (AA ⟨k,0,AB⟩)]] w λe w'=>AZ [] w w'/\
   ((e=.returned (.int .i64 (-1))/\x∉xs)\/∃i:Nat,e=.returned (.int .i64 i)/\xs[i]? =AA x/\x∉xs.take i):=by
 (have hl:xs.length=n:=by have:=hr.1;simp at this;omega);have HR:=AO hr;have HK:=AO hk;have HL:=AO hl;have HBX:=AO hbx;have gZ:=AO hbs;clear hr hk hl hbx hbs;go_enter AKK,Tryz.ntmps120;go_wp2;go_loopw [8] (λq wr=>∃i:Nat,i<=n/\q=.int .i64 i/\x∉xs.take i/\AZ [] w wr) (λq _=>n - (intOf q).toNat)
 case atStart=>exact⟨0,DW _,rfl,AV,AZ.refl _ _⟩
 obtain⟨i,hi,rfl,hall,hch⟩:=hrel;have LQ:=AO hall;have DJ:=AO hch;clear hall hch;by_cases hlt:i<n
 ·(have hlt':(i:Int)<n:=by omega);obtain⟨ad,y,rfl,hx,hcell⟩:=AAh (HR.out.Ap DJ.out GM) hlt;have HX:=AO hx;clear hx;(go_wp2_with fail);refine (qY x y k wr (DJ.out.cell HK.out BH) (HBX.out.Ap DJ.out BH) ((gZ.out y (Bi HX.out)).Ap DJ.out BH)).mono ?_;rintro e w3 ⟨rfl,hc3⟩;have Gg:=AO (DJ.out.Ah hc3);clear hc3;by_cases hxy:x=y
  ·subst hxy;simp only[decide_true];go_wp2;go_ret;exact⟨Gg.out,.inr ⟨i,rfl,HX.out,LQ.out⟩⟩
  simp only[hxy,decide_false];have HXY:=AO hxy;clear hxy;go_wp2;go_roundw
  case rel=>
   refine⟨i+1,Aa,by go_num,λhy=>?_,Gg.out⟩;rw[take_snoc _ _ _ HX.out] at hy;rcases Bj.1 hy with h|h;exact LQ.out h;simp at h;exact HXY.out h
  simp[intOf];omega
 (obtain rfl:i=n:=by omega);go_wp2;go_ret;refine⟨DJ.out,.inl ⟨rfl,λhm=>LQ.out ?_⟩⟩;rw[Ea (by rw[HL.out];exact Bd _)];exact hm
theorem Own.after{e:Am}{g:Nat}{xs:List AQ}(h:Own w e 1 (AA ⟨g,0,AB⟩) n c xs){o:Nat}(ho:n<=o)(u:AQ):Own (w.setCell ⟨g,o,AB⟩ u) e 1 (AA ⟨g,0,AB⟩) n c xs:=by
 rcases h.form with ⟨h1,_⟩|⟨g',cur,hA,hb,hn,hm,hs,ht⟩;(cases h1);injection hA with hA;injection hA with hA;subst hA;refine⟨h.1,.inr ⟨g,c,_,rfl,DW _,hb.FH o u,hn,hm,by rw[yK];exact hs,?_⟩⟩;rw[<- ht,yL,yM];rw[List.set_eq_of_length_le];rw[I7];omega
theorem Own.AGp{e:Am}{g n c:Nat}{xs:List AQ}: ∀(us:List AQ) {w:AL} (_:Own w e 1 (AA ⟨g,0,AB⟩) n c xs) {o:Nat} (_:n<=o),Own (w.setCells g o us) e 1 (AA ⟨g,0,AB⟩) n c xs/\AZ [g] w (w.setCells g o us)
 | [],w,h,o,ho=>⟨h,AZ.refl _ _⟩
 |u::r,w,h,o,ho=>by
  have h1:=Own.after h ho u;have h2:=Own.AGp r h1 (o:=o+1) Aa;exact⟨h2.1,((AZ.refl [g] w).setCell AV u).trans h2.2 (λx hx=>.inl hx)⟩
structure WX (xs:List Nat) (x:Nat) (i j:Nat) (l:List Nat):Prop where
 len:l.length=xs.length
 le:i<j
 jn:j<=xs.length
 head:l.take i=(xs.take j).filter (λy=>y !=x)
 rest:l.drop j=xs.drop j
theorem WX.at_(h:WX xs x i j l)(hj:j<xs.length): ∃y,xs[j]? =AA y/\l[j]? =AA y:=by
 refine⟨xs[j],Bo hj,?_⟩;have:=congrArg (λl=>l[0]?) h.rest;simp only[yN,Nat.add_zero] at this;rw[this,Bo hj]
theorem WX.skip(h:WX xs x i j l)(hj:xs[j]? =AA x):WX xs x i (j+1) l:=by
 have hl:=(CP.1 hj).1;refine⟨h.len,by have:=h.le;omega,hl,?_,?_⟩
 ·rw[h.head,take_snoc _ _ _ hj,af];simp
 have:=congrArg (List.drop 1) h.rest;rw[YH,YH] at this;exact this
theorem WX.keep(h:WX xs x i j l)(hj:xs[j]? =AA y)(hy:y≠x):WX xs x (i+1) (j+1) (l.set i y):=by
 have hl:=(CP.1 hj).1;have hle:=h.le;have hln:=h.len;refine⟨by rw[lJ];exact h.len,Aa,hl,?_,?_⟩
 ·rw[take_snoc (l.set i y) i y (by rw[YE,BU rfl,BU Aa]),take_snoc _ _ _ hj,af,<- h.head,List.take_set_of_le (Bd _)];simp[hy]
 have:=congrArg (List.drop 1) h.rest;rw[YH,YH] at this;rw[List.drop_set_of_lt Aa];exact this
theorem WX.done(h:WX xs x i xs.length l):l.take i=xs.filter (λy=>y !=x):=by
 have:=h.head;rwa[yV] at this
theorem AH5(A:Option Ag)(n c:Nat)(xs:List Nat)(x k:Nat)(w:AL)(ho:Own w 121 1 A n c (xs.map pv))(hk:w.cell? ⟨k,0,AB⟩=AA (pv x))(hkA:k∉bo A)(hbx:Oo w x)(hbs: ∀y∈xs,Oo w y)(hxA: ∀y∈x::xs,y∉bo A)(hn:n<=1073741824):
  Au Ae 83 #[.slice A n c,.func (.func 84) #[] #[.pointer (AA ⟨k,0,AB⟩)]] w λe w'=>AZ (bo A) w w'/\
   ∃n',n'=(xs.filter (λy=>y !=x)).length/\e=.returned (.slice A n' c)/\Own w' 121 1 A n' c ((xs.filter (λy=>y !=x)).map pv):=by
 (have hl:xs.length=n:=by have:=ho.1;simp at this;omega);have HO:=AO ho;have HK:=AO hk;have HL:=AO hl;have HBX:=AO hbx;have gZ:=AO hbs;have HKA:=AO hkA;have HXA:=AO hxA;clear ho hk hl hbx hbs hkA hxA;have AVf:= @ARJ;go_enter AOP,Tryz.ntmps83;(go_wp2_with fail);refine (AH4 A n c xs x k w HO.out.rd HK.out HBX.out gZ.out hn).mono ?_;rintro e w1 ⟨hc1,hcase⟩;have CZ:=AO hc1;clear hc1;rcases hcase with ⟨rfl,hno⟩|⟨i0,rfl,hi0,hpre⟩
 ·have HN:=AO hno;clear hno;go_wp2;go_ret
  have hf:xs.filter (λy=>y !=x)=xs:=by
   rw[lN];intro y hy;simp only[bne_iff_ne,ne_eq];rintro rfl;exact HN.out hy
  refine⟨CZ.out.nil _,n,by rw[hf];exact HL.out.symm,rfl,?_⟩;rw[hf];exact HO.out.Ap CZ.out GM
 have hil:=(CP.1 hi0).1;(have hn0:i0<n:=by have:=HL.out;omega);have hne:((i0:Int)== -1)=false:=beq_eq_false_iff_ne.2 Aa
 have HI0:Hid (WX xs x i0 (i0+1) xs):=AO ⟨rfl,Aa,Aa,by
  rw[take_snoc _ _ _ hi0,af]
  have:(xs.take i0).filter (λy=>y !=x)=xs.take i0:=by
   rw[lN];intro y hy;simp only[bne_iff_ne,ne_eq];rintro rfl;exact hpre hy
  rw[this];simp,rfl⟩
 have HO1:=AO (HO.out.Ap CZ.out GM);clear hi0 hpre hil;go_wp2;go_loopw [5,6,7] (λs5 s6 _ wr=>∃(i j:Nat) (l:List Nat),s5=.int .i64 i/\s6=.int .i64 j/\WX xs x i j l/\Own wr 121 1 A n c (l.map pv)/\AZ (bo A) w wr) (λ_ s6 _ _=>n - (intOf s6).toNat)
 case atStart=>exact⟨i0,i0+1,xs,rfl,by go_num,HI0.out,HO1.out,CZ.out.nil _⟩
 obtain⟨i,j,l,rfl,rfl,hD,hown,hch⟩:=hrel;(have hjn:j<=n:=by have:=hD.jn;have:=HL.out;omega);have hij:i<j:=hD.le;have HD:=AO hD;have HW:=AO hown;have DJ:=AO hch;clear hD hown hch;by_cases hlt:j<n
 ·(have hlt':(j:Int)<n:=by omega);obtain⟨y,hxy,hly⟩:=HD.out.at_ (by have:=HL.out;omega);obtain⟨ad,y',rfl,hy',hcell⟩:=AAh HW.out.rd hlt;(have hyy:y'=y:=by rw[hly] at hy';exact (EF hy').symm);subst hyy;have HY:=AO hxy;(have hin:i<n:=by omega);obtain⟨ad2,u2,hA2,hu2,hc2,hfz,hset⟩:=HW.out.Yu hin;injection hA2 with hA2;subst hA2;have AVg:=AO hset;have hmem:y'∈xs:=Bi hxy
  have Uf:Hid (Au Ae 84 #[pv y',.pointer (AA ⟨k,0,AB⟩)] wr λe w'=>e=.returned (.bool (decide (x=y')))/\AZ [] wr w'):=
   AO (qY x y' k wr (DJ.out.cell HK.out HKA.out) (HBX.out.Ap DJ.out (HXA.out x AV)) ((gZ.out y' hmem).Ap DJ.out (HXA.out y' (by simp[hmem]))))
  clear hxy hly hy' hu2 hset hmem;(go_wp2_with fail);refine Uf.out.mono ?_;rintro e w3 ⟨rfl,hc3⟩;have Gg:=AO hc3;have HW3:=AO (HW.out.Ap hc3 GM);have qV:=hc3.cell hc2 BH;by_cases hxe:x=y'
  ·subst hxe;simp only[decide_true];clear hc3 hc2 hfz qV;go_wp2;go_roundw
   case rel=>exact⟨i,j+1,l,rfl,by go_num,HD.out.skip HY.out,HW3.out,DJ.out.Ah Gg.out⟩
   simp[intOf];omega
  simp only[hxe,decide_false];have HXE:=AO hxe;obtain⟨ad3,u3,hA3,hu3,AVh,hf3,AK9⟩:=HW3.out.Yu hin;injection hA3 with hA3;subst hA3;have PZ:=AO AK9;clear hxe hc3 hc2 hfz qV hu3 AK9;go_wp2;go_roundw
  case rel=>
   refine⟨i+1,j+1,l.set i y',by go_num,by go_num,HD.out.keep HY.out (λe=>HXE.out e.symm),?_,?_⟩
   ·have:=PZ.out (pv y');rw[<- VO] at this;exact this
   exact (DJ.out.Ah Gg.out).setCell (.inl (by simp[add_block])) _
  simp[intOf];omega
 (obtain rfl:j=n:=by omega);rcases HW.out.form with ⟨_,h0,_⟩|⟨g,cur,rfl,hb,hnc,hcm,hcs,htk⟩;omega
 have hcl: ∀ty,(Builtin.clear_ #[114] ty #[.slice (AA ⟨g,i,AB⟩) (j - i) (c - i)]).run Ae wr=.ok (.tuple #[]) (wr.setCells g i (MJ (j - i) (.pointer AB))):=
  λty=>Lib.run_clear_slice wr _ _ ty _ AKl (by intro w;kernel_rfl) rfl rfl g i _ _ Aa (λt ht=>by rw[hb.cell,FZ Aa];rfl) (λt ht=>hb.frozen _)
 (have hic:i<=c:=by omega);(have hij':(i:Int)<=j:=by omega);have HQ:=AO (show j<=c from hnc);clear hb hcs htk hcm;go_wp2;go_ret;have hD:=HD.out;have e1:j=xs.length:=HL.out.symm;rw[e1] at hD;have hdone:=hD.done;(have hlen:(xs.filter (λy=>y !=x)).length=i:=by rw[<- hdone,I7];have:=hD.len;omega);have hcut:=HW.out.cut (k:=i) Aa;rw[OI,<- Jg,hdone] at hcut;have haf:=Own.AGp (MJ (j - i) (QL AB)) hcut (o:=i) (Bd _);refine⟨DJ.out.trans haf.2 (λx hx=>.inl (by simpa using hx)),i,hlen.symm,rfl,haf.1⟩
end
section
variable {L L':List Nat}{B i:Nat}{S:St}{w w':AL}
theorem EJ.ALA{G:Bh}(h:EJ w G S){g:Nat}{φ:FY->FY}(hg:G.sg[i]? =AA g)(hL:G.Ls[i]? =AA L)(hc:AZ L w w')(hs:Wj w' g L' (φ (S.files.getD i ([],[]))).1 (φ (S.files.getD i ([],[]))).2)
  (hn: ∀k∈L',k∈L\/w.heap.size<=k):EJ w' {G with Ls:=G.Ls.set i L'} {S with files:=S.files.modify i φ}:=by
 have hil:i<G.Ls.length:=(CP.1 hL).1;(have hpi:G.parts[i+6]? =AA L:=by simpa[Bh.parts] using hL);have hLL: ∀x∈L,∃j P,j∈[i+6]/\G.parts[j]? =AA P/\x∈P:=λx hx=>⟨i+6,L,AV,hpi,hx⟩;have ho:=λ(j:Nat) (P:List Nat) (hj:G.parts[j]? =AA P) (hne:j∉[i+6])=>h.lay.others hLL hj hne;have n6: ∀j,j<6->j∉[i+6]:=λj hj hm=>by simp at hm;omega
 refine⟨h.blk.Ap hc (ho 0 _ rfl (n6 0 Aq) _ AV),h.Ff.keep hc (ho 1 _ rfl (n6 1 Aq)),h.Lt,h.tr2.keep hc (ho 2 _ rfl (n6 2 Aq)),h.is2,h.own.Ap hc (ho 3 _ rfl (n6 3 Aq)),λj c v a b=>(h.chn j c v a b).keep hc (ho 5 _ rfl (n6 5 Aq)) (λ_ h=>h) (λ_ _=>rfl) (Bd _),
  h.kY.Ap hc (ho 4 _ rfl (n6 4 Aq)),by simpa using h.Qo,by simpa using h.Yv,by simpa using h.Yw,h.Zt,h.Wn,?_,?_⟩
 ·intro j x gg M f e1 e2 e3 e4;by_cases hij:j=i
  ·subst hij;simp only at e1 e2 e3 e4;rw[lS hil] at e3;injection e3 with e3;rw[hg] at e2;injection e2 with e2;subst e2;subst e3;rw[yX] at e4;simp only[if_true] at e4
   cases hf:S.files[j]? with
   |none=>rw[hf] at e4;cases e4|some f0=>
    rw[hf] at e4;injection e4 with e4;rw[Gj,hf] at hs;subst e4;have:=h.ino j x g L f0 e1 hg hL hf;exact⟨this.1.Ap hc (ho 5 _ rfl (n6 5 Aq) x (h.Wn x (Bi e1))),hs⟩
  simp only at e1 e2 e3 e4;rw[lT Aa] at e3;rw[yX] at e4;simp only[show ¬i=j from λe=>hij e.symm,if_false] at e4;(have e4':S.files[j]? =AA f:=by simpa using e4);exact (h.ino j x gg M f e1 e2 e3 e4').keep hc (ho 5 _ rfl (n6 5 Aq) x (h.Wn x (Bi e1))) (ho (j+6) M (by simpa[Bh.parts] using e3) (by simp;omega))
 have:=h.lay.FH (w':=w') (i:=i+6) (P':=L') hpi hn hs.lt hc.size;simpa[Bh.parts] using this
theorem Bh.qZ{G:Bh}(hL:G.Ls[i]? =AA L)(hn: ∀k∈L',k∈L\/B<=k): ∀y∈Bh.all {G with Ls:=G.Ls.set i L'},y∈G.all\/B<=y:=by
 intro y hy;simp only[Bh.all,Bh.parts,Js,Bj] at hy⊢;rcases hy with h|h|h|h|h|h|h;exact .inl (.inl h);exact .inl (.inr (.inl h));exact .inl (.inr (.inr (.inl h)));exact .inl (.inr (.inr (.inr (.inl h))));exact .inl (.inr (.inr (.inr (.inr (.inl h)))));exact .inl (.inr (.inr (.inr (.inr (.inr (.inl h))))));obtain⟨P,hP,hy⟩:=OL.1 h;rcases lL hP with h1|rfl;exact .inl (.inr (.inr (.inr (.inr (.inr (.inr (OL.2 ⟨P,h1,hy⟩)))))));rcases hn y hy with h2|h2;exact .inl (.inr (.inr (.inr (.inr (.inr (.inr (OL.2 ⟨L,Bi hL,h2⟩)))))));exact .inr h2
theorem EJ.wrote{G:Bh}(h:EJ w G S){A':Option Ag}{c':Nat}{wr':List Nat}{st':Nat}(hc:AZ (G.b::bo G.Aw) w w')
  (hb:Bv w' G.b 116 #[.map (AA G.t1),.map (AA G.t2),.slice G.A S.EW.length G.c,.slice A' wr'.length c',.int .i64 S.BK,.int .i64 S.stop,.int .i64 (st':Int)])
  (ho:Own w' 121 1 A' wr'.length c' (wr'.map (qP G.ib))) (hA: ∀x∈bo A',x∈bo G.Aw\/w.heap.size<=x):DK w G {S with wr:=wr',steps:=st'} w':=by
 have hLL: ∀x∈G.b::bo G.Aw,∃j P,j∈[0,4]/\G.parts[j]? =AA P/\x∈P:=λx hx=>by
  rcases BF.1 hx with rfl|hx;exact⟨0,_,AV,rfl,AV⟩;exact⟨4,_,AV,rfl,hx⟩
 have hk:=λ(j:Nat) (P:List Nat) (hj:G.parts[j]? =AA P) (hne:j∉[0,4])=>h.lay.others hLL hj hne;have AUK:=h.lay.FH (w':=w') (i:=4) (P:=bo G.Aw) (P':=bo A') rfl hA ho.lt hc.size
 refine⟨{G with Aw:=A',cw:=c'},⟨hb,h.Ff.keep hc (hk 1 _ rfl AV),h.Lt,h.tr2.keep hc (hk 2 _ rfl AV),h.is2,h.own.Ap hc (hk 3 _ rfl AV),λj c v a b=>(h.chn j c v a b).keep hc (hk 5 _ rfl AV) (λ_ h=>h) (λ_ _=>rfl) (Bd _),
  ho,h.Qo,h.Yv,h.Yw,h.Zt,h.Wn,λj x g L f e1 e2 e3 e4=>(h.ino j x g L f e1 e2 e3 e4).keep hc (hk 5 _ rfl AV x (h.Wn x (Bi e1))) (hk (j+6) L (by simpa[Bh.parts] using e3) AV),AUK⟩,rfl,?_,?_⟩
 ·intro x hx;obtain⟨P,hP,hx⟩:=OL.1 hx;simp only[Bh.parts,BF] at hP;rcases hP with rfl|rfl|rfl|rfl|rfl|hP;exact .inl (Bh.Fg (i:=0) rfl hx);exact .inl (Bh.Fg (i:=1) rfl hx);exact .inl (Bh.Fg (i:=2) rfl hx);exact .inl (Bh.Fg (i:=3) rfl hx);exact (hA x hx).imp (λh=>Bh.Fg (i:=4) rfl h) id;exact .inl (OL.2 ⟨P,by simp only[Bh.parts,BF];exact .inr (.inr (.inr (.inr (.inr hP)))),hx⟩)
 exact hc.mono (λx hx=>.inl (by
  obtain⟨j,P,_,hj,hxP⟩:=hLL x hx
  exact Bh.Fg hj hxP))
theorem DK.next{w1:AL}{G G1:Bh}{S':St}(hc:AZ G.all w w1)(hb:G1.b=G.b)(hsub: ∀x∈G1.all,x∈G.all\/w.heap.size<=x)(h:DK w1 G1 S' w'):DK w G S' w':=by
 obtain⟨G',h1,h2,h3,h4⟩:=h
 exact⟨G',h1,h2.trans hb,λx hx=>by
  rcases h3 x hx with h|h;exact hsub x h
  exact .inr (Cj hc.size h),hc.trans h4 hsub⟩
theorem AFQ:Ety Ae 114 121 1 8 (.pointer AB):=.mk' AKl Az rfl Aq
theorem AH6{G:Bh}(h:EJ w G S)(hi:Inv B S)(d n:ByteArray)(A:Option Ag)(k c:Nat)(xs:List Int)(hr:Rd w 1 A k c (bv xs))(hB:B+k<=1073741824)(hdis: ∀x∈bo A,x∉G.all):
  Au Ae 178 #[.pointer (AA ⟨G.b,0,AB⟩),.string d,.string n,.slice A k c] w λe w'=>e=.returned (.int .i64 (S.write d n xs).2)/\DK w G (S.write d n xs).1 w':=by
 (have hlx:xs.length=k:=by have:=hr.1;simp at this;omega);have HF:=AO h;have HI:=AO hi;have HBk:=AO hB;have HB:Hid (B<=1073741824):=AO Aa;have HR:=AO hr;have Ug:=AO hlx;have qc:=AO hdis;(have k63:k<=1073741824:=by omega);clear h hi hB hr hlx hdis;have k81:= @AKg;have AVi:= @ARQ;have AVj:= @ARR;go_enter AKR,Tryz.ntmps178;(go_wp2_with fail);refine (qQ HF.out d n).mono ?_;rintro e w1 ⟨rfl,hc1⟩;have CZ:=AO hc1;obtain⟨o,E,hE⟩: ∃o E,S.Om d n=(o,E):=⟨_,_,rfl⟩;rw[hE];have HE:=AO hE
 cases o with
 |none=>
  (have hb:(E !=0)=true:=by simpa using qR hE);have HR:Hid (S.write d n xs=(S,E)):=AO (by unfold St.write;rw[HE.out]);clear hE;simp only[Xl,YC];go_wp2;go_ret;exact⟨by rw[HR.out];rfl,by rw[HR.out];exact DK.same HF.out CZ.out⟩
 |some x=>
  obtain⟨he0,hd0,F,hF,hx⟩:=VC hE;subst he0;have HXL:=AO (lu HI.out hE);have Gf:=AO (HF.out.Cc hc1);obtain⟨g,L,hL,hbx,hs,hg,hix⟩:=(HF.out.Cc hc1).spo (lu HI.out hE);have HL:=AO hL;have HG:=AO hg;have HS:=AO hs;have c0:=hbx.cell 0;simp at c0;have c6:=Gf.out.blk.cell 6;have f6:=Gf.out.blk.frozen 6;have c4:=Gf.out.blk.cell 4;simp at c6 c4;(have hwt:IntKind.i64.wrap ((S.steps:Int)+1)=((S.steps+1:Nat):Int):=by have:=HI.out.st;have:=HB.out;rw[NY];omega);clear hF hE hx hd0 hs hc1 hL hg hix hbx;simp only[Xl,Fj];by_cases hk0:k=0
  ·subst hk0;have hnil:xs=[]:=RD Ug.out;have HR2:Hid (S.write d n xs=({S with steps:=S.steps+1},0)):=AO (by unfold St.write;rw[HE.out];simp only[hnil,if_true]);clear hnil c0 c4;go_wp2;go_ret;refine⟨by rw[HR2.out];rfl,?_⟩;rw[HR2.out];have hF:=Gf.out;have hch:AZ [G.b] w1 (w1.setCell ⟨G.b,6,AB⟩ (.int .i64 ((S.steps+1:Nat):Int))):=(AZ.refl _ _).setCell (.inl AV) _;refine DK.of (w0:=w1) (G0:=G) ?_ CZ.out rfl (λx hx=>.inl hx);refine hF.wrote (wr':=S.wr) (st':=S.steps+1) (A':=G.Aw) (c':=G.cw) (hch.mono (λx hx=>.inl (by simp only[CB] at hx;subst hx;simp))) ?_ (hF.kY.Ap hch ?_) (λx hx=>.inl hx);simpa using hF.blk.FH 6 (.int .i64 ((S.steps+1:Nat):Int));intro y hy hm;simp only[CB] at hm;subst hm;exact hF.lay.ne (i:=4) (j:=0) (P:=bo G.Aw) (Q:=[G.b]) rfl rfl Aq _ hy AV
  have hkz: ¬k=0:=hk0
  have hw64:IntKind.i64.wrap (S.BK - (S.used:Int))=S.BK - (S.used:Int):=by
   have h1:=HI.out.BK;have h2:=ACs HI.out;have h3:B*B<=1073741824*1073741824:=AF1 HB.out HB.out;rw[NY];omega
  have HXN:Hid (xs≠[]):=AO (by intro e;have:=Ug.out;rw[e] at this;simp at this;omega);(go_wp2_with fail);refine Ew (S:=λw'=>AZ [] w1 w') Az ((AZ.refl _ _).drew) (λhHeld=>?_);refine tk 0 ?_;refine tk 1 ?_;refine tk 2 ?_;refine tk 3 ?_;refine tk 4 ?_;refine F9 5 (λw' hSw=>hSw.cell c4 AV) ?_;refine tk 6 ?_;refine EM 7 λK hK=>?_;go_simp;refine (AK3 (Gf.out.Cc hHeld) HI.out HB.out).mono ?_;rintro e w3 ⟨rfl,hc3⟩;refine hK.out _ _ (hHeld.Ah hc3) (λhHeld=>?_);(try simp only[BG,Bg]);clear hK K;refine tk 8 ?_;refine tk 9 ?_;refine Ej Az ?_ _;(try simp only[BG,Bg]);have Gg:=AO hHeld;clear hHeld c4;by_cases hlt:S.BK - (S.used:Int)<(k:Int)
  ·(have hdec:decide (S.BK - (S.used:Int)<(k:Int))=true:=by simpa using hlt);rw[hdec]
   have HR2:Hid (S.write d n xs=(S,85)):=AO (by
    unfold St.write;rw[HE.out];simp only[HXN.out,if_false]
    rw[BU (by rw[Ug.out];omega)])
   clear hdec hlt hw64;go_wp2;go_ret;exact⟨by rw[HR2.out];rfl,by rw[HR2.out];exact DK.same HF.out (CZ.out.Ah Gg.out)⟩
  (have hdec:decide (S.BK - (S.used:Int)<(k:Int))=false:=by simpa using hlt);rw[hdec]
  have HR2:Hid (S.write d n xs=({S with files:=S.files.modify x (λf=>(f.1,f.2++[xs])),wr:=S.wr++[x],steps:=S.steps+1},0)):=AO (by
   unfold St.write;rw[HE.out];simp only[HXN.out,if_false]
   rw[BL (by rw[Ug.out];omega)])
  have c03:=Gg.out.cell c0 BH;have HF3:=AO (Gf.out.Cc Gg.out);have PZ:=AO (HS.out.Ap Gg.out GM);have HW1:Hid (S.wr.length<=1073741824):=AO (by have:=HI.out.nw;have:=HB.out;omega);have hw1:=HW1.out;clear hdec hlt hw64 c0 c6 f6;(go_wp2_with fail);refine (AAN g L _ _ A k c xs w3 PZ.out Aa (by have:=(HI.out.ET x).1;have:=HBk.out;omega) (by have:=(HI.out.ET x).2;have:=HB.out;omega) ((HR.out.Ap CZ.out GM).Ap Gg.out GM)).mono ?_;rintro e w4 ⟨L',rfl,hs4,hc4,hL4⟩;have TD:=AO (HF3.out.ALA (φ:=λf=>(f.1,f.2++[xs])) HG.out HL.out hc4 hs4 hL4);have OC:Hid (AZ G.all w w4):=AO (((CZ.out.Ah Gg.out).nil G.all).trans hc4 (λy hy=>.inl (Bh.Fg (i:=x+6) (by simpa[Bh.parts] using HL.out) hy)));have WW:Hid (∀y∈Bh.all {G with Ls:=G.Ls.set x L'},y∈G.all\/w.heap.size<=y):=AO (Bh.qZ HL.out (λy hy=>(hL4 y hy).imp id (λh=>by have h1:=CZ.out.size;have h2:=Gg.out.size;omega)));have z3:=TD.out.blk.cell 3;simp at z3;clear hs4 hc4 hL4 c03;(go_wp2_with (at_builtin;refine D8 rfl _ _ rfl AFQ rfl (TD.out.kY.Ap ((AZ.refl [] w4).alloc (.cells #[.pointer (AA ⟨ED G.ib x,0,AB⟩)] 121)) GM) rfl (Own.lit w4 121 1 #[.pointer (AA ⟨ED G.ib x,0,AB⟩)] 1 Aq rfl).rd (by simp[Jr]) (by unfold ER;show S.wr.length+1<=_;omega) (by show (S.wr.length+1)*_<=_;omega) ?_;intro A2 c2 w5 hown5 qf qg _;have Zr:Hid (AZ (bo G.Aw) w4 w5):=AO ((((AZ.refl [] w4).alloc (.cells #[.pointer (AA ⟨ED G.ib x,0,AB⟩)] 121)).nil _).trans qf (λx hx=>.inl hx));have ui:G.b∉bo G.Aw:=(λhm=>TD.out.lay.ne (i:=4) (j:=0) (P:=bo G.Aw) (Q:=[G.b]) rfl rfl Aq _ hm AV);have HB5:=AO (TD.out.blk.Ap Zr.out ui);have y3:=HB5.out.cell 3;have f3:=HB5.out.frozen 3;have TZ:=AO (HB5.out.FH 3 (.slice A2 (S.wr.length+1) c2));have y6:=TZ.out.cell 6;have f6:=TZ.out.frozen 6;simp at y3 y6;have kz:=AO hown5;have HN5:Hid (∀x∈bo A2,x∈bo G.Aw\/w4.heap.size<=x):=AO (λx hx=>(qg x hx).imp id (λh=>by have:=h.1;simp at this;omega));clear hown5 qf qg ui));go_ret;have hb7:=TZ.out.FH 6 (.int .i64 ((S.steps+1:Nat):Int));have hcs:AZ [G.b] w5 ((w5.setCell ⟨G.b,3,AB⟩ (.slice A2 (S.wr.length+1) c2)).setCell ⟨G.b,6,AB⟩ (.int .i64 ((S.steps+1:Nat):Int))):=((AZ.refl _ _).setCell (.inl AV) _).setCell (.inl AV) _
  have Ze: ∀y∈bo A2,y∉[G.b]:=λy hy hm=>by
   simp only[CB] at hm;subst hm;rcases HN5.out _ hy with h1|h1;exact TD.out.lay.ne (i:=4) (j:=0) (P:=bo G.Aw) (Q:=[G.b]) rfl rfl Aq _ h1 AV;have:=TD.out.blk.lt;simp only at this;omega
  refine⟨by rw[HR2.out];rfl,?_⟩;rw[HR2.out];refine DK.next (G1:={G with Ls:=G.Ls.set x L'}) OC.out rfl WW.out ?_;refine TD.out.wrote (wr':=S.wr++[x]) (st':=S.steps+1) (A':=A2) (c':=c2) ?_ ?_ ?_ HN5.out;exact (Zr.out.mono (λy hy=>.inl (DD _ hy))).trans hcs (λy hy=>.inl (by simp only[CB] at hy;subst hy;simp));simpa using hb7;have q:=kz.out.Ap hcs Ze;simpa[qP] using q
theorem ALB{G:Bh}(h:EJ w G S)(hi:Inv B S)(d n:ByteArray)(hB:B<=1073741824):
  Au Ae 49 #[.pointer (AA ⟨G.b,0,AB⟩),.string d,.string n] w λe w'=>e=.returned (.int .i64 (S.sync d n).2)/\DK w G (S.sync d n).1 w':=by
 have HF:=AO h;have HI:=AO hi;have HB:=AO hB;clear h hi hB;have k81:= @AKg;have k82:= @ATo;have k83:= @ATp;go_enter AN3,Tryz.ntmps49;(go_wp2_with fail);refine (qQ HF.out d n).mono ?_;rintro e w1 ⟨rfl,hc1⟩;have CZ:=AO hc1;obtain⟨o,E,hE⟩: ∃o E,S.Om d n=(o,E):=⟨_,_,rfl⟩;rw[hE];have HE:=AO hE
 cases o with
 |none=>
  (have hb:(E !=0)=true:=by simpa using qR hE);have HR:Hid (S.sync d n=(S,E)):=AO (by unfold St.sync;rw[HE.out]);clear hE;simp only[Xl,YC];go_wp2;go_ret;exact⟨by rw[HR.out];rfl,by rw[HR.out];exact DK.same HF.out (CZ.out.alloc _)⟩
 |some x=>
  obtain⟨he0,hd0,F,hF,hx⟩:=VC hE;subst he0;have hxl:=lu HI.out hE;have HXL:=AO hxl;have hcA:AZ [] w1 (w1.alloc (.cells #[.pointer (AA ⟨ED G.ib x,0,AB⟩)] 121)):=(AZ.refl [] w1).alloc _;have HF2:=AO ((HF.out.Cc hc1).Cc hcA);have HC2:=AO (hc1.Ah hcA);obtain⟨g,L,hL,hbx,hs,hg,hix⟩:=HF2.out.spo hxl;have HL:=AO hL;have HG:=AO hg;have HS:=AO hs;have HIX:=AO hix;have c0:=hbx.cell 0;simp only[FV] at c0;have HR:Hid (S.sync d n=({S with files:=S.files.modify x (λf=>(FY.all f,[])),wr:=S.wr.filter (λy=>y !=x),steps:=S.steps+1},0)):=AO (by unfold St.sync;rw[HE.out]);have HKB:Hid (Bv (w1.alloc (.cells #[.pointer (AA ⟨ED G.ib x,0,AB⟩)] 121)) w1.heap.size 121 #[.pointer (AA ⟨ED G.ib x,0,AB⟩)]):=AO (Bv.new w1 _ _);have Qq:Hid (∀y∈G.all,y<w1.heap.size):=AO (HF.out.Cc hc1).lt;obtain⟨kb,hkb⟩: ∃kb,w1.heap.size=kb:=⟨_,rfl⟩;obtain⟨W,hW⟩: ∃W,w1.alloc (.cells #[.pointer (AA ⟨ED G.ib x,0,AB⟩)] 121)=W:=⟨_,rfl⟩;have hck:=HKB.out.cell 0;simp only[FV] at hck;rw[hW] at HKB hck HF2 HC2 HS c0;rw[hkb] at HKB hck Qq;clear hF hE hx hd0 hs hc1 hL hg hix hbx hcA hxl;simp only[Xl,Fj];(go_wp2_with fail);refine (AHs g L _ _ W HS.out (by have:=(HI.out.ET x).1;have:=HB.out;omega)).mono ?_;rintro e w4 ⟨L',rfl,hs4,hc4,hL4⟩;have TD:=AO (HF2.out.ALA (φ:=λf=>(FY.all f,[])) HG.out HL.out hc4 hs4 hL4);have OC:Hid (AZ G.all w w4):=AO ((HC2.out.nil G.all).trans hc4 (λy hy=>.inl (Bh.Fg (i:=x+6) (by simpa[Bh.parts] using HL.out) hy)));have WW:Hid (∀y∈Bh.all {G with Ls:=G.Ls.set x L'},y∈G.all\/w.heap.size<=y):=AO (Bh.qZ HL.out (λy hy=>(hL4 y hy).imp id (λh=>by have h1:=HC2.out.size;omega)))
  have hkL:kb∉L:=λhm=>by
   have:=Qq.out kb (Bh.Fg (i:=x+6) (by simpa[Bh.parts] using HL.out) hm);omega
  have HKB4:=AO (HKB.out.Ap hc4 hkL);have z3:=TD.out.blk.cell 3;have zk:=HKB4.out.cell 0;simp at z3 zk;have NH:Hid (S.wr.length<=1073741824):=AO (by have:=HI.out.nw;have:=HB.out;omega)
  have HKW:Hid (kb∉bo G.Aw):=AO (λhm=>by
   have:=Qq.out kb (Bh.Fg (i:=4) rfl hm)
   omega)
  have HIS:Hid (∀i,i<S.files.length->ED G.ib i∈G.K/\Oo w4 (ED G.ib i)):=AO (λi hi=>by
   obtain⟨gg,LL,_,hbb,_,_,hii⟩:=TD.out.spo (i:=i) (by simpa using hi)
   exact⟨TD.out.Wn _ (Bi hii),_,_,hbb⟩)
  have HOW:Hid (Own w4 121 1 G.Aw S.wr.length G.cw ((S.wr.map (ED G.ib)).map pv)):=AO (by
   have:=TD.out.kY;rw[En]
   exact this)
  (have hwt:IntKind.i64.wrap ((S.steps:Int)+1)=((S.steps+1:Nat):Int):=by have:=HI.out.st;have:=HB.out;rw[NY];omega);clear hs4 hc4 hL4 hck c0 hkL;go_wp2_with fail
  refine (AH5 G.Aw S.wr.length G.cw (S.wr.map (ED G.ib)) (ED G.ib x) kb w4 HOW.out zk HKW.out (HIS.out x HXL.out).2 (λy hy=>by
   obtain⟨i,hi,rfl⟩:=CG.1 hy
   exact (HIS.out i (HI.out.wr i hi)).2) (λy hy=>?_) NH.out).mono ?_
  ·have hyK:y∈G.K:=by
    rcases BF.1 hy with rfl|hy;exact (HIS.out x HXL.out).1;obtain⟨i,hi,rfl⟩:=CG.1 hy;exact (HIS.out i (HI.out.wr i hi)).1
   exact TD.out.lay.ne (i:=5) (j:=4) (P:=G.K) (Q:=bo G.Aw) rfl rfl Aq y hyK
  rintro e w5 ⟨hc5,n',hn',rfl,ho5⟩
  have hfm:(S.wr.map (ED G.ib)).filter (λy=>y !=ED G.ib x)=(S.wr.filter (λy=>y !=x)).map (ED G.ib):=by
   rw[lU];congr 1;refine lQ λy hy=>?_;simp only[Yo];have hyl:=HI.out.wr y hy;have hxl:=HXL.out;have hlen:=HF.out.Qo
   have:(ED G.ib y=ED G.ib x)↔y=x:=⟨λe=>by
    unfold ED at e;rw[Gj,Gj,Bo Aa,Bo Aa] at e
    exact (List.getElem_inj HF.out.Zt).1 e,λe=>by rw[e]⟩
   by_cases hxy:y=x;subst hxy;simp;have h2: ¬ED G.ib y=ED G.ib x:=λe=>hxy (this.1 e);exact (bne_iff_ne.2 h2).trans (bne_iff_ne.2 hxy).symm
  rw[hfm] at ho5 hn';rw[DY] at hn';subst hn';have ui:G.b∉bo G.Aw:=(λhm=>TD.out.lay.ne (i:=4) (j:=0) (P:=bo G.Aw) (Q:=[G.b]) rfl rfl Aq _ hm AV);have HB5:=AO (TD.out.blk.Ap hc5 ui);have y3:=HB5.out.cell 3;have f3:=HB5.out.frozen 3;have TZ:=AO (HB5.out.FH 3 (.slice G.Aw (S.wr.filter (λy=>y !=x)).length G.cw));have y6:=TZ.out.cell 6;have f6:=TZ.out.frozen 6;simp at y3 y6;have kz:=AO ho5;have TE:=AO hc5;clear ho5 hc5 ui hfm z3 zk;obtain⟨m',hm'⟩: ∃m',(S.wr.filter (λy=>y !=x)).length=m':=⟨_,rfl⟩;rw[hm'] at y6 f6 kz TZ;have HM':=AO hm';go_wp2;go_ret;have hb7:=TZ.out.FH 6 (.int .i64 ((S.steps+1:Nat):Int));have hcs:AZ [G.b] w5 ((w5.setCell ⟨G.b,3,AB⟩ (.slice G.Aw m' G.cw)).setCell ⟨G.b,6,AB⟩ (.int .i64 ((S.steps+1:Nat):Int))):=((AZ.refl _ _).setCell (.inl AV) _).setCell (.inl AV) _;refine⟨by rw[HR.out];rfl,?_⟩;rw[HR.out];refine DK.next (G1:={G with Ls:=G.Ls.set x L'}) OC.out rfl WW.out ?_;refine TD.out.wrote (wr':=S.wr.filter (λy=>y !=x)) (st':=S.steps+1) (A':=G.Aw) (c':=G.cw) ?_ ?_ ?_ (λy hy=>.inl hy);exact (TE.out.mono (λy hy=>.inl (DD _ hy))).trans hcs (λy hy=>.inl (by simp only[CB] at hy;subst hy;simp))
  ·rw[HM'.out];simpa using hb7
  have q:=kz.out.Ap hcs (λy hy hm=>by
   simp only[CB] at hm;subst hm
   exact TD.out.lay.ne (i:=4) (j:=0) (P:=bo G.Aw) (Q:=[G.b]) rfl rfl Aq _ hy AV)
  rw[HM'.out];rw[En] at q;exact q
end
section
variable {f:Bool}{d last:ByteArray}{D:Eg}{a q:Int}{l:List (ByteArray×List Int)}{fs:List FY}{i n:Nat}{T:Tr}{α:Type}{w w':AL}
def noS:ByteArray:={data:=#[]}
def Eh (f:Bool) (last:ByteArray):List (ByteArray×List Int)->Int
 | []=>0|x::r=>if Ic f last x.1≠0 then Ic f last x.1 else Eh false x.1 r
def Gv (f:Bool) (last:ByteArray):Eg->Int
 | []=>0|d::r=>if Ic f last d.1≠0 then Ic f last d.1 else if Eh true noS d.2≠0 then Eh true noS d.2 else Gv false d.1 r
def Eo (D:Eg) (BK:Int):Int:=if BK<0 then 2 else Gv true noS D
def KU (n:Nat):List (ByteArray×List Int)->KH
 | []=>[]|x::r=>(x.1,n)::KU (n+1) r
def Ha (n:Nat):Eg->Tr
 | []=>[]|d::r=>(d.1,KU n d.2)::Ha (n+d.2.length) r
def Hu (D:Eg):Nat:=(D.map λd=>d.2.length).sum
def Uh (D:Eg):List FY:=D.flatMap λd=>d.2.map λx=>(x.2,[])
def Gw (D:Eg) (BK stop:Int):St:=⟨Ha 0 D,Ha 0 D,[],Uh D,[],BK,stop,0⟩
theorem AFR(n:Nat)(l:List (ByteArray×List Int))(x:ByteArray×List Int):KU n (l++[x])=KU n l++[(x.1,n+l.length)]:=by
 induction l generalizing n with|nil=>rfl|cons y r ih=>simp[KU,ih];omega
theorem AH7(n:Nat)(l:List (ByteArray×List Int)):(KU n l).length=l.length:=by
 induction l generalizing n with|nil=>rfl|cons y r ih=>simp[KU,ih]
theorem iD(n:Nat)(l:List (ByteArray×List Int)):(KU n l).map Ac=l.map Ac:=by
 induction l generalizing n with|nil=>rfl|cons y r ih=>simp[KU,ih]
theorem xM(n:Nat)(D:Eg):(Ha n D).map Ac=D.map Ac:=by
 induction D generalizing n with|nil=>rfl|cons y r ih=>simp[Ha,ih]
theorem qh(D:Eg)(d:ByteArray×List (ByteArray×List Int)):Hu (D++[d])=Hu D+d.2.length:=by simp[Hu]
theorem AFS(n:Nat)(D:Eg)(d:ByteArray×List (ByteArray×List Int)):Ha n (D++[d])=Ha n D++[(d.1,KU (n+Hu D) d.2)]:=by
 induction D generalizing n with|nil=>simp[Ha,Hu]|cons y r ih=>simp only[Dn,Ha,ih,Hu,BN,Bz];rw[show n+y.2.length+(r.map λd=>d.2.length).sum=n+(y.2.length+(r.map λd=>d.2.length).sum) by omega]
theorem AH8(D:Eg)(d:ByteArray×List (ByteArray×List Int)):Uh (D++[d])=Uh D++d.2.map λx=>(x.2,[]):=by simp[Uh]
theorem VE(D:Eg):(Uh D).length=Hu D:=by
 unfold Uh Hu
 induction D with|nil=>rfl|cons y r ih=>simp[ih]
theorem xN: ∀q∈KU n l,q.2<n+l.length:=by
 induction l generalizing n with
 |nil=>simp[KU]|cons y r ih=>
  intro q hq;simp only[KU,BF] at hq;simp only[EY];rcases hq with rfl|hq;simp only;omega;have:=ih q hq;omega
theorem YY: ∀p∈Ha n D,∀q∈p.2,q.2<n+Hu D:=by
 induction D generalizing n with
 |nil=>simp[Ha]|cons y r ih=>
  intro p hp q hq;simp only[Ha,BF] at hp;simp only[Hu,BN,Bz];rcases hp with rfl|hp;have:=xN q hq;omega;have:=ih p hp q hq;simp only[Hu] at this;omega
theorem mD{a b:ByteArray}:Vs a b=false↔Jz b a=true:=by
 unfold Vs Jz;rw[yY];have h1:(Op.bytesLess a.toList b.toList=true)↔a.data.toList<b.data.toList:=Sz;have h2:(Op.bytesLess b.toList a.toList=true)↔b.data.toList<a.data.toList:=Sz;rw[h2];constructor
 ·rintro⟨h3,h4⟩;(have h5: ¬a.data.toList<b.data.toList:=λh=>by rw[h1.2 h] at h3;cases h3);rcases AFy.1 (List.not_lt.1 h5) with h6|h6;exact h6;exfalso;rw[data_inj h6] at h4;simp at h4
 intro h3;refine⟨?_,?_⟩
 ·rw[<- fG,h1];exact λh=>yS _ (List.lt_trans h h3)
 cases he:(a.toList==b.toList) with
 |false=>rfl|true=>
  (have h4:a.toList=b.toList:=by simpa using he);rw[Yt,Yt] at h4;rw[h4] at h3;exact Ak h3 (yS _)
theorem qi{name:ByteArray}:Ic f last name=0↔CO name=true/\(f=false->Jz last name=true):=by
 unfold Ic
 cases hg:CO name with
 |false=>simp|true=>
  rw[BL AV];by_cases h:f=false/\Vs name last=true
  ·rw[BU h];constructor;intro h2;cases h2;rintro⟨_,h2⟩;have h3:=h2 h.1;rw[<- mD,h.2] at h3;cases h3
  rw[BL h];refine⟨λ_=>⟨rfl,λhf=>?_⟩,λ_=>rfl⟩;rw[<- mD]
  cases hl:Vs name last with|false=>rfl|true=>exact Ak ⟨hf,hl⟩ h
theorem Vz(h:Eh f last l=0):(l.map Ac).Pairwise (λa b=>Jz a b=true)/\(∀x∈l,CO x.1=true)/\(f=false->∀x∈l,Jz last x.1=true):=by
 induction l generalizing f last with
 |nil=>exact⟨mW,AV,AV⟩|cons x r ih=>
  unfold Eh at h;by_cases ho:Ic f last x.1=0
  ·rw[BL (by simp[ho])] at h;obtain⟨h1,h2,h3⟩:=ih h;obtain⟨h4,h5⟩:=qi.1 ho;refine⟨Tj.2 ⟨λy hy=>?_,h1⟩,λy hy=>?_,λhf y hy=>?_⟩
   ·obtain⟨z,hz,rfl⟩:=CG.1 hy;exact h3 rfl z hz
   ·rcases BF.1 hy with rfl|hy;exact h4;exact h2 y hy
   rcases BF.1 hy with rfl|hy;exact h5 hf;exact PT (h5 hf) (h3 rfl y hy)
  rw[BU ho] at h;exact Ak h ho
theorem Xr(h:Gv f last D=0):(D.map Ac).Pairwise (λa b=>Jz a b=true)/\(∀x∈D,CO x.1=true)/\(∀x∈D,Eh true noS x.2=0)/\(f=false->∀x∈D,Jz last x.1=true):=by
 induction D generalizing f last with
 |nil=>exact⟨mW,AV,AV,AV⟩|cons x r ih=>
  unfold Gv at h;by_cases ho:Ic f last x.1=0
  ·rw[BL (by simp[ho])] at h;by_cases hf0:Eh true noS x.2=0
   ·rw[BL (by simp[hf0])] at h;obtain⟨h1,h2,h2',h3⟩:=ih h;obtain⟨h4,h5⟩:=qi.1 ho;refine⟨Tj.2 ⟨λy hy=>?_,h1⟩,λy hy=>?_,λy hy=>?_,λhf y hy=>?_⟩
    ·obtain⟨z,hz,rfl⟩:=CG.1 hy;exact h3 rfl z hz
    ·rcases BF.1 hy with rfl|hy;exact h4;exact h2 y hy
    ·rcases BF.1 hy with rfl|hy;exact hf0;exact h2' y hy
    rcases BF.1 hy with rfl|hy;exact h5 hf;exact PT (h5 hf) (h3 rfl y hy)
   rw[BU hf0] at h;exact Ak h hf0
  rw[BU ho] at h;exact Ak h ho
theorem iE{p:ByteArray×KH}(h:p∈Ha n D): ∃m,∃d∈D,p=(d.1,KU m d.2):=by
 induction D generalizing n with
 |nil=>simp[Ha] at h|cons y r ih=>
  simp only[Ha,BF] at h;rcases h with rfl|h;exact⟨n,y,AV,rfl⟩;obtain⟨m,d,hd,e⟩:=ih h;exact⟨m,d,DD _ hd,e⟩
theorem AH9{q:ByteArray×Nat}(h:q∈KU n l): ∃x∈l,q.1=x.1:=by
 have:q.1∈(KU n l).map Ac:=CG.2 ⟨q,h,rfl⟩;rw[iD] at this;obtain⟨x,hx,e⟩:=CG.1 this;exact⟨x,hx,e.symm⟩
theorem AIA(h:Gv f last D=0):Val (Hu D) (Ha 0 D):=by
 obtain⟨h1,h2,h3,_⟩:=Xr h;refine⟨by unfold Oj;rw[xM];exact h1,λp hp=>?_,λp hp q hq=>by have:=YY p hp q hq;omega,λp hp=>?_,λp hp q hq=>?_⟩
 ·obtain⟨m,d,hd,rfl⟩:=iE hp;unfold Oj;rw[iD];exact (Vz (h3 d hd)).1
 ·obtain⟨m,d,hd,rfl⟩:=iE hp;exact h2 d hd
 obtain⟨m,d,hd,rfl⟩:=iE hp;obtain⟨x,hx,e⟩:=AH9 hq;rw[e];exact (Vz (h3 d hd)).2.1 x hx
def E5 (D:Eg):Nat:=(D.map λd=>(d.2.map λx=>x.2.length+1).sum+1).sum
theorem ALC(n:Nat)(D:Eg):wd (Ha n D)<=E5 D:=by
 unfold wd E5
 induction D generalizing n with
 |nil=>simp[Ha]|cons y r ih=>
  simp only[Ha,BN,Bz,AH7];have h1:=ih (n+y.2.length)
  have h2:y.2.length<=(y.2.map λx=>x.2.length+1).sum:=by
   generalize y.2=l
   induction l with|nil=>simp|cons z l ih2=>simp only[EY,BN,Bz];omega
  omega
theorem xO(D:Eg):Ie (Uh D)+Hu D<=E5 D:=by
 unfold Ie Uh E5 Hu
 induction D with
 |nil=>simp|cons y r ih=>
  simp only[VP,FK,YI,BN,Bz,En]
  have h2:((y.2.map ((λf:FY=>f.all.length+f.2.length)∘λx=>(x.2,[]))).sum)+y.2.length=(y.2.map λx=>x.2.length+1).sum:=by
   generalize y.2=l
   induction l with|nil=>simp|cons z l ih2=>simp only[EY,BN,Bz,Yo,FY.all,mX,Ii,Hg] at ih2⊢;omega
  omega
theorem VF{BK stop:Int}(h:Eo D BK=0)(hq:BK<=9223372036854775807):Inv (E5 D) (Gw D BK stop):=by
 unfold Eo at h;by_cases h0:BK<0;rw[BU h0] at h;cases h;rw[BL h0] at h;have hv:=AIA h;have hb:=xO D;refine⟨by simp only[Gw,VE];exact hv,Ar,rfl,by simp[Gw],?_,?_,?_,by simp[Gw],by simp[Gw],⟨by simp only[Gw];omega,hq⟩⟩;have:=ALC 0 D;simp only[Gw,Hg];omega;simp only[Gw,VE];omega;simp only[Gw];omega
structure RZ where
 b:Nat
 t1:Nat
 g1:NG
 ib:List Nat
 sg:List Nat
 Ls:List (List Nat)
def RZ.parts (G:RZ):List (List Nat):=[G.b]::EZ G.t1 G.g1::G.ib::G.Ls
structure lC (w:AL) (G:RZ) (T:Tr) (fs:List FY) (q a:Int):Prop where
 blk:Bv w G.b 116 #[.map (AA G.t1),.map AB,.slice AB 0 0,.slice AB 0 0,.int .i64 q,.int .i64 a,.int .i64 0]
 Ff:Tree w G.t1 G.g1
 Lt:D6 G.ib G.g1 T
 Qo:G.ib.length=fs.length
 Yv:G.sg.length=fs.length
 Yw:G.Ls.length=fs.length
 Zt:G.ib.Nodup
 ino: ∀(i x g:Nat) (L:List Nat) (f:FY),G.ib[i]? =AA x->G.sg[i]? =AA g->G.Ls[i]? =AA L->fs[i]? =AA f->xG w x g L f
 lay:Lay w G.parts
theorem lC.Cc{G:RZ}(h:lC w G T fs q a)(hc:AZ [] w w'):lC w' G T fs q a:=
 ⟨h.blk.Ap hc BH,h.Ff.keep hc GM,h.Lt,h.Qo,h.Yv,h.Yw,h.Zt,λi x g L f e1 e2 e3 e4=>(h.ino i x g L f e1 e2 e3 e4).keep hc BH GM,h.lay.mono hc.size⟩
theorem Ns{T:List (ByteArray×α)}{F:α}(hd:BJ T d=AB)(k:ByteArray):BJ (T++[(d,F)]) k=if d=k then AA F else BJ T k:=by
 induction T with
 |nil=>rw[EE,FX]|cons p r ih=>
  rw[FX] at hd;by_cases hp:p.1=d;rw[BU hp] at hd;cases hd;rw[BL hp] at hd;rw[Dn,FX,ih hd,FX];by_cases h1:p.1=k;rw[BU h1,BL (λe=>hp (h1.trans e.symm)),BU h1];rw[BL h1,BL h1]
theorem Lay.qj{Ps:List (List Nat)}(h:Lay w Ps){L:List Nat}{j:Nat}{Q:List Nat}(hj:Ps[j]? =AA Q)(hL: ∀x∈L,x∈Q){P:List Nat}(hi:Ps[i]? =AA P)(hn:i≠j): ∀x∈P,x∉L:=
 λx hx hm=>h.ne hi hj hn x hx (hL x hm)
theorem lC.dir{G:RZ}(h:lC w G T fs q a){fb:Nat}(hd:BJ T d=AB)(hc:AZ [G.t1] w w')(htop:Mp w' G.t1 IV (Dp (FI G.g1) d (.map (AA fb))))(hfb:Mp w' fb IV [])(hge:w.heap.size<=fb):
  lC w' {G with g1:=Dp G.g1 d (fb,[])} (T++[(d,[])]) fs q a:=by
 (have ht1: ∀x∈[G.t1],x∈EZ G.t1 G.g1:=by simp[EZ]);have ho:=λ(i:Nat) (P:List Nat) (hi:G.parts[i]? =AA P) (hn:i≠1)=>h.lay.qj (j:=1) rfl ht1 hi hn;have htl:=h.Ff.top.lt;have htr:Tree w' G.t1 (Dp G.g1 d (fb,[])):=Tree.put h.Ff.nodup h.Ff.sub h.Ff.apart hc htop (by simpa[Ip] using hfb) Aa (λp hp _ e=>by have:=(h.Ff.sub p hp).lt;omega) (λp hp _=>by simpa using h.Ff.Lp hp);refine⟨h.blk.Ap hc (ho 0 _ rfl Aq _ AV),htr,h.Lt.put h.Ff.nodup (λk=>Ns hd k) (λn=>rfl),h.Qo,h.Yv,h.Yw,h.Zt,λi x g L f e1 e2 e3 e4=>?_,?_⟩;exact (h.ino i x g L f e1 e2 e3 e4).keep hc (ho 2 _ rfl Aq x (Bi e1)) (ho (i+3) L (by simpa[RZ.parts] using e3) Aa);exact h.lay.FH (w':=w') (i:=1) (P':=EZ G.t1 (Dp G.g1 d (fb,[]))) rfl (OA h.Ff.nodup (.inr hge)) htr.lt hc.size
theorem lC.file{w1 w2 w3:AL}{G:RZ}{n:ByteArray}{F:KH}(h:lC w G (T++[(d,F)]) fs q a)(hd:BJ T d=AB)(hn:BJ F n=AB)(AUL: ∀p∈T++[(d,F)],∀q∈p.2,q.2<fs.length)
  {fb:Nat} {f:List (ByteArray×Nat)} (he:BJ G.g1 d=AA (fb,f)) (hc1:AZ [] w w1) {g:Nat} {L:List Nat} {ff:List Int} (hL: ∀k∈L,w.heap.size<=k) (hs:Wj w1 g L ff []) (hc2:AZ [] w1 w2) {x:Nat} (hx:w1.heap.size<=x) (hb:Bv w2 x 126 #[.pointer (AA ⟨g,0,AB⟩)])
  (hc3:AZ [fb] w2 w3) (hfb:Mp w3 fb IV (Dp (Ip f) n (.pointer (AA ⟨x,0,AB⟩)))):
  lC w3 {G with g1:=Dp G.g1 d (fb,Dp f n x),ib:=G.ib++[x],sg:=G.sg++[g],Ls:=G.Ls++[L]} (T++[(d,F++[(n,fs.length)])]) (fs++[(ff,[])]) q a:=by
 have hmem:=CQ he;have h2:=h.Cc (hc1.Ah hc2);(have hfm: ∀x∈[fb],x∈EZ G.t1 G.g1:=λy hy=>by simp only[CB] at hy;subst hy;exact JW hmem);have ho:=λ(i:Nat) (P:List Nat) (hi:G.parts[i]? =AA P) (hn:i≠1)=>h2.lay.qj (j:=1) rfl hfm hi hn;have hfv:Dp (Ip f) n (.pointer (AA ⟨x,0,AB⟩))=Ip (Dp f n x):=YW (λi:Nat=>QL (AA ⟨i,0,AB⟩)) f n x;rw[hfv] at hfb
 have htop:Mp w3 G.t1 IV (Dp (FI G.g1) d (.map (AA fb))):=by
  rw[Vx (by rw[Ez,he];rfl)];exact h2.Ff.top.Ap hc3 (by simpa using (h2.Ff.Lp hmem).symm)
 (have hLn: ∀p∈G.g1,p.1≠d->p.2.1∉[fb]:=λp hp hne=>by simpa using h2.Ff.lq hp hmem hne);have htr:Tree w3 G.t1 (Dp G.g1 d (fb,Dp f n x)):=Tree.put h2.Ff.nodup h2.Ff.sub h2.Ff.apart hc3 htop hfb (h2.Ff.Lp hmem) (λp hp hne=>by simpa using hLn p hp hne) hLn;have hfs:=h.Lt.sub d (fb,f) F he (by rw[Ns hd,BU rfl])
 have hxf:x≠fb:=by
  have:=h.lay.lt (EZ G.t1 G.g1) (Bi (i:=1) rfl) fb (JW hmem);have:=hc1.size;omega
 have hgrow:D6 (G.ib++[x]) G.g1 (T++[(d,F)]):=⟨h.Lt.top,λk e F' hk hF' n'=>by
  rw[h.Lt.sub k e F' hk hF' n']
  cases hn':BJ F' n' with
  |none=>rfl|some i=>
   have:=AUL _ (CQ hF') _ (CQ hn');simp only[Fj]
   rw[dL (by rw[h.Qo];exact this)]⟩
 refine⟨h2.blk.Ap hc3 (ho 0 _ rfl Aq _ AV),htr,?_,by simp[h.Qo],by simp[h.Yv],by simp[h.Yw],?_,?_,?_⟩
 ·refine hgrow.put h.Ff.nodup (F:=F++[(n,fs.length)]) (λk=>?_) (λn'=>?_)
  ·rw[Ns hd,Ns hd];by_cases hk:d=k<;>simp[hk]
  rw[Su (h2.Ff.Rx hmem),Ns hn,hgrow.sub d (fb,f) F he (by rw[Ns hd,BU rfl]) n'];by_cases hnn:n=n'
  ·rw[BU hnn,BU hnn,<- h.Qo];simp only[Fj];rw[ACm]
  rw[BL hnn,BL hnn]
 ·show (G.ib++[x]).Nodup;rw[OH];refine⟨h.Zt,AV,λy hy z hz=>?_⟩;simp only[CB] at hz;subst hz;have:=h.lay.lt G.ib (Bi (i:=2) rfl) y hy;have:=hc1.size;omega
 ·intro i y gg M f0 e1 e2 e3 e4;have l1:=h.Qo;have l2:=h.Yv;have l3:=h.Yw;by_cases hil:i<fs.length
  ·simp only at e1 e2 e3;rw[O6 Aa] at e1 e2 e3 e4;exact (h2.ino i y gg M f0 e1 e2 e3 e4).keep hc3 (ho 2 _ rfl Aq y (Bi e1)) (ho (i+3) M (by simpa[RZ.parts] using e3) Aa)
  have hie:i=fs.length:=by
   have:=(CP.1 e4).1;simp at this;omega
  subst hie;simp only at e1 e2 e3;rw[Ig Aa,l1,NM] at e1;rw[Ig Aa,l2,NM] at e2;rw[Ig Aa,l3,NM] at e3;rw[Ig Aa,NM] at e4;simp at e1 e2 e3 e4;subst e1;subst e2;subst e3;subst e4;refine⟨hb.Ap hc3 (by simpa using hxf),(hs.Ap hc2 GM).Ap hc3 (λk hk hm=>?_)⟩;simp only[CB] at hm;subst hm;have h1:=hL _ hk;have h3:=h.lay.lt (EZ G.t1 G.g1) (Bi (i:=1) rfl) _ (JW hmem);simp only at h3;omega
 have l1:=h.lay.snoc (w':=w1) hL hs.lt hc1.size
 have l2:=l1.FH (w':=w2) (i:=2) (P:=G.ib) (P':=G.ib++[x]) rfl (λy hy=>by
  rcases Bj.1 hy with hy|hy;exact .inl hy
  ·simp only[CB] at hy;subst hy;exact .inr hx) (λy hy=>by
  rcases Bj.1 hy with hy|hy;exact h2.lay.lt G.ib (Bi (i:=2) rfl) y hy
  simp only[CB] at hy;subst hy;exact hb.lt) hc2.size
 have l3:=l2.FH (w':=w3) (i:=1) (P:=EZ G.t1 G.g1) (P':=EZ G.t1 (Dp G.g1 d (fb,Dp f n x))) rfl (OA h.Ff.nodup (.inl (JW hmem))) htr.lt hc3.size;exact l3
def Gh {α:Type} (last:ByteArray) (l:List (ByteArray×α)):ByteArray:=(l.getLast?.map (·.1)).getD last
theorem Xt(last:ByteArray)(l:List (ByteArray×α))(x:ByteArray×α):Gh last (l++[x])=x.1:=by simp[Gh]
theorem ji(last:ByteArray)(l:List (ByteArray×α))(x:ByteArray×α):Gh last (x::l)=Gh x.1 l:=by
 unfold Gh
 cases l with|nil=>rfl|cons y r=>simp[List.getLast?_cons]
theorem uj(f:Bool)(last:ByteArray)(a b:List (ByteArray×List Int))(h:Eh f last a=0):Eh f last (a++b)=Eh (f && a.isEmpty) (Gh last a) b:=by
 induction a generalizing f last with
 |nil=>simp[Gh]|cons x r ih=>
  unfold Eh at h;by_cases ho:Ic f last x.1=0
  ·rw[BL (by simp[ho])] at h;rw[Dn,Eh,BL (by simp[ho]),ih false x.1 h,ji];simp
  rw[BU ho] at h;exact Ak h ho
theorem dQ(f:Bool)(last:ByteArray)(a b:Eg)(h:Gv f last a=0):Gv f last (a++b)=Gv (f && a.isEmpty) (Gh last a) b:=by
 induction a generalizing f last with
 |nil=>simp[Gh]|cons x r ih=>
  unfold Gv at h;by_cases ho:Ic f last x.1=0
  ·rw[BL (by simp[ho])] at h;by_cases hf:Eh true noS x.2=0
   ·rw[BL (by simp[hf])] at h;rw[Dn,Gv,BL (by simp[ho]),BL (by simp[hf]),ih false x.1 h,ji];simp
   rw[BU hf] at h;exact Ak h hf
  rw[BU ho] at h;exact Ak h ho
theorem ZE{l:List α}{x:α}(h:l[i]? =AA x):l=l.take i++x::l.drop (i+1):=by
 have hi:=(CP.1 h).1
 conv=>lhs;rw[<- YF i l,VN hi]
 rw[(CP.1 h).2]
theorem VG{d:ByteArray×List (ByteArray×List Int)}(hd:D[i]? =AA d)(h:Gv true noS (D.take i)=0):
  Gv true noS D=Gv (i==0) (Gh noS (D.take i)) (d::D.drop (i+1)):=by
 have hi:=(CP.1 hd).1
 conv=>lhs;rw[ZE hd]
 rw[dQ _ _ _ _ h];congr 1
 cases i with
 |zero=>rfl|succ k=>
  cases D with|nil=>simp at hi|cons y r=>rfl
theorem Zv{d:ByteArray×List Int}(hd:l[i]? =AA d)(h:Eh true noS (l.take i)=0):
  Eh true noS l=Eh (i==0) (Gh noS (l.take i)) (d::l.drop (i+1)):=by
 have hi:=(CP.1 hd).1
 conv=>lhs;rw[ZE hd]
 rw[uj _ _ _ _ h];congr 1
 cases i with
 |zero=>rfl|succ k=>
  cases l with|nil=>simp at hi|cons y r=>rfl
theorem jk{d:ByteArray×List (ByteArray×List Int)}(hd:D[i]? =AA d)(h:Gv true noS (D.take i)=0)(ho:Ic (i==0) (Gh noS (D.take i)) d.1=0)(hf:Eh true noS d.2=0):Gv true noS (D.take (i+1))=0:=by
 have hi:=(CP.1 hd).1;(have h1:(D.take (i+1))[i]? =AA d:=by rw[AF3 Aa];exact hd);rw[VG h1 (by rw[aX,Jf Aa];exact h),aX,Jf Aa];unfold Gv;rw[BL (by simp[ho]),BL (by simp[hf])];rw[Pz (by simp;omega)];rfl
theorem V3{d:ByteArray×List Int}(hd:l[i]? =AA d)(h:Eh true noS (l.take i)=0)(ho:Ic (i==0) (Gh noS (l.take i)) d.1=0):Eh true noS (l.take (i+1))=0:=by
 have hi:=(CP.1 hd).1;(have h1:(l.take (i+1))[i]? =AA d:=by rw[AF3 Aa];exact hd);rw[Zv h1 (by rw[aX,Jf Aa];exact h),aX,Jf Aa];unfold Eh;rw[BL (by simp[ho])];rw[Pz (by simp;omega)];rfl
theorem ALD{d:ByteArray×List (ByteArray×List Int)}(hd:D[i]? =AA d)(h:Gv true noS (D.take i)=0)(ho:Ic (i==0) (Gh noS (D.take i)) d.1=0):d.1∉(D.take i).map Ac:=by
 have hi:=(CP.1 hd).1
 have h2:Gv true noS (D.take i++[(d.1,[])])=0:=by
  rw[dQ _ _ _ _ h,show (true && (D.take i).isEmpty)=(i==0) by
   cases i with
   |zero=>rfl
   |succ k=>cases D with
    |nil=>simp at hi
    |cons y r=>rfl]
  unfold Gv;rw[BL (by simp[ho]),BL (by simp[Eh])];rfl
 have h3:=(Xr h2).1;rw[FK,aZ] at h3;intro hm;have:=h3.2.2 _ hm d.1 AV;rw[LP] at this;cases this
theorem AIB{d:ByteArray×List Int}(hd:l[i]? =AA d)(h:Eh true noS (l.take i)=0)(ho:Ic (i==0) (Gh noS (l.take i)) d.1=0):d.1∉(l.take i).map Ac:=by
 have h3:=(Vz (V3 hd h ho)).1;rw[take_snoc _ _ _ hd,FK,aZ] at h3;intro hm;have:=h3.2.2 _ hm d.1 AV;rw[LP] at this;cases this
end
def shows (β:Nat->List Int) (T:Tr):Eg:=T.map λp=>(p.1,p.2.map λq=>(q.1,β q.2))
theorem AGq{w:AL}{A:Option Ag}{n c:Nat}{ns:List ByteArray}(h:Own w 9 1 A n c (OB ns)){j:Nat}(hj:j<n):
  ∃ad s,A=AA ad/\ns[j]? =AA s/\w.cell? (ad.add j)=AA (.string s):=AAQ h.rd hj
theorem ACt{β:Nat->List Int}{T:Tr}{i:Nat}{p:ByteArray×KH}(h:T[i]? =AA p):shows β (T.take (i+1))=shows β (T.take i)++[(p.1,p.2.map λq=>(q.1,β q.2))]:=by
 rw[take_snoc _ _ _ h];simp[shows]
theorem ACu(ds:List DM)(x:DM):BD (ds++[x])=BD ds++[(x.1.nm,Ai x.2)]:=by simp[BD]
theorem ACv(fs:List FM)(x:FM):Ai (fs++[x])=Ai fs++[(x.1.nm,x.2)]:=by simp[Ai]
theorem xP(X:FuncId)(cp:Array AQ)(hcf: ∀(p:Array AQ) (w:AL),(E8 X p).run Ae w=.ok (.enter X p) w)(w:AL)(tb:Nat)(g:NG)(ib:List Nat)(T:Tr)(m:Nat)(β:Nat->List Int)(ht:Tree w tb g)(hi:D6 ib g T)(hv:Val m T)(hw:wd T<=1073741824)
  (hcall: ∀i,i<m->∀wr,AZ [] w wr->Au Ae X (#[.pointer (AA ⟨ED ib i,0,AB⟩)]++cp) wr (Lm 5 1 wr (bv (β i)) (β i).length)):
  Au Ae 55 #[.map (AA tb),.func (.func X) #[] cp] w (dH w (shows β T)):=by
 have HT:=AO ht;have HI:=AO hi;have HV:=AO hv;have HW:=AO hw;have Uf:=AO hcall;(have hTl:T.length<=1073741824:=by have:=AAS T;omega);clear ht hi hv hw hcall;have k87:= @AKh;have k88:= @AOr;have k89:= @AOs;go_enter AN9,Tryz.ntmps55;(go_wp2_with fail);refine (qH (AA tb) w).mono ?_;rintro e w2 ⟨rfl,hw2⟩;have HW2:=AO hw2;clear hw2;(go_wp2_with fail);rw[HW2.out];refine (ZB HT.out HI.out HV.out hTl rfl).mono ?_;rintro e w3 ⟨NA,nc,rfl,hno,hc3,hn3⟩;have HNO:=AO hno;have Gg:=AO hc3;obtain⟨TN,hTN⟩: ∃TN,T.length=TN:=⟨_,rfl⟩;rw[hTN] at HNO hTl⊢;clear hno hc3 hn3;go_wp2;go_loopw [4,6,7,9,14,26] (λo _ _ _ q _ wr=>∃(i:Nat) (A:Option Ag) (c:Nat) (ds:List DM),i<=TN/\q=.int .i64 i/\o=.slice A i c/\Jl wr A i c ds/\BD ds=shows β (T.take i)/\AZ [] w3 wr/\∀k∈bo A++Ol ds,w.heap.size<=k/\w3.heap.size<=k) (λ_ _ _ _ q _ _=>TN - (intOf q).toNat)
 case atStart=>exact⟨0,AB,0,[],DW _,rfl,rfl,⟨Own.nil _ _ _,AV,by simp[Ol]⟩,rfl,AZ.refl _ _,by simp[Ol]⟩
 obtain⟨i,A,c,ds,hiT,rfl,rfl,hds,hval,hch,hnew⟩:=hrel;have qc:=AO hds;have Xu:=AO hval;have DJ:=AO hch;have UI:=AO hnew;clear hds hval hch hnew;by_cases hlt:i<TN
 ·(have hlt':(i:Int)<TN:=by omega);obtain⟨ad,nmx,rfl,hnm,hcell⟩:=AGq (HNO.out.Ap DJ.out GM) hlt;obtain⟨p,hp⟩: ∃p,T[i]? =AA p:=⟨_,Bo Aa⟩
  have hpn:p.1=nmx:=by
   rw[Ba,hp] at hnm;exact EF hnm
  subst hpn;have hpm:=Bi hp;have hFT:BJ T p.1=AA p.2:=LU HV.out.VA.nodup hpm;obtain⟨e,he,hsub⟩:=HI.out.get hFT;have CZ:Hid (AZ [] w wr):=AO (Gg.out.Ah DJ.out);have hTr:=HT.out.keep CZ.out GM;have hl:=λo=>(Mp.lookup ((hTr.top).Ap ((AZ.refl [] wr).alloc o) BH) (Cm Kv) Iy (z:=.map AB) Az p.1).1;simp only[Ez,he,Fj,Dx] at hl;have HP:=AO hp;have HPM:=AO hpm;have HE:=AO (CQ he);have WW:=AO hsub;have dR:Hid (p.2.length<=1073741824):=AO (by have:=AAT hpm;have:=HW.out;omega);clear hnm hp hpm hFT he hsub hTr;(go_wp2_with fail);obtain⟨db,hdb⟩: ∃db,wr.heap.size=db:=⟨_,rfl⟩;obtain⟨W,hWn⟩: ∃W,W=wr.alloc (.cells #[.string p.1,.slice AB 0 0] 77):=⟨_,rfl⟩;(have hbW:Bv W db 77 #[.string p.1,.slice AB 0 0]:=by rw[hWn,<- hdb];exact Bv.new wr _ _);(have hcW:AZ [] wr W:=by rw[hWn];exact (AZ.refl _ _).alloc _);rw[<- hWn];have HBW:=AO hbW;have NI:=AO hcW;have HDB:Hid (wr.heap.size<=db):=AO Aa;rw[hdb];clear hbW hcW hWn hl hcell;refine (qI (AA e.1) W).mono ?_;rintro ee w4 ⟨rfl,hw4⟩;have HW4:=AO hw4;clear hw4;(go_wp2_with fail);rw[HW4.out];have hfm:=(HT.out.sub _ HE.out).Ap (CZ.out.Ah NI.out) BH;refine (ZC hfm WW.out (HV.out.sub _ HPM.out) (HV.out.nms _ HPM.out) dR.out rfl).mono ?_;rintro ee w5 ⟨NB,nd,rfl,APB,hc5,hn5⟩;have APC:=AO APB;have TE:=AO hc5;have HN5:=AO hn5;have HFM:=AO hfm;obtain⟨FN,hFN⟩: ∃FN,p.2.length=FN:=⟨_,rfl⟩;have hFl:=dR.out;rw[hFN] at APC hFl⊢;have HB5:=AO (HBW.out.Ap hc5 BH);have HAB:Hid (∀k∈bo A++Ol ds,k<db):=AO (λk hk=>by have:=qc.out.lt k hk;have:=HDB.out;omega);have AUM:=AO ((qc.out.Ap NI.out GM).Ap hc5 GM);have HLW:Hid (db<W.heap.size/\W.heap.size<=w5.heap.size):=AO ⟨HBW.out.lt,hc5.size⟩;have Yx:=AO hFN;clear APB hc5 hn5 hfm hdb hFN;go_wp2;go_loopw [9,26] (λ_ q wj=>∃(j:Nat) (B:Option Ag) (d:Nat) (fs:List FM),j<=FN/\q=.int .i64 j/\Bv wj db 77 #[.string p.1,.slice B j d]/\GU wj B j d fs/\Ai fs=(p.2.take j).map (λq=>(q.1,β q.2))/\AZ [db] w5 wj/\∀k∈bo B++Ep fs,w5.heap.size<=k) (λ_ q _=>FN - (intOf q).toNat)
  case atStart=>exact⟨0,AB,0,[],DW _,rfl,HB5.out,⟨Own.nil _ _ _,AV,by simp[Ep]⟩,rfl,AZ.refl _ _,by simp[Ep]⟩
  obtain⟨j,B,d,fs,hjF,rfl,hbj,hfs,hfv,hcj,hnj⟩:=hrel;have HBJ:=AO hbj;have uk:=AO hfs;have HFV:=AO hfv;have HCJ:=AO hcj;have HNJ:=AO hnj;have x1:=hbj.cell 1;have x0:=hbj.cell 0;have f1:=hbj.frozen 1;simp at x1 x0;clear hbj hfs hfv hcj hnj;by_cases hjl:j<FN
  ·have APD:(j:Int)<FN:=by omega
   have APE: ∀k∈bo NB,k∉[db]:=λk hk hm=>by
    simp only[CB] at hm;have h1:=HN5.out k hk;have h2:=HLW.out.1;omega
   obtain⟨bd,qn,rfl,oJ,hqc⟩:=AGq (APC.out.Ap HCJ.out APE) hjl
   obtain⟨q,hq⟩: ∃q,p.2[j]? =AA q:=by
    rw[Ba] at oJ
    cases hh:p.2[j]? with|none=>rw[hh] at oJ;cases oJ|some q=>exact⟨q,rfl⟩
   have hqq:q.1=qn:=by
    rw[Ba,hq] at oJ;exact EF oJ
   subst hqq;have hqm:=Bi hq;have hSF:Oj p.2:=HV.out.sub _ HPM.out;have hid:=HV.out.ids _ HPM.out _ hqm;(have hge:BJ e.2 q.1=AA (ED ib q.2):=by rw[WW.out,LU hSF.nodup hqm];rfl);have APF:Hid (AZ [] w w5):=AO ((CZ.out.Ah NI.out).Ah TE.out);have ql:Hid (AZ [] w wr):=AO (APF.out.trans HCJ.out (λx hx=>by simp only[CB] at hx;subst hx;right;have h1:=HDB.out;have h2:=CZ.out.size;omega));have hTj:=HT.out.keep ql.out GM;have hlA:=(Mp.lookup (hTj.top.Ap (AZ.refl [] wr).drew BH) (Cm Kv) Iy (z:=.map AB) Az p.1).1;have hlB:=(Mp.lookup ((hTj.sub _ HE.out).Ap (AZ.refl [] wr).drew BH) (Cm Kv) PO (z:=.pointer AB) Az q.1).1;simp only[Ez,LU HT.out.nodup HE.out,Fj,Dx] at hlA;simp only[Vt,hge,Fj,Dx] at hlB;have HQ:=AO hq;have HID:=AO hid;have HGE:=AO hge;clear oJ hq hqm hSF hid hge APE;have HTJ:Hid (Tree wr tb g):=AO (HT.out.keep ql.out GM)
   have NH:Hid (∀x∈db::bo B,w.heap.size<=x):=AO (λx hx=>by
    have h1:=HDB.out;have h2:=CZ.out.size;have h3:=APF.out.size;rcases BF.1 hx with rfl|hx;omega
    have:=HNJ.out x (F5 _ hx);omega)
   have HTB:Hid (tb∉db::bo B/\e.1∉db::bo B):=AO ⟨λhm=>by have h1:=NH.out _ hm;have h2:=HT.out.top.lt;omega,λhm=>by have h1:=NH.out _ hm;have h2:e.1<w.heap.size:=(HT.out.sub _ HE.out).lt;omega⟩;have HLA:Hid (BJ (FI g) p.1=AA (.map (AA e.1))):=AO (by rw[Ez,LU HT.out.nodup HE.out];rfl);have HLB:Hid (BJ (Ip e.2) q.1=AA (.pointer (AA ⟨ED ib q.2,0,AB⟩))):=AO (by rw[Vt,HGE.out];rfl);have AUN:Hid (db∉bo B):=AO (λhm=>by have:=HNJ.out db (F5 _ hm);have:=HLW.out;omega);(have AVk:j<=1073741824:=by omega);clear hlA hlB hTj;go_wp2;refine Ew (S:=λw'=>AZ (db::bo B) wr w') Az ((AZ.refl _ _).drew) (λhHeld=>?_);refine tk 0 ?_;refine tk 2 ?_;refine tk 3 ?_;refine tk 4 ?_;refine tk 5 ?_;refine wpAnyH_take (i:=6) (v:=?_) rfl Az Az Az (λ_ _ _ h=>h) (Or.inl ⟨by rfl,?_⟩) (by assumption) ?_;rotate_left
   ·(intro w' hSw;have y:=(Mp.lookup (HTJ.out.top.Ap hSw HTB.out.1) (Cm Kv) Iy (z:=.map AB) Az p.1).1;rw[HLA.out] at y;simp only[Dx] at y;go_simp;try with_reducible rfl)
   (try simp only[BG,Bg]);refine tk 7 ?_;refine wpAnyH_take (i:=8) (v:=?_) rfl Az Az Az (λ_ _ _ h=>h) (Or.inl ⟨by rfl,?_⟩) (by assumption) ?_;rotate_left
   ·(intro w' hSw;have y:=(Mp.lookup ((HTJ.out.sub _ HE.out).Ap hSw HTB.out.2) (Cm Kv) PO (z:=.pointer AB) Az q.1).1;rw[HLB.out] at y;simp only[Dx] at y;go_simp;try with_reducible rfl)
   (try simp only[BG,Bg]);refine Oz (rs:=[1,9]) Az AV ?_;refine Gp rfl (λK hK=>?a5) (Gp rfl (λK hK=>?b5) (O0))
   case' a5=>
    go_simp;refine hK.out _ _ (hHeld) (λhHeld=>?_);(try simp only[BG,Bg]);clear hK K;refine EM 9 λK hK=>?_;go_simp;refine (Uf.out q.2 HID.out _ (ql.out.trans hHeld (λx hx=>.inr (NH.out x hx)))).mono ?_;rintro ee w4 ⟨BA,bc,rfl,Ze,hc4,hn4⟩;have y1:w4.cell? ⟨db,1,AB⟩=AA (.slice B j d):=hc4.cell (by simpa using x1) BH;have HBO:=AO Ze;have OC:=AO hc4;have HN4:=AO hn4;have hHc:=hHeld.Ah hc4;have APG:Hid (Own (w4.alloc (.cells #[.string q.1,.slice BA (β q.2).length bc] 64)) 64 2 B j d (Hl (Dq fs))):=AO (uk.out.row.Ap ((((AZ.refl [] wr).drew).Ah hc4).alloc _) GM);have AGr:Hid (Bv (w4.alloc (.cells #[.string q.1,.slice BA (β q.2).length bc] 64)) db 77 #[.string p.1,.slice B j d]):=AO (HBJ.out.Ap ((((AZ.refl [] wr).drew).Ah hc4).alloc _) BH);have Wq:Hid (AZ [] wr (w4.alloc (.cells #[.string q.1,.slice BA (β q.2).length bc] 64))):=AO ((((AZ.refl [] wr).drew).Ah hc4).alloc _);have y1a:(w4.alloc (.cells #[.string q.1,.slice BA (β q.2).length bc] 64)).cell? ⟨db,1,AB⟩=AA (.slice B j d):=AGr.out.cell 1;clear Ze hn4;refine hK.out _ _ (hHc) (λhHeld=>?_);(try simp only[BG,Bg]);clear hK K;refine tk 10 ?_;refine EM 11 λK hK=>?_;go_simp;refine hK.out _ _ (hHeld.alloc _) (λhHeld=>?_)
   case' b5=>
    go_simp;refine (Uf.out q.2 HID.out _ (ql.out.trans hHeld (λx hx=>.inr (NH.out x hx)))).mono ?_;rintro ee w4 ⟨BA,bc,rfl,Ze,hc4,hn4⟩;have y1:w4.cell? ⟨db,1,AB⟩=AA (.slice B j d):=hc4.cell (by simpa using x1) BH;have HBO:=AO Ze;have OC:=AO hc4;have HN4:=AO hn4;have hHc:=hHeld.Ah hc4;have APG:Hid (Own (w4.alloc (.cells #[.string q.1,.slice BA (β q.2).length bc] 64)) 64 2 B j d (Hl (Dq fs))):=AO (uk.out.row.Ap ((((AZ.refl [] wr).drew).Ah hc4).alloc _) GM);have AGr:Hid (Bv (w4.alloc (.cells #[.string q.1,.slice BA (β q.2).length bc] 64)) db 77 #[.string p.1,.slice B j d]):=AO (HBJ.out.Ap ((((AZ.refl [] wr).drew).Ah hc4).alloc _) BH);have Wq:Hid (AZ [] wr (w4.alloc (.cells #[.string q.1,.slice BA (β q.2).length bc] 64))):=AO ((((AZ.refl [] wr).drew).Ah hc4).alloc _);have y1a:(w4.alloc (.cells #[.string q.1,.slice BA (β q.2).length bc] 64)).cell? ⟨db,1,AB⟩=AA (.slice B j d):=AGr.out.cell 1;clear Ze hn4;refine hK.out _ _ (hHc) (λhHeld=>?_);(try simp only[BG,Bg]);clear hK K;refine tk 10 ?_;refine Oz (rs:=[1,11]) Az AV ?_;refine Gp rfl (λK hK=>?a6) (Gp rfl (λK hK=>?b6) (O0))
    case' a6=>
     go_simp;refine hK.out _ _ (hHeld) (λhHeld=>?_);(try simp only[BG,Bg]);clear hK K;refine EM 11 λK hK=>?_;go_simp;refine hK.out _ _ (hHeld.alloc _) (λhHeld=>?_)
    case' b6=>
     go_simp;refine hK.out _ _ (hHeld.alloc _) (λhHeld=>?_);(try simp only[BG,Bg]);clear hK K;refine EM 1 λK hK=>?_;go_simp;refine hK.out _ _ (hHeld) (λhHeld=>?_)
   all_goals
    (try simp only[BG,Bg]);clear hK K;refine EM 12 λK hK=>?_;refine JV rfl _ _ rfl wo rfl APG.out rfl (Own.lit w4 64 2 #[.string q.1,.slice BA (β q.2).length bc] 1 Aq rfl).rd (U9 [⟨q.1,BA,(β q.2).length,bc⟩]) Nb Aa ?_;intro A2 c2 w6 hown6 II LV _;have TZ:=AO (AGr.out.Ap II AUN.out);have y6:=TZ.out.cell 1;have f6:=TZ.out.frozen 1;simp at y6;have qm:=AO hown6;have JF:=AO II;have Xv:=AO LV;have hH6:=hHeld.trans II (λx hx=>.inl (DD _ hx));clear hown6 II LV;refine hK.out _ _ (hH6) (λhHeld=>?_);(try simp only[BG,Bg]);clear hK K;refine tk 13 ?_;refine EM 14 λK hK=>?_;go_simp;refine hK.out _ _ (hHeld.setCell (.inl AV) _) (λhHeld=>?_);(try simp only[BG,Bg]);clear hK K;refine Ej Az ?_ _;(try simp only[BG,Bg]);have qo:Hid (AZ [db] w6 (w6.setCell ⟨db,1,AB⟩ (.slice A2 (j+1) c2))):=AO ((AZ.refl _ _).setCell (.inl AV) _);have gZ:Hid (Bv (w6.setCell ⟨db,1,AB⟩ (.slice A2 (j+1) c2)) db 77 #[.string p.1,.slice A2 (j+1) c2]):=AO (by simpa using TZ.out.FH 1 (.slice A2 (j+1) c2));clear y6 f6 y1 y1a hHeld hHc hH6 hc4 x1 x0 f1;go_wp2;go_roundw
    case rel=>
     have VH: ∀k∈bo A2,w5.heap.size<=k:=λk hk=>by
      rcases Xv.out k hk with h|h;exact HNJ.out k (F5 _ h);have h1:=HCJ.out.size;have h2:=Wq.out.size;omega
     have AUO: ∀k∈bo A2,k∉[db]:=λk hk hm=>by
      simp only[CB] at hm;have h1:=VH k hk;have h2:=HLW.out;omega
     have hwl:wr.drew.heap.size<=w4.heap.size:=OC.out.size;have hba: ∀k∈bo BA,wr.heap.size<=k:=λk hk=>HN4.out k hk;have AUP:Own (w4.alloc (.cells #[.string q.1,.slice BA (β q.2).length bc] 64)) 5 1 BA (β q.2).length bc (bv (β q.2)):=HBO.out.Ap ((AZ.refl [] w4).alloc _) GM;have hfl:=uk.out.lt
     have hO6:Own w6 64 2 A2 (j+1) c2 (Hl (Dq (fs++[(⟨q.1,BA,(β q.2).length,bc⟩,β q.2)]))):=by
      have:=qm.out;unfold Dq at this⊢;rw[FK,N9];exact this
     have APH:GU w6 A2 (j+1) c2 (fs++[(⟨q.1,BA,(β q.2).length,bc⟩,β q.2)]):=
      (uk.out.Ap Wq.out GM).snoc JF.out hO6 (AUP.Ap JF.out (λk hk hm=>by have h1:=hba k hk;have h2:=hfl k (F5 _ hm);omega)) (λk hk hm=>by have h1:=hba k hk;have h2:=hfl k (GN _ hm);omega)
     refine⟨j+1,A2,c2,fs++[(⟨q.1,BA,(β q.2).length,bc⟩,β q.2)],Aa,by go_num,gZ.out,APH.Ap qo.out (λk hk hm=>?_),?_,?_,?_⟩
     ·rcases Bj.1 hk with hk|hk;exact AUO k hk hm;obtain⟨f,hf,hk⟩:=GG.1 hk;simp only[CB] at hm;subst hm;exact (APH.dat f hf).Et TZ.out Aq _ hk rfl
     rw[ACv,take_snoc _ _ _ HQ.out,FK,HFV.out];rfl;exact ((HCJ.out.Ah Wq.out).trans JF.out (λx hx=>.inr (HNJ.out x (F5 _ hx)))).trans qo.out (λx hx=>.inl hx);intro k hk;rw[qE] at hk;rcases Bj.1 hk with hk|hk;exact VH k hk;rcases Bj.1 hk with hk|hk;exact HNJ.out k (GN _ hk);have h1:=hba k hk;have h2:=HCJ.out.size;omega
    simp[intOf];omega
  obtain rfl:j=FN:=by omega
  have API:Hid (Jl wr A i c ds):=AO (AUM.out.Ap HCJ.out (λk hk hm=>by
   simp only[CB] at hm
   have:=HAB.out k hk;omega))
  clear f1;(go_wp2_with (at_builtin;refine D8 rfl _ _ rfl Qa rfl (API.out.row.Ap ((AZ.refl [] wr).alloc (.cells #[.string p.1,.slice B j d] 77)) GM) rfl (Own.lit wr 77 2 #[.string p.1,.slice B j d] 1 Aq rfl).rd (U9 [⟨p.1,B,j,d⟩]) Nb Aa ?_;intro A2 c2 w7 ALE ALF ALG _;have HO7:=AO ALE;have LW:=AO ALF;have HN7:=AO ALG;clear ALE ALF ALG));go_roundw
  case rel=>
   have ALH:AZ [] wr (wr.alloc (.cells #[.string p.1,.slice B j d] 77)):=(AZ.refl [] wr).alloc _;have hsz1:=Gg.out.size;have hsz2:=DJ.out.size;have hsz3:=NI.out.size;have AUQ:=HCJ.out.size;have hlw:=HLW.out;have hfl:=uk.out.lt
   have ui: ∀k∈bo B++Ep fs,k∉bo A:=λk hk hm=>by
    have h1:=HNJ.out k hk;have h2:=HAB.out k (F5 _ hm);omega
   have AUR:Jl w7 A2 (i+1) c2 (ds++[(⟨p.1,B,j,d⟩,fs)]):=by
    refine (API.out.Ap ALH GM).snoc LW.out ?_ ((uk.out.Ap ALH GM).Ap LW.out ui) (λk hk hm=>?_)
    ·have:=HO7.out;unfold D9 at this⊢;rw[FK,N9];exact this
    have h1:=HNJ.out k hk;have h2:=HAB.out k (GN _ hm);omega
   refine⟨i+1,A2,c2,ds++[(⟨p.1,B,j,d⟩,fs)],Aa,by go_num,rfl,AUR,?_,?_,?_⟩;rw[ACu,ACt HP.out,Xu.out,HFV.out,show p.2.take j=p.2 from Ea (by rw[Yx.out];exact Bd _)];exact ((((DJ.out.Ah NI.out).Ah TE.out).trans HCJ.out (λx hx=>by simp only[CB] at hx;subst hx;right;have:=HDB.out;omega)).Ah ALH).trans LW.out (λx hx=>.inr (UI.out x (F5 _ hx)).2);intro k hk;rw[Zp] at hk;rcases Bj.1 hk with hk|hk
   ·rcases HN7.out k hk with h|h;exact UI.out k (F5 _ h);simp at h;omega
   rcases Bj.1 hk with hk|hk;exact UI.out k (GN _ hk);have h1:=HNJ.out k hk;omega
  simp[intOf];omega
 (obtain rfl:i=TN:=by omega);go_wp2;go_ret;refine⟨A,i,c,ds,rfl,qc.out,?_,Gg.out.Ah DJ.out,λk hk=>(UI.out k hk).1⟩;rw[Xu.out,Ea Aa]
section
variable {B i km x:Nat}{S:St}{w:AL}
theorem AFT{G:Bh}(h:EJ w G S)(hi:Inv B S)(hB:B<=1073741824)(hil:i<S.files.length):
  Au Ae 62 #[.pointer (AA ⟨ED G.ib i,0,AB⟩)] w (Lm 5 1 w (bv (S.bytes i)) (S.bytes i).length):=by
 obtain⟨g,L,_,hbx,hs,_⟩:=h.spo hil;have c0:=hbx.cell 0;simp at c0;have HS:=AO hs;have HL:=AO (show _<=1073741824 from Cj (hi.ET i).1 hB);clear h hi hbx hs;have k63:= @ATi;go_enter AOE,Tryz.ntmps62;(go_wp2_with fail);refine (AHt g L _ _ w HS.out HL.out (S.bytes i).length rfl).mono ?_;rintro e w2 ⟨A,c,rfl,ho,hc2,hn⟩;have HO:=AO ho;have HC2:=AO hc2;have HN:=AO hn;clear ho hc2 hn;go_wp2;go_ret;exact⟨A,c,rfl,HO.out,HC2.out,HN.out⟩
theorem ACw(h:S.down=false):S.view=shows S.bytes S.seen:=by
 unfold St.view shows;rw[BL (by simp[h])]
theorem qp{G:Bh}(h:EJ w G S)(hi:Inv B S)(hB:B<=1073741824):
  Au Ae 20 #[.pointer (AA ⟨G.b,0,AB⟩)] w (dH w S.view):=by
 have HF:=AO h;have HI:=AO hi;have HB:=AO hB;clear h hi hB;have k55:= @AOo;have k61:= @AKd;go_enter ANl,Tryz.ntmps20;(go_wp2_with fail);refine (ACl HF.out).mono ?_;rintro e w1 ⟨rfl,hc1⟩;have CZ:=AO hc1
 cases hd:S.down with
 |true=>
  have HR:Hid (S.view=[]):=AO (by unfold St.view;rw[BU hd]);clear hc1 hd;go_wp2;go_ret;rw[HR.out];exact⟨AB,0,0,[],rfl,⟨Own.nil _ _ _,AV,by simp[Ol]⟩,rfl,CZ.out,by simp[Ol]⟩
 |false=>
  have HR:=AO (ACw hd);have Gf:=AO (HF.out.Cc hc1);have h0:=Gf.out.blk.cell 0;simp at h0;clear hc1 hd;(go_wp2_with fail);refine (xP 62 #[] @ATh w1 G.t1 G.g1 G.ib S.seen S.files.length S.bytes Gf.out.Ff Gf.out.Lt HI.out.val (Cj HI.out.wd HB.out) (λi hil wr hc=>AFT (Gf.out.Cc hc) HI.out HB.out hil)).mono ?_;rintro e w2 ⟨A,n,c,ds,rfl,hds,hv,hc2,hn⟩;have qc:=AO hds;have HV:=AO hv;have HC2:=AO hc2;have HN:=AO hn;clear hds hv hc2 hn;go_wp2;go_ret;exact⟨A,n,c,ds,rfl,qc.out,by rw[HV.out,HR.out],CZ.out.Ah HC2.out,λk hk=>Cj CZ.out.size (HN.out k hk)⟩
theorem AAi{y:Nat}(hx:Oo w x)(hy:Oo w y):(Op.equal 121 (pv x) (pv y)).run Ae w=.ok (decide (x=y)) w:=by
 have h:=qX hx hy;simp only[binOp,Eu] at h
 cases hr:(Op.equal 121 (pv x) (pv y)).run Ae w with
 |ok b w'=>
  unfold pv at hr;rw[hr] at h;simp only[Oy,Sem.run_pure,Result.ok.injEq,Value.bool.injEq] at h;rw[h.1,h.2]
 |_=>unfold pv at hr;rw[hr] at h;cases h
theorem ZF{w:AL}{x:Nat}(hx:Oo w x): ∀(es:List MapEntry) (ks:List Nat) (i:Nat),es.map (·.key)=ks.map pv->(∀k∈ks,Oo w k)->
  (tZ 121 (pv x) es i).run Ae w=.ok ((ks.idxOf? x).bind λj=>(es[j]?).map λe=>(i+j,e.val)) w
 | [],[],i,_,_=>by simp[tZ]| [],k'::ks,i,he,_=>by simp at he|e::es,[],i,he,_=>by simp at he
 |e::es,k'::ks,i,he,hb=>by
  simp only[BN,Ir] at he;unfold tZ;rw[he.1];simp only[Eu,AAi hx (hb k' AV),Oy];by_cases hk:x=k'
  ·subst hk;rw[RH,beq_self_eq_true];simp
  simp only[hk,decide_false];have ih:=ZF hx es ks (i+1) he.2 (λk hk=>hb k (DD _ hk));rw[RH];(have:(k'==x)=false:=by simp;exact λe=>hk e.symm);rw[this];simp only[DC,if_false];rw[ih]
  cases ks.idxOf? x with|none=>rfl|some j=>simp[SB,mg 1 j]
theorem Zw{ks:List Nat}(hx:Oo w x)(hks: ∀k∈ks,Oo w k):AAL Ae 121 pv w x ks where
 find:=λes he=>by
  unfold Instr.findKey;simp only[Eu,IK AAJ,Oy]
  cases es with
  |nil=>
   cases ks with|nil=>simp[Ur]|cons k r=>simp at he
  |cons e es=>
   cases ks with
   |nil=>simp at he|cons k r=>
    have hk:e.key=pv k:=by simp only[BN,Ir] at he;exact he.1
    have hn:Ur (.pointer 126) (pv x) (e::es) 0=AB:=by
     unfold Ur;rw[hk];simp[Instr.sameNow]
    rw[hn];have:=ZF hx (e::es) (k::r) 0 he hks;simp only[Ky] at this;exact this
 check:=λe=>by
  show (Uo e (9999+1) 121 (pv x)).run Ae w=_;unfold Uo;simp[IK AAJ,pv]
 bits:=by simp[Instr.sameBits,pv]
structure KX where
 A:Option Ag
 n:Nat
 c:Nat
 bs:List Bool
def KX.v (r:KX):AQ:=.slice r.A r.n r.c
def KX.nil:KX:=⟨AB,0,0,[]⟩
abbrev KG:=List (Nat×KX)
def kgv (kg:KG):List (Nat×AQ):=kg.map λp=>(p.1,p.2.v)
def Q4 (kg:KG):List Nat:=kg.flatMap λp=>bo p.2.A
def iF (kg:KG) (x:Nat):List Bool:=((BJ kg x).getD KX.nil).bs
structure O4 (w:AL) (km:Nat) (kg:KG):Prop where
 top:Mp w km pv (kgv kg)
 row: ∀p∈kg,Own w 4 1 p.2.A p.2.n p.2.c (kv p.2.bs)
 isb: ∀p∈kg,Oo w p.1
 sep:(Q4 kg).Nodup
theorem VI(kg:KG):(kgv kg).map Ac=kg.map Ac:=by unfold kgv;rw[En];rfl
theorem AIC(kg:KG)(x:Nat):(BJ (kgv kg) x).getD (.slice AB 0 0)=((BJ kg x).getD KX.nil).v:=by
 unfold kgv;rw[gp (λr:KX=>r.v)];cases BJ kg x<;>rfl
theorem O4.get{kg:KG}(h:O4 w km kg)(x:Nat):Own w 4 1 ((BJ kg x).getD KX.nil).A ((BJ kg x).getD KX.nil).n ((BJ kg x).getD KX.nil).c (kv (iF kg x)):=by
 unfold iF
 cases hx:BJ kg x with|none=>exact Own.nil _ _ _|some r=>exact h.row _ (CQ hx)
theorem O4.Ap{w w':AL}{km:Nat}{kg:KG}{L:List Nat}(h:O4 w km kg)(hc:AZ L w w')(h1:km∉L)(h2: ∀k∈Q4 kg,k∉L)(h3: ∀p∈kg,p.1∉L):O4 w' km kg:=
 ⟨h.top.Ap hc h1,λp hp=>(h.row p hp).Ap hc (λk hk=>h2 k (GG.2 ⟨p,hp,hk⟩)),λp hp=>(h.isb p hp).Ap hc (h3 p hp),h.sep⟩
theorem O4.Es{w':AL}{kg:KG}(h:O4 w km kg)(hc:AZ [] w w'):O4 w' km kg:=h.Ap hc BH GM GM
theorem O4.look{kg:KG}(h:O4 w km kg)(hx:Oo w x):(Po 120 (.map (AA km)) (pv x) false).run Ae w=.ok (((BJ kg x).getD KX.nil).v) w:=by
 have:=Mp.wY h.top (t:=120) x (Zw hx (λk hk=>by
  rw[VI] at hk;obtain⟨p,hp,rfl⟩:=CG.1 hk
  exact h.isb p hp)) AE3 (z:=.slice AB 0 0) Az
 rw[AIC] at this;exact this.1
theorem AID{G:Bh}(h:EJ w G S)(hi:Inv B S)(hB:B<=1073741824)(hil:i<S.files.length)(kc km:Nat)(kg:KG)(hk:w.cell? ⟨kc,0,AB⟩=AA (.map (AA km)))(hm:O4 w km kg)(hkl:(iF kg (ED G.ib i)).length<=1073741824)(ks:List Bool)(hks:iF kg (ED G.ib i)=ks):
  Au Ae 56 #[.pointer (AA ⟨ED G.ib i,0,AB⟩),.pointer (AA ⟨kc,0,AB⟩)] w (Lm 5 1 w (bv (PS (S.files.getD i ([],[])).1 (S.files.getD i ([],[])).1.length (S.files.getD i ([],[])).2 ks)) (PS (S.files.getD i ([],[])).1 (S.files.getD i ([],[])).1.length (S.files.getD i ([],[])).2 ks).length):=by
 subst hks;obtain⟨g,L,_,hbx,hs,_⟩:=h.spo hil;have c0:=hbx.cell 0;simp at c0;have HS:=AO hs;have hL:=(show _<=1073741824 from Cj (hi.ET i).1 hB);have hL2:=(show _<=1073741824 from Cj (hi.ET i).2 hB);clear HS;generalize S.files.getD i ([],[])=f at hs hL hL2⊢;have HS:=AO hs;have HL:=AO hL;have HL2:=AO hL2;have hlk:=(hm.Es (AZ.refl [] w).drew).look (Oo.Ap ⟨_,_,hbx⟩ (AZ.refl [] w).drew BH);unfold pv KX.v at hlk;have HM:=AO hm;have HKL:=AO hkl;clear h hi hbx hs hm hkl hL hL2 hil;have k57:= @ATf;go_enter AOA,Tryz.ntmps56;go_wp2
 go_still_tail 7,Az
 (go_wp2_with fail);refine (AFA g L _ _ _ _ _ _ _ (HS.out.Ap (AZ.refl [] w).drew GM) HL.out HL2.out (by have h1:=(HM.out.get (ED G.ib i)).1;have h2:=HKL.out;simp at h1;omega) ((HM.out.get (ED G.ib i)).rd.Ap (AZ.refl [] w).drew GM) _ rfl).mono ?_;rintro e w2 ⟨A,c,rfl,ho,hc2,hn⟩;have HO:=AO ho;have HC2:Hid (AZ [] w w2):=AO ((AZ.refl [] w).drew.Ah hc2);have HN:=AO hn;clear ho hc2 hn;go_wp2;go_ret;exact⟨A,c,rfl,HO.out,HC2.out,HN.out⟩
end
section
variable {kg:KG}{ws:List Nat}{x:Nat}{w:AL}
def AAj (names:Int) (n:Nat):Nat:=min names.toNat n
theorem xQ:Ety Ae 28 4 1 1 (.bool false):=.mk' AT4 Az rfl Aq
theorem Zx(hn:(kg.map Ac).Nodup)(x:Nat):(Q4 kg).Perm (bo ((BJ kg x).getD KX.nil).A++Q4 (without kg x)):=by
 cases hx:BJ kg x with
 |none=>rw[J6 (Ey.1 hx)];exact OJ _|some r=>
  have h:=Vp hn x r;rw[Vx hx] at h;exact h.flatMap_right _
theorem Zy(hn:(kg.map Ac).Nodup)(x:Nat)(r:KX):(Q4 (Dp kg x r)).Perm (bo r.A++Q4 (without kg x)):=(Vp hn x r).flatMap_right _
theorem AIE(kg:KG)(x:Nat)(r:KX):Dp (kgv kg) x r.v=kgv (Dp kg x r):=YW (λr:KX=>r.v) kg x r
theorem O4.lt{w:AL}{km:Nat}{kg:KG}(h:O4 w km kg): ∀k∈Q4 kg,k<w.heap.size:=by
 intro k hk;obtain⟨p,hp,hk⟩:=GG.1 hk;exact (h.row p hp).lt k hk
theorem O4.put{w':AL}{km:Nat}{r2:KX}(h:O4 w km kg)(hc:AZ (km::bo ((BJ kg x).getD KX.nil).A) w w')(ht:Mp w' km pv (Dp (kgv kg) x r2.v))(ho:Own w' 4 1 r2.A r2.n r2.c (kv r2.bs))
  (hA: ∀k∈bo r2.A,k∈bo ((BJ kg x).getD KX.nil).A\/w.heap.size<=k) (hx:Oo w' x) (hi: ∀p∈kg,Oo w' p.1) (hkm:km∉Q4 kg):O4 w' km (Dp kg x r2):=by
 (have hn:(kg.map Ac).Nodup:=by rw[<- VI];exact h.top.nodup);have hp:=Zx hn x;have hnd:=OH.1 (hp.nodup_iff.1 h.sep);refine⟨by rw[<- AIE];exact ht,λp hpm=>?_,λp hpm=>?_,?_⟩
 ·rcases (J7 hn).1 hpm with rfl|⟨hpm,hpx⟩;exact ho;refine (h.row p hpm).Ap hc (λk hk hm=>?_);have hkw:k∈Q4 (without kg x):=GG.2 ⟨p,by unfold without;simp[hpm,hpx],hk⟩;rcases BF.1 hm with rfl|hm;exact hkm (hp.mem_iff.2 (GN _ hkw));exact hnd.2.2 k hm k hkw rfl
 ·rcases (J7 hn).1 hpm with rfl|⟨hpm,_⟩;exact hx;exact hi p hpm
 refine (Zy hn x r2).nodup_iff.2 (OH.2 ⟨gm _,hnd.2.1,λa ha b hb=>?_⟩);rintro rfl;rcases hA a ha with h1|h1;exact hnd.2.2 a h1 a hb rfl;have:=h.lt a (hp.mem_iff.2 (GN _ hb));omega
theorem xR(hn:(kg.map Ac).Nodup)(x y:Nat)(r:KX):iF (Dp kg x r) y=if x=y then r.bs else iF kg y:=by
 unfold iF;rw[Su hn];by_cases h:x=y<;>simp[h]
def kI (ws:List Nat) (ks:List Bool) (j x:Nat):List Bool:=(((ws.take j).zipIdx).filter λp=>p.1==x).map λp=>(ks[p.2]?).getD false
theorem AGs(ws:List Nat)(ks:List Bool)(j x:Nat):(kI ws ks j x).length<=j:=by
 unfold kI;rw[DY];refine Cj (aY _ _) ?_;rw[List.length_zipIdx,I7];omega
theorem ACx{ks:List Bool}{j y:Nat}(h:ws[j]? =AA y)(x:Nat):kI ws ks (j+1) x=kI ws ks j x++(if y=x then [(ks[j]?).getD false] else []):=by
 unfold kI;have hl:=(CP.1 h).1;rw[take_snoc _ _ _ h,List.zipIdx_append,af,FK];congr 1;rw[I7,Jf Aa];by_cases hy:y=x<;>simp[hy]
theorem ANC{ib:List Nat}{m:Nat}(hn:ib.Nodup)(hl:ib.length=m)(hw: ∀y∈ws,y<m)(ks:List Bool)(hx:x<m):kI (ws.map (ED ib)) ks ws.length (ED ib x)=(ws.zipIdx.filter λp=>p.1==x).map λp=>(ks[p.2]?).getD false:=by
 unfold kI;rw[Ea AV,List.zipIdx_map,lU,En]
 have:(ws.zipIdx.filter ((λp:Nat×Nat=>p.1==ED ib x)∘Prod.map (ED ib) id))=ws.zipIdx.filter λp=>p.1==x:=by
  refine lQ λp hp=>?_;have hpw:=hw p.1 (List.fst_mem_of_mem_zipIdx hp);simp only[Yo,Prod.map]
  have:(ED ib p.1=ED ib x)↔p.1=x:=⟨λe=>by
   unfold ED at e;rw[Gj,Gj,Bo Aa,Bo Aa] at e
   exact (List.getElem_inj hn).1 e,λe=>by rw[e]⟩
  by_cases h:p.1=x;rw[h];simp;have h2: ¬ED ib p.1=ED ib x:=λe=>h (this.1 e);exact (beq_eq_false_iff_ne.2 h2).trans (beq_eq_false_iff_ne.2 h).symm
 rw[this];rfl
theorem ACy{G:Bh}{S:St}{B:Nat}(h:EJ w G S)(hi:Inv B S)(hB:B<=1073741824)(Ka:Option Ag)(kn kc:Nat)(ks:List Bool)(names:Int)(hKr:Rd w 1 Ka kn kc (kv ks))(hkn:kn<=1073741824):
  Au Ae 16 #[.pointer (AA ⟨G.b,0,AB⟩),.agg #[.slice Ka kn kc,.int .i64 names]] w (dH w (S.left ks names)):=by
 have HF:=AO h;have HI:=AO hi;have HB:=AO hB;have HK:=AO hKr;(have n1:S.EW.length<=1073741824:=by have:=hi.wds;omega);clear h hi hB hKr;have k54:= @AKc;have k55:= @AOo;go_enter ANi,Tryz.ntmps16;have hbf:=Bv.new w 30 #[.slice Ka kn kc,.int .i64 names];have hcf:AZ [] w (w.alloc (.cells #[.slice Ka kn kc,.int .i64 names] 30)):=(AZ.refl [] w).alloc _;have h1:=(HF.out.Cc hcf).blk.cell 1;simp only[FV] at h1;(go_wp2_with fail);obtain⟨fb,hfb⟩: ∃fb,w.heap.size=fb:=⟨_,rfl⟩;obtain⟨W,hW⟩: ∃W,w.alloc (.cells #[.slice Ka kn kc,.int .i64 names] 30)=W:=⟨_,rfl⟩;rw[hfb,hW] at hbf;rw[hW] at hcf;rw[hfb];have hFl:G.g2=G.g2:=rfl;refine (Xp _ G.t2 G.g2 (HF.out.Cc ((AZ.refl [] w).alloc _)).tr2).mono ?_;rintro e w1 ⟨ob,g0,rfl,htr,hnew,hc1,hcp⟩;rw[hW] at hc1 hnew;have CZ:Hid (AZ [] w w1):=AO (hcf.Ah hc1);have HFB:=AO (hbf.Ap hc1 BH);have Gf:=AO (HF.out.Cc CZ.out);have ku:=AO htr;have UI:Hid (∀x∈EZ ob g0,w.heap.size<=x):=AO (λx hx=>Cj hcf.size (hnew x hx));have iC:=AO hcp;have ACz:Hid (w.heap.size<=fb/\fb<W.heap.size/\∀x∈EZ ob g0,fb<x):=AO ⟨Aa,hbf.lt,λx hx=>by have:=hnew x hx;have:=hbf.lt;omega⟩;have c2:=Gf.out.blk.cell 2;have c3:=Gf.out.blk.cell 3;have d0:=HFB.out.cell 0;have d1:=HFB.out.cell 1;simp only[FV] at c2 c3 d0 d1;clear hbf hcf h1 hW hfb htr hnew hc1 hcp hFl;obtain⟨kN,hkN⟩: ∃kN,AAj names S.EW.length=kN:=⟨_,rfl⟩;(have hmin:min (max names 0) (S.EW.length:Int)=(kN:Int):=by rw[<- hkN];unfold AAj;omega);(have hkl:kN<=S.EW.length:=by rw[<- hkN];unfold AAj;omega);have hkc:kN<=G.c:=Cj hkl HF.out.own.rd.2.1;have HKN:=AO hkN;clear hkN;(go_wp2_with fail);refine Ew (S:=λw'=>AZ [] w1 w') Az ((AZ.refl _ _).drew) (λhHeld=>?_);refine tk 0 ?_;refine tk 1 ?_;refine tk 2 ?_;refine F9 3 (λw' hSw=>hSw.cell c2 BH) ?_;refine tk 4 ?_;refine F9 5 (λw' hSw=>hSw.cell d1 BH) ?_;refine tk 7 ?_;refine tk 8 ?_;refine tk 9 ?_;refine F9 10 (λw' hSw=>hSw.cell c2 BH) ?_;refine tk 11 ?_;refine tk 15 ?_;refine EM 6 λK hK=>?_;go_simp;refine hK.out _ _ (hHeld) (λhHeld=>?_);(try simp only[BG,Bg]);clear hK K;refine EM 12 λK hK=>?_;go_simp;refine hK.out _ _ (hHeld) (λhHeld=>?_);(try simp only[BG,Bg]);clear hK K;refine tk 13 ?_;refine tk 14 ?_;refine Ej Az ?_ _;(try simp only[BG,Bg]);have HD0:Hid (AZ [] w w1.drew):=AO (CZ.out.drew);clear hHeld hmin hkc d1;go_wp2;go_loopw [7,31] (λ_ q wr=>∃(i:Nat) (g':NG),i<=kN/\q=.int .i64 i/\Tree wr ob g'/\D6 G.ib g' (IL S.safe (S.EW.take i))/\(∀x∈EZ ob g',fb<x)/\AZ [] w wr/\Bv wr fb 30 #[.slice Ka kn kc,.int .i64 names]) (λ_ q _=>kN - (intOf q).toNat)
 case atStart=>exact⟨0,g0,DW _,rfl,ku.out.keep (AZ.refl [] w1).drew GM,HF.out.is2.copied iC.out,ACz.out.2.2,HD0.out,HFB.out.drew⟩
 obtain⟨i,g',hiN,rfl,ht,hti,htn,hch,ALI⟩:=hrel;have HT:=AO ht;have HTI:=AO hti;have HTN:=AO htn;have DJ:=AO hch;have AC0:=AO ALI;clear ht hti htn hch ALI;by_cases hlt:i<kN
 ·(have hlt':(i:Int)<kN:=by omega);obtain⟨c,hci⟩: ∃c,S.EW[i]? =AA c:=⟨_,Bo Aa⟩;obtain⟨ad,v,hA,hvi,hcell⟩:=HF.out.own.rd.Yu (k:=i) Aa;have hcell0:=DJ.out.cell hcell BH;have hv:=(HF.out.chn i c v hci hvi).keep DJ.out GM (λ_ h=>h) (λ_ _=>rfl) (Bd _);have hok:=ANB HI.out.EW hci;have um:=AO hok;have HCI:=AO hci;have HVL:Hid (Val S.files.length (IL S.safe (S.EW.take i))):=AO (HI.out.safe.run (gu HI.out.EW i))
  rw[hA] at*
  clear hcell hvi hok hci;cases c
  case' Cb d=>
   obtain⟨k,rfl,hkK,hk⟩:=hv;(go_wp2_with fail);refine (xC HT.out HTI.out um.out.2 hk).mono ?_
  case' create d n j=>
   obtain⟨x,k,j2,rfl,hxK,hkK,hjK,hx,hk,hj,hjl⟩:=hv;(go_wp2_with fail);refine (qM HT.out HTI.out HVL.out um.out hx hk hj).mono ?_
  case' rename d n=>
   obtain⟨k,j,rfl,hkK,hjK,hk,hj⟩:=hv;(go_wp2_with fail);refine (qO HT.out HTI.out um.out hk hj (λe=>by have h1:=HF.out.lay.lt G.K (Bi (i:=5) rfl) k hkK;have h2:=HTN.out ob (by simp[EZ]);have h3:=ACz.out.1;omega) (λe=>by have h1:=HF.out.lay.lt G.K (Bi (i:=5) rfl) j hjK;have h2:=HTN.out ob (by simp[EZ]);have h3:=ACz.out.1;omega)).mono ?_
  case' remove d n=>
   obtain⟨k,j,rfl,hkK,hjK,hk,hj⟩:=hv;(go_wp2_with fail);refine (qN HT.out HTI.out HVL.out um.out hk hj).mono ?_
  case' rmdir d=>
   obtain⟨k,rfl,hkK,hk⟩:=hv;(go_wp2_with fail);refine (xE HT.out HTI.out hk).mono ?_
  all_goals
   rintro ee w4 ⟨rfl,⟨g2,ht2,hi2,hsub2⟩,Xw⟩;have HT2:=AO ht2;have HI2:=AO hi2;have HS2:=AO hsub2;have HC2:=AO Xw;clear ht2 hi2 hsub2 Xw;go_wp2;go_roundw
   case rel=>
    have hfl:=AC0.out.lt;refine⟨i+1,g2,Aa,by go_num,HT2.out,by rw[take_snoc _ _ _ HCI.out,S9];exact HI2.out,λx hx=>?_,DJ.out.trans HC2.out (λx hx=>.inr (by have:=HTN.out x hx;have:=ACz.out.1;omega)),AC0.out.Ap HC2.out (λhm=>by have:=HTN.out fb hm;omega)⟩;rcases HS2.out x hx with h|h;exact HTN.out x h;omega
   simp[intOf];omega
 (obtain rfl:i=kN:=by omega);have hmm:= @run_makeMap Ae;have hw3:=HF.out.kY;obtain⟨km,hkm⟩: ∃km,wr.heap.size=km:=⟨_,rfl⟩;obtain⟨W2,hW2⟩: ∃W2,(wr.alloc (.map #[] 0)).alloc (.cells #[.map (AA km)] 120)=W2:=⟨_,rfl⟩;(have hc2:AZ [] wr W2:=by rw[<- hW2];exact ((AZ.refl [] wr).alloc _).alloc _);have c3':=(HF.out.Cc (DJ.out.Ah hc2)).blk.cell 3;simp only[FV] at c3';have HC2:=AO hc2;have HKM:Hid (O4 W2 km []):=AO ⟨by rw[<- hW2,<- hkm];exact (Mp.made wr pv).Ap ((AZ.refl [] _).alloc _) BH,AV,AV,by simp[Q4]⟩
 have HKB:Hid (Bv W2 (km+1) 120 #[.map (AA km)]):=AO (by
  rw[<- hW2];have:=Bv.new (wr.alloc (.map #[] 0)) 120 #[.map (AA km)]
  simpa[hkm] using this)
 have Qq:Hid (W2.heap.size=km+2/\wr.heap.size=km):=AO ⟨by rw[<- hW2];simp[hkm],hkm⟩;(have hnw:S.wr.length<=1073741824:=by have:=HI.out.nw;have:=HB.out;omega);clear hc2 hw3;go_wp2;have HF2:=AO (HF.out.Cc (DJ.out.Ah HC2.out));have HT3:=AO (HT.out.keep HC2.out GM);have AUS:=AO (AC0.out.Ap HC2.out BH);have NI:Hid (AZ [] w W2):=AO (DJ.out.Ah HC2.out);have HLT:Hid (∀x∈EZ ob g',x≠km):=AO (λx hx=>by have:=HT.out.lt x hx;have:=Qq.out;omega)
 have HIS:Hid (∀i,i<S.files.length->Oo W2 (ED G.ib i)/\ED G.ib i≠km):=AO (λi hi=>by
  obtain⟨gg,LL,_,hbb,_,_,hii⟩:=HF2.out.spo hi;refine⟨⟨_,_,hbb⟩,?_⟩;have h1:=HF.out.lay.lt G.K (Bi (i:=5) rfl) _ (HF.out.Wn _ (Bi hii));have h2:=DJ.out.size;have h3:=Qq.out
  omega)
 clear hmm c3' hW2 hkm;go_loopw [9,10,45] (λ_ _ q wr=>∃(j:Nat) (kg:KG),j<=S.wr.length/\q=.int .i64 j/\O4 wr km kg/\(∀x,iF kg x=kI (S.wr.map (ED G.ib)) ks j x)/\AZ [km] W2 wr/\(∀k∈Q4 kg,W2.heap.size<=k)/\∀p∈kg,p.1∈S.wr.map (ED G.ib)) (λ_ _ q _=>S.wr.length - (intOf q).toNat)
 case atStart=>exact⟨0,[],DW _,rfl,HKM.out,λx=>by simp[iF,kI,BJ,KX.nil],AZ.refl _ _,by simp[Q4],AV⟩
 obtain⟨j,kg,hjn,rfl,hkg,hkI,APJ,ALJ,ALK⟩:=hrel;have dS:=AO hkg;have HKI:=AO hkI;have lD:=AO APJ;have AC1:=AO ALJ;have iG:=AO ALK;clear hkg hkI APJ ALJ ALK;by_cases hjl:j<S.wr.length
 ·(have APD:(j:Int)<S.wr.length:=by omega);obtain⟨x0,hx0⟩: ∃x0,S.wr[j]? =AA x0:=⟨_,Bo hjl⟩;have APK:=HI.out.wr x0 (Bi hx0)
  have ql:Hid (∀p v,w.cell? p=AA v->wr.cell? p=AA v):=AO (λp v hp=>lD.out.cell (NI.out.cell hp BH) (λhm=>by
   simp only[CB] at hm;have h1:=UT w p hp;have h2:=DJ.out.size;have h3:=Qq.out
   omega))
  obtain⟨bd,xx,hA2,hxx,hxc⟩:=AAh (xs:=S.wr.map (ED G.ib)) (by have:=HF.out.kY.rd;rw[En];exact this) hjl;have AUT:=ql.out _ _ hxc
  have hxe:xx=ED G.ib x0:=by
   rw[Ba,hx0] at hxx;exact (EF hxx).symm
  subst hxe
  rw[hA2] at*
  have HXX:=AO hxx;obtain⟨x,hxd⟩: ∃x,ED G.ib x0=x:=⟨_,rfl⟩;have ALM:=AO (HIS.out x0 APK);rw[hxd] at AUT HXX ALM;have HB3:Hid (Oo wr x):=AO (ALM.out.1.Ap lD.out (by simpa using ALM.out.2));obtain⟨r,hr⟩: ∃r,(BJ kg x).getD KX.nil=r:=⟨_,rfl⟩;obtain⟨rA,rn,rc,rb⟩:=r;have HR:=AO hr;have HOR:Hid (Own wr 4 1 rA rn rc (kv rb)):=AO (by have:=dS.out.get x;unfold iF at this;rw[hr] at this;exact this);have HRB:Hid (rb=kI (S.wr.map (ED G.ib)) ks j x):=AO (by rw[<- HKI.out x];unfold iF;rw[hr])
  have iH:Hid (∀k∈bo rA,W2.heap.size<=k):=AO (λk hk=>by
   cases ha:BJ kg x with
   |none=>rw[ha] at hr;cases hr;simp at hk|some r0=>
    rw[ha] at hr;simp only[Dx] at hr;subst hr
    exact AC1.out k (GG.2 ⟨_,CQ ha,hk⟩))
  have hrn:rn<=1073741824:=by
   have h1:=HOR.out.1;simp only[DY,OI] at h1;have h2:=congrArg NZ HRB.out;have h3:=AGs (S.wr.map (ED G.ib)) ks j x;omega
  have e0:=AUS.out.Ap lD.out (by have:=Qq.out;have:=ACz.out;have:=AC0.out.lt;simp;omega);have f0:=e0.cell 0;have k0:=(HKB.out.Ap lD.out AV).cell 0
  have ALN:=AO (show fb∉km::bo rA by
   intro hm;have h2:=AC0.out.lt;have h3:=Qq.out;rcases BF.1 hm with h|h;omega
   have:=iH.out _ h;omega)
  have AGt:=AO (show km+1∉km::bo rA by
   intro hm;have h3:=Qq.out;rcases BF.1 hm with h|h;omega
   have:=iH.out _ h;omega)
  simp only[FV] at f0 k0;have hlk:=(dS.out.Es (AZ.refl [] wr).drew).look (HB3.out.Ap (AZ.refl [] wr).drew BH);rw[hr] at hlk;unfold KX.v pv at hlk;simp only at hlk
  have APL:Hid (∀bb,(Po 120 (.map (AA km)) (.pointer (AA ⟨x,0,AB⟩)) false).run Ae (wr.drew.alloc (.cells #[.bool bb] 4))=.ok (.slice rA rn rc) (wr.drew.alloc (.cells #[.bool bb] 4))):=AO (λbb=>by
   have hc:AZ [] wr (wr.drew.alloc (.cells #[.bool bb] 4)):=((AZ.refl [] wr).drew).alloc _;have:=(dS.out.Es hc).look (HB3.out.Ap hc BH);rw[HR.out] at this
   exact this)
  clear hx0 APK hxc hxx hr e0 hxd
  have xU:Hid (∀y∈S.wr.map (ED G.ib),y<km):=AO (λy hy=>by
   obtain⟨i2,hi2,rfl⟩:=CG.1 hy;obtain⟨gg,LL,_,hbb,_,_,hii⟩:=HF.out.spo (HI.out.wr i2 hi2);have h1:=HF.out.lay.lt G.K (Bi (i:=5) rfl) _ (HF.out.Wn _ (Bi hii));have h2:=DJ.out.size;have h3:=Qq.out
   omega)
  by_cases hik:j<kn
  ·(have hjk:(j:Int)<kn:=by omega);obtain⟨ka,b,rfl,hkb,ALO⟩:=ACZ HK.out hik;have ANE:=ql.out _ _ ALO;have HKB2:Hid ((ks[j]?).getD false=b):=AO (by rw[hkb];rfl)
   have AUU:Hid ((ka.add j).block∉km::bo rA):=AO (λhm=>by
    have h1:=UT w _ ALO;have h2:=DJ.out.size;have h3:=Qq.out;rcases BF.1 hm with h|h;omega
    have:=iH.out _ h;omega)
   clear hkb ALO;have HOA:Hid (Own (wr.drew.alloc (.cells #[.bool b] 4)) 4 1 rA rn rc (kv rb)):=AO (HOR.out.Ap (((AZ.refl [] wr).drew).alloc _) GM);have hlk2:(Po 120 (.map (AA km)) (.pointer (AA ⟨x,0,AB⟩)) false).run Ae ((wr.alloc (.cells #[.bool b] 4)).drew)=.ok (.slice rA rn rc) ((wr.alloc (.cells #[.bool b] 4)).drew):=APL.out b;go_wp2;refine Ew (S:=λw'=>AZ (km::bo rA) wr w') Az ((AZ.refl _ _).drew) (λhHeld=>?_);refine F9 0 (λw' hSw=>hSw.cell k0 AGt.out) ?_;refine tk 1 ?_;refine F9 2 (λw' hSw=>hSw.cell k0 AGt.out) ?_;refine tk 3 ?_;refine tk 5 ?_;refine tk 6 ?_;refine F9 7 (λw' hSw=>hSw.cell f0 ALN.out) ?_;refine tk 8 ?_;refine tk 9 ?_;refine tk 10 ?_;refine tk 11 ?_;refine F9 12 (λw' hSw=>hSw.cell f0 ALN.out) ?_;refine tk 13 ?_;refine tk 14 ?_;refine F9 15 (λw' hSw=>hSw.cell ANE AUU.out) ?_;refine tk 16 ?_;refine Oz (rs:=[4,17]) Az AV ?_;refine Gp rfl (λK hK=>?a9) (Gp rfl (λK hK=>?b9) (O0))
   case' a9=>
    go_simp;refine hK.out _ _ (hHeld) (λhHeld=>?_);(try simp only[BG,Bg]);clear hK K;refine EM 17 λK hK=>?_;go_simp;refine hK.out _ _ (hHeld.alloc _) (λhHeld=>?_)
   case' b9=>
    go_simp;refine hK.out _ _ (hHeld.alloc _) (λhHeld=>?_);(try simp only[BG,Bg]);clear hK K;refine EM 4 λK hK=>?_;go_simp;refine hK.out _ _ (hHeld) (λhHeld=>?_)
   all_goals
    (try simp only[BG,Bg]);clear hK K;refine EM 18 λK hK=>?_;refine JV rfl _ _ rfl xQ rfl HOA.out rfl (Own.lit wr.drew 4 1 #[.bool b] 1 Aq rfl).rd (by simp[Jr]) Nb Aa ?_;intro A2 c2 w6 hown6 II LV _;have JF:Hid (AZ (bo rA) wr w6):=AO ((((AZ.refl [] wr).drew.alloc (.cells #[.bool b] 4)).nil (bo rA)).trans II (λx hx=>.inl hx));have HLR:Hid (∀y∈S.wr.map (ED G.ib),y∉bo rA):=AO (λy hy hm=>by have h1:=xU.out y hy;have h2:=iH.out y hm;have h3:=Qq.out;omega);have HI6:Hid (Oo w6 x/\∀p∈kg,Oo w6 p.1):=AO ⟨HB3.out.Ap JF.out (HLR.out x (Bi HXX.out)),λp hp=>(dS.out.isb p hp).Ap JF.out (HLR.out p.1 (iG.out p hp))⟩;obtain⟨w7,hu,AC2,TF⟩:=Mp.gX (dS.out.top.Ap JF.out (λhm=>by have h1:=iH.out _ hm;have h2:=Qq.out;omega)) (t:=120) x (Zw HI6.out.1 (λk hk=>by rw[VI] at hk;obtain⟨p,hp,rfl⟩:=CG.1 hk;exact HI6.out.2 p hp)) AE3 (.slice A2 (rn+1) c2);unfold pv at hu;have qm:=AO hown6;have Xv:=AO LV;have HM7:=AO AC2;have LW:=AO TF;have hH6:=hHeld.trans II (λx hx=>.inl (DD _ hx));have hH7:=hH6.trans TF (λx hx=>.inl (by simp only[CB] at hx;subst hx;simp));clear hown6 II LV AC2 TF;refine hK.out _ _ (hH6) (λhHeld=>?_);(try simp only[BG,Bg]);clear hK K;refine EM 19 λK hK=>?_;go_simp;refine hK.out _ _ (hH7) (λhHeld=>?_);(try simp only[BG,Bg]);clear hK K;refine Ej Az ?_ _;(try simp only[BG,Bg]);have qw:Hid (AZ (km::bo rA) wr w7):=AO ((JF.out.mono (λx hx=>.inl (DD _ hx))).trans LW.out (λx hx=>.inl (by simp only[CB] at hx;subst hx;simp)));clear hHeld hH6 hH7 hu hlk hlk2 f0 k0;go_wp2;go_roundw
    case rel=>
     (have ALP:km∉Q4 kg:=λhm=>by have h1:=AC1.out km hm;have h2:=Qq.out;omega);have AUW:wr.heap.size<=w6.heap.size:=JF.out.size
     have hput:=dS.out.put (x:=x) (r2:=⟨A2,rn+1,c2,rb++[b]⟩) (w':=w7) (by rw[HR.out];exact qw.out) HM7.out (by
      have h1:=qm.out.Ap LW.out (λk hk hm=>by
       simp only[CB] at hm;subst hm;rcases Xv.out _ hk with h|h;have h1:=iH.out _ h;have h2:=Qq.out;omega
       have h1:=dS.out.top.lt;simp at h;omega)
      simp only[FK,BN,EG]
      exact h1) (λk hk=>by rw[HR.out];rcases Xv.out k hk with h|h;exact .inl h;right;simp at h;omega) (HI6.out.1.Ap LW.out (by have h1:=xU.out x (Bi HXX.out);simp;omega)) (λp hp=>(HI6.out.2 p hp).Ap LW.out (by have h1:=xU.out p.1 (iG.out p hp);simp;omega)) ALP
     (have hn:(kg.map Ac).Nodup:=by rw[<- VI];exact dS.out.top.nodup);refine⟨j+1,Dp kg x ⟨A2,rn+1,c2,rb++[b]⟩,Aa,by go_num,hput,λy=>?_,?_,λk hk=>?_,λp hp=>?_⟩
     ·rw[xR hn,ACx HXX.out,HKB2.out];by_cases hxy:x=y
      ·subst hxy;simp[HRB.out]
      simp[hxy,HKI.out y]
     ·refine lD.out.trans qw.out (λk hk=>?_);rcases BF.1 hk with rfl|hk;left;simp;exact .inr (iH.out k hk)
     ·rcases Bj.1 ((Zy hn x _).mem_iff.1 hk) with h|h
      ·rcases Xv.out k h with h|h;exact iH.out k h;have h1:=lD.out.size;simp at h;omega
      have:k∈Q4 kg:=(Zx hn x).mem_iff.2 (GN _ h);exact AC1.out k this
     rcases (J7 hn).1 hp with rfl|⟨hp,_⟩;exact Bi HXX.out;exact iG.out p hp
    simp[intOf];omega
  have hjk: ¬(j:Int)<kn:=by omega
  have HKB2:Hid ((ks[j]?).getD false=false):=AO (by
   have h1:=HK.out.1;simp only[DY,OI] at h1
   rw[H9 Aa];rfl)
  have HOA:Hid (Own (wr.drew.alloc (.cells #[.bool false] 4)) 4 1 rA rn rc (kv rb)):=AO (HOR.out.Ap (((AZ.refl [] wr).drew).alloc _) GM);have hlk2:(Po 120 (.map (AA km)) (.pointer (AA ⟨x,0,AB⟩)) false).run Ae ((wr.alloc (.cells #[.bool false] 4)).drew)=.ok (.slice rA rn rc) ((wr.alloc (.cells #[.bool false] 4)).drew):=APL.out false;go_wp2;refine Ew (S:=λw'=>AZ (km::bo rA) wr w') Az ((AZ.refl _ _).drew) (λhHeld=>?_);refine F9 0 (λw' hSw=>hSw.cell k0 AGt.out) ?_;refine tk 1 ?_;refine F9 2 (λw' hSw=>hSw.cell k0 AGt.out) ?_;refine tk 3 ?_;refine tk 5 ?_;refine tk 6 ?_;refine F9 7 (λw' hSw=>hSw.cell f0 ALN.out) ?_;refine tk 8 ?_;refine tk 9 ?_;refine tk 10 ?_;refine tk 11 ?_;refine tk 12 ?_;refine tk 13 ?_;refine tk 14 ?_;refine tk 15 ?_;refine tk 16 ?_;refine Oz (rs:=[4,17]) Az AV ?_;refine Gp rfl (λK hK=>?a10) (Gp rfl (λK hK=>?b10) (O0))
  case' a10=>
   go_simp;refine hK.out _ _ (hHeld) (λhHeld=>?_);(try simp only[BG,Bg]);clear hK K;refine EM 17 λK hK=>?_;go_simp;refine hK.out _ _ (hHeld.alloc _) (λhHeld=>?_)
  case' b10=>
   go_simp;refine hK.out _ _ (hHeld.alloc _) (λhHeld=>?_);(try simp only[BG,Bg]);clear hK K;refine EM 4 λK hK=>?_;go_simp;refine hK.out _ _ (hHeld) (λhHeld=>?_)
  all_goals
   (try simp only[BG,Bg]);clear hK K;refine EM 18 λK hK=>?_;refine JV rfl _ _ rfl xQ rfl HOA.out rfl (Own.lit wr.drew 4 1 #[.bool false] 1 Aq rfl).rd (by simp[Jr]) Nb Aa ?_;intro A2 c2 w6 hown6 II LV _;have JF:Hid (AZ (bo rA) wr w6):=AO ((((AZ.refl [] wr).drew.alloc (.cells #[.bool false] 4)).nil (bo rA)).trans II (λx hx=>.inl hx));have HLR:Hid (∀y∈S.wr.map (ED G.ib),y∉bo rA):=AO (λy hy hm=>by have h1:=xU.out y hy;have h2:=iH.out y hm;have h3:=Qq.out;omega);have HI6:Hid (Oo w6 x/\∀p∈kg,Oo w6 p.1):=AO ⟨HB3.out.Ap JF.out (HLR.out x (Bi HXX.out)),λp hp=>(dS.out.isb p hp).Ap JF.out (HLR.out p.1 (iG.out p hp))⟩;obtain⟨w7,hu,AC2,TF⟩:=Mp.gX (dS.out.top.Ap JF.out (λhm=>by have h1:=iH.out _ hm;have h2:=Qq.out;omega)) (t:=120) x (Zw HI6.out.1 (λk hk=>by rw[VI] at hk;obtain⟨p,hp,rfl⟩:=CG.1 hk;exact HI6.out.2 p hp)) AE3 (.slice A2 (rn+1) c2);unfold pv at hu;have qm:=AO hown6;have Xv:=AO LV;have HM7:=AO AC2;have LW:=AO TF;have hH6:=hHeld.trans II (λx hx=>.inl (DD _ hx));have hH7:=hH6.trans TF (λx hx=>.inl (by simp only[CB] at hx;subst hx;simp));clear hown6 II LV AC2 TF;refine hK.out _ _ (hH6) (λhHeld=>?_);(try simp only[BG,Bg]);clear hK K;refine EM 19 λK hK=>?_;go_simp;refine hK.out _ _ (hH7) (λhHeld=>?_);(try simp only[BG,Bg]);clear hK K;refine Ej Az ?_ _;(try simp only[BG,Bg]);have qw:Hid (AZ (km::bo rA) wr w7):=AO ((JF.out.mono (λx hx=>.inl (DD _ hx))).trans LW.out (λx hx=>.inl (by simp only[CB] at hx;subst hx;simp)));clear hHeld hH6 hH7 hu hlk hlk2 f0 k0;go_wp2;go_roundw
   case rel=>
    (have ALP:km∉Q4 kg:=λhm=>by have h1:=AC1.out km hm;have h2:=Qq.out;omega);have AUW:wr.heap.size<=w6.heap.size:=JF.out.size
    have hput:=dS.out.put (x:=x) (r2:=⟨A2,rn+1,c2,rb++[false]⟩) (w':=w7) (by rw[HR.out];exact qw.out) HM7.out (by
     have h1:=qm.out.Ap LW.out (λk hk hm=>by
      simp only[CB] at hm;subst hm;rcases Xv.out _ hk with h|h;have h1:=iH.out _ h;have h2:=Qq.out;omega
      have h1:=dS.out.top.lt;simp at h;omega)
     simp only[FK,BN,EG]
     exact h1) (λk hk=>by rw[HR.out];rcases Xv.out k hk with h|h;exact .inl h;right;simp at h;omega) (HI6.out.1.Ap LW.out (by have h1:=xU.out x (Bi HXX.out);simp;omega)) (λp hp=>(HI6.out.2 p hp).Ap LW.out (by have h1:=xU.out p.1 (iG.out p hp);simp;omega)) ALP
    (have hn:(kg.map Ac).Nodup:=by rw[<- VI];exact dS.out.top.nodup);refine⟨j+1,Dp kg x ⟨A2,rn+1,c2,rb++[false]⟩,Aa,by go_num,hput,λy=>?_,?_,λk hk=>?_,λp hp=>?_⟩
    ·rw[xR hn,ACx HXX.out,HKB2.out];by_cases hxy:x=y
     ·subst hxy;simp[HRB.out]
     simp[hxy,HKI.out y]
    ·refine lD.out.trans qw.out (λk hk=>?_);rcases BF.1 hk with rfl|hk;left;simp;exact .inr (iH.out k hk)
    ·rcases Bj.1 ((Zy hn x _).mem_iff.1 hk) with h|h
     ·rcases Xv.out k h with h|h;exact iH.out k h;have h1:=lD.out.size;simp at h;omega
     have:k∈Q4 kg:=(Zx hn x).mem_iff.2 (GN _ h);exact AC1.out k this
    rcases (J7 hn).1 hp with rfl|⟨hp,_⟩;exact Bi HXX.out;exact iG.out p hp
   simp[intOf];omega
 (obtain rfl:j=S.wr.length:=by omega);have HKW:Hid (w.heap.size<=km):=AO (by have h1:=DJ.out.size;have h2:=Qq.out;omega);have HCE:Hid (AZ [] w wr):=AO (NI.out.trans lD.out (λx hx=>by simp only[CB] at hx;subst hx;exact .inr HKW.out))
 have HFE:=AO (HF2.out.keep lD.out (λx hx hm=>by
  simp only[CB] at hm;have h1:=HF.out.lt x hx;have h2:=HKW.out
  omega))
 have HKE:=AO (HKB.out.Ap lD.out AV);have HTE:=AO (HT3.out.keep lD.out (λx hx hm=>HLT.out x hx (by simpa using hm)));have HVE:Hid (Val S.files.length (IL S.safe (S.EW.take i))):=AO (HI.out.safe.run (gu HI.out.EW i))
 have HWE:Hid (wd (IL S.safe (S.EW.take i))<=1073741824):=AO (by
  have h1:=AGh (gu HI.out.EW i);have h2:=HI.out.wds;have h3:=HB.out;rw[I7] at h1
  omega)
 have AUX:Hid (∀x,x<S.files.length->iF kg (ED G.ib x)=S.keep ks x):=AO (λx hx=>by rw[HKI.out];exact ANC HF.out.Zt HF.out.Qo HI.out.wr ks hx)
 have HKL:Hid (∀x,x<S.files.length->(iF kg (ED G.ib x)).length<=1073741824):=AO (λx hx=>by
  rw[HKI.out]
  exact Cj (AGs _ _ _ _) hnw)
 clear hjn;(go_wp2_with fail);refine (xP 56 #[_] @ATe wr ob g' G.ib (IL S.safe (S.EW.take i)) S.files.length (S.after ks) HTE.out HTI.out HVE.out HWE.out (λx hx wr2 hc2=>?_)).mono ?_
 ·have hce:=(HKE.out.Ap hc2 BH).cell 0;exact AID (HFE.out.Cc hc2) HI.out HB.out hx (km+1) km kg (by simpa using hce) (dS.out.Es hc2) (HKL.out x hx) _ (AUX.out x hx)
 rintro e w9 ⟨A,n,c,ds,rfl,hds,hv,dU,hn⟩;have qc:=AO hds;have HV:=AO hv;have HC9:=AO dU;have HN:=AO hn;clear hds hv dU hn;go_wp2;go_ret;refine⟨A,n,c,ds,rfl,qc.out,?_,HCE.out.Ah HC9.out,λk hk=>Cj HCE.out.size (HN.out k hk)⟩;rw[HV.out];unfold shows St.left
 have ht:S.EW.take i=S.EW.take names.toNat:=by
  rw[<- HKN.out];unfold AAj;rcases AD1 names.toNat S.EW.length with h|h;rw[Jf h];rw[Nat.min_eq_right h,yV,Ea h]
 rw[ht]
end
theorem Lay.ins{w w':AL}{Ps Qs:List (List Nat)}{P:List Nat}(h:Lay w (Ps++Qs))(hn: ∀x∈P,w.heap.size<=x)(hl: ∀x∈P,x<w'.heap.size)(hs:w.heap.size<=w'.heap.size):Lay w' (Ps++P::Qs):=by
 have hsep:=h.sep;unfold Sep at hsep;rw[aZ] at hsep;obtain⟨s1,s2,s3⟩:=hsep;refine⟨?_,λQ hQ x hx=>?_⟩
 ·unfold Sep;rw[aZ];refine⟨s1,Tj.2 ⟨λQ hQ x hx hq=>?_,s2⟩,λA hA B hB x hx hb=>?_⟩
  ·have h1:=hn x hx;have h2:=h.lt Q (GN _ hQ) x hq;omega
  rcases BF.1 hB with rfl|hB
  ·have h1:=hn x hb;have h2:=h.lt A (F5 _ hA) x hx;omega
  exact s3 A hA B hB x hx hb
 rcases Bj.1 hQ with hQ|hQ;exact Em (h.lt Q (F5 _ hQ) x hx) hs;rcases BF.1 hQ with rfl|hQ;exact hl x hx;exact Em (h.lt Q (GN _ hQ) x hx) hs
theorem Zz{D:Eg}{d:ByteArray×List (ByteArray×List Int)}(h:d∈D):d.2.length<=E5 D/\∀x∈d.2,x.2.length<=E5 D:=by
 unfold E5
 induction D with
 |nil=>simp at h|cons y r ih=>
  simp only[BN,Bz];rcases BF.1 h with rfl|h
  ·have h1:d.2.length<=(d.2.map λx=>x.2.length+1).sum/\∀x∈d.2,x.2.length<=(d.2.map λx=>x.2.length+1).sum:=by
    generalize d.2=l
    induction l with
    |nil=>simp|cons z l ih2=>
     simp only[EY,BN,Bz,BF];refine⟨Aa,λx hx=>?_⟩;rcases hx with rfl|hx;omega;have:=ih2.2 x hx;omega
   exact⟨Aa,λx hx=>by have:=h1.2 x hx;omega⟩
  have h1:=ih h;exact⟨Aa,λx hx=>by have:=h1.2 x hx;omega⟩
def AAk (w:AL) (D:Eg) (BK stop:Int) (e:Fe) (w':AL):Prop:=
 (Eo D BK≠0/\e=.returned (.tuple #[.pointer AB,.int .i64 (Eo D BK)])/\AZ [] w w')\/
 (Eo D BK=0/\∃G,e=.returned (.tuple #[.pointer (AA ⟨G.b,0,AB⟩),.int .i64 0])/\EJ w' G (Gw D BK stop)/\(∀x∈G.all,w.heap.size<=x)/\AZ [] w w')
theorem AC3(w:AL)(A:Option Ag)(n c:Nat)(ds:List DM)(BK stop:Int)(h:F6 w A n c ds)(hn:n<=1073741824)(hb:E5 (BD ds)<=1073741824):
  Au Ae 17 #[.slice A n c,.int .i64 BK,.int .i64 stop] w (AAk w (BD ds) BK stop):=by
 have HD:=AO h;have HB:=AO hb;have hmm:= @run_makeMap Ae;clear h hb;have k54:= @AKc;have k58:= @ATg;have k59:= @AOp;go_enter ANj,Tryz.ntmps17;by_cases hq:BK<0
 ·have HE:Hid (Eo (BD ds) BK=2):=AO (by unfold Eo;rw[BU hq]);go_wp2
  go_ret2
  exact .inl ⟨by rw[HE.out];decide,by rw[HE.out];rfl,AZ.refl _ _⟩
 have HE:Hid (Eo (BD ds) BK=Gv true noS (BD ds)):=AO (by unfold Eo;rw[BL hq]);obtain⟨t1,ht1⟩: ∃t1,w.heap.size=t1:=⟨_,rfl⟩;obtain⟨W,hW⟩: ∃W,(w.alloc (.map #[] 0)).alloc (.cells #[.map (AA t1),.map AB,.slice AB 0 0,.slice AB 0 0,.int .i64 BK,.int .i64 stop,.int .i64 0] 116)=W:=⟨_,rfl⟩;have hcW:AZ [] w W:=by rw[<- hW];exact ((AZ.refl [] w).alloc _).alloc _
 have hOp:lC W ⟨t1+1,t1,[],[],[],[]⟩ [] [] BK stop:=by
  have hbk:Bv W (t1+1) 116 #[.map (AA t1),.map AB,.slice AB 0 0,.slice AB 0 0,.int .i64 BK,.int .i64 stop,.int .i64 0]:=by
   rw[<- hW];have:=Bv.new (w.alloc (.map #[] 0)) 116 #[.map (AA t1),.map AB,.slice AB 0 0,.slice AB 0 0,.int .i64 BK,.int .i64 stop,.int .i64 0];simpa[ht1] using this
  have htr:Tree W t1 []:=⟨by rw[<- hW,<- ht1];exact (Mp.made w IV).Ap ((AZ.refl [] _).alloc _) BH,AV,AV⟩;refine⟨hbk,htr,⟨λk=>rfl,λk d F hd=>by cases hd⟩,rfl,rfl,rfl,AV,AV,⟨?_,?_⟩⟩;simp[RZ.parts,Sep,EZ];intro P hP x hx;have h1:=hbk.lt;have h2:=htr.top.lt;simp only[RZ.parts,EZ,EG,BF,yT,or_false] at hP;rcases hP with rfl|rfl|rfl;simp at hx;omega;simp at hx;omega;simp at hx
 have HOP:=AO hOp;have NI:=AO hcW;have HT1:=AO ht1;clear hOp hcW;go_wp2
 go_loopw [9,10,11,12,13,26] (λs9 _ _ _ _ s26 wr=>∃(i:Nat) (g1:NG) (ib sg:List Nat) (Ls:List (List Nat)),i<=n/\s26=.int .i64 i/\s9=.string (Gh noS ((BD ds).take i))/\Gv true noS ((BD ds).take i)=0/\
  lC wr ⟨t1+1,t1,g1,ib,sg,Ls⟩ (Ha 0 ((BD ds).take i)) (Uh ((BD ds).take i)) BK stop/\(∀x∈(RZ.mk (t1+1) t1 g1 ib sg Ls).parts.flatten,w.heap.size<=x)/\AZ [] w wr) (λ_ _ _ _ _ s26 _=>n - (intOf s26).toNat)
 case atStart=>exact⟨0,[],[],[],[],DW _,rfl,rfl,rfl,HOP.out,by have:=HT1.out;simp[RZ.parts,EZ];omega,NI.out⟩
 obtain⟨i,g1,ib,sg,Ls,hin,rfl,rfl,hpre,hop,hnew,hch⟩:=hrel;have ZG:=AO hpre;have ZH:=AO hop;have UI:=AO hnew;have DJ:=AO hch;clear hpre hop hnew hch HOP NI;by_cases hlt:i<n
 ·(have hlt':(i:Int)<n:=by omega);obtain⟨d,hd⟩: ∃d,ds[i]? =AA d:=⟨_,Bo (by have:=HD.out.row.KF;simp[D9] at this;omega)⟩;obtain⟨⟨ES,dA,dn,dc⟩,IJ⟩:=d;(have hdv:(BD ds)[i]? =AA (ES,Ai IJ):=by unfold BD;rw[Ba,hd];rfl);obtain⟨ad,rfl,hat⟩:=(HD.out.Es DJ.out).row.ns (j:=i) (x:=⟨ES,dA,dn,dc⟩) (by unfold D9;rw[Ba,hd];rfl);have x0:=hat.c0;have x1:=hat.c1;have Ws:=AO hdv;have HDM:=AO (Bi hd);clear hd hdv hat;obtain⟨dv,AGu⟩: ∃dv,wr.heap.size=dv:=⟨_,rfl⟩;obtain⟨W1,hW1⟩: ∃W1,wr.alloc (.cells #[.string ES,.slice dA dn dc] 77)=W1:=⟨_,rfl⟩;(have hv1:Bv W1 dv 77 #[.string ES,.slice dA dn dc]:=by rw[<- hW1,<- AGu];exact Bv.new wr _ _);(have hc1:AZ [] wr W1:=by rw[<- hW1];exact (AZ.refl [] wr).alloc _);have v0:=hv1.cell 0;have v1:=hv1.cell 1;simp only[FV] at v0 v1;have HV1:=AO hv1;have CZ:=AO hc1;have APM:=AO AGu;clear hv1 hc1;(go_wp2_with fail);(have hb0:(((i:Int))==0)=(i==0):=by cases i<;>rfl);rw[hb0];refine (dI (i==0) (Gh noS ((BD ds).take i)) ES W1).mono ?_;rintro e w2 ⟨rfl,rfl⟩;obtain⟨E,hE⟩: ∃E,Ic (i==0) (Gh noS ((BD ds).take i)) ES=E:=⟨_,rfl⟩;rw[hE];have HEE:=AO hE;clear hE hb0;by_cases hE0:E=0
  ·subst hE0;have ASP:Hid (ES∉((BD ds).take i).map Ac):=AO (ALD Ws.out ZG.out HEE.out);have AGv:=AO (ZH.out.Cc CZ.out);have b0:=AGv.out.blk.cell 0;simp only[FV] at b0;obtain⟨fb,hfb⟩: ∃fb,w2.heap.size=fb:=⟨_,rfl⟩;have AUY:=AO hfb;have hcA:AZ [] w2 ((w2.alloc (.map #[] 0)).drew):=((AZ.refl [] w2).alloc _).drew;obtain⟨W3,hu,ACi,hc3⟩:=Mp.update (AGv.out.Ff.top.Ap hcA BH) (Cm Kv) Iy ES (.map (AA fb))
   have hmf:Mp W3 fb IV []:=by
    (have h1:Mp ((w2.alloc (.map #[] 0)).drew) fb IV []:=by rw[<- hfb];exact (Mp.made w2 IV).Ap ((AZ.refl [] _).drew) BH);refine h1.Ap hc3 ?_;have h2:=AGv.out.Ff.top.lt;simp only at h2;simp;omega
   have Gg:Hid (AZ [t1] w2 W3):=AO ((hcA.nil [t1]).trans hc3 (λx hx=>.inl hx));have HTD:Hid (BJ (Ha 0 ((BD ds).take i)) ES=AB):=AO (Ey.2 (by rw[xM];exact ASP.out));have APN:=AO (AGv.out.dir HTD.out Gg.out ACi hmf Aa)
   have AC4:Hid (dv≠t1/\w.heap.size<=dv/\w.heap.size<=fb/\t1<dv):=AO (by
    have h1:=APM.out;have h2:=DJ.out.size;have h3:=ZH.out.Ff.top.lt;have h4:=CZ.out.size;simp only at h3
    refine⟨Aa,Aa,Aa,Aa⟩)
   have hS7:=hc3;clear ACi hmf hc3;go_wp2;refine Ew (S:=λw'=>AZ [t1] w2 w') Az ((AZ.refl _ _).drew) (λhHeld=>?_);refine tk 0 ?_;refine tk 1 ?_;refine tk 2 ?_;refine F9 3 (λw' hSw=>hSw.cell b0 AV) ?_;refine tk 4 ?_;refine F9 5 (λw' hSw=>hSw.cell v0 (λh=>AC4.out.1 (by simpa using h))) ?_;refine EM 6 λK hK=>?_;go_simp;refine hK.out _ _ (hHeld.alloc _) (λhHeld=>?_);(try simp only[BG,Bg]);clear hK K;refine EM 7 λK hK=>?_;go_simp;refine hK.out _ _ (hHeld.trans hS7 (λx hx=>.inl hx)) (λhHeld=>?_);(try simp only[BG,Bg]);clear hK K;refine Ej Az ?_ _;(try simp only[BG,Bg]);have HV3:=AO (HV1.out.Ap Gg.out (by simpa using AC4.out.1));have u1:=HV3.out.cell 1;simp only[FV] at u1;have hFR:=HD.out.ET _ HDM.out;have uo:=AO hFR;have hml:IJ.length=dn:=by have:=hFR.row.KF;simpa[Dq] using this
   have hmb:dn<=1073741824:=by
    have h1:=(Zz (Bi Ws.out)).1;have h2:=HB.out;simp only[Ai,DY] at h1;omega
   have HML:=AO hml;have AVl:Hid (wr.heap.size<=W3.heap.size):=AO (Cj CZ.out.size Gg.out.size)
   have ALQ:Hid (∀x∈(RZ.mk (t1+1) t1 (Dp g1 ES (fb,[])) ib sg Ls).parts.flatten,w.heap.size<=x):=AO (λx hx=>by
    simp only[RZ.parts,Js,Bj] at hx;rcases hx with h|h|h;exact UI.out x (by simp only[RZ.parts,Js,Bj];exact .inl h)
    ·rcases OA (B:=w.heap.size) ZH.out.Ff.nodup (.inr AC4.out.2.2.1) x h with h|h;exact UI.out x (by simp only[RZ.parts,Js,Bj];exact .inr (.inl h));exact h
    exact UI.out x (by simp only[RZ.parts,Js,Bj];exact .inr (.inr h)))
   have APO:Hid (AZ [] w W3):=AO ((DJ.out.Ah CZ.out).trans Gg.out (λx hx=>by simp only[CB] at hx;subst hx;right;have:=HT1.out;omega));clear hHeld b0 hu hfb hS7 hcA hFR hml x0 x1 v0 v1;go_wp2
   go_loopw [13,14,15,16,52] (λs13 _ _ _ s52 wr=>∃(k:Nat) (g1:NG) (ib sg:List Nat) (Ls:List (List Nat)),k<=dn/\s52=.int .i64 k/\s13=.string (Gh noS ((Ai IJ).take k))/\Eh true noS ((Ai IJ).take k)=0/\
    lC wr ⟨t1+1,t1,g1,ib,sg,Ls⟩ (Ha 0 ((BD ds).take i)++[(ES,KU (0+Hu ((BD ds).take i)) ((Ai IJ).take k))]) (Uh ((BD ds).take i)++((Ai IJ).take k).map λx=>(x.2,[])) BK stop/\
    Bv wr dv 77 #[.string ES,.slice dA dn dc]/\(∀x∈(RZ.mk (t1+1) t1 g1 ib sg Ls).parts.flatten,w.heap.size<=x)/\AZ [] w wr/\dv∉EZ t1 g1) (λ_ _ _ _ s52 _=>dn - (intOf s52).toNat)
   case atStart=>exact⟨0,_,_,_,_,DW _,rfl,rfl,rfl,by simpa[KU] using APN.out,HV3.out,ALQ.out,APO.out,by
    intro hm;rcases BF.1 hm with h|h;exact AC4.out.1 h;obtain⟨p,hp,e⟩:=CG.1 h;have h3:=APM.out;rcases (J7 ZH.out.Ff.nodup).1 hp with rfl|⟨hp,_⟩;have h1:=AUY.out;have h2:=HV1.out.lt;simp only at e;omega;have h1:p.2.1<wr.heap.size:=(ZH.out.Ff.sub p hp).lt
    omega⟩
   obtain⟨k,g2,ib2,sg2,Ls2,hkm,rfl,rfl,qy,ABr,hvb,KE,Xw,APP⟩:=hrel;have Xx:=AO qy;have dV:=AO ABr;have HVB:=AO hvb;have Z4:=AO KE;have Qd:=AO Xw;have ALR:=AO APP;clear qy ABr hvb KE Xw APP APN HV3 ALQ APO;by_cases hkl:k<dn
   ·(have hkl':(k:Int)<dn:=by omega);obtain⟨x,hx⟩: ∃x,IJ[k]? =AA x:=⟨_,Bo (by have:=HML.out;omega)⟩;(have hxv:(Ai IJ)[k]? =AA (x.1.nm,x.2):=by unfold Ai;rw[Ba,hx];rfl);have ALS:=uo.out.Es Qd.out;obtain⟨bd,hbd,hat⟩:=ALS.row.ns (j:=k) (x:=x.1) (by unfold Dq;rw[Ba,hx];rfl);subst hbd;have z0:=hat.c0;have z1:=hat.c1;have HXD:=AO (ALS.dat x (Bi hx));have HXV:=AO hxv
    have HXN:Hid (x.1.n<=1073741824):=AO (by
     have h1:=(Zz (Bi Ws.out)).2 (x.1.nm,x.2) (Bi hxv);have h2:=HB.out;have h3:=HXD.out.1;simp only[DY,OI] at h3;simp only at h1
     omega)
    have AUZ:Hid (∃e,BJ g2 ES=AA e):=AO (by
     obtain⟨e,he,_⟩:=dV.out.Lt.get (k:=ES) (F:=KU (0+Hu ((BD ds).take i)) ((Ai IJ).take k)) (by rw[Ns HTD.out,BU rfl])
     exact⟨e,he⟩)
    obtain⟨⟨f2,fl2⟩,he⟩:=AUZ.out;have HE2:=AO he;clear hx hxv ALS hat he;obtain⟨fv,AC5⟩: ∃fv,wr.heap.size=fv:=⟨_,rfl⟩;obtain⟨W4,hW4⟩: ∃W4,wr.alloc (.cells #[.string x.1.nm,.slice x.1.A x.1.n x.1.c] 64)=W4:=⟨_,rfl⟩;(have hv4:Bv W4 fv 64 #[.string x.1.nm,.slice x.1.A x.1.n x.1.c]:=by rw[<- hW4,<- AC5];exact Bv.new wr _ _);(have hc4:AZ [] wr W4:=by rw[<- hW4];exact (AZ.refl [] wr).alloc _);have v0:=hv4.cell 0;have v1:=hv4.cell 1;have d0:=(HVB.out.Ap hc4 BH).cell 0;have b0:=(dV.out.Cc hc4).blk.cell 0;simp only[FV] at v0 v1 d0 b0;have OC:=AO hc4;have HV4:=AO hv4;have AGw:=AO AC5;clear hv4 hc4;(go_wp2_with fail);(have hb0:(((k:Int))==0)=(k==0):=by cases k<;>rfl);rw[hb0];refine (dI (k==0) (Gh noS ((Ai IJ).take k)) x.1.nm W4).mono ?_;rintro e w4 ⟨rfl,rfl⟩;obtain⟨E,hE⟩: ∃E,Ic (k==0) (Gh noS ((Ai IJ).take k)) x.1.nm=E:=⟨_,rfl⟩;rw[hE];have HEX:=AO hE;clear hE hb0;by_cases hE0:E=0
    ·subst hE0;have ALT:=AO (dV.out.Cc OC.out);have HFM:=AO (CQ HE2.out)
     have uq:Hid (f2≠t1/\t1+1≠f2/\dv≠f2/\fv≠f2/\w.heap.size<=f2):=AO (by
      have hm:=JW (tb:=t1) HFM.out;refine⟨dV.out.Ff.Lp HFM.out,λe=>?_,λe=>ALR.out (by rw[e];exact hm),λe=>?_,Z4.out f2 (by simp only[RZ.parts,Js,Bj];exact .inr (.inl hm))⟩;exact dV.out.lay.ne (i:=0) (j:=1) (P:=[t1+1]) (Q:=EZ t1 g2) rfl rfl Aq (t1+1) AV (by rw[e];exact hm);have h1:=(dV.out.Ff.sub _ HFM.out).lt;have h2:=AGw.out;simp only at h1
      omega)
     have AUa:Hid (BJ (FI g2) ES=AA (.map (AA f2))):=AO (by rw[Ez,HE2.out];rfl);go_wp2;refine Ew (S:=λw'=>AZ [f2] w4 w') Az ((AZ.refl _ _).drew) (λhHeld=>?_);refine tk 0 ?_;refine tk 1 ?_;refine tk 2 ?_;refine F9 3 (λw' hSw=>hSw.cell b0 (by simpa using uq.out.2.1)) ?_;refine tk 4 ?_;refine F9 5 (λw' hSw=>hSw.cell d0 (by simpa using uq.out.2.2.1)) ?_;refine wpAnyH_take (i:=6) (v:=?_) rfl Az Az Az (λ_ _ _ h=>h) (Or.inl ⟨by rfl,?_⟩) (by assumption) ?_;rotate_left
     ·(intro w' hSw;have y:=(Mp.lookup (ALT.out.Ff.top.Ap hSw (by simpa using uq.out.1.symm)) (Cm Kv) Iy (z:=.map AB) Az ES).1;rw[AUa.out] at y;simp only[Dx] at y;go_simp;try with_reducible rfl)
     (try simp only[BG,Bg]);refine tk 7 ?_;refine tk 8 ?_;refine F9 9 (λw' hSw=>hSw.cell v1 (by simpa using uq.out.2.2.2.1)) ?_;refine EM 10 λK hK=>?_;go_simp;refine (new_any x.1.A x.1.n x.1.c x.2 _ HXN.out ((HXD.out.Ap OC.out GM).Ap ((AZ.refl [] _).drew) GM)).mono ?_;rintro ee w5 ⟨sg0,L0,rfl,hs5,hc5,hL5⟩;have TE:Hid (AZ [] w4 w5):=AO ((AZ.refl [] w4).drew.Ah hc5);have HS5:=AO hs5;have HL5:Hid (∀k∈L0,w4.heap.size<=k):=AO hL5;have HBX:Hid (Bv (w5.alloc (.cells #[.pointer (AA ⟨sg0,0,AB⟩)] 126)) w5.heap.size 126 #[.pointer (AA ⟨sg0,0,AB⟩)]):=AO (Bv.new w5 _ _);obtain⟨W6,hu,APQ,hc6⟩:=Mp.update ((ALT.out.Ff.sub _ HFM.out).Ap (TE.out.Ah ((AZ.refl [] w5).alloc (.cells #[.pointer (AA ⟨sg0,0,AB⟩)] 126))) BH) (Cm Kv) PO x.1.nm (.pointer (AA ⟨w5.heap.size,0,AB⟩));simp only at hu;have HM6:=AO APQ;have JF:Hid (AZ [f2] (w5.alloc (.cells #[.pointer (AA ⟨sg0,0,AB⟩)] 126)) W6):=AO hc6;have hH5:=hHeld.Ah hc5;have hS6:=JF.out;clear hs5 hL5 APQ hc6;refine hK.out _ _ (hH5) (λhHeld=>?_);(try simp only[BG,Bg]);clear hK K;refine tk 11 ?_;refine EM 12 λK hK=>?_;go_simp;refine hK.out _ _ (hHeld.alloc _) (λhHeld=>?_);(try simp only[BG,Bg]);clear hK K;refine EM 13 λK hK=>?_;go_simp;refine hK.out _ _ (hHeld.trans hS6 (λx hx=>.inl hx)) (λhHeld=>?_);(try simp only[BG,Bg]);clear hK K;refine Ej Az ?_ _;(try simp only[BG,Bg]);have HAN:Hid (BJ (KU (0+Hu ((BD ds).take i)) ((Ai IJ).take k)) x.1.nm=AB):=AO (Ey.2 (by rw[iD];exact AIB HXV.out Xx.out HEX.out));have HLEN:Hid ((Uh ((BD ds).take i)++((Ai IJ).take k).map λx=>((x.2,[]):FY)).length=0+Hu ((BD ds).take i)+((Ai IJ).take k).length):=AO (by rw[IA,DY,VE];omega)
     have HF6:=AO (ALT.out.file HTD.out HAN.out (λp hp q hq=>by
      rw[HLEN.out];rcases Bj.1 hp with hp|hp;have:=YY p hp q hq;omega;simp only[CB] at hp;subst hp
      exact xN q hq) HE2.out TE.out HL5.out HS5.out ((AZ.refl [] w5).alloc _) (Bd _) HBX.out JF.out HM6.out)
     have APR:Hid (AZ [f2] w4 W6):=AO (((TE.out.Ah ((AZ.refl [] w5).alloc _)).nil [f2]).trans JF.out (λx hx=>.inl hx));have HV6:=AO ((HVB.out.Ap OC.out BH).Ap APR.out (by simpa using uq.out.2.2.1));clear hHeld hS6 hc5 hu hH5 b0 d0 v0 v1 z0 z1;go_wp2;go_roundw
     case rel=>
      have hsz:w.heap.size<=w4.heap.size:=Cj Qd.out.size OC.out.size;have hsz5:=TE.out.size;refine⟨k+1,Dp g2 ES (f2,Dp fl2 x.1.nm w5.heap.size),ib2++[w5.heap.size],sg2++[sg0],Ls2++[L0],Aa,by go_num,by rw[take_snoc _ _ _ HXV.out,Xt],V3 HXV.out Xx.out HEX.out,?_,HV6.out,?_,(Qd.out.Ah OC.out).trans APR.out (λx hx=>by simp only[CB] at hx;subst hx;exact .inr uq.out.2.2.2.2),?_⟩;rotate_left
      ·intro y hy;simp only[RZ.parts,Js,lM,mX,Ii,Bj] at hy;have hN:=Z4.out;simp only[RZ.parts,Js,Bj] at hN;rcases hy with h|h|h|h|h;exact hN y (.inl h)
       ·rcases OA (B:=w.heap.size) dV.out.Ff.nodup (.inr uq.out.2.2.2.2) y h with h|h;exact hN y (.inr (.inl h));exact h
       ·rcases h with h|h;exact hN y (.inr (.inr (.inl h)));simp only[CB] at h;omega
       exact hN y (.inr (.inr (.inr h)));have:=HL5.out y h;omega
      ·intro hm;rcases BF.1 hm with h|h;exact AC4.out.1 h;obtain⟨p,hp,e⟩:=CG.1 h;rcases (J7 dV.out.Ff.nodup).1 hp with rfl|⟨hp,_⟩;exact uq.out.2.2.1 e.symm;exact ALR.out (by rw[<- e];exact JW hp)
      have hf:=HF6.out;rw[HLEN.out] at hf;rw[take_snoc _ _ _ HXV.out,AFR,FK,<- KJ];exact hf
     simp[intOf];omega
    have hne:(E !=0)=true:=by simp[hE0]
    have HFE:Hid (Eh true noS (Ai IJ)=E):=AO (by
     rw[Zv HXV.out Xx.out];unfold Eh
     rw[HEX.out,BU hE0])
    have HDE:Hid (Eo (BD ds) BK=E):=AO (by
     rw[HE.out,VG Ws.out ZG.out];unfold Gv
     rw[HEE.out,BL AV,HFE.out,BU hE0])
    have rC:=AO hE0;clear hE0;go_wp2
    go_ret2
    exact .inl ⟨by rw[HDE.out];exact rC.out,by rw[HDE.out];rfl,Qd.out.Ah OC.out⟩
   (obtain rfl:k=dn:=by omega);have LQ:Hid ((Ai IJ).take k=Ai IJ):=AO (Ea (by unfold Ai;rw[DY,HML.out];exact Bd _));clear u1;go_wp2;go_roundw
   case rel=>
    have hf:=Xx.out;rw[LQ.out] at hf;have ho:=dV.out;rw[LQ.out] at ho;refine⟨i+1,g2,ib2,sg2,Ls2,Aa,by go_num,by rw[take_snoc _ _ _ Ws.out,Xt],jk Ws.out ZG.out HEE.out hf,?_,Z4.out,Qd.out⟩;rw[take_snoc _ _ _ Ws.out,AFS,AH8];exact ho
   simp[intOf];omega
  have hne:(E !=0)=true:=by simp[hE0]
  have HDE:Hid (Eo (BD ds) BK=E):=AO (by
   rw[HE.out,VG Ws.out ZG.out];unfold Gv
   rw[HEE.out,BU hE0])
  have rC:=AO hE0;clear hE0;go_wp2
  go_ret2
  exact .inl ⟨by rw[HDE.out];exact rC.out,by rw[HDE.out];rfl,DJ.out.Ah CZ.out⟩
 (obtain rfl:i=n:=by omega);(have hlen:(BD ds).length=i:=by have:=HD.out.row.KF;simpa[D9,BD] using this);have HTK:Hid ((BD ds).take i=BD ds):=AO (Ea Aa);have AUb:Hid (Eo (BD ds) BK=0):=AO (by rw[HE.out,<- HTK.out];exact ZG.out);have b0:=ZH.out.blk.cell 0;simp only[FV] at b0;clear hmm hlen;(go_wp2_with fail);refine (Xp wr t1 g1 ZH.out.Ff).mono ?_;rintro e w2 ⟨ob,g',rfl,htr,hnw,hc2,hcp⟩;have AGx:=AO (ZH.out.Cc hc2);have c1:=AGx.out.blk.cell 1;have f1:=AGx.out.blk.frozen 1;have TZ:=AO (AGx.out.blk.FH 1 (.map (AA ob)));simp only[FV] at c1;have ku:=AO htr;have NH:=AO hnw;have HC2:=AO hc2;have iC:=AO hcp;clear htr hnw hc2 hcp b0;go_wp2
 go_ret2
 refine .inr ⟨AUb.out,⟨t1+1,t1,ob,g1,g',AB,0,[],AB,0,ib,ib,sg,Ls⟩,rfl,?_,?_,?_⟩
 ·have VD:AZ [t1+1] w2 (w2.setCell ⟨t1+1,1,AB⟩ (.map (AA ob))):=(AZ.refl [t1+1] w2).setCell (.inl AV) _;generalize w2.setCell ⟨t1+1,1,AB⟩ (.map (AA ob))=W9 at VD TZ⊢;have hop:=AGx.out;rw[HTK.out] at hop;have hL: ∀x∈[t1+1],x∈[t1+1]:=λx hx=>hx;have hk:=λ(i:Nat) (P:List Nat) (hi:(RZ.mk (t1+1) t1 g1 ib sg Ls).parts[i]? =AA P) (hn:i≠0)=>hop.lay.qj (j:=0) rfl hL hi hn
  have AUc: ∀x∈EZ ob g',x∉[t1+1]:=λx hx hm=>by
   simp only[CB] at hm;subst hm;have h1:=NH.out _ hx;have h2:=ZH.out.blk.lt;simp only at h2;omega
  refine⟨by simpa[Gw] using TZ.out,hop.Ff.keep VD (hk 1 _ rfl Aq),hop.Lt,ku.out.keep VD AUc,hop.Lt.copied iC.out,Own.nil _ _ _,λi c v e1=>by simp[Gw] at e1,Own.nil _ _ _,hop.Qo,hop.Yv,hop.Yw,hop.Zt,λ_ h=>h,λi x g L f e1 e2 e3 e4=>(hop.ino i x g L f e1 e2 e3 e4).keep VD (hk 2 _ rfl Aq x (Bi e1)) (hk (i+3) L (by simpa[RZ.parts] using e3) Aa),?_⟩;have l1:Lay W9 (([t1+1]::EZ t1 g1::[])++EZ ob g'::(ib::Ls)):=Lay.ins (w:=wr) (Ps:=[t1+1]::EZ t1 g1::[]) (Qs:=ib::Ls) ZH.out.lay (λx hx=>NH.out x hx) (λx hx=>Em (ku.out.lt x hx) VD.size) (Cj HC2.out.size VD.size);have l2:Lay W9 (([t1+1]::EZ t1 g1::EZ ob g'::[])++[]::(ib::Ls)):=Lay.ins (w:=W9) (Ps:=[t1+1]::EZ t1 g1::EZ ob g'::[]) (Qs:=ib::Ls) l1 AV AV (Bd _);exact Lay.ins (w:=W9) (P:=[]) (Ps:=[t1+1]::EZ t1 g1::EZ ob g'::[]::[]) (Qs:=ib::Ls) l2 AV AV (Bd _)
 ·intro x hx;have hN:=UI.out;simp only[RZ.parts,Js,Bj] at hN;simp only[Bh.all,Bh.parts,Js,Bj,AKw,BH,false_or] at hx;rcases hx with h|h|h|h|h;exact hN x (.inl h);exact hN x (.inr (.inl h));exact Cj DJ.out.size (NH.out x h);exact hN x (.inr (.inr (.inl h)));exact hN x (.inr (.inr (.inr h)))
 exact (DJ.out.Ah HC2.out).setCell (.inr (by have:=HT1.out;simp only;omega)) _
theorem Inv.make{B:Nat}{S:St}(h:Inv B S){c:EN}(hc:c.ok S.files.length S.seen):Inv (B+1) (S.make c):=by
 obtain⟨h1,h2,h3,h4,h5,h6,h7,h8,h9,h10⟩:=h;refine⟨h1,?_,?_,h4,?_,?_,?_,?_,?_,h10⟩;exact AHz.2 ⟨h2,by show EN.ok S.files.length (IL S.safe S.EW) c;rw[h3];exact hc⟩
 ·show IL S.safe (S.EW++[c])=c.on S.seen;rw[S9,h3]
 all_goals (simp only[St.make,IA,EY,Hg];omega)
theorem Inv.step{B:Nat}{S:St}(h:Inv B S):Inv (B+1) {S with steps:=S.steps+1}:=by
 obtain⟨h1,h2,h3,h4,h5,h6,h7,h8,h9,h10⟩:=h;exact⟨h1,h2,h3,h4,by simp only;omega,by simp only;omega,by simp only;omega,by simp only;omega,by simp only;omega,h10⟩
theorem Inv.Cb{B:Nat}{S:St}(h:Inv B S)(d:ByteArray):Inv (B+1) (S.Cb d).1:=by
 unfold St.Cb;by_cases h0:S.ask false [d]=0
 ·rw[BL (by simp[h0])];by_cases h1:(BJ S.seen d).isSome=true;rw[BU h1];exact h.mono Aa;rw[BL h1];refine h.make ⟨(Ht h0).2.1 d AV,?_⟩
  cases hg:BJ S.seen d with|none=>rfl|some F=>rw[hg] at h1;simp at h1
 rw[BU h0];exact h.mono Aa
theorem Inv.create{B:Nat}{S:St}(h:Inv B S)(d n:ByteArray):Inv (B+2) (S.create d n).1:=by
 unfold St.create;by_cases h0:S.ask true [d,n]=0
 ·rw[BL (by simp[h0])];by_cases h1:(BJ (FQ S.seen d) n).isSome=true;rw[BU h1];exact h.mono Aa;rw[BL h1];obtain⟨F,hF⟩:=(Ht h0).2.2 rfl;simp only[Rj] at hF
  have:=(h.dN []).make (c:=.create d n S.files.length) ⟨AV,(Ht h0).2.1 n AV,F,hF,by
   rw[FT hF] at h1
   cases hg:BJ F n with|none=>rfl|some i=>rw[hg] at h1;simp at h1⟩
  exact this.mono AV
 rw[BU h0];exact h.mono Aa
theorem dX(fs:List FY)(x:Nat)(φ:FY->FY)(k:Nat)(hφ: ∀f,(φ f).all.length+(φ f).2.length<=f.all.length+f.2.length+k):Ie (fs.modify x φ)<=Ie fs+k:=by
 unfold Ie
 induction fs generalizing x with
 |nil=>simp|cons f r ih=>
  cases x with|zero=>simp only[List.modify_zero_cons,BN,Bz];have:=hφ f;omega|succ x=>simp only[List.modify_succ_cons,BN,Bz];have:=ih x;omega
theorem Inv.modify{B k:Nat}{S:St}(h:Inv B S)(x:Nat)(φ:FY->FY)(wr':List Nat)(hφ: ∀f,(φ f).all.length+(φ f).2.length<=f.all.length+f.2.length+k)(hw: ∀y∈wr',y<S.files.length)(hl:wr'.length<=S.wr.length+1):Inv (B+k+1) {S with files:=S.files.modify x φ,wr:=wr',steps:=S.steps+1}:=by
 obtain⟨h1,h2,h3,h4,h5,h6,h7,h8,h9,h10⟩:=h;have hb:=dX S.files x φ k hφ;refine⟨by simpa using h1,by simpa using h2,h3,by simpa using hw,by simp only;omega,by simp only[List.length_modify];omega,by simp only;omega,by simp only;omega,by simp only;omega,h10⟩
theorem Inv.write{B:Nat}{S:St}(h:Inv B S)(d n:ByteArray)(xs:List Int):Inv (B+xs.length+2) (S.write d n xs).1:=by
 unfold St.write
 cases hf:S.Om d n with
 |mk o e=>
  cases o with
  |none=>exact h.mono Aa|some x=>
   simp only;by_cases hx:xs=[];rw[BU hx];exact h.step.mono Aa;rw[BL hx];by_cases hq:S.BK<(S.used:Int)+xs.length;rw[BU hq];exact h.mono Aa;rw[BL hq]
   have:=h.modify (k:=xs.length+1) x (λf=>(f.1,f.2++[xs])) (S.wr++[x]) (λf=>by simp[FY.all];omega) (λy hy=>by
    rcases Bj.1 hy with hy|hy;exact h.wr y hy
    simp only[CB] at hy;subst hy;exact lu h hf) AV
   exact this.mono Aa
theorem Inv.sync{B:Nat}{S:St}(h:Inv B S)(d n:ByteArray):Inv (B+1) (S.sync d n).1:=by
 unfold St.sync
 cases hf:S.Om d n with
 |mk o e=>
  cases o with
  |none=>exact h.mono Aa|some x=>
   exact h.modify (k:=0) x (λf=>(FY.all f,[])) (S.wr.filter (λy=>y !=x)) (λf=>by simp[FY.all]) (λy hy=>h.wr y (XE.1 hy).1) (Cj (aY _ _) Aa)
theorem Inv.names{B:Nat}{S:St}(h:Inv B S):Inv (B+1) S.names.1:=by
 unfold St.names;by_cases hd:S.down=true;rw[BU hd];exact h.mono Aa;rw[BL hd];have hv:=h.val;have hw:=h.wd;obtain⟨h1,h2,h3,h4,h5,h6,h7,h8,h9,h10⟩:=h;exact⟨hv,Ar,rfl,h4,by simp only[Hg];omega,by simp only;omega,by simp only;omega,by simp only;omega,by simp only;omega,h10⟩
theorem Inv.rename{B:Nat}{S:St}(h:Inv B S)(a b:ByteArray):Inv (B+1) (S.rename a b).1:=by
 unfold St.rename;by_cases h0:S.ask true [a,b]=0
 ·rw[BL (by simp[h0])];obtain⟨F,hF⟩:=(Ht h0).2.2 rfl;simp only[Rj] at hF;exact h.make ⟨(Ht h0).2.1 b AV,F,hF⟩
 rw[BU h0];exact h.mono Aa
theorem Inv.remove{B:Nat}{S:St}(h:Inv B S)(d n:ByteArray):Inv (B+1) (S.remove d n).1:=by
 unfold St.remove
 cases hf:S.Om d n with
 |mk o e=>
  cases o with
  |none=>exact h.mono Aa|some x=>
   obtain⟨_,_,F,hF,_⟩:=VC hf;exact h.make ⟨F,hF⟩
theorem Inv.rmdir{B:Nat}{S:St}(h:Inv B S)(d:ByteArray):Inv (B+1) (S.rmdir d).1:=by
 unfold St.rmdir;by_cases h0:S.ask true [d]=0
 ·rw[BL (by simp[h0])];obtain⟨F,hF⟩:=(Ht h0).2.2 rfl;simp only[Rj] at hF;by_cases h1:(FQ S.seen d).length>0;rw[BU h1];exact h.mono Aa;rw[BL h1];exact h.make ⟨F,hF⟩
 rw[BU h0];exact h.mono Aa
section
variable {w0 w:AL} {p:Nat} {S:St} {B:Nat}
end
open Go.ChangeShapes Go.WideShapes Go.Deep
section
variable {D:Eg}{q s:Int}{ds:List DM}{B a c n:Nat}{f g k:Nat->Nat}{A:Option Ag}{S:St}{α:Type}{w w1:AL}
theorem ZI{H:Type}(D:Nat->Dt H)(n:Nat)(Z:List α)(G:α->Nat)(hl:Z.length=n)(h: ∀(i:Nat) z,Z[i]? =AA z->G z<=Rows.uptoBulk (D i)):(Z.map G).sum<=Rows.uptoBulkAll ((Fp n).map D):=by
 have h1:=WU D n (λi=>(Z[i]?.map G).getD 0) (λi hil=>by
  have hz:Z[i]? =AA (Z[i]'Aa):=Bo Aa;rw[hz]
  exact h i _ hz)
 have h2:(Fp n).map (λi=>(Z[i]?.map G).getD 0)=Z.map G:=by
  apply OE;intro i;rw[Ba,Ba];by_cases hil:i<n
  ·rw[Bo (by simpa using hil),Bo Aa];(have AKx:i<Z.length:=by omega);simp[AKx]
  rw[H9 (by simp;omega),H9 Aa];rfl
 rwa[h2] at h1
theorem collect{Q:Nat->α->Prop}(n:Nat)(h: ∀i,i<n->∃z,Q i z): ∃Z:List α,Z.length=n/\∀(i:Nat) z,Z[i]? =AA z->Q i z:=by
 induction n with
 |zero=>exact⟨[],rfl,λi z h=>by simp at h⟩|succ k ih=>
  obtain⟨zs,h1,h2⟩:=ih (λi hi=>h i Aa);obtain⟨z,hz⟩:=h k Aa;refine⟨zs++[z],by simp[h1],λi y hy=>?_⟩;by_cases hik:i<k;rw[O6 Aa] at hy;exact h2 i y hy;rw[Ig Aa] at hy
  have h0:i=k:=by
   rcases XF k i with h3|h3;rw[H9 (by simp;omega)] at hy;cases hy;omega
  subst h0;rw[h1,NM] at hy;simp at hy;subst hy;exact hz
theorem AGy{W:AL}{a:Ag}{xs:List Iz}(hl:xs.length=n)(hn:n<=c)(hm:c<=ER)(h: ∀(i:Nat) x,xs[i]? =AA x->W.cell? (a.add (i*2))=AA (.string x.nm)/\W.cell? (a.add (i*2+1))=AA (.slice x.A x.n x.c)):Rd W 2 (AA a) n c (Hl xs):=by
 refine⟨by rw[jd,hl],hn,hm,(λe=>by cases e),λad e=>?_⟩;injection e with e;subst e;refine⟨λhp=>?_,λj u hu=>?_⟩
 ·obtain⟨x,hx⟩: ∃x,xs[0]? =AA x:=⟨_,Bo Aa⟩;have:=UT _ _ (h 0 x hx).1;rwa[add_block] at this
 have hj:=QZ xs (j/2) (j % 2) (ah _ Aq);rw[show j/2*2+j % 2=j by omega,hu] at hj
 cases hx:xs[j/2]? with
 |none=>rw[hx] at hj;simp at hj|some x=>
  rw[hx] at hj;simp only[Option.bind_some] at hj;have h2:=h _ x hx;rcases yZ j with e|e
  ·rw[e] at hj;have:=h2.1;rw[show j/2*2=j by omega] at this;rw[this];simpa[Iz.cells] using hj.symm
  rw[e] at hj;have:=h2.2;rw[show j/2*2+1=j by omega] at this;rw[this];simpa[Iz.cells] using hj.symm
theorem DK.trans{w w1 w2:AL}{G G1:Bh}{S2:St}(ha: ∀x∈G1.all,x∈G.all\/w.heap.size<=x)(hb:G1.b=G.b)(hc:AZ G.all w w1)(h:DK w1 G1 S2 w2):DK w G S2 w2:=by
 obtain⟨G',h1,h2,h3,h4⟩:=h;refine⟨G',h1,h2.trans hb,λx hx=>?_,hc.trans h4 ha⟩;rcases h3 x hx with h|h;exact ha x h;exact .inr (Cj hc.size h)
theorem DK.names{w w1:AL}{G:Bh}{S1:St}{B:Nat}(h:DK w G S1 w1)(hi:Inv B S1)(hB:B<=1073741824):
  Au Ae 50 #[.pointer (AA ⟨G.b,0,AB⟩)] w1 λe w'=>e=.returned (.int .i64 S1.names.2)/\DK w G S1.names.1 w':=by
 obtain⟨G',h1,h2,h3,h4⟩:=h;rw[<- h2];exact (xK h1 hi hB).mono λe w' ⟨a,b⟩=>⟨a,.trans h3 h2 h4 b⟩
theorem DK.before{w2:AL}{G:Bh}{S2:St}(hc:AZ [] w w1)(h:DK w1 G S2 w2):DK w G S2 w2:=by
 obtain⟨G',h1,h2,h3,h4⟩:=h;exact⟨G',h1,h2,λx hx=>(h3 x hx).imp id (λh=>Cj hc.size h),(hc.nil _).trans h4 (λx hx=>.inl hx)⟩
theorem DK.Ap{G:Bh}{S1:St}(h:DK w G S1 w1):AZ G.all w w1:=by obtain⟨_,_,_,_,h⟩:=h;exact h
theorem YZ(h:S.down=true)(t:Bool)(ns:List ByteArray):S.ask t ns=80:=by unfold St.ask;rw[BU h]
def Wf (f:Nat->Nat) (F:KH):Nat:=(F.map λq=>f q.2).sum
def Wt (f:Nat->Nat) (T:Tr):Nat:=(T.map λp=>Wf f p.2).sum
theorem xW(f:Nat->Nat)(n:ByteArray)(i:Nat)(F:KH):Wf f (Di n i F)=f i+Wf f F:=by
 unfold Wf;rw[((G8 n i F).map _).sum_nat,BN,Bz]
theorem Ya(f:Nat->Nat)(d:ByteArray)(F:KH)(T:Tr):Wt f (Di d F T)=Wf f F+Wt f T:=by
 unfold Wt;rw[((G8 d F T).map _).sum_nat,BN,Bz]
theorem AC6(f:Nat->Nat)(F:KH)(n:ByteArray):Wf f (without F n)<=Wf f F:=by
 unfold Wf without
 induction F with
 |nil=>simp|cons p r ih=>
  rw[XC];split;simp only[BN,Bz];omega;simp only[BN,Bz];omega
theorem Xy(f:Nat->Nat)(T:Tr)(d:ByteArray):Wt f (without T d)<=Wt f T:=by
 unfold Wt without
 induction T with
 |nil=>simp|cons p r ih=>
  rw[XC];split;simp only[BN,Bz];omega;simp only[BN,Bz];omega
theorem AAl(f:Nat->Nat)(T:Tr)(d:ByteArray):Wf f (FQ T d)+Wt f (without T d)<=Wt f T:=by
 induction T with
 |nil=>simp[FQ,BJ,Wt,Wf,without]|cons p r ih=>
  unfold FQ at ih⊢;rw[FX,Eb];by_cases h:p.1=d
  ·rw[BU h,BU h];have:=Xy f r d;simp only[Dx,Wt,BN,Bz] at this⊢;omega
  rw[BL h,BL h];simp only[Wt,BN,Bz] at ih⊢;omega
def EN.made (f:Nat->Nat):EN->Nat
 | .create _ _ i=>f i|_=>0
theorem AAm(f:Nat->Nat)(T:Tr)(c:EN):Wt f (c.on T)<=Wt f T+c.made f:=by
 cases c with
 |Cb d=>simp only[EN.on,Ya,EN.made];simp[Wf]|create d n i=>
  have:=AAl f T d;simp only[EN.on,Ya,xW,EN.made];omega
 |rename a b=>
  have h1:=AAl f T a;have h2:=Xy f (without T a) b;simp only[EN.on,Ya,EN.made];omega
 |remove d n=>
  have h1:=AAl f T d;have h2:=AC6 f (FQ T d) n;simp only[EN.on,Ya,EN.made];omega
 |rmdir d=>simp only[EN.on,EN.made];exact Xy f T d
theorem dY{T:Tr}(h: ∀p∈T,∀q∈p.2,f q.2=0):Wt f T=0:=by
 unfold Wt
 induction T with
 |nil=>rfl|cons p r ih=>
  simp only[BN,Bz];rw[ih (λp hp=>h p (DD _ hp))];have h1:=h p (Ee ..);unfold Wf;generalize p.2=F at h1
  induction F with
  |nil=>rfl|cons q r ih2=>
   simp only[BN,Bz];rw[h1 q (Ee ..)];have:=ih2 (λq hq=>h1 q (DD _ hq));omega
theorem ANF(h: ∀i,f i<=g i+a*k i)(F:KH):Wf f F<=Wf g F+a*Wf k F:=by
 unfold Wf
 induction F with
 |nil=>simp|cons q r ih=>
  simp only[BN,Bz,Nat.mul_add];have:=h q.2;omega
theorem ANG(h: ∀i,f i<=g i+a*k i)(T:Tr):Wt f T<=Wt g T+a*Wt k T:=by
 unfold Wt
 induction T with
 |nil=>simp|cons p r ih=>
  simp only[BN,Bz,Nat.mul_add];have:=ANF h p.2;omega
def Hy (i:Nat):Nat->Nat:=λj=>if j=i then 1 else 0
def rD (S:St):Nat->Nat:=λi=>(S.bytes i).length
def St.tot (S:St):Nat:=Wt (rD S) S.seen
theorem ALU(h:S.down=false):S.used=S.tot:=by
 unfold St.used St.view St.tot bytesOf Wt Wf rD;rw[BL (by simp[h]),En];congr 1;apply Hm;intro p _;simp[Function.comp_def]
theorem Z5(l:List α)(d:α)(i:Nat):(l++[d]).getD i d=l.getD i d:=by
 rw[Gj,Gj];by_cases h:i<l.length;rw[O6 h];rw[Ig Aa,H9 (l:=l) Aa]
 cases i - l.length with|zero=>rfl|succ k=>rfl
theorem getD_modify(l:List α)(x:Nat)(φ:α->α)(d:α)(i:Nat):(l.modify x φ).getD i d=if i=x/\x<l.length then φ (l.getD i d) else l.getD i d:=by
 rw[Gj,Gj,yX];by_cases h:x=i
 ·subst h;simp only[if_true,true_and];by_cases hx:x<l.length;rw[BU hx,Bo hx];rfl;rw[BL hx,H9 Aa];rfl
 rw[BL (λe=>h e.1.symm)];simp[h]
def dat (D:Eg):List (List Int):=D.flatMap λd=>d.2.map (·.2)
theorem AIF(g:Nat->List Int){l:List (ByteArray×List Int)}(h: ∀(k:Nat) x,l[k]? =AA x->g (n+k)=x.2):(KU n l).map (λq=>(q.1,g q.2))=l:=by
 induction l generalizing n with
 |nil=>rfl|cons x r ih=>
  simp only[KU,BN];rw[ih (n:=n+1) (λk y hy=>by have:=h (k+1) y (by simpa using hy);rw[<- this];congr 1;omega)];have:=h 0 x rfl;rw[Nat.add_zero] at this;rw[this]
theorem iI(g:Nat->List Int)(h: ∀(k:Nat) x,(dat D)[k]? =AA x->g (n+k)=x):(Ha n D).map (λp=>(p.1,p.2.map λq=>(q.1,g q.2)))=D:=by
 induction D generalizing n with
 |nil=>rfl|cons d r ih=>
  simp only[Ha,BN];have hd:dat (d::r)=d.2.map (·.2)++dat r:=rfl
  rw[ih (n:=n+d.2.length) (λk y hy=>by
    have:=h (d.2.length+k) y (by rw[hd,Ig AV];simpa using hy)
    rw[<- this];congr 1;omega),
   AIF g (n:=n) (l:=d.2) (λk x hx=>h k x.2 (by
    rw[hd,O6 (by simp;exact (CP.1 hx).1),Ba,hx];rfl))]
theorem AC7(D:Eg):Uh D=(dat D).map λx=>(x,[]):=by
 unfold Uh dat;rw[List.map_flatMap];congr 1;funext d;simp
theorem open_bytes{k:Nat}{x:List Int}(h:(dat D)[k]? =AA x):(Gw D q s).files.getD k ([],[])=(x,[]):=by
 show (Uh D).getD k ([],[])=_;rw[AC7,Gj,Ba,h];rfl
theorem AFU(D:Eg)(q s:Int):(Gw D q s).seen.map (λp=>(p.1,p.2.map λr=>(r.1,(Gw D q s).bytes r.2)))=D:=
 iI _ (λk x hx=>by
  unfold St.bytes;rw[Ky,open_bytes hx]
  simp[FY.all])
theorem AC8(out:List Int)(start:Nat)(ks:List Bool):PS out start [] ks=out:=by simp[PS]
theorem AFV(D:Eg)(q s:Int)(ks:List Bool)(names:Int):(Gw D q s).left ks names=D:=by
 unfold St.left;show (IL (Ha 0 D) (List.take _ [])).map _=D;rw[ai]
 exact iI _ (λk x hx=>by
  unfold St.after;simp only
  rw[Ky,open_bytes hx,AC8])
theorem range_one(i k:Nat): ∀n,((List.range' n k).map (Hy i)).sum<=1/\(i<n->((List.range' n k).map (Hy i)).sum=0):=by
 induction k with
 |zero=>intro n;simp
 |succ k ih=>
  intro n;rw[List.range'_succ,BN,Bz];obtain⟨h1,h2⟩:=ih (n+1);by_cases h:n=i
  ·have h4:=h2 Aa;(have h3:Hy i n=1:=by unfold Hy;rw[BU h]);rw[h3,h4];exact⟨Aa,λh5=>by omega⟩
  (have h3:Hy i n=0:=by unfold Hy;rw[BL h]);rw[h3];exact⟨Aa,λh4=>by have:=h2 Aa;omega⟩
theorem ANH(f:Nat->Nat)(n:Nat)(l:List (ByteArray×List Int)):Wf f (KU n l)=((List.range' n l.length).map f).sum:=by
 unfold Wf
 induction l generalizing n with|nil=>rfl|cons x r ih=>simp only[KU,BN,Bz,EY,List.range'_succ,ih]
theorem ANI(f:Nat->Nat)(n:Nat)(D:Eg):Wt f (Ha n D)=((List.range' n (Hu D)).map f).sum:=by
 unfold Wt
 induction D generalizing n with
 |nil=>rfl|cons d r ih=>
  simp only[Ha,BN,Bz,ih,ANH];(have:Hu (d::r)=d.2.length+Hu r:=by simp[Hu]);rw[this,<- List.range'_append_1,FK,YI]
theorem AAn(k:Int)(h:s<0):Ud s k=false:=by unfold Ud;rw[show decide (0<=s)=false from decide_eq_false Aa];rfl
theorem L8(h:S.stop<0):S.down=false:=AAn _ h
theorem Yb(hd:S.down=false){d:ByteArray}{ns:List ByteArray}(hg:(d::ns).all CO=true){F:KH}(hF:BJ S.seen d=AA F)(t:Bool):S.ask t (d::ns)=0:=by
 unfold St.ask;rw[BL (by simp[hd]),BL (by simp[hg]),BL];rw[Rj,hF];simp
theorem Xz(h:S.down=false):S.view=S.seen.map λp=>(p.1,p.2.map λq=>(q.1,S.bytes q.2)):=by unfold St.view;rw[BL (by simp[h])]
theorem dZ{i:Nat}(h:(S.files.getD i ([],[])).2=[])(ks:List Bool):S.after ks i=S.bytes i:=by
 unfold St.after St.bytes;simp only;unfold FY.all;rw[h,AC8];simp
theorem H7(a b:ByteArray):decide (a=b)=(a.toList==b.toList):=by
 rw[mi,decide_eq_true_eq,beq_iff_eq];refine⟨λh=>by rw[h],λh=>?_⟩;rw[Yt,Yt] at h;exact data_inj h
def Df (fs:List (ByteArray×List Int)):Nat:=(fs.map λq=>q.2.length).sum
theorem ZJ(D:Eg)(d:ByteArray×List (ByteArray×List Int)):bytesOf (D++[d])=bytesOf D+Df d.2:=by simp[bytesOf,Df]
theorem Rf(fs:List (ByteArray×List Int))(f:ByteArray×List Int):Df (fs++[f])=Df fs+f.2.length:=by simp[Df]
theorem Rh(l:List Nat)(i:Nat):(l.take i).sum<=l.sum:=by
 conv=>rhs;rw[<- YF i l,YI]
 omega
theorem Qr(fs:List (ByteArray×List Int))(i:Nat):Df (fs.take i)<=Df fs:=by
 unfold Df;rw[Jg];exact Rh _ _
theorem iJ(D:Eg)(i:Nat):bytesOf (D.take i)<=bytesOf D:=by
 unfold bytesOf;rw[Jg];exact Rh _ _
theorem AC9(A:Option Ag)(n c:Nat)(ds:List DM)(w:AL)(h:F6 w A n c ds)(hn:n<=1073741824)(hfn: ∀d∈ds,d.1.n<=1073741824)(hb:bytesOf (BD ds)<=1152921504606846976):
  Au Ae 29 #[.slice A n c] w λe w'=>e=.returned (.int .i64 (bytesOf (BD ds):Int))/\AZ [] w w':=by
 (have hl:ds.length=n:=by have:=h.row.KF;simpa[D9] using this);have HR:=AO h;have HL:=AO hl;have Yx:=AO hfn;have HB:=AO hb;clear h hl hfn hb;go_enter ANr,Tryz.ntmps29;go_wp2;go_loopw [3,4,5] (λs q _ wr=>∃i:Nat,i<=n/\q=.int .i64 i/\s=.int .i64 (bytesOf ((BD ds).take i):Nat)/\AZ [] w wr) (λ_ q _ _=>n - (intOf q).toNat)
 case atStart=>exact⟨0,DW _,rfl,rfl,AZ.refl _ _⟩
 obtain⟨i,hi,rfl,rfl,hch⟩:=hrel;have DJ:=AO hch;clear hch;obtain⟨S0,hS0⟩: ∃S0,bytesOf ((BD ds).take i)=S0:=⟨_,rfl⟩;rw[hS0];have HS0:=AO hS0;clear hS0;by_cases hlt:i<n
 ·(have hlt':(i:Int)<n:=by omega);obtain⟨d,hd⟩: ∃d,ds[i]? =AA d:=⟨_,Bo (by have:=HL.out;omega)⟩;obtain⟨ad,rfl,hat⟩:=(HR.out.Es DJ.out).row.ns (j:=i) (x:=d.1) (by unfold D9;rw[Ba,hd];rfl);have hfr:=HR.out.ET d (Bi hd);have Ws:Hid ((BD ds)[i]? =AA (d.1.nm,Ai d.2)):=AO (by unfold BD;rw[Ba,hd];rfl);have hdn:=Yx.out d (Bi hd);obtain⟨⟨ES,dA,dn,dc⟩,IJ⟩:=d;(have hfl:IJ.length=dn:=by have:=hfr.row.KF;simpa[Dq] using this);have uo:=AO hfr;have dR:=AO hfl
  have HXW:Hid (∀w',AZ [] w w'->w'.cell? ⟨(ad.add (i*2)).block,(ad.add (i*2)).off+1,AB⟩=AA (.slice dA dn dc)):=AO (by
   obtain⟨ad',ha',hat'⟩:=HR.out.row.ns (j:=i) (x:=⟨ES,dA,dn,dc⟩) (by unfold D9;rw[Ba,hd];rfl);injection ha' with ha';subst ha'
   exact λw' hc=>hc.cell hat'.c1 BH)
  have x1:=HXW.out _ DJ.out;simp only at hdn
  have AGn:Hid (S0+Df (Ai IJ)<=1152921504606846976):=AO (by
   have h1:=iJ (BD ds) (i+1);rw[take_snoc _ _ _ Ws.out,ZJ,HS0.out] at h1;have h2:=HB.out;simp only at h1
   omega)
  clear hd hat hfr hfl;go_wp2;go_loopw [3,5] (λs q wr=>∃k:Nat,k<=dn/\q=.int .i64 k/\s=.int .i64 ((S0+Df ((Ai IJ).take k):Nat):Int)/\AZ [] w wr) (λ_ q _=>dn - (intOf q).toNat)
  case atStart=>exact⟨0,DW _,rfl,by simp[Df],DJ.out⟩
  obtain⟨k,hk,rfl,rfl,hch⟩:=hrel;have HC2:=AO hch;obtain⟨S1,hS1⟩: ∃S1,S0+Df ((Ai IJ).take k)=S1:=⟨_,rfl⟩;rw[hS1];have HS1:=AO hS1;clear hS1 hch;have x1:wr.cell? ⟨(ad.add (i*2)).block,(ad.add (i*2)).off+1,AB⟩=AA (.slice dA dn dc):=HXW.out _ HC2.out;by_cases hkl:k<dn
  ·(have hkl':(k:Int)<dn:=by omega);obtain⟨f,hf⟩: ∃f,IJ[k]? =AA f:=⟨_,Bo (by have:=dR.out;omega)⟩;obtain⟨bd,hbd,hbt⟩:=(uo.out.Es HC2.out).row.ns (j:=k) (x:=f.1) (by unfold Dq;rw[Ba,hf];rfl);subst hbd;have z1:=hbt.c1;have HFV:Hid ((Ai IJ)[k]? =AA (f.1.nm,f.2)):=AO (by unfold Ai;rw[Ba,hf];rfl);have APS:Hid (f.2.length=f.1.n):=AO (by have:=((uo.out).dat f (Bi hf)).1;simp at this;omega)
   have hwr:wrap64 ((S1:Int)+(f.1.n:Nat))=((S1+f.1.n:Nat):Int):=by
    have h1:=Qr (Ai IJ) (k+1);rw[take_snoc _ _ _ HFV.out,Rf] at h1;have h2:=AGn.out;have h3:=HS1.out;have h4:=APS.out;simp only at h1;unfold wrap64;omega
   have HWR:=AO hwr;clear hwr hf hbt;go_wp2;go_roundw
   case rel=>
    refine⟨k+1,Aa,by go_num,?_,HC2.out⟩
    have e1:S0+Df ((Ai IJ).take (k+1))=S1+f.1.n:=by
     rw[take_snoc _ _ _ HFV.out,Rf,<- APS.out,<- HS1.out,SB]
    rw[e1];exact congrArg (Value.int .i64) HWR.out
   simp[intOf];omega
  (obtain rfl:k=dn:=by omega);go_wp2;go_roundw
  case rel=>
   refine⟨i+1,Aa,by go_num,?_,HC2.out⟩;rw[take_snoc _ _ _ Ws.out,ZJ,HS0.out,<- HS1.out,Ea (by unfold Ai;rw[DY,dR.out];exact Bd _)]
  simp[intOf];omega
 (obtain rfl:i=n:=by omega);go_wp2;go_ret;refine⟨?_,DJ.out⟩;rw[<- HS0.out,Ea (by unfold BD;rw[DY,HL.out];exact Bd _)];rfl
theorem Rd.ADA{xs:List Int}(h:Rd w 1 A n c (bv xs)):xs.length=n:=by have:=h.1;simpa using this
def siz (D:Eg):Nat:=(D.map λd=>d.2.length+1).sum
theorem ADB{d:ByteArray×List (ByteArray×List Int)}(h:d∈D):d.2.length+D.length<=siz D:=by
 unfold siz
 induction D with
 |nil=>simp at h|cons q r ih=>
  simp only[BN,Bz,EY]
  have hl:r.length<=(r.map λd=>d.2.length+1).sum:=by
   clear ih h
   induction r with|nil=>simp|cons z l ih=>simp only[EY,BN,Bz];omega
  rcases BF.1 h with rfl|h;omega;have:=ih h;omega
theorem ALV(D:Eg):D.length<=siz D:=by
 cases D with|nil=>simp|cons d r=>have:=ADB (D:=d::r) (Ee ..);omega
theorem F6.bnd(h:F6 w A n c ds)(hB:siz (BD ds)<=B):n<=B/\∀d∈ds,d.1.n<=B:=by
 (have h1:(BD ds).length=n:=by have:=h.row.KF;simpa[BD,D9] using this);refine⟨by have:=ALV (BD ds);omega,λd hd=>?_⟩;have h2:(d.1.nm,Ai d.2)∈BD ds:=CG.2 ⟨d,hd,rfl⟩;have h3:=ADB h2;(have h4:(Ai d.2).length=d.1.n:=by have:=(h.ET d hd).row.KF;simpa[Ai,Dq] using this);simp only at h3;omega
theorem Z7(h:F6 w A n c ds)(hB:E5 (BD ds)<=B):n<=B/\bytesOf (BD ds)<=B/\siz (BD ds)<=B/\∀x∈ds,x.1.n<=B/\∀f∈x.2,f.1.n<=B:=by
 have hs: ∀l:List (ByteArray×List Int),(l.map λx=>x.2.length+1).sum=(l.map λx=>x.2.length).sum+l.length:=by
  intro l
  induction l with|nil=>rfl|cons x r ih=>simp only[BN,Bz,EY,ih];omega
 have he: ∀D:Eg,E5 D=bytesOf D+siz D:=by
  intro D;unfold E5 bytesOf siz
  induction D with|nil=>rfl|cons x r ih=>simp only[BN,Bz,hs] at ih⊢;omega
 have h0:=he (BD ds);have h1:=h.bnd (B:=B) Aa;refine⟨h1.1,Aa,Aa,λx hx=>⟨h1.2 x hx,λf hf=>?_⟩⟩;have h2:(x.1.nm,Ai x.2)∈BD ds:=CG.2 ⟨x,hx,rfl⟩;have h3:(f.1.nm,f.2)∈Ai x.2:=CG.2 ⟨f,hf,rfl⟩
 have hm: ∀(l:List (ByteArray×List Int)) y,y∈l->y.2.length<=(l.map λx=>x.2.length).sum:=by
  intro l
  induction l with
  |nil=>simp|cons z r ih=>
   intro y hy;simp only[BN,Bz];rcases BF.1 hy with rfl|hy;omega;have:=ih y hy;omega
 have hM: ∀(D:Eg) d,d∈D->(d.2.map λx=>x.2.length).sum<=bytesOf D:=by
  unfold bytesOf;intro D
  induction D with
  |nil=>simp|cons z r ih=>
   intro y hy;simp only[BN,Bz];rcases BF.1 hy with rfl|hy;omega;have:=ih y hy;omega
 have h4:=hm _ _ h3;have h5:=hM _ _ h2;have h6:=((h.ET x hx).dat f hf).ADA;simp only at h4 h5;omega
section
variable {w w1:AL} {p:Nat} {G:Bh} {S S1:St} {B:Nat}
end
open Go.Joins
theorem AUd(h:(Lit.int .i64 q).wf=true):q<=9223372036854775807:=by
 simp only[Lit.wf,DV,decide_eq_true_eq] at h;(have h2:IntKind.max .i64=9223372036854775807:=by decide);rw[h2] at h;omega
end
open Go Go.Conc Go.Joins
section
variable {held:Bool}{r:Go.Reach}{p:List GZ}{xs:List AQ}{b c n sz:Nat}{A:Option Ag}{H:Type}{e t:Am}{v:AQ}{W:AL}
def JJ (W:AL) (b:Nat):Prop:=∃p t f,W.heap[b]? =AA (.cells p t f)
theorem cells_of_cell{a:Ag}(h:W.cell? a=AA v):JJ W a.block:=by
 unfold Pj at h;split at h;exact⟨_,_,_,by assumption⟩;cases h
def WY (W:AL) (A:Option Ag) (c:Nat):Prop:=∀ad,A=AA ad->0<c->JJ W ad.block
theorem WY.none{W:AL}{c:Nat}:WY W AB c:=λ_ h=>by cases h
structure df (W:AL) (A:Option Ag) (n c:Nat) (fs:List FM):Prop where
 files:EU W A n c fs
 row:WY W A c
 dat: ∀f∈fs,WY W f.1.A f.1.c/\∀z∈f.2,0<=z/\z<=255
structure AFW (W:AL) (A:Option Ag) (n c:Nat) (ds:List DM):Prop where
 NF:F6 W A n c ds
 row:WY W A c
 ET: ∀d∈ds,df W d.1.A d.1.n d.1.c d.2
theorem WZ{P:Program}{enc:Am×AQ->H}{sp:Nat->Bool}{v1:AQ}{y:Dt H×List GZ}(ht:P.underlying t=AA (.slice e))(h1:DataW.trod enc P W 0 sp held n t [v1]=AA y): ∃a l c,v1=.slice a l c:=by
 rcases open_slice ht h1 with ⟨h1,_⟩|⟨a,len,cap,m,n,D,Pl,h1,_⟩;simp at h1;exact⟨_,_,_,h1⟩;simp at h1;exact⟨_,_,_,h1⟩
theorem jl{enc:Am×AQ->H}(ht:Tryz.prog.underlying t=AA (.slice e))(he:Tryz.prog.cellsOf e=1){a:Option Ag}{l:Nat}{y:Dt H×List GZ}
  (h:DataW.trod enc Tryz.prog W 0 (λ_=>true) held n t [.slice a l c]=AA y):WY W a c:=λad e0 hc=>by
 subst e0;rcases open_slice1 ht he h with ⟨h1,_⟩|⟨a2,len,cap,m,n,V,D,Pl,hcs,hb,hl,hm,hmm,hx,hi⟩;simp at h1;simp at hcs;obtain⟨rfl,rfl,rfl⟩:=hcs;have:=cells_of_cell (hi 0 (by rw[hmm];simpa using hc)).1;rwa[add_block] at this
theorem jm{enc:Am×AQ->H}{d:Dt H}
  (hv: ∃a l c,v=.slice a l c) (h:DataW.Trod enc Tryz.prog W 0 (λ_=>true) held 25 v d p):
  ∃A n c,∃fs:List FM,v=.slice A n c/\df W A n c fs/\(fs.map λx=>x.2.length+1).sum+1<=Rows.uptoBulk d:=by
 obtain⟨a0,l0,c0,rfl⟩:=hv;obtain⟨fuel,hf⟩:=h;rcases Sj (e:=64) Tryz.underlying25 Tryz.underlying64 Az Az hf with ⟨hcs,hx⟩|⟨a,len,cap,m,D,Pl,hcs,hb,hl,hm,hmm,hx,hi⟩
 ·simp[Nv] at hcs;obtain⟨rfl,rfl,rfl⟩:=hcs;simp only[O5] at hx;obtain⟨rfl,rfl⟩:=hx;exact⟨AB,0,0,[],rfl,⟨⟨Rd.nil _ _,AV⟩,.none,AV⟩,by simp[Rows.uptoBulk]⟩
 simp[Nv] at hcs;obtain⟨rfl,rfl,rfl⟩:=hcs;simp only[O5] at hx;obtain⟨rfl,rfl⟩:=hx;have hle:l0<=m:=by rw[hmm];split<;>omega
 have el: ∀i,i<l0->∃x:FM,(W.cell? (a.add (i*2))=AA (.string x.1.nm)/\W.cell? (a.add (i*2+1))=AA (.slice x.1.A x.1.n x.1.c)/\Rd W 1 x.1.A x.1.n x.1.c (bv x.2)/\WY W x.1.A x.1.c/\∀z∈x.2,0<=z/\z<=255)/\x.2.length+1<=Rows.uptoBulk (D i):=by
  intro i hil;obtain⟨ys,n',hD,hPl,hyl,hfl⟩:=hi i Aa;obtain⟨v0,y0,e0,g0,t0⟩:=hfl 0 _ rfl;obtain⟨v1,y1,e1,g1,t1⟩:=hfl 1 _ rfl;obtain⟨nm,h0,hy0,_⟩:=DataW.trod_string Tryz.underlying9 t0;simp at h0;subst h0;obtain⟨a1,l1,c1,rfl⟩:=WZ Tryz.underlying62 t1;obtain⟨A1,n1,cc1,zs,hz1,hz2,hz3,hz4,hz5⟩:=AHq Tryz.underlying62 Tryz.underlying5 Az ⟨_,_,_,rfl⟩ ⟨n',t1⟩;injection hz1 with i1 i2 i3;subst i1;subst i2;subst i3;refine⟨(⟨nm,a1,l1,c1⟩,zs),⟨by simpa using e0,e1,hz2,jl Tryz.underlying62 Az t1,λz hz=>bounds_u8 (hz5 z hz)⟩,?_⟩;rw[hD]
  have hys:ys=[y0,y1]:=by
   match ys,hyl with| [z0,z1],_=>simp at g0 g1;rw[g0,g1]
  rw[hys];simp only[BN,EG,Rows.uptoBulk,Rows.uptoBulkAll,hz3];omega
 obtain⟨fs,hll,hlp⟩:=collect l0 el;have hs:=ZI D l0 fs (λx=>x.2.length+1) hll (λi z hz=>(hlp i z hz).2);refine⟨AA a,l0,c0,fs,rfl,⟨⟨AGy (by simp[Dq,hll]) hl hm (λi x hx=>?_),λf hf=>?_⟩,(λad e hc=>by injection e with e;subst e;obtain⟨ys,n',_,_,_,hfl⟩:=hi 0 (by rw[hmm];simpa using hc);obtain⟨v0,y0,e0,_,_⟩:=hfl 0 _ rfl;have:=cells_of_cell e0;rwa[add_block] at this),λf hf=>?_⟩,?_⟩
 ·unfold Dq at hx;rw[Ba] at hx
  cases hz:fs[i]? with
  |none=>rw[hz] at hx;cases hx|some z=>
   rw[hz] at hx;simp at hx;subst hx;exact⟨(hlp i z hz).1.1,(hlp i z hz).1.2.1⟩
 ·obtain⟨i,hi'⟩:=RI hf;exact (hlp i f hi').1.2.2.1
 ·obtain⟨i,hi'⟩:=RI hf;exact (hlp i f hi').1.2.2.2
 simp only[Rows.uptoBulk];omega
theorem AFX{enc:Am×AQ->H}{d:Dt H}
  (hv: ∃a l c,v=.slice a l c) (h:DataW.Trod enc Tryz.prog W 0 (λ_=>true) held 22 v d p):
  ∃A n c,∃ds:List DM,v=.slice A n c/\AFW W A n c ds/\E5 (BD ds)+1<=Rows.uptoBulk d:=by
 obtain⟨a0,l0,c0,rfl⟩:=hv;obtain⟨fuel,hf⟩:=h;rcases Sj (e:=77) Tryz.underlying22 Tryz.underlying77 Az Az hf with ⟨hcs,hx⟩|⟨a,len,cap,m,D,Pl,hcs,hb,hl,hm,hmm,hx,hi⟩
 ·simp[Nv] at hcs;obtain⟨rfl,rfl,rfl⟩:=hcs;simp only[O5] at hx;obtain⟨rfl,rfl⟩:=hx;exact⟨AB,0,0,[],rfl,⟨⟨Rd.nil _ _,AV⟩,.none,AV⟩,by simp[Rows.uptoBulk,E5,BD]⟩
 simp[Nv] at hcs;obtain⟨rfl,rfl,rfl⟩:=hcs;simp only[O5] at hx;obtain⟨rfl,rfl⟩:=hx;have hle:l0<=m:=by rw[hmm];split<;>omega
 have el: ∀i,i<l0->∃x:DM,(W.cell? (a.add (i*2))=AA (.string x.1.nm)/\W.cell? (a.add (i*2+1))=AA (.slice x.1.A x.1.n x.1.c)/\df W x.1.A x.1.n x.1.c x.2)/\(x.2.map λf=>f.2.length+1).sum+1<=Rows.uptoBulk (D i):=by
  intro i hil;obtain⟨ys,n',hD,hPl,hyl,hfl⟩:=hi i Aa;obtain⟨v0,y0,e0,g0,t0⟩:=hfl 0 _ rfl;obtain⟨v1,y1,e1,g1,t1⟩:=hfl 1 _ rfl;obtain⟨nm,h0,hy0,_⟩:=DataW.trod_string Tryz.underlying9 t0;simp at h0;subst h0;obtain⟨a1,l1,c1,rfl⟩:=WZ Tryz.underlying25 t1;obtain⟨A1,n1,cc1,zs,hz1,hz2,hz4⟩:=jm ⟨_,_,_,rfl⟩ ⟨n',t1⟩;injection hz1 with i1 i2 i3;subst i1;subst i2;subst i3;refine⟨(⟨nm,a1,l1,c1⟩,zs),⟨by simpa using e0,e1,hz2⟩,?_⟩;rw[hD]
  have hys:ys=[y0,y1]:=by
   match ys,hyl with| [z0,z1],_=>simp at g0 g1;rw[g0,g1]
  rw[hys];simp only[BN,EG,Rows.uptoBulk,Rows.uptoBulkAll];omega
 obtain⟨fs,hll,hlp⟩:=collect l0 el;(have hbk:E5 (BD fs)=(fs.map λx=>(x.2.map λf=>f.2.length+1).sum+1).sum:=by unfold E5 BD;rw[En];congr 1;apply Hm;intro x _;simp[Ai,Function.comp_def]);have hs:=ZI D l0 fs (λx=>(x.2.map λf=>f.2.length+1).sum+1) hll (λi z hz=>(hlp i z hz).2);refine⟨AA a,l0,c0,fs,rfl,⟨⟨AGy (by simp[D9,hll]) hl hm (λi x hx=>?_),λf hf=>?_⟩,(λad e hc=>by injection e with e;subst e;obtain⟨ys,n',_,_,_,hfl⟩:=hi 0 (by rw[hmm];simpa using hc);obtain⟨v0,y0,e0,_,_⟩:=hfl 0 _ rfl;have:=cells_of_cell e0;rwa[add_block] at this),λf hf=>?_⟩,?_⟩
 ·unfold D9 at hx;rw[Ba] at hx
  cases hz:fs[i]? with
  |none=>rw[hz] at hx;cases hx|some z=>
   rw[hz] at hx;simp at hx;subst hx;exact⟨(hlp i z hz).1.1,(hlp i z hz).1.2.1⟩
 ·obtain⟨i,hi'⟩:=RI hf;exact (hlp i f hi').1.2.2.files
 ·obtain⟨i,hi'⟩:=RI hf;exact (hlp i f hi').1.2.2
 rw[hbk];simp only[Rows.uptoBulk];omega
theorem ADC{enc:Am×AQ->H}{d:Dt H}
  (hv:Value.okWide Tryz.prog W r b 24 v) (h:DataW.Trod enc Tryz.prog W 0 (λ_=>true) held 24 v d p):
  ∃A n c,∃ds:List DM,∃q:Int,v=.agg #[.slice A n c,.int .i64 q]/\AFW W A n c ds/\q<=9223372036854775807/\E5 (BD ds)+1<=Rows.uptoBulk d:=by
 obtain⟨cs,rfl,hsz⟩:=okWide_struct Tryz.underlying24 hv;obtain⟨c0,c1,rfl⟩:=array2 (hsz.trans Az);obtain⟨fuel,hf⟩:=h;obtain⟨y0,y1,m,hx,hl,h0,h1⟩:=trod_struct2 Tryz.underlying24 (by simpa[Nv] using hf);simp only[O5] at hx;obtain⟨rfl,rfl⟩:=hx;(have e0:Tryz.prog.cellsOf 22=1:=by kernel_rfl);(have e1:Tryz.prog.cellsOf 3=1:=by kernel_rfl);simp only[e0,e1,aj,ABK,List.take_zero,yf] at h0 h1;obtain⟨a,l,c,hc⟩:=slice_form Tryz.underlying22 h0;simp only[Ir,and_true] at hc;subst hc;obtain⟨A,n0,cc,ds,k1,k2,k3⟩:=AFX ⟨_,_,_,rfl⟩ ⟨m,by simpa[Nv] using h0⟩;injection k1 with i1 i2 i3;subst i1;subst i2;subst i3;obtain⟨q,hq,_,hw⟩:=DataW.trod_int Tryz.underlying3 h1;simp only[Ir,and_true] at hq;subst hq;refine⟨_,_,_,ds,q,rfl,k2,AUd hw,?_⟩;simp only[Rows.uptoBulk,Rows.uptoBulkAll];omega
theorem AAo{enc:Am×AQ->H}{c0 c1:AQ}{y:Dt H×List GZ}(h:DataW.trod enc Tryz.prog W 0 (λ_=>true) held n 30 [c0,c1]=AA y):
  ∃K kn kc,∃ks:List Bool,∃names:Int,c0=.slice K kn kc/\c1=.int .i64 names/\Rd W 1 K kn kc (kv ks)/\WY W K kc/\kn+1<=Rows.uptoBulk y.1:=by
 obtain⟨y0,y1,m,hx,hl,h0,h1⟩:=trod_struct2 Tryz.underlying30 h;subst hx;(have e0:Tryz.prog.cellsOf 28=1:=by kernel_rfl);(have e1:Tryz.prog.cellsOf 3=1:=by kernel_rfl);simp only[e0,e1,aj,ABK,List.take_zero,yf] at h0 h1;obtain⟨a,l,c,hc⟩:=slice_form Tryz.underlying28 h0;simp only[Ir,and_true] at hc;subst hc;obtain⟨A2,n2,cc2,ks,k1,k2,k3,k4⟩:=AE8 Tryz.underlying28 Tryz.underlying4 Az ⟨_,_,_,rfl⟩ ⟨m,by simpa[Nv] using h0⟩;injection k1 with i1 i2 i3;subst i1;subst i2;subst i3;obtain⟨q,hq,_,_⟩:=DataW.trod_int Tryz.underlying3 h1;simp only[Ir,and_true] at hq;subst hq;refine⟨_,_,_,ks,q,rfl,rfl,k2,jl Tryz.underlying28 Az h0,?_⟩;simp only[Rows.uptoBulk,Rows.uptoBulkAll];omega
theorem AFY{enc:Am×AQ->H}{d:Dt H}
  (hv:Value.okWide Tryz.prog W r b 30 v) (h:DataW.Trod enc Tryz.prog W 0 (λ_=>true) held 30 v d p):
  ∃K kn kc,∃ks:List Bool,∃names:Int,v=.agg #[.slice K kn kc,.int .i64 names]/\Rd W 1 K kn kc (kv ks)/\WY W K kc/\kn+1<=Rows.uptoBulk d:=by
 obtain⟨cs,rfl,hsz⟩:=okWide_struct Tryz.underlying30 hv;obtain⟨c0,c1,rfl⟩:=array2 (hsz.trans Az);obtain⟨fuel,hf⟩:=h;obtain⟨K,kn,kc,ks,names,rfl,rfl,h1,h2,h3⟩:=AAo (y:=(d,p)) (by simpa[Nv] using hf);exact⟨K,kn,kc,ks,names,rfl,h1,h2,h3⟩
section
variable {W w':AL} (hcar: ∀(a:Ag) (x:AQ),W.cell? a=AA x->∃v,w'.cell? a=AA v/\Sh (O3 (JJ W)) v x) (hsz:W.heap.size<=w'.heap.size)
theorem TG{x:AQ}(h:Sh (O3 (JJ W)) v x)(hx:flat x=true):v=x:=h.AAG (.flat hx)
theorem AIH(h:Sh (O3 (JJ W)) v (.slice A n c))(hA:WY W A c)(hn:n<=c):v=.slice A n c\/(n=0/\c=0/\∃b,v=.slice (AA b) 0 0):=by
 cases A with
 |none=>exact .inl (TG h rfl)|some ad=>
  rcases O7 c with rfl|hc
  ·(obtain rfl:n=0:=by omega);exact .inr ⟨rfl,rfl,h.AM4⟩
  exact .inl (h.AAG (.slice ⟨rfl,hA ad rfl hc⟩))
include hcar hsz
theorem AAp(h:Rd W sz A n c xs)(hA:WY W A c)(hv:Sh (O3 (JJ W)) v (.slice A n c)):
  ∃A' xs',v=.slice A' n c/\Rd w' sz A' n c xs'/\∀(i:Nat) x,xs[i]? =AA x->∃x',xs'[i]? =AA x'/\Sh (O3 (JJ W)) x' x:=by
 rcases AIH hv hA h.2.1 with rfl|⟨rfl,rfl,b,rfl⟩
 ·cases A with
  |none=>
   have hn:=h.2.2.2.1 rfl
   have hx:xs=[]:=by
    have h1:=h.1;have h2:=h.2.1;rw[show n=0 by omega] at h1;simpa using h1
   subst hx;exact⟨AB,[],rfl,⟨h.1,h.2.1,h.2.2.1,h.2.2.2.1,λad e=>by cases e⟩,λi x hx=>by simp at hx⟩
  |some ad=>
   obtain⟨Z,hZ,hz⟩:=collect (Q:=λi (v:AQ)=>w'.cell? (ad.add i)=AA v/\∀x,xs[i]? =AA x->Sh (O3 (JJ W)) v x) xs.length (λi hi=>by
    obtain⟨v,h1,h2⟩:=hcar _ _ ((h.2.2.2.2 ad rfl).2 i _ (Bo hi))
    exact⟨v,h1,λx hx=>by rw[Bo hi] at hx;cases hx;exact h2⟩)
   refine⟨AA ad,Z,rfl,⟨by rw[hZ];exact h.1,h.2.1,h.2.2.1,h.2.2.2.1,λad' e=>?_⟩,λi x hx=>?_⟩
   ·injection e with e;subst e;exact⟨λhn=>Em ((h.2.2.2.2 ad rfl).1 hn) hsz,λj u hu=>(hz j u hu).1⟩
   have hl:=(CP.1 hx).1;obtain⟨z,hz'⟩: ∃z,Z[i]? =AA z:=⟨_,Bo Aa⟩;exact⟨z,hz',(hz i z hz').2 x hx⟩
 have hx:xs=[]:=by
  have:=h.1;simpa using this
 subst hx;exact⟨AA b,[],rfl,⟨AV,Bd _,DW _,(λe=>by cases e),λad e=>⟨λh=>Ak h Aa,λj u hu=>by simp at hu⟩⟩,λi x hx=>by simp at hx⟩
theorem ADE(h:Rd W sz A n c xs)(hA:WY W A c)(hv:Sh (O3 (JJ W)) v (.slice A n c))(hf: ∀x∈xs,flat x=true): ∃A',v=.slice A' n c/\Rd w' sz A' n c xs:=by
 obtain⟨A',xs',h1,h2,h3⟩:=AAp hcar hsz h hA hv
 have:xs'=xs:=by
  apply OE;intro i
  cases hx:xs[i]? with
  |none=>
   rw[H9];have:=yj.1 hx;have:=h.1;have:=h2.1;omega
  |some x=>
   obtain⟨x',h4,h5⟩:=h3 i x hx;rw[h4,TG h5 (hf x (Bi hx))]
 exact⟨A',h1,by rw[<- this];exact h2⟩
theorem rE{fs:List FM}(h:df W A n c fs)(hv:Sh (O3 (JJ W)) v (.slice A n c)): ∃A' fs',v=.slice A' n c/\EU w' A' n c fs'/\Ai fs'=Ai fs:=by
 obtain⟨A',xs',h1,h2,h3⟩:=AAp hcar hsz h.files.row h.row hv;have hl:=h.files.row.KF
 obtain⟨Z,hZ,hz⟩:=collect (Q:=λi (z:FM)=>xs'[i*2]? =AA (.string z.1.nm)/\xs'[i*2+1]? =AA (.slice z.1.A z.1.n z.1.c)/\Rd w' 1 z.1.A z.1.n z.1.c (bv z.2)/\∀f,fs[i]? =AA f->(z.1.nm,z.2)=(f.1.nm,f.2)) fs.length (λi hi=>by
  obtain⟨f,hf⟩: ∃f,fs[i]? =AA f:=⟨_,Bo hi⟩;(have hff:(Dq fs)[i]? =AA f.1:=by unfold Dq;rw[Ba,hf];rfl);have g0:=QZ (Dq fs) i 0 Aq;have g1:=QZ (Dq fs) i 1 Aq;rw[hff] at g0 g1;obtain⟨u0,k0,l0⟩:=h3 (i*2) (.string f.1.nm) (by simpa[Iz.cells] using g0);obtain⟨u1,k1,l1⟩:=h3 (i*2+1) (.slice f.1.A f.1.n f.1.c) (by simpa[Iz.cells] using g1);obtain rfl:=TG l0 rfl;have hm:=Bi hf;obtain⟨B,rfl,hB⟩:=ADE hcar hsz (h.files.dat f hm) (h.dat f hm).1 l1 (λx hx=>by obtain⟨z,_,rfl⟩:=CG.1 hx;rfl)
  exact⟨(⟨f.1.nm,B,f.1.n,f.1.c⟩,f.2),k0,k1,hB,λf' hf'=>by rw[hf] at hf';cases hf';rfl⟩)
 have hxl:xs'.length=Z.length*2:=by
  have a1:=h2.1;unfold Dq at hl;rw[DY] at hl;omega
 have hxs:xs'=Hl (Dq Z):=by
  apply OE;intro j;have hj:=QZ (Dq Z) (j/2) (j % 2) (ah _ Aq);rw[show j/2*2+j % 2=j by omega] at hj;rw[hj];(have e1:(Dq Z)[j/2]? =(Z[j/2]?).map (·.1):=by unfold Dq;rw[Ba]);rw[e1]
  cases hzz:Z[j/2]? with
  |none=>
   have:=yj.1 hzz;rw[H9 Aa];rfl
  |some z=>
   obtain⟨q0,q1,_,_⟩:=hz (j/2) z hzz;rcases yZ j with e|e
   ·rw[show j/2*2=j by omega] at q0;rw[q0,e];rfl
   rw[show j/2*2+1=j by omega] at q1;rw[q1,e];rfl
 refine⟨A',Z,h1,⟨by rw[<- hxs];exact h2,λf hf=>?_⟩,?_⟩
 ·obtain⟨i,hi⟩:=RI hf;exact (hz i f hi).2.2.1
 unfold Ai;apply OE;intro i;rw[Ba,Ba];by_cases hi:i<fs.length
 ·obtain⟨f,hf⟩: ∃f,fs[i]? =AA f:=⟨_,Bo hi⟩;obtain⟨z,hzz⟩: ∃z,Z[i]? =AA z:=⟨_,Bo Aa⟩;rw[hf,hzz];exact congrArg AA ((hz i z hzz).2.2.2 f hf)
 rw[H9 Aa,H9 Aa]
theorem AII{ds:List DM}(h:AFW W A n c ds)(hv:Sh (O3 (JJ W)) v (.slice A n c)): ∃A' ds',v=.slice A' n c/\F6 w' A' n c ds'/\BD ds'=BD ds:=by
 obtain⟨A',xs',h1,h2,h3⟩:=AAp hcar hsz h.NF.row h.row hv;have hl:=h.NF.row.KF
 obtain⟨Z,hZ,hz⟩:=collect (Q:=λi (z:DM)=>xs'[i*2]? =AA (.string z.1.nm)/\xs'[i*2+1]? =AA (.slice z.1.A z.1.n z.1.c)/\EU w' z.1.A z.1.n z.1.c z.2/\∀f,ds[i]? =AA f->(z.1.nm,Ai z.2)=(f.1.nm,Ai f.2)) ds.length (λi hi=>by
  obtain⟨f,hf⟩: ∃f,ds[i]? =AA f:=⟨_,Bo hi⟩;(have hff:(D9 ds)[i]? =AA f.1:=by unfold D9;rw[Ba,hf];rfl);have g0:=QZ (D9 ds) i 0 Aq;have g1:=QZ (D9 ds) i 1 Aq;rw[hff] at g0 g1;obtain⟨u0,k0,l0⟩:=h3 (i*2) (.string f.1.nm) (by simpa[Iz.cells] using g0);obtain⟨u1,k1,l1⟩:=h3 (i*2+1) (.slice f.1.A f.1.n f.1.c) (by simpa[Iz.cells] using g1);obtain rfl:=TG l0 rfl;have hm:=Bi hf;obtain⟨B,F,rfl,hB,hF⟩:=rE hcar hsz (h.ET f hm) l1
  exact⟨(⟨f.1.nm,B,f.1.n,f.1.c⟩,F),k0,k1,hB,λf' hf'=>by rw[hf] at hf';cases hf';rw[hF]⟩)
 have hxl:xs'.length=Z.length*2:=by
  have a1:=h2.1;unfold D9 at hl;rw[DY] at hl;omega
 have hxs:xs'=Hl (D9 Z):=by
  apply OE;intro j;have hj:=QZ (D9 Z) (j/2) (j % 2) (ah _ Aq);rw[show j/2*2+j % 2=j by omega] at hj;rw[hj];(have e1:(D9 Z)[j/2]? =(Z[j/2]?).map (·.1):=by unfold D9;rw[Ba]);rw[e1]
  cases hzz:Z[j/2]? with
  |none=>
   have:=yj.1 hzz;rw[H9 Aa];rfl
  |some z=>
   obtain⟨q0,q1,_,_⟩:=hz (j/2) z hzz;rcases yZ j with e|e
   ·rw[show j/2*2=j by omega] at q0;rw[q0,e];rfl
   rw[show j/2*2+1=j by omega] at q1;rw[q1,e];rfl
 refine⟨A',Z,h1,⟨by rw[<- hxs];exact h2,λf hf=>?_⟩,?_⟩
 ·obtain⟨i,hi⟩:=RI hf;exact (hz i f hi).2.2.1
 unfold BD;apply OE;intro i;rw[Ba,Ba];by_cases hi:i<ds.length
 ·obtain⟨f,hf⟩: ∃f,ds[i]? =AA f:=⟨_,Bo hi⟩;obtain⟨z,hzz⟩: ∃z,Z[i]? =AA z:=⟨_,Bo Aa⟩;rw[hf,hzz];exact congrArg AA ((hz i z hzz).2.2.2 f hf)
 rw[H9 Aa,H9 Aa]
end
theorem ASQ{H:Array Obj}{ts:List AQ}
  (hrow: ∀b,JJ W b->∀p t f,W.heap[b]? =AA (.cells p t f)->∃p',H[b]? =AA (.cells p' t f)/\Uc K1.F (O3 (JJ W)) W.heap.size ts p' p) (t:Nat->Question->Nat)
  (a:Ag) (x:AQ) (hc:W.cell? a=AA x): ∃v,(({W with heap:=H}:AL).DN t).cell? a=AA v/\Sh (O3 (JJ W)) v x:=by
 obtain⟨p,ty,f,hp⟩:=cells_of_cell hc;obtain⟨p',hp',hsz,hst⟩:=hrow _ ⟨p,ty,f,hp⟩ p ty f hp;unfold Pj at hc⊢;rw[hp] at hc;rw[show (({W with heap:=H}:AL).DN t).heap[a.block]? =H[a.block]? from rfl,hp'];by_cases hs:a.spot.isSome;simp[hs] at hc;simp only[hs,DC,if_false] at hc⊢;(have hlt:a.off<p'.size:=by rw[hsz];exact (Dj.1 hc).1);obtain⟨v,hv⟩: ∃v,p'[a.off]? =AA v:=⟨_,FZ hlt⟩;exact⟨v,hv,(hst a.off v x hv hc).2⟩
end
theorem Yc(e:Int)(w:AL):Au Ae 38 #[.int .i64 e] w λr w'=>r=.returned (if e=0 then .nilIface else .iface 51 (.int .i64 e))/\w'=w:=by
 by_cases h:e=0
 ·subst h;go_enter AKD,Tryz.ntmps38;go_wp2;go_ret;exact⟨rfl,rfl⟩
 (have hb:(e==0)=false:=by simp[h]);(have hd:decide (e=0)=false:=by simp[h]);simp only[BL h];clear h;go_enter AKD,Tryz.ntmps38;go_wp2;go_ret;exact⟨rfl,rfl⟩
theorem wrap_nil(op:ByteArray)(pl:Int)(w:AL):Au Ae 37 #[.string op,.int .i64 pl,.nilIface] w λr w'=>r=.returned .nilIface/\w'=w:=by
 go_enter AKC,Tryz.ntmps37;go_wp2;go_ret;exact⟨rfl,rfl⟩
theorem Yd(op:ByteArray)(pl:Int)(t:Am)(v:AQ)(w:AL):Au Ae 37 #[.string op,.int .i64 pl,.iface t v] w λr w'=>r=.returned (.iface 140 (.pointer (AA ⟨w.heap.size,0,AB⟩)))/\w'=w.alloc (.cells #[.string op,.int .i64 pl,.iface t v] 142):=by
 go_enter AKC,Tryz.ntmps37;go_wp2;go_ret;exact⟨rfl,rfl⟩
theorem AIJ(t:Am)(v:AQ)(w:AL):Au Ae 40 #[.iface t v,.nilIface] w λr w'=>r=.returned (.iface t v)/\w'=w:=by
 go_enter AKF,Tryz.ntmps40;go_wp2;go_ret;exact⟨rfl,rfl⟩
theorem AIK(t u:Am)(v x:AQ)(w:AL):Au Ae 40 #[.iface t v,.iface u x] w λr w'=>r=.returned (.iface 150 (.pointer (AA ⟨w.heap.size,0,AB⟩)))/\w'=w.alloc (.cells #[.iface t v,.iface u x] 152):=by
 go_enter AKF,Tryz.ntmps40;go_wp2;go_ret;exact⟨rfl,rfl⟩
def idx (s:ByteArray):List ByteArray->Option Nat
 | []=>AB|x::r=>if s=x then AA 0 else (idx s r).map (· +1)
open Classical in
theorem ADF{s:ByteArray}: ∀{l:List ByteArray},(idx s l).isSome=decide (s∈l)
 | []=>by simp[idx]
 |x::r=>by
  unfold idx;by_cases h:s=x;rw[BU h];simp[h];rw[BL h,yU,ADF];simp[h]
theorem AIL{s:ByteArray}{l:List ByteArray}(h: ∀x∈l,s≠x):idx s l=AB:=by
 induction l with|nil=>rfl|cons x r ih=>unfold idx;rw[BL (h x (Ee ..)),ih λy hy=>h y (DD _ hy)];rfl
theorem AGz{s:ByteArray}: ∀{l:List ByteArray} {k:Nat},(∀x∈l.take k,s≠x)->l[k]? =AA s->idx s l=AA k
 | [],k,_,h=>by simp at h|x::r,0,_,h=>by simp at h;unfold idx;rw[BU h.symm]
 |x::r,k+1,h1,h=>by
  simp at h;unfold idx;rw[BL (h1 x AV),AGz (k:=k) (λy hy=>h1 y (by simp[hy])) h];rfl
def xX (s:ByteArray) (ns:List ByteArray):Int:=match idx s ns with|some k=>(k:Int)|none=> -1
theorem AFZ(A:Option Ag)(n c:Nat)(ns:List ByteArray)(s:ByteArray)(w:AL)(h:Rd w 1 A n c (OB ns))(hn:n<=1073741824):
  Au Ae 128 #[.slice A n c,.string s] w λe w'=>e=.returned (.int .i64 (xX s ns))/\AZ [] w w':=by
 (have hl:ns.length=n:=by have:=h.1;simp[OB] at this;omega);have HR:=AO h;have HL:=AO hl;clear h hl;go_enter AKN,Tryz.ntmps128;go_wp2;go_loopw [8] (λi wr=>∃k:Nat,k<=n/\i=.int .i64 k/\AZ [] w wr/\Hid (∀x∈ns.take k,s≠x)) (λi _=>n - (intOf i).toNat)
 case atStart=>exact⟨0,DW _,rfl,.refl _ _,AO AV⟩
 obtain⟨k,hk,rfl,EI,hF⟩:=hrel;by_cases hlt:k<n
 ·obtain⟨ad,u,rfl,hu,hcell⟩:=(HR.out.Ap EI AV).Yu hlt
  obtain⟨x,hx,rfl⟩: ∃x,ns[k]? =AA x/\u=.string x:=by
   simp only[OB,Ba,J8] at hu;obtain⟨x,h1,h2⟩:=hu;exact⟨x,h1,h2.symm⟩
  have HX:=AO hx;clear hu hx;by_cases he:s=x
  ·(have hb:(s.toList==x.toList)=true:=by rw[<- H7];exact decide_eq_true he);have HE:=AO he;clear he;go_wp2;go_ret;exact⟨by unfold xX;rw[AGz hF.out (by rw[HX.out,HE.out])];rfl,EI⟩
  (have hb:(s.toList==x.toList)=false:=by rw[<- H7];exact decide_eq_false he);have HE:=AO he;clear he;go_wp2;go_roundw
  case rel=>
   refine⟨k+1,Aa,by go_num,EI,AO λy hy=>?_⟩;rw[Py,HX.out] at hy;rcases Bj.1 hy with hy|hy;exact hF.out y hy;simp at hy;rw[hy];exact HE.out
  simp[intOf];omega
 (have hkn:k=n:=by omega);subst hkn;go_wp2;go_ret;refine⟨?_,EI⟩;have h1:=hF.out;rw[Ea (by rw[HL.out];exact Bd _)] at h1;unfold xX;rw[AIL h1];rfl
theorem AIM(s:ByteArray)(ns:List ByteArray):decide (0<=xX s ns)=(idx s ns).isSome:=by
 unfold xX
 cases idx s ns with|none=>rfl|some k=>simp
theorem uu(A:Option Ag)(n c:Nat)(ns:List ByteArray)(s:ByteArray)(w:AL)(h:Rd w 1 A n c (OB ns))(hn:n<=1073741824):
  Au Ae 96 #[.slice A n c,.string s] w λe w'=>e=.returned (.bool (idx s ns).isSome)/\AZ [] w w':=by
 have k1:=AFZ A n c ns s w h hn;rw[<- AIM];clear h
 generalize xX s ns=z at*
 have q1:= @ARK;go_enter AOX,Tryz.ntmps96;(go_wp2_with (go_at_call 128;refine k1.mono ?_;rintro e w1 ⟨rfl,hc1⟩));go_ret;exact⟨rfl,hc1⟩
section
variable {B:Nat}{S S':St}{w:AL}
def BO:ByteArray:={data:=#[46,115,116,97,103,101]}
def St.EK (d:ByteArray) (S:St):List ByteArray->St×Int
 | []=>(S,0)|n::r=>if (S.remove d n).2=0 then St.EK d (S.remove d n).1 r else S.remove d n
theorem AIN{d:ByteArray}{l:List ByteArray}{j:Nat}{x:ByteArray}(h:l[j]? =AA x):St.EK d S (l.drop j)=if (S.remove d x).2=0 then St.EK d (S.remove d x).1 (l.drop (j+1)) else S.remove d x:=by
 obtain⟨hl,rfl⟩:=CP.1 h;rw[VN hl];rfl
def St.MB (d:ByteArray) (S:St) (l:List ByteArray):St×Int:=
 if (St.EK d S l).2=0 then (if ((St.EK d S l).1.rmdir d).2=0 then ((St.EK d S l).1.rmdir d).1.names else (St.EK d S l).1.rmdir d) else St.EK d S l
def St.clean (S:St):St×Int:=
 if S.NF.2=0 then (if (idx BO S.NF.1).isSome=true then (if (S.list BO).2=0 then S.MB BO (S.list BO).1 else (S,(S.list BO).2)) else (S,0)) else (S,S.NF.2)
theorem Inv.EK{B:Nat}(d:ByteArray): ∀(l:List ByteArray) {S:St},Inv B S->Inv (B+l.length) (St.EK d S l).1
 | [],S,h=>h
 |n::r,S,h=>by
  unfold St.EK;by_cases h0:(S.remove d n).2=0
  ·rw[BU h0];have:=Inv.EK d r (h.remove d n);exact this.mono (by simp only[EY];omega)
  rw[BL h0];exact (h.remove d n).mono (by simp only[EY];omega)
theorem xY(h:Inv B S)(d:ByteArray):(S.list d).1.length<=B:=by
 unfold St.list;split;simp;simp only[DY];unfold FQ
 cases hf:BJ S.seen d with
 |none=>simp|some F=>
  have:=AAT (CQ hf);have:=h.wd
  simp only at*
  simp only[Dx];omega
theorem AIO(h:Inv B S):S.NF.1.length<=B:=by
 unfold St.NF;split;simp;have:=AAS S.seen;have:=h.wd;simp only[DY];omega
theorem Inv.clean{B:Nat}{S:St}(h:Inv B S):Inv (2*B+2) S.clean.1:=by
 have hl:=xY h BO;have h1:=h.EK BO (S.list BO).1;have h2:=h1.rmdir BO;have h3:=h2.names;unfold St.clean;split
 ·split
  ·split
   ·unfold St.MB;split
    ·split;exact h3.mono Aa;exact h2.mono Aa
    exact h1.mono Aa
   exact h.mono Aa
  exact h.mono Aa
 exact h.mono Aa
theorem DK.remove{w w1:AL}{G:Bh}{S1:St}{B:Nat}(h:DK w G S1 w1)(hi:Inv B S1)(hB:B<=1073741824)(d n:ByteArray):
  Au Ae 98 #[.pointer (AA ⟨G.b,0,AB⟩),.string d,.string n] w1 λe w2=>e=.returned (.int .i64 (S1.remove d n).2)/\DK w G (S1.remove d n).1 w2:=by
 obtain⟨G1,h1,h2,h3,h4⟩:=h;rw[<- h2];exact (AFL h1 hi hB d n).mono λe w2 ⟨he,ht⟩=>⟨he,ht.trans h3 h2 h4⟩
theorem DK.rmdir{w w1:AL}{G:Bh}{S1:St}{B:Nat}(h:DK w G S1 w1)(hi:Inv B S1)(hB:B<=1073741824)(d:ByteArray):
  Au Ae 99 #[.pointer (AA ⟨G.b,0,AB⟩),.string d] w1 λe w2=>e=.returned (.int .i64 (S1.rmdir d).2)/\DK w G (S1.rmdir d).1 w2:=by
 obtain⟨G1,h1,h2,h3,h4⟩:=h;rw[<- h2];exact (AH2 h1 hi hB d).mono λe w2 ⟨he,ht⟩=>⟨he,ht.trans h3 h2 h4⟩
theorem ADG{G:Bh}(h:EJ w G S)(hi:Inv B S)(hB:2*B+2<=1073741824):
  Au Ae 64 #[.pointer (AA ⟨G.b,0,AB⟩)] w λe w'=>e=.returned (.int .i64 S.clean.2)/\DK w G S.clean.1 w':=by
 have HF:=AO h;have HI:=AO hi;have hL1:=AIO hi;have hL2:=xY hi BO;clear h hi;have q1:= @ATt;have q2:= @ATu;have q3:= @ATv;have q4:= @ATw;have q5:= @ATx;have q6:= @AOm;obtain⟨ds,hds⟩: ∃ds,S.NF.1=ds:=⟨_,rfl⟩;obtain⟨de,hde⟩: ∃de,S.NF.2=de:=⟨_,rfl⟩;obtain⟨ls,hls⟩: ∃ls,(S.list BO).1=ls:=⟨_,rfl⟩;obtain⟨le,hle⟩: ∃le,(S.list BO).2=le:=⟨_,rfl⟩;have HC:Hid (S.clean=if de=0 then (if (idx BO ds).isSome=true then (if le=0 then S.MB BO ls else (S,le)) else (S,0)) else (S,de)):=AO (by unfold St.clean;rw[hds,hde,hls,hle]);(have HD:Hid (∀w,EJ w G S->Au Ae 95 #[.pointer (AA ⟨G.b,0,AB⟩)] w (dP 9 w (OB ds) ds.length de)):=AO λw hf=>by have:=AK7 hf HI.out Aa;rwa[hds,hde] at this);(have HLL:Hid (∀w,EJ w G S->Au Ae 97 #[.pointer (AA ⟨G.b,0,AB⟩),.string BO] w (dP 9 w (OB ls) ls.length le)):=AO λw hf=>by have:=AK8 hf HI.out Aa BO;rwa[hls,hle] at this);rw[hds] at hL1;rw[hls] at hL2;clear hds hde hls hle;unfold BO at HLL;go_enter AOG,Tryz.ntmps64;(go_wp2_with fail);refine (HD.out _ HF.out).mono ?_;rintro e w1 ⟨A1,c1,rfl,ho1,hc1,hn1⟩;have HO1:=AO ho1;have CZ:=AO hc1;clear ho1 hc1 hn1;by_cases hde:de=0
 ·subst hde;(go_wp2_with fail);refine (uu A1 ds.length c1 ds _ w1 HO1.out.rd Aa).mono ?_;rintro e w2 ⟨rfl,hc2⟩;have HC2:=AO (CZ.out.Ah hc2);clear hc2
  cases hb:(idx {data:=#[46,115,116,97,103,101]} ds).isSome with
  |false=>
   go_wp2;go_ret;(have:S.clean=(S,0):=by rw[HC.out,BU trivial,BL (by show ¬(idx {data:=#[46,115,116,97,103,101]} ds).isSome=true;rw[hb];decide)]);rw[this];exact⟨rfl,.same HF.out HC2.out⟩
  |true=>
   (have hcl:S.clean=if le=0 then S.MB BO ls else (S,le):=by rw[HC.out,BU trivial,BU (show (idx BO ds).isSome=true from hb)]);have Wq:=AO hcl;clear hcl hb;(go_wp2_with fail);refine (HLL.out _ (HF.out.Cc HC2.out)).mono ?_;rintro e w3 ⟨A3,c3,rfl,ho3,hc3,hn3⟩;have HO3:=AO ho3;have Gg:=AO (HC2.out.Ah hc3);have HN3:=AO hn3;clear ho3 hc3 hn3;by_cases hle:le=0
   ·subst hle;(have hcl:S.clean=S.MB BO ls:=by rw[Wq.out,BU rfl]);have APT:=AO hcl;clear hcl Wq;have hlo:Hid (ls.length<=B):=AO hL2;go_wp2;go_loopw [33] (λi wr=>∃(k:Nat) (S1:St),k<=ls.length/\i=.int .i64 k/\Hid (Inv (B+k) S1)/\DK w3 G S1 wr/\Hid (S.EK BO ls=S1.EK BO (ls.drop k))) (λi _=>ls.length - (intOf i).toNat)
    case atStart=>exact⟨0,S,DW _,rfl,HI,.same (HF.out.Cc Gg.out) (.refl _ _),AO rfl⟩
    obtain⟨k,S1,hk,rfl,hI1,hT1,hE1⟩:=hrel;by_cases hlt:k<ls.length
    ·obtain⟨ad,u,rfl,hu,hcell⟩:=(HO3.out.rd.Ap hT1.Ap (λx hx hm=>by have:=HN3.out x hx;have:=HF.out.lt x hm;have:=HC2.out.size;omega)).Yu hlt
     obtain⟨x,hx,rfl⟩: ∃x,ls[k]? =AA x/\u=.string x:=by
      simp only[OB,Ba,J8] at hu;obtain⟨x,h1,h2⟩:=hu;exact⟨x,h1,h2.symm⟩
     have hE2:=hE1.out;rw[AIN hx] at hE2;obtain⟨S2,hS2⟩: ∃S2,(S1.remove BO x)=S2:=⟨_,rfl⟩;obtain⟨S2,e2⟩:=S2;have hI2:Inv (B+(k+1)) S2:=by have:=hI1.out.remove BO x;rw[hS2] at this;exact this
     have hR:Hid (∀w1,DK w3 G S1 w1->Au Ae 98 #[.pointer (AA ⟨G.b,0,AB⟩),.string BO,.string x] w1 λe w2=>e=.returned (.int .i64 e2)/\DK w3 G S2 w2):=AO λw1 hf=>by
      have:=hf.remove hI1.out Aa BO x;rw[hS2] at this;exact this
     rw[hS2] at hE2;have HE2:=AO hE2;have HI2:=AO hI2;have HT1:=AO hT1;clear hE2 hI2 hT1 hS2 hE1 hI1 hu hx;(go_wp2_with fail);refine (hR.out _ HT1.out).mono ?_;rintro e w4 ⟨rfl,hT2⟩;have HT2:=AO hT2;clear hT2;by_cases he:e2=0
     ·subst he;go_wp2;go_roundw
      case rel=>
       refine⟨k+1,S2,Aa,by go_num,HI2,HT2.out,AO ?_⟩;rw[HE2.out,BU trivial]
      simp[intOf];omega
     (have hd:(e2==0)=false:=by simp[he]);(have hd2:decide (e2=0)=false:=by simp[he]);have HX:=AO he;clear he;go_wp2;go_ret;have h1:=HE2.out;rw[BL HX.out] at h1;rw[APT.out];unfold St.MB;rw[h1,BL HX.out];exact⟨rfl,.before Gg.out HT2.out⟩
    (have hkn:k=ls.length:=by omega);subst hkn;have h1:=hE1.out;rw[Pz (Bd _)] at h1;obtain⟨S2,hS2⟩: ∃S2,S1.rmdir BO=S2:=⟨_,rfl⟩;obtain⟨S2,e2⟩:=S2;have hI2:Inv (B+(ls.length+1)) S2:=by have:=hI1.out.rmdir BO;rw[hS2] at this;exact this
    have hR:Hid (∀w1,DK w3 G S1 w1->Au Ae 99 #[.pointer (AA ⟨G.b,0,AB⟩),.string BO] w1 λe w2=>e=.returned (.int .i64 e2)/\DK w3 G S2 w2):=AO λw1 hf=>by
     have:=hf.rmdir hI1.out Aa BO;rw[hS2] at this;exact this
    have hcl:=APT.out;unfold St.MB at hcl;have h2:S.EK BO ls=(S1,0):=h1;rw[h2] at hcl;simp only[if_true,hS2] at hcl;have ALW:=AO hcl;have HI2:=AO hI2;have HT1:=AO hT1;clear hcl h1 h2 hI2 hT1 hS2 hE1 hI1;(go_wp2_with fail);refine (hR.out _ HT1.out).mono ?_;rintro e w4 ⟨rfl,hT2⟩;have HT2:=AO hT2;clear hT2;by_cases he:e2=0
    ·subst he;have hcl:=ALW.out;have AUe:=AO hcl;clear hcl ALW;(go_wp2_with fail);refine (HT2.out.names HI2.out Aa).mono ?_;rintro e w5 ⟨rfl,hT3⟩;go_wp2;go_ret;have h3:=AUe.out;simp only[if_true] at h3;rw[h3];exact⟨rfl,.before Gg.out hT3⟩
    (have hd:(e2==0)=false:=by simp[he]);(have hd2:decide (e2=0)=false:=by simp[he]);have HX:=AO he;clear he;go_wp2;go_ret;rw[ALW.out,BL HX.out];exact⟨rfl,.before Gg.out HT2.out⟩
   (have hd:(le==0)=false:=by simp[hle]);(have hd2:decide (le=0)=false:=by simp[hle]);have HX:=AO hle;clear hle;go_wp2;go_ret;rw[Wq.out,BL HX.out];exact⟨rfl,.same HF.out Gg.out⟩
 (have hd:(de==0)=false:=by simp[hde]);(have hd2:decide (de=0)=false:=by simp[hde]);have HX:=AO hde;clear hde;go_wp2;go_ret;rw[HC.out,BL HX.out];exact⟨rfl,.same HF.out CZ.out⟩
structure JG where
 op:ByteArray
 pl:Int
 cd:Int
def Q5 (w:AL) (b:Nat) (v:AQ) (f:JG):Prop:=v=.iface 140 (.pointer (AA ⟨b,0,AB⟩))/\Bv w b 142 #[.string f.op,.int .i64 f.pl,.iface 51 (.int .i64 f.cd)]/\f.cd≠0
def JX (w:AL) (v:AQ):List Nat->List JG->Prop
 | [],[]=>v=.nilIface| [b],[f]=>Q5 w b v f| [b,c,d],[f,g]=>∃x y,v=.iface 150 (.pointer (AA ⟨b,0,AB⟩))/\Bv w b 152 #[x,y]/\Q5 w c x f/\Q5 w d y g|_,_=>False
theorem Q5.Ap{w w':AL}{b:Nat}{v:AQ}{f:JG}{M:List Nat}(h:Q5 w b v f)(hc:AZ M w w')(hb:b∉M):Q5 w' b v f:=⟨h.1,h.2.1.Ap hc hb,h.2.2⟩
theorem JX.Ap{w w':AL}{v:AQ}{L:List Nat}{fs:List JG}{M:List Nat}(h:JX w v L fs)(hc:AZ M w w')(hb: ∀b∈L,b∉M):JX w' v L fs:=by
 unfold JX at*
 split at h;exact h;exact h.Ap hc (hb _ AV)
 ·obtain⟨x,y,h1,h2,h3,h4⟩:=h;exact⟨x,y,h1,h2.Ap hc (hb _ AV),h3.Ap hc (hb _ AV),h4.Ap hc (hb _ AV)⟩
 exact h
def ADH (op:ByteArray) (pl cd:Int):List JG:=if cd=0 then [] else [⟨op,pl,cd⟩]
def TJ (w:AL) (G:Bh) (S':St) (fs:List JG) (e:Fe) (w':AL):Prop:=
 ∃v G' L,e=.returned v/\JX w' v L fs/\EJ w' G' S'/\G'.b=G.b/\(∀x∈G'.all,x∈G.all\/w.heap.size<=x)/\AZ G.all w w'/\∀x∈L,w.heap.size<=x/\x∉G'.all
theorem TJ.nil{w':AL}{G:Bh}(h:DK w G S' w'):TJ w G S' [] (.returned .nilIface) w':=by
 obtain⟨G',h1,h2,h3,h4⟩:=h;exact⟨_,G',[],rfl,rfl,h1,h2,h3,h4,AV⟩
theorem TJ.one{w1:AL}{G:Bh}(h:DK w G S' w1){op:ByteArray}{pl cd:Int}(hcd:cd≠0):TJ w G S' (ADH op pl cd) (.returned (.iface 140 (.pointer (AA ⟨w1.heap.size,0,AB⟩)))) (w1.alloc (.cells #[.string op,.int .i64 pl,.iface 51 (.int .i64 cd)] 142)):=by
 obtain⟨G',h1,h2,h3,h4⟩:=h;have hal:AZ [] w1 (w1.alloc (.cells #[.string op,.int .i64 pl,.iface 51 (.int .i64 cd)] 142)):=(AZ.refl [] w1).alloc _;refine⟨_,G',[w1.heap.size],rfl,?_,h1.Cc hal,h2,h3,h4.Ah hal,?_⟩
 ·unfold ADH;rw[BL hcd];exact⟨rfl,.new _ _ _,hcd⟩
 intro x hx;simp only[CB] at hx;subst hx;exact⟨h4.size,λhm=>by have:=h1.lt _ hm;omega⟩
def Jn (cd:Int):List JG:=ADH {data:=#[99,108,101,97,110,117,112]} 0 cd
theorem iK{G:Bh}(h:EJ w G S)(hi:Inv B S)(hB:2*B+2<=1073741824):
  Au Ae 21 #[.pointer (AA ⟨G.b,0,AB⟩)] w (TJ w G S.clean.1 (Jn S.clean.2)):=by
 have HF:=AO h;have HI:=AO hi;clear h hi;have q1:= @ATj;have q2:= @AKb;have q3:= @AKa;go_enter ANm,Tryz.ntmps21;(go_wp2_with fail);refine (ADG HF.out HI.out hB).mono ?_
 generalize S.clean=R at*
 obtain⟨S1,cd⟩:=R;rintro e w1 ⟨rfl,hT⟩;have HT:=AO hT;clear hT;by_cases he:cd=0
 ·subst he
  go_wp2_with (first
   |(go_at_call 38;refine (Yc 0 _).mono ?_;rintro e w2 ⟨rfl,rfl⟩)
   |(go_at_call 37;refine (wrap_nil _ _ _).mono ?_;rintro e w3 ⟨rfl,rfl⟩))
  go_ret;exact .nil HT.out
 have HE:=AO he;clear he
 go_wp2_with (first
  |(go_at_call 38;refine (Yc cd _).mono ?_;rintro e w2 ⟨rfl,rfl⟩;rw[BL HE.out])
  |(go_at_call 37;refine (Yd _ _ _ _ _).mono ?_;rintro e w3 ⟨rfl,rfl⟩))
 go_ret;exact .one HT.out HE.out
end
section
variable {d:Int}{zs:List Int}{n:Nat}{w:AL}
theorem Jd:Ae.underlying 62=AA (.slice 5):=wU
def KZ (d:Nat) (l:List Int):List (List Int):=
 match l with| []=>[]|x::r=>((x::r).take (d+1))::KZ d (r.drop d)
 termination_by l.length
 decreasing_by simp;omega
theorem VJ(d:Nat):KZ d []=[]:=by unfold KZ;rfl
theorem Ye(d:Nat)(l:List Int)(h:l≠[]):KZ d l=l.take (d+1)::KZ d (l.drop (d+1)):=by
 cases l with|nil=>exact Ak rfl h|cons x r=>rw[KZ];rfl
theorem AFa(d:Nat)(p:List Int)(h0:p≠[])(h:p.length<=d+1):KZ d p=[p]:=by
 rw[Ye d p h0,Ea h,Pz h,VJ]
theorem Z8(d:Nat): ∀(n:Nat) (l:List Int),l.length=n->(KZ d l).flatten=l:=by
 intro n
 induction n using eX with
 |_ n ih=>
  intro l hl;by_cases h:l=[];subst h;rw[VJ];rfl
  rw[Ye d l h,Js,ih (l.drop (d+1)).length (by
   have:0<l.length:=AF6.2 h
   simp;omega) _ rfl,YF]
theorem xZ(d:Nat): ∀(n:Nat) (l:List Int),l.length=n->∀p∈KZ d l,0<p.length/\p.length<=n:=by
 intro n
 induction n using eX with
 |_ n ih=>
  intro l hl p hp;by_cases h:l=[];subst h;rw[VJ] at hp;cases hp;have h0:0<l.length:=AF6.2 h;rw[Ye d l h] at hp;rcases BF.1 hp with rfl|hp;simp;omega;have:=ih (l.drop (d+1)).length (by simp;omega) _ rfl p hp;simp at this;omega
def UJ (size:Int) (n:Nat):Nat:=if size<1 then n - 1 else size.toNat - 1
theorem Aj.ntmps47:Aj.f47.ntmps=20:=rfl
def Yf (zs:List Int) (size:Int):AQ:=.func (.func 79) #[] #[.string (Fa zs),.int .i64 ((UJ size zs.length+1:Nat):Int)]
theorem Z9{size:Int}(hl:zs.length=n)(h:d=((UJ size n+1:Nat):Int)):Ending.returned (.func (.func 79) #[] #[.string (Fa zs),.int .i64 d])=.returned (Yf zs size):=by subst hl;subst h;rfl
theorem jo{A:Option Ag}{c:Nat}{size:Int}(hn:n<=1073741824)(hrd:Rd w 1 A n c (bv zs))(hb: ∀x∈zs,0<=x/\x<=255)(hs:size<=9223372036854775807):
  Au Ae 47 #[.slice A n c,.int .i64 size] w λe w'=>e=.returned (Yf zs size)/\w'=w:=by
 (have hl:zs.length=n:=by have:=hrd.1;simp at this;omega);have h1:=qK hrd;(have hsz:(Fa zs).size=n:=by rw[strOfNums_size];exact hl);(have i1:(n:Int)<=1073741824:=by omega);have HR:=AO hrd;have HL:=AO hl;have HB:=AO hb;clear hrd hl hb;go_enter AB7,Aj.ntmps47;go_wp2;unfold Aj.JR;go_loopw [11] (λi wr=>∃(k:Nat),k<=n/\i=.int .i64 k/\wr=w) (λi _=>n - (intOf i).toNat)
 case atStart=>exact⟨0,DW _,rfl,rfl⟩
 obtain⟨k,hk,rfl,rfl⟩:=hrel;by_cases hlt:k<n
 ·obtain⟨ad,x,rfl,hx,hcell⟩:=qA HR.out hlt;have hx2:=HB.out x (Bi hx);(have q1:decide (0<=x)=true:=by simpa using hx2.1);(have q2:decide (x<=255)=true:=by simpa using hx2.2);have HX:=AO hx2;clear hx hx2;go_wp2;go_roundw
  case rel=>exact⟨k+1,Aa,by go_num,Ar⟩
  simp[intOf];omega
 (have hkn:k=n:=by omega);by_cases hs1:size<1
 ·(have q1:decide (size<1)=true:=by simpa using hs1);have HS:=AO hs1;by_cases hn0:n<1
  ·have HN0:=AO hn0;go_wp2;unfold Aj.Ia;go_wp2;all_goals (go_ret;exact⟨Z9 HL.out (by unfold UJ;have:=HS.out;rw[BU this];have:=HN0.out;omega),rfl⟩)
  have HN0:=AO hn0;go_wp2;unfold Aj.Ia;go_wp2;all_goals (go_ret;exact⟨Z9 HL.out (by unfold UJ;have:=HS.out;rw[BU this];have:=HN0.out;omega),rfl⟩)
 (have q1:decide (size<1)=false:=by simpa using hs1);have HS:=AO hs1;go_wp2;unfold Aj.Ia;go_wp2;all_goals (go_ret;exact⟨Z9 HL.out (by unfold UJ;have:=HS.out;rw[BL (show ¬size<1 by omega)];omega),rfl⟩)
theorem AIP:Ae.underlying 9=AA .string:=Kv
theorem rF{ys:List Int}(hb: ∀x∈ys,0<=x/\x<=255):Lib.strCells (Fa ys)=bv ys:=by
 unfold Lib.strCells;rw[strOfNums_data,En];apply Hm;intro x hx;have:=hb x hx;simp;omega
theorem TK(zs:List Int)(i j:Nat):(Fa zs).extract i j=Fa ((zs.drop i).take (j - i)):=by
 apply ByteArray.ext;apply Array.ext';rw[AF4,AF5,strOfNums_data,strOfNums_data,List.extract_eq_take_drop,Jg,List.map_drop]
theorem dh{ops:Array Oper}{rest:List Oper}{o:Oper}{a:Act}{Q:Exit->Act->AL->Prop}(hgd:o.guard=AB)(s x:Operand)
  (ho:o.op=.call {callee:=.builtin .append,args:=#[s,x],argTypes:=#[62,9]}) {ys:List Int} (hb: ∀x∈ys,0<=x/\x<=255)
  (hs:a.eval s=.slice AB 0 0) (hx:a.eval x=.string (Fa ys)) (hl:ys.length<=1073741824)
  (h: ∀A' c' w',Own w' 5 1 A' ys.length c' (bv ys)->AZ [] w w'->(∀k∈bo A',w.heap.size<=k)->wpList Ae ops Q rest (a.put o.dst (.slice A' ys.length c')) w'):
  wpList Ae ops Q (o::rest) a w:=by
 have hi: ∃ie,Ae.info? 5=AA ie/\ie.zero=AA (.int .u8 0)/\ie.size=1/\ie.bytes=1:=by
  (have h:(Ae.info? 5).map (λi=>(i.zero,i.size,i.bytes))=AA (AA (.int .u8 0),1,1):=by kernel_rfl);exact info_parts h
 obtain⟨ie,hi1,hi2,hi3,hi4⟩:=hi;have hsz:(Fa ys).size=ys.length:=strOfNums_size ys;refine Lib.wpList_append_own_string (P:=Ae) w hgd s x 62 9 ho w.heap.size 5 ie Jd AIP hi1 hi2 hi3 hi4 (.slice AB 0 0) 0 [] hs (World.ownsRow_nil w _ 5 1) (Fa ys) hx (by rw[hsz];unfold ER;omega) (by rw[hsz];omega) (Bd _) ?_;intro v' w' hown hg hnil;rw[rF hb,hsz,EE,Ky] at hown;have EI:AZ [] w w':=AZ.wV hg;rcases hown.2 with ⟨h1,h2⟩|⟨g,cap,cur,h1,hb2,h3⟩
 ·subst h1;have:=h AB 0 w' (by rw[h2];have hz:bv ys=[]:=RD (by simp[h2]);rw[hz];exact Own.nil _ _ _) EI AV;rwa[h2] at this
 subst h1;exact h _ _ w' ⟨hown.1,.inr ⟨g,cap,cur,rfl,DW _,h3⟩⟩ EI (λk hk=>by simp at hk;omega)
theorem AUf(p:Array AQ)(w:AL):(E8 79 p).run Ae w=.ok (.enter 79 p) w:=BV (f:=79) (fn:=Aj.f79) oh rfl Az p w
theorem Aj.ntmps79:Aj.f79.ntmps=8:=rfl
theorem Aj.ntmps46:Aj.f46.ntmps=19:=rfl
theorem ALX{s:ByteArray}(h0:0<=d)(h1:d<=9223372036854775807):Au Ae 79 #[.int .i64 0,.int .i64 0,.int .i64 0,.int .i64 0,.int .i64 0,.string s,.int .i64 d] w λe w'=>e=.returned (.tuple #[.string s,.int .i64 d])/\w'=w:=by
 go_enter oh,Aj.ntmps79;go_wp2
 go_ret2
 exact⟨rfl,rfl⟩
theorem ALY{d lo:Nat}{C:List (List Int)}{k:Nat}(h:KZ d (zs.drop lo)=C.drop k)(hlo:lo<zs.length):
  C[k]? =AA ((zs.drop lo).take (d+1))/\KZ d (zs.drop (lo+(d+1)))=C.drop (k+1):=by
 rw[Ye d _ (by intro e;have:=congrArg NZ e;simp at this;omega),YH] at h;constructor
 ·(have h1:(C.drop k)[0]? =AA ((zs.drop lo).take (d+1)):=by rw[<- h];rfl);simpa using h1
 (have h2:(C.drop k).drop 1=KZ d (zs.drop (lo+(d+1))):=by rw[<- h];rfl);rw[YH] at h2;exact h2.symm
def Cpd (S:Nat->AL->Prop) (E:Nat->Int->AL->Prop) (N:Nat) (e:Fe) (w':AL):Prop:=
 (e=.returned (.tuple #[.int .i64 (N:Int),.int .i64 0])/\S N w')\/(∃(k:Nat) (c:Int),k<N/\c≠0/\e=.returned (.tuple #[.int .i64 (k:Int),.int .i64 c])/\E k c w')
def Tkn (S:Nat->AL->Prop) (E:Nat->Int->AL->Prop) (k:Nat) (e:Fe) (w':AL):Prop:=
 (e=.returned (.int .i64 0)/\S (k+1) w')\/(∃c:Int,(c==0)=false/\(c !=0)=true/\Hid (c≠0)/\c*1=c/\0<=c/\c<=1000/\e=.returned (.int .i64 c)/\E k c w')
theorem AFb{size:Int}{rv:AQ}{S:Nat->AL->Prop}{E:Nat->Int->AL->Prop}(hb: ∀x∈zs,0<=x/\x<=255)(hn:zs.length<=1073741824)(hs:size<=9223372036854775807)(h0:S 0 w)
  (hT: ∀(k:Nat) (p:List Int) (wr w2:AL) (A:Option Ag) (c:Nat),(KZ (UJ size zs.length) zs)[k]? =AA p->S k wr->AZ [] wr w2->Own w2 5 1 A p.length c (bv p)->(∀j∈bo A,wr.heap.size<=j)->
   Au Ae 177 #[rv,.slice A p.length c] w2 (Tkn S E k)):
  Au Ae 46 #[Yf zs size,.iface 109 rv] w (Cpd S E (KZ (UJ size zs.length) zs).length):=by
 unfold Yf;have hcl:(Fa zs).size=zs.length:=strOfNums_size zs
 generalize hd:UJ size zs.length=d at*
 generalize hC:KZ d zs=C at*
 generalize hN:zs.length=n at*
 (have hd1:(d:Int)+1<=9223372036854775807:=by subst hd;unfold UJ;split<;>omega);have HT:=AO hT;have HB:=AO hb;have HC:=AO hC;have HN:=AO hN;have H0:=AO h0;(have hm: ∀w,(method 392 109 rv "Take").run Ae w=.ok (177,rv) w:=λ_=>by kernel_rfl);clear hT hb hC hN h0 hd;have ASb:=AUf;have AVI:= @ARO;go_enter wH,Aj.ntmps46;(go_wp2_with (go_at_call 79;refine (ALX Aa Aa).mono ?_;rintro e w1 ⟨rfl,rfl⟩));unfold Aj.loop;go_loopw [4,5,8] (λc e lo wr=>∃k l:Nat,c=.int .i64 k/\e=.int .i64 0/\lo=.int .i64 l/\l<=n/\k<=l/\k<=C.length/\KZ d (zs.drop l)=C.drop k/\S k wr) (λ_ _ l _=>n - (intOf l).toNat)
 case atStart=>exact⟨0,0,rfl,rfl,rfl,DW _,Bd _,DW _,by rw[aj,aj];exact HC.out,H0.out⟩
 obtain⟨k,l,rfl,rfl,rfl,hl,hkl,hkC,hcut,hS⟩:=hrel;by_cases hlt:l<n
 ·have q:=ALY hcut (by rw[HN.out];exact hlt);have HQ:=AO q;have HS:=AO hS;clear q hcut hS;by_cases hm1:d+1<=n - l
  ·(have hm2: ¬(n:Int) - (l:Int)<(d:Int)+1:=by omega);have HM:=AO hm1;obtain⟨ys,hys⟩: ∃ys,ys=(zs.drop l).take (d+1):=⟨_,rfl⟩;(have hyl:ys.length=(d+1):=by rw[hys,I7,Tf,HN.out];omega);have HSL:Hid ((Fa zs).extract l ((l:Int)+min ((d:Int)+1) ((n:Int) - l)).toNat=Fa ys):=AO (by rw[TK,hys];congr 2;omega);have HYS:=AO hys;have HYL:=AO hyl;have hyb: ∀x∈ys,0<=x/\x<=255:=λx hx=>HB.out x (by rw[hys] at hx;exact List.drop_subset _ _ (List.take_subset _ _ hx));have HYB:=AO hyb;clear hys hyb hyl
   go_wp2_with (first
    |(at_builtin;refine dh rfl _ _ rfl HYB.out rfl (by first|rfl|exact congrArg WL HSL.out) (by have:=HYL.out;omega) ?_;intro A1 c1 w1 hown1 Zn qC)
    |(go_at_call 177;refine (HT.out k ys _ _ _ _ (by rw[HYS.out];exact HQ.out.1) HS.out Zn hown1 qC).mono ?_;rintro e w3 (⟨rfl,hS3⟩|⟨ec,hec,AUg,HEC,AUh,AUi,AUj,rfl,hE3⟩)))
   all_goals (have hkl2:k<C.length:=(CP.1 HQ.out.1).1)
   all_goals first
    |(refine⟨⟨k+1,l+(d+1),by go_num,rfl,by first|go_num|(congr 1;omega),Aa,Aa,hkl2,HQ.out.2,hS3⟩,?_⟩
      all_goals (simp[intOf];omega;done))
    |(go_ret2;exact .inr ⟨k,ec,hkl2,HEC.out,rfl,hE3⟩)
  (have hm2:(n:Int) - (l:Int)<(d:Int)+1:=by omega);have HM:=AO hm1;obtain⟨ys,hys⟩: ∃ys,ys=(zs.drop l).take (d+1):=⟨_,rfl⟩;(have hyl:ys.length=(n - l):=by rw[hys,I7,Tf,HN.out];omega);have HSL:Hid ((Fa zs).extract l ((l:Int)+min ((d:Int)+1) ((n:Int) - l)).toNat=Fa ys):=AO (by rw[TK,hys,Ea (by rw[Tf,HN.out];omega),Ea (by rw[Tf,HN.out];omega)]);have HYS:=AO hys;have HYL:=AO hyl;have hyb: ∀x∈ys,0<=x/\x<=255:=λx hx=>HB.out x (by rw[hys] at hx;exact List.drop_subset _ _ (List.take_subset _ _ hx));have HYB:=AO hyb;clear hys hyb hyl
  go_wp2_with (first
   |(at_builtin;refine dh rfl _ _ rfl HYB.out rfl (by first|rfl|exact congrArg WL HSL.out) (by have:=HYL.out;omega) ?_;intro A1 c1 w1 hown1 Zn qC)
   |(go_at_call 177;refine (HT.out k ys _ _ _ _ (by rw[HYS.out];exact HQ.out.1) HS.out Zn hown1 qC).mono ?_;rintro e w3 (⟨rfl,hS3⟩|⟨ec,hec,AUg,HEC,AUh,AUi,AUj,rfl,hE3⟩)))
  all_goals (have hkl2:k<C.length:=(CP.1 HQ.out.1).1)
  all_goals first
   |(refine⟨⟨k+1,n,by go_num,rfl,by first|go_num|(congr 1;omega),Bd _,Aa,hkl2,by rw[<- HQ.out.2,Pz (by rw[HN.out];omega),Pz (by rw[HN.out];omega)],hS3⟩,?_⟩
     all_goals (simp[intOf];omega;done))
   |(go_ret2;exact .inr ⟨k,ec,hkl2,HEC.out,rfl,hE3⟩)
 (have hk:(C.drop k)=[]:=by rw[<- hcut,Pz (by rw[HN.out];omega),VJ]);go_wp2
 go_ret2
 have hk2:k=C.length:=by
  have:=List.drop_eq_nil_iff.1 hk;omega
 subst hk2;exact .inl ⟨rfl,hS⟩
end
section
variable {nm:ByteArray}{zs:List Int}{dv:AQ}
def rG (w:AL) (G:Bh) (R:St×Int) (e:Fe) (w':AL):Prop:=e=.returned (.int .i64 R.2)/\DK w G R.1 w'
abbrev Pg (G:Bh):AQ:=.pointer (AA ⟨G.b,0,AB⟩)
section
variable {w:AL} {G:Bh} {S:St} {B b3 b4 bf:Nat}
theorem uw(h:EJ w G S)(hi:Inv B S)(hB:B<=1073741824)(h3:w.cell? ⟨b3,0,AB⟩=AA (Pg G)):
  Au Ae 41 #[.pointer (AA ⟨b3,0,AB⟩)] w (rG w G (S.Cb BO)):=by
 have k1:=AH1 h hi hB BO;have HK:=AO k1;clear k1 h hi;have q1:= @ATU;unfold Pg at h3;go_enter ANx,Tryz.ntmps41;(go_wp2_with (go_at_call 42;refine HK.out.mono ?_;rintro e w1 ⟨rfl,hT⟩));go_ret;exact⟨rfl,hT⟩
theorem rH(h:EJ w G S)(hi:Inv B S)(hB:B+1<=1073741824)(h3:w.cell? ⟨b3,0,AB⟩=AA (Pg G))(hf:Bv w bf 64 #[.string nm,dv]):
  Au Ae 43 #[.pointer (AA ⟨b3,0,AB⟩),.pointer (AA ⟨bf,0,AB⟩)] w (rG w G (S.create BO nm)):=by
 have k1:=AFM h hi hB BO nm;have HK:=AO k1;have h4:w.cell? ⟨bf,0,AB⟩=AA (.string nm):=hf.cell 0;clear k1 h hi hf;have q1:= @ATW;unfold Pg at h3;go_enter ANz,Tryz.ntmps43;(go_wp2_with (go_at_call 44;refine HK.out.mono ?_;rintro e w1 ⟨rfl,hT⟩));go_ret;exact⟨rfl,hT⟩
theorem AAq(h:EJ w G S)(hi:Inv B S)(hB:B<=1073741824)(h3:w.cell? ⟨b3,0,AB⟩=AA (Pg G))(hf:Bv w bf 64 #[.string nm,dv]):
  Au Ae 48 #[.pointer (AA ⟨b3,0,AB⟩),.pointer (AA ⟨bf,0,AB⟩)] w (rG w G (S.sync BO nm)):=by
 have k1:=ALB h hi BO nm hB;have HK:=AO k1;have h4:w.cell? ⟨bf,0,AB⟩=AA (.string nm):=hf.cell 0;clear k1 h hi hf;have q1:= @ATb;unfold Pg at h3;go_enter AN2,Tryz.ntmps48;(go_wp2_with (go_at_call 49;refine HK.out.mono ?_;rintro e w1 ⟨rfl,hT⟩));go_ret;exact⟨rfl,hT⟩
theorem rJ(h:EJ w G S)(hi:Inv B S)(hB:B<=1073741824){dst:ByteArray}(h3:w.cell? ⟨b3,0,AB⟩=AA (Pg G))(h4:w.cell? ⟨b4,0,AB⟩=AA (.string dst)):
  Au Ae 51 #[.pointer (AA ⟨b3,0,AB⟩),.pointer (AA ⟨b4,0,AB⟩)] w (rG w G (S.rename BO dst)):=by
 have k1:=AFK h hi hB BO dst;have HK:=AO k1;clear k1 h hi;have q1:= @ATd;unfold Pg at h3;go_enter AN5,Tryz.ntmps51;(go_wp2_with (go_at_call 52;refine HK.out.mono ?_;rintro e w1 ⟨rfl,hT⟩));go_ret;exact⟨rfl,hT⟩
theorem take_any(h:EJ w G S)(hi:Inv B S)(nm:ByteArray)(A:Option Ag)(k c:Nat)(xs:List Int)(hr:Rd w 1 A k c (bv xs))(hB:B+k<=1073741824)(hd: ∀x∈bo A,x∉G.all):
  Au Ae 177 #[.agg #[Pg G,.string nm],.slice A k c] w (rG w G (S.write BO nm xs)):=by
 obtain⟨W,hW⟩: ∃W,w.alloc (.cells #[.pointer (AA ⟨G.b,0,AB⟩),.string nm] 109)=W:=⟨_,rfl⟩;(have hc:AZ [] w W:=by rw[<- hW];exact (AZ.refl [] w).alloc _);(have hb:Bv W w.heap.size 109 #[.pointer (AA ⟨G.b,0,AB⟩),.string nm]:=by rw[<- hW];exact .new _ _ _);have k1:=AH6 (h.Cc hc) hi BO nm A k c xs (hr.Ap hc AV) hB hd;have HK:=AO k1;have HC:=AO hc;have c1:W.cell? ⟨w.heap.size,0,AB⟩=AA (.pointer (AA ⟨G.b,0,AB⟩)):=hb.cell 0;have c2:W.cell? ⟨w.heap.size,1,AB⟩=AA (.string nm):=hb.cell 1;clear k1 h hi hr hc hb;have q1:= @ARP;go_enter AKQ,Tryz.ntmps177;(go_wp2_with (first|(go_at_call 178;refine HK.out.mono ?_;rintro e w1 ⟨rfl,hT⟩)|(rw[hW])|(simp only[hW])));go_ret;exact⟨rfl,.before HC.out hT⟩
end
def St.puts (n:ByteArray) (S:St):List (List Int)->St×Int
 | []=>(S,0)|p::r=>if (S.write BO n p).2=0 then St.puts n (S.write BO n p).1 r else S.write BO n p
theorem ALZ{n:ByteArray}{S:St}{l:List (List Int)}{j:Nat}{x:List Int}(h:l[j]? =AA x):St.puts n S (l.drop j)=if (S.write BO n x).2=0 then St.puts n (S.write BO n x).1 (l.drop (j+1)) else S.write BO n x:=by
 obtain⟨hl,rfl⟩:=CP.1 h;rw[VN hl];rfl
theorem AIQ(S:St)(t:Bool)(ns:List ByteArray):0<=S.ask t ns/\S.ask t ns<=1000:=by
 unfold St.ask;split;decide;split;decide;split<;>decide
theorem AIR(S:St)(d n:ByteArray):0<=(S.Om d n).2/\(S.Om d n).2<=1000:=by
 unfold St.Om;split;exact AIQ S true [d,n];split<;>exact⟨AV,AV⟩
theorem ADI(S:St)(d n:ByteArray)(xs:List Int):0<=(S.write d n xs).2/\(S.write d n xs).2<=1000:=by
 have h:=AIR S d n;unfold St.write;split
 ·rename_i e he;rw[he] at h;exact h
 split;exact⟨AV,AV⟩;split<;>exact⟨AV,AV⟩
def Qu (C:List (List Int)):Nat:=(C.map λp=>p.length+2).sum
theorem ADJ{C:List (List Int)}{k:Nat}{p:List Int}(h:C[k]? =AA p):Qu (C.take (k+1))=Qu (C.take k)+(p.length+2):=by
 unfold Qu;rw[Py,h];simp
theorem rM(C:List (List Int))(k:Nat):Qu (C.take k)<=Qu C:=by
 unfold Qu;rw[Jg];exact Rh _ _
theorem jq(d:Nat)(l:List Int):Qu (KZ d l)<=3*l.length:=by
 have h1:=Z8 d l.length l rfl;have h2:=xZ d l.length l rfl
 generalize KZ d l=C at*
 rw[<- h1];clear h1;unfold Qu;rw[List.length_flatten];have: ∀p∈C,0<p.length:=λp hp=>(h2 p hp).1;clear h2
 induction C with
 |nil=>simp|cons p r ih=>
  simp only[BN,Bz];have h3:=ih (λq hq=>this q (DD _ hq));have h4:=this p (Ee ..);omega
theorem Inv.puts{n:ByteArray}: ∀(C:List (List Int)) {B:Nat} {S:St},Inv B S->Inv (B+Qu C) (St.puts n S C).1
 | [],B,S,h=>h.mono Aa
 |p::r,B,S,h=>by
  have h1:=h.write BO n p;unfold St.puts;split;exact (Inv.puts r h1).mono (by simp only[Qu,BN,Bz];omega);exact h1.mono (by simp only[Qu,BN,Bz];omega)
def V4 (xs:List Int):List (List Int):=KZ 511 xs
theorem ANJ(xs:List Int):KZ (UJ 512 xs.length) xs=V4 xs:=rfl
section
variable {w:AL} {G:Bh} {S:St} {B:Nat}
def CpS (w:AL) (G:Bh) (S:St) (B:Nat) (nm:ByteArray) (C:List (List Int)) (k:Nat) (wr:AL):Prop:=
 ∃S1,DK w G S1 wr/\Inv (B+Qu (C.take k)) S1/\St.puts nm S C=St.puts nm S1 (C.drop k)
def CpE (w:AL) (G:Bh) (S:St) (nm:ByteArray) (C:List (List Int)) (_:Nat) (c:Int) (wr:AL):Prop:=
 ∃S1,DK w G S1 wr/\St.puts nm S C=(S1,c)
theorem AFc(h:EJ w G S)(hi:Inv B S)(nm:ByteArray)(hb: ∀x∈zs,0<=x/\x<=255)(hB:B+3*zs.length<=1073741824):
  Au Ae 46 #[Yf zs 512,.iface 109 (.agg #[Pg G,.string nm])] w λe w'=>∃k:Int,e=.returned (.tuple #[.int .i64 k,.int .i64 (S.puts nm (V4 zs)).2])/\DK w G (S.puts nm (V4 zs)).1 w':=by
 have hp:=jq (UJ 512 zs.length) zs;refine (AFb (rv:=.agg #[Pg G,.string nm]) (S:=CpS w G S B nm (KZ (UJ 512 zs.length) zs)) (E:=CpE w G S nm (KZ (UJ 512 zs.length) zs)) hb Aa Aa ?_ ?_).mono ?_;exact⟨S,.same h (.refl _ _),hi.mono Aa,rfl⟩
 ·intro k p wr w2 A c hk hS hch ho hnew;obtain⟨S1,⟨G1,h1,h2,h3,h4⟩,hI,hE⟩:=hS;have hb1:=ADJ hk;have hb2:=rM (KZ (UJ 512 zs.length) zs) (k+1);have k1:=take_any (h1.Cc hch) hI nm A p.length c p ho.rd Aa (λx hx hm=>by have:=h1.lt x hm;have:=hnew x hx;omega);unfold Pg at k1⊢;rw[h2] at k1;rw[ALZ hk] at hE;have hW:=hI.write BO nm p;have hcd:=ADI S1 BO nm p;refine k1.mono ?_
  generalize S1.write BO nm p=R at*
  obtain⟨S2,cd⟩:=R;rintro e w3 ⟨rfl,hT⟩;have hT2:DK w G S2 w3:=.trans h3 h2 h4 (.before hch hT);by_cases hc:cd=0
  ·subst hc;rw[BU rfl] at hE;exact .inl ⟨rfl,S2,hT2,hW.mono Aa,hE⟩
  rw[BL hc] at hE;exact .inr ⟨cd,by simp[hc],by simp[hc],AO hc,Aa,hcd.1,hcd.2,rfl,S2,hT2,hE⟩
 intro e w' hh;rw[<- ANJ];rcases hh with ⟨rfl,S1,hT,_,hE⟩|⟨k,c,_,_,rfl,S1,hT,hE⟩
 ·rw[Pz (Bd _)] at hE;rw[hE];exact⟨_,rfl,hT⟩
 rw[hE];exact⟨_,rfl,hT⟩
theorem uy{b3 bf:Nat}(h:EJ w G S)(hi:Inv B S){A:Option Ag}{n c:Nat}(hd:Rd w 1 A n c (bv zs))(hb: ∀x∈zs,0<=x/\x<=255)(hB:B+3*zs.length<=1073741824)
  (h3:w.cell? ⟨b3,0,AB⟩=AA (Pg G)) (hf:Bv w bf 64 #[.string nm,.slice A n c]) (hn3:b3∉G.all) (hnf:bf∉G.all):
  Au Ae 45 #[.pointer (AA ⟨bf,0,AB⟩),.pointer (AA ⟨b3,0,AB⟩)] w (rG w G (S.puts nm (V4 zs))):=by
 have hl:=hd.ADA;have HD:=AO hd;have HB:=AO hb;have HN:Hid (n<=1073741824):=AO Aa;have h4:w.cell? ⟨bf,0,AB⟩=AA (.string nm):=hf.cell 0;have h5:w.cell? ⟨bf,1,AB⟩=AA (.slice A n c):=hf.cell 1;have H3:Hid (∀w',AZ G.all w w'->w'.cell? ⟨b3,0,AB⟩=AA (.pointer (AA ⟨G.b,0,AB⟩))):=AO λw' hc=>hc.cell h3 hn3;have H4:Hid (∀w',AZ G.all w w'->w'.cell? ⟨bf,0,AB⟩=AA (.string nm)):=AO λw' hc=>hc.cell h4 hnf;have H5:Hid (∀w',AZ G.all w w'->w'.cell? ⟨bf,1,AB⟩=AA (.slice A n c)):=AO λw' hc=>hc.cell h5 hnf;have HDR:Hid (AZ G.all w w.drew):=AO (AZ.refl G.all w).drew
 have iC:Hid (Au Ae 46 #[Yf zs 512,.iface 109 (.agg #[Pg G,.string nm])] w.drew λe w'=>∃k:Int,e=.returned (.tuple #[.int .i64 k,.int .i64 (S.puts nm (V4 zs)).2])/\DK w G (S.puts nm (V4 zs)).1 w'):=AO (by
  refine (AFc (h.Cc (AZ.refl [] w).drew) hi nm hb hB).mono ?_;rintro e w' ⟨k,h1,h2⟩
  exact⟨k,h1,.before (AZ.refl [] w).drew h2⟩)
 clear h hi hd hb hf h3 h4 h5;have q1:= @ATZ;have q2:= @ATY;go_enter AN1,Tryz.ntmps45;(go_wp2_with fail);refine Ew (S:=λw'=>AZ G.all w w') Az ((AZ.refl G.all w).drew) (λhHeld=>?_);refine tk 0 ?_;refine F9 1 (λw' hSw=>H5.out _ hSw) ?_;refine F9 3 (λw' hSw=>H3.out _ hSw) ?_;refine tk 4 ?_;refine F9 5 (λw' hSw=>H4.out _ hSw) ?_;refine tk 6 ?_;refine Oz (rs:=[2,7]) Az AV ?_;refine Gp rfl (λK hK=>?a11) (Gp rfl (λK hK=>?b11) (O0))
 case' a11=>
  go_simp;refine (jo (size:=512) HN.out (HD.out.Ap (AZ.drew (AZ.refl [] w)) AV) HB.out Aa).mono ?_;rintro e w1 ⟨rfl,rfl⟩;refine hK.out _ _ (hHeld) (λhHeld=>?_);(try simp only[BG,Bg]);clear hK K;refine EM 7 λK hK=>?_;go_simp
 case' b11=>
  go_simp;refine hK.out _ _ (hHeld) (λhHeld=>?_);(try simp only[BG,Bg]);clear hK K;refine EM 2 λK hK=>?_;go_simp;refine (jo (size:=512) HN.out (HD.out.Ap (AZ.drew (AZ.refl [] w)) AV) HB.out Aa).mono ?_;rintro e w1 ⟨rfl,rfl⟩
 all_goals
  refine hK.out _ _ (hHeld) (λhHeld=>?_);(try simp only[BG,Bg]);clear hK K;refine EM 8 λK hK=>?_;go_simp;refine iC.out.mono ?_;rintro e w1 ⟨k,rfl,hT⟩;go_simp;refine hK.out _ _ (hT.Ap) (λhHeld=>?_);(try simp only[BG,Bg]);clear hK K;refine tk 9 ?_;refine tk 10 ?_;refine tk 11 ?_;refine tk 12 ?_;refine tk 13 ?_;refine Ej Az ?_ _;(try simp only[BG,Bg]);go_wp2;go_ret;exact⟨rfl,hT⟩
end
end
section
variable {u:FrameMode}{f:JG}{fs gs:List JG}{L:List Nat}{b3 b6 bb:Nat}{S':St}{v:AQ}{w w1:AL}
theorem ADK(cd:Int):(Jn cd).length<=1:=by unfold Jn ADH;split<;>simp
theorem JX.rO(h:JX w v L gs)(hg:gs.length<=1):(v=.nilIface/\L=[]/\gs=[])\/∃b g,L=[b]/\gs=[g]/\Q5 w b v g:=by
 unfold JX at h;split at h;exact .inl ⟨h,rfl,rfl⟩;exact .inr ⟨_,_,rfl,rfl,h⟩;simp at hg;exact h.elim
theorem ALa{u:AQ}(hv:Q5 w bb v f)(hu:JX w u L gs)(hg:gs.length<=1):
  Au Ae 40 #[v,u] w λe w'=>∃(t:Am) (y:AQ) (L':List Nat),e=.returned (.iface t y)/\JX w' (.iface t y) L' (f::gs)/\AZ [] w w'/\∀x∈L',x=bb\/x∈L\/w.heap.size<=x:=by
 rcases hu.rO hg with ⟨rfl,rfl,rfl⟩|⟨b,g,rfl,rfl,hb⟩
 ·have h1:=hv.1;subst h1;refine (AIJ _ _ w).mono ?_;rintro e w' ⟨rfl,rfl⟩;exact⟨_,_,[bb],rfl,hv,.refl _ _,AV⟩
 have h1:=hv.1;have h2:=hb.1;subst h1;subst h2;refine (AIK _ _ _ _ w).mono ?_;rintro e w' ⟨rfl,rfl⟩;have hc:AZ [] w (w.alloc (.cells #[.iface 140 (.pointer (AA ⟨bb,0,AB⟩)),.iface 140 (.pointer (AA ⟨b,0,AB⟩))] 152)):=(AZ.refl [] w).alloc _;refine⟨_,_,[w.heap.size,bb,b],rfl,⟨_,_,rfl,.new _ _ _,hv.Ap hc AV,hb.Ap hc AV⟩,hc,?_⟩;intro x hx;simp only[BF,BH,or_false] at hx;rcases hx with rfl|rfl|rfl;exact .inr (.inr (Bd _));exact .inl rfl;exact .inr (.inl AV)
theorem TJ.before{G:Bh}{e:Fe}{w':AL}(hc:AZ [] w w1)(h:TJ w1 G S' fs e w'):TJ w G S' fs e w':=by
 obtain⟨v,G',L,h1,h2,h3,h4,h5,h6,h7⟩:=h;exact⟨v,G',L,h1,h2,h3,h4,λx hx=>(h5 x hx).imp id (Cj hc.size),(hc.nil _).trans h6 (λx hx=>.inl hx),λx hx=>⟨Cj hc.size (h7 x hx).1,(h7 x hx).2⟩⟩
theorem ALb(h6:w.cell? ⟨b6,0,AB⟩=AA .nilIface):
  CallsD Ae 39 #[.pointer (AA ⟨b6,0,AB⟩),.pointer (AA ⟨b3,0,AB⟩)] u w λe u' w'=>u'=u/\(e=.returned (.tuple #[])/\w'=w):=by
 go_enter_d AKE,Tryz.ntmps39
 go_wp2
 go_end0
 exact⟨rfl,rfl⟩
section
variable {w:AL} {G:Bh} {S:St} {B:Nat}
def D39 (w:AL) (G:Bh) (b6 bb:Nat) (S':St) (fs:List JG) (e:Fe) (w':AL):Prop:=
 e=.returned (.tuple #[])/\∃v G' L,w'.cell? ⟨b6,0,AB⟩=AA v/\JX w' v L fs/\EJ w' G' S'/\G'.b=G.b/\(∀x∈G'.all,x∈G.all\/w.heap.size<=x)/\AZ (b6::G.all) w w'/\∀x∈L,x∉G'.all/\(x=bb\/w.heap.size<=x)
theorem AIS{w2:AL}{G1:Bh}{L1 L2:List Nat}{t2:Am}{y2:AQ}(hQ:AZ G.all w w1)(hC:AZ [] w1 w2)(hE:JX w2 (.iface t2 y2) L2 fs)(hF:EJ w1 G1 S')(hb:G1.b=G.b)
  (hA: ∀x∈G1.all,x∈G.all\/w.heap.size<=x) (hN1: ∀x∈L1,w.heap.size<=x/\x∉G1.all) (hN2: ∀x∈L2,x=bb\/x∈L1\/w1.heap.size<=x) (h6:Bv w2 b6 39 #[v]) (VH:b6∉G.all) (hnb:bb∉G.all) (hlb:bb<w.heap.size) (hne:bb≠b6) (hl:b6<w.heap.size):
  D39 w G b6 bb S' fs (.returned (.tuple #[])) (w2.setCell ⟨b6,0,AB⟩ (.iface t2 y2)):=by
 have h1:=h6.FH 0 (.iface t2 y2);have hcs:AZ [b6] w2 (w2.setCell ⟨b6,0,AB⟩ (.iface t2 y2)):=(AZ.refl [b6] w2).setCell (.inl AV) _;have hz:=hQ.size
 have AG0:b6∉G1.all:=λhm=>by
  rcases hA _ hm with h|h;exact VH h;omega
 have hL2: ∀x∈L2,x≠b6/\x∉G1.all/\(x=bb\/w.heap.size<=x):=λx hx=>by
  rcases hN2 x hx with rfl|h|h
  ·exact⟨hne,λhm=>by
    rcases hA _ hm with h|h;exact hnb h
    omega,.inl rfl⟩
  exact⟨by have:=(hN1 x h).1;omega,(hN1 x h).2,.inr (hN1 x h).1⟩;exact⟨Aa,λhm=>by have:=hF.lt x hm;omega,.inr Aa⟩
 refine⟨rfl,_,G1,L2,h1.cell 0,hE.Ap hcs (λx hx=>by simpa using (hL2 x hx).1),(hF.Cc hC).keep hcs (λx hx hm=>by simp at hm;subst hm;exact AG0 hx),hb,hA,?_,λx hx=>(hL2 x hx).2⟩;exact ((hQ.mono (λx hx=>.inl (DD _ hx))).Ah hC).trans hcs (λx hx=>by simp at hx;subst hx;exact .inl AV)
theorem ALc(h:EJ w G S)(hi:Inv B S)(hB:2*B+2<=1073741824)(h3:w.cell? ⟨b3,0,AB⟩=AA (Pg G))(h6:Bv w b6 39 #[v])(hv:Q5 w bb v f)
  (VH:b6∉G.all) (hnb:bb∉G.all) (hne:bb≠b6):
  CallsD Ae 39 #[.pointer (AA ⟨b6,0,AB⟩),.pointer (AA ⟨b3,0,AB⟩)] u w λe u' w'=>u'=u/\D39 w G b6 bb S.clean.1 (f::Jn S.clean.2) e w':=by
 have HV:=AO hv;have rQ:Hid (bb∉G.all):=AO hnb;have rC:Hid (bb≠b6):=AO hne;have H3:Hid (w.cell? ⟨b3,0,AB⟩=AA (.pointer (AA ⟨G.b,0,AB⟩))):=AO h3;have H6B:Hid (∀w',AZ G.all w w'->Bv w' b6 39 #[v]):=AO λw' hc=>h6.Ap hc VH;have H6:Hid (∀w',AZ G.all w w'->w'.cell? ⟨b6,0,AB⟩=AA v):=AO λw' hc=>(h6.Ap hc VH).cell 0;have HQ1:Hid (AZ G.all w w.drew):=AO (AZ.refl G.all w).drew;have Wq:Hid (Au Ae 21 #[.pointer (AA ⟨G.b,0,AB⟩)] w.drew (TJ w G S.clean.1 (Jn S.clean.2))):=AO ((iK (h.Cc (AZ.refl [] w).drew) hi hB).mono λe w' hh=>hh.before (AZ.refl [] w).drew);have h6c:=h6.cell 0;have HL:Hid (bb<w.heap.size/\b6<w.heap.size):=AO ⟨hv.2.1.lt,h6.lt⟩;obtain⟨hv1,_,_⟩:=hv;subst hv1;clear h hi h3 h6;have q1:= @AKZ;have q2:= @ATS
 go_enter_d AKE,Tryz.ntmps39
 (go_wp2_with fail);refine Ew (S:=λ_=>True) Az (Ar) (λhHeld=>?_);refine Oz (rs:=[0,1]) Az AV ?_;refine Gp rfl (λK hK=>?a12) (Gp rfl (λK hK=>?b12) (O0))
 case' a12=>
  have q:=H6.out _ HQ1.out;go_simp;refine hK.out _ _ (Ar) (λhHeld=>?_);(try simp only[BG,Bg]);clear hK K;refine EM 1 λK hK=>?_;have q:=H3.out;go_simp;refine hK.out _ _ (Ar) (λhHeld=>?_);(try simp only[BG,Bg]);clear hK K;refine EM 2 λK hK=>?_;go_simp;refine Wq.out.mono ?_;rintro e w1 ⟨v1,G1,L1,rfl,hE1,hF1,hG1,hA1,X0,hN1⟩;have HQ2:=AO X0;have rU:=AO hE1;have Gf:=AO hF1;have HA1:=AO hA1;have uz:=AO hN1;clear hE1 hF1 hA1 X0 hN1
 case' b12=>
  have q:=H3.out;go_simp;refine hK.out _ _ (Ar) (λhHeld=>?_);(try simp only[BG,Bg]);clear hK K;refine Oz (rs:=[0,2]) Az AV ?_;refine Gp rfl (λK hK=>?LM) (Gp rfl (λK hK=>?b13) (O0))
  case' LM=>
   have q:=H6.out _ HQ1.out;go_simp;refine hK.out _ _ (Ar) (λhHeld=>?_);(try simp only[BG,Bg]);clear hK K;refine EM 2 λK hK=>?_;go_simp;refine Wq.out.mono ?_;rintro e w1 ⟨v1,G1,L1,rfl,hE1,hF1,hG1,hA1,X0,hN1⟩;have HQ2:=AO X0;have rU:=AO hE1;have Gf:=AO hF1;have HA1:=AO hA1;have uz:=AO hN1;clear hE1 hF1 hA1 X0 hN1
  case' b13=>
   go_simp;refine Wq.out.mono ?_;rintro e w1 ⟨v1,G1,L1,rfl,hE1,hF1,hG1,hA1,X0,hN1⟩;have HQ2:=AO X0;have rU:=AO hE1;have Gf:=AO hF1;have HA1:=AO hA1;have uz:=AO hN1;clear hE1 hF1 hA1 X0 hN1;go_simp;refine hK.out _ _ (Ar) (λhHeld=>?_);(try simp only[BG,Bg]);clear hK K;refine EM 0 λK hK=>?_;have q:=H6.out _ HQ2.out
 all_goals
  go_simp;refine hK.out _ _ (Ar) (λhHeld=>?_);(try simp only[BG,Bg]);clear hK K;refine EM 3 λK hK=>?_;go_simp;refine (ALa (HV.out.Ap HQ2.out rQ.out) rU.out (ADK _)).mono ?_;rintro e w2 ⟨t2,y2,L2,rfl,hE2,hC2,hN2⟩;have hb:=H6B.out _ (HQ2.out.Ah hC2);have hz:=hb.frozen 0;have q:=hb.cell 0;simp only[FV] at q;have HE2:=AO hE2;have HB:=AO hb;have HC2:=AO hC2;have HN2:=AO hN2;clear hE2 hC2 hN2 hb;go_simp;refine hK.out _ _ (Ar) (λhHeld=>?_);(try simp only[BG,Bg]);clear hK K;refine EM 4 λK hK=>?_;go_simp;refine hK.out _ _ (Ar) (λhHeld=>?_);(try simp only[BG,Bg]);clear hK K;refine Ej Az ?_ _;(try simp only[BG,Bg]);go_wp2
  go_end0
  exact AIS HQ2.out HC2.out HE2.out Gf.out hG1 HA1.out uz.out HN2.out HB.out VH rQ.out HL.out.1 rC.out HL.out.2
end
end
section
variable {vs:List AQ}{b3 b4 j m:Nat}{S:St}{f:AQ}{w:AL}
inductive Do where
 |Cb|create (n:ByteArray)|write (n:ByteArray) (xs:List Int)|sync (n:ByteArray)|names|rename (d:ByteArray)
def St.act (S:St):Do->St×Int
 | .Cb=>S.Cb BO| .create n=>S.create BO n| .write n xs=>S.puts n (V4 xs)| .sync n=>S.sync BO n| .names=>S.names| .rename d=>S.rename BO d
def Do.bulk:Do->Nat
 | .write _ xs=>3*xs.length+2|_=>2
theorem Inv.act{B:Nat}{S:St}(h:Inv B S)(d:Do):Inv (B+d.bulk) (S.act d).1:=by
 cases d with|Cb=>exact (h.Cb BO).mono (by simp[Do.bulk])|create n=>exact (h.create BO n).mono (by simp[Do.bulk])|write n xs=>exact (h.puts (n:=n) (V4 xs)).mono (by have:=jq 511 xs;simp only[Do.bulk,V4];omega)|sync n=>exact (h.sync BO n).mono (by simp[Do.bulk])|names=>exact h.names.mono (by simp[Do.bulk])|rename d=>exact (h.rename BO d).mono (by simp[Do.bulk])
structure JH where
 op:ByteArray
 pl:Int
 d:Do
def iL (i:Nat) (f:ByteArray×List Int):List JH:=[⟨{data:=#[99,114,101,97,116,101]},i,.create f.1⟩,⟨{data:=#[119,114,105,116,101]},i,.write f.1 f.2⟩,⟨{data:=#[115,121,110,99]},i,.sync f.1⟩]
def Gy (i:Nat):List (ByteArray×List Int)->List JH
 | []=>[]|f::r=>iL i f++Gy (i+1) r
theorem di(f:ByteArray×List Int): ∀(fs:List (ByteArray×List Int)) (i:Nat),Gy i (fs++[f])=Gy i fs++iL (i+fs.length) f
 | [],i=>by simp[Gy]
 |g::r,i=>by
  simp only[Dn,Gy,di f r (i+1),KJ,EY];rw[show i+1+r.length=i+(r.length+1) by omega]
theorem X3: ∀(fs:List (ByteArray×List Int)) (i:Nat),(Gy i fs).length=3*fs.length
 | [],i=>rfl|g::r,i=>by simp only[Gy,IA,X3 r,iL,EY,Hg];omega
def iM:List JH:=[⟨{data:=#[109,107,100,105,114]},0,.Cb⟩]
def Oq (dst:ByteArray):List JH:=[⟨{data:=#[110,97,109,101,115]},0,.names⟩,⟨{data:=#[114,101,110,97,109,101]},0,.rename dst⟩,⟨{data:=#[115,97,102,101]},0,.names⟩]
def EX (dst:ByteArray) (fs:List (ByteArray×List Int)):List JH:=iM++Gy 0 fs++Oq dst
def St.runT (S:St):List JH->St×List JG
 | []=>(S,[])|t::r=>if (S.act t.d).2=0 then St.runT (S.act t.d).1 r else ((S.act t.d).1,[⟨t.op,t.pl,(S.act t.d).2⟩])
theorem ALd{l:List JH}{t:JH}(h:l[j]? =AA t):St.runT S (l.drop j)=if (S.act t.d).2=0 then St.runT (S.act t.d).1 (l.drop (j+1)) else ((S.act t.d).1,[⟨t.op,t.pl,(S.act t.d).2⟩]):=by
 obtain⟨hl,rfl⟩:=CP.1 h;rw[VN hl];rfl
def St.Jo (S:St) (dst:ByteArray) (fs:List (ByteArray×List Int)):St×List JG:=
 if CO dst=false\/dst=BO then (S,[⟨{data:=#[112,97,116,104,115]},0,81⟩])
 else if S.clean.2≠0 then (S.clean.1,Jn S.clean.2)
 else if (S.clean.1.runT (EX dst fs)).2=[] then S.clean.1.runT (EX dst fs)
 else ((S.clean.1.runT (EX dst fs)).1.clean.1,(S.clean.1.runT (EX dst fs)).2++Jn (S.clean.1.runT (EX dst fs)).1.clean.2)
def JY (ts:List JH):Nat:=(ts.map λt=>t.d.bulk).sum
theorem xe{ts:List JH}{t:JH}(h:ts[j]? =AA t):JY (ts.take (j+1))=JY (ts.take j)+t.d.bulk:=by
 unfold JY;rw[Py,h];simp
theorem rV(ts:List JH)(j:Nat):JY (ts.take j)<=JY ts:=by
 unfold JY;rw[Jg];exact Rh _ _
theorem Inv.runT: ∀(ts:List JH) {B:Nat} {S:St},Inv B S->Inv (B+JY ts) (St.runT S ts).1
 | [],B,S,h=>h.mono Aa
 |t::r,B,S,h=>by
  have h1:=h.act t.d;unfold St.runT;split;exact (Inv.runT r h1).mono (by simp only[JY,BN,Bz];omega);exact h1.mono (by simp only[JY,BN,Bz];omega)
def X4 (fs:List (ByteArray×List Int)):Nat:=(fs.map λf=>3*f.2.length+6).sum
theorem Ui(a b:List JH):JY (a++b)=JY a+JY b:=by unfold JY;rw[FK,YI]
theorem eF: ∀(fs:List (ByteArray×List Int)) (i:Nat),JY (Gy i fs)=X4 fs
 | [],i=>rfl
 |f::r,i=>by
  have h1:X4 (f::r)=(3*f.2.length+6)+X4 r:=rfl;have h2:JY (iL i f)=2+((3*f.2.length+2)+(2+0)):=rfl;rw[Gy,Ui,eF r (i+1),h1,h2];omega
theorem eG(dst:ByteArray)(fs:List (ByteArray×List Int)):JY (EX dst fs)=X4 fs+8:=by
 have h1:JY iM=2:=rfl;have h2:JY (Oq dst)=6:=rfl;unfold EX;rw[Ui,Ui,eF,h1,h2];omega
theorem ADL(fs:List (ByteArray×List Int)):6*fs.length<=X4 fs:=by
 unfold X4
 induction fs with|nil=>simp|cons f r ih=>simp only[BN,Bz,EY];omega
theorem ADM{fs:List (ByteArray×List Int)}{f:ByteArray×List Int}(h:f∈fs):3*f.2.length+6<=X4 fs:=by
 unfold X4
 induction fs with
 |nil=>cases h|cons g r ih=>
  simp only[BN,Bz];rcases BF.1 h with rfl|h;omega;have:=ih h;omega
inductive iO (w:AL) (G:Bh) (b3 b4 m:Nat):Do->AQ->Prop
 |Cb:iO w G b3 b4 m .Cb (.func (.func 41) #[] #[.pointer (AA ⟨b3,0,AB⟩)])|create (b:Nat) (nm:ByteArray) (dv:AQ):Bv w b 64 #[.string nm,dv]->b∉G.all->iO w G b3 b4 m (.create nm) (.func (.func 43) #[] #[.pointer (AA ⟨b3,0,AB⟩),.pointer (AA ⟨b,0,AB⟩)])
 |write (b:Nat) (nm:ByteArray) (A:Option Ag) (n c:Nat) (xs:List Int):Bv w b 64 #[.string nm,.slice A n c]->b∉G.all->Rd w 1 A n c (bv xs)->(∀x∈bo A,x∉G.all/\x<m)->(∀x∈xs,0<=x/\x<=255)->
   iO w G b3 b4 m (.write nm xs) (.func (.func 45) #[] #[.pointer (AA ⟨b,0,AB⟩),.pointer (AA ⟨b3,0,AB⟩)])
 |sync (b:Nat) (nm:ByteArray) (dv:AQ):Bv w b 64 #[.string nm,dv]->b∉G.all->iO w G b3 b4 m (.sync nm) (.func (.func 48) #[] #[.pointer (AA ⟨b3,0,AB⟩),.pointer (AA ⟨b,0,AB⟩)])|names:iO w G b3 b4 m .names (.func (.func 50) #[.pointer (AA ⟨G.b,0,AB⟩)] #[])|rename (d:ByteArray):w.cell? ⟨b4,0,AB⟩=AA (.string d)->b4∉G.all->b4<m->iO w G b3 b4 m (.rename d) (.func (.func 51) #[] #[.pointer (AA ⟨b3,0,AB⟩),.pointer (AA ⟨b4,0,AB⟩)])
theorem iO.AG1{w':AL}{G:Bh}{d:Do}{L:List Nat}(h:iO w G b3 b4 m d f)(hc:AZ L w w')(hL: ∀x∈L,m<=x/\∃cs,Bv w x 100 cs):iO w' G b3 b4 m d f:=by
 have hb: ∀(b:Nat) (cs:Array AQ),Bv w b 64 cs->b∉L:=λb cs h hm=>by
  obtain⟨_,cs',h'⟩:=hL b hm;exact h.ne_ h' Aq rfl
 cases h with|Cb=>exact .Cb|create b nm dv h1 h2=>exact .create b nm dv (h1.Ap hc (hb _ _ h1)) h2|write b nm A n c xs h1 h2 h3 h4 h5=>exact .write b nm A n c xs (h1.Ap hc (hb _ _ h1)) h2 (h3.Ap hc (λx hx hm=>by have:=(h4 x hx).2;have:=(hL x hm).1;omega)) h4 h5|sync b nm dv h1 h2=>exact .sync b nm dv (h1.Ap hc (hb _ _ h1)) h2|names=>exact .names|rename d h1 h2 h3=>exact .rename d (hc.cell h1 (λhm=>by have:=(hL _ hm).1;simp only at this;omega)) h2 h3
theorem iO.call{wr:AL}{G G1:Bh}{d:Do}{B:Nat}(h:iO w G b3 b4 m d f)(h3:w.cell? ⟨b3,0,AB⟩=AA (Pg G))(hn3:b3∉G.all)(hl3:b3<w.heap.size)
  (hF:EJ wr G1 S) (hb:G1.b=G.b) (hA: ∀x∈G1.all,x∈G.all\/w.heap.size<=x) (hc:AZ G.all w wr) (hi:Inv B S) (hB:B+d.bulk<=1073741824):
  ∃(id:FuncId) (bd cp:Array AQ),f=.func (.func id) bd cp/\(∀(p:Array AQ) (w:AL),(E8 id p).run Ae w=.ok (.enter id p) w)/\Au Ae id (bd++cp) wr (rG wr G1 (S.act d)):=by
 have h3':wr.cell? ⟨b3,0,AB⟩=AA (Pg G1):=by rw[show Pg G1=Pg G by unfold Pg;rw[hb]];exact hc.cell h3 hn3
 have hout: ∀x,x∉G.all->x<w.heap.size->x∉G1.all:=λx h1 h2 hm=>by
  rcases hA x hm with h|h;exact h1 h;omega
 cases h with
 |Cb=>exact⟨41,#[],_,rfl,ATT,uw hF hi (by simp only[Do.bulk] at hB;omega) h3'⟩|create b nm dv h1 h2=>exact⟨43,#[],_,rfl,ATV,rH hF hi (by simp only[Do.bulk] at hB;omega) h3' (h1.Ap hc h2)⟩|write b nm A n c xs h1 h2 h3 h4 h5=>
  exact⟨45,#[],_,rfl,ATX,uy hF hi (h3.Ap hc λx hx=>(h4 x hx).1) h5 (by simp only[Do.bulk] at hB;omega) h3' (h1.Ap hc h2) (hout _ hn3 hl3) (hout _ h2 h1.lt)⟩
 |sync b nm dv h1 h2=>exact⟨48,#[],_,rfl,ATa,AAq hF hi (by simp only[Do.bulk] at hB;omega) h3' (h1.Ap hc h2)⟩|names=>
  refine⟨50,_,#[],rfl,AOm,?_⟩;rw[<- hb];exact xK hF hi (by simp only[Do.bulk] at hB;omega)
 |rename d h1 h2 _=>exact⟨51,#[],_,rfl,ATc,rJ hF hi (by simp only[Do.bulk] at hB;omega) h3' (hc.cell h1 h2)⟩
inductive Nu (w:AL) (G:Bh) (b3 b4 m:Nat):List JH->List AQ->Prop
 |nil:Nu w G b3 b4 m [] []|cons {t:JH} {f:AQ} {ts:List JH} {vs:List AQ}:iO w G b3 b4 m t.d f->Nu w G b3 b4 m ts vs->Nu w G b3 b4 m (t::ts) (.string t.op:: .int .i64 t.pl::f::vs)
theorem Nu.AG1{w w':AL}{G:Bh}{b3 b4 m:Nat}{ts:List JH}{vs:List AQ}{L:List Nat}(h:Nu w G b3 b4 m ts vs)(hc:AZ L w w')(hL: ∀x∈L,m<=x/\∃cs,Bv w x 100 cs):Nu w' G b3 b4 m ts vs:=by
 induction h with|nil=>exact .nil|cons h1 _ ih=>exact .cons (h1.AG1 hc hL) ih
theorem Nu.append{G:Bh}{ts us:List JH}{xs:List AQ}(h:Nu w G b3 b4 m ts vs)(k:Nu w G b3 b4 m us xs):Nu w G b3 b4 m (ts++us) (vs++xs):=by
 induction h with|nil=>exact k|cons h1 _ ih=>exact .cons h1 ih
theorem Nu.at_{G:Bh}{ts:List JH}(h:Nu w G b3 b4 m ts vs): ∀{j:Nat} {t:JH},ts[j]? =AA t->∃f,iO w G b3 b4 m t.d f/\vs[j*3]? =AA (.string t.op)/\vs[j*3+1]? =AA (.int .i64 t.pl)/\vs[j*3+2]? =AA f:=by
 induction h with
 |nil=>intro j t hj;cases hj
 |cons h1 _ ih=>
  intro j t hj
  cases j with
  |zero=>simp at hj;subst hj;exact⟨_,h1,rfl,rfl,rfl⟩|succ j=>
   simp at hj;obtain⟨f,g1,g2,g3,g4⟩:=ih hj;refine⟨f,g1,?_,?_,?_⟩;rw[show (j+1)*3=j*3+3 by omega];exact g2;rw[show (j+1)*3+1=j*3+1+3 by omega];exact g3;rw[show (j+1)*3+2=j*3+2+3 by omega];exact g4
end
section
variable {fs:List FM}{vs:List AQ}{b3 b4 c k m n:Nat}{A A8:Option Ag}{wz:AL}
def TL:Code->List Code
 | .loop c=>[c]| .seq a b=>TL a++TL b| .block _ c=>TL c| .scope c=>TL c| .cond _ a b=>TL a++TL b|_=>[]
noncomputable def ADN (k:Nat):Code:=((Tryz.f14.body.map TL).getD [])[k]?.getD .skip
theorem xg:Ety Ae 101 100 3 32 (.agg #[.string ByteArray.empty,.int .i64 0,.nilFunc]):=.mk' ARV Az rfl Aq
structure eH (wz wr:AL) (G:Bh) (b3 b4 m:Nat) (fs:List FM) (A8:Option Ag) (c8:Nat) (vs:List AQ) (k:Nat):Prop where
 own:Own wr 100 3 A8 (1+3*k) c8 vs
 stp:Nu wr G b3 b4 m (iM++Gy 0 ((Ai fs).take k)) vs
 Ap:AZ [] wz wr
 new: ∀x∈bo A8,wz.heap.size<=x
theorem eH.APU{wr:AL}{G:Bh}{c8:Nat}(h:eH wz wr G b3 b4 m fs A8 c8 vs k){w':AL}(hc:AZ [] wr w'):Own w' 100 3 A8 (1+3*k) c8 vs:=h.own.Ap hc AV
theorem Own.TM(w:AL)(e:Am)(sz:Nat)(cs:Array AQ)(n g:Nat)(xs:List AQ)(hg:g=w.heap.size)(hx:cs.toList=xs)(hm:n<=ER)(hs:cs.size=n*sz):Own (w.alloc (.cells cs e)) e sz (AA ⟨g,0,AB⟩) n n xs:=by
 subst hg;subst hx;exact Own.lit w e sz cs n hm hs
theorem Own.AG2{w:AL}(h:Own w 100 3 A n c vs): ∀x∈bo A,∃cs,Bv w x 100 cs:=by
 rcases h.form with ⟨rfl,_⟩|⟨g,cur,rfl,hb,_⟩;simp;intro x hx;simp at hx;subst hx;exact⟨cur,hb⟩
def APV (b3 b:Nat) (k:Nat):List AQ:=[.string {data:=#[99,114,101,97,116,101]},.int .i64 (k:Int),.func (.func 43) #[] #[.pointer (AA ⟨b3,0,AB⟩),.pointer (AA ⟨b,0,AB⟩)],.string {data:=#[119,114,105,116,101]},.int .i64 (k:Int),.func (.func 45) #[] #[.pointer (AA ⟨b,0,AB⟩),.pointer (AA ⟨b3,0,AB⟩)],.string {data:=#[115,121,110,99]},.int .i64 (k:Int),.func (.func 48) #[] #[.pointer (AA ⟨b3,0,AB⟩),.pointer (AA ⟨b,0,AB⟩)]]
theorem eH.next{wr wb:AL}{G:Bh}{A9:Option Ag}{c8 c9:Nat}(h:eH wz wr G b3 b4 m fs A8 c8 vs k){nm:ByteArray}{dA:Option Ag}{dn dc:Nat}{dx:List Int}(hx:fs[k]? =AA (⟨nm,dA,dn,dc⟩,dx))
  (hM: ∀x∈bo A++Ep fs,x<m) (hD: ∀x∈bo A++Ep fs,x∉G.all) (hby: ∀f∈fs,∀x∈f.2,0<=x/\x<=255) (hR:EU wz A n c fs) (hG: ∀x∈G.all,x<wz.heap.size) (hmz:m<=wz.heap.size) {cs:Obj}
  (ho:Own wb 100 3 A9 (1+3*k+3) c9 (vs++APV b3 wr.heap.size k)) (hc:AZ (bo A8) ((wr.alloc (.cells #[.string nm,.slice dA dn dc] 64)).alloc cs) wb) (hn: ∀x∈bo A9,x∈bo A8\/(((wr.alloc (.cells #[.string nm,.slice dA dn dc] 64)).alloc cs).heap.size<=x/\x<wb.heap.size)):
  eH wz wb G b3 b4 m fs A9 c9 (vs++APV b3 wr.heap.size k) (k+1):=by
 have ha:AZ [] wr ((wr.alloc (.cells #[.string nm,.slice dA dn dc] 64)).alloc cs):=((AZ.refl [] wr).alloc _).alloc _;have hcc:AZ (bo A8) wr wb:=(ha.nil _).trans hc (λx hx=>.inl hx);have hL: ∀x∈bo A8,m<=x/\∃cs,Bv wr x 100 cs:=λx hx=>⟨Cj hmz (h.new x hx),h.own.AG2 x hx⟩;have hz:=h.Ap.size;have hmem:=Bi hx
 have hb:Bv wb wr.heap.size 64 #[.string nm,.slice dA dn dc]:=by
  have:=(Bv.new wr 64 #[.string nm,.slice dA dn dc]).alloc cs;exact this.Ap hc (λhm=>by have:=h.own.lt _ hm;omega)
 (have hbn:wr.heap.size∉G.all:=λhm=>by have:=hG _ hm;omega);have hdm: ∀x∈bo dA,x∈bo A++Ep fs:=λx hx=>Bj.2 (.inr (GG.2 ⟨_,hmem,hx⟩));have hd:Rd wb 1 dA dn dc (bv dx):=(hR.dat _ hmem).Ap (h.Ap.trans hcc (λx hx=>.inr (h.new x hx))) AV;refine⟨ho,?_,h.Ap.trans hcc (λx hx=>.inr (h.new x hx)),λx hx=>?_⟩
 ·have hfx:(Ai fs)[k]? =AA (nm,dx):=by unfold Ai;rw[Ba,hx];rfl
  have hkl:((Ai fs).take k).length=k:=by
   have:=(CP.1 hfx).1;rw[I7];omega
  rw[Py,hfx,Option.toList_some,di,hkl,Ky,<- KJ];refine (h.stp.AG1 hcc hL).append ?_;exact .cons (.create _ _ _ hb hbn) (.cons (.write _ _ _ _ _ _ hb hbn hd (λx hx=>⟨hD x (hdm x hx),hM x (hdm x hx)⟩) (hby _ hmem)) (.cons (.sync _ _ _ hb hbn) .nil))
 rcases hn x hx with h'|h'
 ·exact h.new x h'
 have:=h'.1;simp at this;omega
theorem ALe{G:Bh}{A0:Option Ag}{c0:Nat}{vs0:List AQ}{D:List EL}{w0:AL}(wz:AL)(Q0:Exit->Act->AL->Prop)
  (HR:Hid (EU w0 A n c fs)) (HM:Hid (∀x∈bo A++Ep fs,x<m)) (HD:Hid (∀x∈bo A++Ep fs,x∉G.all)) (HBY:Hid (∀f∈fs,∀x∈f.2,0<=x/\x<=255)) (hn:n<=178956970)
  (HS:Hid (eH w0 wz G b3 b4 m fs A0 c0 vs0 0)) (HG:Hid (∀x∈G.all,x<w0.heap.size)) (HMZ:Hid (m<=w0.heap.size))
  (u0 u1 u4 u5 u6 u7 u9 u10 u11 u12 u13 u14 u15 u16 u17 u18 u19 u20 u21 u22 u23 u24 u25 u26 u27 u28 u29 u30 u31 u35 u36 u37 u38 u39 u40 u41 u42 u43 u44 u45 u46 u47 u48 u49 u50 u51 u52 u53 u54 u55 u56 u57 u58 u59 u60 u61 u62 u63 u64 u65 u66 u67 u68 u69 u70 u71 u72 u73 u74 u75 u76 u77 u78 u79 u80 u81:AQ)
  (AFd:Hid (∀(A8:Option Ag) (c8:Nat) (vs:List AQ) (v9 v10 v35 v36 v37 v38 v39 v40 v41 v42 v43 v44 v45 v46 v47 v48 v49 v50 v51:AQ) (wr:AL),eH w0 wr G b3 b4 m fs A8 c8 vs n->Q0 (.exit 0) ⟨(List.toArray (u0::u1:: .slice A n c:: .pointer (AA ⟨b3,0,AB⟩)::u4::u5::u6::u7:: .slice A8 (1+3*n) c8::v9::v10::u11::u12::u13::u14::u15::u16::u17::u18::u19::u20::u21::u22::u23::u24::u25::u26::u27::u28::u29::u30::u31:: .slice A n c:: .int .i64 (n:Int):: .int .i64 (n:Int)::v35::v36::v37::v38::v39::v40::v41::v42::v43::v44::v45::v46::v47::v48::v49::v50::v51::u52::u53::u54::u55::u56::u57::u58::u59::u60::u61::u62::u63::u64::u65::u66::u67::u68::u69::u70::u71::u72::u73::u74::u75::u76::u77::u78::u79::u80::u81::[])),D⟩ wr)):
  Code.wp Ae (.loop (ADN 0)) Q0 ⟨(List.toArray (u0::u1:: .slice A n c:: .pointer (AA ⟨b3,0,AB⟩)::u4::u5::u6::u7:: .slice A0 1 c0::u9::u10::u11::u12::u13::u14::u15::u16::u17::u18::u19::u20::u21::u22::u23::u24::u25::u26::u27::u28::u29::u30::u31:: .slice A n c:: .int .i64 (n:Int):: .int .i64 0::u35::u36::u37::u38::u39::u40::u41::u42::u43::u44::u45::u46::u47::u48::u49::u50::u51::u52::u53::u54::u55::u56::u57::u58::u59::u60::u61::u62::u63::u64::u65::u66::u67::u68::u69::u70::u71::u72::u73::u74::u75::u76::u77::u78::u79::u80::u81::[])),D⟩ wz:=by
 have hmf: ∀(fn:Fn) (first cap:Array AQ) (w:AL),(aS fn first cap).run Ae w=.ok (.func fn first cap) w:=λ_ _ _ _=>rfl
 conv=>arg 2;arg 1;whnf
 go_loopw [8,34] (λs q wr=>∃(k:Nat) (A8:Option Ag) (c8:Nat) (vs:List AQ),k<=n/\q=.int .i64 k/\s=.slice A8 (1+3*k) c8/\eH w0 wr G b3 b4 m fs A8 c8 vs k) (λ_ q _=>n - (intOf q).toNat)
 case atStart=>exact⟨0,A0,c0,vs0,DW _,rfl,rfl,HS.out⟩
 obtain⟨k,A8,c8,vs,hk,rfl,rfl,hS⟩:=hrel;have HS8:=AO hS;clear hS;by_cases hlt:k<n
 ·(have hlt':(k:Int)<n:=by omega);obtain⟨x,hx⟩: ∃x,fs[k]? =AA x:=⟨_,Bo (by have:=HR.out.row.KF;simp[Dq] at this;omega)⟩;obtain⟨⟨nm,dA,dn,dc⟩,dx⟩:=x;obtain⟨ad,rfl,hat⟩:=(HR.out.Es HS8.out.Ap).row.ns (j:=k) (x:=⟨nm,dA,dn,dc⟩) (by unfold Dq;rw[Ba,hx];rfl);have x0:=hat.c0;have x1:=hat.c1;have HX:=AO hx;clear hat hx;(go_wp2_with (at_builtin;refine D8 rfl _ _ rfl xg rfl (HS8.out.APU ((AZ.refl [] wr).alloc _ |>.alloc _)) rfl (Own.TM _ 100 3 #[.string {data:=#[99,114,101,97,116,101]},.int .i64 (k:Int),.func (.func 43) #[] #[.pointer (AA ⟨b3,0,AB⟩),.pointer (AA ⟨wr.heap.size,0,AB⟩)],.string {data:=#[119,114,105,116,101]},.int .i64 (k:Int),.func (.func 45) #[] #[.pointer (AA ⟨wr.heap.size,0,AB⟩),.pointer (AA ⟨b3,0,AB⟩)],.string {data:=#[115,121,110,99]},.int .i64 (k:Int),.func (.func 48) #[] #[.pointer (AA ⟨b3,0,AB⟩),.pointer (AA ⟨wr.heap.size,0,AB⟩)]] 3 _ _ AV rfl Aq rfl).rd (by simp[Jr]) Nb Aa ?_;intro A9 c9 wb hown EI hnew _));go_roundw
  case rel=>exact⟨k+1,A9,c9,_,Aa,by go_num,by first|rfl|(congr 1),HS8.out.next HX.out HM.out HD.out HBY.out HR.out HG.out HMZ.out hown EI hnew⟩
  simp[intOf];omega
 (obtain rfl:k=n:=by omega);go_wp2;exact AFd.out A8 c8 vs _ _ _ _ _ _ _ _ _ _ _ _ _ _ _ _ _ _ _ _ HS8.out
end
section
variable {G1:Bh}{b6 n:Nat}{v:AQ}{w2 wz:AL}
theorem Rd.at3{w:AL}{A:Option Ag}{c:Nat}{xs:List AQ}(h:Rd w 3 A n c xs){k:Nat}(hk:k<n){a b d:AQ}(h0:xs[k*3]? =AA a)(h1:xs[k*3+1]? =AA b)(h2:xs[k*3+2]? =AA d):
  ∃ad,A=AA ad/\w.cell? (ad.add (k*3))=AA a/\w.cell? ⟨(ad.add (k*3)).block,(ad.add (k*3)).off+1,AB⟩=AA b/\w.cell? ⟨(ad.add (k*3)).block,(ad.add (k*3)).off+2,AB⟩=AA d:=by
 obtain⟨ad,rfl,_⟩:=h.some_ Aa;have hc:=(h.2.2.2.2 ad rfl).2;have e1:=hc _ _ h1;have e2:=hc _ _ h2;rw[pq] at e1 e2;exact⟨ad,rfl,hc _ _ h0,e1,e2⟩
def APW (wz wr:AL) (G:Bh) (b6:Nat) (S1:St) (f:JG):Prop:=
 ∃G' bb v,EJ wr G' S1/\G'.b=G.b/\(∀x∈G'.all,x∈G.all\/wz.heap.size<=x)/\AZ (b6::G.all) wz wr/\Bv wr b6 39 #[v]/\Q5 wr bb v f/\bb∉G'.all/\wz.heap.size<=bb
theorem DK.from_{wr:AL}{G:Bh}{S2:St}(h:DK wr G1 S2 w2)(hb:G1.b=G.b)(hA: ∀x∈G1.all,x∈G.all\/wz.heap.size<=x)(hc:AZ G.all wz wr):DK wz G S2 w2:=.trans hA hb hc h
theorem rW{wr:AL}{G:Bh}{S2:St}{o:Obj}(h:DK wr G1 S2 w2)(hA: ∀x∈G1.all,x∈G.all\/wz.heap.size<=x)(hc:AZ G.all wz wr)(h6:Bv wz b6 39 #[v])(hn:b6∉G.all):Bv (w2.alloc o) b6 39 #[v]:=by
 have hn1:b6∉G1.all:=λhm=>by
  rcases hA _ hm with h|h;exact hn h;have:=h6.lt;omega
 exact ((h6.Ap hc hn).Ap h.Ap hn1).alloc o
theorem ALf{wr:AL}{G:Bh}{S2:St}{op:ByteArray}{pl cd:Int}(h:DK wr G1 S2 w2)(hb:G1.b=G.b)(hA: ∀x∈G1.all,x∈G.all\/wz.heap.size<=x)(hc:AZ G.all wz wr)(h6:Bv wz b6 39 #[v])(hn:b6∉G.all)(hcd:cd≠0):
  APW wz ((w2.alloc (.cells #[.string op,.int .i64 pl,.iface 51 (.int .i64 cd)] 142)).setCell ⟨b6,0,AB⟩ (.iface 140 (.pointer (AA ⟨w2.heap.size,0,AB⟩)))) G b6 S2 ⟨op,pl,cd⟩:=by
 have hk:=rW (o:=.cells #[.string op,.int .i64 pl,.iface 51 (.int .i64 cd)] 142) h hA hc h6 hn;obtain⟨G2,h1,h2,h3,h4⟩:=h.from_ hb hA hc;have hal:AZ [] w2 (w2.alloc (.cells #[.string op,.int .i64 pl,.iface 51 (.int .i64 cd)] 142)):=(AZ.refl [] w2).alloc _;have hst: ∀u,AZ [b6] (w2.alloc (.cells #[.string op,.int .i64 pl,.iface 51 (.int .i64 cd)] 142)) ((w2.alloc (.cells #[.string op,.int .i64 pl,.iface 51 (.int .i64 cd)] 142)).setCell ⟨b6,0,AB⟩ u):=λu=>(AZ.refl _ _).setCell (.inl AV) _;have hl6:=h6.lt;have hz:=h4.size
 have hn2:b6∉G2.all:=λhm=>by
  rcases h3 _ hm with h|h;exact hn h;omega
 refine⟨G2,w2.heap.size,_,(h1.Cc hal).keep (hst _) (λx hx hm=>by simp at hm;subst hm;exact hn2 hx),h2,h3,?_,hk.FH 0 _,⟨rfl,(Bv.new w2 _ _).Ap (hst _) (by simp;omega),hcd⟩,λhm=>by have:=h1.lt _ hm;omega,Aa⟩;exact ((h4.mono (λx hx=>.inl (DD _ hx))).Ah hal).trans (hst _) (λx hx=>by simp at hx;subst hx;exact .inl AV)
theorem ALg{G:Bh}{S:St}{B b3 b4 m:Nat}{A8:Option Ag}{c8:Nat}{vs:List AQ}{ts:List JH}{D:List EL}(wz:AL)(Q0:Exit->Act->AL->Prop)
  (AK1:Hid (∀c a d v w,6<d->Q0 (.panic c) (BG a (AA d) v) w->Q0 (.panic c) a w))
  (HF:Hid (EJ wz G S)) (HI:Hid (Inv B S)) (hB:B+JY ts<=1073741824) (hn:n<=1073741824) (hts:ts.length=n)
  (HO:Hid (Own wz 100 3 A8 n c8 vs)) (HS:Hid (Nu wz G b3 b4 m ts vs)) (HNA:Hid (∀x∈bo A8,x∉G.all)) (H3:Hid (wz.cell? ⟨b3,0,AB⟩=AA (Pg G)/\b3∉G.all/\b3<wz.heap.size)) (H6:Hid (Bv wz b6 39 #[.nilIface]/\b6∉G.all))
  (u0 u1 u2 u3 u4 u5 u7 u8 u9 u10 u11 u12 u13 u14 u15 u16 u17 u18 u19 u20 u21 u22 u23 u24 u25 u26 u27 u28 u29 u30 u31 u32 u33 u34 u35 u36 u37 u38 u39 u40 u41 u42 u43 u44 u45 u46 u47 u48 u49 u50 u51 u52 u53 u54 u55 u56 u57 u58 u59 u60 u61 u62 u66 u67 u68 u69 u70 u71 u72 u73 u74 u75 u76 u77 u78 u79 u80 u81:AQ)
  (AFd:Hid (∀(v12 v13 v66 v67 v68 v69 v70 v71 v72 v73 v74 v75 v76 v77 v78 v79 v80 v81:AQ) (wr:AL) (S1:St),DK wz G S1 wr->S.runT ts=(S1,[])->Q0 (.exit 2) ⟨(List.toArray (u0::u1::u2::u3::u4::u5:: .pointer (AA ⟨b6,0,AB⟩)::u7::u8::u9::u10::u11::v12::v13::u14::u15::u16::u17::u18::u19::u20::u21::u22::u23::u24::u25::u26::u27::u28::u29::u30::u31::u32::u33::u34::u35::u36::u37::u38::u39::u40::u41::u42::u43::u44::u45::u46::u47::u48::u49::u50::u51::u52::u53::u54::u55::u56::u57::u58::u59::u60::u61::u62:: .slice A8 n c8:: .int .i64 (n:Int):: .int .i64 (n:Int)::v66::v67::v68::v69::v70::v71::v72::v73::v74::v75::v76::v77::v78::v79::v80::v81::[])),D⟩ wr))
  (AUk:Hid (∀(v65 v12 v13 v66 v67 v68 v69 v70 v71 v72 v73 v74 v75 v76 v77 v78 v79 v80 v81:AQ) (wr:AL) (S1:St) (f:JG),APW wz wr G b6 S1 f->S.runT ts=(S1,[f])->Q0 .ret ⟨(List.toArray (u0::u1::u2::u3::u4::u5:: .pointer (AA ⟨b6,0,AB⟩)::u7::u8::u9::u10::u11::v12::v13::u14::u15::u16::u17::u18::u19::u20::u21::u22::u23::u24::u25::u26::u27::u28::u29::u30::u31::u32::u33::u34::u35::u36::u37::u38::u39::u40::u41::u42::u43::u44::u45::u46::u47::u48::u49::u50::u51::u52::u53::u54::u55::u56::u57::u58::u59::u60::u61::u62:: .slice A8 n c8:: .int .i64 (n:Int)::v65::v66::v67::v68::v69::v70::v71::v72::v73::v74::v75::v76::v77::v78::v79::v80::v81::[])),D⟩ wr)):
  Code.wp Ae (.loop (ADN 1)) Q0 ⟨(List.toArray (u0::u1::u2::u3::u4::u5:: .pointer (AA ⟨b6,0,AB⟩)::u7::u8::u9::u10::u11::u12::u13::u14::u15::u16::u17::u18::u19::u20::u21::u22::u23::u24::u25::u26::u27::u28::u29::u30::u31::u32::u33::u34::u35::u36::u37::u38::u39::u40::u41::u42::u43::u44::u45::u46::u47::u48::u49::u50::u51::u52::u53::u54::u55::u56::u57::u58::u59::u60::u61::u62:: .slice A8 n c8:: .int .i64 (n:Int):: .int .i64 0::u66::u67::u68::u69::u70::u71::u72::u73::u74::u75::u76::u77::u78::u79::u80::u81::[])),D⟩ wz:=by
 have q1:= @AKb;have q2:= @AKa;have hst: ∀(a:Ag) (fn:Fn) (x y:Array AQ) (m:Mode) (w:AL),(store a (.func fn x y) m).run Ae w=stored Ae w a (.func fn x y) m:=λa fn x y m w=>run_store Ae w a _ m rfl
 conv=>arg 2;arg 1;whnf
 go_loopw [65] (λq wr=>∃(j:Nat) (S1:St),j<=n/\q=.int .i64 j/\DK wz G S1 wr/\Inv (B+JY (ts.take j)) S1/\S.runT ts=S1.runT (ts.drop j)) (λq _=>n - (intOf q).toNat)
 case atStart=>exact⟨0,S,DW _,rfl,.same HF.out (.refl _ _),HI.out.mono Aa,rfl⟩
 obtain⟨j,S1,hj,rfl,⟨G1,hF1,hG1,hA1,X0⟩,hI1,hE1⟩:=hrel;have Gf:=AO hF1;have HA1:=AO hA1;have CZ:=AO X0;have HI1:=AO hI1;have rU:=AO hE1;have rX:=AO hG1;clear hF1 hA1 X0 hI1 hE1 hG1;by_cases hlt:j<n
 ·(have hlt':(j:Int)<n:=by omega);obtain⟨t,ht⟩: ∃t,ts[j]? =AA t:=⟨_,Bo Aa⟩;obtain⟨f,hf,y0,y1,y2⟩:=HS.out.at_ ht;obtain⟨ad,rfl,z0,z1,z2⟩:=(HO.out.rd.Ap CZ.out HNA.out).at3 hlt y0 y1 y2;have HT:=AO ht;obtain⟨W,hW⟩: ∃W,wr.alloc (.cells #[.string t.op,.int .i64 t.pl,f] 100)=W:=⟨_,rfl⟩;(have hcW:AZ [] wr W:=by rw[<- hW];exact (AZ.refl [] wr).alloc _);(have hbW:Bv W wr.heap.size 100 #[.string t.op,.int .i64 t.pl,f]:=by rw[<- hW];exact .new _ _ _);(have hnW:wr.heap.size∉G1.all:=λhm=>by have:=Gf.out.lt _ hm;omega);have HT0:Hid (∀w',AZ G1.all W w'->w'.cell? ⟨wr.heap.size,0,AB⟩=AA (.string t.op)):=AO λw' hc=>(hbW.Ap hc hnW).cell 0;have HT1:Hid (∀w',AZ G1.all W w'->w'.cell? ⟨wr.heap.size,1,AB⟩=AA (.int .i64 t.pl)):=AO λw' hc=>(hbW.Ap hc hnW).cell 1;have HT2:Hid (∀w',AZ G1.all W w'->w'.cell? ⟨wr.heap.size,2,AB⟩=AA f):=AO λw' hc=>(hbW.Ap hc hnW).cell 2;have hb1:=xe ht;have hb2:=rV ts (j+1);have hcd:AZ [] wr W.drew:=hcW.drew;obtain⟨id,bd,cp,rfl,hcf,hcall⟩:=hf.call (wr:=W.drew) (G1:=G1) (S:=S1) H3.out.1 H3.out.2.1 H3.out.2.2 (Gf.out.Cc hcd) rX.out HA1.out (CZ.out.Ah hcd) HI1.out Aa;have Uf:=AO hcall;have NI:=AO hcW;clear hcall hbW hcW hb1 hb2 hcd hf y0 y1 y2 ht;(go_wp2_with fail);refine Ew (S:=λw'=>AZ G1.all W w') Az ((AZ.refl _ _).drew) (λhHeld=>?_);refine tk 0 ?_;refine F9 1 (λw' hSw=>HT0.out _ hSw) ?_;refine tk 2 ?_;refine F9 3 (λw' hSw=>HT1.out _ hSw) ?_;refine tk 4 ?_;refine F9 5 (λw' hSw=>HT2.out _ hSw) ?_;refine EM 6 λK hK=>?_;go_simp;refine Uf.out.mono ?_;rintro e w2 ⟨rfl,hT⟩;have HI2:=AO (HI1.out.act t.d);have HE2:=AO (ALd (S:=S1) HT.out)
  generalize S1.act t.d=R at*
  obtain⟨S2,cd⟩:=R;have hcw:AZ G1.all W w2:=(AZ.refl _ W).drew.trans hT.Ap (λx hx=>.inl hx);have HT9:=AO (DK.before NI.out.drew hT);have rY:=AO hcw;clear hT;simp only[];refine hK.out _ _ (hcw) (λhHeld=>?_);(try simp only[BG,Bg]);clear hK K;by_cases hec:cd=0
  ·subst hec;refine EM 7 λK hK=>?_;go_simp;refine (Yc 0 _).mono ?_;rintro e w3 ⟨rfl,rfl⟩;go_simp;refine hK.out _ _ (rY.out) (λhHeld=>?_);(try simp only[BG,Bg]);clear hK K;refine EM 8 λK hK=>?_;go_simp;refine (wrap_nil _ _ _).mono ?_;rintro e w3 ⟨rfl,rfl⟩;go_simp;refine hK.out _ _ (rY.out) (λhHeld=>?_);(try simp only[BG,Bg]);clear hK K;refine tk 9 ?_;refine Ej Az ?_ _;(try simp only[BG,Bg]);go_wp2;go_roundw
   case rel=>exact⟨j+1,S2,Aa,by go_num,HT9.out.from_ rX.out HA1.out CZ.out,HI2.out.mono (by have:=xe HT.out;omega),by rw[rU.out,HE2.out,BU rfl]⟩
   simp[intOf];omega
  have HEC:=AO hec;(have e1:(cd==0)=false:=by simp[hec]);have hb6:Bv (w2.alloc (.cells #[.string t.op,.int .i64 t.pl,.iface 51 (.int .i64 cd)] 142)) b6 39 #[.nilIface]:=rW HT9.out HA1.out CZ.out H6.out.1 H6.out.2;have c6:=hb6.cell 0;have z6:=hb6.frozen 0;simp only[FV] at c6;clear hb6 hec;refine EM 7 λK hK=>?_;go_simp;refine (Yc cd _).mono ?_;rintro e w3 ⟨rfl,rfl⟩;rw[BL HEC.out];go_simp;refine hK.out _ _ (rY.out) (λhHeld=>?_);(try simp only[BG,Bg]);clear hK K;refine EM 8 λK hK=>?_;go_simp;refine (Yd _ _ _ _ _).mono ?_;rintro e w3 ⟨rfl,rfl⟩;go_simp;refine hK.out _ _ (rY.out.alloc _) (λhHeld=>?_);(try simp only[BG,Bg]);clear hK K;refine tk 9 ?_;refine Ej Az ?_ _;(try simp only[BG,Bg]);go_wp2;exact AUk.out _ _ _ _ _ _ _ _ _ _ _ _ _ _ _ _ _ _ _ _ S2 ⟨t.op,t.pl,cd⟩ (ALf HT9.out rX.out HA1.out CZ.out H6.out.1 H6.out.2 HEC.out) (by rw[rU.out,HE2.out,BL HEC.out])
 (obtain rfl:j=n:=by omega);go_wp2;have h1:=rU.out;rw[Pz Aa] at h1;exact AFd.out _ _ _ _ _ _ _ _ _ _ _ _ _ _ _ _ _ _ _ S1 ⟨G1,Gf.out,rX.out,HA1.out,CZ.out⟩ h1
end
section
variable {L:List Nat}{b6:Nat}{v:AQ}{w:AL}
theorem TJ.tell{wr:AL}{G:Bh}{S1:St}{G1:Bh}{fs:List JG}(hF:EJ wr G1 S1)(hb:G1.b=G.b)(hA: ∀x∈G1.all,x∈G.all\/w.heap.size<=x)(hc:AZ G.all w wr)(hE:JX wr v L fs)(hL: ∀x∈L,w.heap.size<=x/\x∉G1.all)(hL6: ∀x∈L,x≠b6)
  (hn:b6∉G1.all) (hl:w.heap.size<=b6):TJ w G S1 fs (.returned v) (wr.setCell ⟨b6,0,AB⟩ v):=by
 have hst:AZ [b6] wr (wr.setCell ⟨b6,0,AB⟩ v):=(AZ.refl _ _).setCell (.inl AV) _;exact⟨v,G1,L,rfl,hE.Ap hst (λx hx hm=>hL6 x hx (by simpa using hm)),hF.keep hst (λx hx hm=>by simp at hm;subst hm;exact hn hx),hb,hA,hc.trans hst (λx hx=>by simp at hx;subst hx;exact .inr hl),hL⟩
theorem rZ{tm:Array AQ}(ht:tm[6]? =AA (.pointer (AA ⟨b6,0,AB⟩)))(hc:w.cell? ⟨b6,0,AB⟩=AA v):(results Tryz.f14 tm).run Ae w=.ok v w:=by
 have h1:Tryz.f14.results= #[.cell 6 39]:=rfl;simp[results,h1,ht,asAddr,go_sem,hc]
theorem Uj{P:Program}{fn:Func}{t1 t2:Array AQ}{R:Fe->AL->Prop}(ht: ∀w,(results fn t1).run P w=(results fn t2).run P w): ∀(ds:List EL) (u:FrameMode) (w:AL),Leaves P fn t1 R ds u w->Leaves P fn t2 R ds u w
 | [],.returning,w,h=>by obtain⟨v,h1,h2⟩:=h;exact⟨v,(ht w).symm.trans h1,h2⟩
 | [],.panicking _,_,h=>h| [],.run,_,h=>h
 |d::ds,u,w,h=>by
  obtain⟨h1,fv,cap,f,args,h2,h3,h4⟩:=h;refine⟨h1,fv,cap,f,args,h2,h3,h4.mono λe u' w' hh=>?_⟩
  cases e with|returned v=>exact Uj ht ds _ _ hh|panicked c=>exact Uj ht ds _ _ hh|outgrown=>exact hh
theorem ASR{R:Fe->AL->Prop}{c:List PanicEntry}{a:Act}{d:Nat}(hd:6<d)(h:bodyPostD Ae Tryz.f14 R (.panic c) (a.put (AA d) v) w):bodyPostD Ae Tryz.f14 R (.panic c) a w:=by
 refine Uj (λw=>?_) _ _ _ h;have h1:Tryz.f14.results= #[.cell 6 39]:=rfl
 have h2:(a.put (AA d) v).tmps.getD 6 undef=a.tmps.getD 6 undef:=by
  simp only[BG,Qz];rw[Dz Aa]
 simp only[Qz] at h2;simp only[results,h1];simp[h2]
theorem JX.nil_(h:JX w v L []):v=.nilIface:=by
 rcases h.rO AV with ⟨h,_⟩|⟨_,_,_,h,_⟩;exact h;cases h
theorem X5{G:Bh}{S:St}{B:Nat}(h:EJ w G S)(hi:Inv B S){dst:ByteArray}{A:Option Ag}{n c:Nat}{fs:List FM}(hf:EU w A n c fs)(hdis: ∀x∈bo A++Ep fs,x∉G.all)
  (hlt: ∀x∈bo A++Ep fs,x<w.heap.size) (hby: ∀f∈fs,∀x∈f.2,0<=x/\x<=255) (hB:4*B+2*X4 (Ai fs)+100<=1073741824):
  Au Ae 14 #[.pointer (AA ⟨G.b,0,AB⟩),.string dst,.slice A n c] w (TJ w G (S.Jo dst (Ai fs)).1 (S.Jo dst (Ai fs)).2):=by
 have HF:=AO h;have HI:=AO hi;have HR:=AO hf;have HD:=AO hdis;have HBY:=AO hby;have HLT:=AO hlt;clear h hi hf hdis hby hlt;obtain⟨b3,hb3⟩: ∃b3,w.heap.size=b3:=⟨_,rfl⟩;obtain⟨W0,hW0⟩: ∃W0,((w.alloc (.cells #[.pointer (AA ⟨G.b,0,AB⟩)] 45)).alloc (.cells #[.string dst] 9)).alloc (.cells #[.nilIface] 39)=W0:=⟨_,rfl⟩;(have hc0:AZ [] w W0:=by rw[<- hW0];exact (((AZ.refl [] w).alloc _).alloc _).alloc _);have k3:Bv W0 b3 45 #[.pointer (AA ⟨G.b,0,AB⟩)]:=by rw[<- hW0,<- hb3];exact ((Bv.new w _ _).alloc _).alloc _
 have k4:Bv W0 (b3+1) 9 #[.string dst]:=by
  rw[<- hW0,<- hb3];have:=(Bv.new (w.alloc (.cells #[.pointer (AA ⟨G.b,0,AB⟩)] 45)) 9 #[.string dst]).alloc (.cells #[.nilIface] 39);simpa using this
 have k6:Bv W0 (b3+1+1) 39 #[.nilIface]:=by
  rw[<- hW0,<- hb3];have:=Bv.new ((w.alloc (.cells #[.pointer (AA ⟨G.b,0,AB⟩)] 45)).alloc (.cells #[.string dst] 9)) 39 #[.nilIface];simpa using this
 (have hz0:W0.heap.size=b3+1+1+1:=by rw[<- hW0,<- hb3];simp);have c3:=k3.cell 0;have c4:=k4.cell 0;have c6:=k6.cell 0;have z6:=k6.frozen 0;simp only[FV] at c3 c4 c6;have q1:= @wS;have q2:= @AKb;have q3:= @AKa;have q4:= @AKZ;have TC:=AO hc0;have HK3:=AO k3;have HK4:=AO k4;have HK6:=AO k6;have HZ0:=AO hz0;have HB3:=AO hb3;(have VH:Hid (∀k,b3<=k->k∉G.all):=AO λk hk hm=>by have:=HF.out.lt _ hm;omega);obtain⟨R,hRR⟩: ∃R,S.Jo dst (Ai fs)=R:=⟨_,rfl⟩;have HRR:=AO hRR;rw[hRR];clear hc0 k3 k4 k6 hz0 hRR;go_enter_defers ANg,Tryz.ntmps14;(go_wp2_with fail);refine (Ru dst _).mono ?_;rintro e w1 ⟨rfl,rfl⟩;by_cases hg:CO dst=false
 ·have HR1:Hid (R=(S,[⟨{data:=#[112,97,116,104,115]},0,81⟩])):=AO (by rw[<- HRR.out];unfold St.Jo;rw[BU (.inl hg)]);rw[hg]
  go_wp2_with (first
   |(go_at_call 38;refine (Yc 81 _).mono ?_;rintro e w3 ⟨rfl,rfl⟩)
   |(go_at_call 37;refine (Yd _ _ _ _ _).mono ?_;rintro e w3 ⟨rfl,rfl⟩;have hb6:=HK6.out.alloc (.cells #[.string {data:=#[112,97,116,104,115]},.int .i64 0,.iface 51 (.int .i64 81)] 142);have d6:=hb6.cell 0;have y6:=hb6.frozen 0;simp only[FV] at d6))
  refine⟨_,rZ rfl (hb6.FH 0 _ |>.cell 0),?_⟩;rw[HR1.out];have hal:=(AZ.refl [] w3).alloc (.cells #[.string {data:=#[112,97,116,104,115]},.int .i64 0,.iface 51 (.int .i64 81)] 142);have hz:=HZ0.out;have hw:=HB3.out;exact .tell (HF.out.Cc (TC.out.Ah hal)) rfl (λ_ h=>.inl h) ((TC.out.Ah hal).nil _) (L:=[w3.heap.size]) ⟨rfl,.new _ _ _,Aq⟩ (λx hx=>by simp at hx;subst hx;exact⟨Aa,VH.out _ Aa⟩) (λx hx=>by simp at hx;subst hx;omega) (VH.out _ Aa) Aa
 (have hg1:CO dst=true:=by simpa using hg);rw[hg1];by_cases hs:dst=BO
 ·have HR1:Hid (R=(S,[⟨{data:=#[112,97,116,104,115]},0,81⟩])):=AO (by rw[<- HRR.out];unfold St.Jo;rw[BU (.inr hs)]);(have hst:(dst.toList==[46,115,116,97,103,101])=true:=by rw[show ([46,115,116,97,103,101]:List UInt8)=BO.toList by decide+kernel,<- H7];exact decide_eq_true hs);clear hs
  go_wp2_with (first
   |(go_at_call 38;refine (Yc 81 _).mono ?_;rintro e w3 ⟨rfl,rfl⟩)
   |(go_at_call 37;refine (Yd _ _ _ _ _).mono ?_;rintro e w3 ⟨rfl,rfl⟩;have hb6:=HK6.out.alloc (.cells #[.string {data:=#[112,97,116,104,115]},.int .i64 0,.iface 51 (.int .i64 81)] 142);have d6:=hb6.cell 0;have y6:=hb6.frozen 0;simp only[FV] at d6))
  refine⟨_,rZ rfl (hb6.FH 0 _ |>.cell 0),?_⟩;rw[HR1.out];have hal:=(AZ.refl [] w3).alloc (.cells #[.string {data:=#[112,97,116,104,115]},.int .i64 0,.iface 51 (.int .i64 81)] 142);have hz:=HZ0.out;have hw:=HB3.out;exact .tell (HF.out.Cc (TC.out.Ah hal)) rfl (λ_ h=>.inl h) ((TC.out.Ah hal).nil _) (L:=[w3.heap.size]) ⟨rfl,.new _ _ _,Aq⟩ (λx hx=>by simp at hx;subst hx;exact⟨Aa,VH.out _ Aa⟩) (λx hx=>by simp at hx;subst hx;omega) (VH.out _ Aa) Aa
 have hst:(dst.toList==[46,115,116,97,103,101])=false:=by rw[show ([46,115,116,97,103,101]:List UInt8)=BO.toList by decide+kernel,<- H7];exact decide_eq_false hs
 have HRX:Hid (R=if S.clean.2≠0 then (S.clean.1,Jn S.clean.2) else if (S.clean.1.runT (EX dst (Ai fs))).2=[] then S.clean.1.runT (EX dst (Ai fs)) else ((S.clean.1.runT (EX dst (Ai fs))).1.clean.1,(S.clean.1.runT (EX dst (Ai fs))).2++Jn (S.clean.1.runT (EX dst (Ai fs))).1.clean.2)):=AO (by
  rw[<- HRR.out];unfold St.Jo;rw[BL (by rw[hg1];simp[hs])])
 have HIC:=AO HI.out.clean;clear hs;(go_wp2_with fail);refine (iK (HF.out.Cc TC.out) HI.out Aa).mono ?_
 generalize S.clean=Z at*
 obtain⟨S1,cd⟩:=Z;rintro e w2 ⟨v1,G1,L1,rfl,hE1,hF1,hG1,hA1,X0,hN1⟩;have hb6:Bv w2 (b3+1+1) 39 #[.nilIface]:=HK6.out.Ap X0 (VH.out _ Aa);have d6:=hb6.cell 0;have y6:=hb6.frozen 0;have APX:Bv w2 b3 45 #[.pointer (AA ⟨G.b,0,AB⟩)]:=HK3.out.Ap X0 (VH.out _ Aa);have hb4:Bv w2 (b3+1) 9 #[.string dst]:=HK4.out.Ap X0 (VH.out _ Aa)
 have AG0: ∀k,b3<=k->k<b3+1+1+1->k∉G1.all:=λk h1 h2 hm=>by
  have hz:=HZ0.out;rcases hA1 k hm with h|h;exact VH.out k h1 h;omega
 have TZ:=AO hb6;have rU:=AO hE1;have Gf:=AO hF1;have HA1:=AO hA1;have CZ:=AO X0;have uz:=AO hN1;have AG3:=AO AG0;have APY:=AO APX;have HB4:=AO hb4;have rX:=AO hG1;simp only[FV] at d6;clear hE1 hF1 hA1 X0 hN1 hb6 AG0 APX hb4 hG1 c3 c4 c6 z6 hst;by_cases hcd:cd=0
 ·subst hcd;have hx:v1=.nilIface:=rU.out.nil_;subst hx;have HR1:Hid (R=if (S1.runT (EX dst (Ai fs))).2=[] then S1.runT (EX dst (Ai fs)) else ((S1.runT (EX dst (Ai fs))).1.clean.1,(S1.runT (EX dst (Ai fs))).2++Jn (S1.runT (EX dst (Ai fs))).1.clean.2)):=AO (by rw[HRX.out,BL AV]);have hmf: ∀(fn:Fn) (first cap:Array AQ) (w:AL),(aS fn first cap).run Ae w=.ok (.func fn first cap) w:=λ_ _ _ _=>rfl;clear HRX;obtain⟨wz,hwz⟩: ∃wz,w2.alloc (.cells #[.string {data:=#[109,107,100,105,114]},.int .i64 0,.func (.func 41) #[] #[.pointer (AA ⟨b3,0,AB⟩)]] 100)=wz:=⟨_,rfl⟩;(have hcz:AZ [] w2 wz:=by rw[<- hwz];exact (AZ.refl [] w2).alloc _);(have hoz:Own wz 100 3 (AA ⟨w2.heap.size,0,AB⟩) 1 1 [.string {data:=#[109,107,100,105,114]},.int .i64 0,.func (.func 41) #[] #[.pointer (AA ⟨b3,0,AB⟩)]]:=by rw[<- hwz];exact Own.lit w2 100 3 _ 1 Aq rfl);(have hfl:(Ai fs).length=n:=by have:=HR.out.row.KF;simpa[Dq,Ai] using this);have hfk:=ADL (Ai fs);(have hsz:w2.heap.size+1=wz.heap.size:=by rw[<- hwz];simp);have AVm:w.heap.size<=w2.heap.size:=Cj TC.out.size CZ.out.size;have AVM:=CZ.out.size;have hz0:=HZ0.out;have AVn:=HB3.out;have Tc:=AO hcz;have HOZ:=AO hoz;have hcw:AZ G.all w w2:=(TC.out.nil _).trans CZ.out (λx hx=>.inl hx);have HM:Hid (∀x∈bo A++Ep fs,x<b3+1+1):=AO λx hx=>by have:=HLT.out x hx;omega
  have HD1:Hid (∀x∈bo A++Ep fs,x∉G1.all):=AO λx hx hm=>by
   rcases HA1.out x hm with h|h;exact HD.out x hx h;have:=HLT.out x hx;have:=TC.out.size;omega
  have APZ:Hid (∀x∈G1.all,x<w2.heap.size):=AO Gf.out.lt;have HRZ:Hid (EU w2 A n c fs):=AO ⟨HR.out.row.Ap hcw (λx hx=>HD.out x (Bj.2 (.inl hx))),λf hf=>(HR.out.dat f hf).Ap hcw (λx hx=>HD.out x (Bj.2 (.inr (GG.2 ⟨f,hf,hx⟩))))⟩;have HPZ:Hid (eH w2 wz G1 b3 (b3+1) (b3+1+1) fs (AA ⟨w2.heap.size,0,AB⟩) 1 [.string {data:=#[109,107,100,105,114]},.int .i64 0,.func (.func 41) #[] #[.pointer (AA ⟨b3,0,AB⟩)]] 0):=AO ⟨hoz,.cons .Cb .nil,hcz,λx hx=>by simp at hx;omega⟩;clear hcz hoz hcw;go_wp2;refine ALe (G:=G1) (b3:=b3) (b4:=b3+1) (m:=b3+1+1) (fs:=fs) (A0:=AA ⟨w2.heap.size,0,AB⟩) (c0:=1) wz _ HRZ HM HD1 HBY Aa HPZ APZ (AO Aa) _ _ _ _ _ _ _ _ _ _ _ _ _ _ _ _ _ _ _ _ _ _ _ _ _ _ _ _ _ _ _ _ _ _ _ _ _ _ _ _ _ _ _ _ _ _ _ _ _ _ _ _ _ _ _ _ _ _ _ _ _ _ _ _ _ _ _ _ _ _ _ _ _ _ _ _ ?_;refine AO ?_;rintro A8 c8 vs v9 v10 v35 v36 v37 v38 v39 v40 v41 v42 v43 v44 v45 v46 v47 v48 v49 v50 v51 wr hP;have HP:=AO hP;have hrc:=hP.Ap;have APa:=APY.out.Ap hrc AV;have c3:=APa.cell 0;simp only[FV] at c3;have HRC:=AO hrc;clear hP HPZ APa hrc;(go_wp2_with (at_builtin;refine D8 rfl _ _ rfl xg rfl (HP.out.APU ((AZ.refl [] wr).alloc _)) rfl (Own.TM _ 100 3 #[.string {data:=#[110,97,109,101,115]},.int .i64 0,.func (.func 50) #[.pointer (AA ⟨G.b,0,AB⟩)] #[],.string {data:=#[114,101,110,97,109,101]},.int .i64 0,.func (.func 51) #[] #[.pointer (AA ⟨b3,0,AB⟩),.pointer (AA ⟨b3+1,0,AB⟩)],.string {data:=#[115,97,102,101]},.int .i64 0,.func (.func 50) #[.pointer (AA ⟨G.b,0,AB⟩)] #[]] 3 _ _ rfl rfl Aq rfl).rd (by simp[Jr]) Nb Aa ?_;intro A9 c9 wb hown EI hnew _));have hab:AZ [] wr (wr.alloc (.cells #[.string {data:=#[110,97,109,101,115]},.int .i64 0,.func (.func 50) #[.pointer (AA ⟨G.b,0,AB⟩)] #[],.string {data:=#[114,101,110,97,109,101]},.int .i64 0,.func (.func 51) #[] #[.pointer (AA ⟨b3,0,AB⟩),.pointer (AA ⟨b3+1,0,AB⟩)],.string {data:=#[115,97,102,101]},.int .i64 0,.func (.func 50) #[.pointer (AA ⟨G.b,0,AB⟩)] #[]] 100)):=(AZ.refl [] wr).alloc _;have hwb:AZ (bo A8) wr wb:=(hab.nil _).trans EI (λx hx=>.inl hx);have hzb:AZ [] w2 wb:=HRC.out.trans hwb (λx hx=>.inr (by have:=HP.out.new x hx;omega))
  have KE: ∀x∈bo A9,w2.heap.size<=x:=λx hx=>by
   rcases hnew x hx with h|h;have:=HP.out.new x h;omega;have h1:=h.1;have h2:=HRC.out.size;simp at h1;omega
  have hL8: ∀x∈bo A8,b3+1+1<=x/\∃cs,Bv wr x 100 cs:=λx hx=>⟨by have:=HP.out.new x hx;omega,HP.out.own.AG2 x hx⟩;have hst:=HP.out.stp.AG1 hwb hL8;have APb:=HB4.out.Ap hzb AV;have ALh:=APY.out.Ap hzb AV;have AUl:=TZ.out.Ap hzb AV
  have hst2:Nu wb G1 b3 (b3+1) (b3+1+1) (EX dst (Ai fs)) (vs++(#[.string {data:=#[110,97,109,101,115]},.int .i64 0,.func (.func 50) #[.pointer (AA ⟨G.b,0,AB⟩)] #[],.string {data:=#[114,101,110,97,109,101]},.int .i64 0,.func (.func 51) #[] #[.pointer (AA ⟨b3,0,AB⟩),.pointer (AA ⟨b3+1,0,AB⟩)],.string {data:=#[115,97,102,101]},.int .i64 0,.func (.func 50) #[.pointer (AA ⟨G.b,0,AB⟩)] #[]]:Array AQ).toList):=by
   have h1:(Ai fs).take n=Ai fs:=Ea Aa;rw[h1] at hst;unfold EX;refine hst.append ?_;refine .cons ?_ (.cons ?_ (.cons ?_ .nil));rw[<- rX.out];exact .names;exact .rename _ (APb.cell 0) (AG3.out _ Aa Aa) Aa;rw[<- rX.out];exact .names
  have HO9:=AO hown;have ADO:=AO hst2;have HZB:=AO hzb;have hFb:=Gf.out.Cc hzb;have HFB:=AO hFb;(have HNA:Hid (∀x∈bo A9,x∉G1.all):=AO λx hx hm=>by have:=KE x hx;have:=APZ.out x hm;omega);have H3b:Hid (wb.cell? ⟨b3,0,AB⟩=AA (Pg G1)/\b3∉G1.all/\b3<wb.heap.size):=AO ⟨by unfold Pg;rw[rX.out];exact ALh.cell 0,AG3.out _ Aa Aa,ALh.lt⟩;have H6b:Hid (Bv wb (b3+1+1) 39 #[.nilIface]/\b3+1+1∉G1.all):=AO ⟨AUl,AG3.out _ Aa Aa⟩;have hbl:=eG dst (Ai fs)
  have hct:(EX dst (Ai fs)).length=1+3*n+3:=by
   unfold EX;rw[IA,IA,X3];simp only[iM,Oq,EY,Hg];omega
  clear hab hwb KE hL8 hst APb ALh hst2 hown EI hnew hFb;go_wp2;refine ALg (G:=G1) (S:=S1) (B:=2*B+2) (b3:=b3) (b4:=b3+1) (b6:=b3+1+1) (m:=b3+1+1) (ts:=EX dst (Ai fs)) wb _ (AO (by intro c a d v w hd h;exact ASR hd h)) HFB HIC Aa Aa hct HO9 ADO HNA H3b H6b _ _ _ _ _ _ _ _ _ _ _ _ _ _ _ _ _ _ _ _ _ _ _ _ _ _ _ _ _ _ _ _ _ _ _ _ _ _ _ _ _ _ _ _ _ _ _ _ _ _ _ _ _ _ _ _ _ _ _ _ _ _ _ _ _ _ _ _ _ _ _ _ _ _ _ _ _ _ ?_ ?_
  ·refine AO ?_;intro x12 x13 x66 x67 x68 x69 x70 x71 x72 x73 x74 x75 x76 x77 x78 x79 x80 x81 wr2 S2 hT hrun;have AG4:=H6b.out.1.Ap hT.Ap H6b.out.2;have d6:=AG4.cell 0;have y6:=AG4.frozen 0;simp only[FV] at d6;have HT:=AO hT;have AUm:=AO hrun;have APc:=AO AG4;clear hT hrun AG4;go_wp2;refine leaves_cons (f:=39) (args:=#[.pointer (AA ⟨b3+1+1,0,AB⟩),.pointer (AA ⟨b3,0,AB⟩)]) AV (by simp[go_sem,AOl]) ?_;refine (ALb (APc.out.FH 0 _ |>.cell 0)).mono ?_;rintro e u' w5 ⟨rfl,rfl,rfl⟩;refine⟨_,rZ rfl (APc.out.FH 0 _ |>.cell 0),?_⟩;(have hR:R=(S2,[]):=by rw[HR1.out,AUm.out];rfl);rw[hR];obtain⟨G2,g1,g2,g3,g4⟩:=HT.out;have hcb:AZ G.all w wb:=((TC.out.nil _).trans CZ.out (λx hx=>.inl hx)).Ah HZB.out;have AUn:=HZB.out.size;have ADP: ∀x∈G1.all,x∈G.all\/w.heap.size<=x:=λx hx=>(HA1.out x hx).imp id (λh=>by omega)
   exact .tell (L:=[]) g1 (g2.trans rX.out) (λx hx=>by
    rcases g3 x hx with h|h
    ·exact ADP x h
    ·exact .inr Aa) (hcb.trans g4 ADP) rfl (λx hx=>by cases hx) (λx hx=>by cases hx) (λhm=>by
    rcases g3 _ hm with h|h;exact H6b.out.2 h
    have:=H6b.out.1.lt;omega) Aa
  refine AO ?_;intro x65 x12 x13 x66 x67 x68 x69 x70 x71 x72 x73 x74 x75 x76 x77 x78 x79 x80 x81 wr2 S2 f hP2 hrun;obtain⟨G2,bb,v,g1,g2,g3,g4,g5,g6,g7,g8⟩:=hP2;have hIR:=HIC.out.runT (EX dst (Ai fs));rw[hrun] at hIR;have hl6:=H6b.out.1.lt
  have AUo: ∀k,k<wb.heap.size->k∉G1.all->k∉G2.all:=λk hk hn hm=>by
   rcases g3 _ hm with h|h;exact hn h;omega
  have hc3:wr2.cell? ⟨b3,0,AB⟩=AA (Pg G2):=by
   rw[show Pg G2=Pg G1 by unfold Pg;rw[g2]]
   exact g4.cell H3b.out.1 (λhm=>by
    rcases BF.1 hm with h|h;simp only at h;omega
    exact H3b.out.2.1 h)
  (have hR:R=(S2.clean.1,f::Jn S2.clean.2):=by rw[HR1.out,hrun];rfl);have k1:=ALc (u:=.returning) g1 hIR Aa hc3 g5 g6 (AUo _ hl6 H6b.out.2) g7 Aa;refine leaves_cons (f:=39) (args:=#[.pointer (AA ⟨b3+1+1,0,AB⟩),.pointer (AA ⟨b3,0,AB⟩)]) AV (by simp[go_sem,AOl]) ?_;refine k1.mono ?_;rintro e u' w5 ⟨rfl,rfl,v5,G5,L5,e1,e2,e3,e4,e5,e6,e7⟩;refine⟨_,rZ rfl e1,?_⟩;rw[hR];have hcb:AZ G.all w wb:=((TC.out.nil _).trans CZ.out (λx hx=>.inl hx)).Ah HZB.out;have AUn:=HZB.out.size;have AUQ:=g4.size;have ADP: ∀x∈G1.all,x∈G.all\/w.heap.size<=x:=λx hx=>(HA1.out x hx).imp id (λh=>by omega)
  have APd: ∀x∈G2.all,x∈G.all\/w.heap.size<=x:=λx hx=>by
   rcases g3 x hx with h|h
   ·exact ADP x h
   exact .inr Aa
  refine⟨v5,G5,L5,rfl,e2,e3,e4.trans (g2.trans rX.out),λx hx=>?_,(hcb.trans g4 (λx hx=>?_)).trans e6 (λx hx=>?_),λx hx=>⟨?_,(e7 x hx).1⟩⟩
  ·rcases e5 x hx with h|h
   ·exact APd x h
   exact .inr Aa
  ·rcases BF.1 hx with h|h;exact .inr Aa;exact ADP x h
  ·rcases BF.1 hx with h|h;exact .inr Aa;exact APd x h
  rcases (e7 x hx).2 with h|h<;>omega
 have hx:(∃b,v1=.iface 140 (.pointer (AA ⟨b,0,AB⟩))):=by
  have:=rU.out;unfold Jn ADH at this;simp only[BL hcd] at this;rcases this.rO AV with ⟨_,_,h⟩|⟨b,g,_,_,h⟩;(cases h);exact⟨b,h.1⟩
 obtain⟨b,rfl⟩:=hx;have HR1:Hid (R=(S1,Jn cd)):=AO (by rw[HRX.out,BU hcd]);clear hcd HRX;go_wp2;refine⟨_,rZ rfl (TZ.out.FH 0 _ |>.cell 0),?_⟩;rw[HR1.out];have hz:=HZ0.out;have hw:=HB3.out;have hsz:=CZ.out.size;exact .tell Gf.out rX.out (λx hx=>(HA1.out x hx).imp id (λh=>by omega)) (TC.out.nil _ |>.trans CZ.out (λx hx=>.inl hx)) rU.out (λx hx=>⟨by have:=(uz.out x hx).1;omega,(uz.out x hx).2⟩) (λx hx=>by have:=(uz.out x hx).1;omega) (AG3.out _ Aa Aa) Aa
end
end Go.Proofs.YtkkgcebhfghdnaaGreatDoor.Vw
