/- Part 19 of what that rests on; no condition. -/
import Derived.Test.YtkkgcebhfghdnaaGreatDoorJr
set_option maxRecDepth 100000
set_option maxHeartbeats 8000000
open List renaming flatten_cons→JK
open Option renaming getD_some→Dt, none→AB, some→AA
open Go.Value renaming pointer→P9
open Prod renaming fst→Aa
open Go renaming Value→AP, World→AL, Calls→A7
namespace Go.Proofs.YtkkgcebhfghdnaaGreatDoor.Vw
open Go.RowKit
section
variable {d n:ByteArray}{p:ByteArray×Nat×List (ByteArray×Nat)}{c:ED}{F:Jl}{f:List (ByteArray×Nat)}{L P ib:List Nat}{B fb i j k tb x:Nat}{S:St}{T T':Tr}{w w' w1:AL}
theorem AB3(tb db:Nat)(m:List (ByteArray×AP))(dir:ByteArray)(w:AL)(hm:Mp w tb IQ m)(hd:w.cell? ⟨db,0,AB⟩=AA (.string dir)):
  A7 Af 72 #[.map (AA tb),.pointer (AA ⟨db,0,AB⟩)] w λe w'=>e=.returned (.tuple #[])/\∃fb,w.heap.size<=fb/\Mp w' fb IQ []/\Mp w' tb IQ (Dk m dir (.map (AA fb)))/\AZ [tb] w w':=by
 have hmm:= @run_makeMap Af;have hal:AZ [] w (w.alloc (.map #[] 0)):=(AZ.refl _ _).alloc _;obtain⟨w2,hu,Tf,hc2⟩:=Mp.update (hm.Ak hal BC) (Cj KZ) Iy dir (.map (AA w.heap.size));(have hne:w.heap.size≠tb:=by have:=hm.lt;omega);have HN:Hid (Mp w2 w.heap.size IQ []):=AQ ((Mp.made w IQ).Ak hc2 (by simpa using hne));have HM:=AQ Tf;have HC:Hid (AZ [tb] w w2):=AQ ((hal.nil [tb]).trans hc2 (λx hx=>.inl hx));clear hm Tf hc2 hne hal;go_enter ANB,Tryz.ntmps72;go_wp2
 go_end0
 exact⟨rfl,_,Ba _,HN.out,HM.out,HC.out⟩
theorem AB4(tb db:Nat)(m:List (ByteArray×AP))(dir:ByteArray)(w:AL)(hm:Mp w tb IQ m)(hd:w.cell? ⟨db,0,AB⟩=AA (.string dir)):
  A7 Af 130 #[.map (AA tb),.pointer (AA ⟨db,0,AB⟩)] w λe w'=>e=.returned (.tuple #[])/\Mp w' tb IQ (I9 m dir)/\AZ [tb] w w':=by
 obtain⟨w2,hu,Tf,hc2⟩:=Mp.del hm (ty:=0) (Cj KZ) Iy dir 9;have HM:=AQ Tf;have HC:=AQ hc2;clear hm Tf hc2;go_enter AJU,Tryz.ntmps130;go_wp2
 go_end0
 exact⟨rfl,HM.out,HC.out⟩
theorem zi(tb fb db nb:Nat)(m f:List (ByteArray×AP))(dir name:ByteArray)(w:AL)(hm:Mp w tb IQ m)(hf:Mp w fb IQ f)(hg:BH m dir=AA (.map (AA fb)))
  (hd:w.cell? ⟨db,0,AB⟩=AA (.string dir)) (hn:w.cell? ⟨nb,0,AB⟩=AA (.string name)):
  A7 Af 129 #[.map (AA tb),.pointer (AA ⟨db,0,AB⟩),.pointer (AA ⟨nb,0,AB⟩)] w λe w'=>e=.returned (.tuple #[])/\Mp w' fb IQ (I9 f name)/\AZ [fb] w w':=by
 obtain⟨w2,hu,Tf,hc2⟩:=Mp.del hf (ty:=0) (Cj KZ) PH name 9;have hl:=(Mp.lookup hm (Cj KZ) Iy (z:=.map AB) Aq dir).1;rw[hg,Dt] at hl;have HM:=AQ Tf;have HC:=AQ hc2;clear hm hf Tf hc2 hg;go_enter AJT,Tryz.ntmps129;go_wp2
 go_end0
 exact⟨rfl,HM.out,HC.out⟩
theorem zl(tb fb xb db nb ib:Nat)(m f:List (ByteArray×AP))(dir name:ByteArray)(w:AL)(hm:Mp w tb IQ m)(hf:Mp w fb IQ f)(hg:BH m dir=AA (.map (AA fb)))
  (hx:w.cell? ⟨xb,0,AB⟩=AA (.pointer (AA ⟨ib,0,AB⟩))) (hd:w.cell? ⟨db,0,AB⟩=AA (.string dir)) (hn:w.cell? ⟨nb,0,AB⟩=AA (.string name)):
  A7 Af 73 #[.map (AA tb),.pointer (AA ⟨xb,0,AB⟩),.pointer (AA ⟨db,0,AB⟩),.pointer (AA ⟨nb,0,AB⟩)] w λe w'=>e=.returned (.tuple #[])/\Mp w' fb IQ (Dk f name (.pointer (AA ⟨ib,0,AB⟩)))/\AZ [fb] w w':=by
 obtain⟨w2,hu,Tf,hc2⟩:=Mp.update hf (Cj KZ) PH name (.pointer (AA ⟨ib,0,AB⟩));have hl:=(Mp.lookup hm (Cj KZ) Iy (z:=.map AB) Aq dir).1;rw[hg,Dt] at hl;have HM:=AQ Tf;have HC:=AQ hc2;clear hm hf Tf hc2 hg;go_enter ANC,Tryz.ntmps73;go_wp2
 go_end0
 exact⟨rfl,HM.out,HC.out⟩
theorem zn(tb fb db nb:Nat)(m:List (ByteArray×AP))(src dst:ByteArray)(w:AL)(hm:Mp w tb IQ m)(hg:BH m src=AA (.map (AA fb)))
  (hd:w.cell? ⟨db,0,AB⟩=AA (.string src)) (hn:w.cell? ⟨nb,0,AB⟩=AA (.string dst)) (_:db≠tb) (h2:nb≠tb):
  A7 Af 85 #[.map (AA tb),.pointer (AA ⟨db,0,AB⟩),.pointer (AA ⟨nb,0,AB⟩)] w λe w'=>e=.returned (.tuple #[])/\Mp w' tb IQ (Dk (I9 m src) dst (.map (AA fb)))/\AZ [tb] w w':=by
 have hl:=(Mp.lookup hm (Cj KZ) Iy (z:=.map AB) Aq src).1;rw[hg,Dt] at hl;obtain⟨w2,hu,Tf,hc2⟩:=Mp.del hm (ty:=0) (Cj KZ) Iy src 9;obtain⟨w3,hu3,AB5,hc3⟩:=Mp.update Tf (Cj KZ) Iy dst (.map (AA fb));have hn2:=hc2.cell hn (by simpa using h2);have HM:=AQ AB5;have HC:Hid (AZ [tb] w w3):=AQ (hc2.trans hc3 (λx hx=>.inl hx));clear hm Tf hc2 AB5 hc3 hg;go_enter ANH,Tryz.ntmps85;go_wp2
 go_end0
 exact⟨rfl,HM.out,HC.out⟩
theorem AB6:Ety Af 113 119 1 8 .nilFunc:=.mk' AQU Aq rfl Ar
theorem bI(X:FuncId)(cp:Array AP)(hcf: ∀(p:Array AP) (w:AL),(callFunc X p).run Af w=.ok (.enter X p) w)(b tb:Nat)(sf:Option Nat)(A Aw:Option Addr)(n c nw cw:Nat)(q a:Int)(s:Nat)(xs:List AP)(w:AL)(R:AL->Prop)(L:List Nat)
  (hcall:A7 Af X (#[.map (AA tb)]++cp) w λe w'=>e=.returned (.tuple #[])/\R w'/\AZ L w w')
  (hb:Bl w b 116 #[.map (AA tb),.map sf,.slice A n c,.slice Aw nw cw,.int .i64 q,.int .i64 a,.int .i64 (s:Int)]) (ho:Own w 119 1 A n c xs) (hbL:b∉L) (hoL: ∀x∈bo A,x∉L) (hn:n<=1073741824) (hs:s<=1073741824):
  A7 Af 71 #[.pointer (AA ⟨b,0,AB⟩),.func (.func X) #[] cp] w λe w'=>e=.returned (.int .i64 0)/\∃w1,R w1/\AZ L w w1/\AZ (b::bo A) w1 w'/\∃A' c',
   Bl w' b 116 #[.map (AA tb),.map sf,(.slice A' (n+1) c'),.slice Aw nw cw,.int .i64 q,.int .i64 a,.int .i64 ((s+1:Nat):Int)]/\Own w' 119 1 A' (n+1) c' (xs++[.func (.func X) #[] cp])/\∀x∈bo A',x∈bo A\/w1.heap.size<=x:=by
 have HC:=AQ hcall;have HB:=AQ hb;have HO:=AQ ho;have h0:=hb.cell 0;simp at h0;(have hwt:IntKind.i64.wrap ((s:Int)+1)=((s+1:Nat):Int):=by rw[IntKind.wrap_i64];omega);clear hcall hb ho;go_enter ANA,Tryz.ntmps71;(go_wp2_with fail);refine HC.out.mono ?_;rintro e w1 ⟨rfl,hr,hc1⟩;have HR:=AQ hr;have DI:=AQ hc1;have hb1:=HB.out.Ak hc1 hbL;have HO1:=AQ (HO.out.Ak hc1 hoL);have HB1:=AQ hb1;have x2:=hb1.cell 2;simp at x2;clear hr hc1 hb1 h0;(go_wp2_with (at_builtin;refine Gz rfl _ _ rfl AB6 rfl (HO1.out.Ak ((AZ.refl [] w1).alloc (.cells #[.func (.func X) #[] cp] 119)) Ej) rfl (Own.lit w1 119 1 #[.func (.func X) #[] cp] 1 Ar rfl).rd (by simp[Value.oneCell']) Qv Ad ?_;intro A2 c2 w2 hown2 PK J6 _;have HCX:Hid (AZ (bo A) w1 w2):=AQ ((((AZ.refl [] w1).alloc (.cells #[.func (.func X) #[] cp] 119)).nil _).trans PK (λx hx=>.inl hx));have tX:b∉bo A:=(λhm=>HO1.out.GG HB1.out Ar b hm rfl);have HB2:=AQ (HB1.out.Ak HCX.out tX);have y2:=HB2.out.cell 2;have f2:=HB2.out.frozen 2;have HB3:=AQ (HB2.out.FK 2 (.slice A2 (n+1) c2));have y6:=HB3.out.cell 6;have f6:=HB3.out.frozen 6;simp at y2 y6;have HO2:=AQ hown2;have HN2:Hid (∀x∈bo A2,x∈bo A\/w1.heap.size<=x):=AQ (λx hx=>(J6 x hx).imp id (λh=>by have:=h.1;simp at this;omega));clear hown2 PK J6 tX));go_ret;have hb2:=HO2.out.GG HB2.out Ar;have hb4:=HB3.out.FK 6 (.int .i64 ((s+1:Nat):Int));refine⟨rfl,w1,HR.out,DI.out,?_,A2,c2,?_,?_,HN2.out⟩;exact ((HCX.out.mono (λx hx=>.inl (CO _ hx))).setCell (.inl AV) _).setCell (.inl AV) _;simpa using hb4;have hcs:AZ [b] w2 ((w2.setCell ⟨b,2,AB⟩ (.slice A2 (n+1) c2)).setCell ⟨b,6,AB⟩ (.int .i64 ((s+1:Nat):Int))):=((AZ.refl _ _).setCell (.inl AV) _).setCell (.inl AV) _;have q:=HO2.out.Ak hcs (λx hx hm=>hb2 x hx (by simpa using hm));simpa using q
section
variable {κ α β:Type} [DecidableEq κ]
theorem YK(f:α->β)(t:List (κ×α))(k:κ)(v:α):Dk (t.map λp=>(p.1,f p.2)) k (f v)=(Dk t k v).map λp=>(p.1,f p.2):=by
 induction t with
 |nil=>rfl|cons p r ih=>
  rw[BK,VU,VU,ih];by_cases h:p.1=k<;>simp[h]
theorem fJ(f:α->β)(t:List (κ×α))(k:κ):I9 (t.map λp=>(p.1,f p.2)) k=(I9 t k).map λp=>(p.1,f p.2):=by
 induction t with
 |nil=>rfl|cons p r ih=>
  rw[BK,ZY,ZY,ih];by_cases h:p.1=k<;>simp[h]
theorem Jw{t:List (κ×α)}(hn:(t.map Aa).Nodup){k:κ}{v:α}{p:κ×α}:p∈Dk t k v↔p=(k,v)\/(p∈t/\p.1≠k):=by
 rw[(VV hn k v).mem_iff,BB];unfold without;simp
theorem PO{t:List (κ×α)}(hn:(t.map Aa).Nodup){k:κ}{p:κ×α}:p∈I9 t k↔(p∈t/\p.1≠k):=by
 rw[MV hn];unfold without;simp
theorem Xc{t:List (κ×α)}(hn:(t.map Aa).Nodup)(k:κ):((I9 t k).map Aa).Nodup:=by
 rw[MV hn];exact hn.sublist (List.filter_sublist.map _)
theorem VZ{t:List (κ×α)}{k:κ}{v:α}(h:BH t k=AA v):Dk t k v=t:=by
 induction t with
 |nil=>cases h|cons p r ih=>
  rw[FC] at h;rw[VU];by_cases hp:p.1=k
  ·rw[BZ hp] at h⊢;injection h with h;rw[<- hp,<- h]
  rw[BM hp] at h⊢;rw[ih h]
end
abbrev MX:=List (ByteArray×Nat×List (ByteArray×Nat))
def ET (tb:Nat) (g:MX):List Nat:=tb::g.map λp=>p.2.1
def EE (ib:List Nat) (i:Nat):Nat:=ib.getD i 0
structure D7 (ib:List Nat) (g:MX) (T:Tr):Prop where
 top: ∀k,(BH g k).isSome=(BH T k).isSome
 sub: ∀k d F,BH g k=AA d->BH T k=AA F->∀n,BH d.2 n=(BH F n).map (EE ib)
theorem PQ(g:MX):(Eu g).map Aa=g.map Aa:=by unfold Eu;rw[Eg];rfl
theorem Rh(f:List (ByteArray×Nat)):(Ip f).map Aa=f.map Aa:=by unfold Ip;rw[Eg];rfl
theorem Tree.nodup{w:AL}{tb:Nat}{g:MX}(h:Tree w tb g):(g.map Aa).Nodup:=by rw[<- PQ];exact h.top.nodup
theorem Tree.Ri{g:MX}(h:Tree w tb g)(hp:p∈g):(p.2.2.map Aa).Nodup:=by rw[<- Rh];exact (h.sub p hp).nodup
theorem Tree.lt{w:AL}{tb:Nat}{g:MX}(h:Tree w tb g): ∀x∈ET tb g,x<w.heap.size:=by
 intro x hx;rcases BB.1 hx with rfl|hx;exact h.top.lt;obtain⟨p,hp,rfl⟩:=Bz.1 hx;exact (h.sub p hp).lt
theorem Tree.keep{g:MX}(h:Tree w tb g)(hc:AZ L w w')(hn: ∀x∈ET tb g,x∉L):Tree w' tb g:=
 h.Ak hc (hn tb (by simp[ET])) (λp hp=>hn _ (by simp only[ET,BB,Bz];exact .inr ⟨p,hp,rfl⟩))
theorem D7.get{g:MX}(h:D7 ib g T){k:ByteArray}(hF:BH T k=AA F): ∃d,BH g k=AA d/\∀n,BH d.2 n=(BH F n).map (EE ib):=by
 have:=h.top k;rw[hF] at this
 cases hg:BH g k with|none=>rw[hg] at this;cases this|some d=>exact⟨d,rfl,h.sub k d F hg hF⟩
theorem D7.none{ib:List Nat}{g:MX}{T:Tr}(h:D7 ib g T){k:ByteArray}(hF:BH T k=AB):BH g k=AB:=by
 have:=h.top k;rw[hF] at this
 cases hg:BH g k with|none=>rfl|some d=>rw[hg] at this;cases this
theorem D7.Xa{g:MX}(h:D7 ib g T)(k n:ByteArray):((BH g k).bind λd=>BH d.2 n)=(BH (Ey T k) n).map (EE ib):=by
 unfold Ey
 cases hF:BH T k with|none=>rw[h.none hF];rfl|some F=>obtain⟨d,hd,hs⟩:=h.get hF;rw[hd];exact hs n
theorem D7.keys{g:MX}(h:D7 ib g T)(hn:(g.map Aa).Nodup)(hT:RH T):(g.map Aa).Perm (T.map Aa):=by
 rw[AFF hn hT.nodup];intro k;rw[<- IC,<- IC,h.top]
theorem fK(h: ∀n,BH f n=(BH F n).map (EE ib))(hn:(f.map Aa).Nodup)(hF:RH F):(f.map Aa).Perm (F.map Aa):=by
 rw[AFF hn hF.nodup];intro k;rw[<- IC,<- IC,h k];cases BH F k<;>rfl
theorem D7.put{g:MX}(h:D7 ib g T)(hn:(g.map Aa).Nodup)(hT: ∀k,BH T' k=if d=k then AA F else BH T k)
  (hf: ∀n,BH f n=(BH F n).map (EE ib)):D7 ib (Dk g d (fb,f)) T':=by
 refine⟨λk=>?_,λk e F' he hF'=>?_⟩
 ·rw[SH hn,hT];by_cases hk:d=k;rw[BZ hk,BZ hk];rfl;rw[BM hk,BM hk];exact h.top k
 rw[SH hn] at he;rw[hT] at hF';by_cases hk:d=k
 ·rw[BZ hk] at he hF';injection he with he;injection hF' with hF';rw[<- he,<- hF'];exact hf
 rw[BM hk] at he hF';exact h.sub k e F' he hF'
theorem D7.del{g:MX}(h:D7 ib g T)(hn:(g.map Aa).Nodup)(hT: ∀k,BH T' k=if d=k then Option.none else BH T k):D7 ib (I9 g d) T':=by
 refine⟨λk=>?_,λk e F' he hF'=>?_⟩
 ·rw[Zb hn,hT];by_cases hk:d=k;rw[BZ hk,BZ hk];rfl;rw[BM hk,BM hk];exact h.top k
 rw[Zb hn] at he;rw[hT] at hF';by_cases hk:d=k;rw[BZ hk] at he;cases he;rw[BM hk] at he hF';exact h.sub k e F' he hF'
theorem Tree.put{g:MX}(hn:(g.map Aa).Nodup)(hs: ∀p∈g,Mp w p.2.1 IQ (Ip p.2.2))(ha:(ET tb g).Nodup)(hc:AZ L w w')
  (htop:Mp w' tb IQ (Dk (Eu g) d (.map (AA fb)))) (hf:Mp w' fb IQ (Ip f)) (h1:fb≠tb) (h2: ∀p∈g,p.1≠d->p.2.1≠fb) (hL: ∀p∈g,p.1≠d->p.2.1∉L):Tree w' tb (Dk g d (fb,f)):=by
 refine⟨?_,λp hp=>?_,?_⟩
 ·have:=YK (λx:Nat×List (ByteArray×Nat)=>Value.map (AA x.1)) g d (fb,f);unfold Eu at htop⊢;rw[<- this];exact htop
 ·rcases (Jw hn).1 hp with rfl|⟨hp,hd⟩;exact hf;exact (hs p hp).Ak hc (hL p hp hd)
 have hp:=((VV hn d (fb,f)).map λp=>p.2.1).cons tb;refine hp.nodup_iff.2 ?_;have ha':=Ii.1 ha;rw[BK,Ii,Ii];have hsub:((without g d).map λp=>p.2.1).Sublist (g.map λp=>p.2.1):=List.filter_sublist.map _;refine⟨?_,?_,ha'.2.sublist hsub⟩
 ·rw[BB,not_or];exact⟨λe=>h1 e.symm,λhm=>ha'.1 (hsub.subset hm)⟩
 intro hm;obtain⟨p,hp,e⟩:=Bz.1 hm;unfold without at hp;simp only[xK,decide_eq_true_eq] at hp;exact h2 p hp.1 hp.2 e
theorem Tree.del{g:MX}(h:Tree w tb g)(hc:AZ [tb] w w')(htop:Mp w' tb IQ (I9 (Eu g) d)):Tree w' tb (I9 g d):=by
 have hn:=h.nodup;refine⟨?_,λp hp=>?_,?_⟩
 ·have:=fJ (λx:Nat×List (ByteArray×Nat)=>Value.map (AA x.1)) g d;unfold Eu at htop⊢;rw[<- this];exact htop
 ·have hp:=((PO hn).1 hp).1;refine (h.sub p hp).Ak hc ?_;have:=(Ii.1 h.apart).1;intro e;simp only[CG] at e;exact this (Bz.2 ⟨p,hp,e⟩)
 rw[MV hn];have hsub:((without g d).map λp=>p.2.1).Sublist (g.map λp=>p.2.1):=List.filter_sublist.map _;exact h.apart.sublist (hsub.cons_cons tb)
theorem Tree.Ld{g:MX}(h:Tree w tb g)(hp:p∈g):p.2.1≠tb:=λe=>(Ii.1 h.apart).1 (Bz.2 ⟨p,hp,e⟩)
theorem AEZ{α β:Type}{l:List α}{f:α->β}(hn:(l.map f).Nodup){a b:α}(ha:a∈l)(hb:b∈l)(h:f a=f b):a=b:=by
 induction l with
 |nil=>simp at ha|cons x r ih=>
  rw[BK,Ii] at hn;rcases BB.1 ha with ha1|ha1
  ·rcases BB.1 hb with hb1|hb1;rw[ha1,hb1];exact (hn.1 (Bz.2 ⟨b,hb1,by rw[<- h,ha1]⟩)).elim
  rcases BB.1 hb with hb1|hb1;exact (hn.1 (Bz.2 ⟨a,ha1,by rw[h,hb1]⟩)).elim;exact ih hn.2 ha1 hb1
theorem Tree.kV{g:MX}(h:Tree w tb g){q:ByteArray×Nat×List (ByteArray×Nat)}(hp:p∈g)(hq:q∈g)(hne:p.1≠q.1):p.2.1≠q.2.1:=by
 intro e;have:=AEZ (Ii.1 h.apart).2 hp hq e;exact hne (by rw[this])
def SQ (w:AL) (tb:Nat) (g:MX) (ib:List Nat) (T':Tr) (w':AL):Prop:=
 (∃g',Tree w' tb g'/\D7 ib g' T'/\∀x∈ET tb g',x∈ET tb g\/w.heap.size<=x)/\AZ (ET tb g) w w'
section
variable {w:AL} {tb:Nat} {g:MX} {ib:List Nat} {T:Tr} {m:Nat}
theorem Nr(hn:(g.map Aa).Nodup)(h:fb∈ET tb g\/B<=fb): ∀x∈ET tb (Dk g d (fb,f)),x∈ET tb g\/B<=x:=by
 intro x hx;unfold ET at hx h⊢;rcases BB.1 hx with rfl|hx;left;simp;obtain⟨p,hp,rfl⟩:=Bz.1 hx;rcases (Jw hn).1 hp with rfl|⟨hp,hd⟩;exact h;left;exact CO _ (Bz.2 ⟨p,hp,rfl⟩)
theorem JV(hp:p∈g):p.2.1∈ET tb g:=CO _ (Bz.2 ⟨p,hp,rfl⟩)
theorem vV(ht:Tree w tb g)(hi:D7 ib g T)(hd:BH T d=AB)(hk:w.cell? ⟨k,0,AB⟩=AA (.string d)):
  A7 Af 72 #[.map (AA tb),.pointer (AA ⟨k,0,AB⟩)] w λe w'=>e=.returned (.tuple #[])/\SQ w tb g ib (ED.on T (.CX d)) w':=by
 refine (AB3 tb k (Eu g) d w ht.top hk).mono ?_;rintro e w' ⟨rfl,fb,hge,hfb,htop,hc⟩;(have h2: ∀p∈g,p.2.1≠fb:=λp hp e=>by have:=(ht.sub p hp).lt;omega);have htl:=ht.top.lt
 refine⟨rfl,⟨Dk g d (fb,[]),Tree.put ht.nodup ht.sub ht.apart hc htop (by simpa[Ip] using hfb) Ad (λp hp _=>h2 p hp) (λp hp _=>by simpa using ht.Ld hp),
  hi.put ht.nodup (λk=>QS (En.1 hd) _ k) (λn=>rfl),Nr ht.nodup (.inr hge)⟩,hc.mono (by simp[ET])⟩
theorem vW(ht:Tree w tb g)(hi:D7 ib g T)(hk:w.cell? ⟨k,0,AB⟩=AA (.string d)):
  A7 Af 130 #[.map (AA tb),.pointer (AA ⟨k,0,AB⟩)] w λe w'=>e=.returned (.tuple #[])/\SQ w tb g ib (ED.on T (.rmdir d)) w':=by
 refine (AB4 tb k (Eu g) d w ht.top hk).mono ?_;rintro e w' ⟨rfl,htop,hc⟩;refine⟨rfl,⟨I9 g d,ht.del hc htop,hi.del ht.nodup (λk=>MW T d k),λx hx=>.inl ?_⟩,hc.mono (by simp[ET])⟩;rcases BB.1 hx with rfl|hx;simp[ET];obtain⟨p,hp,rfl⟩:=Bz.1 hx;exact JV ((PO ht.nodup).1 hp).1
theorem Ez(h:BH T d=AA F):Ey T d=F:=by unfold Ey;rw[h];rfl
theorem SS(k:ByteArray):BH (Dx d F (without T d)) k=if d=k then AA F else BH T k:=by
 rw[QS (Jk d),MW];by_cases h:d=k<;>simp[h]
theorem o9(ht:Tree w tb g)(hi:D7 ib g T)(_:Val m T)(hok:ED.ok m T (.create d n i))(hx:w.cell? ⟨x,0,AB⟩=AA (.pointer (AA ⟨EE ib i,0,AB⟩)))
  (hk:w.cell? ⟨k,0,AB⟩=AA (.string d)) (hj:w.cell? ⟨j,0,AB⟩=AA (.string n)):
  A7 Af 73 #[.map (AA tb),.pointer (AA ⟨x,0,AB⟩),.pointer (AA ⟨k,0,AB⟩),.pointer (AA ⟨j,0,AB⟩)] w λe w'=>e=.returned (.tuple #[])/\SQ w tb g ib (ED.on T (.create d n i)) w':=by
 obtain⟨_,_,F,hF,hnone⟩:=hok;obtain⟨e,he,hs⟩:=hi.get hF;have hmem:=CJ he;refine (zl tb e.1 x k j (EE ib i) (Eu g) (Ip e.2) d n w ht.top (ht.sub _ hmem) (by rw[Eo,he];rfl) hx hk hj).mono ?_;rintro r w' ⟨rfl,hfb,hc⟩;have hfv:Dk (Ip e.2) n (.pointer (AA ⟨EE ib i,0,AB⟩))=Ip (Dk e.2 n (EE ib i)):=YK (λi:Nat=>P9 (AA ⟨i,0,AB⟩)) e.2 n (EE ib i);rw[hfv] at hfb;have hL: ∀p∈g,p.1≠d->p.2.1∉[e.1]:=λp hp hne=>by simpa using ht.kV hp hmem hne
 have htop:Mp w' tb IQ (Dk (Eu g) d (.map (AA e.1))):=by
  rw[VZ (by rw[Eo,he];rfl)];exact ht.top.Ak hc (by simpa using (ht.Ld hmem).symm)
 refine⟨rfl,⟨Dk g d (e.1,Dk e.2 n (EE ib i)),Tree.put ht.nodup ht.sub ht.apart hc htop hfb (ht.Ld hmem) (λp hp hne=>by simpa using hL p hp hne) hL,?_,Nr ht.nodup (.inl (JV hmem))⟩,hc.mono (λy hy=>.inl (by simp only[CG] at hy;subst hy;exact JV hmem))⟩;refine hi.put ht.nodup (λk=>SS k) (λn'=>?_);rw[Ez hF,SH (ht.Ri hmem),QS (En.1 hnone),hs n'];by_cases hnn:n=n'<;>simp[hnn]
theorem pF(ht:Tree w tb g)(hi:D7 ib g T)(_:Val m T)(hok:ED.ok m T (.remove d n))
  (hk:w.cell? ⟨k,0,AB⟩=AA (.string d)) (hj:w.cell? ⟨j,0,AB⟩=AA (.string n)):
  A7 Af 129 #[.map (AA tb),.pointer (AA ⟨k,0,AB⟩),.pointer (AA ⟨j,0,AB⟩)] w λe w'=>e=.returned (.tuple #[])/\SQ w tb g ib (ED.on T (.remove d n)) w':=by
 obtain⟨F,hF⟩:=hok;obtain⟨e,he,hs⟩:=hi.get hF;have hmem:=CJ he;refine (zi tb e.1 k j (Eu g) (Ip e.2) d n w ht.top (ht.sub _ hmem) (by rw[Eo,he];rfl) hk hj).mono ?_;rintro r w' ⟨rfl,hfb,hc⟩;have hfv:I9 (Ip e.2) n=Ip (I9 e.2 n):=fJ (λi:Nat=>P9 (AA ⟨i,0,AB⟩)) e.2 n;rw[hfv] at hfb;have hL: ∀p∈g,p.1≠d->p.2.1∉[e.1]:=λp hp hne=>by simpa using ht.kV hp hmem hne
 have htop:Mp w' tb IQ (Dk (Eu g) d (.map (AA e.1))):=by
  rw[VZ (by rw[Eo,he];rfl)];exact ht.top.Ak hc (by simpa using (ht.Ld hmem).symm)
 refine⟨rfl,⟨Dk g d (e.1,I9 e.2 n),Tree.put ht.nodup ht.sub ht.apart hc htop hfb (ht.Ld hmem) (λp hp hne=>by simpa using hL p hp hne) hL,?_,Nr ht.nodup (.inl (JV hmem))⟩,hc.mono (λy hy=>.inl (by simp only[CG] at hy;subst hy;exact JV hmem))⟩;refine hi.put ht.nodup (λk=>SS k) (λn'=>?_);rw[Ez hF,Zb (ht.Ri hmem),MW,hs n'];by_cases hnn:n=n'<;>simp[hnn]
theorem pG{a b:ByteArray}(ht:Tree w tb g)(hi:D7 ib g T)(hok:ED.ok m T (.rename a b))
  (hk:w.cell? ⟨k,0,AB⟩=AA (.string a)) (hj:w.cell? ⟨j,0,AB⟩=AA (.string b)) (h1:k≠tb) (h2:j≠tb):
  A7 Af 85 #[.map (AA tb),.pointer (AA ⟨k,0,AB⟩),.pointer (AA ⟨j,0,AB⟩)] w λe w'=>e=.returned (.tuple #[])/\SQ w tb g ib (ED.on T (.rename a b)) w':=by
 obtain⟨_,F,hF⟩:=hok;obtain⟨e,he,hs⟩:=hi.get hF;have hmem:=CJ he;refine (zn tb e.1 k j (Eu g) a b w ht.top (by rw[Eo,he];rfl) hk hj h1 h2).mono ?_;rintro r w' ⟨rfl,htop,hc⟩;have hdm:I9 (Eu g) a=Eu (I9 g a):=fJ (λx:Nat×List (ByteArray×Nat)=>Value.map (AA x.1)) g a;rw[hdm] at htop;have hn:=ht.nodup;have hnt: ∀p∈I9 g a,p.2.1∉[tb]:=λp hp=>by simpa using ht.Ld ((PO hn).1 hp).1
 have hap:(ET tb (I9 g a)).Nodup:=by
  rw[MV hn];have hsub:((without g a).map λp=>p.2.1).Sublist (g.map λp=>p.2.1):=List.filter_sublist.map _;exact ht.apart.sublist (hsub.cons_cons tb)
 refine⟨rfl,⟨Dk (I9 g a) b (e.1,e.2),Tree.put (Xc hn a) (λp hp=>ht.sub p ((PO hn).1 hp).1) hap hc htop ((ht.sub _ hmem).Ak hc (by simpa using ht.Ld hmem)) (ht.Ld hmem)
  (λp hp _=>ht.kV ((PO hn).1 hp).1 hmem ((PO hn).1 hp).2) (λp hp _=>hnt p hp),?_,λx hx=>.inl ?_⟩,hc.mono (by simp[ET])⟩
 ·refine D7.put (T:=without T a) (F:=F) (hi.del hn (λk=>MW T a k)) (Xc hn a) (λk=>?_) hs;simp only[ED.on,Ez hF];exact SS k
 rcases BB.1 hx with rfl|hx;simp[ET];obtain⟨p,hp,rfl⟩:=Bz.1 hx;rcases (Jw (Xc hn a)).1 hp with rfl|⟨hp,_⟩;exact JV (p:=(a,e)) hmem;exact JV ((PO hn).1 hp).1
end
def Sep (Ps:List (List Nat)):Prop:=Ps.Pairwise λa b=>∀x∈a,x∉b
structure Lay (w:AL) (Ps:List (List Nat)):Prop where
 sep:Sep Ps
 lt: ∀P∈Ps,∀x∈P,x<w.heap.size
theorem Sep.ne{Ps:List (List Nat)}(h:Sep Ps){Q:List Nat}(hi:Ps[i]? =AA P)(hj:Ps[j]? =AA Q)(hij:i≠j): ∀x∈P,x∉Q:=by
 have hil:=(DC.1 hi);have hjl:=(DC.1 hj);obtain⟨hi1,rfl⟩:=hil;obtain⟨hj1,rfl⟩:=hjl;intro x hx hq;rcases Nat.lt_or_gt_of_ne hij with h1|h1;exact (kH.1 h i j hi1 hj1 h1) x hx hq;exact (kH.1 h j i hj1 hi1 h1) x hq hx
theorem Lay.ne{w:AL}{Ps:List (List Nat)}(h:Lay w Ps){i j:Nat}{P Q:List Nat}(hi:Ps[i]? =AA P)(hj:Ps[j]? =AA Q)(hij:i≠j): ∀x∈P,x∉Q:=h.sep.ne hi hj hij
theorem Lay.mono{Ps:List (List Nat)}(h:Lay w Ps)(hs:w.heap.size<=w'.heap.size):Lay w' Ps:=⟨h.sep,λP hP x hx=>ER (h.lt P hP x hx) hs⟩
theorem Lay.FK{Ps:List (List Nat)}(h:Lay w Ps){P':List Nat}(hi:Ps[i]? =AA P)(hn: ∀x∈P',x∈P\/w.heap.size<=x)(hl: ∀x∈P',x<w'.heap.size)(hs:w.heap.size<=w'.heap.size):Lay w' (Ps.set i P'):=by
 have hil:i<Ps.length:=(DC.1 hi).1;refine⟨?_,λQ hQ x hx=>?_⟩
 ·unfold Sep;rw[kH];intro a b ha hb hab;(have ha':a<Ps.length:=by simpa using ha);(have hb':b<Ps.length:=by simpa using hb);have hlt: ∀(c:Nat) (hc:c<Ps.length),∀x∈Ps[c],x<w.heap.size:=λc hc x hx=>h.lt _ (List.getElem_mem hc) x hx;rw[List.getElem_set,List.getElem_set];intro x hx hxb;by_cases h1:i=a
  ·rw[BZ h1] at hx;rw[BM Ad] at hxb;rcases hn x hx with h2|h2
   ·exact h.ne hi (CQ hb') Ad x h2 hxb
   have:=hlt b hb' x hxb;omega
  rw[BM h1] at hx;by_cases h3:i=b
  ·rw[BZ h3] at hxb;rcases hn x hxb with h2|h2
   ·exact h.ne hi (CQ ha') Ad x h2 hx
   have:=hlt a ha' x hx;omega
  rw[BM h3] at hxb;exact (kH.1 h.sep a b ha' hb' hab) x hx hxb
 rcases kD hQ with h1|rfl;exact ER (h.lt Q h1 x hx) hs;exact hl x hx
theorem Lay.snoc{Ps:List (List Nat)}(h:Lay w Ps)(hn: ∀x∈P,w.heap.size<=x)(hl: ∀x∈P,x<w'.heap.size)(hs:w.heap.size<=w'.heap.size):Lay w' (Ps++[P]):=by
 refine⟨?_,λQ hQ x hx=>?_⟩
 ·unfold Sep;rw[Z5];refine⟨h.sep,AV,λQ hQ R hR x hx hr=>?_⟩;simp only[CG] at hR;subst hR;have h1:=hn x hr;have h2:=h.lt Q hQ x hx;omega
 rcases Be.1 hQ with h1|h1;exact ER (h.lt Q h1 x hx) hs;simp only[CG] at h1;subst h1;exact hl x hx
def AB7 (w:AL) (ib K:List Nat):ED->AP->Prop
 | .CX d,v=>∃k,v=.func (.func 72) #[] #[.pointer (AA ⟨k,0,AB⟩)]/\k∈K/\w.cell? ⟨k,0,AB⟩=AA (.string d)| .rmdir d,v=>∃k,v=.func (.func 130) #[] #[.pointer (AA ⟨k,0,AB⟩)]/\k∈K/\w.cell? ⟨k,0,AB⟩=AA (.string d)
 | .create d n i,v=>∃x k j,v=.func (.func 73) #[] #[.pointer (AA ⟨x,0,AB⟩),.pointer (AA ⟨k,0,AB⟩),.pointer (AA ⟨j,0,AB⟩)]/\x∈K/\k∈K/\j∈K/\
   w.cell? ⟨x,0,AB⟩=AA (.pointer (AA ⟨EE ib i,0,AB⟩))/\w.cell? ⟨k,0,AB⟩=AA (.string d)/\w.cell? ⟨j,0,AB⟩=AA (.string n)/\i<ib.length
 | .remove d n,v=>∃k j,v=.func (.func 129) #[] #[.pointer (AA ⟨k,0,AB⟩),.pointer (AA ⟨j,0,AB⟩)]/\k∈K/\j∈K/\w.cell? ⟨k,0,AB⟩=AA (.string d)/\w.cell? ⟨j,0,AB⟩=AA (.string n)| .rename d n,v=>∃k j,v=.func (.func 85) #[] #[.pointer (AA ⟨k,0,AB⟩),.pointer (AA ⟨j,0,AB⟩)]/\k∈K/\j∈K/\w.cell? ⟨k,0,AB⟩=AA (.string d)/\w.cell? ⟨j,0,AB⟩=AA (.string n)
theorem AB7.keep{ib' K K':List Nat}{v:AP}(h:AB7 w ib K c v)(hc:AZ L w w')(hL: ∀x∈K,x∉L)(hK: ∀x∈K,x∈K')(hib: ∀i<ib.length,EE ib' i=EE ib i)(hl:ib.length<=ib'.length):AB7 w' ib' K' c v:=by
 cases c with
 |CX d=>obtain⟨k,h1,h2,h3⟩:=h;exact⟨k,h1,hK k h2,hc.cell h3 (hL k h2)⟩
 |rmdir d=>obtain⟨k,h1,h2,h3⟩:=h;exact⟨k,h1,hK k h2,hc.cell h3 (hL k h2)⟩
 |create d n i=>
  obtain⟨x,k,j,h1,h2,h3,h4,h5,h6,h7,h8⟩:=h;exact⟨x,k,j,h1,hK x h2,hK k h3,hK j h4,by rw[hib i h8];exact hc.cell h5 (hL x h2),hc.cell h6 (hL k h3),hc.cell h7 (hL j h4),Ad⟩
 |remove d n=>obtain⟨k,j,h1,h2,h3,h4,h5⟩:=h;exact⟨k,j,h1,hK k h2,hK j h3,hc.cell h4 (hL k h2),hc.cell h5 (hL j h3)⟩
 |rename d n=>obtain⟨k,j,h1,h2,h3,h4,h5⟩:=h;exact⟨k,j,h1,hK k h2,hK j h3,hc.cell h4 (hL k h2),hc.cell h5 (hL j h3)⟩
structure Bh where
 b:Nat
 t1:Nat
 t2:Nat
 g1:MX
 g2:MX
 A:Option Addr
 c:Nat
 vs:List AP
 Aw:Option Addr
 cw:Nat
 K:List Nat
 ib:List Nat
 sg:List Nat
 Ls:List (List Nat)
def Bh.parts (G:Bh):List (List Nat):=[G.b]::ET G.t1 G.g1::ET G.t2 G.g2::bo G.A::bo G.Aw::G.K::G.Ls
def Bh.all (G:Bh):List Nat:=G.parts.flatten
def pI (ib:List Nat) (i:Nat):AP:=.pointer (AA ⟨EE ib i,0,AB⟩)
def vX (w:AL) (x g:Nat) (L:List Nat) (f:EX):Prop:=Bl w x 126 #[.pointer (AA ⟨g,0,AB⟩)]/\WQ w g L f.1 f.2
structure EI (w:AL) (G:Bh) (S:St):Prop where
 blk:Bl w G.b 116 #[.map (AA G.t1),.map (AA G.t2),.slice G.A S.D6.length G.c,.slice G.Aw S.wr.length G.cw,.int .i64 S.BI,.int .i64 S.stop,.int .i64 (S.steps:Int)]
 FU:Tree w G.t1 G.g1
 Le:D7 G.ib G.g1 S.seen
 tr2:Tree w G.t2 G.g2
 is2:D7 G.ib G.g2 S.safe
 own:Own w 119 1 G.A S.D6.length G.c G.vs
 chn: ∀(i:Nat) (c:ED) (v:AP),S.D6[i]? =AA c->G.vs[i]? =AA v->AB7 w G.ib G.K c v
 fM:Own w 121 1 G.Aw S.wr.length G.cw (S.wr.map (pI G.ib))
 Qe:G.ib.length=S.files.length
 WR:G.sg.length=S.files.length
 RI:G.Ls.length=S.files.length
 Zc:G.ib.Nodup
 WT: ∀x∈G.ib,x∈G.K
 ino: ∀(i x g:Nat) (L:List Nat) (f:EX),G.ib[i]? =AA x->G.sg[i]? =AA g->G.Ls[i]? =AA L->S.files[i]? =AA f->vX w x g L f
 lay:Lay w G.parts
theorem EI.vsl{G:Bh}(h:EI w G S):G.vs.length=S.D6.length:=by have:=h.own.1;omega
theorem Bh.FV{G:Bh}(hi:G.parts[i]? =AA P)(hx:x∈P):x∈G.all:=KD.2 ⟨P,Bq hi,hx⟩
theorem vX.keep{g:Nat}{M:List Nat}{f:EX}(h:vX w x g L f)(hc:AZ M w w')(h1:x∉M)(h2: ∀k∈L,k∉M):vX w' x g L f:=
 ⟨h.1.Ak hc h1,h.2.Ak hc h2⟩
theorem EI.at_{G:Bh}(h:EI w G S){f:EX}(hf:S.files[i]? =AA f): ∃x g L,G.ib[i]? =AA x/\G.sg[i]? =AA g/\G.Ls[i]? =AA L/\vX w x g L f:=by
 have hl:=(DC.1 hf).1;have h1:=h.Qe;have h2:=h.WR;have h3:=h.RI;exact⟨_,_,_,CQ Ad,CQ Ad,CQ Ad,h.ino i _ _ _ f (CQ Ad) (CQ Ad) (CQ Ad) hf⟩
theorem EI.lt{w:AL}{G:Bh}{S:St}(h:EI w G S): ∀x∈G.all,x<w.heap.size:=by
 intro x hx;obtain⟨P,hP,hx⟩:=KD.1 hx;exact h.lay.lt P hP x hx
theorem EI.keep{w w':AL}{G:Bh}{S:St}{L:List Nat}(h:EI w G S)(hc:AZ L w w')(hn: ∀x∈G.all,x∉L):EI w' G S:=by
 have hm: ∀(i:Nat) (P:List Nat),G.parts[i]? =AA P->∀x∈P,x∉L:=λi P hi x hx=>hn x (Bh.FV hi hx)
 refine⟨h.blk.Ak hc (hm 0 _ rfl _ AV),h.FU.keep hc (hm 1 _ rfl),h.Le,h.tr2.keep hc (hm 2 _ rfl),h.is2,h.own.Ak hc (hm 3 _ rfl),λi c v h1 h2=>(h.chn i c v h1 h2).keep hc (hm 5 _ rfl) (λ_ h=>h) (λ_ _=>rfl) (Ba _),
  h.fM.Ak hc (hm 4 _ rfl),h.Qe,h.WR,h.RI,h.Zc,h.WT,λi x g M f h1 h2 h3 h4=>(h.ino i x g M f h1 h2 h3 h4).keep hc (hm 5 _ rfl x (h.WT x (Bq h1))) (hm (i+6) M (by simpa[Bh.parts] using h3)),h.lay.mono hc.size⟩
theorem EI.CE{G:Bh}(h:EI w G S)(hc:AZ [] w w'):EI w' G S:=h.keep hc Ej
def DJ (w:AL) (G:Bh) (S':St) (w':AL):Prop:=∃G',EI w' G' S'/\G'.b=G.b/\(∀x∈G'.all,x∈G.all\/w.heap.size<=x)/\AZ G.all w w'
theorem DJ.same{G:Bh}(h:EI w G S)(hc:AZ [] w w'):DJ w G S w':=⟨G,h.CE hc,rfl,λ_ hx=>.inl hx,hc.nil _⟩
theorem AFw{G:Bh}(h:EI w G S)(there:Bool)(ns:List ByteArray):QR S.stop S.steps (Eu G.g1) there ns=S.ask there ns:=by
 have: ∀k,(BH (Eu G.g1) k).isNone=(BH S.seen k).isNone:=λk=>by
  have:=h.Le.top k;rw[Eo];cases h1:BH G.g1 k<;>cases h2:BH S.seen k<;>rw[h1,h2] at this<;>first|rfl|cases this
 unfold QR St.ask St.down;rw[this]
theorem find_eq{G:Bh}(h:EI w G S)(d n:ByteArray):VY S.stop S.steps G.g1 d n=((S.Oa d n).1.map (EE G.ib),(S.Oa d n).2):=by
 unfold VY St.Oa;rw[AFw h];split;rfl;rw[h.Le.Xa d n];cases BH (Ey S.seen d) n<;>rfl
theorem Va{G:Bh}(h:EI w G S)(there:Bool)(A:Option Addr)(n c:Nat)(ns:List ByteArray)(hr:Rd w 1 A n c (PN ns))(hn:n<=1073741824)(ht:there=true->0<n):
  A7 Af 70 #[.pointer (AA ⟨G.b,0,AB⟩),.bool there,.slice A n c] w λe w'=>e=.returned (.int .i64 (S.ask there ns))/\AZ [] w w':=by
 rw[<- AFw h];exact AB2 G.b G.t1 S.stop S.steps (Eu G.g1) there A n c ns w (by simpa using h.blk.cell 0) (by simpa using h.blk.cell 5) (by simpa using h.blk.cell 6) h.FU.top o7 hr hn ht
theorem pJ{G:Bh}(h:EI w G S)(d n:ByteArray):
  A7 Af 81 #[.pointer (AA ⟨G.b,0,AB⟩),.string d,.string n] w λe w'=>e=.returned (XZ ((S.Oa d n).1.map (EE G.ib),(S.Oa d n).2))/\AZ [] w w':=by
 rw[<- find_eq h];exact AHA G.b G.t1 S.stop S.steps G.g1 d n w (by simpa using h.blk.cell 0) (by simpa using h.blk.cell 5) (by simpa using h.blk.cell 6) h.FU
theorem AB8{G:Bh}(h:EI w G S):
  A7 Af 61 #[.pointer (AA ⟨G.b,0,AB⟩)] w λe w'=>e=.returned (.bool S.down)/\AZ [] w w':=
 vU G.b S.stop S.steps w (by simpa using h.blk.cell 5) (by simpa using h.blk.cell 6)
theorem EI.vY{G:Bh}(h:EI w G S)(hc:AZ [] w w1)(hx:w.heap.size<=x)(hx1:x<w1.heap.size):EI w1 {G with K:=x::G.K} S:=by
 have h1:=h.CE hc;refine⟨h1.blk,h1.FU,h1.Le,h1.tr2,h1.is2,h1.own,λi c v a b=>(h1.chn i c v a b).keep (AZ.refl [] w1) Ej (λ_ hm=>CO _ hm) (λ_ _=>rfl) (Ba _),h1.fM,h1.Qe,h1.WR,h1.RI,h1.Zc,λy hy=>CO _ (h1.WT y hy),h1.ino,?_⟩
 exact h.lay.FK (i:=5) (P':=x::G.K) rfl (λy hy=>by rcases BB.1 hy with rfl|hy;exact .inr hx;exact .inl hy) (λy hy=>by
  rcases BB.1 hy with rfl|hy;exact hx1
  exact h1.lay.lt G.K (Bq (i:=5) rfl) y hy) hc.size
theorem bJ(hi:i<ib.length):EE (ib++[x]) i=EE ib i:=by
 unfold EE;rw[GY,GY,NK hi]
theorem AB9(ib:List Nat)(x:Nat):EE (ib++[x]) ib.length=x:=by
 unfold EE;rw[GY,Gt (Ba _)];simp
theorem zo(h:ib[i]? =AA x):EE ib i=x:=by
 unfold EE;rw[GY,h];rfl
theorem D7.grow{g:MX}{m:Nat}(h:D7 ib g T)(hv:Val m T)(hm:ib.length=m):D7 (ib++[x]) g T:=
 ⟨h.top,λk d F hd hF n=>by
  rw[h.sub k d F hd hF n]
  cases hn:BH F n with
  |none=>rfl|some i=>
   have:=hv.ids _ (CJ hF) _ (CJ hn);simp only[Option.map_some]
   rw[bJ (by simpa[hm] using this)]⟩
theorem EI.bK{w2:AL}{G:Bh}(h:EI w G S)(hi:Inv B S)(hc1:AZ [] w w1){g:Nat}{f:List Int}(hL: ∀k∈L,w.heap.size<=k)(hs:WQ w1 g L f [])(hc2:AZ [] w1 w2)
  {x:Nat} (hx:w1.heap.size<=x) (hb:Bl w2 x 126 #[.pointer (AA ⟨g,0,AB⟩)]):
  EI w2 {G with K:=x::G.K,ib:=G.ib++[x],sg:=G.sg++[g],Ls:=G.Ls++[L]} {S with files:=S.files++[(f,[])]}:=by
 have h2:=h.CE (hc1.Ap hc2);have hxl:=hb.lt;refine⟨h2.blk,h2.FU,h2.Le.grow hi.val h.Qe,h2.tr2,h2.is2.grow hi.safe h.Qe,h2.own,λi c v a b=>(h2.chn i c v a b).keep (AZ.refl [] w2) Ej (λ_ hm=>CO _ hm) (λi hi=>bJ hi) AV,?_,by simp[h.Qe],by simp[h.WR],by simp[h.RI],?_,?_,?_,?_⟩
 ·have e:S.wr.map (pI (G.ib++[x]))=S.wr.map (pI G.ib):=He λi hm=>by
   unfold pI;rw[bJ (by rw[h.Qe];exact hi.wr i hm)]
  show Own w2 121 1 G.Aw S.wr.length G.cw (S.wr.map (pI (G.ib++[x])));rw[e];exact h2.fM
 ·show (G.ib++[x]).Nodup;rw[Pj];refine⟨h.Zc,AV,λa ha b hb=>?_⟩;simp only[CG] at hb;subst hb;have:=h.lay.lt G.K (Bq (i:=5) rfl) a (h.WT a ha);have:=hc1.size;omega
 ·intro y hy;rcases Be.1 hy with hy|hy;exact CO _ (h.WT y hy);simp only[CG] at hy;subst hy;simp
 ·intro i y gg M ff e1 e2 e3 e4;have l1:=h.Qe;have l2:=h.WR;have l3:=h.RI;by_cases hil:i<S.files.length
  ·simp only at e1 e2 e3 e4;rw[NK Ad] at e1 e2 e3 e4;exact h2.ino i y gg M ff e1 e2 e3 e4
  have hie:i=S.files.length:=by
   have:=(DC.1 e4).1;simp at this;omega
  subst hie;simp only at e1 e2 e3 e4;rw[Gt Ad,l1,Jf] at e1;rw[Gt Ad,l2,Jf] at e2;rw[Gt Ad,l3,Jf] at e3;rw[Gt Ad,Jf] at e4;simp at e1 e2 e3 e4;subst e1;subst e2;subst e3;subst e4;exact⟨hb,hs.Ak hc2 Ej⟩
 have h3:=h.lay.snoc (w':=w1) hL hs.lt hc1.size
 have h4:=h3.FK (w':=w2) (i:=5) (P:=G.K) (P':=x::G.K) rfl (λy hy=>by rcases BB.1 hy with rfl|hy;exact .inr hx;exact .inl hy) (λy hy=>by
  rcases BB.1 hy with rfl|hy;exact hxl
  exact h2.lay.lt G.K (Bq (i:=5) rfl) y hy) hc2.size
 exact h4
theorem EI.did{G:Bh}{v:AP}{A':Option Addr}{c':Nat}(h:EI w G S)(hv:AB7 w G.ib G.K c v)(hcl:SQ w G.t1 G.g1 G.ib (c.on S.seen) w1)(hc1:AZ (G.b::bo G.A) w1 w')
  (hb:Bl w' G.b 116 #[.map (AA G.t1),.map (AA G.t2),.slice A' (S.D6.length+1) c',.slice G.Aw S.wr.length G.cw,.int .i64 S.BI,.int .i64 S.stop,.int .i64 ((S.steps+1:Nat):Int)])
  (ho:Own w' 119 1 A' (S.D6.length+1) c' (G.vs++[v])) (hA: ∀x∈bo A',x∈bo G.A\/w1.heap.size<=x):DJ w G (S.make c) w':=by
 obtain⟨⟨g',ht',hi',hsub⟩,hct⟩:=hcl;have hm: ∀(i:Nat) (P:List Nat),G.parts[i]? =AA P->i≠1->∀x∈P,x∉ET G.t1 G.g1:=λi P hi hne x hx=>h.lay.ne hi (j:=1) rfl hne x hx
 have hm2: ∀(i:Nat) (P:List Nat),G.parts[i]? =AA P->i≠0->i≠3->∀x∈P,x∉G.b::bo G.A:=λi P hi h0 h3 x hx hmem=>by
  rcases BB.1 hmem with rfl|hmem;exact h.lay.ne hi (j:=0) rfl h0 _ hx AV;exact h.lay.ne hi (j:=3) rfl h3 x hx hmem
 have k1: ∀(i:Nat) (P:List Nat),G.parts[i]? =AA P->i≠0->i≠3->i≠1->∀x∈P,x∉ET G.t1 G.g1++(G.b::bo G.A):=λi P hi h0 h3 h1 x hx hmem=>by
  rcases Be.1 hmem with hmem|hmem;exact hm i P hi h1 x hx hmem;exact hm2 i P hi h0 h3 x hx hmem
 have hcc:AZ (ET G.t1 G.g1++(G.b::bo G.A)) w w':=(hct.mono (λx hx=>.inl (Fh _ hx))).trans hc1 (λx hx=>.inl (Gx _ hx));have AEa:=h.lay.FK (w':=w1) (i:=1) (P':=ET G.t1 g') rfl hsub ht'.lt hct.size;have ARJ:=AEa.FK (w':=w') (i:=3) (P:=bo G.A) (P':=bo A') rfl hA ho.lt hc1.size
 have htn: ∀x∈ET G.t1 g',x∉G.b::bo G.A:=λx hx hmem=>by
  rcases BB.1 hmem with rfl|hmem
  ·exact AEa.ne (i:=1) (j:=0) (P:=ET G.t1 g') (Q:=[G.b]) rfl rfl Ar _ hx AV
  exact AEa.ne (i:=1) (j:=3) (P:=ET G.t1 g') (Q:=bo G.A) rfl rfl Ar x hx hmem
 refine⟨{G with g1:=g',A:=A',c:=c',vs:=G.vs++[v]},⟨?_,ht'.keep hc1 htn,hi',h.tr2.keep hcc (k1 2 _ rfl Ar Ar Ar),h.is2,?_,?_,h.fM.Ak hcc (k1 4 _ rfl Ar Ar Ar),h.Qe,h.WR,h.RI,h.Zc,h.WT,?_,ARJ⟩,rfl,?_,?_⟩;simpa[St.make] using hb;simpa[St.make] using ho
 ·intro i c0 v0 e1 e2;have hvl:=h.vsl;have hK: ∀x∈G.K,x∉ET G.t1 G.g1++(G.b::bo G.A):=k1 5 _ rfl Ar Ar Ar;simp only[St.make] at e1 e2;by_cases hil:i<S.D6.length
  ·rw[NK Ad] at e1 e2;exact (h.chn i c0 v0 e1 e2).keep hcc hK (λ_ h=>h) (λ_ _=>rfl) (Ba _)
  have hie:i=S.D6.length:=by
   have:=(DC.1 e1).1;simp at this;omega
  subst hie;rw[Gt (Ba _),Jf] at e1;rw[Gt Ad,hvl,Jf] at e2;simp at e1 e2;subst e1;subst e2;exact hv.keep hcc hK (λ_ h=>h) (λ_ _=>rfl) (Ba _)
 ·intro i x g L f e1 e2 e3 e4;exact (h.ino i x g L f e1 e2 e3 e4).keep hcc (k1 5 _ rfl Ar Ar Ar x (h.WT x (Bq e1))) (k1 (i+6) L (by simpa[Bh.parts] using e3) Ad Ad Ad)
 ·intro x hx;obtain⟨P,hP,hx⟩:=KD.1 hx;simp only[Bh.parts,BB] at hP;rcases hP with rfl|rfl|rfl|rfl|hP;exact .inl (Bh.FV (i:=0) rfl hx);exact (hsub x hx).imp (λh=>Bh.FV (i:=1) rfl h) id;exact .inl (Bh.FV (i:=2) rfl hx);exact (hA x hx).imp (λh=>Bh.FV (i:=3) rfl h) (λh=>Ci hct.size h);exact .inl (KD.2 ⟨P,by simp only[Bh.parts,BB];exact .inr (.inr (.inr (.inr hP))),hx⟩)
 exact hcc.mono (λx hx=>.inl (by
  rcases Be.1 hx with hx|hx;exact Bh.FV (i:=1) rfl hx;rcases BB.1 hx with rfl|hx;exact Bh.FV (i:=0) rfl AV
  exact Bh.FV (i:=3) rfl hx))
theorem DJ.of{w0:AL}{G G0:Bh}{S':St}(h:DJ w0 G0 S' w')(hc:AZ [] w w0)(hb:G0.b=G.b)(hsub: ∀x∈G0.all,x∈G.all\/w.heap.size<=x):DJ w G S' w':=by
 obtain⟨G',h1,h2,h3,h4⟩:=h
 exact⟨G',h1,h2.trans hb,λx hx=>by
  rcases h3 x hx with h|h;exact hsub x h
  exact .inr (Ci hc.size h),(hc.nil _).trans h4 hsub⟩
theorem Bh.Uy{G:Bh}(hx:B<=x): ∀y∈Bh.all {G with K:=x::G.K},y∈G.all\/B<=y:=by
 intro y hy;simp only[Bh.all,Bh.parts,JK,Be,BB] at hy⊢;rcases hy with h|h|h|h|h|(rfl|h)|h;exact .inl (.inl h);exact .inl (.inr (.inl h));exact .inl (.inr (.inr (.inl h)));exact .inl (.inr (.inr (.inr (.inl h))));exact .inl (.inr (.inr (.inr (.inr (.inl h)))));exact .inr hx;exact .inl (.inr (.inr (.inr (.inr (.inr (.inl h))))));exact .inl (.inr (.inr (.inr (.inr (.inr (.inr h))))))
theorem Bh.zq{G:Bh}{g:Nat}(hx:B<=x)(hL: ∀k∈L,B<=k): ∀y∈Bh.all {G with K:=x::G.K,ib:=G.ib++[x],sg:=G.sg++[g],Ls:=G.Ls++[L]},y∈G.all\/B<=y:=by
 intro y hy;simp only[Bh.all,Bh.parts,JK,kE,List.flatten_nil,LM,Be,BB] at hy⊢;rcases hy with h|h|h|h|h|(rfl|h)|h|h;exact .inl (.inl h);exact .inl (.inr (.inl h));exact .inl (.inr (.inr (.inl h)));exact .inl (.inr (.inr (.inr (.inl h))));exact .inl (.inr (.inr (.inr (.inr (.inl h)))));exact .inr hx;exact .inl (.inr (.inr (.inr (.inr (.inr (.inl h))))));exact .inl (.inr (.inr (.inr (.inr (.inr (.inr h))))));exact .inr (hL y h)
end
end Go.Proofs.YtkkgcebhfghdnaaGreatDoor.Vw
