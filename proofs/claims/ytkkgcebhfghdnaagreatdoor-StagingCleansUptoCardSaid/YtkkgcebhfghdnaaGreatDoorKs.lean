/- Part 19 of what that rests on; no condition. -/
import Derived.Test.YtkkgcebhfghdnaaGreatDoorKr
set_option maxRecDepth 100000
set_option maxHeartbeats 8000000
namespace Go.Proofs.YtkkgcebhfghdnaaGreatDoor.Vw
open Go.RowKit
theorem AAg(tb db:Nat)(m:List (ByteArray×Value))(dir:ByteArray)(w:World)(hm:Mp w tb IA m)(hd:w.cell? ⟨db,0,none⟩=some (.string dir)):
  Calls Ae 72 #[.map (some tb),.pointer (some ⟨db,0,none⟩)] w λe w'=>e=.returned (.tuple #[])/\∃fb,w.heap.size<=fb/\Mp w' fb IA []/\Mp w' tb IA (Dp m dir (.map (some fb)))/\AZ [tb] w w':=by
 have hmm:= @run_makeMap Ae;have hal:AZ [] w (w.alloc (.map #[] 0)):=(AZ.refl _ _).alloc _;obtain⟨w2,hu,Sj,hc2⟩:=Mp.update (hm.Am hal AB) (Cm J4) IZ dir (.map (some w.heap.size));(have hne:w.heap.size≠tb:=by have:=hm.lt;omega);have HN:Hid (Mp w2 w.heap.size IA []):=AQ ((Mp.made w IA).Am hc2 (by simpa using hne));have HM:=AQ Sj;have HC:Hid (AZ [tb] w w2):=AQ ((hal.nil [tb]).trans hc2 (λx hx=>.inl hx));clear hm Sj hc2 hne hal;go_enter AKy,Tryz.ntmps72;go_wp2
 go_end0
 exact⟨rfl,_,AP _,HN.out,HM.out,HC.out⟩
theorem AAh(tb db:Nat)(m:List (ByteArray×Value))(dir:ByteArray)(w:World)(hm:Mp w tb IA m)(hd:w.cell? ⟨db,0,none⟩=some (.string dir)):
  Calls Ae 130 #[.map (some tb),.pointer (some ⟨db,0,none⟩)] w λe w'=>e=.returned (.tuple #[])/\Mp w' tb IA (Ii m dir)/\AZ [tb] w w':=by
 obtain⟨w2,hu,Sj,hc2⟩:=Mp.del hm (ty:=0) (Cm J4) IZ dir 9;have HM:=AQ Sj;have HC:=AQ hc2;clear hm Sj hc2;go_enter AHW,Tryz.ntmps130;go_wp2
 go_end0
 exact⟨rfl,HM.out,HC.out⟩
theorem wZ(tb fb db nb:Nat)(m f:List (ByteArray×Value))(dir name:ByteArray)(w:World)(hm:Mp w tb IA m)(hf:Mp w fb IA f)(hg:BJ m dir=some (.map (some fb)))
  (hd:w.cell? ⟨db,0,none⟩=some (.string dir)) (hn:w.cell? ⟨nb,0,none⟩=some (.string name)):
  Calls Ae 129 #[.map (some tb),.pointer (some ⟨db,0,none⟩),.pointer (some ⟨nb,0,none⟩)] w λe w'=>e=.returned (.tuple #[])/\Mp w' fb IA (Ii f name)/\AZ [fb] w w':=by
 obtain⟨w2,hu,Sj,hc2⟩:=Mp.del hf (ty:=0) (Cm J4) Oc name 9;have hl:=(Mp.lookup hm (Cm J4) IZ (z:=.map none) Ap dir).1;rw[hg,Option.getD_some] at hl;have HM:=AQ Sj;have HC:=AQ hc2;clear hm hf Sj hc2 hg;go_enter AHV,Tryz.ntmps129;go_wp2
 go_end0
 exact⟨rfl,HM.out,HC.out⟩
theorem wu(tb fb xb db nb ib:Nat)(m f:List (ByteArray×Value))(dir name:ByteArray)(w:World)(hm:Mp w tb IA m)(hf:Mp w fb IA f)(hg:BJ m dir=some (.map (some fb)))
  (hx:w.cell? ⟨xb,0,none⟩=some (.pointer (some ⟨ib,0,none⟩))) (hd:w.cell? ⟨db,0,none⟩=some (.string dir)) (hn:w.cell? ⟨nb,0,none⟩=some (.string name)):
  Calls Ae 73 #[.map (some tb),.pointer (some ⟨xb,0,none⟩),.pointer (some ⟨db,0,none⟩),.pointer (some ⟨nb,0,none⟩)] w λe w'=>e=.returned (.tuple #[])/\Mp w' fb IA (Dp f name (.pointer (some ⟨ib,0,none⟩)))/\AZ [fb] w w':=by
 obtain⟨w2,hu,Sj,hc2⟩:=Mp.update hf (Cm J4) Oc name (.pointer (some ⟨ib,0,none⟩));have hl:=(Mp.lookup hm (Cm J4) IZ (z:=.map none) Ap dir).1;rw[hg,Option.getD_some] at hl;have HM:=AQ Sj;have HC:=AQ hc2;clear hm hf Sj hc2 hg;go_enter AKz,Tryz.ntmps73;go_wp2
 go_end0
 exact⟨rfl,HM.out,HC.out⟩
theorem xA(tb fb db nb:Nat)(m:List (ByteArray×Value))(src dst:ByteArray)(w:World)(hm:Mp w tb IA m)(hg:BJ m src=some (.map (some fb)))
  (hd:w.cell? ⟨db,0,none⟩=some (.string src)) (hn:w.cell? ⟨nb,0,none⟩=some (.string dst)) (_:db≠tb) (h2:nb≠tb):
  Calls Ae 85 #[.map (some tb),.pointer (some ⟨db,0,none⟩),.pointer (some ⟨nb,0,none⟩)] w λe w'=>e=.returned (.tuple #[])/\Mp w' tb IA (Dp (Ii m src) dst (.map (some fb)))/\AZ [tb] w w':=by
 have hl:=(Mp.lookup hm (Cm J4) IZ (z:=.map none) Ap src).1;rw[hg,Option.getD_some] at hl;obtain⟨w2,hu,Sj,hc2⟩:=Mp.del hm (ty:=0) (Cm J4) IZ src 9;obtain⟨w3,hu3,AAi,hc3⟩:=Mp.update Sj (Cm J4) IZ dst (.map (some fb));have hn2:=hc2.cell hn (by simpa using h2);have HM:=AQ AAi;have HC:Hid (AZ [tb] w w3):=AQ (hc2.trans hc3 (λx hx=>.inl hx));clear hm Sj hc2 AAi hc3 hg;go_enter AK3,Tryz.ntmps85;go_wp2
 go_end0
 exact⟨rfl,HM.out,HC.out⟩
theorem AAj:Ety Ae 113 119 1 8 .nilFunc:=.mk' AN3 Ap rfl Az
theorem Zr(X:FuncId)(cp:Array Value)(hcf: ∀(p:Array Value) (w:World),(callFunc X p).run Ae w=.ok (.enter X p) w)(b tb:Nat)(sf:Option Nat)(A Aw:Option Addr)(n c nw cw:Nat)(q a:Int)(s:Nat)(xs:List Value)(w:World)(R:World->Prop)(L:List Nat)
  (hcall:Calls Ae X (#[.map (some tb)]++cp) w λe w'=>e=.returned (.tuple #[])/\R w'/\AZ L w w')
  (hb:Bo w b 116 #[.map (some tb),.map sf,.slice A n c,.slice Aw nw cw,.int .i64 q,.int .i64 a,.int .i64 (s:Int)]) (ho:Own w 119 1 A n c xs) (hbL:b∉L) (hoL: ∀x∈bo A,x∉L) (hn:n<=1073741824) (hs:s<=1073741824):
  Calls Ae 71 #[.pointer (some ⟨b,0,none⟩),.func (.func X) #[] cp] w λe w'=>e=.returned (.int .i64 0)/\∃w1,R w1/\AZ L w w1/\AZ (b::bo A) w1 w'/\∃A' c',
   Bo w' b 116 #[.map (some tb),.map sf,(.slice A' (n+1) c'),.slice Aw nw cw,.int .i64 q,.int .i64 a,.int .i64 ((s+1:Nat):Int)]/\Own w' 119 1 A' (n+1) c' (xs++[.func (.func X) #[] cp])/\∀x∈bo A',x∈bo A\/w1.heap.size<=x:=by
 have HC:=AQ hcall;have HB:=AQ hb;have HO:=AQ ho;have h0:=hb.cell 0;simp at h0;(have hwt:IntKind.i64.wrap ((s:Int)+1)=((s+1:Nat):Int):=by rw[IntKind.wrap_i64];omega);clear hcall hb ho;go_enter AKx,Tryz.ntmps71;(go_wp2_with fail);refine HC.out.mono ?_;rintro e w1 ⟨rfl,hr,hc1⟩;have HR:=AQ hr;have DC:=AQ hc1;have hb1:=HB.out.Am hc1 hbL;have Ox:=AQ (HO.out.Am hc1 hoL);have HB1:=AQ hb1;have x2:=hb1.cell 2;simp at x2;clear hr hc1 hb1 h0;(go_wp2_with (at_builtin;refine Fq rfl _ _ rfl AAj rfl (Ox.out.Am ((AZ.refl [] w1).alloc (.cells #[.func (.func X) #[] cp] 119)) EY) rfl (Own.lit w1 119 1 #[.func (.func X) #[] cp] 1 Az rfl).rd (by simp[Value.oneCell']) (by unfold maxLen;omega) Ac ?_;intro A2 c2 w2 hown2 Og Jl _;have jO:Hid (AZ (bo A) w1 w2):=AQ ((((AZ.refl [] w1).alloc (.cells #[.func (.func X) #[] cp] 119)).nil _).trans Og (λx hx=>.inl hx));have qC:b∉bo A:=(λhm=>Ox.out.FZ HB1.out Az b hm rfl);have HB2:=AQ (HB1.out.Am jO.out qC);have y2:=HB2.out.cell 2;have f2:=HB2.out.frozen 2;have HB3:=AQ (HB2.out.Em 2 (.slice A2 (n+1) c2));have y6:=HB3.out.cell 6;have f6:=HB3.out.frozen 6;simp at y2 y6;have HO2:=AQ hown2;have HN2:Hid (∀x∈bo A2,x∈bo A\/w1.heap.size<=x):=AQ (λx hx=>(Jl x hx).imp id (λh=>by have:=h.1;simp at this;omega));clear hown2 Og Jl qC));go_ret;have hb2:=HO2.out.FZ HB2.out Az;have hb4:=HB3.out.Em 6 (.int .i64 ((s+1:Nat):Int));refine⟨rfl,w1,HR.out,DC.out,?_,A2,c2,?_,?_,HN2.out⟩;exact ((jO.out.mono (λx hx=>.inl (Aj _ hx))).setCell (.inl AY) _).setCell (.inl AY) _;simpa using hb4;have hcs:AZ [b] w2 ((w2.setCell ⟨b,2,none⟩ (.slice A2 (n+1) c2)).setCell ⟨b,6,none⟩ (.int .i64 ((s+1:Nat):Int))):=((AZ.refl _ _).setCell (.inl AY) _).setCell (.inl AY) _;have q:=HO2.out.Am hcs (λx hx hm=>hb2 x hx (by simpa using hm));simpa using q
section
variable {κ α β:Type} [DecidableEq κ]
theorem Xf(f:α->β)(t:List (κ×α))(k:κ)(v:α):Dp (t.map λp=>(p.1,f p.2)) k (f v)=(Dp t k v).map λp=>(p.1,f p.2):=by
 induction t with
 |nil=>rfl|cons p r ih=>
  rw[AL,Uz,Uz,ih];by_cases h:p.1=k<;>simp[h]
theorem bu(f:α->β)(t:List (κ×α))(k:κ):Ii (t.map λp=>(p.1,f p.2)) k=(Ii t k).map λp=>(p.1,f p.2):=by
 induction t with
 |nil=>rfl|cons p r ih=>
  rw[AL,Yt,Yt,ih];by_cases h:p.1=k<;>simp[h]
theorem Ji{t:List (κ×α)}(hn:(t.map Prod.fst).Nodup){k:κ}{v:α}{p:κ×α}:p∈Dp t k v↔p=(k,v)\/(p∈t/\p.1≠k):=by
 rw[(U0 hn k v).mem_iff,AA];unfold without;simp
theorem Ol{t:List (κ×α)}(hn:(t.map Prod.fst).Nodup){k:κ}{p:κ×α}:p∈Ii t k↔(p∈t/\p.1≠k):=by
 rw[MH hn];unfold without;simp
theorem Wv{t:List (κ×α)}(hn:(t.map Prod.fst).Nodup)(k:κ):((Ii t k).map Prod.fst).Nodup:=by
 rw[MH hn];exact hn.sublist (List.filter_sublist.map _)
theorem U4{t:List (κ×α)}{k:κ}{v:α}(h:BJ t k=some v):Dp t k v=t:=by
 induction t with
 |nil=>cases h|cons p r ih=>
  rw[Fg] at h;rw[Uz];by_cases hp:p.1=k
  ·rw[if_pos hp] at h⊢;injection h with h;rw[<- hp,<- h]
  rw[if_neg hp] at h⊢;rw[ih h]
end
abbrev MJ:=List (ByteArray×Nat×List (ByteArray×Nat))
def EL (tb:Nat) (g:MJ):List Nat:=tb::g.map λp=>p.2.1
def EC (ib:List Nat) (i:Nat):Nat:=ib.getD i 0
structure D5 (ib:List Nat) (g:MJ) (T:Tr):Prop where
 top: ∀k,(BJ g k).isSome=(BJ T k).isSome
 sub: ∀k d F,BJ g k=some d->BJ T k=some F->∀n,BJ d.2 n=(BJ F n).map (EC ib)
theorem Om(g:MJ):(Ef g).map Prod.fst=g.map Prod.fst:=by unfold Ef;rw[Bq];rfl
theorem Q4(f:List (ByteArray×Nat)):(IU f).map Prod.fst=f.map Prod.fst:=by unfold IU;rw[Bq];rfl
theorem Tree.nodup{w:World}{tb:Nat}{g:MJ}(h:Tree w tb g):(g.map Prod.fst).Nodup:=by rw[<- Om];exact h.top.nodup
theorem Tree.Q5{w:World}{tb:Nat}{g:MJ}(h:Tree w tb g){p:ByteArray×Nat×List (ByteArray×Nat)}(hp:p∈g):(p.2.2.map Prod.fst).Nodup:=by rw[<- Q4];exact (h.sub p hp).nodup
theorem Tree.lt{w:World}{tb:Nat}{g:MJ}(h:Tree w tb g): ∀x∈EL tb g,x<w.heap.size:=by
 intro x hx;rcases AA.1 hx with rfl|hx;exact h.top.lt;obtain⟨p,hp,rfl⟩:=Ag.1 hx;exact (h.sub p hp).lt
theorem Tree.keep{w w':World}{tb:Nat}{g:MJ}{L:List Nat}(h:Tree w tb g)(hc:AZ L w w')(hn: ∀x∈EL tb g,x∉L):Tree w' tb g:=
 h.Am hc (hn tb (by simp[EL])) (λp hp=>hn _ (by simp only[EL,AA,Ag];exact .inr ⟨p,hp,rfl⟩))
theorem D5.get{ib:List Nat}{g:MJ}{T:Tr}(h:D5 ib g T){k:ByteArray}{F:Qi}(hF:BJ T k=some F): ∃d,BJ g k=some d/\∀n,BJ d.2 n=(BJ F n).map (EC ib):=by
 have:=h.top k;rw[hF] at this
 cases hg:BJ g k with|none=>rw[hg] at this;cases this|some d=>exact⟨d,rfl,h.sub k d F hg hF⟩
theorem D5.none{ib:List Nat}{g:MJ}{T:Tr}(h:D5 ib g T){k:ByteArray}(hF:BJ T k=none):BJ g k=none:=by
 have:=h.top k;rw[hF] at this
 cases hg:BJ g k with|none=>rfl|some d=>rw[hg] at this;cases this
theorem D5.wU{ib:List Nat}{g:MJ}{T:Tr}(h:D5 ib g T)(k n:ByteArray):((BJ g k).bind λd=>BJ d.2 n)=(BJ (GR T k) n).map (EC ib):=by
 unfold GR
 cases hF:BJ T k with|none=>rw[h.none hF];rfl|some F=>obtain⟨d,hd,hs⟩:=h.get hF;rw[hd];exact hs n
theorem D5.keys{ib:List Nat}{g:MJ}{T:Tr}(h:D5 ib g T)(hn:(g.map Prod.fst).Nodup)(hT:Rw T):(g.map Prod.fst).Perm (T.map Prod.fst):=by
 rw[VI hn hT.nodup];intro k;rw[<- Nw,<- Nw,h.top]
theorem bz{ib:List Nat}{f:List (ByteArray×Nat)}{F:Qi}(h: ∀n,BJ f n=(BJ F n).map (EC ib))(hn:(f.map Prod.fst).Nodup)(hF:Rw F):(f.map Prod.fst).Perm (F.map Prod.fst):=by
 rw[VI hn hF.nodup];intro k;rw[<- Nw,<- Nw,h k];cases BJ F k<;>rfl
theorem D5.put{ib:List Nat}{g:MJ}{T T':Tr}{d:ByteArray}{fb:Nat}{f:List (ByteArray×Nat)}{F:Qi}(h:D5 ib g T)(hn:(g.map Prod.fst).Nodup)(hT: ∀k,BJ T' k=if d=k then some F else BJ T k)
  (hf: ∀n,BJ f n=(BJ F n).map (EC ib)):D5 ib (Dp g d (fb,f)) T':=by
 refine⟨λk=>?_,λk e F' he hF'=>?_⟩
 ·rw[RX hn,hT];by_cases hk:d=k;rw[if_pos hk,if_pos hk];rfl;rw[if_neg hk,if_neg hk];exact h.top k
 rw[RX hn] at he;rw[hT] at hF';by_cases hk:d=k
 ·rw[if_pos hk] at he hF';injection he with he;injection hF' with hF';rw[<- he,<- hF'];exact hf
 rw[if_neg hk] at he hF';exact h.sub k e F' he hF'
theorem D5.del{ib:List Nat}{g:MJ}{T T':Tr}{d:ByteArray}(h:D5 ib g T)(hn:(g.map Prod.fst).Nodup)(hT: ∀k,BJ T' k=if d=k then Option.none else BJ T k):D5 ib (Ii g d) T':=by
 refine⟨λk=>?_,λk e F' he hF'=>?_⟩
 ·rw[Yw hn,hT];by_cases hk:d=k;rw[if_pos hk,if_pos hk];rfl;rw[if_neg hk,if_neg hk];exact h.top k
 rw[Yw hn] at he;rw[hT] at hF';by_cases hk:d=k;rw[if_pos hk] at he;cases he;rw[if_neg hk] at he hF';exact h.sub k e F' he hF'
theorem Tree.put{w w':World}{tb:Nat}{g:MJ}{L:List Nat}{d:ByteArray}{fb:Nat}{f:List (ByteArray×Nat)}(hn:(g.map Prod.fst).Nodup)(hs: ∀p∈g,Mp w p.2.1 IA (IU p.2.2))(ha:(EL tb g).Nodup)(hc:AZ L w w')
  (htop:Mp w' tb IA (Dp (Ef g) d (.map (some fb)))) (hf:Mp w' fb IA (IU f)) (h1:fb≠tb) (h2: ∀p∈g,p.1≠d->p.2.1≠fb) (hL: ∀p∈g,p.1≠d->p.2.1∉L):Tree w' tb (Dp g d (fb,f)):=by
 refine⟨?_,λp hp=>?_,?_⟩
 ·have:=Xf (λx:Nat×List (ByteArray×Nat)=>Value.map (some x.1)) g d (fb,f);unfold Ef at htop⊢;rw[<- this];exact htop
 ·rcases (Ji hn).1 hp with rfl|⟨hp,hd⟩;exact hf;exact (hs p hp).Am hc (hL p hp hd)
 have hp:=((U0 hn d (fb,f)).map λp=>p.2.1).cons tb;refine hp.nodup_iff.2 ?_;have ha':=DW.1 ha;rw[AL,DW,DW];have hsub:((without g d).map λp=>p.2.1).Sublist (g.map λp=>p.2.1):=List.filter_sublist.map _;refine⟨?_,?_,ha'.2.sublist hsub⟩
 ·rw[AA,not_or];exact⟨λe=>h1 e.symm,λhm=>ha'.1 (hsub.subset hm)⟩
 intro hm;obtain⟨p,hp,e⟩:=Ag.1 hm;unfold without at hp;simp only[I4,decide_eq_true_eq] at hp;exact h2 p hp.1 hp.2 e
theorem Tree.del{w w':World}{tb:Nat}{g:MJ}{d:ByteArray}(h:Tree w tb g)(hc:AZ [tb] w w')(htop:Mp w' tb IA (Ii (Ef g) d)):Tree w' tb (Ii g d):=by
 have hn:=h.nodup;refine⟨?_,λp hp=>?_,?_⟩
 ·have:=bu (λx:Nat×List (ByteArray×Nat)=>Value.map (some x.1)) g d;unfold Ef at htop⊢;rw[<- this];exact htop
 ·have hp:=((Ol hn).1 hp).1;refine (h.sub p hp).Am hc ?_;have:=(DW.1 h.apart).1;intro e;simp only[Ad] at e;exact this (Ag.2 ⟨p,hp,e⟩)
 rw[MH hn];have hsub:((without g d).map λp=>p.2.1).Sublist (g.map λp=>p.2.1):=List.filter_sublist.map _;exact h.apart.sublist (hsub.cons_cons tb)
theorem Tree.Kr{w:World}{tb:Nat}{g:MJ}(h:Tree w tb g){p:ByteArray×Nat×List (ByteArray×Nat)}(hp:p∈g):p.2.1≠tb:=λe=>(DW.1 h.apart).1 (Ag.2 ⟨p,hp,e⟩)
theorem ACz{α β:Type}{l:List α}{f:α->β}(hn:(l.map f).Nodup){a b:α}(ha:a∈l)(hb:b∈l)(h:f a=f b):a=b:=by
 induction l with
 |nil=>simp at ha|cons x r ih=>
  rw[AL,DW] at hn;rcases AA.1 ha with ha1|ha1
  ·rcases AA.1 hb with hb1|hb1;rw[ha1,hb1];exact (hn.1 (Ag.2 ⟨b,hb1,by rw[<- h,ha1]⟩)).elim
  rcases AA.1 hb with hb1|hb1;exact (hn.1 (Ag.2 ⟨a,ha1,by rw[h,hb1]⟩)).elim;exact ih hn.2 ha1 hb1
theorem Tree.ik{w:World}{tb:Nat}{g:MJ}(h:Tree w tb g){p q:ByteArray×Nat×List (ByteArray×Nat)}(hp:p∈g)(hq:q∈g)(hne:p.1≠q.1):p.2.1≠q.2.1:=by
 intro e;have:=ACz (DW.1 h.apart).2 hp hq e;exact hne (by rw[this])
def Rf (w:World) (tb:Nat) (g:MJ) (ib:List Nat) (T':Tr) (w':World):Prop:=
 (∃g',Tree w' tb g'/\D5 ib g' T'/\∀x∈EL tb g',x∈EL tb g\/w.heap.size<=x)/\AZ (EL tb g) w w'
section
variable {w:World} {tb:Nat} {g:MJ} {ib:List Nat} {T:Tr} {m:Nat}
theorem NT{d:ByteArray}{fb:Nat}{f:List (ByteArray×Nat)}{B:Nat}(hn:(g.map Prod.fst).Nodup)(h:fb∈EL tb g\/B<=fb): ∀x∈EL tb (Dp g d (fb,f)),x∈EL tb g\/B<=x:=by
 intro x hx;unfold EL at hx h⊢;rcases AA.1 hx with rfl|hx;left;simp;obtain⟨p,hp,rfl⟩:=Ag.1 hx;rcases (Ji hn).1 hp with rfl|⟨hp,hd⟩;exact h;left;exact Aj _ (Ag.2 ⟨p,hp,rfl⟩)
theorem JF{p:ByteArray×Nat×List (ByteArray×Nat)}(hp:p∈g):p.2.1∈EL tb g:=Aj _ (Ag.2 ⟨p,hp,rfl⟩)
theorem sN{d:ByteArray}{k:Nat}(ht:Tree w tb g)(hi:D5 ib g T)(hd:BJ T d=none)(hk:w.cell? ⟨k,0,none⟩=some (.string d)):
  Calls Ae 72 #[.map (some tb),.pointer (some ⟨k,0,none⟩)] w λe w'=>e=.returned (.tuple #[])/\Rf w tb g ib (FH.on T (.Dn d)) w':=by
 refine (AAg tb k (Ef g) d w ht.top hk).mono ?_;rintro e w' ⟨rfl,fb,hge,hfb,htop,hc⟩;(have h2: ∀p∈g,p.2.1≠fb:=λp hp e=>by have:=(ht.sub p hp).lt;omega);have htl:=ht.top.lt
 refine⟨rfl,⟨Dp g d (fb,[]),Tree.put ht.nodup ht.sub ht.apart hc htop (by simpa[IU] using hfb) Ac (λp hp _=>h2 p hp) (λp hp _=>by simpa using ht.Kr hp),
  hi.put ht.nodup (λk=>Ws (Fa.1 hd) _ k) (λn=>rfl),NT ht.nodup (.inr hge)⟩,hc.mono (by simp[EL])⟩
theorem sO{d:ByteArray}{k:Nat}(ht:Tree w tb g)(hi:D5 ib g T)(hk:w.cell? ⟨k,0,none⟩=some (.string d)):
  Calls Ae 130 #[.map (some tb),.pointer (some ⟨k,0,none⟩)] w λe w'=>e=.returned (.tuple #[])/\Rf w tb g ib (FH.on T (.rmdir d)) w':=by
 refine (AAh tb k (Ef g) d w ht.top hk).mono ?_;rintro e w' ⟨rfl,htop,hc⟩;refine⟨rfl,⟨Ii g d,ht.del hc htop,hi.del ht.nodup (λk=>MI T d k),λx hx=>.inl ?_⟩,hc.mono (by simp[EL])⟩;rcases AA.1 hx with rfl|hx;simp[EL];obtain⟨p,hp,rfl⟩:=Ag.1 hx;exact JF ((Ol ht.nodup).1 hp).1
theorem GU{d:ByteArray}{F:Qi}(h:BJ T d=some F):GR T d=F:=by unfold GR;rw[h];rfl
theorem U5{T:Tr}{d:ByteArray}{F:Qi}(k:ByteArray):BJ (IJ d F (without T d)) k=if d=k then some F else BJ T k:=by
 rw[Ws (Kq d),MI];by_cases h:d=k<;>simp[h]
theorem lZ{d n:ByteArray}{x k j i:Nat}(ht:Tree w tb g)(hi:D5 ib g T)(_:Val m T)(hok:FH.ok m T (.create d n i))(hx:w.cell? ⟨x,0,none⟩=some (.pointer (some ⟨EC ib i,0,none⟩)))
  (hk:w.cell? ⟨k,0,none⟩=some (.string d)) (hj:w.cell? ⟨j,0,none⟩=some (.string n)):
  Calls Ae 73 #[.map (some tb),.pointer (some ⟨x,0,none⟩),.pointer (some ⟨k,0,none⟩),.pointer (some ⟨j,0,none⟩)] w λe w'=>e=.returned (.tuple #[])/\Rf w tb g ib (FH.on T (.create d n i)) w':=by
 obtain⟨_,_,F,hF,hnone⟩:=hok;obtain⟨e,he,hs⟩:=hi.get hF;have hmem:=CP he;refine (wu tb e.1 x k j (EC ib i) (Ef g) (IU e.2) d n w ht.top (ht.sub _ hmem) (by rw[EZ,he];rfl) hx hk hj).mono ?_;rintro r w' ⟨rfl,hfb,hc⟩;have hfv:Dp (IU e.2) n (.pointer (some ⟨EC ib i,0,none⟩))=IU (Dp e.2 n (EC ib i)):=Xf (λi:Nat=>Value.pointer (some ⟨i,0,none⟩)) e.2 n (EC ib i);rw[hfv] at hfb;have hL: ∀p∈g,p.1≠d->p.2.1∉[e.1]:=λp hp hne=>by simpa using ht.ik hp hmem hne
 have htop:Mp w' tb IA (Dp (Ef g) d (.map (some e.1))):=by
  rw[U4 (by rw[EZ,he];rfl)];exact ht.top.Am hc (by simpa using (ht.Kr hmem).symm)
 refine⟨rfl,⟨Dp g d (e.1,Dp e.2 n (EC ib i)),Tree.put ht.nodup ht.sub ht.apart hc htop hfb (ht.Kr hmem) (λp hp hne=>by simpa using hL p hp hne) hL,?_,NT ht.nodup (.inl (JF hmem))⟩,hc.mono (λy hy=>.inl (by simp only[Ad] at hy;subst hy;exact JF hmem))⟩;refine hi.put ht.nodup (λk=>U5 k) (λn'=>?_);rw[GU hF,RX (ht.Q5 hmem),Ws (Fa.1 hnone),hs n'];by_cases hnn:n=n'<;>simp[hnn]
theorem lg{d n:ByteArray}{k j:Nat}(ht:Tree w tb g)(hi:D5 ib g T)(_:Val m T)(hok:FH.ok m T (.remove d n))
  (hk:w.cell? ⟨k,0,none⟩=some (.string d)) (hj:w.cell? ⟨j,0,none⟩=some (.string n)):
  Calls Ae 129 #[.map (some tb),.pointer (some ⟨k,0,none⟩),.pointer (some ⟨j,0,none⟩)] w λe w'=>e=.returned (.tuple #[])/\Rf w tb g ib (FH.on T (.remove d n)) w':=by
 obtain⟨F,hF⟩:=hok;obtain⟨e,he,hs⟩:=hi.get hF;have hmem:=CP he;refine (wZ tb e.1 k j (Ef g) (IU e.2) d n w ht.top (ht.sub _ hmem) (by rw[EZ,he];rfl) hk hj).mono ?_;rintro r w' ⟨rfl,hfb,hc⟩;have hfv:Ii (IU e.2) n=IU (Ii e.2 n):=bu (λi:Nat=>Value.pointer (some ⟨i,0,none⟩)) e.2 n;rw[hfv] at hfb;have hL: ∀p∈g,p.1≠d->p.2.1∉[e.1]:=λp hp hne=>by simpa using ht.ik hp hmem hne
 have htop:Mp w' tb IA (Dp (Ef g) d (.map (some e.1))):=by
  rw[U4 (by rw[EZ,he];rfl)];exact ht.top.Am hc (by simpa using (ht.Kr hmem).symm)
 refine⟨rfl,⟨Dp g d (e.1,Ii e.2 n),Tree.put ht.nodup ht.sub ht.apart hc htop hfb (ht.Kr hmem) (λp hp hne=>by simpa using hL p hp hne) hL,?_,NT ht.nodup (.inl (JF hmem))⟩,hc.mono (λy hy=>.inl (by simp only[Ad] at hy;subst hy;exact JF hmem))⟩;refine hi.put ht.nodup (λk=>U5 k) (λn'=>?_);rw[GU hF,Yw (ht.Q5 hmem),MI,hs n'];by_cases hnn:n=n'<;>simp[hnn]
theorem lh{a b:ByteArray}{k j:Nat}(ht:Tree w tb g)(hi:D5 ib g T)(hok:FH.ok m T (.rename a b))
  (hk:w.cell? ⟨k,0,none⟩=some (.string a)) (hj:w.cell? ⟨j,0,none⟩=some (.string b)) (h1:k≠tb) (h2:j≠tb):
  Calls Ae 85 #[.map (some tb),.pointer (some ⟨k,0,none⟩),.pointer (some ⟨j,0,none⟩)] w λe w'=>e=.returned (.tuple #[])/\Rf w tb g ib (FH.on T (.rename a b)) w':=by
 obtain⟨_,F,hF⟩:=hok;obtain⟨e,he,hs⟩:=hi.get hF;have hmem:=CP he;refine (xA tb e.1 k j (Ef g) a b w ht.top (by rw[EZ,he];rfl) hk hj h1 h2).mono ?_;rintro r w' ⟨rfl,htop,hc⟩;have hdm:Ii (Ef g) a=Ef (Ii g a):=bu (λx:Nat×List (ByteArray×Nat)=>Value.map (some x.1)) g a;rw[hdm] at htop;have hn:=ht.nodup;have hnt: ∀p∈Ii g a,p.2.1∉[tb]:=λp hp=>by simpa using ht.Kr ((Ol hn).1 hp).1
 have hap:(EL tb (Ii g a)).Nodup:=by
  rw[MH hn];have hsub:((without g a).map λp=>p.2.1).Sublist (g.map λp=>p.2.1):=List.filter_sublist.map _;exact ht.apart.sublist (hsub.cons_cons tb)
 refine⟨rfl,⟨Dp (Ii g a) b (e.1,e.2),Tree.put (Wv hn a) (λp hp=>ht.sub p ((Ol hn).1 hp).1) hap hc htop ((ht.sub _ hmem).Am hc (by simpa using ht.Kr hmem)) (ht.Kr hmem)
  (λp hp _=>ht.ik ((Ol hn).1 hp).1 hmem ((Ol hn).1 hp).2) (λp hp _=>hnt p hp),?_,λx hx=>.inl ?_⟩,hc.mono (by simp[EL])⟩
 ·refine D5.put (T:=without T a) (F:=F) (hi.del hn (λk=>MI T a k)) (Wv hn a) (λk=>?_) hs;simp only[FH.on,GU hF];exact U5 k
 rcases AA.1 hx with rfl|hx;simp[EL];obtain⟨p,hp,rfl⟩:=Ag.1 hx;rcases (Ji (Wv hn a)).1 hp with rfl|⟨hp,_⟩;exact JF (p:=(a,e)) hmem;exact JF ((Ol hn).1 hp).1
end
def Sep (Ps:List (List Nat)):Prop:=Ps.Pairwise λa b=>∀x∈a,x∉b
structure Lay (w:World) (Ps:List (List Nat)):Prop where
 sep:Sep Ps
 lt: ∀P∈Ps,∀x∈P,x<w.heap.size
theorem Sep.ne{Ps:List (List Nat)}(h:Sep Ps){i j:Nat}{P Q:List Nat}(hi:Ps[i]? =some P)(hj:Ps[j]? =some Q)(hij:i≠j): ∀x∈P,x∉Q:=by
 have hil:=(BB.1 hi);have hjl:=(BB.1 hj);obtain⟨hi1,rfl⟩:=hil;obtain⟨hj1,rfl⟩:=hjl;intro x hx hq;rcases Nat.lt_or_gt_of_ne hij with h1|h1;exact (Js.1 h i j hi1 hj1 h1) x hx hq;exact (Js.1 h j i hj1 hi1 h1) x hq hx
theorem Lay.ne{w:World}{Ps:List (List Nat)}(h:Lay w Ps){i j:Nat}{P Q:List Nat}(hi:Ps[i]? =some P)(hj:Ps[j]? =some Q)(hij:i≠j): ∀x∈P,x∉Q:=h.sep.ne hi hj hij
theorem Lay.mono{w w':World}{Ps:List (List Nat)}(h:Lay w Ps)(hs:w.heap.size<=w'.heap.size):Lay w' Ps:=⟨h.sep,λP hP x hx=>BU (h.lt P hP x hx) hs⟩
theorem Lay.Em{w w':World}{Ps:List (List Nat)}(h:Lay w Ps){i:Nat}{P P':List Nat}(hi:Ps[i]? =some P)(hn: ∀x∈P',x∈P\/w.heap.size<=x)(hl: ∀x∈P',x<w'.heap.size)(hs:w.heap.size<=w'.heap.size):Lay w' (Ps.set i P'):=by
 have hil:i<Ps.length:=(BB.1 hi).1;refine⟨?_,λQ hQ x hx=>?_⟩
 ·unfold Sep;rw[Js];intro a b ha hb hab;(have ha':a<Ps.length:=by simpa using ha);(have hb':b<Ps.length:=by simpa using hb);have hlt: ∀(c:Nat) (hc:c<Ps.length),∀x∈Ps[c],x<w.heap.size:=λc hc x hx=>h.lt _ (List.getElem_mem hc) x hx;rw[List.getElem_set,List.getElem_set];intro x hx hxb;by_cases h1:i=a
  ·rw[if_pos h1] at hx;rw[if_neg Ac] at hxb;rcases hn x hx with h2|h2
   ·exact h.ne hi (Af hb') Ac x h2 hxb
   have:=hlt b hb' x hxb;omega
  rw[if_neg h1] at hx;by_cases h3:i=b
  ·rw[if_pos h3] at hxb;rcases hn x hxb with h2|h2
   ·exact h.ne hi (Af ha') Ac x h2 hx
   have:=hlt a ha' x hx;omega
  rw[if_neg h3] at hxb;exact (Js.1 h.sep a b ha' hb' hab) x hx hxb
 rcases JV hQ with h1|rfl;exact BU (h.lt Q h1 x hx) hs;exact hl x hx
theorem Lay.snoc{w w':World}{Ps:List (List Nat)}(h:Lay w Ps){P:List Nat}(hn: ∀x∈P,w.heap.size<=x)(hl: ∀x∈P,x<w'.heap.size)(hs:w.heap.size<=w'.heap.size):Lay w' (Ps++[P]):=by
 refine⟨?_,λQ hQ x hx=>?_⟩
 ·unfold Sep;rw[IM];refine⟨h.sep,AY,λQ hQ R hR x hx hr=>?_⟩;simp only[Ad] at hR;subst hR;have h1:=hn x hr;have h2:=h.lt Q hQ x hx;omega
 rcases AU.1 hQ with h1|h1;exact BU (h.lt Q h1 x hx) hs;simp only[Ad] at h1;subst h1;exact hl x hx
def AAk (w:World) (ib K:List Nat):FH->Value->Prop
 | .Dn d,v=>∃k,v=.func (.func 72) #[] #[.pointer (some ⟨k,0,none⟩)]/\k∈K/\w.cell? ⟨k,0,none⟩=some (.string d)| .rmdir d,v=>∃k,v=.func (.func 130) #[] #[.pointer (some ⟨k,0,none⟩)]/\k∈K/\w.cell? ⟨k,0,none⟩=some (.string d)
 | .create d n i,v=>∃x k j,v=.func (.func 73) #[] #[.pointer (some ⟨x,0,none⟩),.pointer (some ⟨k,0,none⟩),.pointer (some ⟨j,0,none⟩)]/\x∈K/\k∈K/\j∈K/\
   w.cell? ⟨x,0,none⟩=some (.pointer (some ⟨EC ib i,0,none⟩))/\w.cell? ⟨k,0,none⟩=some (.string d)/\w.cell? ⟨j,0,none⟩=some (.string n)/\i<ib.length
 | .remove d n,v=>∃k j,v=.func (.func 129) #[] #[.pointer (some ⟨k,0,none⟩),.pointer (some ⟨j,0,none⟩)]/\k∈K/\j∈K/\w.cell? ⟨k,0,none⟩=some (.string d)/\w.cell? ⟨j,0,none⟩=some (.string n)| .rename d n,v=>∃k j,v=.func (.func 85) #[] #[.pointer (some ⟨k,0,none⟩),.pointer (some ⟨j,0,none⟩)]/\k∈K/\j∈K/\w.cell? ⟨k,0,none⟩=some (.string d)/\w.cell? ⟨j,0,none⟩=some (.string n)
theorem AAk.keep{w w':World}{ib ib' K K' L:List Nat}{c:FH}{v:Value}(h:AAk w ib K c v)(hc:AZ L w w')(hL: ∀x∈K,x∉L)(hK: ∀x∈K,x∈K')(hib: ∀i<ib.length,EC ib' i=EC ib i)(hl:ib.length<=ib'.length):AAk w' ib' K' c v:=by
 cases c with
 |Dn d=>obtain⟨k,h1,h2,h3⟩:=h;exact⟨k,h1,hK k h2,hc.cell h3 (hL k h2)⟩
 |rmdir d=>obtain⟨k,h1,h2,h3⟩:=h;exact⟨k,h1,hK k h2,hc.cell h3 (hL k h2)⟩
 |create d n i=>
  obtain⟨x,k,j,h1,h2,h3,h4,h5,h6,h7,h8⟩:=h;exact⟨x,k,j,h1,hK x h2,hK k h3,hK j h4,by rw[hib i h8];exact hc.cell h5 (hL x h2),hc.cell h6 (hL k h3),hc.cell h7 (hL j h4),Ac⟩
 |remove d n=>obtain⟨k,j,h1,h2,h3,h4,h5⟩:=h;exact⟨k,j,h1,hK k h2,hK j h3,hc.cell h4 (hL k h2),hc.cell h5 (hL j h3)⟩
 |rename d n=>obtain⟨k,j,h1,h2,h3,h4,h5⟩:=h;exact⟨k,j,h1,hK k h2,hK j h3,hc.cell h4 (hL k h2),hc.cell h5 (hL j h3)⟩
structure Bg where
 b:Nat
 t1:Nat
 t2:Nat
 g1:MJ
 g2:MJ
 A:Option Addr
 c:Nat
 vs:List Value
 Aw:Option Addr
 cw:Nat
 K:List Nat
 ib:List Nat
 sg:List Nat
 Ls:List (List Nat)
def Bg.parts (G:Bg):List (List Nat):=[G.b]::EL G.t1 G.g1::EL G.t2 G.g2::bo G.A::bo G.Aw::G.K::G.Ls
def Bg.all (G:Bg):List Nat:=G.parts.flatten
def lq (ib:List Nat) (i:Nat):Value:=.pointer (some ⟨EC ib i,0,none⟩)
def sQ (w:World) (x g:Nat) (L:List Nat) (f:Hg):Prop:=Bo w x 126 #[.pointer (some ⟨g,0,none⟩)]/\Vs w g L f.1 f.2
structure ED (w:World) (G:Bg) (S:St):Prop where
 blk:Bo w G.b 116 #[.map (some G.t1),.map (some G.t2),.slice G.A S.FQ.length G.c,.slice G.Aw S.wr.length G.cw,.int .i64 S.BR,.int .i64 S.stop,.int .i64 (S.steps:Int)]
 Ep:Tree w G.t1 G.g1
 Kt:D5 G.ib G.g1 S.seen
 Oy:Tree w G.t2 G.g2
 Oz:D5 G.ib G.g2 S.safe
 own:Own w 119 1 G.A S.FQ.length G.c G.vs
 O0: ∀(i:Nat) (c:FH) (v:Value),S.FQ[i]? =some c->G.vs[i]? =some v->AAk w G.ib G.K c v
 cO:Own w 121 1 G.Aw S.wr.length G.cw (S.wr.map (lq G.ib))
 QG:G.ib.length=S.files.length
 Vx:G.sg.length=S.files.length
 Qk:G.Ls.length=S.files.length
 Yy:G.ib.Nodup
 Vy: ∀x∈G.ib,x∈G.K
 ino: ∀(i x g:Nat) (L:List Nat) (f:Hg),G.ib[i]? =some x->G.sg[i]? =some g->G.Ls[i]? =some L->S.files[i]? =some f->sQ w x g L f
 lay:Lay w G.parts
theorem ED.vsl{w:World}{G:Bg}{S:St}(h:ED w G S):G.vs.length=S.FQ.length:=by have:=h.own.1;omega
theorem Bg.Es{G:Bg}{x:Nat}{P:List Nat}{i:Nat}(hi:G.parts[i]? =some P)(hx:x∈P):x∈G.all:=DX.2 ⟨P,Aa hi,hx⟩
theorem sQ.keep{w w':World}{x g:Nat}{L M:List Nat}{f:Hg}(h:sQ w x g L f)(hc:AZ M w w')(h1:x∉M)(h2: ∀k∈L,k∉M):sQ w' x g L f:=
 ⟨h.1.Am hc h1,h.2.Am hc h2⟩
theorem ED.at_{w:World}{G:Bg}{S:St}(h:ED w G S){i:Nat}{f:Hg}(hf:S.files[i]? =some f): ∃x g L,G.ib[i]? =some x/\G.sg[i]? =some g/\G.Ls[i]? =some L/\sQ w x g L f:=by
 have hl:=(BB.1 hf).1;have h1:=h.QG;have h2:=h.Vx;have h3:=h.Qk;exact⟨_,_,_,Af Ac,Af Ac,Af Ac,h.ino i _ _ _ f (Af Ac) (Af Ac) (Af Ac) hf⟩
theorem ED.lt{w:World}{G:Bg}{S:St}(h:ED w G S): ∀x∈G.all,x<w.heap.size:=by
 intro x hx;obtain⟨P,hP,hx⟩:=DX.1 hx;exact h.lay.lt P hP x hx
theorem ED.keep{w w':World}{G:Bg}{S:St}{L:List Nat}(h:ED w G S)(hc:AZ L w w')(hn: ∀x∈G.all,x∉L):ED w' G S:=by
 have hm: ∀(i:Nat) (P:List Nat),G.parts[i]? =some P->∀x∈P,x∉L:=λi P hi x hx=>hn x (Bg.Es hi hx)
 refine⟨h.blk.Am hc (hm 0 _ rfl _ AY),h.Ep.keep hc (hm 1 _ rfl),h.Kt,h.Oy.keep hc (hm 2 _ rfl),h.Oz,h.own.Am hc (hm 3 _ rfl),λi c v h1 h2=>(h.O0 i c v h1 h2).keep hc (hm 5 _ rfl) (λ_ h=>h) (λ_ _=>rfl) (AP _),
  h.cO.Am hc (hm 4 _ rfl),h.QG,h.Vx,h.Qk,h.Yy,h.Vy,λi x g M f h1 h2 h3 h4=>(h.ino i x g M f h1 h2 h3 h4).keep hc (hm 5 _ rfl x (h.Vy x (Aa h1))) (hm (i+6) M (by simpa[Bg.parts] using h3)),h.lay.mono hc.size⟩
theorem ED.CX{w w':World}{G:Bg}{S:St}(h:ED w G S)(hc:AZ [] w w'):ED w' G S:=h.keep hc EY
def DI (w:World) (G:Bg) (S':St) (w':World):Prop:=∃G',ED w' G' S'/\G'.b=G.b/\(∀x∈G'.all,x∈G.all\/w.heap.size<=x)/\AZ G.all w w'
theorem DI.same{w w':World}{G:Bg}{S:St}(h:ED w G S)(hc:AZ [] w w'):DI w G S w':=⟨G,h.CX hc,rfl,λ_ hx=>.inl hx,hc.nil _⟩
theorem AED{G:Bg}{w:World}{S:St}(h:ED w G S)(there:Bool)(ns:List ByteArray):Py S.stop S.steps (Ef G.g1) there ns=S.ask there ns:=by
 have: ∀k,(BJ (Ef G.g1) k).isNone=(BJ S.seen k).isNone:=λk=>by
  have:=h.Kt.top k;rw[EZ];cases h1:BJ G.g1 k<;>cases h2:BJ S.seen k<;>rw[h1,h2] at this<;>first|rfl|cases this
 unfold Py St.ask St.down;rw[this]
theorem find_eq{G:Bg}{w:World}{S:St}(h:ED w G S)(d n:ByteArray):U3 S.stop S.steps G.g1 d n=((S.Qj d n).1.map (EC G.ib),(S.Qj d n).2):=by
 unfold U3 St.Qj;rw[AED h];split;rfl;rw[h.Kt.wU d n];cases BJ (GR S.seen d) n<;>rfl
theorem U6{G:Bg}{w:World}{S:St}(h:ED w G S)(there:Bool)(A:Option Addr)(n c:Nat)(ns:List ByteArray)(hr:Rd w 1 A n c (Oi ns))(hn:n<=1073741824)(ht:there=true->0<n):
  Calls Ae 70 #[.pointer (some ⟨G.b,0,none⟩),.bool there,.slice A n c] w λe w'=>e=.returned (.int .i64 (S.ask there ns))/\AZ [] w w':=by
 rw[<- AED h];exact AAf G.b G.t1 S.stop S.steps (Ef G.g1) there A n c ns w (by simpa using h.blk.cell 0) (by simpa using h.blk.cell 5) (by simpa using h.blk.cell 6) h.Ep.top lX hr hn ht
theorem lu{G:Bg}{w:World}{S:St}(h:ED w G S)(d n:ByteArray):
  Calls Ae 81 #[.pointer (some ⟨G.b,0,none⟩),.string d,.string n] w λe w'=>e=.returned (Wq ((S.Qj d n).1.map (EC G.ib),(S.Qj d n).2))/\AZ [] w w':=by
 rw[<- find_eq h];exact AFR G.b G.t1 S.stop S.steps G.g1 d n w (by simpa using h.blk.cell 0) (by simpa using h.blk.cell 5) (by simpa using h.blk.cell 6) h.Ep
theorem AAl{G:Bg}{w:World}{S:St}(h:ED w G S):
  Calls Ae 61 #[.pointer (some ⟨G.b,0,none⟩)] w λe w'=>e=.returned (.bool S.down)/\AZ [] w w':=
 sK G.b S.stop S.steps w (by simpa using h.blk.cell 5) (by simpa using h.blk.cell 6)
theorem ED.sS{w w1:World}{G:Bg}{S:St}(h:ED w G S)(hc:AZ [] w w1){x:Nat}(hx:w.heap.size<=x)(hx1:x<w1.heap.size):ED w1 {G with K:=x::G.K} S:=by
 have h1:=h.CX hc;refine⟨h1.blk,h1.Ep,h1.Kt,h1.Oy,h1.Oz,h1.own,λi c v a b=>(h1.O0 i c v a b).keep (AZ.refl [] w1) EY (λ_ hm=>Aj _ hm) (λ_ _=>rfl) (AP _),h1.cO,h1.QG,h1.Vx,h1.Qk,h1.Yy,λy hy=>Aj _ (h1.Vy y hy),h1.ino,?_⟩
 exact h.lay.Em (i:=5) (P':=x::G.K) rfl (λy hy=>by rcases AA.1 hy with rfl|hy;exact .inr hx;exact .inl hy) (λy hy=>by
  rcases AA.1 hy with rfl|hy;exact hx1
  exact h1.lay.lt G.K (Aa (i:=5) rfl) y hy) hc.size
theorem Zt{ib:List Nat}{x i:Nat}(hi:i<ib.length):EC (ib++[x]) i=EC ib i:=by
 unfold EC;rw[CW,CW,Dy hi]
theorem AAm(ib:List Nat)(x:Nat):EC (ib++[x]) ib.length=x:=by
 unfold EC;rw[CW,Bj (AP _)];simp
theorem xB{ib:List Nat}{i x:Nat}(h:ib[i]? =some x):EC ib i=x:=by
 unfold EC;rw[CW,h];rfl
theorem D5.grow{ib:List Nat}{g:MJ}{T:Tr}{m x:Nat}(h:D5 ib g T)(hv:Val m T)(hm:ib.length=m):D5 (ib++[x]) g T:=
 ⟨h.top,λk d F hd hF n=>by
  rw[h.sub k d F hd hF n]
  cases hn:BJ F n with
  |none=>rfl|some i=>
   have:=hv.ids _ (CP hF) _ (CP hn);simp only[Option.map_some]
   rw[Zt (by simpa[hm] using this)]⟩
theorem ED.Zu{w w1 w2:World}{G:Bg}{S:St}{B:Nat}(h:ED w G S)(hi:Inv B S)(hc1:AZ [] w w1){g:Nat}{L:List Nat}{f:List Int}(hL: ∀k∈L,w.heap.size<=k)(hs:Vs w1 g L f [])(hc2:AZ [] w1 w2)
  {x:Nat} (hx:w1.heap.size<=x) (hb:Bo w2 x 126 #[.pointer (some ⟨g,0,none⟩)]):
  ED w2 {G with K:=x::G.K,ib:=G.ib++[x],sg:=G.sg++[g],Ls:=G.Ls++[L]} {S with files:=S.files++[(f,[])]}:=by
 have h2:=h.CX (hc1.Aq hc2);have hxl:=hb.lt;refine⟨h2.blk,h2.Ep,h2.Kt.grow hi.val h.QG,h2.Oy,h2.Oz.grow hi.safe h.QG,h2.own,λi c v a b=>(h2.O0 i c v a b).keep (AZ.refl [] w2) EY (λ_ hm=>Aj _ hm) (λi hi=>Zt hi) AY,?_,by simp[h.QG],by simp[h.Vx],by simp[h.Qk],?_,?_,?_,?_⟩
 ·have e:S.wr.map (lq (G.ib++[x]))=S.wr.map (lq G.ib):=ES λi hm=>by
   unfold lq;rw[Zt (by rw[h.QG];exact hi.wr i hm)]
  show Own w2 121 1 G.Aw S.wr.length G.cw (S.wr.map (lq (G.ib++[x])));rw[e];exact h2.cO
 ·show (G.ib++[x]).Nodup;rw[EN];refine⟨h.Yy,AY,λa ha b hb=>?_⟩;simp only[Ad] at hb;subst hb;have:=h.lay.lt G.K (Aa (i:=5) rfl) a (h.Vy a ha);have:=hc1.size;omega
 ·intro y hy;rcases AU.1 hy with hy|hy;exact Aj _ (h.Vy y hy);simp only[Ad] at hy;subst hy;simp
 ·intro i y gg M ff e1 e2 e3 e4;have l1:=h.QG;have l2:=h.Vx;have l3:=h.Qk;by_cases hil:i<S.files.length
  ·simp only at e1 e2 e3 e4;rw[Dy Ac] at e1 e2 e3 e4;exact h2.ino i y gg M ff e1 e2 e3 e4
  have hie:i=S.files.length:=by
   have:=(BB.1 e4).1;simp at this;omega
  subst hie;simp only at e1 e2 e3 e4;rw[Bj Ac,l1,DT] at e1;rw[Bj Ac,l2,DT] at e2;rw[Bj Ac,l3,DT] at e3;rw[Bj Ac,DT] at e4;simp at e1 e2 e3 e4;subst e1;subst e2;subst e3;subst e4;exact⟨hb,hs.Am hc2 EY⟩
 have h3:=h.lay.snoc (w':=w1) hL hs.lt hc1.size
 have h4:=h3.Em (w':=w2) (i:=5) (P:=G.K) (P':=x::G.K) rfl (λy hy=>by rcases AA.1 hy with rfl|hy;exact .inr hx;exact .inl hy) (λy hy=>by
  rcases AA.1 hy with rfl|hy;exact hxl
  exact h2.lay.lt G.K (Aa (i:=5) rfl) y hy) hc2.size
 exact h4
theorem ED.did{w w1 w':World}{G:Bg}{S:St}{c:FH}{v:Value}{A':Option Addr}{c':Nat}(h:ED w G S)(hv:AAk w G.ib G.K c v)(hcl:Rf w G.t1 G.g1 G.ib (c.on S.seen) w1)(hc1:AZ (G.b::bo G.A) w1 w')
  (hb:Bo w' G.b 116 #[.map (some G.t1),.map (some G.t2),.slice A' (S.FQ.length+1) c',.slice G.Aw S.wr.length G.cw,.int .i64 S.BR,.int .i64 S.stop,.int .i64 ((S.steps+1:Nat):Int)])
  (ho:Own w' 119 1 A' (S.FQ.length+1) c' (G.vs++[v])) (hA: ∀x∈bo A',x∈bo G.A\/w1.heap.size<=x):DI w G (S.make c) w':=by
 obtain⟨⟨g',ht',hi',hsub⟩,hct⟩:=hcl;have hm: ∀(i:Nat) (P:List Nat),G.parts[i]? =some P->i≠1->∀x∈P,x∉EL G.t1 G.g1:=λi P hi hne x hx=>h.lay.ne hi (j:=1) rfl hne x hx
 have hm2: ∀(i:Nat) (P:List Nat),G.parts[i]? =some P->i≠0->i≠3->∀x∈P,x∉G.b::bo G.A:=λi P hi h0 h3 x hx hmem=>by
  rcases AA.1 hmem with rfl|hmem;exact h.lay.ne hi (j:=0) rfl h0 _ hx AY;exact h.lay.ne hi (j:=3) rfl h3 x hx hmem
 have k1: ∀(i:Nat) (P:List Nat),G.parts[i]? =some P->i≠0->i≠3->i≠1->∀x∈P,x∉EL G.t1 G.g1++(G.b::bo G.A):=λi P hi h0 h3 h1 x hx hmem=>by
  rcases AU.1 hmem with hmem|hmem;exact hm i P hi h1 x hx hmem;exact hm2 i P hi h0 h3 x hx hmem
 have hcc:AZ (EL G.t1 G.g1++(G.b::bo G.A)) w w':=(hct.mono (λx hx=>.inl (Bh _ hx))).trans hc1 (λx hx=>.inl (Bi _ hx));have AC0:=h.lay.Em (w':=w1) (i:=1) (P':=EL G.t1 g') rfl hsub ht'.lt hct.size;have AOr:=AC0.Em (w':=w') (i:=3) (P:=bo G.A) (P':=bo A') rfl hA ho.lt hc1.size
 have htn: ∀x∈EL G.t1 g',x∉G.b::bo G.A:=λx hx hmem=>by
  rcases AA.1 hmem with rfl|hmem
  ·exact AC0.ne (i:=1) (j:=0) (P:=EL G.t1 g') (Q:=[G.b]) rfl rfl Az _ hx AY
  exact AC0.ne (i:=1) (j:=3) (P:=EL G.t1 g') (Q:=bo G.A) rfl rfl Az x hx hmem
 refine⟨{G with g1:=g',A:=A',c:=c',vs:=G.vs++[v]},⟨?_,ht'.keep hc1 htn,hi',h.Oy.keep hcc (k1 2 _ rfl Az Az Az),h.Oz,?_,?_,h.cO.Am hcc (k1 4 _ rfl Az Az Az),h.QG,h.Vx,h.Qk,h.Yy,h.Vy,?_,AOr⟩,rfl,?_,?_⟩;simpa[St.make] using hb;simpa[St.make] using ho
 ·intro i c0 v0 e1 e2;have hvl:=h.vsl;have hK: ∀x∈G.K,x∉EL G.t1 G.g1++(G.b::bo G.A):=k1 5 _ rfl Az Az Az;simp only[St.make] at e1 e2;by_cases hil:i<S.FQ.length
  ·rw[Dy Ac] at e1 e2;exact (h.O0 i c0 v0 e1 e2).keep hcc hK (λ_ h=>h) (λ_ _=>rfl) (AP _)
  have hie:i=S.FQ.length:=by
   have:=(BB.1 e1).1;simp at this;omega
  subst hie;rw[Bj (AP _),DT] at e1;rw[Bj Ac,hvl,DT] at e2;simp at e1 e2;subst e1;subst e2;exact hv.keep hcc hK (λ_ h=>h) (λ_ _=>rfl) (AP _)
 ·intro i x g L f e1 e2 e3 e4;exact (h.ino i x g L f e1 e2 e3 e4).keep hcc (k1 5 _ rfl Az Az Az x (h.Vy x (Aa e1))) (k1 (i+6) L (by simpa[Bg.parts] using e3) Ac Ac Ac)
 ·intro x hx;obtain⟨P,hP,hx⟩:=DX.1 hx;simp only[Bg.parts,AA] at hP;rcases hP with rfl|rfl|rfl|rfl|hP;exact .inl (Bg.Es (i:=0) rfl hx);exact (hsub x hx).imp (λh=>Bg.Es (i:=1) rfl h) id;exact .inl (Bg.Es (i:=2) rfl hx);exact (hA x hx).imp (λh=>Bg.Es (i:=3) rfl h) (λh=>Ah hct.size h);exact .inl (DX.2 ⟨P,by simp only[Bg.parts,AA];exact .inr (.inr (.inr (.inr hP))),hx⟩)
 exact hcc.mono (λx hx=>.inl (by
  rcases AU.1 hx with hx|hx;exact Bg.Es (i:=1) rfl hx;rcases AA.1 hx with rfl|hx;exact Bg.Es (i:=0) rfl AY
  exact Bg.Es (i:=3) rfl hx))
theorem DI.of{w w0 w':World}{G G0:Bg}{S':St}(h:DI w0 G0 S' w')(hc:AZ [] w w0)(hb:G0.b=G.b)(hsub: ∀x∈G0.all,x∈G.all\/w.heap.size<=x):DI w G S' w':=by
 obtain⟨G',h1,h2,h3,h4⟩:=h
 exact⟨G',h1,h2.trans hb,λx hx=>by
  rcases h3 x hx with h|h;exact hsub x h
  exact .inr (Ah hc.size h),(hc.nil _).trans h4 hsub⟩
theorem Bg.UR{G:Bg}{x B:Nat}(hx:B<=x): ∀y∈Bg.all {G with K:=x::G.K},y∈G.all\/B<=y:=by
 intro y hy;simp only[Bg.all,Bg.parts,List.flatten_cons,AU,AA] at hy⊢;rcases hy with h|h|h|h|h|(rfl|h)|h;exact .inl (.inl h);exact .inl (.inr (.inl h));exact .inl (.inr (.inr (.inl h)));exact .inl (.inr (.inr (.inr (.inl h))));exact .inl (.inr (.inr (.inr (.inr (.inl h)))));exact .inr hx;exact .inl (.inr (.inr (.inr (.inr (.inr (.inl h))))));exact .inl (.inr (.inr (.inr (.inr (.inr (.inr h))))))
theorem Bg.xC{G:Bg}{x g B:Nat}{L:List Nat}(hx:B<=x)(hL: ∀k∈L,B<=k): ∀y∈Bg.all {G with K:=x::G.K,ib:=G.ib++[x],sg:=G.sg++[g],Ls:=G.Ls++[L]},y∈G.all\/B<=y:=by
 intro y hy;simp only[Bg.all,Bg.parts,List.flatten_cons,JW,List.flatten_nil,EK,AU,AA] at hy⊢;rcases hy with h|h|h|h|h|(rfl|h)|h|h;exact .inl (.inl h);exact .inl (.inr (.inl h));exact .inl (.inr (.inr (.inl h)));exact .inl (.inr (.inr (.inr (.inl h))));exact .inl (.inr (.inr (.inr (.inr (.inl h)))));exact .inr hx;exact .inl (.inr (.inr (.inr (.inr (.inr (.inl h))))));exact .inl (.inr (.inr (.inr (.inr (.inr (.inr h))))));exact .inr (hL y h)
end Go.Proofs.YtkkgcebhfghdnaaGreatDoor.Vw
