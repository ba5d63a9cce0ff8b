/- Part 25 of what that rests on; no condition. -/
import Derived.Test.YtkkgcebhfghdnaaGreatDoorJx
import Derived.LaidEql
import Derived.LaidHandle
import Derived.LaidLaws
import Derived.RowKitTokens
import Derived.SevenTiedAt
import Derived.Stop.Asserts
import Derived.Test.YtkkgcebhfghdnaaGreatDoorCards
import Derived.Test.YtkkgcebhfghdnaaGreatDoorTie
set_option maxRecDepth 100000
set_option maxHeartbeats 8000000
open Go.Extern.ReflectliteType renaming assignableTo→Tv, implements_→lF, abiMethod→lH, relation→P6, toType→kz, typeOf→Vy, method→lC, elem→lD
open Go.Extern.ReflectliteValue renaming valueError→Ol, methodAny→AAi, flagAddr→AAj, unpack→Tz, method→UB, parts→Vz, isNil→Yd, elem→Ye, set→dK
open Go.Extern.Rtype renaming directlyAssignable→AAh
open Go renaming wp_region_held_drew→Ei, wpAnyH_done→Ef, rounds_succ→UF, TypeId→Aj, Ending→Fv, Value→AP, World→AL, Calls→A7, DataW→Dl, Addr→Ag
open Go.Instr renaming typeAssert→J9
open Go.Result renaming andThen→P8
open Go.Sem renaming run_bind→Eh
open Go.World renaming cell?→PU
open Go.Frame renaming enter→BV
open List renaming range→FZ
open Go.Value renaming int→KU
open Go.Addr renaming add→Tt
open Go.Act renaming put→BF
open Option renaming none→AB, some→AA
namespace Go.Proofs.YtkkgcebhfghdnaaGreatDoor.Vw
open Go Go.RowKit
section
variable {G1:Bh}{b6 n:Nat}{v:AP}{w2 wz:AL}
theorem Rd.at3{w:AL}{A:Option Ag}{c:Nat}{xs:List AP}(h:Rd w 3 A n c xs){k:Nat}(hk:k<n){a b d:AP}(h0:xs[k*3]? =AA a)(h1:xs[k*3+1]? =AA b)(h2:xs[k*3+2]? =AA d):
  ∃ad,A=AA ad/\w.cell? (ad.add (k*3))=AA a/\w.cell? ⟨(ad.add (k*3)).block,(ad.add (k*3)).off+1,AB⟩=AA b/\w.cell? ⟨(ad.add (k*3)).block,(ad.add (k*3)).off+2,AB⟩=AA d:=by
 obtain⟨ad,rfl,_⟩:=h.some_ Ad;have hc:=(h.2.2.2.2 ad rfl).2;have e1:=hc _ _ h1;have e2:=hc _ _ h2;rw[oO] at e1 e2;exact⟨ad,rfl,hc _ _ h0,e1,e2⟩
def AOK (wz wr:AL) (G:Bh) (b6:Nat) (S1:St) (f:J8):Prop:=
 ∃G' bb v,EI wr G' S1/\G'.b=G.b/\(∀x∈G'.all,x∈G.all\/wz.heap.size<=x)/\AZ (b6::G.all) wz wr/\Bl wr b6 39 #[v]/\Qr wr bb v f/\bb∉G'.all/\wz.heap.size<=bb
theorem DJ.from_{wr:AL}{G:Bh}{S2:St}(h:DJ wr G1 S2 w2)(hb:G1.b=G.b)(hA: ∀x∈G1.all,x∈G.all\/wz.heap.size<=x)(hc:AZ G.all wz wr):DJ wz G S2 w2:=.trans hA hb hc h
theorem qR{wr:AL}{G:Bh}{S2:St}{o:Obj}(h:DJ wr G1 S2 w2)(hA: ∀x∈G1.all,x∈G.all\/wz.heap.size<=x)(hc:AZ G.all wz wr)(h6:Bl wz b6 39 #[v])(hn:b6∉G.all):Bl (w2.alloc o) b6 39 #[v]:=by
 have hn1:b6∉G1.all:=λhm=>by
  rcases hA _ hm with h|h;exact hn h;have:=h6.lt;omega
 exact ((h6.Ak hc hn).Ak h.Ak hn1).alloc o
theorem AKk{wr:AL}{G:Bh}{S2:St}{op:ByteArray}{pl cd:Int}(h:DJ wr G1 S2 w2)(hb:G1.b=G.b)(hA: ∀x∈G1.all,x∈G.all\/wz.heap.size<=x)(hc:AZ G.all wz wr)(h6:Bl wz b6 39 #[v])(hn:b6∉G.all)(hcd:cd≠0):
  AOK wz ((w2.alloc (.cells #[.string op,.int .i64 pl,.iface 51 (.int .i64 cd)] 142)).setCell ⟨b6,0,AB⟩ (.iface 140 (.pointer (AA ⟨w2.heap.size,0,AB⟩)))) G b6 S2 ⟨op,pl,cd⟩:=by
 have hk:=qR (o:=.cells #[.string op,.int .i64 pl,.iface 51 (.int .i64 cd)] 142) h hA hc h6 hn;obtain⟨G2,h1,h2,h3,h4⟩:=h.from_ hb hA hc;have hal:AZ [] w2 (w2.alloc (.cells #[.string op,.int .i64 pl,.iface 51 (.int .i64 cd)] 142)):=(AZ.refl [] w2).alloc _;have hst: ∀u,AZ [b6] (w2.alloc (.cells #[.string op,.int .i64 pl,.iface 51 (.int .i64 cd)] 142)) ((w2.alloc (.cells #[.string op,.int .i64 pl,.iface 51 (.int .i64 cd)] 142)).setCell ⟨b6,0,AB⟩ u):=λu=>(AZ.refl _ _).setCell (.inl AV) _;have hl6:=h6.lt;have hz:=h4.size
 have hn2:b6∉G2.all:=λhm=>by
  rcases h3 _ hm with h|h;exact hn h;omega
 refine⟨G2,w2.heap.size,_,(h1.CE hal).keep (hst _) (λx hx hm=>by simp at hm;subst hm;exact hn2 hx),h2,h3,?_,hk.FK 0 _,⟨rfl,(Bl.new w2 _ _).Ak (hst _) (by simp;omega),hcd⟩,λhm=>by have:=h1.lt _ hm;omega,Ad⟩;exact ((h4.mono (λx hx=>.inl (CO _ hx))).Ap hal).trans (hst _) (λx hx=>by simp at hx;subst hx;exact .inl AV)
theorem AKl{G:Bh}{S:St}{B b3 b4 m:Nat}{A8:Option Ag}{c8:Nat}{vs:List AP}{ts:List JF}{D:List Deferred}(wz:AL)(Q0:Exit->Act->AL->Prop)
  (AJ5:Hid (∀c a d v w,6<d->Q0 (.panic c) (BF a (AA d) v) w->Q0 (.panic c) a w))
  (HF:Hid (EI wz G S)) (HI:Hid (Inv B S)) (hB:B+JX ts<=1073741824) (hn:n<=1073741824) (hts:ts.length=n)
  (HO:Hid (Own wz 100 3 A8 n c8 vs)) (HS:Hid (NY wz G b3 b4 m ts vs)) (HNA:Hid (∀x∈bo A8,x∉G.all)) (H3:Hid (wz.cell? ⟨b3,0,AB⟩=AA (PT G)/\b3∉G.all/\b3<wz.heap.size)) (H6:Hid (Bl wz b6 39 #[.nilIface]/\b6∉G.all))
  (u0 u1 u2 u3 u4 u5 u7 u8 u9 u10 u11 u12 u13 u14 u15 u16 u17 u18 u19 u20 u21 u22 u23 u24 u25 u26 u27 u28 u29 u30 u31 u32 u33 u34 u35 u36 u37 u38 u39 u40 u41 u42 u43 u44 u45 u46 u47 u48 u49 u50 u51 u52 u53 u54 u55 u56 u57 u58 u59 u60 u61 u62 u66 u67 u68 u69 u70 u71 u72 u73 u74 u75 u76 u77 u78 u79 u80 u81:AP)
  (AEr:Hid (∀(v12 v13 v66 v67 v68 v69 v70 v71 v72 v73 v74 v75 v76 v77 v78 v79 v80 v81:AP) (wr:AL) (S1:St),DJ wz G S1 wr->S.runT ts=(S1,[])->Q0 (.exit 2) ⟨(List.toArray (u0::u1::u2::u3::u4::u5:: .pointer (AA ⟨b6,0,AB⟩)::u7::u8::u9::u10::u11::v12::v13::u14::u15::u16::u17::u18::u19::u20::u21::u22::u23::u24::u25::u26::u27::u28::u29::u30::u31::u32::u33::u34::u35::u36::u37::u38::u39::u40::u41::u42::u43::u44::u45::u46::u47::u48::u49::u50::u51::u52::u53::u54::u55::u56::u57::u58::u59::u60::u61::u62:: .slice A8 n c8:: .int .i64 (n:Int):: .int .i64 (n:Int)::v66::v67::v68::v69::v70::v71::v72::v73::v74::v75::v76::v77::v78::v79::v80::v81::[])),D⟩ wr))
  (ATg:Hid (∀(v65 v12 v13 v66 v67 v68 v69 v70 v71 v72 v73 v74 v75 v76 v77 v78 v79 v80 v81:AP) (wr:AL) (S1:St) (f:J8),AOK wz wr G b6 S1 f->S.runT ts=(S1,[f])->Q0 .ret ⟨(List.toArray (u0::u1::u2::u3::u4::u5:: .pointer (AA ⟨b6,0,AB⟩)::u7::u8::u9::u10::u11::v12::v13::u14::u15::u16::u17::u18::u19::u20::u21::u22::u23::u24::u25::u26::u27::u28::u29::u30::u31::u32::u33::u34::u35::u36::u37::u38::u39::u40::u41::u42::u43::u44::u45::u46::u47::u48::u49::u50::u51::u52::u53::u54::u55::u56::u57::u58::u59::u60::u61::u62:: .slice A8 n c8:: .int .i64 (n:Int)::v65::v66::v67::v68::v69::v70::v71::v72::v73::v74::v75::v76::v77::v78::v79::v80::v81::[])),D⟩ wr)):
  Code.wp Af (.loop (ACi 1)) Q0 ⟨(List.toArray (u0::u1::u2::u3::u4::u5:: .pointer (AA ⟨b6,0,AB⟩)::u7::u8::u9::u10::u11::u12::u13::u14::u15::u16::u17::u18::u19::u20::u21::u22::u23::u24::u25::u26::u27::u28::u29::u30::u31::u32::u33::u34::u35::u36::u37::u38::u39::u40::u41::u42::u43::u44::u45::u46::u47::u48::u49::u50::u51::u52::u53::u54::u55::u56::u57::u58::u59::u60::u61::u62:: .slice A8 n c8:: .int .i64 (n:Int):: .int .i64 0::u66::u67::u68::u69::u70::u71::u72::u73::u74::u75::u76::u77::u78::u79::u80::u81::[])),D⟩ wz:=by
 have q1:= @AJg;have q2:= @AJf;have hst: ∀(a:Ag) (fn:Fn) (x y:Array AP) (m:Mode) (w:AL),(store a (.func fn x y) m).run Af w=stored Af w a (.func fn x y) m:=λa fn x y m w=>run_store Af w a _ m rfl
 conv=>arg 2;arg 1;whnf
 go_loopw [65] (λq wr=>∃(j:Nat) (S1:St),j<=n/\q=.int .i64 j/\DJ wz G S1 wr/\Inv (B+JX (ts.take j)) S1/\S.runT ts=S1.runT (ts.drop j)) (λq _=>n - (intOf q).toNat)
 case atStart=>exact⟨0,S,D5 _,rfl,.same HF.out (.refl _ _),HI.out.mono Ad,rfl⟩
 obtain⟨j,S1,hj,rfl,⟨G1,hF1,hG1,hA1,Xm⟩,hI1,hE1⟩:=hrel;have GR:=AQ hF1;have HA1:=AQ hA1;have DI:=AQ Xm;have HI1:=AQ hI1;have qP:=AQ hE1;have qU:=AQ hG1;clear hF1 hA1 Xm hI1 hE1 hG1;by_cases hlt:j<n
 ·(have hlt':(j:Int)<n:=by omega);obtain⟨t,ht⟩: ∃t,ts[j]? =AA t:=⟨_,CQ Ad⟩;obtain⟨f,hf,y0,y1,y2⟩:=HS.out.at_ ht;obtain⟨ad,rfl,z0,z1,z2⟩:=(HO.out.rd.Ak DI.out HNA.out).at3 hlt y0 y1 y2;have HT:=AQ ht;obtain⟨W,hW⟩: ∃W,wr.alloc (.cells #[.string t.op,.int .i64 t.pl,f] 100)=W:=⟨_,rfl⟩;(have hcW:AZ [] wr W:=by rw[<- hW];exact (AZ.refl [] wr).alloc _);(have hbW:Bl W wr.heap.size 100 #[.string t.op,.int .i64 t.pl,f]:=by rw[<- hW];exact .new _ _ _);(have hnW:wr.heap.size∉G1.all:=λhm=>by have:=GR.out.lt _ hm;omega);have HT0:Hid (∀w',AZ G1.all W w'->w'.cell? ⟨wr.heap.size,0,AB⟩=AA (.string t.op)):=AQ λw' hc=>(hbW.Ak hc hnW).cell 0;have HT1:Hid (∀w',AZ G1.all W w'->w'.cell? ⟨wr.heap.size,1,AB⟩=AA (.int .i64 t.pl)):=AQ λw' hc=>(hbW.Ak hc hnW).cell 1;have HT2:Hid (∀w',AZ G1.all W w'->w'.cell? ⟨wr.heap.size,2,AB⟩=AA f):=AQ λw' hc=>(hbW.Ak hc hnW).cell 2;have hb1:=wL ht;have hb2:=qQ ts (j+1);have hcd:AZ [] wr W.drew:=hcW.drew;obtain⟨id,bd,cp,rfl,hcf,hcall⟩:=hf.call (wr:=W.drew) (G1:=G1) (S:=S1) H3.out.1 H3.out.2.1 H3.out.2.2 (GR.out.CE hcd) qU.out HA1.out (DI.out.Ap hcd) HI1.out Ad;have UT:=AQ hcall;have QT:=AQ hcW;clear hcall hbW hcW hb1 hb2 hcd hf y0 y1 y2 ht;(go_wp2_with fail);refine Ei (S:=λw'=>AZ G1.all W w') Aq ((AZ.refl _ _).drew) (λhHeld=>?_);refine tk 0 ?_;refine GI 1 (λw' hSw=>HT0.out _ hSw) ?_;refine tk 2 ?_;refine GI 3 (λw' hSw=>HT1.out _ hSw) ?_;refine tk 4 ?_;refine GI 5 (λw' hSw=>HT2.out _ hSw) ?_;refine EW 6 λK hK=>?_;go_simp;refine UT.out.mono ?_;rintro e w2 ⟨rfl,hT⟩;have HI2:=AQ (HI1.out.act t.d);have HE2:=AQ (AKh (S:=S1) HT.out)
  generalize S1.act t.d=R at*
  obtain⟨S2,cd⟩:=R;have hcw:AZ G1.all W w2:=(AZ.refl _ W).drew.trans hT.Ak (λx hx=>.inl hx);have HT9:=AQ (DJ.before QT.out.drew hT);have qV:=AQ hcw;clear hT;simp only[];refine hK.out _ _ (hcw) (λhHeld=>?_);(try simp only[BF,Bf]);clear hK K;by_cases hec:cd=0
  ·subst hec;refine EW 7 λK hK=>?_;go_simp;refine (YR 0 _).mono ?_;rintro e w3 ⟨rfl,rfl⟩;go_simp;refine hK.out _ _ (qV.out) (λhHeld=>?_);(try simp only[BF,Bf]);clear hK K;refine EW 8 λK hK=>?_;go_simp;refine (wrap_nil _ _ _).mono ?_;rintro e w3 ⟨rfl,rfl⟩;go_simp;refine hK.out _ _ (qV.out) (λhHeld=>?_);(try simp only[BF,Bf]);clear hK K;refine tk 9 ?_;refine Ef Aq ?_ _;(try simp only[BF,Bf]);go_wp2;go_roundw
   case rel=>exact⟨j+1,S2,Ad,by go_num,HT9.out.from_ qU.out HA1.out DI.out,HI2.out.mono (by have:=wL HT.out;omega),by rw[qP.out,HE2.out,BZ rfl]⟩
   simp[intOf];omega
  have HEC:=AQ hec;(have e1:(cd==0)=false:=by simp[hec]);have hb6:Bl (w2.alloc (.cells #[.string t.op,.int .i64 t.pl,.iface 51 (.int .i64 cd)] 142)) b6 39 #[.nilIface]:=qR HT9.out HA1.out DI.out H6.out.1 H6.out.2;have c6:=hb6.cell 0;have z6:=hb6.frozen 0;simp only[GU] at c6;clear hb6 hec;refine EW 7 λK hK=>?_;go_simp;refine (YR cd _).mono ?_;rintro e w3 ⟨rfl,rfl⟩;rw[BM HEC.out];go_simp;refine hK.out _ _ (qV.out) (λhHeld=>?_);(try simp only[BF,Bf]);clear hK K;refine EW 8 λK hK=>?_;go_simp;refine (YS _ _ _ _ _).mono ?_;rintro e w3 ⟨rfl,rfl⟩;go_simp;refine hK.out _ _ (qV.out.alloc _) (λhHeld=>?_);(try simp only[BF,Bf]);clear hK K;refine tk 9 ?_;refine Ef Aq ?_ _;(try simp only[BF,Bf]);go_wp2;exact ATg.out _ _ _ _ _ _ _ _ _ _ _ _ _ _ _ _ _ _ _ _ S2 ⟨t.op,t.pl,cd⟩ (AKk HT9.out qU.out HA1.out DI.out H6.out.1 H6.out.2 HEC.out) (by rw[qP.out,HE2.out,BM HEC.out])
 (obtain rfl:j=n:=by omega);go_wp2;have h1:=qP.out;rw[Qy Ad] at h1;exact AEr.out _ _ _ _ _ _ _ _ _ _ _ _ _ _ _ _ _ _ _ S1 ⟨G1,GR.out,qU.out,HA1.out,DI.out⟩ h1
end
section
variable {L:List Nat}{b6:Nat}{v:AP}{w:AL}
theorem Sj.tell{wr:AL}{G:Bh}{S1:St}{G1:Bh}{fs:List J8}(hF:EI wr G1 S1)(hb:G1.b=G.b)(hA: ∀x∈G1.all,x∈G.all\/w.heap.size<=x)(hc:AZ G.all w wr)(hE:JW wr v L fs)(hL: ∀x∈L,w.heap.size<=x/\x∉G1.all)(hL6: ∀x∈L,x≠b6)
  (hn:b6∉G1.all) (hl:w.heap.size<=b6):Sj w G S1 fs (.returned v) (wr.setCell ⟨b6,0,AB⟩ v):=by
 have hst:AZ [b6] wr (wr.setCell ⟨b6,0,AB⟩ v):=(AZ.refl _ _).setCell (.inl AV) _;exact⟨v,G1,L,rfl,hE.Ak hst (λx hx hm=>hL6 x hx (by simpa using hm)),hF.keep hst (λx hx hm=>by simp at hm;subst hm;exact hn hx),hb,hA,hc.trans hst (λx hx=>by simp at hx;subst hx;exact .inr hl),hL⟩
theorem qW{tm:Array AP}(ht:tm[6]? =AA (.pointer (AA ⟨b6,0,AB⟩)))(hc:w.cell? ⟨b6,0,AB⟩=AA v):(results Tryz.f14 tm).run Af w=.ok v w:=by
 have h1:Tryz.f14.results= #[.cell 6 39]:=rfl;simp[results,h1,ht,asAddr,go_sem,hc]
theorem UX{P:Program}{fn:Func}{t1 t2:Array AP}{R:Fv->AL->Prop}(ht: ∀w,(results fn t1).run P w=(results fn t2).run P w): ∀(ds:List Deferred) (u:FrameMode) (w:AL),Leaves P fn t1 R ds u w->Leaves P fn t2 R ds u w
 | [],.returning,w,h=>by obtain⟨v,h1,h2⟩:=h;exact⟨v,(ht w).symm.trans h1,h2⟩
 | [],.panicking _,_,h=>h| [],.run,_,h=>h
 |d::ds,u,w,h=>by
  obtain⟨h1,fv,cap,f,args,h2,h3,h4⟩:=h;refine⟨h1,fv,cap,f,args,h2,h3,h4.mono λe u' w' hh=>?_⟩
  cases e with|returned v=>exact UX ht ds _ _ hh|panicked c=>exact UX ht ds _ _ hh|outgrown=>exact hh
theorem ARO{R:Fv->AL->Prop}{c:List PanicEntry}{a:Act}{d:Nat}(hd:6<d)(h:bodyPostD Af Tryz.f14 R (.panic c) (a.put (AA d) v) w):bodyPostD Af Tryz.f14 R (.panic c) a w:=by
 refine UX (λw=>?_) _ _ _ h;have h1:Tryz.f14.results= #[.cell 6 39]:=rfl
 have h2:(a.put (AA d) v).tmps.getD 6 undef=a.tmps.getD 6 undef:=by
  simp only[BF,Qo];rw[Dw Ad]
 simp only[Qo] at h2;simp only[results,h1];simp[h2]
theorem JW.nil_(h:JW w v L []):v=.nilIface:=by
 rcases h.qN AV with ⟨h,_⟩|⟨_,_,_,h,_⟩;exact h;cases h
theorem Xo{G:Bh}{S:St}{B:Nat}(h:EI w G S)(hi:Inv B S){dst:ByteArray}{A:Option Ag}{n c:Nat}{fs:List FM}(hf:FO w A n c fs)(hdis: ∀x∈bo A++Gj fs,x∉G.all)
  (hlt: ∀x∈bo A++Gj fs,x<w.heap.size) (hby: ∀f∈fs,∀x∈f.2,0<=x/\x<=255) (hB:4*B+2*Vh (BD fs)+100<=1073741824):
  A7 Af 14 #[.pointer (AA ⟨G.b,0,AB⟩),.string dst,.slice A n c] w (Sj w G (S.F7 dst (BD fs)).1 (S.F7 dst (BD fs)).2):=by
 have HF:=AQ h;have HI:=AQ hi;have HR:=AQ hf;have HD:=AQ hdis;have HBY:=AQ hby;have HLT:=AQ hlt;clear h hi hf hdis hby hlt;obtain⟨b3,hb3⟩: ∃b3,w.heap.size=b3:=⟨_,rfl⟩;obtain⟨W0,hW0⟩: ∃W0,((w.alloc (.cells #[.pointer (AA ⟨G.b,0,AB⟩)] 45)).alloc (.cells #[.string dst] 9)).alloc (.cells #[.nilIface] 39)=W0:=⟨_,rfl⟩;(have hc0:AZ [] w W0:=by rw[<- hW0];exact (((AZ.refl [] w).alloc _).alloc _).alloc _);have k3:Bl W0 b3 45 #[.pointer (AA ⟨G.b,0,AB⟩)]:=by rw[<- hW0,<- hb3];exact ((Bl.new w _ _).alloc _).alloc _
 have k4:Bl W0 (b3+1) 9 #[.string dst]:=by
  rw[<- hW0,<- hb3];have:=(Bl.new (w.alloc (.cells #[.pointer (AA ⟨G.b,0,AB⟩)] 45)) 9 #[.string dst]).alloc (.cells #[.nilIface] 39);simpa using this
 have k6:Bl W0 (b3+1+1) 39 #[.nilIface]:=by
  rw[<- hW0,<- hb3];have:=Bl.new ((w.alloc (.cells #[.pointer (AA ⟨G.b,0,AB⟩)] 45)).alloc (.cells #[.string dst] 9)) 39 #[.nilIface];simpa using this
 (have hz0:W0.heap.size=b3+1+1+1:=by rw[<- hW0,<- hb3];simp);have c3:=k3.cell 0;have c4:=k4.cell 0;have c6:=k6.cell 0;have z6:=k6.frozen 0;simp only[GU] at c3 c4 c6;have q1:= @vI;have q2:= @AJg;have q3:= @AJf;have q4:= @AJe;have WV:=AQ hc0;have HK3:=AQ k3;have HK4:=AQ k4;have HK6:=AQ k6;have HZ0:=AQ hz0;have HB3:=AQ hb3;(have Xh:Hid (∀k,b3<=k->k∉G.all):=AQ λk hk hm=>by have:=HF.out.lt _ hm;omega);obtain⟨R,hRR⟩: ∃R,S.F7 dst (BD fs)=R:=⟨_,rfl⟩;have HRR:=AQ hRR;rw[hRR];clear hc0 k3 k4 k6 hz0 hRR;go_enter_defers AMc,Tryz.ntmps14;(go_wp2_with fail);refine (Rf dst _).mono ?_;rintro e w1 ⟨rfl,rfl⟩;by_cases hg:CS dst=false
 ·have HR1:Hid (R=(S,[⟨{data:=#[112,97,116,104,115]},0,81⟩])):=AQ (by rw[<- HRR.out];unfold St.F7;rw[BZ (.inl hg)]);rw[hg]
  go_wp2_with (first
   |(go_at_call 38;refine (YR 81 _).mono ?_;rintro e w3 ⟨rfl,rfl⟩)
   |(go_at_call 37;refine (YS _ _ _ _ _).mono ?_;rintro e w3 ⟨rfl,rfl⟩;have hb6:=HK6.out.alloc (.cells #[.string {data:=#[112,97,116,104,115]},.int .i64 0,.iface 51 (.int .i64 81)] 142);have d6:=hb6.cell 0;have y6:=hb6.frozen 0;simp only[GU] at d6))
  refine⟨_,qW rfl (hb6.FK 0 _ |>.cell 0),?_⟩;rw[HR1.out];have hal:=(AZ.refl [] w3).alloc (.cells #[.string {data:=#[112,97,116,104,115]},.int .i64 0,.iface 51 (.int .i64 81)] 142);have hz:=HZ0.out;have hw:=HB3.out;exact .tell (HF.out.CE (WV.out.Ap hal)) rfl (λ_ h=>.inl h) ((WV.out.Ap hal).nil _) (L:=[w3.heap.size]) ⟨rfl,.new _ _ _,Ar⟩ (λx hx=>by simp at hx;subst hx;exact⟨Ad,Xh.out _ Ad⟩) (λx hx=>by simp at hx;subst hx;omega) (Xh.out _ Ad) Ad
 (have hg1:CS dst=true:=by simpa using hg);rw[hg1];by_cases hs:dst=BO
 ·have HR1:Hid (R=(S,[⟨{data:=#[112,97,116,104,115]},0,81⟩])):=AQ (by rw[<- HRR.out];unfold St.F7;rw[BZ (.inr hs)]);(have hst:(dst.toList==[46,115,116,97,103,101])=true:=by rw[show ([46,115,116,97,103,101]:List UInt8)=BO.toList by decide+kernel,<- bz];exact decide_eq_true hs);clear hs
  go_wp2_with (first
   |(go_at_call 38;refine (YR 81 _).mono ?_;rintro e w3 ⟨rfl,rfl⟩)
   |(go_at_call 37;refine (YS _ _ _ _ _).mono ?_;rintro e w3 ⟨rfl,rfl⟩;have hb6:=HK6.out.alloc (.cells #[.string {data:=#[112,97,116,104,115]},.int .i64 0,.iface 51 (.int .i64 81)] 142);have d6:=hb6.cell 0;have y6:=hb6.frozen 0;simp only[GU] at d6))
  refine⟨_,qW rfl (hb6.FK 0 _ |>.cell 0),?_⟩;rw[HR1.out];have hal:=(AZ.refl [] w3).alloc (.cells #[.string {data:=#[112,97,116,104,115]},.int .i64 0,.iface 51 (.int .i64 81)] 142);have hz:=HZ0.out;have hw:=HB3.out;exact .tell (HF.out.CE (WV.out.Ap hal)) rfl (λ_ h=>.inl h) ((WV.out.Ap hal).nil _) (L:=[w3.heap.size]) ⟨rfl,.new _ _ _,Ar⟩ (λx hx=>by simp at hx;subst hx;exact⟨Ad,Xh.out _ Ad⟩) (λx hx=>by simp at hx;subst hx;omega) (Xh.out _ Ad) Ad
 have hst:(dst.toList==[46,115,116,97,103,101])=false:=by rw[show ([46,115,116,97,103,101]:List UInt8)=BO.toList by decide+kernel,<- bz];exact decide_eq_false hs
 have HRX:Hid (R=if S.clean.2≠0 then (S.clean.1,Jm S.clean.2) else if (S.clean.1.runT (EP dst (BD fs))).2=[] then S.clean.1.runT (EP dst (BD fs)) else ((S.clean.1.runT (EP dst (BD fs))).1.clean.1,(S.clean.1.runT (EP dst (BD fs))).2++Jm (S.clean.1.runT (EP dst (BD fs))).1.clean.2)):=AQ (by
  rw[<- HRR.out];unfold St.F7;rw[BM (by rw[hg1];simp[hs])])
 have HIC:=AQ HI.out.clean;clear hs;(go_wp2_with fail);refine (fZ (HF.out.CE WV.out) HI.out Ad).mono ?_
 generalize S.clean=Z at*
 obtain⟨S1,cd⟩:=Z;rintro e w2 ⟨v1,G1,L1,rfl,hE1,hF1,hG1,hA1,Xm,hN1⟩;have hb6:Bl w2 (b3+1+1) 39 #[.nilIface]:=HK6.out.Ak Xm (Xh.out _ Ad);have d6:=hb6.cell 0;have y6:=hb6.frozen 0;have AOL:Bl w2 b3 45 #[.pointer (AA ⟨G.b,0,AB⟩)]:=HK3.out.Ak Xm (Xh.out _ Ad);have hb4:Bl w2 (b3+1) 9 #[.string dst]:=HK4.out.Ak Xm (Xh.out _ Ad)
 have AGB: ∀k,b3<=k->k<b3+1+1+1->k∉G1.all:=λk h1 h2 hm=>by
  have hz:=HZ0.out;rcases hA1 k hm with h|h;exact Xh.out k h1 h;omega
 have TC:=AQ hb6;have qP:=AQ hE1;have GR:=AQ hF1;have HA1:=AQ hA1;have DI:=AQ Xm;have HN1:=AQ hN1;have AGE:=AQ AGB;have AOM:=AQ AOL;have HB4:=AQ hb4;have qU:=AQ hG1;simp only[GU] at d6;clear hE1 hF1 hA1 Xm hN1 hb6 AGB AOL hb4 hG1 c3 c4 c6 z6 hst;by_cases hcd:cd=0
 ·subst hcd;have hx:v1=.nilIface:=qP.out.nil_;subst hx;have HR1:Hid (R=if (S1.runT (EP dst (BD fs))).2=[] then S1.runT (EP dst (BD fs)) else ((S1.runT (EP dst (BD fs))).1.clean.1,(S1.runT (EP dst (BD fs))).2++Jm (S1.runT (EP dst (BD fs))).1.clean.2)):=AQ (by rw[HRX.out,BM AV]);have hmf: ∀(fn:Fn) (first cap:Array AP) (w:AL),(Instr.makeFunc fn first cap).run Af w=.ok (.func fn first cap) w:=λ_ _ _ _=>rfl;clear HRX;obtain⟨wz,hwz⟩: ∃wz,w2.alloc (.cells #[.string {data:=#[109,107,100,105,114]},.int .i64 0,.func (.func 41) #[] #[.pointer (AA ⟨b3,0,AB⟩)]] 100)=wz:=⟨_,rfl⟩;(have hcz:AZ [] w2 wz:=by rw[<- hwz];exact (AZ.refl [] w2).alloc _);(have hoz:Own wz 100 3 (AA ⟨w2.heap.size,0,AB⟩) 1 1 [.string {data:=#[109,107,100,105,114]},.int .i64 0,.func (.func 41) #[] #[.pointer (AA ⟨b3,0,AB⟩)]]:=by rw[<- hwz];exact Own.lit w2 100 3 _ 1 Ar rfl);(have hfl:(BD fs).length=n:=by have:=HR.out.row.Ov;simpa[F5,BD] using this);have hfk:=ACh (BD fs);(have hsz:w2.heap.size+1=wz.heap.size:=by rw[<- hwz];simp);have AUl:w.heap.size<=w2.heap.size:=Ci WV.out.size DI.out.size;have AUF:=DI.out.size;have hz0:=HZ0.out;have AUm:=HB3.out;have HCZ:=AQ hcz;have HOZ:=AQ hoz;have hcw:AZ G.all w w2:=(WV.out.nil _).trans DI.out (λx hx=>.inl hx);have HM:Hid (∀x∈bo A++Gj fs,x<b3+1+1):=AQ λx hx=>by have:=HLT.out x hx;omega
  have HD1:Hid (∀x∈bo A++Gj fs,x∉G1.all):=AQ λx hx hm=>by
   rcases HA1.out x hm with h|h;exact HD.out x hx h;have:=HLT.out x hx;have:=WV.out.size;omega
  have AON:Hid (∀x∈G1.all,x<w2.heap.size):=AQ GR.out.lt;have HRZ:Hid (FO w2 A n c fs):=AQ ⟨HR.out.row.Ak hcw (λx hx=>HD.out x (Be.2 (.inl hx))),λf hf=>(HR.out.dat f hf).Ak hcw (λx hx=>HD.out x (Be.2 (.inr (FI.2 ⟨f,hf,hx⟩))))⟩;have HPZ:Hid (dE w2 wz G1 b3 (b3+1) (b3+1+1) fs (AA ⟨w2.heap.size,0,AB⟩) 1 [.string {data:=#[109,107,100,105,114]},.int .i64 0,.func (.func 41) #[] #[.pointer (AA ⟨b3,0,AB⟩)]] 0):=AQ ⟨hoz,.cons .CX .nil,hcz,λx hx=>by simp at hx;omega⟩;clear hcz hoz hcw;go_wp2;refine AKj (G:=G1) (b3:=b3) (b4:=b3+1) (m:=b3+1+1) (fs:=fs) (A0:=AA ⟨w2.heap.size,0,AB⟩) (c0:=1) wz _ HRZ HM HD1 HBY Ad HPZ AON (AQ Ad) _ _ _ _ _ _ _ _ _ _ _ _ _ _ _ _ _ _ _ _ _ _ _ _ _ _ _ _ _ _ _ _ _ _ _ _ _ _ _ _ _ _ _ _ _ _ _ _ _ _ _ _ _ _ _ _ _ _ _ _ _ _ _ _ _ _ _ _ _ _ _ _ _ _ _ _ ?_;refine AQ ?_;rintro A8 c8 vs v9 v10 v35 v36 v37 v38 v39 v40 v41 v42 v43 v44 v45 v46 v47 v48 v49 v50 v51 wr hP;have HP:=AQ hP;have hrc:=hP.Ak;have AOO:=AOM.out.Ak hrc AV;have c3:=AOO.cell 0;simp only[GU] at c3;have HRC:=AQ hrc;clear hP HPZ AOO hrc;(go_wp2_with (at_builtin;refine Gz rfl _ _ rfl wM rfl (HP.out.AOI ((AZ.refl [] wr).alloc _)) rfl (Own.jI _ 100 3 #[.string {data:=#[110,97,109,101,115]},.int .i64 0,.func (.func 50) #[.pointer (AA ⟨G.b,0,AB⟩)] #[],.string {data:=#[114,101,110,97,109,101]},.int .i64 0,.func (.func 51) #[] #[.pointer (AA ⟨b3,0,AB⟩),.pointer (AA ⟨b3+1,0,AB⟩)],.string {data:=#[115,97,102,101]},.int .i64 0,.func (.func 50) #[.pointer (AA ⟨G.b,0,AB⟩)] #[]] 3 _ _ rfl rfl Ar rfl).rd (by simp[Value.oneCell']) Qv Ad ?_;intro A9 c9 wb hown EU hnew _));have hab:AZ [] wr (wr.alloc (.cells #[.string {data:=#[110,97,109,101,115]},.int .i64 0,.func (.func 50) #[.pointer (AA ⟨G.b,0,AB⟩)] #[],.string {data:=#[114,101,110,97,109,101]},.int .i64 0,.func (.func 51) #[] #[.pointer (AA ⟨b3,0,AB⟩),.pointer (AA ⟨b3+1,0,AB⟩)],.string {data:=#[115,97,102,101]},.int .i64 0,.func (.func 50) #[.pointer (AA ⟨G.b,0,AB⟩)] #[]] 100)):=(AZ.refl [] wr).alloc _;have hwb:AZ (bo A8) wr wb:=(hab.nil _).trans EU (λx hx=>.inl hx);have hzb:AZ [] w2 wb:=HRC.out.trans hwb (λx hx=>.inr (by have:=HP.out.new x hx;omega))
  have J6: ∀x∈bo A9,w2.heap.size<=x:=λx hx=>by
   rcases hnew x hx with h|h;have:=HP.out.new x h;omega;have h1:=h.1;have h2:=HRC.out.size;simp at h1;omega
  have hL8: ∀x∈bo A8,b3+1+1<=x/\∃cs,Bl wr x 100 cs:=λx hx=>⟨by have:=HP.out.new x hx;omega,HP.out.own.AGD x hx⟩;have hst:=HP.out.stp.AGC hwb hL8;have AOP:=HB4.out.Ak hzb AV;have AKm:=AOM.out.Ak hzb AV;have ATh:=TC.out.Ak hzb AV
  have hst2:NY wb G1 b3 (b3+1) (b3+1+1) (EP dst (BD fs)) (vs++(#[.string {data:=#[110,97,109,101,115]},.int .i64 0,.func (.func 50) #[.pointer (AA ⟨G.b,0,AB⟩)] #[],.string {data:=#[114,101,110,97,109,101]},.int .i64 0,.func (.func 51) #[] #[.pointer (AA ⟨b3,0,AB⟩),.pointer (AA ⟨b3+1,0,AB⟩)],.string {data:=#[115,97,102,101]},.int .i64 0,.func (.func 50) #[.pointer (AA ⟨G.b,0,AB⟩)] #[]]:Array AP).toList):=by
   have h1:(BD fs).take n=BD fs:=FH Ad;rw[h1] at hst;unfold EP;refine hst.append ?_;refine .cons ?_ (.cons ?_ (.cons ?_ .nil));rw[<- qU.out];exact .names;exact .rename _ (AOP.cell 0) (AGE.out _ Ad Ad) Ad;rw[<- qU.out];exact .names
  have HO9:=AQ hown;have ATi:=AQ hst2;have HZB:=AQ hzb;have hFb:=GR.out.CE hzb;have HFB:=AQ hFb;(have HNA:Hid (∀x∈bo A9,x∉G1.all):=AQ λx hx hm=>by have:=J6 x hx;have:=AON.out x hm;omega);have H3b:Hid (wb.cell? ⟨b3,0,AB⟩=AA (PT G1)/\b3∉G1.all/\b3<wb.heap.size):=AQ ⟨by unfold PT;rw[qU.out];exact AKm.cell 0,AGE.out _ Ad Ad,AKm.lt⟩;have H6b:Hid (Bl wb (b3+1+1) 39 #[.nilIface]/\b3+1+1∉G1.all):=AQ ⟨ATh,AGE.out _ Ad Ad⟩;have hbl:=dD dst (BD fs)
  have hct:(EP dst (BD fs)).length=1+3*n+3:=by
   unfold EP;rw[Ig,Ig,Xn];simp only[gI,Oe,List.length_cons,List.length_nil];omega
  clear hab hwb J6 hL8 hst AOP AKm hst2 hown EU hnew hFb;go_wp2;refine AKl (G:=G1) (S:=S1) (B:=2*B+2) (b3:=b3) (b4:=b3+1) (b6:=b3+1+1) (m:=b3+1+1) (ts:=EP dst (BD fs)) wb _ (AQ (by intro c a d v w hd h;exact ARO hd h)) HFB HIC Ad Ad hct HO9 ATi HNA H3b H6b _ _ _ _ _ _ _ _ _ _ _ _ _ _ _ _ _ _ _ _ _ _ _ _ _ _ _ _ _ _ _ _ _ _ _ _ _ _ _ _ _ _ _ _ _ _ _ _ _ _ _ _ _ _ _ _ _ _ _ _ _ _ _ _ _ _ _ _ _ _ _ _ _ _ _ _ _ _ ?_ ?_
  ·refine AQ ?_;intro x12 x13 x66 x67 x68 x69 x70 x71 x72 x73 x74 x75 x76 x77 x78 x79 x80 x81 wr2 S2 hT hrun;have AGF:=H6b.out.1.Ak hT.Ak H6b.out.2;have d6:=AGF.cell 0;have y6:=AGF.frozen 0;simp only[GU] at d6;have HT:=AQ hT;have ATj:=AQ hrun;have AOQ:=AQ AGF;clear hT hrun AGF;go_wp2;refine leaves_cons (f:=39) (args:=#[.pointer (AA ⟨b3+1+1,0,AB⟩),.pointer (AA ⟨b3,0,AB⟩)]) AV (by simp[go_sem,ANa]) ?_;refine (AKf (AOQ.out.FK 0 _ |>.cell 0)).mono ?_;rintro e u' w5 ⟨rfl,rfl,rfl⟩;refine⟨_,qW rfl (AOQ.out.FK 0 _ |>.cell 0),?_⟩;(have hR:R=(S2,[]):=by rw[HR1.out,ATj.out];rfl);rw[hR];obtain⟨G2,g1,g2,g3,g4⟩:=HT.out;have hcb:AZ G.all w wb:=((WV.out.nil _).trans DI.out (λx hx=>.inl hx)).Ap HZB.out;have ATk:=HZB.out.size;have ACj: ∀x∈G1.all,x∈G.all\/w.heap.size<=x:=λx hx=>(HA1.out x hx).imp id (λh=>by omega)
   exact .tell (L:=[]) g1 (g2.trans qU.out) (λx hx=>by
    rcases g3 x hx with h|h
    ·exact ACj x h
    ·exact .inr Ad) (hcb.trans g4 ACj) rfl (λx hx=>by cases hx) (λx hx=>by cases hx) (λhm=>by
    rcases g3 _ hm with h|h;exact H6b.out.2 h
    have:=H6b.out.1.lt;omega) Ad
  refine AQ ?_;intro x65 x12 x13 x66 x67 x68 x69 x70 x71 x72 x73 x74 x75 x76 x77 x78 x79 x80 x81 wr2 S2 f hP2 hrun;obtain⟨G2,bb,v,g1,g2,g3,g4,g5,g6,g7,g8⟩:=hP2;have hIR:=HIC.out.runT (EP dst (BD fs));rw[hrun] at hIR;have hl6:=H6b.out.1.lt
  have ATl: ∀k,k<wb.heap.size->k∉G1.all->k∉G2.all:=λk hk hn hm=>by
   rcases g3 _ hm with h|h;exact hn h;omega
  have hc3:wr2.cell? ⟨b3,0,AB⟩=AA (PT G2):=by
   rw[show PT G2=PT G1 by unfold PT;rw[g2]]
   exact g4.cell H3b.out.1 (λhm=>by
    rcases BB.1 hm with h|h;simp only at h;omega
    exact H3b.out.2.1 h)
  (have hR:R=(S2.clean.1,f::Jm S2.clean.2):=by rw[HR1.out,hrun];rfl);have k1:=AKg (u:=.returning) g1 hIR Ad hc3 g5 g6 (ATl _ hl6 H6b.out.2) g7 Ad;refine leaves_cons (f:=39) (args:=#[.pointer (AA ⟨b3+1+1,0,AB⟩),.pointer (AA ⟨b3,0,AB⟩)]) AV (by simp[go_sem,ANa]) ?_;refine k1.mono ?_;rintro e u' w5 ⟨rfl,rfl,v5,G5,L5,e1,e2,e3,e4,e5,e6,e7⟩;refine⟨_,qW rfl e1,?_⟩;rw[hR];have hcb:AZ G.all w wb:=((WV.out.nil _).trans DI.out (λx hx=>.inl hx)).Ap HZB.out;have ATk:=HZB.out.size;have ATN:=g4.size;have ACj: ∀x∈G1.all,x∈G.all\/w.heap.size<=x:=λx hx=>(HA1.out x hx).imp id (λh=>by omega)
  have AOR: ∀x∈G2.all,x∈G.all\/w.heap.size<=x:=λx hx=>by
   rcases g3 x hx with h|h
   ·exact ACj x h
   exact .inr Ad
  refine⟨v5,G5,L5,rfl,e2,e3,e4.trans (g2.trans qU.out),λx hx=>?_,(hcb.trans g4 (λx hx=>?_)).trans e6 (λx hx=>?_),λx hx=>⟨?_,(e7 x hx).1⟩⟩
  ·rcases e5 x hx with h|h
   ·exact AOR x h
   exact .inr Ad
  ·rcases BB.1 hx with h|h;exact .inr Ad;exact ACj x h
  ·rcases BB.1 hx with h|h;exact .inr Ad;exact AOR x h
  rcases (e7 x hx).2 with h|h<;>omega
 have hx:(∃b,v1=.iface 140 (.pointer (AA ⟨b,0,AB⟩))):=by
  have:=qP.out;unfold Jm qH at this;simp only[BM hcd] at this;rcases this.qN AV with ⟨_,_,h⟩|⟨b,g,_,_,h⟩;(cases h);exact⟨b,h.1⟩
 obtain⟨b,rfl⟩:=hx;have HR1:Hid (R=(S1,Jm cd)):=AQ (by rw[HRX.out,BZ hcd]);clear hcd HRX;go_wp2;refine⟨_,qW rfl (TC.out.FK 0 _ |>.cell 0),?_⟩;rw[HR1.out];have hz:=HZ0.out;have hw:=HB3.out;have hsz:=DI.out.size;exact .tell GR.out qU.out (λx hx=>(HA1.out x hx).imp id (λh=>by omega)) (WV.out.nil _ |>.trans DI.out (λx hx=>.inl hx)) qP.out (λx hx=>⟨by have:=(HN1.out x hx).1;omega,(HN1.out x hx).2⟩) (λx hx=>by have:=(HN1.out x hx).1;omega) (AGE.out _ Ad Ad) Ad
end
open Go.Extern.Stop Go.Stop Go.Extern
theorem qX(t:Ag)(w:AL):(Tz (.iface 133 (.pointer (AA t)))).run Af w
  =.ok (.agg #[.pointer (AA ⟨1,133,AB⟩),.pointer (AA ⟨w.heap.size,0,AB⟩),.int .u64 150]) (w.alloc (.cells #[.pointer (AA t)] 133)):=by kernel_rfl
theorem ACk(a:Ag)(w:AL):(AAi (Ol "reflectlite.Value.Type" 0) (λt _ _ _=>kz t) #[.agg #[.pointer (AA ⟨1,133,AB⟩),.pointer (AA a),.int .u64 150]]).run Af w
  =.ok (.iface 199 (.agg #[.pointer (AA ⟨1,133,AB⟩)])) w:=by kernel_rfl
theorem qY(h:AP)(w:AL):(Go.method 392 199 (.agg #[h]) "Kind").run Af w=.ok (171,h) w:=by kernel_rfl
theorem ACl(w:AL):((lH λt=>(λa:Nat=>KU IntKind.u8 (a:Int))<$>Rtype.kind t) #[.pointer (AA ⟨1,133,AB⟩)]).run Af w=.ok (.int .u8 22) w:=by kernel_rfl
theorem AEs(w:AL):((lH λt=>(λa:Nat=>KU IntKind.u8 (a:Int))<$>Rtype.kind t) #[.pointer (AA ⟨1,51,AB⟩)]).run Af w=.ok (.int .u8 2) w:=by kernel_rfl
theorem rlm(z:Sem AP)(f:Aj->Ag->Nat->Nat->Sem AP)(v:AP):
  UB z f #[v]=(do match <- Vz v with|none=>z|some (t,a,fl)=>f t a fl (fl % 32)):=rfl
theorem dF(a:Ag)(w:AL):(Vz (.agg #[.pointer (AA ⟨1,133,AB⟩),.pointer (AA a),.int .u64 150])).run Af w=.ok (AA (133,a,150)) w:=by kernel_rfl
theorem AAP(a p:Ag)(W:AL)(ha:W.cell? a=AA (.pointer (AA p))):
  (UB (Ol "reflectlite.Value.IsNil" 0) Yd #[.agg #[.pointer (AA ⟨1,133,AB⟩),.pointer (AA a),.int .u64 150]]).run Af W=.ok (.bool false) W:=by
 rw[rlm];simp only[Eh,dF,P8];simp[Yd,loadVar,isAgg,underlying,AJu,ha,P8]
theorem qZ(h:AP)(w:AL):(Go.method 392 199 (.agg #[h]) "Elem").run Af w=.ok (192,.agg #[h]) w:=by kernel_rfl
theorem Xp(h:AP)(w:AL):(Go.method 392 199 (.agg #[h]) "Implements").run Af w=.ok (193,.agg #[h]) w:=by kernel_rfl
theorem Og(h:AP)(w:AL):(Go.method 392 199 (.agg #[h]) "AssignableTo").run Af w=.ok (190,.agg #[h]) w:=by kernel_rfl
theorem ACm(w:AL):(lC lD #[.agg #[.pointer (AA ⟨1,133,AB⟩)]]).run Af w=.ok (.iface 199 (.agg #[.pointer (AA ⟨1,51,AB⟩)])) w:=by kernel_rfl
theorem gK(w:AL):(P6 "Implements" lF #[.agg #[.pointer (AA ⟨1,51,AB⟩)],.iface 199 (.agg #[.pointer (AA ⟨1,39,AB⟩)])]).run Af w=.ok (.bool true) w:=by kernel_rfl
theorem AAQ(v:AP)(w:AL):(Vy #[.iface 51 v]).run Af w=.ok (.iface 199 (.agg #[.pointer (AA ⟨1,51,AB⟩)])) w:=by kernel_rfl
theorem uC(v:AP)(w:AL):(Vy #[.iface 140 v]).run Af w=.ok (.iface 199 (.agg #[.pointer (AA ⟨1,140,AB⟩)])) w:=by kernel_rfl
theorem uD(v:AP)(w:AL):(Vy #[.iface 150 v]).run Af w=.ok (.iface 199 (.agg #[.pointer (AA ⟨1,150,AB⟩)])) w:=by kernel_rfl
theorem gQ(w:AL):(P6 "AssignableTo" Tv #[.agg #[.pointer (AA ⟨1,51,AB⟩)],.iface 199 (.agg #[.pointer (AA ⟨1,51,AB⟩)])]).run Af w=.ok (.bool true) w:=by kernel_rfl
theorem dG(w:AL):(P6 "AssignableTo" Tv #[.agg #[.pointer (AA ⟨1,140,AB⟩)],.iface 199 (.agg #[.pointer (AA ⟨1,51,AB⟩)])]).run Af w=.ok (.bool false) w:=by kernel_rfl
theorem dH(w:AL):(P6 "AssignableTo" Tv #[.agg #[.pointer (AA ⟨1,150,AB⟩)],.iface 199 (.agg #[.pointer (AA ⟨1,51,AB⟩)])]).run Af w=.ok (.bool false) w:=by kernel_rfl
theorem uF(e:Int)(w:AL):(Tz (.iface 51 (.int .i64 e))).run Af w
  =.ok (.agg #[.pointer (AA ⟨1,51,AB⟩),.pointer (AA ⟨w.heap.size,0,AB⟩),.int .u64 130]) (w.alloc (.cells #[.int .i64 e] 51)):=by kernel_rfl
theorem uG(w:AL):(Rtype.elem? 133).run Af w=.ok (AA 51) w:=by kernel_rfl
theorem AKn(p:Ag)(w:AL):(ReflectliteValue.mk 51 p AAj).run Af w=.ok (.agg #[.pointer (AA ⟨1,51,AB⟩),.pointer (AA p),.int .u64 386]) w:=by kernel_rfl
theorem ACn(a p:Ag)(W:AL)(ha:W.cell? a=AA (.pointer (AA p))):
  (UB (Ol "reflectlite.Value.Elem" 0) Ye #[.agg #[.pointer (AA ⟨1,133,AB⟩),.pointer (AA a),.int .u64 150]]).run Af W
   =.ok (.agg #[.pointer (AA ⟨1,51,AB⟩),.pointer (AA p),.int .u64 386]) W:=by
 rw[rlm];simp only[Eh,dF,P8];simp[Ye,loadVar,isAgg,underlying,AJu,ha,P8,uG,AKn]
theorem rls(v x:AP):dK #[v,x]=(do
  let (AA (dst,a,fl),AA (src,b,_)):=(<- Vz v,<- Vz x)
   |unsupported (.noEntry "extern/(internal/reflectlite.Value).Set.zeroValue")
  if fl/AAj % 2==0 then unsupported (.noEntry "extern/(internal/reflectlite.Value).Set.unaddressable")
  let val <- loadVar src b
  if <- AAh dst src then storeVar dst a val
  else if <- Rtype.implements dst src then
   if (<- Rtype.kind src)==20 then
    match val with| .nilIface=>unsupported (.noEntry "extern/reflectlite: a nil value of one interface type handed on as a value of another")|_=>storeVar dst a val
   else storeVar dst a (.iface src val)
  else panicString ("reflectlite.Set: value of type " ++(<- Rtype.spelt src)++ " is not assignable to type " ++(<- Rtype.spelt dst))
  pure (.tuple #[])):=rfl
theorem AAR(a:Ag)(w:AL):(Vz (.agg #[.pointer (AA ⟨1,51,AB⟩),.pointer (AA a),.int .u64 386])).run Af w=.ok (AA (51,a,386)) w:=by kernel_rfl
theorem ACo(a:Ag)(w:AL):(Vz (.agg #[.pointer (AA ⟨1,51,AB⟩),.pointer (AA a),.int .u64 130])).run Af w=.ok (AA (51,a,130)) w:=by kernel_rfl
theorem AAS(w:AL):(AAh 51 51).run Af w=.ok true w:=by kernel_rfl
theorem AHd(ta b:Ag)(e:Int)(old:AP)(W:AL)(hb:W.cell? b=AA (.int .i64 e))(ht:W.cell? ta=AA old)(hf:W.frozen? ta=false):
  (dK #[.agg #[.pointer (AA ⟨1,51,AB⟩),.pointer (AA ta),.int .u64 386],.agg #[.pointer (AA ⟨1,51,AB⟩),.pointer (AA b),.int .u64 130]]).run Af W
   =.ok (.tuple #[]) (W.setCell ta (.int .i64 e)):=by
 rw[rls];simp only[Eh,AAR,ACo,P8];simp[AAj,loadVar,isAgg,underlying,AS1,hb,P8,AAS,storeVar,Value.cells,storeCells,Tt];rw[run_store Af W ta _ _ (by rfl)];simp[ht,hf]
section
variable {t:Ag}{f:J8}{b c d:Nat}{o o':Obj}{v x y:AP}{w:AL}
abbrev rvl (a:Ag):AP:=.agg #[.pointer (AA ⟨1,133,AB⟩),.pointer (AA a),.int .u64 150]
theorem AKo(v:AP)(xT:Aj)(w:AL):(J9 (.iface 140 v) xT 228 true).run Af w=.ok (.tuple #[.nilIface,.bool false]) w:=run_typeAssert_lacksB AJ0 Aq Aq v xT w
theorem AKp(v:AP)(xT:Aj)(w:AL):(J9 (.iface 150 v) xT 228 true).run Af w=.ok (.tuple #[.nilIface,.bool false]) w:=run_typeAssert_lacksB AJ0 Aq Aq v xT w
theorem ARP(v:AP)(xT:Aj)(w:AL):(J9 (.iface 140 v) xT 203 true).run Af w=.ok (.tuple #[.iface 140 v,.bool true]) w:=run_typeAssert_hasB AJz Aq v xT w
theorem AKq(v:AP)(xT:Aj)(w:AL):(J9 (.iface 150 v) xT 203 true).run Af w=.ok (.tuple #[.nilIface,.bool false]) w:=run_typeAssert_lacksB AJz Aq Aq v xT w
theorem ARQ(v:AP)(xT:Aj)(w:AL):(J9 (.iface 150 v) xT 205 true).run Af w=.ok (.tuple #[.iface 150 v,.bool true]) w:=run_typeAssert_hasB AQe Aq v xT w
theorem AMK(v:AP)(w:AL):(Go.method 392 140 v "Unwrap").run Af w=.ok (183,v) w:=by kernel_rfl
theorem AML(v:AP)(w:AL):(Go.method 392 150 v "Unwrap").run Af w=.ok (185,v) w:=by kernel_rfl
def wO (w:AL) (t:Ag) (c:Int) (ev:Fv) (w':AL):Prop:=ev=.returned (.bool true)/\w'.cell? t=AA (.int .i64 c)/\AZ [t.block] w w'
theorem jJ(h:w.cell? t=AA v):((w.alloc o).alloc o').cell? t=AA v:=
 (((AZ.refl [] w).alloc o).alloc o').cell h AV
theorem qc(h:w.cell? t=AA v)(hf:w.frozen? t=false):((w.alloc o).alloc o').frozen? t=false:=by
 have htl:t.block<w.heap.size:=by
  rcases Wj t.block w.heap.size with h'|h'
  ·exact h'
  simp[PU,Wi h'] at h
 rw[World.frozen?_alloc_old _ _ t (by simp;omega),World.frozen?_alloc_old _ _ t (aA htl)];exact hf
theorem AKr{c:Int}{ev:Fv}{old:AP}(he:ev=.returned (.bool true))(h:((w.alloc o).alloc o').cell? t=AA old):wO w t c ev (((w.alloc o).alloc o').setCell t (.int .i64 c)):=by
 refine⟨he,?_,?_⟩;exact World.cell?_setCell_same _ _ _ h;exact (((AZ.refl [t.block] w).alloc o).alloc o').setCell (.inl AV) _
theorem uH(h:w.cell? ⟨b,2,AB⟩=AA x):A7 Af 183 #[.pointer (AA ⟨b,0,AB⟩)] w λe w'=>e=.returned x/\w'=w:=by
 go_enter AJa,Tryz.ntmps183;go_wp2;go_ret;exact⟨rfl,rfl⟩
theorem AAT(hx:x=.iface 140 (.pointer (AA ⟨c,0,AB⟩)))(hy:y=.iface 140 (.pointer (AA ⟨d,0,AB⟩)))(h:Bl w b 152 #[x,y]):A7 Af 185 #[.pointer (AA ⟨b,0,AB⟩)] w λe w'=>∃A,e=.returned (.slice (AA A) 2 2)/\Rd w' 1 (AA A) 2 2 [x,y]/\AZ [] w w':=by
 subst hx;subst hy;have H0:Hid (∀w',AZ [] w w'->w'.cell? ⟨b,0,AB⟩=AA (.iface 140 (.pointer (AA ⟨c,0,AB⟩)))):=AQ λw' hc=>(h.Ak hc AV).cell 0;have H1:Hid (∀w',AZ [] w w'->w'.cell? ⟨b,1,AB⟩=AA (.iface 140 (.pointer (AA ⟨d,0,AB⟩)))):=AQ λw' hc=>(h.Ak hc AV).cell 1;go_enter AJb,Tryz.ntmps185;(go_wp2_with fail);refine Ei (S:=λw'=>AZ [] w w') Aq ((AZ.refl _ _).drew) (λhHeld=>?_);refine tk 0 ?_;refine tk 1 ?_;refine tk 2 ?_;refine GI 3 (λw' hSw=>H0.out _ hSw) ?_;refine tk 4 ?_;refine tk 5 ?_;refine tk 6 ?_;refine GI 7 (λw' hSw=>H1.out _ hSw) ?_;refine EW 8 λK hK=>?_;go_simp;refine hK.out _ _ (hHeld.alloc _) (λhHeld=>?_);(try simp only[BF,Bf]);clear hK K;refine tk 9 ?_;refine Ef Aq ?_ _;(try simp only[BF,Bf]);go_wp2;go_ret;exact⟨_,rfl,Own.rd (Own.jI _ 39 1 #[.iface 140 (.pointer (AA ⟨c,0,AB⟩)),.iface 140 (.pointer (AA ⟨d,0,AB⟩))] 2 _ _ rfl rfl Ar rfl),(AZ.refl [] w).drew.alloc _⟩
theorem jK(t a:Ag)(old:AP)(w:AL)(hv:Qr w b v f)(ha:w.cell? a=AA (.pointer (AA t)))(ht:w.cell? t=AA old)(hf:w.frozen? t=false):
  A7 Af 94 #[v,.iface 133 (.pointer (AA t)),rvl a,.iface 199 (.agg #[.pointer (AA ⟨1,51,AB⟩)])] w (wO w t f.cd):=by
 obtain⟨rfl,hb,_⟩:=hv;have hb2:=(hb.alloc (.cells #[.pointer (AA ⟨1,133,AB⟩),.pointer (AA a),.int .u64 150] 187)).cell 2;simp only[GU] at hb2;have h68:= @run_callFunc_extern Af 68 _ Vy ANT Aq Aq Aq Aq;have ATm:= @run_callFunc_extern Af 190 _ (P6 "AssignableTo" Tv) AJc Aq Aq Aq Aq;have AUn:= @run_callFunc_extern Af 126 _ (UB (Ol "reflectlite.Value.Elem" 0) Ye) AP9 Aq Aq Aq Aq;have h91:= @run_callFunc_extern Af 91 _ (λargs=>Tz (args.getD 0 (.tuple #[]))) ANU Aq Aq Aq Aq;have h127:= @run_callFunc_extern Af 127 _ dK AQA Aq Aq Aq Aq;have AUo:= @AQO;have tO:=AAQ;have tF:=uC;have mA:=Og;have a51:=gQ;have AUp:=dG;have n1:=AKo;have n2:=ARP;have mU:=AMK;have v51:=uF;have hal:(w.alloc (.cells #[.pointer (AA ⟨1,133,AB⟩),.pointer (AA a),.int .u64 150] 187)).cell? a=AA (.pointer (AA t)):=((AZ.refl [] w).alloc _).cell ha AV;have el:=ACn a t (w.alloc (.cells #[.pointer (AA ⟨1,133,AB⟩),.pointer (AA a),.int .u64 150] 187)) hal;have st:=AHd t ⟨w.heap.size+1,0,AB⟩ f.cd old ((w.alloc (.cells #[.pointer (AA ⟨1,133,AB⟩),.pointer (AA a),.int .u64 150] 187)).alloc (.cells #[.int .i64 f.cd] 51)) (by rw[World.cell?_alloc_at _ _ _ _ AV];rfl) (jJ ht) (qc ht hf);have HT:=AQ ht;clear hb ha ht hf;go_enter AJN,Tryz.ntmps94;go_wp2;refine wp_loop_rounds 2 ?_;rw[UF];(go_wp2_with (go_at_call 183;refine (uH hb2).mono ?_;rintro e w1 ⟨rfl,rfl⟩));rw[UF];go_wp2;go_ret;exact AKr rfl (jJ HT.out)
theorem AZ.qf{w':AL}{L:List Nat}(h:AZ L w w')(ht:w.cell? t=AA v)(hn:t.block∉L)(hf:w.frozen? t=false):w'.frozen? t=false:=by
 have htl:t.block<w.heap.size:=by
  rcases Wj t.block w.heap.size with h'|h'
  ·exact h'
  simp[PU,Wi h'] at ht
 have:=h.block t.block htl hn
 unfold World.frozen? at*
 rw[this];exact hf
theorem AEt{g:J8}(t a:Ag)(old:AP)(w:AL)(hb:Bl w b 152 #[x,y])(hx:Qr w c x f)(hy:Qr w d y g)(ha:w.cell? a=AA (.pointer (AA t)))(ht:w.cell? t=AA old)(hf:w.frozen? t=false):
  A7 Af 94 #[.iface 150 (.pointer (AA ⟨b,0,AB⟩)),.iface 133 (.pointer (AA t)),rvl a,.iface 199 (.agg #[.pointer (AA ⟨1,51,AB⟩)])] w (wO w t f.cd):=by
 have h68:= @run_callFunc_extern Af 68 _ Vy ANT Aq Aq Aq Aq;have ATm:= @run_callFunc_extern Af 190 _ (P6 "AssignableTo" Tv) AJc Aq Aq Aq Aq;have AUq:= @AQP;have q94:= @ANi;have tF:=uD;have mA:=Og;have AUr:=dH;have n1:=AKp;have n2:=AKq;have n3:=ARQ;have mU:=AML;have hx1:=hx.1;have hy1:=hy.1;have hw1:AZ [] w (w.alloc (.cells #[.pointer (AA ⟨1,133,AB⟩),.pointer (AA a),.int .u64 150] 187)):=(AZ.refl [] w).alloc _;have hk:=Bl.new w 187 #[.pointer (AA ⟨1,133,AB⟩),.pointer (AA a),.int .u64 150];have HU:=AQ (AAT hx1 hy1 (hb.Ak hw1 AV));have HX:=AQ hx;have HA:=AQ ha;have HT:=AQ ht;have HF:=AQ hf;have HW1:=AQ hw1;have HK:=AQ hk;have HX1:=AQ hx1;clear hb hx hy ha ht hf hw1 hk hx1 hy1;go_enter AJN,Tryz.ntmps94;go_wp2;refine wp_loop_rounds 1 ?_;rw[UF];(go_wp2_with fail);refine HU.out.mono ?_;rintro e w2 ⟨A,rfl,hrd,hc2⟩;have hk2:=HK.out.Ak hc2 AV;have k0:=hk2.cell 0;have k1:=hk2.cell 1;have k2:=hk2.cell 2;simp only[GU] at k0 k1 k2;obtain⟨ad,u,hA,hu,hcell⟩:=hrd.fC (k:=0) Ar;injection hA with hA;subst hA;simp at hu;subst hu;have HC2:=AQ (HW1.out.Ap hc2);rw[HX1.out] at hcell;(have hcell0:w2.cell? A=AA (.iface 140 (.pointer (AA ⟨c,0,AB⟩))):=by simpa[Tt] using hcell);clear hrd hc2 hk2 hcell;go_wp2;refine wp_loop_rounds 1 ?_;rw[UF];(go_wp2_with fail);have hcall:=jK t a old w2 (HX.out.Ak HC2.out AV) (HC2.out.cell HA.out AV) (HC2.out.cell HT.out AV) (HC2.out.qf HT.out AV HF.out);rw[HX1.out] at hcall;refine hcall.mono ?_;rintro e w3 ⟨rfl,h1,h2⟩;go_wp2;go_ret;exact⟨rfl,h1,(HC2.out.nil _).trans h2 (λx hx=>.inl hx)⟩
end
section
variable {f:J8}{gs:List J8}{L:List Nat}{v:AP}{w:AL}
def NZ (w:AL):Prop:=w.cell? ⟨0,0,AB⟩=AA (.iface 199 (.agg #[.pointer (AA ⟨1,39,AB⟩)]))
theorem wP{T:Aj}{x:AP}{c:Int}(t:Ag)(old:AP)(w:AL)(hg:NZ w)(ht:w.cell? t=AA old)(hf:w.frozen? t=false)
  (h94: ∀(a:Ag) (w':AL),AZ [] w w'->w'.cell? a=AA (.pointer (AA t))->A7 Af 94 #[.iface T x,.iface 133 (.pointer (AA t)),rvl a,.iface 199 (.agg #[.pointer (AA ⟨1,51,AB⟩)])] w' (wO w' t c)):
  A7 Af 60 #[.iface T x,.iface 133 (.pointer (AA t))] w (wO w t c):=by
 have h91:= @run_callFunc_extern Af 91 _ (λargs=>Tz (args.getD 0 (.tuple #[]))) ANU Aq Aq Aq Aq;have h92:= @run_callFunc_extern Af 92 _ (AAi (Ol "reflectlite.Value.Type" 0) (λt _ _ _=>kz t)) ASC Aq Aq Aq Aq;have h93:= @run_callFunc_extern Af 93 _ (UB (Ol "reflectlite.Value.IsNil" 0) Yd) ASD Aq Aq Aq Aq;have AUs:= @run_callFunc_extern Af 171 _ (lH λt=>do pure (.int .u8 (<- Rtype.kind t))) AQB Aq Aq Aq Aq;have AUt:= @run_callFunc_extern Af 192 _ (lC lD) AQC Aq Aq Aq Aq;have AUu:= @run_callFunc_extern Af 193 _ (P6 "Implements" lF) AQD Aq Aq Aq Aq;have q94:= @ANi;have f6:=qX;have f7:=ACk;have mK:=qY;have mE:=qZ;have mI:=Xp;have AUv:=ACl;have k51:=AEs;have AUw:=ACm;have i51:=gK;obtain⟨W,hW⟩: ∃W,(w.alloc (.cells #[.pointer (AA t)] 133)).alloc (.cells #[.pointer (AA ⟨1,133,AB⟩),.pointer (AA ⟨w.heap.size,0,AB⟩),.int .u64 150] 187)=W:=⟨_,rfl⟩;have hcW:AZ [] w W:=by rw[<- hW];exact ((AZ.refl [] w).alloc _).alloc _
 have hk:Bl W (w.heap.size+1) 187 #[.pointer (AA ⟨1,133,AB⟩),.pointer (AA ⟨w.heap.size,0,AB⟩),.int .u64 150]:=by
  rw[<- hW];have:=Bl.new (w.alloc (.cells #[.pointer (AA t)] 133)) 187 #[.pointer (AA ⟨1,133,AB⟩),.pointer (AA ⟨w.heap.size,0,AB⟩),.int .u64 150];simpa using this
 (have hka:Bl W w.heap.size 133 #[.pointer (AA t)]:=by rw[<- hW];exact (Bl.new w 133 #[.pointer (AA t)]).alloc _);have n8:=AAP ⟨w.heap.size,0,AB⟩ t W (hka.cell 0);have k0:=hk.cell 0;have k1:=hk.cell 1;have k2:=hk.cell 2;simp only[GU] at k0 k1 k2;have hg2:W.cell? ⟨0,0,AB⟩=AA (.iface 199 (.agg #[.pointer (AA ⟨1,39,AB⟩)])):=hcW.cell hg AV;have H94:=AQ (h94 ⟨w.heap.size,0,AB⟩ W hcW (hka.cell 0));have QT:=AQ hcW;clear hg ht hf h94 hcW hk hka;go_enter AM4,Tryz.ntmps60;(go_wp2_with fail);refine H94.out.mono ?_;rintro e w2 ⟨rfl,h1,h2⟩;go_wp2;go_ret;exact⟨rfl,h1,(QT.out.nil _).trans h2 (λx hx=>.inl hx)⟩
theorem JW.as_(h:JW w v L (f::gs)): ∃(T:Aj) (x:AP),v=.iface T x/\∀(t:Ag) (old:AP) (w0:AL),AZ [] w w0->NZ w0->w0.cell? t=AA old->w0.frozen? t=false->A7 Af 60 #[v,.iface 133 (.pointer (AA t))] w0 (wO w0 t f.cd):=by
 unfold JW at h;split at h
 ·rename_i h0;cases h0
 ·rename_i b f' h0;(cases h0);have h1:=h.1;subst h1;refine⟨140,_,rfl,λt old w0 hc hg ht hf=>wP t old w0 hg ht hf λa w' hc' ha=>?_⟩;exact jK t a old w' (h.Ak (hc.Ap hc') AV) ha (hc'.cell ht AV) (hc'.qf ht AV hf)
 ·rename_i b c d f' g h0;(cases h0);obtain⟨x,y,rfl,hb,hx,hy⟩:=h;refine⟨150,_,rfl,λt old w0 hc hg ht hf=>wP t old w0 hg ht hf λa w' hc' ha=>?_⟩;have hcc:=hc.Ap hc';exact AEt t a old w' (hb.Ak hcc AV) (hx.Ak hcc AV) (hy.Ak hcc AV) ha (hc'.cell ht AV) (hc'.qf ht AV hf)
 exact h.elim
theorem code_nil(w:AL):A7 Af 18 #[.nilIface] w λe w'=>e=.returned (.int .i64 0)/\w'=w:=by
 go_enter AJF,Tryz.ntmps18;go_wp2;go_ret;exact⟨rfl,rfl⟩
theorem wQ(h:JW w v L (f::gs))(hg:NZ w):A7 Af 18 #[v] w λe w'=>e=.returned (.int .i64 f.cd)/\AZ [] w w':=by
 obtain⟨T,x,rfl,ha⟩:=h.as_;obtain⟨W,hW⟩: ∃W,w.alloc (.cells #[.int .i64 0] 51)=W:=⟨_,rfl⟩;(have hcW:AZ [] w W:=by rw[<- hW];exact (AZ.refl [] w).alloc _);(have hk:Bl W w.heap.size 51 #[.int .i64 0]:=by rw[<- hW];exact .new _ _ _);have HA:=AQ (ha ⟨w.heap.size,0,AB⟩ (.int .i64 0) W hcW (hcW.cell hg AV) (hk.cell 0) (hk.frozen 0));have QT:=AQ hcW;have q60:= @ANf;clear h ha hg hcW hk;go_enter AJF,Tryz.ntmps18;(go_wp2_with fail);refine HA.out.mono ?_;rintro e w2 ⟨rfl,h1,h2⟩;go_wp2;go_ret;exact⟨rfl,(QT.out.trans h2 (λx hx=>by simp at hx;subst hx;exact .inr (Ba _)))⟩
theorem ACp(h:JW w v L (f::gs))(hg:NZ w):A7 Af 100 #[v] w λe w'=>e=.returned (.bool true)/\AZ [] w w':=by
 obtain⟨T,x,rfl,ha⟩:=h.as_;obtain⟨W,hW⟩: ∃W,w.alloc (.cells #[.int .i64 0] 51)=W:=⟨_,rfl⟩;(have hcW:AZ [] w W:=by rw[<- hW];exact (AZ.refl [] w).alloc _);(have hk:Bl W w.heap.size 51 #[.int .i64 0]:=by rw[<- hW];exact .new _ _ _);have HA:=AQ (ha ⟨w.heap.size,0,AB⟩ (.int .i64 0) W hcW (hcW.cell hg AV) (hk.cell 0) (hk.frozen 0));have QT:=AQ hcW;have q60:= @ANf;clear h ha hg hcW hk;go_enter AJO,Tryz.ntmps100;(go_wp2_with fail);refine HA.out.mono ?_;rintro e w2 ⟨rfl,h1,h2⟩;go_wp2;go_ret;exact⟨rfl,(QT.out.trans h2 (λx hx=>by simp at hx;subst hx;exact .inr (Ba _)))⟩
end
open Go.Conc Go.ChangeShapes Go.WideShapes Go.Deep Go.Joins
section
variable {apart:Bool}{C:Checked}{fn:Func}{f:FuncId}{laid:List (String×Dl Unit)}{conds:List PathCond}{c:OpenClaim}{s:OpenSpec}{os:Os}{p:Pinned}{W:AL}
theorem AHe:laidOutB Tryz.prog=true:=by kernel_rfl
theorem ARR:ownKnob Tryz.prog.godebug=AB:=by kernel_rfl
theorem ATn:Tryz.prog.globalNamed "errors.errorType" =AA 0:=by kernel_rfl
theorem ATo:(Tryz.prog.cutTypes.find? (·.1== "internal/reflectlite.rtype")).map (·.2)=AA 199:=by kernel_rfl
theorem AHf:((FZ Tryz.prog.types.size).filter λt=>Tryz.prog.rowNamed t [101,114,114,111,114])=[39]:=by kernel_rfl
theorem AHg(h:laidMetH Tryz.prog [("errors.errorType",Rows.laid_errors_errorType)] W):NZ W:=by
 have h':laidMet Tryz.prog [] W/\handlesMet Tryz.prog [("errors.errorType",Rows.laid_errors_errorType)] W:=h;obtain⟨name,u,ty,e1,e2,e3,e4,e5⟩:=h'.2 _ (CG.2 rfl);have en:name=[101,114,114,111,114]:=(EF e1).symm;subst en;obtain rfl:=EF (ATo.symm.trans e2);have hm:ty∈(FZ Tryz.prog.types.size).filter λt=>Tryz.prog.rowNamed t [101,114,114,111,114]:=xK.2 ⟨WZ.2 e3,e4⟩;rw[AHf] at hm;obtain rfl:=CG.1 hm;(have hh:typeHandle Tryz.prog 39=.pointer (AA ⟨1,39,AB⟩):=by kernel_rfl);rw[hh] at e5;exact (by simpa using World.var?_cell ATn e5 0:W.cell? ⟨0,0,AB⟩=AA (.iface 199 (.agg #[.pointer (AA ⟨1,39,AB⟩)])))
theorem AKs(h:W.ShapedOpen Tryz.prog):JH W 1:=by
 obtain⟨o,o0,h1,h2,h3⟩:=h.2 1 (by decide+kernel) (by decide+kernel);have h4:o=o0:=h3;subst h4;(have h5:(match (begin Tryz.prog (λ_ _=>0) default).world.heap[1]? with|some (.cells _ _ _)=>true|_=>false)=true:=by kernel_rfl);rw[h2] at h5
 cases o with|cells p t f=>exact⟨p,t,f,h1⟩|_=>cases h5
section
variable {H:Type} {enc:Aj×AP->H}
theorem witness_row{k:(H:Type)->List (Dl H)->Bool}(hk:s.cond=AA k)(w0:AL)(args:Array AP)(fuel:Nat)(hos:w0.os=os)
  (hv:(w0.forCall (λ_ _=>0) ⟨#[],args,[]⟩).variablesB C.prog=true)
  (hr:((w0.forCall (λ_ _=>0) ⟨#[],args,[]⟩).heap.toList.drop C.prog.globals.size).take ((begin C.prog (λ_ _=>0) default).world.heap.size - C.prog.globals.size)=
   (begin C.prog (λ_ _=>0) default).world.heap.toList.drop C.prog.globals.size)
  (hok:Input.okWideB C.prog (w0.forCall (λ_ _=>0) ⟨#[],args,[]⟩) f ⟨#[],args,[]⟩=true)
  {x:List (Dl H)×List (Dl H)×List MemPlace} (hx:DataW.whole enc C.prog (w0.forCall (λ_ _=>0) ⟨#[],args,[]⟩).memory fn.params.toList s.vars apart args.toList fuel=AA x)
  (hconds:conds.all (PathCond.test C.prog ⟨fn.params.toList,x.1,s.bare.plain.varTypes C.prog,x.2.1⟩)=true) (hkk:k H (x.1++x.2.1)=true)
  (hsz:s.bare.sizedB enc C.prog fn apart (w0.forCall (λ_ _=>0) ⟨#[],args,[]⟩).memory args fuel=true)
  (hl:laidMetH C.prog laid (w0.forCall (λ_ _=>0) ⟨#[],args,[]⟩).memory):
  ∃(w:AL) (tape:Tape) (i:Input),w.os=os/\(w.forCall tape i).Shaped C.prog/\i.vars=[]/\Input.okWide C.prog (w.forCall tape i) .any w.heap.size f i/\
   s.preRow enc C.prog fn conds apart laid (w.forCall tape i).memory i.args/\({}:Assume).holds C.prog (lone (BV C.prog f i.args .normal) [] (w.forCall tape i)):=
 ⟨w0,λ_ _=>0,⟨#[],args,[]⟩,hos,World.shaped_of_B hv hr,(Input.okWide_of_okWideB (base:=0) hok).1,(Input.okWide_of_okWideB hok).2,
  ⟨⟨(OpenSpec.pre_some hk conds apart _ _).2 ⟨x.1,x.2.1,x.2.2,DataW.Whole_of_whole hx,hconds,hkk⟩,hl⟩,sizedMet_of_sizedB hsz⟩,by
  have:({}:Assume)={modest:=false}:=rfl;rw[this];simp only[Assume.holds]
  exact⟨AV,AV,λ_=>Modest.zero,AV,AV⟩⟩
theorem jw{a:Assume}{k:(H:Type)->List (Dl H)->Bool}(hk:s.cond=AA k){F:Stop.Interp}{fresh handsOn again:Bool}
  (own:ownKnob C.prog.godebug=AB) (started:os.Started) (hfn:C.prog.funcs[f]? =AA fn)
  (witness: ∃(w:AL) (tape:Tape) (i:Input),w.os=os/\(w.forCall tape i).Shaped C.prog/\i.vars=[]/\Input.okWide C.prog (w.forCall tape i) .any w.heap.size f i/\
   s.preRow enc C.prog fn conds apart laid (w.forCall tape i).memory i.args/\a.holds C.prog (lone (BV C.prog f i.args .normal) [] (w.forCall tape i)))
  (runs: ∀(W:AL) (base:Nat) (args:Array AP) (ds gs:List (Dl H)) (before:List MemPlace),W.ShapedOpen C.prog->laidMetH C.prog laid W->
   (∀(j:Nat) t v,fn.params[j]? =AA t->args[j]? =AA v->Value.okWide C.prog W .any base t v)->
   DataW.Whole enc C.prog fn.params.toList s.vars apart W args.toList ds gs before->k H (ds++gs)=true->
   ∃M last o w' t',runNT C.prog (M+1) (solo (G (BV C.prog f args .normal) []) W) #[]=(.ended o w',t')/\runN C.prog M (solo (G (BV C.prog f args .normal) []) W)=.next last/\
    step C.prog last=.ended o w'/\Conc.Good C.prog (λv W'=>(s.at F).post enc C.prog fn apart fresh handsOn again W args v W') last o w' t'):
  ReturnsInLeavingWide a C os f .any (s.preRow enc C.prog fn conds apart laid) ((s.at F).post enc C.prog fn apart fresh handsOn again):=by
 refine returnsInLeavingWide_of_good own started witness ?_;intro w tape i _ hshape _ hok hpre _;obtain⟨_,_,_,fn',hfn',_,_,_,_,hval⟩:=hok;have e:fn'=fn:=EF (hfn'.symm.trans hfn);subst e;obtain⟨⟨hp1,hl⟩,_⟩:=hpre;obtain⟨ds,gs,before,hw,_,hkk⟩:=(OpenSpec.pre_some hk conds apart _ _).1 hp1;have hw':=DataW.Whole.of_heap (w':=w.forCall tape i) (by rfl) hw;obtain⟨M,last,o,w',t',h1,h2,h3,h4⟩:=runs (w.forCall tape i) w.heap.size i.args ds gs before hshape (hl.of_heap (by rfl)) hval hw' hkk;exact⟨M,last,o,w',t',h1,h2,h3,h4.mono λv hp=>ChangeSpec.post_blind hp⟩
end
noncomputable def AKt (os:Os):AL:=
 let w0:=World.holding Tryz.prog os ⟨#[],#[],[]⟩
 {w0 with heap:=w0.heap.modify 0 fun
   | .cells _ t frozen=>.cells #[.iface 199 (.agg #[.pointer (AA ⟨1,39,AB⟩)])] t frozen
   |o=>o}
theorem AEu(os:Os)(args:Array AP):laidMetH Tryz.prog [("errors.errorType",Rows.laid_errors_errorType)] ((AKt os).forCall (λ_ _=>0) ⟨#[],args,[]⟩).memory:=
 laidMetH_of_parts (laidMet_nil _ _) Aq
theorem Zn(f:FuncId)(fn:Func)
  (hn:c.program=p.name) (hs:c.sum=p.sum) (hsp:c.spec=s.name)
  (hstart:c.start=.entering) (hout:c.outside=[]) (hin:c.inits=[]) (hun:c.under=AB) (hi4:c.initsInPlace=[]/\c.initsUnfollowed=false/\c.initsRecurse=false/\c.initsNamed=[]/\c.initsPassed=[]) (hnb:c.noBlocks=false) (hlv:c.leaving=true) (hfo:c.followed=AB) (hnar:c.narrowed=s.cond.isSome) (hstill:c.still=false)
  (hfn:p.checked.prog.funcNamed c.func=AA f) (hf:p.checked.prog.funcs[f]? =AA fn)
  (closed:joinedFacts p.checked.prog f fn s.bare c=true)
  (hinst:fn.isInstance p.checked.prog c.origin c.targs) (hwrap:fn.isWrapper p.checked.prog c.wrapper c.mainSum)
  (h: ∀os:Os,os.Started->∀(H:Type) (enc:Aj×AP->H),(∀a b,enc a=enc b->a=b)->∀F:Stop.Interp,
   ReturnsInLeavingWide c.assume p.checked os f .any (s.preRow enc p.checked.prog fn c.domain c.apart c.laid) ((s.at F).post enc p.checked.prog fn c.apart c.fresh c.handsOn c.again)):c.holds p s:=by
 simp only[joinedFacts,DU,beq_iff_eq,Array.all_eq_true_iff_forall_mem,JC,decide_eq_true_eq] at closed;obtain⟨⟨⟨⟨⟨⟨⟨⟨⟨⟨⟨⟨⟨⟨⟨⟨⟨⟨⟨⟨⟨⟨⟨⟨⟨⟨⟨⟨⟨⟨⟨a1,a2⟩,a3⟩,a4⟩,a5⟩,a6⟩,a7⟩,a8⟩,a9⟩,b1⟩,b2⟩,b3⟩,b4⟩,b5⟩,b6⟩,b7⟩,b8⟩,b8'⟩,b9⟩,d1⟩,d2⟩,d3⟩,d4⟩,d5⟩,d5'⟩,d6⟩,d6'⟩,ATp⟩,d7⟩,d8⟩,d9⟩,d10⟩:=closed;(have quiet: ∀os:Os,Stop.quiet p.checked.prog os:=λos k hk=>by rw[a9] at hk;cases hk);(have fits:c.startFits p.checked.prog:=by unfold OpenClaim.startFits;rw[hstart];exact d6);(have told:c.startTold p.checked.prog:=by unfold OpenClaim.startTold;rw[hstart];exact⟨hin,hun,hi4⟩);(have tie:namedTie p.checked.prog c.namedList s.vars=true:=by unfold OpenClaim.namedList;rw[hfo];exact a5);have worded:p.checked.prog.envWorded=true:=by unfold Program.envWorded;rw[a9];rfl
 refine⟨a1,hn,hs,hsp,a2,a3,fits,told,f,fn,hfn,hf,⟨a4,d1⟩,(λhb=>by rw[hnb] at hb;cases hb),tie,hinst,hwrap,
  a6.trans a7.symm,⟨a8.trans a9.symm,worded,d5'⟩,b1,b2,b3,b4,b5,⟨b6,d9,d10⟩,⟨b7,d2⟩,⟨b8,d3,d7,d8⟩,⟨d4,d6',ATp,b8'⟩,?_,λn hn'=>varReadable_some (b9 n hn'),
  ⟨_,by unfold OpenClaim.world;rw[hout,hstart];exact WideRow.started_initial,quiet _⟩,[],by unfold OpenClaim.lists;rw[hfo],λos st _ H enc inj=>?_⟩
 ·rw[hout,hnar]
  cases hsh:c.shortTexts with|none=>simp|some _=>rw[hsh] at d5;cases d5
 (have st':os.Started:=by unfold OpenClaim.world at st;rw[hout,hstart] at st;exact st);rw[OpenClaim.post_not_still hstill];unfold OpenClaim.form;rw[hstart,a6];intro F;(have e1:c.okInput=Input.okWide:=by unfold OpenClaim.okInput;rw[hnb]);(have e2:c.atReturn p.checked.prog=leavingAtReturn p.checked.prog:=by unfold OpenClaim.atReturn;rw[hlv]);(have e3:c.always p.checked.prog []=nothingAlways:=by unfold OpenClaim.always;rw[hfo]);(have e4:s.post enc p.checked.prog fn F c.outside c.apart c.fresh c.handsOn c.again=(s.at F).post enc p.checked.prog fn c.apart c.fresh c.handsOn c.again:=by rw[hout];rfl);rw[e1,e2,e3];show ReturnsInOpen _ _ _ _ _ _ _ _ (s.post enc p.checked.prog fn F c.outside c.apart c.fresh c.handsOn c.again) _ _;rw[e4,OpenClaim.pre_eq_preRow];exact h os st' H enc inj F d6
theorem AEv(Lk:Looks)(kinds:List LaidKind)(tests:Bool)(har:Bool×String)(lk:Bool)
  (hc:c.holds p s) (hw:c.wfByText s=true) (htie:c.laidByTextAt Lk p kinds tests)
  (hst:c.start=.entering) (hnb:c.noBlocks=false/\c.again=false) (hm:p.checked.prog.mainIs=AA (har.1,har.2.toList)) (hn:(!har.1 && har.2.isEmpty && !lk)=false)
  (hl: ∀f fn,p.checked.prog.funcNamed c.func=AA f->p.checked.prog.funcs[f]? =AA fn->lk=p.checked.prog.looks []/\∀(j:Nat) t,fn.params[j]? =AA t->p.checked.prog.wantsStandIn t=false)
  (hg:true=c.goesBy p.checked.prog):
  Claim7.holds p (.plain s) {stood:={row:=c,standIns:=[],harness:=har,looks:=lk},kinds:=[],alts:=[],goes:=true,laidByText:=true,laidKinds:=kinds,laidTests:=tests,laidLooks:=Lk}:=by
 (have h6: ∀r:OpenClaim,Claim7.isSixth {stood:={row:=r,standIns:=[],harness:=har,looks:=lk},kinds:=[]}=false:=λr=>by simpa[Claim7.isSixth] using hn);exact⟨Claim7.tied_new_at Lk kinds tests (Claim7.new_of_sixth hc har lk hst hnb hm (h6 c) hl) hw,(λD hD=>by cases hD),htie,(λh=>by cases h),hg⟩
end
end Go.Proofs.YtkkgcebhfghdnaaGreatDoor.Vw
