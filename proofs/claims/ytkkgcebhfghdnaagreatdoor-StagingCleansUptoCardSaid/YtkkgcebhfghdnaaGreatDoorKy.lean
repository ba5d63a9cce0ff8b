/- Part 25 of what that rests on; no condition. -/
import Derived.Test.YtkkgcebhfghdnaaGreatDoorKx
import Derived.LaidEql
import Derived.LaidHandle
import Derived.LaidLaws
import Derived.RowKitTokens
import Derived.SevenTiedAt
import Derived.Stop.Asserts
import Derived.Test.YtkkgcebhfghdnaaGreatDoorCards
import Derived.Test.YtkkgcebhfghdnaaGreatDoorTie
set_option maxRecDepth 100000
set_option maxHeartbeats 8000000
namespace Go.Proofs.YtkkgcebhfghdnaaGreatDoor.Vw
open Go Go.RowKit
theorem Rd.at3{w:World}{A:Option Addr}{n c:Nat}{xs:List Value}(h:Rd w 3 A n c xs){k:Nat}(hk:k<n){a b d:Value}(h0:xs[k*3]? =some a)(h1:xs[k*3+1]? =some b)(h2:xs[k*3+2]? =some d):
  ∃ad,A=some ad/\w.cell? (ad.add (k*3))=some a/\w.cell? ⟨(ad.add (k*3)).block,(ad.add (k*3)).off+1,none⟩=some b/\w.cell? ⟨(ad.add (k*3)).block,(ad.add (k*3)).off+2,none⟩=some d:=by
 obtain⟨ad,rfl,_⟩:=h.some_ Ac;have hc:=(h.2.2.2.2 ad rfl).2;have e1:=hc _ _ h1;have e2:=hc _ _ h2;rw[lH] at e1 e2;exact⟨ad,rfl,hc _ _ h0,e1,e2⟩
def AL3 (wz wr:World) (G:Bg) (b6:Nat) (S1:St) (f:Kv):Prop:=
 ∃G' bb v,ED wr G' S1/\G'.b=G.b/\(∀x∈G'.all,x∈G.all\/wz.heap.size<=x)/\AZ (b6::G.all) wz wr/\Bo wr b6 39 #[v]/\QY wr bb v f/\bb∉G'.all/\wz.heap.size<=bb
theorem DI.from_{wz wr w2:World}{G G1:Bg}{S2:St}(h:DI wr G1 S2 w2)(hb:G1.b=G.b)(hA: ∀x∈G1.all,x∈G.all\/wz.heap.size<=x)(hc:AZ G.all wz wr):DI wz G S2 w2:=.trans hA hb hc h
theorem nS{wz wr w2:World}{G G1:Bg}{S2:St}{b6:Nat}{o:Obj}{v:Value}(h:DI wr G1 S2 w2)(hA: ∀x∈G1.all,x∈G.all\/wz.heap.size<=x)(hc:AZ G.all wz wr)(h6:Bo wz b6 39 #[v])(hn:b6∉G.all):Bo (w2.alloc o) b6 39 #[v]:=by
 have hn1:b6∉G1.all:=λhm=>by
  rcases hA _ hm with h|h;exact hn h;have:=h6.lt;omega
 exact ((h6.Am hc hn).Am h.Am hn1).alloc o
theorem AIk{wz wr w2:World}{G G1:Bg}{S2:St}{b6:Nat}{op:ByteArray}{pl cd:Int}{v:Value}(h:DI wr G1 S2 w2)(hb:G1.b=G.b)(hA: ∀x∈G1.all,x∈G.all\/wz.heap.size<=x)(hc:AZ G.all wz wr)(h6:Bo wz b6 39 #[v])(hn:b6∉G.all)(hcd:cd≠0):
  AL3 wz ((w2.alloc (.cells #[.string op,.int .i64 pl,.iface 51 (.int .i64 cd)] 142)).setCell ⟨b6,0,none⟩ (.iface 140 (.pointer (some ⟨w2.heap.size,0,none⟩)))) G b6 S2 ⟨op,pl,cd⟩:=by
 have hk:=nS (o:=.cells #[.string op,.int .i64 pl,.iface 51 (.int .i64 cd)] 142) h hA hc h6 hn;obtain⟨G2,h1,h2,h3,h4⟩:=h.from_ hb hA hc;have hal:AZ [] w2 (w2.alloc (.cells #[.string op,.int .i64 pl,.iface 51 (.int .i64 cd)] 142)):=(AZ.refl [] w2).alloc _;have hst: ∀u,AZ [b6] (w2.alloc (.cells #[.string op,.int .i64 pl,.iface 51 (.int .i64 cd)] 142)) ((w2.alloc (.cells #[.string op,.int .i64 pl,.iface 51 (.int .i64 cd)] 142)).setCell ⟨b6,0,none⟩ u):=λu=>(AZ.refl _ _).setCell (.inl AY) _;have hl6:=h6.lt;have hz:=h4.size
 have hn2:b6∉G2.all:=λhm=>by
  rcases h3 _ hm with h|h;exact hn h;omega
 refine⟨G2,w2.heap.size,_,(h1.CX hal).keep (hst _) (λx hx hm=>by simp at hm;subst hm;exact hn2 hx),h2,h3,?_,hk.Em 0 _,⟨rfl,(Bo.new w2 _ _).Am (hst _) (by simp;omega),hcd⟩,λhm=>by have:=h1.lt _ hm;omega,Ac⟩;exact ((h4.mono (λx hx=>.inl (Aj _ hx))).Aq hal).trans (hst _) (λx hx=>by simp at hx;subst hx;exact .inl AY)
theorem AIl{G:Bg}{S:St}{B b3 b4 b6 m:Nat}{A8:Option Addr}{n c8:Nat}{vs:List Value}{ts:List JP}{D:List Deferred}(wz:World)(Q0:Exit->Act->World->Prop)
  (AH5:Hid (∀c a d v w,6<d->Q0 (.panic c) (Act.put a (some d) v) w->Q0 (.panic c) a w))
  (HF:Hid (ED wz G S)) (HI:Hid (Inv B S)) (hB:B+JG ts<=1073741824) (hn:n<=1073741824) (hts:ts.length=n)
  (HO:Hid (Own wz 100 3 A8 n c8 vs)) (HS:Hid (NJ wz G b3 b4 m ts vs)) (HNA:Hid (∀x∈bo A8,x∉G.all)) (H3:Hid (wz.cell? ⟨b3,0,none⟩=some (Ov G)/\b3∉G.all/\b3<wz.heap.size)) (H6:Hid (Bo wz b6 39 #[.nilIface]/\b6∉G.all))
  (u0 u1 u2 u3 u4 u5 u7 u8 u9 u10 u11 u12 u13 u14 u15 u16 ZE ZF ZG u20 u21 u22 u23 u24 u25 u26 u27 u28 u29 u30 u31 u32 u33 u34 u35 u36 u37 u38 yO u40 yP u42 yQ u44 u45 u46 yR u48 u49 yS u51 ZH u53 ZI u55 aP aQ u58 u59 u60 u61 aS u66 u67 u68 u69 u70 u71 u72 u73 u74 u75 u76 u77 u78 u79 u80 u81:Value)
  (ADL:Hid (∀(v12 v13 v66 v67 v68 v69 v70 v71 v72 v73 v74 v75 v76 v77 v78 v79 v80 v81:Value) (wr:World) (S1:St),DI wz G S1 wr->S.runT ts=(S1,[])->Q0 (.exit 2) ⟨(List.toArray (u0::u1::u2::u3::u4::u5:: .pointer (some ⟨b6,0,none⟩)::u7::u8::u9::u10::u11::v12::v13::u14::u15::u16::ZE::ZF::ZG::u20::u21::u22::u23::u24::u25::u26::u27::u28::u29::u30::u31::u32::u33::u34::u35::u36::u37::u38::yO::u40::yP::u42::yQ::u44::u45::u46::yR::u48::u49::yS::u51::ZH::u53::ZI::u55::aP::aQ::u58::u59::u60::u61::aS:: .slice A8 n c8:: .int .i64 (n:Int):: .int .i64 (n:Int)::v66::v67::v68::v69::v70::v71::v72::v73::v74::v75::v76::v77::v78::v79::v80::v81::[])),D⟩ wr))
  (ARH:Hid (∀(v65 v12 v13 v66 v67 v68 v69 v70 v71 v72 v73 v74 v75 v76 v77 v78 v79 v80 v81:Value) (wr:World) (S1:St) (f:Kv),AL3 wz wr G b6 S1 f->S.runT ts=(S1,[f])->Q0 .ret ⟨(List.toArray (u0::u1::u2::u3::u4::u5:: .pointer (some ⟨b6,0,none⟩)::u7::u8::u9::u10::u11::v12::v13::u14::u15::u16::ZE::ZF::ZG::u20::u21::u22::u23::u24::u25::u26::u27::u28::u29::u30::u31::u32::u33::u34::u35::u36::u37::u38::yO::u40::yP::u42::yQ::u44::u45::u46::yR::u48::u49::yS::u51::ZH::u53::ZI::u55::aP::aQ::u58::u59::u60::u61::aS:: .slice A8 n c8:: .int .i64 (n:Int)::v65::v66::v67::v68::v69::v70::v71::v72::v73::v74::v75::v76::v77::v78::v79::v80::v81::[])),D⟩ wr)):
  Code.wp Ae (.loop (ABM 1)) Q0 ⟨(List.toArray (u0::u1::u2::u3::u4::u5:: .pointer (some ⟨b6,0,none⟩)::u7::u8::u9::u10::u11::u12::u13::u14::u15::u16::ZE::ZF::ZG::u20::u21::u22::u23::u24::u25::u26::u27::u28::u29::u30::u31::u32::u33::u34::u35::u36::u37::u38::yO::u40::yP::u42::yQ::u44::u45::u46::yR::u48::u49::yS::u51::ZH::u53::ZI::u55::aP::aQ::u58::u59::u60::u61::aS:: .slice A8 n c8:: .int .i64 (n:Int):: .int .i64 0::u66::u67::u68::u69::u70::u71::u72::u73::u74::u75::u76::u77::u78::u79::u80::u81::[])),D⟩ wz:=by
 have q1:= @AHg;have q2:= @AHf;have hst: ∀(a:Addr) (fn:Fn) (x y:Array Value) (m:Mode) (w:World),(store a (.func fn x y) m).run Ae w=stored Ae w a (.func fn x y) m:=λa fn x y m w=>run_store Ae w a _ m rfl
 conv=>arg 2;arg 1;whnf
 go_loopw [65] (λq wr=>∃(j:Nat) (S1:St),j<=n/\q=.int .i64 j/\DI wz G S1 wr/\Inv (B+JG (ts.take j)) S1/\S.runT ts=S1.runT (ts.drop j)) (λq _=>n - (intOf q).toNat)
 case atStart=>exact⟨0,S,BP _,rfl,.same HF.out (.refl _ _),HI.out.mono Ac,rfl⟩
 obtain⟨j,S1,hj,rfl,⟨G1,hF1,hG1,hA1,XH⟩,hI1,hE1⟩:=hrel;have Fp:=AQ hF1;have HA1:=AQ hA1;have DC:=AQ XH;have HI1:=AQ hI1;have nP:=AQ hE1;have nT:=AQ hG1;clear hF1 hA1 XH hI1 hE1 hG1;by_cases hlt:j<n
 ·(have hlt':(j:Int)<n:=by omega);obtain⟨t,ht⟩: ∃t,ts[j]? =some t:=⟨_,Af Ac⟩;obtain⟨f,hf,y0,y1,y2⟩:=HS.out.at_ ht;obtain⟨ad,rfl,z0,z1,z2⟩:=(HO.out.rd.Am DC.out HNA.out).at3 hlt y0 y1 y2;have HT:=AQ ht;obtain⟨W,hW⟩: ∃W,wr.alloc (.cells #[.string t.op,.int .i64 t.pl,f] 100)=W:=⟨_,rfl⟩;(have hcW:AZ [] wr W:=by rw[<- hW];exact (AZ.refl [] wr).alloc _);(have hbW:Bo W wr.heap.size 100 #[.string t.op,.int .i64 t.pl,f]:=by rw[<- hW];exact .new _ _ _);(have hnW:wr.heap.size∉G1.all:=λhm=>by have:=Fp.out.lt _ hm;omega);have HT0:Hid (∀w',AZ G1.all W w'->w'.cell? ⟨wr.heap.size,0,none⟩=some (.string t.op)):=AQ λw' hc=>(hbW.Am hc hnW).cell 0;have HT1:Hid (∀w',AZ G1.all W w'->w'.cell? ⟨wr.heap.size,1,none⟩=some (.int .i64 t.pl)):=AQ λw' hc=>(hbW.Am hc hnW).cell 1;have HT2:Hid (∀w',AZ G1.all W w'->w'.cell? ⟨wr.heap.size,2,none⟩=some f):=AQ λw' hc=>(hbW.Am hc hnW).cell 2;have hb1:=tq ht;have hb2:=nR ts (j+1);have hcd:AZ [] wr W.drew:=hcW.drew;obtain⟨id,bd,cp,rfl,hcf,hcall⟩:=hf.call (wr:=W.drew) (G1:=G1) (S:=S1) H3.out.1 H3.out.2.1 H3.out.2.2 (Fp.out.CX hcd) nT.out HA1.out (DC.out.Aq hcd) HI1.out Ac;have Tf:=AQ hcall;have Pz:=AQ hcW;clear hcall hbW hcW hb1 hb2 hcd hf y0 y1 y2 ht;(go_wp2_with fail);refine wp_region_held_drew (S:=λw'=>AZ G1.all W w') Ap ((AZ.refl _ _).drew) (λhHeld=>?_);refine tk 0 ?_;refine Gm 1 (λw' hSw=>HT0.out _ hSw) ?_;refine tk 2 ?_;refine Gm 3 (λw' hSw=>HT1.out _ hSw) ?_;refine tk 4 ?_;refine Gm 5 (λw' hSw=>HT2.out _ hSw) ?_;refine Ee 6 λK hK=>?_;go_simp;refine Tf.out.mono ?_;rintro e w2 ⟨rfl,hT⟩;have HI2:=AQ (HI1.out.act t.d);have HE2:=AQ (AIh (S:=S1) HT.out)
  generalize S1.act t.d=R at*
  obtain⟨S2,cd⟩:=R;have hcw:AZ G1.all W w2:=(AZ.refl _ W).drew.trans hT.Am (λx hx=>.inl hx);have HT9:=AQ (DI.before Pz.out.drew hT);have nU:=AQ hcw;clear hT;simp only[];refine hK.out _ _ (hcw) (λhHeld=>?_);(try simp only[Act.put,Be]);clear hK K;by_cases ZB:cd=0
  ·subst ZB;refine Ee 7 λK hK=>?_;go_simp;refine (Xj 0 _).mono ?_;rintro e w3 ⟨rfl,rfl⟩;go_simp;refine hK.out _ _ (nU.out) (λhHeld=>?_);(try simp only[Act.put,Be]);clear hK K;refine Ee 8 λK hK=>?_;go_simp;refine (wrap_nil _ _ _).mono ?_;rintro e w3 ⟨rfl,rfl⟩;go_simp;refine hK.out _ _ (nU.out) (λhHeld=>?_);(try simp only[Act.put,Be]);clear hK K;refine tk 9 ?_;refine wpAnyH_done Ap ?_ _;(try simp only[Act.put,Be]);go_wp2;go_roundw
   case rel=>exact⟨j+1,S2,Ac,by go_num,HT9.out.from_ nT.out HA1.out DC.out,HI2.out.mono (by have:=tq HT.out;omega),by rw[nP.out,HE2.out,if_pos rfl]⟩
   simp[intOf];omega
  have TE:=AQ ZB;(have e1:(cd==0)=false:=by simp[ZB]);have hb6:Bo (w2.alloc (.cells #[.string t.op,.int .i64 t.pl,.iface 51 (.int .i64 cd)] 142)) b6 39 #[.nilIface]:=nS HT9.out HA1.out DC.out H6.out.1 H6.out.2;have c6:=hb6.cell 0;have z6:=hb6.frozen 0;simp only[Fv] at c6;clear hb6 ZB;refine Ee 7 λK hK=>?_;go_simp;refine (Xj cd _).mono ?_;rintro e w3 ⟨rfl,rfl⟩;rw[if_neg TE.out];go_simp;refine hK.out _ _ (nU.out) (λhHeld=>?_);(try simp only[Act.put,Be]);clear hK K;refine Ee 8 λK hK=>?_;go_simp;refine (Xk _ _ _ _ _).mono ?_;rintro e w3 ⟨rfl,rfl⟩;go_simp;refine hK.out _ _ (nU.out.alloc _) (λhHeld=>?_);(try simp only[Act.put,Be]);clear hK K;refine tk 9 ?_;refine wpAnyH_done Ap ?_ _;(try simp only[Act.put,Be]);go_wp2;exact ARH.out _ _ _ _ _ _ _ _ _ _ _ _ _ _ _ _ _ _ _ _ S2 ⟨t.op,t.pl,cd⟩ (AIk HT9.out nT.out HA1.out DC.out H6.out.1 H6.out.2 TE.out) (by rw[nP.out,HE2.out,if_neg TE.out])
 (obtain rfl:j=n:=by omega);go_wp2;have h1:=nP.out;rw[Et Ac] at h1;exact ADL.out _ _ _ _ _ _ _ _ _ _ _ _ _ _ _ _ _ _ _ S1 ⟨G1,Fp.out,nT.out,HA1.out,DC.out⟩ h1
theorem Su.tell{w wr:World}{G:Bg}{S1:St}{b6:Nat}{G1:Bg}{v:Value}{L:List Nat}{fs:List Kv}(hF:ED wr G1 S1)(hb:G1.b=G.b)(hA: ∀x∈G1.all,x∈G.all\/w.heap.size<=x)(hc:AZ G.all w wr)(hE:JO wr v L fs)(hL: ∀x∈L,w.heap.size<=x/\x∉G1.all)(hL6: ∀x∈L,x≠b6)
  (hn:b6∉G1.all) (hl:w.heap.size<=b6):Su w G S1 fs (.returned v) (wr.setCell ⟨b6,0,none⟩ v):=by
 have hst:AZ [b6] wr (wr.setCell ⟨b6,0,none⟩ v):=(AZ.refl _ _).setCell (.inl AY) _;exact⟨v,G1,L,rfl,hE.Am hst (λx hx hm=>hL6 x hx (by simpa using hm)),hF.keep hst (λx hx hm=>by simp at hm;subst hm;exact hn hx),hb,hA,hc.trans hst (λx hx=>by simp at hx;subst hx;exact .inr hl),hL⟩
theorem nV{tm:Array Value}{b6:Nat}{w:World}{v:Value}(ht:tm[6]? =some (.pointer (some ⟨b6,0,none⟩)))(hc:w.cell? ⟨b6,0,none⟩=some v):(results Tryz.f14 tm).run Ae w=.ok v w:=by
 have h1:Tryz.f14.results= #[.cell 6 39]:=rfl;simp[results,h1,ht,asAddr,go_sem,hc]
theorem Tm{P:Program}{fn:Func}{t1 t2:Array Value}{R:Ending->World->Prop}(ht: ∀w,(results fn t1).run P w=(results fn t2).run P w): ∀(ds:List Deferred) (u:FrameMode) (w:World),Leaves P fn t1 R ds u w->Leaves P fn t2 R ds u w
 | [],.returning,w,h=>by obtain⟨v,h1,h2⟩:=h;exact⟨v,(ht w).symm.trans h1,h2⟩
 | [],.panicking _,_,h=>h| [],.run,_,h=>h
 |d::ds,u,w,h=>by
  obtain⟨h1,fv,cap,f,args,h2,h3,h4⟩:=h;refine⟨h1,fv,cap,f,args,h2,h3,h4.mono λe u' w' hh=>?_⟩
  cases e with|returned v=>exact Tm ht ds _ _ hh|panicked c=>exact Tm ht ds _ _ hh|outgrown=>exact hh
theorem AOv{R:Ending->World->Prop}{c:List PanicEntry}{a:Act}{d:Nat}{v:Value}{w:World}(hd:6<d)(h:bodyPostD Ae Tryz.f14 R (.panic c) (a.put (some d) v) w):bodyPostD Ae Tryz.f14 R (.panic c) a w:=by
 refine Tm (λw=>?_) _ _ _ h;have h1:Tryz.f14.results= #[.cell 6 39]:=rfl
 have h2:(a.put (some d) v).tmps.getD 6 undef=a.tmps.getD 6 undef:=by
  simp only[Act.put,Eb];rw[BO Ac]
 simp only[Eb] at h2;simp only[results,h1];simp[h2]
theorem JO.nil_{w:World}{v:Value}{L:List Nat}(h:JO w v L []):v=.nilIface:=by
 rcases h.nN AY with ⟨h,_⟩|⟨_,_,_,h,_⟩;exact h;cases h
theorem gV{w:World}{G:Bg}{S:St}{B:Nat}(h:ED w G S)(hi:Inv B S){dst:ByteArray}{A:Option Addr}{n c:Nat}{fs:List FM}(hf:Ff w A n c fs)(hdis: ∀x∈bo A++GZ fs,x∉G.all)
  (hlt: ∀x∈bo A++GZ fs,x<w.heap.size) (hby: ∀f∈fs,∀x∈f.2,0<=x/\x<=255) (hB:4*B+2*PN (BI fs)+100<=1073741824):
  Calls Ae 14 #[.pointer (some ⟨G.b,0,none⟩),.string dst,.slice A n c] w (Su w G (S.Ub dst (BI fs)).1 (S.Ub dst (BI fs)).2):=by
 have HF:=AQ h;have HI:=AQ hi;have HR:=AQ hf;have HD:=AQ hdis;have HBY:=AQ hby;have HLT:=AQ hlt;clear h hi hf hdis hby hlt;obtain⟨b3,hb3⟩: ∃b3,w.heap.size=b3:=⟨_,rfl⟩;obtain⟨W0,hW0⟩: ∃W0,((w.alloc (.cells #[.pointer (some ⟨G.b,0,none⟩)] 45)).alloc (.cells #[.string dst] 9)).alloc (.cells #[.nilIface] 39)=W0:=⟨_,rfl⟩;(have hc0:AZ [] w W0:=by rw[<- hW0];exact (((AZ.refl [] w).alloc _).alloc _).alloc _);have k3:Bo W0 b3 45 #[.pointer (some ⟨G.b,0,none⟩)]:=by rw[<- hW0,<- hb3];exact ((Bo.new w _ _).alloc _).alloc _
 have k4:Bo W0 (b3+1) 9 #[.string dst]:=by
  rw[<- hW0,<- hb3];have:=(Bo.new (w.alloc (.cells #[.pointer (some ⟨G.b,0,none⟩)] 45)) 9 #[.string dst]).alloc (.cells #[.nilIface] 39);simpa using this
 have k6:Bo W0 (b3+1+1) 39 #[.nilIface]:=by
  rw[<- hW0,<- hb3];have:=Bo.new ((w.alloc (.cells #[.pointer (some ⟨G.b,0,none⟩)] 45)).alloc (.cells #[.string dst] 9)) 39 #[.nilIface];simpa using this
 (have hz0:W0.heap.size=b3+1+1+1:=by rw[<- hW0,<- hb3];simp);have c3:=k3.cell 0;have c4:=k4.cell 0;have c6:=k6.cell 0;have z6:=k6.frozen 0;simp only[Fv] at c3 c4 c6;have q1:= @rZ;have q2:= @AHg;have q3:= @AHf;have q4:= @AD6;have Td:=AQ hc0;have HK3:=AQ k3;have HK4:=AQ k4;have HK6:=AQ k6;have HZ0:=AQ hz0;have HB3:=AQ hb3;(have XE:Hid (∀k,b3<=k->k∉G.all):=AQ λk hk hm=>by have:=HF.out.lt _ hm;omega);obtain⟨R,hRR⟩: ∃R,S.Ub dst (BI fs)=R:=⟨_,rfl⟩;have HRR:=AQ hRR;rw[hRR];clear hc0 k3 k4 k6 hz0 hRR;go_enter_defers AKM,Tryz.ntmps14;(go_wp2_with fail);refine (Q3 dst _).mono ?_;rintro e w1 ⟨rfl,rfl⟩;by_cases hg:DR dst=false
 ·have HR1:Hid (R=(S,[⟨{data:=#[112,97,116,104,115]},0,81⟩])):=AQ (by rw[<- HRR.out];unfold St.Ub;rw[if_pos (.inl hg)]);rw[hg]
  go_wp2_with (first
   |(go_at_call 38;refine (Xj 81 _).mono ?_;rintro e w3 ⟨rfl,rfl⟩)
   |(go_at_call 37;refine (Xk _ _ _ _ _).mono ?_;rintro e w3 ⟨rfl,rfl⟩;have hb6:=HK6.out.alloc (.cells #[.string {data:=#[112,97,116,104,115]},.int .i64 0,.iface 51 (.int .i64 81)] 142);have d6:=hb6.cell 0;have y6:=hb6.frozen 0;simp only[Fv] at d6))
  refine⟨_,nV rfl (hb6.Em 0 _ |>.cell 0),?_⟩;rw[HR1.out];have hal:=(AZ.refl [] w3).alloc (.cells #[.string {data:=#[112,97,116,104,115]},.int .i64 0,.iface 51 (.int .i64 81)] 142);have hz:=HZ0.out;have hw:=HB3.out;exact .tell (HF.out.CX (Td.out.Aq hal)) rfl (λ_ h=>.inl h) ((Td.out.Aq hal).nil _) (L:=[w3.heap.size]) ⟨rfl,.new _ _ _,Az⟩ (λx hx=>by simp at hx;subst hx;exact⟨Ac,XE.out _ Ac⟩) (λx hx=>by simp at hx;subst hx;omega) (XE.out _ Ac) Ac
 (have hg1:DR dst=true:=by simpa using hg);rw[hg1];by_cases hs:dst=CE
 ·have HR1:Hid (R=(S,[⟨{data:=#[112,97,116,104,115]},0,81⟩])):=AQ (by rw[<- HRR.out];unfold St.Ub;rw[if_pos (.inr hs)]);(have hst:(dst.toList==[46,115,116,97,103,101])=true:=by rw[show ([46,115,116,97,103,101]:List UInt8)=CE.toList by decide+kernel,<- UZ];exact decide_eq_true hs);clear hs
  go_wp2_with (first
   |(go_at_call 38;refine (Xj 81 _).mono ?_;rintro e w3 ⟨rfl,rfl⟩)
   |(go_at_call 37;refine (Xk _ _ _ _ _).mono ?_;rintro e w3 ⟨rfl,rfl⟩;have hb6:=HK6.out.alloc (.cells #[.string {data:=#[112,97,116,104,115]},.int .i64 0,.iface 51 (.int .i64 81)] 142);have d6:=hb6.cell 0;have y6:=hb6.frozen 0;simp only[Fv] at d6))
  refine⟨_,nV rfl (hb6.Em 0 _ |>.cell 0),?_⟩;rw[HR1.out];have hal:=(AZ.refl [] w3).alloc (.cells #[.string {data:=#[112,97,116,104,115]},.int .i64 0,.iface 51 (.int .i64 81)] 142);have hz:=HZ0.out;have hw:=HB3.out;exact .tell (HF.out.CX (Td.out.Aq hal)) rfl (λ_ h=>.inl h) ((Td.out.Aq hal).nil _) (L:=[w3.heap.size]) ⟨rfl,.new _ _ _,Az⟩ (λx hx=>by simp at hx;subst hx;exact⟨Ac,XE.out _ Ac⟩) (λx hx=>by simp at hx;subst hx;omega) (XE.out _ Ac) Ac
 have hst:(dst.toList==[46,115,116,97,103,101])=false:=by rw[show ([46,115,116,97,103,101]:List UInt8)=CE.toList by decide+kernel,<- UZ];exact decide_eq_false hs
 have HRX:Hid (R=if S.clean.2≠0 then (S.clean.1,Jr S.clean.2) else if (S.clean.1.runT (Fz dst (BI fs))).2=[] then S.clean.1.runT (Fz dst (BI fs)) else ((S.clean.1.runT (Fz dst (BI fs))).1.clean.1,(S.clean.1.runT (Fz dst (BI fs))).2++Jr (S.clean.1.runT (Fz dst (BI fs))).1.clean.2)):=AQ (by
  rw[<- HRR.out];unfold St.Ub;rw[if_neg (by rw[hg1];simp[hs])])
 have HIC:=AQ HI.out.clean;clear hs;(go_wp2_with fail);refine (Xl (HF.out.CX Td.out) HI.out Ac).mono ?_
 generalize S.clean=Z at*
 obtain⟨S1,cd⟩:=Z;rintro e w2 ⟨v1,G1,L1,rfl,hE1,hF1,hG1,hA1,XH,hN1⟩;have hb6:Bo w2 (b3+1+1) 39 #[.nilIface]:=HK6.out.Am XH (XE.out _ Ac);have d6:=hb6.cell 0;have y6:=hb6.frozen 0;have AL4:Bo w2 b3 45 #[.pointer (some ⟨G.b,0,none⟩)]:=HK3.out.Am XH (XE.out _ Ac);have hb4:Bo w2 (b3+1) 9 #[.string dst]:=HK4.out.Am XH (XE.out _ Ac)
 have AES: ∀k,b3<=k->k<b3+1+1+1->k∉G1.all:=λk h1 h2 hm=>by
  have hz:=HZ0.out;rcases hA1 k hm with h|h;exact XE.out k h1 h;omega
 have Rx:=AQ hb6;have nP:=AQ hE1;have Fp:=AQ hF1;have HA1:=AQ hA1;have DC:=AQ XH;have TF:=AQ hN1;have AEV:=AQ AES;have AL5:=AQ AL4;have HB4:=AQ hb4;have nT:=AQ hG1;simp only[Fv] at d6;clear hE1 hF1 hA1 XH hN1 hb6 AES AL4 hb4 hG1 c3 c4 c6 z6 hst;by_cases hcd:cd=0
 ·subst hcd;have hx:v1=.nilIface:=nP.out.nil_;subst hx;have HR1:Hid (R=if (S1.runT (Fz dst (BI fs))).2=[] then S1.runT (Fz dst (BI fs)) else ((S1.runT (Fz dst (BI fs))).1.clean.1,(S1.runT (Fz dst (BI fs))).2++Jr (S1.runT (Fz dst (BI fs))).1.clean.2)):=AQ (by rw[HRX.out,if_neg AY]);have hmf: ∀(fn:Fn) (first cap:Array Value) (w:World),(Instr.makeFunc fn first cap).run Ae w=.ok (.func fn first cap) w:=λ_ _ _ _=>rfl;clear HRX;obtain⟨wz,hwz⟩: ∃wz,w2.alloc (.cells #[.string {data:=#[109,107,100,105,114]},.int .i64 0,.func (.func 41) #[] #[.pointer (some ⟨b3,0,none⟩)]] 100)=wz:=⟨_,rfl⟩;(have hcz:AZ [] w2 wz:=by rw[<- hwz];exact (AZ.refl [] w2).alloc _);(have hoz:Own wz 100 3 (some ⟨w2.heap.size,0,none⟩) 1 1 [.string {data:=#[109,107,100,105,114]},.int .i64 0,.func (.func 41) #[] #[.pointer (some ⟨b3,0,none⟩)]]:=by rw[<- hwz];exact Own.lit w2 100 3 _ 1 Az rfl);(have hfl:(BI fs).length=n:=by have:=HR.out.row.OJ;simpa[Fe,BI] using this);have hfk:=AIi (BI fs);(have hsz:w2.heap.size+1=wz.heap.size:=by rw[<- hwz];simp);have ASH:w.heap.size<=w2.heap.size:=Ah Td.out.size DC.out.size;have ARn:=DC.out.size;have hz0:=HZ0.out;have ASI:=HB3.out;have HCZ:=AQ hcz;have HOZ:=AQ hoz;have hcw:AZ G.all w w2:=(Td.out.nil _).trans DC.out (λx hx=>.inl hx);have HM:Hid (∀x∈bo A++GZ fs,x<b3+1+1):=AQ λx hx=>by have:=HLT.out x hx;omega
  have HD1:Hid (∀x∈bo A++GZ fs,x∉G1.all):=AQ λx hx hm=>by
   rcases HA1.out x hm with h|h;exact HD.out x hx h;have:=HLT.out x hx;have:=Td.out.size;omega
  have AL6:Hid (∀x∈G1.all,x<w2.heap.size):=AQ Fp.out.lt;have HRZ:Hid (Ff w2 A n c fs):=AQ ⟨HR.out.row.Am hcw (λx hx=>HD.out x (AU.2 (.inl hx))),λf hf=>(HR.out.dat f hf).Am hcw (λx hx=>HD.out x (AU.2 (.inr (Bd.2 ⟨f,hf,hx⟩))))⟩;have HPZ:Hid (aG w2 wz G1 b3 (b3+1) (b3+1+1) fs (some ⟨w2.heap.size,0,none⟩) 1 [.string {data:=#[109,107,100,105,114]},.int .i64 0,.func (.func 41) #[] #[.pointer (some ⟨b3,0,none⟩)]] 0):=AQ ⟨hoz,.cons .Dn .nil,hcz,λx hx=>by simp at hx;omega⟩;clear hcz hoz hcw;go_wp2;refine AIj (G:=G1) (b3:=b3) (b4:=b3+1) (m:=b3+1+1) (fs:=fs) (A0:=some ⟨w2.heap.size,0,none⟩) (c0:=1) wz _ HRZ HM HD1 HBY Ac HPZ AL6 (AQ Ac) _ _ _ _ _ _ _ _ _ _ _ _ _ _ _ _ _ _ _ _ _ _ _ _ _ _ _ _ _ _ _ _ _ _ _ _ _ _ _ _ _ _ _ _ _ _ _ _ _ _ _ _ _ _ _ _ _ _ _ _ _ _ _ _ _ _ _ _ _ _ _ _ _ _ _ _ ?_;refine AQ ?_;rintro A8 c8 vs v9 v10 v35 v36 v37 v38 v39 v40 v41 v42 v43 v44 v45 v46 v47 v48 v49 v50 v51 wr hP;have HP:=AQ hP;have hrc:=hP.Am;have AL7:=AL5.out.Am hrc AY;have c3:=AL7.cell 0;simp only[Fv] at c3;have HRC:=AQ hrc;clear hP HPZ AL7 hrc;(go_wp2_with (at_builtin;refine Fq rfl _ _ rfl tu rfl (HP.out.AL1 ((AZ.refl [] wr).alloc _)) rfl (Own.aH _ 100 3 #[.string {data:=#[110,97,109,101,115]},.int .i64 0,.func (.func 50) #[.pointer (some ⟨G.b,0,none⟩)] #[],.string {data:=#[114,101,110,97,109,101]},.int .i64 0,.func (.func 51) #[] #[.pointer (some ⟨b3,0,none⟩),.pointer (some ⟨b3+1,0,none⟩)],.string {data:=#[115,97,102,101]},.int .i64 0,.func (.func 50) #[.pointer (some ⟨G.b,0,none⟩)] #[]] 3 _ _ rfl rfl Az rfl).rd (by simp[Value.oneCell']) (by unfold maxLen;omega) Ac ?_;intro A9 c9 wb hown EJ hnew _));have hab:AZ [] wr (wr.alloc (.cells #[.string {data:=#[110,97,109,101,115]},.int .i64 0,.func (.func 50) #[.pointer (some ⟨G.b,0,none⟩)] #[],.string {data:=#[114,101,110,97,109,101]},.int .i64 0,.func (.func 51) #[] #[.pointer (some ⟨b3,0,none⟩),.pointer (some ⟨b3+1,0,none⟩)],.string {data:=#[115,97,102,101]},.int .i64 0,.func (.func 50) #[.pointer (some ⟨G.b,0,none⟩)] #[]] 100)):=(AZ.refl [] wr).alloc _;have hwb:AZ (bo A8) wr wb:=(hab.nil _).trans EJ (λx hx=>.inl hx);have hzb:AZ [] w2 wb:=HRC.out.trans hwb (λx hx=>.inr (by have:=HP.out.new x hx;omega))
  have Jl: ∀x∈bo A9,w2.heap.size<=x:=λx hx=>by
   rcases hnew x hx with h|h;have:=HP.out.new x h;omega;have h1:=h.1;have h2:=HRC.out.size;simp at h1;omega
  have hL8: ∀x∈bo A8,b3+1+1<=x/\∃cs,Bo wr x 100 cs:=λx hx=>⟨by have:=HP.out.new x hx;omega,HP.out.own.AEU x hx⟩;have hst:=HP.out.stp.AET hwb hL8;have AL8:=HB4.out.Am hzb AY;have AIm:=AL5.out.Am hzb AY;have ARI:=Rx.out.Am hzb AY
  have hst2:NJ wb G1 b3 (b3+1) (b3+1+1) (Fz dst (BI fs)) (vs++(#[.string {data:=#[110,97,109,101,115]},.int .i64 0,.func (.func 50) #[.pointer (some ⟨G.b,0,none⟩)] #[],.string {data:=#[114,101,110,97,109,101]},.int .i64 0,.func (.func 51) #[] #[.pointer (some ⟨b3,0,none⟩),.pointer (some ⟨b3+1,0,none⟩)],.string {data:=#[115,97,102,101]},.int .i64 0,.func (.func 50) #[.pointer (some ⟨G.b,0,none⟩)] #[]]:Array Value).toList):=by
   have h1:(BI fs).take n=BI fs:=Bc Ac;rw[h1] at hst;unfold Fz;refine hst.append ?_;refine .cons ?_ (.cons ?_ (.cons ?_ .nil));rw[<- nT.out];exact .names;exact .rename _ (AL8.cell 0) (AEV.out _ Ac Ac) Ac;rw[<- nT.out];exact .names
  have HO9:=AQ hown;have ARJ:=AQ hst2;have HZB:=AQ hzb;have hFb:=Fp.out.CX hzb;have xU:=AQ hFb;(have HNA:Hid (∀x∈bo A9,x∉G1.all):=AQ λx hx hm=>by have:=Jl x hx;have:=AL6.out x hm;omega);have H3b:Hid (wb.cell? ⟨b3,0,none⟩=some (Ov G1)/\b3∉G1.all/\b3<wb.heap.size):=AQ ⟨by unfold Ov;rw[nT.out];exact AIm.cell 0,AEV.out _ Ac Ac,AIm.lt⟩;have TG:Hid (Bo wb (b3+1+1) 39 #[.nilIface]/\b3+1+1∉G1.all):=AQ ⟨ARI,AEV.out _ Ac Ac⟩;have hbl:=aF dst (BI fs)
  have hct:(Fz dst (BI fs)).length=1+3*n+3:=by
   unfold Fz;rw[DU,DU,XI];simp only[dG,xu,List.length_cons,List.length_nil];omega
  clear hab hwb Jl hL8 hst AL8 AIm hst2 hown EJ hnew hFb;go_wp2;refine AIl (G:=G1) (S:=S1) (B:=2*B+2) (b3:=b3) (b4:=b3+1) (b6:=b3+1+1) (m:=b3+1+1) (ts:=Fz dst (BI fs)) wb _ (AQ (by intro c a d v w hd h;exact AOv hd h)) xU HIC Ac Ac hct HO9 ARJ HNA H3b TG _ _ _ _ _ _ _ _ _ _ _ _ _ _ _ _ _ _ _ _ _ _ _ _ _ _ _ _ _ _ _ _ _ _ _ _ _ _ _ _ _ _ _ _ _ _ _ _ _ _ _ _ _ _ _ _ _ _ _ _ _ _ _ _ _ _ _ _ _ _ _ _ _ _ _ _ _ _ ?_ ?_
  ·refine AQ ?_;intro x12 x13 x66 x67 x68 x69 x70 x71 x72 x73 x74 x75 x76 x77 x78 x79 x80 x81 wr2 S2 hT hrun;have AEW:=TG.out.1.Am hT.Am TG.out.2;have d6:=AEW.cell 0;have y6:=AEW.frozen 0;simp only[Fv] at d6;have HT:=AQ hT;have ARK:=AQ hrun;have AL9:=AQ AEW;clear hT hrun AEW;go_wp2;refine leaves_cons (f:=39) (args:=#[.pointer (some ⟨b3+1+1,0,none⟩),.pointer (some ⟨b3,0,none⟩)]) AY (by simp[go_sem,ALI]) ?_;refine (AIf (AL9.out.Em 0 _ |>.cell 0)).mono ?_;rintro e u' w5 ⟨rfl,rfl,rfl⟩;refine⟨_,nV rfl (AL9.out.Em 0 _ |>.cell 0),?_⟩;(have hR:R=(S2,[]):=by rw[HR1.out,ARK.out];rfl);rw[hR];obtain⟨G2,g1,g2,g3,g4⟩:=HT.out;have hcb:AZ G.all w wb:=((Td.out.nil _).trans DC.out (λx hx=>.inl hx)).Aq HZB.out;have ARL:=HZB.out.size;have ABN: ∀x∈G1.all,x∈G.all\/w.heap.size<=x:=λx hx=>(HA1.out x hx).imp id (λh=>by omega)
   exact .tell (L:=[]) g1 (g2.trans nT.out) (λx hx=>by
    rcases g3 x hx with h|h
    ·exact ABN x h
    ·exact .inr Ac) (hcb.trans g4 ABN) rfl (λx hx=>by cases hx) (λx hx=>by cases hx) (λhm=>by
    rcases g3 _ hm with h|h;exact TG.out.2 h
    have:=TG.out.1.lt;omega) Ac
  refine AQ ?_;intro x65 x12 x13 x66 x67 x68 x69 x70 x71 x72 x73 x74 x75 x76 x77 x78 x79 x80 x81 wr2 S2 f hP2 hrun;obtain⟨G2,bb,v,g1,g2,g3,g4,g5,g6,g7,g8⟩:=hP2;have hIR:=HIC.out.runT (Fz dst (BI fs));rw[hrun] at hIR;have hl6:=TG.out.1.lt
  have ARN: ∀k,k<wb.heap.size->k∉G1.all->k∉G2.all:=λk hk hn hm=>by
   rcases g3 _ hm with h|h;exact hn h;omega
  have hc3:wr2.cell? ⟨b3,0,none⟩=some (Ov G2):=by
   rw[show Ov G2=Ov G1 by unfold Ov;rw[g2]]
   exact g4.cell H3b.out.1 (λhm=>by
    rcases AA.1 hm with h|h;simp only at h;omega
    exact H3b.out.2.1 h)
  (have hR:R=(S2.clean.1,f::Jr S2.clean.2):=by rw[HR1.out,hrun];rfl);have k1:=AIg (u:=.returning) g1 hIR Ac hc3 g5 g6 (ARN _ hl6 TG.out.2) g7 Ac;refine leaves_cons (f:=39) (args:=#[.pointer (some ⟨b3+1+1,0,none⟩),.pointer (some ⟨b3,0,none⟩)]) AY (by simp[go_sem,ALI]) ?_;refine k1.mono ?_;rintro e u' w5 ⟨rfl,rfl,v5,G5,L5,e1,e2,e3,e4,e5,e6,e7⟩;refine⟨_,nV rfl e1,?_⟩;rw[hR];have hcb:AZ G.all w wb:=((Td.out.nil _).trans DC.out (λx hx=>.inl hx)).Aq HZB.out;have ARL:=HZB.out.size;have AQw:=g4.size;have ABN: ∀x∈G1.all,x∈G.all\/w.heap.size<=x:=λx hx=>(HA1.out x hx).imp id (λh=>by omega)
  have AMA: ∀x∈G2.all,x∈G.all\/w.heap.size<=x:=λx hx=>by
   rcases g3 x hx with h|h
   ·exact ABN x h
   exact .inr Ac
  refine⟨v5,G5,L5,rfl,e2,e3,e4.trans (g2.trans nT.out),λx hx=>?_,(hcb.trans g4 (λx hx=>?_)).trans e6 (λx hx=>?_),λx hx=>⟨?_,(e7 x hx).1⟩⟩
  ·rcases e5 x hx with h|h
   ·exact AMA x h
   exact .inr Ac
  ·rcases AA.1 hx with h|h;exact .inr Ac;exact ABN x h
  ·rcases AA.1 hx with h|h;exact .inr Ac;exact AMA x h
  rcases (e7 x hx).2 with h|h<;>omega
 have hx:(∃b,v1=.iface 140 (.pointer (some ⟨b,0,none⟩))):=by
  have:=nP.out;unfold Jr ABH at this;simp only[if_neg hcd] at this;rcases this.nN AY with ⟨_,_,h⟩|⟨b,g,_,_,h⟩;(cases h);exact⟨b,h.1⟩
 obtain⟨b,rfl⟩:=hx;have HR1:Hid (R=(S1,Jr cd)):=AQ (by rw[HRX.out,if_pos hcd]);clear hcd HRX;go_wp2;refine⟨_,nV rfl (Rx.out.Em 0 _ |>.cell 0),?_⟩;rw[HR1.out];have hz:=HZ0.out;have hw:=HB3.out;have hsz:=DC.out.size;exact .tell Fp.out nT.out (λx hx=>(HA1.out x hx).imp id (λh=>by omega)) (Td.out.nil _ |>.trans DC.out (λx hx=>.inl hx)) nP.out (λx hx=>⟨by have:=(TF.out x hx).1;omega,(TF.out x hx).2⟩) (λx hx=>by have:=(TF.out x hx).1;omega) (AEV.out _ Ac Ac) Ac
open Go.Extern.Stop Go.Stop Go.Extern
theorem nX(t:Addr)(w:World):(ReflectliteValue.unpack (.iface 133 (.pointer (some t)))).run Ae w
  =.ok (.agg #[.pointer (some ⟨1,133,none⟩),.pointer (some ⟨w.heap.size,0,none⟩),.int .u64 150]) (w.alloc (.cells #[.pointer (some t)] 133)):=by kernel_rfl
theorem ABO(a:Addr)(w:World):(ReflectliteValue.methodAny (ReflectliteValue.valueError "reflectlite.Value.Type" 0) (λt _ _ _=>ReflectliteType.toType t) #[.agg #[.pointer (some ⟨1,133,none⟩),.pointer (some a),.int .u64 150]]).run Ae w
  =.ok (.iface 199 (.agg #[.pointer (some ⟨1,133,none⟩)])) w:=by kernel_rfl
theorem nY(h:Value)(w:World):(Go.method 392 199 (.agg #[h]) "Kind").run Ae w=.ok (171,h) w:=by kernel_rfl
theorem ABP(w:World):((ReflectliteType.abiMethod λt=>(λa:Nat=>Value.int IntKind.u8 (a:Int))<$>Rtype.kind t) #[.pointer (some ⟨1,133,none⟩)]).run Ae w=.ok (.int .u8 22) w:=by kernel_rfl
theorem ADM(w:World):((ReflectliteType.abiMethod λt=>(λa:Nat=>Value.int IntKind.u8 (a:Int))<$>Rtype.kind t) #[.pointer (some ⟨1,51,none⟩)]).run Ae w=.ok (.int .u8 2) w:=by kernel_rfl
theorem rlm(z:Sem Value)(f:TypeId->Addr->Nat->Nat->Sem Value)(v:Value):
  ReflectliteValue.method z f #[v]=(do match <- ReflectliteValue.parts v with|none=>z|some (t,a,fl)=>f t a fl (fl % 32)):=rfl
theorem aI(a:Addr)(w:World):(ReflectliteValue.parts (.agg #[.pointer (some ⟨1,133,none⟩),.pointer (some a),.int .u64 150])).run Ae w=.ok (some (133,a,150)) w:=by kernel_rfl
theorem xw(a p:Addr)(W:World)(ha:W.cell? a=some (.pointer (some p))):
  (ReflectliteValue.method (ReflectliteValue.valueError "reflectlite.Value.IsNil" 0) ReflectliteValue.isNil #[.agg #[.pointer (some ⟨1,133,none⟩),.pointer (some a),.int .u64 150]]).run Ae W=.ok (.bool false) W:=by
 rw[rlm];simp only[Sem.run_bind,aI,Result.andThen];simp[ReflectliteValue.isNil,loadVar,isAgg,underlying,AHu,ha,Result.andThen]
theorem nZ(h:Value)(w:World):(Go.method 392 199 (.agg #[h]) "Elem").run Ae w=.ok (192,.agg #[h]) w:=by kernel_rfl
theorem XJ(h:Value)(w:World):(Go.method 392 199 (.agg #[h]) "Implements").run Ae w=.ok (193,.agg #[h]) w:=by kernel_rfl
theorem Nz(h:Value)(w:World):(Go.method 392 199 (.agg #[h]) "AssignableTo").run Ae w=.ok (190,.agg #[h]) w:=by kernel_rfl
theorem ABQ(w:World):(ReflectliteType.method ReflectliteType.elem #[.agg #[.pointer (some ⟨1,133,none⟩)]]).run Ae w=.ok (.iface 199 (.agg #[.pointer (some ⟨1,51,none⟩)])) w:=by kernel_rfl
theorem dI(w:World):(ReflectliteType.relation "Implements" ReflectliteType.implements_ #[.agg #[.pointer (some ⟨1,51,none⟩)],.iface 199 (.agg #[.pointer (some ⟨1,39,none⟩)])]).run Ae w=.ok (.bool true) w:=by kernel_rfl
theorem xy(v:Value)(w:World):(ReflectliteType.typeOf #[.iface 51 v]).run Ae w=.ok (.iface 199 (.agg #[.pointer (some ⟨1,51,none⟩)])) w:=by kernel_rfl
theorem qM(v:Value)(w:World):(ReflectliteType.typeOf #[.iface 140 v]).run Ae w=.ok (.iface 199 (.agg #[.pointer (some ⟨1,140,none⟩)])) w:=by kernel_rfl
theorem qN(v:Value)(w:World):(ReflectliteType.typeOf #[.iface 150 v]).run Ae w=.ok (.iface 199 (.agg #[.pointer (some ⟨1,150,none⟩)])) w:=by kernel_rfl
theorem dJ(w:World):(ReflectliteType.relation "AssignableTo" ReflectliteType.assignableTo #[.agg #[.pointer (some ⟨1,51,none⟩)],.iface 199 (.agg #[.pointer (some ⟨1,51,none⟩)])]).run Ae w=.ok (.bool true) w:=by kernel_rfl
theorem aJ(w:World):(ReflectliteType.relation "AssignableTo" ReflectliteType.assignableTo #[.agg #[.pointer (some ⟨1,140,none⟩)],.iface 199 (.agg #[.pointer (some ⟨1,51,none⟩)])]).run Ae w=.ok (.bool false) w:=by kernel_rfl
theorem aK(w:World):(ReflectliteType.relation "AssignableTo" ReflectliteType.assignableTo #[.agg #[.pointer (some ⟨1,150,none⟩)],.iface 199 (.agg #[.pointer (some ⟨1,51,none⟩)])]).run Ae w=.ok (.bool false) w:=by kernel_rfl
theorem qO(e:Int)(w:World):(ReflectliteValue.unpack (.iface 51 (.int .i64 e))).run Ae w
  =.ok (.agg #[.pointer (some ⟨1,51,none⟩),.pointer (some ⟨w.heap.size,0,none⟩),.int .u64 130]) (w.alloc (.cells #[.int .i64 e] 51)):=by kernel_rfl
theorem qP(w:World):(Rtype.elem? 133).run Ae w=.ok (some 51) w:=by kernel_rfl
theorem AIn(p:Addr)(w:World):(ReflectliteValue.mk 51 p ReflectliteValue.flagAddr).run Ae w=.ok (.agg #[.pointer (some ⟨1,51,none⟩),.pointer (some p),.int .u64 386]) w:=by kernel_rfl
theorem ABR(a p:Addr)(W:World)(ha:W.cell? a=some (.pointer (some p))):
  (ReflectliteValue.method (ReflectliteValue.valueError "reflectlite.Value.Elem" 0) ReflectliteValue.elem #[.agg #[.pointer (some ⟨1,133,none⟩),.pointer (some a),.int .u64 150]]).run Ae W
   =.ok (.agg #[.pointer (some ⟨1,51,none⟩),.pointer (some p),.int .u64 386]) W:=by
 rw[rlm];simp only[Sem.run_bind,aI,Result.andThen];simp[ReflectliteValue.elem,loadVar,isAgg,underlying,AHu,ha,Result.andThen,qP,AIn]
theorem rls(v x:Value):ReflectliteValue.set #[v,x]=(do
  let (some (dst,a,fl),some (src,b,_)):=(<- ReflectliteValue.parts v,<- ReflectliteValue.parts x)
   |unsupported (.noEntry "extern/(internal/reflectlite.Value).Set.zeroValue")
  if fl/ReflectliteValue.flagAddr % 2==0 then unsupported (.noEntry "extern/(internal/reflectlite.Value).Set.unaddressable")
  let val <- loadVar src b
  if <- Rtype.directlyAssignable dst src then storeVar dst a val
  else if <- Rtype.implements dst src then
   if (<- Rtype.kind src)==20 then
    match val with| .nilIface=>unsupported (.noEntry "extern/reflectlite: a nil value of one interface type handed on as a value of another")|_=>storeVar dst a val
   else storeVar dst a (.iface src val)
  else panicString ("reflectlite.Set: value of type " ++(<- Rtype.spelt src)++ " is not assignable to type " ++(<- Rtype.spelt dst))
  pure (.tuple #[])):=rfl
theorem x8(a:Addr)(w:World):(ReflectliteValue.parts (.agg #[.pointer (some ⟨1,51,none⟩),.pointer (some a),.int .u64 386])).run Ae w=.ok (some (51,a,386)) w:=by kernel_rfl
theorem ABS(a:Addr)(w:World):(ReflectliteValue.parts (.agg #[.pointer (some ⟨1,51,none⟩),.pointer (some a),.int .u64 130])).run Ae w=.ok (some (51,a,130)) w:=by kernel_rfl
theorem x9(w:World):(Rtype.directlyAssignable 51 51).run Ae w=.ok true w:=by kernel_rfl
theorem AFv(ta b:Addr)(e:Int)(old:Value)(W:World)(hb:W.cell? b=some (.int .i64 e))(ht:W.cell? ta=some old)(hf:W.frozen? ta=false):
  (ReflectliteValue.set #[.agg #[.pointer (some ⟨1,51,none⟩),.pointer (some ta),.int .u64 386],.agg #[.pointer (some ⟨1,51,none⟩),.pointer (some b),.int .u64 130]]).run Ae W
   =.ok (.tuple #[]) (W.setCell ta (.int .i64 e)):=by
 rw[rls];simp only[Sem.run_bind,x8,ABS,Result.andThen];simp[ReflectliteValue.flagAddr,loadVar,isAgg,underlying,AQa,hb,Result.andThen,x9,storeVar,Value.cells,storeCells,Addr.add];rw[run_store Ae W ta _ _ (by rfl)];simp[ht,hf]
abbrev rvl (a:Addr):Value:=.agg #[.pointer (some ⟨1,133,none⟩),.pointer (some a),.int .u64 150]
theorem AIo(v:Value)(xT:TypeId)(w:World):(Instr.typeAssert (.iface 140 v) xT 228 true).run Ae w=.ok (.tuple #[.nilIface,.bool false]) w:=run_typeAssert_lacksB AH0 Ap Ap v xT w
theorem AIp(v:Value)(xT:TypeId)(w:World):(Instr.typeAssert (.iface 150 v) xT 228 true).run Ae w=.ok (.tuple #[.nilIface,.bool false]) w:=run_typeAssert_lacksB AH0 Ap Ap v xT w
theorem AOw(v:Value)(xT:TypeId)(w:World):(Instr.typeAssert (.iface 140 v) xT 203 true).run Ae w=.ok (.tuple #[.iface 140 v,.bool true]) w:=run_typeAssert_hasB AHz Ap v xT w
theorem AIq(v:Value)(xT:TypeId)(w:World):(Instr.typeAssert (.iface 150 v) xT 203 true).run Ae w=.ok (.tuple #[.nilIface,.bool false]) w:=run_typeAssert_lacksB AHz Ap Ap v xT w
theorem AOx(v:Value)(xT:TypeId)(w:World):(Instr.typeAssert (.iface 150 v) xT 205 true).run Ae w=.ok (.tuple #[.iface 150 v,.bool true]) w:=run_typeAssert_hasB AOD Ap v xT w
theorem AJ4(v:Value)(w:World):(Go.method 392 140 v "Unwrap").run Ae w=.ok (183,v) w:=by kernel_rfl
theorem AJ5(v:Value)(w:World):(Go.method 392 150 v "Unwrap").run Ae w=.ok (185,v) w:=by kernel_rfl
def uA (w:World) (t:Addr) (c:Int) (ev:Ending) (w':World):Prop:=ev=.returned (.bool true)/\w'.cell? t=some (.int .i64 c)/\AZ [t.block] w w'
theorem gW{w:World}{o o':Obj}{t:Addr}{v:Value}(h:w.cell? t=some v):((w.alloc o).alloc o').cell? t=some v:=
 (((AZ.refl [] w).alloc o).alloc o').cell h AY
theorem ng{w:World}{o o':Obj}{t:Addr}{v:Value}(h:w.cell? t=some v)(hf:w.frozen? t=false):((w.alloc o).alloc o').frozen? t=false:=by
 have htl:t.block<w.heap.size:=by
  rcases Gg t.block w.heap.size with h'|h'
  ·exact h'
  simp[World.cell?,GI h'] at h
 rw[World.frozen?_alloc_old _ _ t (by simp;omega),World.frozen?_alloc_old _ _ t (Ik htl)];exact hf
theorem AIr{w:World}{t:Addr}{c:Int}{o o':Obj}{ev:Ending}{old:Value}(he:ev=.returned (.bool true))(h:((w.alloc o).alloc o').cell? t=some old):uA w t c ev (((w.alloc o).alloc o').setCell t (.int .i64 c)):=by
 refine⟨he,?_,?_⟩;exact World.cell?_setCell_same _ _ _ h;exact (((AZ.refl [t.block] w).alloc o).alloc o').setCell (.inl AY) _
theorem qQ{w:World}{b:Nat}{x:Value}(h:w.cell? ⟨b,2,none⟩=some x):Calls Ae 183 #[.pointer (some ⟨b,0,none⟩)] w λe w'=>e=.returned x/\w'=w:=by
 go_enter AHc,Tryz.ntmps183;go_wp2;go_ret;exact⟨rfl,rfl⟩
theorem yA{w:World}{b c d:Nat}{x y:Value}(hx:x=.iface 140 (.pointer (some ⟨c,0,none⟩)))(hy:y=.iface 140 (.pointer (some ⟨d,0,none⟩)))(h:Bo w b 152 #[x,y]):Calls Ae 185 #[.pointer (some ⟨b,0,none⟩)] w λe w'=>∃A,e=.returned (.slice (some A) 2 2)/\Rd w' 1 (some A) 2 2 [x,y]/\AZ [] w w':=by
 subst hx;subst hy;have H0:Hid (∀w',AZ [] w w'->w'.cell? ⟨b,0,none⟩=some (.iface 140 (.pointer (some ⟨c,0,none⟩)))):=AQ λw' hc=>(h.Am hc AY).cell 0;have H1:Hid (∀w',AZ [] w w'->w'.cell? ⟨b,1,none⟩=some (.iface 140 (.pointer (some ⟨d,0,none⟩)))):=AQ λw' hc=>(h.Am hc AY).cell 1;go_enter AHd,Tryz.ntmps185;(go_wp2_with fail);refine wp_region_held_drew (S:=λw'=>AZ [] w w') Ap ((AZ.refl _ _).drew) (λhHeld=>?_);refine tk 0 ?_;refine tk 1 ?_;refine tk 2 ?_;refine Gm 3 (λw' hSw=>H0.out _ hSw) ?_;refine tk 4 ?_;refine tk 5 ?_;refine tk 6 ?_;refine Gm 7 (λw' hSw=>H1.out _ hSw) ?_;refine Ee 8 λK hK=>?_;go_simp;refine hK.out _ _ (hHeld.alloc _) (λhHeld=>?_);(try simp only[Act.put,Be]);clear hK K;refine tk 9 ?_;refine wpAnyH_done Ap ?_ _;(try simp only[Act.put,Be]);go_wp2;go_ret;exact⟨_,rfl,Own.rd (Own.aH _ 39 1 #[.iface 140 (.pointer (some ⟨c,0,none⟩)),.iface 140 (.pointer (some ⟨d,0,none⟩))] 2 _ _ rfl rfl Az rfl),(AZ.refl [] w).drew.alloc _⟩
theorem gX{v:Value}{b:Nat}{f:Kv}(t a:Addr)(old:Value)(w:World)(hv:QY w b v f)(ha:w.cell? a=some (.pointer (some t)))(ht:w.cell? t=some old)(hf:w.frozen? t=false):
  Calls Ae 94 #[v,.iface 133 (.pointer (some t)),rvl a,.iface 199 (.agg #[.pointer (some ⟨1,51,none⟩)])] w (uA w t f.cd):=by
 obtain⟨rfl,hb,_⟩:=hv;have hb2:=(hb.alloc (.cells #[.pointer (some ⟨1,133,none⟩),.pointer (some a),.int .u64 150] 187)).cell 2;simp only[Fv] at hb2;have h68:= @run_callFunc_extern Ae 68 _ ReflectliteType.typeOf ALE Ap Ap Ap Ap;have ARO:= @run_callFunc_extern Ae 190 _ (ReflectliteType.relation "AssignableTo" ReflectliteType.assignableTo) AHe Ap Ap Ap Ap;have ASJ:= @run_callFunc_extern Ae 126 _ (ReflectliteValue.method (ReflectliteValue.valueError "reflectlite.Value.Elem" 0) ReflectliteValue.elem) ANi Ap Ap Ap Ap;have h91:= @run_callFunc_extern Ae 91 _ (λargs=>ReflectliteValue.unpack (args.getD 0 (.tuple #[]))) ALF Ap Ap Ap Ap;have h127:= @run_callFunc_extern Ae 127 _ ReflectliteValue.set ANj Ap Ap Ap Ap;have ASL:= @ANx;have tO:=xy;have tF:=qM;have mA:=Nz;have a51:=dJ;have ASM:=aJ;have n1:=AIo;have n2:=AOw;have mU:=AJ4;have v51:=qO;have hal:(w.alloc (.cells #[.pointer (some ⟨1,133,none⟩),.pointer (some a),.int .u64 150] 187)).cell? a=some (.pointer (some t)):=((AZ.refl [] w).alloc _).cell ha AY;have el:=ABR a t (w.alloc (.cells #[.pointer (some ⟨1,133,none⟩),.pointer (some a),.int .u64 150] 187)) hal;have st:=AFv t ⟨w.heap.size+1,0,none⟩ f.cd old ((w.alloc (.cells #[.pointer (some ⟨1,133,none⟩),.pointer (some a),.int .u64 150] 187)).alloc (.cells #[.int .i64 f.cd] 51)) (by rw[World.cell?_alloc_at _ _ _ _ AY];rfl) (gW ht) (ng ht hf);have HT:=AQ ht;clear hb ha ht hf;go_enter AHP,Tryz.ntmps94;go_wp2;refine wp_loop_rounds 2 ?_;rw[rounds_succ];(go_wp2_with (go_at_call 183;refine (qQ hb2).mono ?_;rintro e w1 ⟨rfl,rfl⟩));rw[rounds_succ];go_wp2;go_ret;exact AIr rfl (gW HT.out)
theorem AZ.ni{w w':World}{L:List Nat}(h:AZ L w w'){t:Addr}{v:Value}(ht:w.cell? t=some v)(hn:t.block∉L)(hf:w.frozen? t=false):w'.frozen? t=false:=by
 have htl:t.block<w.heap.size:=by
  rcases Gg t.block w.heap.size with h'|h'
  ·exact h'
  simp[World.cell?,GI h'] at ht
 have:=h.block t.block htl hn
 unfold World.frozen? at*
 rw[this];exact hf
theorem ADN{b c d:Nat}{x y:Value}{f g:Kv}(t a:Addr)(old:Value)(w:World)(hb:Bo w b 152 #[x,y])(hx:QY w c x f)(hy:QY w d y g)(ha:w.cell? a=some (.pointer (some t)))(ht:w.cell? t=some old)(hf:w.frozen? t=false):
  Calls Ae 94 #[.iface 150 (.pointer (some ⟨b,0,none⟩)),.iface 133 (.pointer (some t)),rvl a,.iface 199 (.agg #[.pointer (some ⟨1,51,none⟩)])] w (uA w t f.cd):=by
 have h68:= @run_callFunc_extern Ae 68 _ ReflectliteType.typeOf ALE Ap Ap Ap Ap;have ARO:= @run_callFunc_extern Ae 190 _ (ReflectliteType.relation "AssignableTo" ReflectliteType.assignableTo) AHe Ap Ap Ap Ap;have ASN:= @ANy;have q94:= @ALR;have tF:=qN;have mA:=Nz;have ASO:=aK;have n1:=AIp;have n2:=AIq;have n3:=AOx;have mU:=AJ5;have hx1:=hx.1;have hy1:=hy.1;have hw1:AZ [] w (w.alloc (.cells #[.pointer (some ⟨1,133,none⟩),.pointer (some a),.int .u64 150] 187)):=(AZ.refl [] w).alloc _;have hk:=Bo.new w 187 #[.pointer (some ⟨1,133,none⟩),.pointer (some a),.int .u64 150];have HU:=AQ (yA hx1 hy1 (hb.Am hw1 AY));have HX:=AQ hx;have HA:=AQ ha;have HT:=AQ ht;have HF:=AQ hf;have HW1:=AQ hw1;have HK:=AQ hk;have HX1:=AQ hx1;clear hb hx hy ha ht hf hw1 hk hx1 hy1;go_enter AHP,Tryz.ntmps94;go_wp2;refine wp_loop_rounds 1 ?_;rw[rounds_succ];(go_wp2_with fail);refine HU.out.mono ?_;rintro e w2 ⟨A,rfl,hrd,hc2⟩;have hk2:=HK.out.Am hc2 AY;have k0:=hk2.cell 0;have k1:=hk2.cell 1;have k2:=hk2.cell 2;simp only[Fv] at k0 k1 k2;obtain⟨ad,u,hA,hu,hcell⟩:=hrd.bT (k:=0) Az;injection hA with hA;subst hA;simp at hu;subst hu;have HC2:=AQ (HW1.out.Aq hc2);rw[HX1.out] at hcell;(have hcell0:w2.cell? A=some (.iface 140 (.pointer (some ⟨c,0,none⟩))):=by simpa[Addr.add] using hcell);clear hrd hc2 hk2 hcell;go_wp2;refine wp_loop_rounds 1 ?_;rw[rounds_succ];(go_wp2_with fail);have hcall:=gX t a old w2 (HX.out.Am HC2.out AY) (HC2.out.cell HA.out AY) (HC2.out.cell HT.out AY) (HC2.out.ni HT.out AY HF.out);rw[HX1.out] at hcall;refine hcall.mono ?_;rintro e w3 ⟨rfl,h1,h2⟩;go_wp2;go_ret;exact⟨rfl,h1,(HC2.out.nil _).trans h2 (λx hx=>.inl hx)⟩
def QM (w:World):Prop:=w.cell? ⟨0,0,none⟩=some (.iface 199 (.agg #[.pointer (some ⟨1,39,none⟩)]))
theorem uB{T:TypeId}{x:Value}{c:Int}(t:Addr)(old:Value)(w:World)(hg:QM w)(ht:w.cell? t=some old)(hf:w.frozen? t=false)
  (h94: ∀(a:Addr) (w':World),AZ [] w w'->w'.cell? a=some (.pointer (some t))->Calls Ae 94 #[.iface T x,.iface 133 (.pointer (some t)),rvl a,.iface 199 (.agg #[.pointer (some ⟨1,51,none⟩)])] w' (uA w' t c)):
  Calls Ae 60 #[.iface T x,.iface 133 (.pointer (some t))] w (uA w t c):=by
 have h91:= @run_callFunc_extern Ae 91 _ (λargs=>ReflectliteValue.unpack (args.getD 0 (.tuple #[]))) ALF Ap Ap Ap Ap;have h92:= @run_callFunc_extern Ae 92 _ (ReflectliteValue.methodAny (ReflectliteValue.valueError "reflectlite.Value.Type" 0) (λt _ _ _=>ReflectliteType.toType t)) APh Ap Ap Ap Ap;have h93:= @run_callFunc_extern Ae 93 _ (ReflectliteValue.method (ReflectliteValue.valueError "reflectlite.Value.IsNil" 0) ReflectliteValue.isNil) APi Ap Ap Ap Ap;have ASP:= @run_callFunc_extern Ae 171 _ (ReflectliteType.abiMethod λt=>do pure (.int .u8 (<- Rtype.kind t))) ANk Ap Ap Ap Ap;have ASQ:= @run_callFunc_extern Ae 192 _ (ReflectliteType.method ReflectliteType.elem) ANl Ap Ap Ap Ap;have ASR:= @run_callFunc_extern Ae 193 _ (ReflectliteType.relation "Implements" ReflectliteType.implements_) ANm Ap Ap Ap Ap;have q94:= @ALR;have f6:=nX;have f7:=ABO;have mK:=nY;have mE:=nZ;have mI:=XJ;have ASS:=ABP;have k51:=ADM;have AST:=ABQ;have i51:=dI;obtain⟨W,hW⟩: ∃W,(w.alloc (.cells #[.pointer (some t)] 133)).alloc (.cells #[.pointer (some ⟨1,133,none⟩),.pointer (some ⟨w.heap.size,0,none⟩),.int .u64 150] 187)=W:=⟨_,rfl⟩;have hcW:AZ [] w W:=by rw[<- hW];exact ((AZ.refl [] w).alloc _).alloc _
 have hk:Bo W (w.heap.size+1) 187 #[.pointer (some ⟨1,133,none⟩),.pointer (some ⟨w.heap.size,0,none⟩),.int .u64 150]:=by
  rw[<- hW];have:=Bo.new (w.alloc (.cells #[.pointer (some t)] 133)) 187 #[.pointer (some ⟨1,133,none⟩),.pointer (some ⟨w.heap.size,0,none⟩),.int .u64 150];simpa using this
 (have hka:Bo W w.heap.size 133 #[.pointer (some t)]:=by rw[<- hW];exact (Bo.new w 133 #[.pointer (some t)]).alloc _);have n8:=xw ⟨w.heap.size,0,none⟩ t W (hka.cell 0);have k0:=hk.cell 0;have k1:=hk.cell 1;have k2:=hk.cell 2;simp only[Fv] at k0 k1 k2;have hg2:W.cell? ⟨0,0,none⟩=some (.iface 199 (.agg #[.pointer (some ⟨1,39,none⟩)])):=hcW.cell hg AY;have H94:=AQ (h94 ⟨w.heap.size,0,none⟩ W hcW (hka.cell 0));have Pz:=AQ hcW;clear hg ht hf h94 hcW hk hka;go_enter AKr,Tryz.ntmps60;(go_wp2_with fail);refine H94.out.mono ?_;rintro e w2 ⟨rfl,h1,h2⟩;go_wp2;go_ret;exact⟨rfl,h1,(Pz.out.nil _).trans h2 (λx hx=>.inl hx)⟩
theorem JO.as_{w:World}{v:Value}{L:List Nat}{f:Kv}{gs:List Kv}(h:JO w v L (f::gs)): ∃(T:TypeId) (x:Value),v=.iface T x/\∀(t:Addr) (old:Value) (w0:World),AZ [] w w0->QM w0->w0.cell? t=some old->w0.frozen? t=false->Calls Ae 60 #[v,.iface 133 (.pointer (some t))] w0 (uA w0 t f.cd):=by
 unfold JO at h;split at h
 ·rename_i h0;cases h0
 ·rename_i b f' h0;(cases h0);have h1:=h.1;subst h1;refine⟨140,_,rfl,λt old w0 hc hg ht hf=>uB t old w0 hg ht hf λa w' hc' ha=>?_⟩;exact gX t a old w' (h.Am (hc.Aq hc') AY) ha (hc'.cell ht AY) (hc'.ni ht AY hf)
 ·rename_i b c d f' g h0;(cases h0);obtain⟨x,y,rfl,hb,hx,hy⟩:=h;refine⟨150,_,rfl,λt old w0 hc hg ht hf=>uB t old w0 hg ht hf λa w' hc' ha=>?_⟩;have hcc:=hc.Aq hc';exact ADN t a old w' (hb.Am hcc AY) (hx.Am hcc AY) (hy.Am hcc AY) ha (hc'.cell ht AY) (hc'.ni ht AY hf)
 exact h.elim
theorem AFw{w:World}{v:Value}{L:List Nat}{f:Kv}{gs:List Kv}(h:JO w v L (f::gs))(hg:QM w):Calls Ae 18 #[v] w λe w'=>e=.returned (.int .i64 f.cd)/\AZ [] w w':=by
 obtain⟨T,x,rfl,ha⟩:=h.as_;obtain⟨W,hW⟩: ∃W,w.alloc (.cells #[.int .i64 0] 51)=W:=⟨_,rfl⟩;(have hcW:AZ [] w W:=by rw[<- hW];exact (AZ.refl [] w).alloc _);(have hk:Bo W w.heap.size 51 #[.int .i64 0]:=by rw[<- hW];exact .new _ _ _);have HA:=AQ (ha ⟨w.heap.size,0,none⟩ (.int .i64 0) W hcW (hcW.cell hg AY) (hk.cell 0) (hk.frozen 0));have Pz:=AQ hcW;have q60:= @ALO;clear h ha hg hcW hk;go_enter AKQ,Tryz.ntmps18;(go_wp2_with fail);refine HA.out.mono ?_;rintro e w2 ⟨rfl,h1,h2⟩;go_wp2;go_ret;exact⟨rfl,(Pz.out.trans h2 (λx hx=>by simp at hx;subst hx;exact .inr (AP _)))⟩
theorem ABT{w:World}{v:Value}{L:List Nat}{f:Kv}{gs:List Kv}(h:JO w v L (f::gs))(hg:QM w):Calls Ae 100 #[v] w λe w'=>e=.returned (.bool true)/\AZ [] w w':=by
 obtain⟨T,x,rfl,ha⟩:=h.as_;obtain⟨W,hW⟩: ∃W,w.alloc (.cells #[.int .i64 0] 51)=W:=⟨_,rfl⟩;(have hcW:AZ [] w W:=by rw[<- hW];exact (AZ.refl [] w).alloc _);(have hk:Bo W w.heap.size 51 #[.int .i64 0]:=by rw[<- hW];exact .new _ _ _);have HA:=AQ (ha ⟨w.heap.size,0,none⟩ (.int .i64 0) W hcW (hcW.cell hg AY) (hk.cell 0) (hk.frozen 0));have Pz:=AQ hcW;have q60:= @ALO;clear h ha hg hcW hk;go_enter AHQ,Tryz.ntmps100;(go_wp2_with fail);refine HA.out.mono ?_;rintro e w2 ⟨rfl,h1,h2⟩;go_wp2;go_ret;exact⟨rfl,(Pz.out.trans h2 (λx hx=>by simp at hx;subst hx;exact .inr (AP _)))⟩
open Go.Conc Go.ChangeShapes Go.WideShapes Go.Deep Go.Joins
theorem AFx:laidOutB Tryz.prog=true:=by kernel_rfl
theorem AOy:ownKnob Tryz.prog.godebug=none:=by kernel_rfl
theorem ARP:Tryz.prog.globalNamed "errors.errorType" =some 0:=by kernel_rfl
theorem ARQ:(Tryz.prog.cutTypes.find? (·.1== "internal/reflectlite.rtype")).map (·.2)=some 199:=by kernel_rfl
theorem AFy:((List.range Tryz.prog.types.size).filter λt=>Tryz.prog.rowNamed t [101,114,114,111,114])=[39]:=by kernel_rfl
theorem AFz{W:World}(h:laidMetH Tryz.prog [("errors.errorType",Rows.laid_errors_errorType)] W):QM W:=by
 have h':laidMet Tryz.prog [] W/\handlesMet Tryz.prog [("errors.errorType",Rows.laid_errors_errorType)] W:=h;obtain⟨name,u,ty,e1,e2,e3,e4,e5⟩:=h'.2 _ (Ad.2 rfl);have en:name=[101,114,114,111,114]:=(BQ e1).symm;subst en;obtain rfl:=BQ (ARQ.symm.trans e2);have hm:ty∈(List.range Tryz.prog.types.size).filter λt=>Tryz.prog.rowNamed t [101,114,114,111,114]:=I4.2 ⟨GG.2 e3,e4⟩;rw[AFy] at hm;obtain rfl:=Ad.1 hm;(have hh:typeHandle Tryz.prog 39=.pointer (some ⟨1,39,none⟩):=by kernel_rfl);rw[hh] at e5;exact (by simpa using World.var?_cell ARP e5 0:W.cell? ⟨0,0,none⟩=some (.iface 199 (.agg #[.pointer (some ⟨1,39,none⟩)])))
theorem AIs{W:World}(h:W.ShapedOpen Tryz.prog):Iz W 1:=by
 obtain⟨o,o0,h1,h2,h3⟩:=h.2 1 (by decide+kernel) (by decide+kernel);have h4:o=o0:=h3;subst h4;(have h5:(match (begin Tryz.prog (λ_ _=>0) default).world.heap[1]? with|some (.cells _ _ _)=>true|_=>false)=true:=by kernel_rfl);rw[h2] at h5
 cases o with|cells p t f=>exact⟨p,t,f,h1⟩|_=>cases h5
section
variable {H:Type} {enc:TypeId×Value->H}
theorem witness_row{C:Checked}{os:Os}{f:FuncId}{fn:Func}{s:OpenSpec}{k:(H:Type)->List (DataW H)->Bool}(hk:s.cond=some k){conds:List PathCond}{apart:Bool}{laid:List (String×DataW Unit)}(w0:World)(args:Array Value)(fuel:Nat)(hos:w0.os=os)
  (hv:(w0.forCall (λ_ _=>0) ⟨#[],args,[]⟩).variablesB C.prog=true)
  (hr:((w0.forCall (λ_ _=>0) ⟨#[],args,[]⟩).heap.toList.drop C.prog.globals.size).take ((begin C.prog (λ_ _=>0) default).world.heap.size - C.prog.globals.size)=
   (begin C.prog (λ_ _=>0) default).world.heap.toList.drop C.prog.globals.size)
  (hok:Input.okWideB C.prog (w0.forCall (λ_ _=>0) ⟨#[],args,[]⟩) f ⟨#[],args,[]⟩=true)
  {x:List (DataW H)×List (DataW H)×List MemPlace} (hx:DataW.whole enc C.prog (w0.forCall (λ_ _=>0) ⟨#[],args,[]⟩).memory fn.params.toList s.vars apart args.toList fuel=some x)
  (hconds:conds.all (PathCond.test C.prog ⟨fn.params.toList,x.1,s.bare.plain.varTypes C.prog,x.2.1⟩)=true) (hkk:k H (x.1++x.2.1)=true)
  (hsz:s.bare.sizedB enc C.prog fn apart (w0.forCall (λ_ _=>0) ⟨#[],args,[]⟩).memory args fuel=true)
  (hl:laidMetH C.prog laid (w0.forCall (λ_ _=>0) ⟨#[],args,[]⟩).memory):
  ∃(w:World) (tape:Tape) (i:Input),w.os=os/\(w.forCall tape i).Shaped C.prog/\i.vars=[]/\Input.okWide C.prog (w.forCall tape i) .any w.heap.size f i/\
   s.preRow enc C.prog fn conds apart laid (w.forCall tape i).memory i.args/\({}:Assume).holds C.prog (lone (Frame.enter C.prog f i.args .normal) [] (w.forCall tape i)):=
 ⟨w0,λ_ _=>0,⟨#[],args,[]⟩,hos,World.shaped_of_B hv hr,(Input.okWide_of_okWideB (base:=0) hok).1,(Input.okWide_of_okWideB hok).2,
  ⟨⟨(OpenSpec.pre_some hk conds apart _ _).2 ⟨x.1,x.2.1,x.2.2,DataW.Whole_of_whole hx,hconds,hkk⟩,hl⟩,sizedMet_of_sizedB hsz⟩,by
  have:({}:Assume)={modest:=false}:=rfl;rw[this];simp only[Assume.holds]
  exact⟨AY,AY,λ_=>Modest.zero,AY,AY⟩⟩
theorem iU{a:Assume}{C:Checked}{os:Os}{f:FuncId}{fn:Func}{s:OpenSpec}{k:(H:Type)->List (DataW H)->Bool}(hk:s.cond=some k){F:Stop.Interp}{conds:List PathCond}{apart fresh handsOn again:Bool}{laid:List (String×DataW Unit)}
  (own:ownKnob C.prog.godebug=none) (started:os.Started) (hfn:C.prog.funcs[f]? =some fn)
  (witness: ∃(w:World) (tape:Tape) (i:Input),w.os=os/\(w.forCall tape i).Shaped C.prog/\i.vars=[]/\Input.okWide C.prog (w.forCall tape i) .any w.heap.size f i/\
   s.preRow enc C.prog fn conds apart laid (w.forCall tape i).memory i.args/\a.holds C.prog (lone (Frame.enter C.prog f i.args .normal) [] (w.forCall tape i)))
  (runs: ∀(W:World) (base:Nat) (args:Array Value) (ds gs:List (DataW H)) (before:List MemPlace),W.ShapedOpen C.prog->laidMetH C.prog laid W->
   (∀(j:Nat) t v,fn.params[j]? =some t->args[j]? =some v->Value.okWide C.prog W .any base t v)->
   DataW.Whole enc C.prog fn.params.toList s.vars apart W args.toList ds gs before->k H (ds++gs)=true->
   ∃M last o w' t',runNT C.prog (M+1) (solo (G (Frame.enter C.prog f args .normal) []) W) #[]=(.ended o w',t')/\runN C.prog M (solo (G (Frame.enter C.prog f args .normal) []) W)=.next last/\
    step C.prog last=.ended o w'/\Conc.Good C.prog (λv W'=>(s.at F).post enc C.prog fn apart fresh handsOn again W args v W') last o w' t'):
  ReturnsInLeavingWide a C os f .any (s.preRow enc C.prog fn conds apart laid) ((s.at F).post enc C.prog fn apart fresh handsOn again):=by
 refine returnsInLeavingWide_of_good own started witness ?_;intro w tape i _ hshape _ hok hpre _;obtain⟨_,_,_,fn',hfn',_,_,_,_,hval⟩:=hok;have e:fn'=fn:=BQ (hfn'.symm.trans hfn);subst e;obtain⟨⟨hp1,hl⟩,_⟩:=hpre;obtain⟨ds,gs,before,hw,_,hkk⟩:=(OpenSpec.pre_some hk conds apart _ _).1 hp1;have hw':=DataW.Whole.of_heap (w':=w.forCall tape i) (by rfl) hw;obtain⟨M,last,o,w',t',h1,h2,h3,h4⟩:=runs (w.forCall tape i) w.heap.size i.args ds gs before hshape (hl.of_heap (by rfl)) hval hw' hkk;exact⟨M,last,o,w',t',h1,h2,h3,h4.mono λv hp=>ChangeSpec.post_blind hp⟩
end
noncomputable def AIt (os:Os):World:=
 let w0:=World.holding Tryz.prog os ⟨#[],#[],[]⟩
 {w0 with heap:=w0.heap.modify 0 fun
   | .cells _ t frozen=>.cells #[.iface 199 (.agg #[.pointer (some ⟨1,39,none⟩)])] t frozen
   |o=>o}
theorem ADO(os:Os)(args:Array Value):laidMetH Tryz.prog [("errors.errorType",Rows.laid_errors_errorType)] ((AIt os).forCall (λ_ _=>0) ⟨#[],args,[]⟩).memory:=
 laidMetH_of_parts (laidMet_nil _ _) Ap
theorem Y6{p:Pinned}{s:OpenSpec}{c:OpenClaim}(f:FuncId)(fn:Func)
  (hn:c.program=p.name) (hs:c.sum=p.sum) (hsp:c.spec=s.name)
  (hstart:c.start=.entering) (hout:c.outside=[]) (hin:c.inits=[]) (hun:c.under=none) (hi4:c.initsInPlace=[]/\c.initsUnfollowed=false/\c.initsRecurse=false/\c.initsNamed=[]/\c.initsPassed=[]) (hnb:c.noBlocks=false) (hlv:c.leaving=true) (hfo:c.followed=none) (hnar:c.narrowed=s.cond.isSome) (hstill:c.still=false)
  (hfn:p.checked.prog.funcNamed c.func=some f) (hf:p.checked.prog.funcs[f]? =some fn)
  (closed:joinedFacts p.checked.prog f fn s.bare c=true)
  (hinst:fn.isInstance p.checked.prog c.origin c.targs) (hwrap:fn.isWrapper p.checked.prog c.wrapper c.mainSum)
  (h: ∀os:Os,os.Started->∀(H:Type) (enc:TypeId×Value->H),(∀a b,enc a=enc b->a=b)->∀F:Stop.Interp,
   ReturnsInLeavingWide c.assume p.checked os f .any (s.preRow enc p.checked.prog fn c.domain c.apart c.laid) ((s.at F).post enc p.checked.prog fn c.apart c.fresh c.handsOn c.again)):c.holds p s:=by
 simp only[joinedFacts,BF,beq_iff_eq,Array.all_eq_true_iff_forall_mem,CO,decide_eq_true_eq] at closed;obtain⟨⟨⟨⟨⟨⟨⟨⟨⟨⟨⟨⟨⟨⟨⟨⟨⟨⟨⟨⟨⟨⟨⟨⟨⟨⟨⟨⟨⟨⟨⟨a1,a2⟩,a3⟩,a4⟩,a5⟩,a6⟩,a7⟩,a8⟩,a9⟩,b1⟩,b2⟩,b3⟩,b4⟩,b5⟩,b6⟩,b7⟩,b8⟩,b8'⟩,b9⟩,d1⟩,d2⟩,d3⟩,d4⟩,d5⟩,d5'⟩,d6⟩,d6'⟩,ARR⟩,d7⟩,d8⟩,d9⟩,d10⟩:=closed;(have quiet: ∀os:Os,Stop.quiet p.checked.prog os:=λos k hk=>by rw[a9] at hk;cases hk);(have fits:c.startFits p.checked.prog:=by unfold OpenClaim.startFits;rw[hstart];exact d6);(have told:c.startTold p.checked.prog:=by unfold OpenClaim.startTold;rw[hstart];exact⟨hin,hun,hi4⟩);(have tie:namedTie p.checked.prog c.namedList s.vars=true:=by unfold OpenClaim.namedList;rw[hfo];exact a5);have worded:p.checked.prog.envWorded=true:=by unfold Program.envWorded;rw[a9];rfl
 refine⟨a1,hn,hs,hsp,a2,a3,fits,told,f,fn,hfn,hf,⟨a4,d1⟩,(λhb=>by rw[hnb] at hb;cases hb),tie,hinst,hwrap,
  a6.trans a7.symm,⟨a8.trans a9.symm,worded,d5'⟩,b1,b2,b3,b4,b5,⟨b6,d9,d10⟩,⟨b7,d2⟩,⟨b8,d3,d7,d8⟩,⟨d4,d6',ARR,b8'⟩,?_,λn hn'=>varReadable_some (b9 n hn'),
  ⟨_,by unfold OpenClaim.world;rw[hout,hstart];exact WideRow.started_initial,quiet _⟩,[],by unfold OpenClaim.lists;rw[hfo],λos st _ H enc inj=>?_⟩
 ·rw[hout,hnar]
  cases hsh:c.shortTexts with|none=>simp|some _=>rw[hsh] at d5;cases d5
 (have st':os.Started:=by unfold OpenClaim.world at st;rw[hout,hstart] at st;exact st);rw[OpenClaim.post_not_still hstill];unfold OpenClaim.form;rw[hstart,a6];intro F;(have e1:c.okInput=Input.okWide:=by unfold OpenClaim.okInput;rw[hnb]);(have e2:c.atReturn p.checked.prog=leavingAtReturn p.checked.prog:=by unfold OpenClaim.atReturn;rw[hlv]);(have e3:c.always p.checked.prog []=nothingAlways:=by unfold OpenClaim.always;rw[hfo]);(have e4:s.post enc p.checked.prog fn F c.outside c.apart c.fresh c.handsOn c.again=(s.at F).post enc p.checked.prog fn c.apart c.fresh c.handsOn c.again:=by rw[hout];rfl);rw[e1,e2,e3];show ReturnsInOpen _ _ _ _ _ _ _ _ (s.post enc p.checked.prog fn F c.outside c.apart c.fresh c.handsOn c.again) _ _;rw[e4,OpenClaim.pre_eq_preRow];exact h os st' H enc inj F d6
theorem ADP(Lk:Looks){p:Pinned}{s:OpenSpec}{c:OpenClaim}(kinds:List LaidKind)(tests:Bool)(har:Bool×String)(lk:Bool)
  (hc:c.holds p s) (hw:c.wfByText s=true) (htie:c.laidByTextAt Lk p kinds tests)
  (hst:c.start=.entering) (hnb:c.noBlocks=false/\c.again=false) (hm:p.checked.prog.mainIs=some (har.1,har.2.toList)) (hn:(!har.1 && har.2.isEmpty && !lk)=false)
  (hl: ∀f fn,p.checked.prog.funcNamed c.func=some f->p.checked.prog.funcs[f]? =some fn->lk=p.checked.prog.looks []/\∀(j:Nat) t,fn.params[j]? =some t->p.checked.prog.wantsStandIn t=false)
  (hg:true=c.goesBy p.checked.prog):
  Claim7.holds p (.plain s) {stood:={row:=c,standIns:=[],harness:=har,looks:=lk},kinds:=[],alts:=[],goes:=true,laidByText:=true,laidKinds:=kinds,laidTests:=tests,laidLooks:=Lk}:=by
 (have h6: ∀r:OpenClaim,Claim7.isSixth {stood:={row:=r,standIns:=[],harness:=har,looks:=lk},kinds:=[]}=false:=λr=>by simpa[Claim7.isSixth] using hn);exact⟨Claim7.tied_new_at Lk kinds tests (Claim7.new_of_sixth hc har lk hst hnb hm (h6 c) hl) hw,(λD hD=>by cases hD),htie,(λh=>by cases h),hg⟩
end Go.Proofs.YtkkgcebhfghdnaaGreatDoor.Vw
