/- Part 18 of what that rests on; no condition. -/
import Derived.Test.YtkkgcebhfghdnaaGreatDoorJq
import Derived.BigQuiet
import Derived.Laws.BytesArg
import Derived.Laws.StructEq
import Derived.StringKeys
set_option maxRecDepth 100000
set_option maxHeartbeats 8000000
open Array renaming length_toList→V3
open Option renaming getD_some→Dt, bind_some→Vx, none→AB, some→AA
open List renaming length_cons→ES, sum_cons→Bo
open ByteArray renaming empty→Lu
open Go.Value renaming pointer→P9, string→V4
open Go.Fence renaming wide→UE
open Go renaming strOfNums→FQ, maxLen→EO, Value→AP, World→AL, Calls→A7, DataW→Dl
open Prod renaming fst→Aa
namespace Go.Proofs.YtkkgcebhfghdnaaGreatDoor.Vw
open Go.RowKit
section
variable {k:ByteArray}{B m m' n:Nat}{A:Option Addr}{α:Type}{w w':AL}
def UO (a s:Int):Bool:=decide (0<=a) && decide (a<=s)
theorem vU(b:Nat)(a s:Int)(w:AL)(h5:w.cell? ⟨b,5,AB⟩=AA (.int .i64 a))(h6:w.cell? ⟨b,6,AB⟩=AA (.int .i64 s)):
  A7 Af 61 #[.pointer (AA ⟨b,0,AB⟩)] w λe w'=>e=.returned (.bool (UO a s))/\AZ [] w w':=by
 by_cases ha:0<=a
 ·(have d1:decide (0<=a)=true:=by simp[ha]);have HD:Hid (UO a s=decide (a<=s)):=AQ (by unfold UO;rw[d1,Bool.true_and]);clear ha;go_enter AJK,Tryz.ntmps61;go_wp2;go_quiet (fail);go_wp2;go_ret;exact⟨by rw[HD.out];rfl,(AZ.refl [] w).drewN _⟩
 (have d1:decide (0<=a)=false:=by simp;omega);have HD:Hid (UO a s=false):=AQ (by unfold UO;rw[d1,Bool.false_and]);clear ha;go_enter AJK,Tryz.ntmps61;go_wp2;go_quiet (fail);go_wp2;go_ret;exact⟨by rw[HD.out];rfl,(AZ.refl [] w).drewN _⟩
def Uw (a b:ByteArray):Bool:=Op.bytesLess a.toList b.toList || a.toList==b.toList
theorem VW(a b:ByteArray)(w:AL):(binOp .leq 9 (.string a) (.string b)).run Af w=.ok (.bool (Uw a b)) w:=by
 simp[binOp,Op.stringOp,Uw]
def Gl (f:Bool) (last name:ByteArray):Int:=if CS name=false then 81 else if f=false/\Uw name last=true then 6 else 0
theorem bG(f:Bool)(last name:ByteArray)(w:AL):
  A7 Af 58 #[.bool f,.string last,.string name] w λe w'=>e=.returned (.int .i64 (Gl f last name))/\w'=w:=by
 have hle:=λw=>VW name last w
 cases hg:CS name with
 |false=>
  have HR:Hid (Gl f last name=81):=AQ (by unfold Gl;rw[BZ hg]);have k36:= @vI;go_enter ABo,Tryz.ntmps58;(go_wp2_with fail);refine (Rf name _).mono ?_;rintro e w1 ⟨rfl,rfl⟩;rw[hg];go_wp2;go_ret;exact⟨by rw[HR.out];rfl,rfl⟩
 |true=>
  cases f with
  |true=>
   have HR:Hid (Gl true last name=0):=AQ (by unfold Gl;rw[BM (by simp[hg]),BM AV]);have k36:= @vI;go_enter ABo,Tryz.ntmps58;(go_wp2_with fail);refine (Rf name _).mono ?_;rintro e w1 ⟨rfl,rfl⟩;rw[hg];go_wp2;go_ret;exact⟨by rw[HR.out];rfl,rfl⟩
  |false=>
   cases hl:Uw name last with
   |true=>
    have HR:Hid (Gl false last name=6):=AQ (by unfold Gl;rw[BM (by simp[hg]),BZ ⟨rfl,hl⟩]);rw[hl] at hle;have k36:= @vI;go_enter ABo,Tryz.ntmps58;(go_wp2_with fail);refine (Rf name _).mono ?_;rintro e w1 ⟨rfl,rfl⟩;rw[hg];go_wp2;go_ret;exact⟨by rw[HR.out];rfl,rfl⟩
   |false=>
    have HR:Hid (Gl false last name=0):=AQ (by unfold Gl;rw[BM (by simp[hg]),BM (by simp[hl])]);rw[hl] at hle;have k36:= @vI;go_enter ABo,Tryz.ntmps58;(go_wp2_with fail);refine (Rf name _).mono ?_;rintro e w1 ⟨rfl,rfl⟩;rw[hg];go_wp2;go_ret;exact⟨by rw[HR.out];rfl,rfl⟩
open Go.Maps Go.Sort Go.Shelf
theorem insert_perm{H:Type}(x:Lit×Dl H): ∀l:List (Lit×Dl H),(DataW.insert x l).Perm (x::l)
 | []=>OA _
 |y::r=>by
  unfold DataW.insert;split;exact OA _;exact ((insert_perm x r).cons y).trans (List.Perm.swap x y r)
theorem UQ{H:Type}: ∀l:List (Lit×Dl H),(l.foldr DataW.insert []).Perm l
 | []=>OA _|x::r=>(insert_perm x _).trans ((UQ r).cons x)
abbrev IQ:ByteArray->AP:=λz=>V4 z
def ABz:AP->Option (Dl Unit×List MemPlace):=λ_=>AA (.nil,[])
def UR (ks:List ByteArray):List ByteArray:=((ks.map (·.data.toList)).mergeSort (λx y=>decide (x<=y))).map λl=>⟨l.toArray⟩
def PN (ks:List ByteArray):List AP:=ks.map V4
theorem Mp.owns{b:Nat}{m:List (ByteArray×AP)}(h:Mp w b IQ m){kt:TypeId}(hkt:Af.underlying kt=AA .string)(hk: ∀p∈m,p.1.size<=EO)(hm:m.length<=EO):
  ∃D:Dl Unit,w.ownsMap Af kt ABz b m.length D/\(strKeys D).Perm ((m.map Aa).map (·.data.toList))/\Maps.size D=m.length:=by
 obtain⟨es,clock,hb,he,hn,hs,hc⟩:=h;(have hlen:es.toList.length=m.length:=by have:=congrArg List.length he;simpa using this);have hkeys:=Mp.keys he
 have hat: ∀x∈es.toList,∃k:ByteArray,x.key=V4 k/\k.size<=EO:=by
  intro x hx;have:x.key∈es.toList.map (·.key):=Bz.2 ⟨x,hx,rfl⟩;rw[hkeys] at this;obtain⟨k,hk1,hk2⟩:=Bz.1 this;obtain⟨p,hp1,rfl⟩:=Bz.1 hk1;exact⟨p.1,hk2.symm,hk p hp1⟩
 have hrd: ∀x∈es.toList,∃k:ByteArray,x.key=V4 k/\WideElems.rd Af kt ABz x=AA (.string k.data.toList,.nil):=by
  intro x hx;obtain⟨k,h1,h2⟩:=hat x hx;refine⟨k,h1,?_⟩;unfold WideElems.rd;rw[h1,WideMaps.keyOf_string_mk hkt h2];rfl
 refine⟨_,⟨es,clock,hb,⟨by rw[<- V3,hlen];exact hm,⟨hc,hs,?_⟩,λx hx=>?_⟩,by rw[<- V3,hlen];exact Ba _,rfl⟩,?_,?_⟩
 ·rw[hkeys];exact List.Pairwise.map IQ (R:=(· ≠ ·)) (S:=(· ≠ ·)) (λa b hab e=>hab (by injection e)) hn
 obtain⟨k,_,h2⟩:=hrd x hx;exact⟨_,h2⟩
 ·show (((es.toList.map (WideElems.rg Af kt ABz)).foldr DataW.insert []).map λp=>strOf p.1).Perm _;refine ((UQ _).map _).trans ?_
  have:(es.toList.map (WideElems.rg Af kt ABz)).map (λp=>strOf p.1)=(m.map Aa).map (·.data.toList):=by
   rw[Eg]
   have h2:(es.toList.map λx=>match x.key with| .string a=>a.data.toList|_=>[])=(m.map Aa).map (·.data.toList):=by
    have:=congrArg (List.map λv:AP=>match v with| .string a=>a.data.toList|_=>[]) hkeys;rw[Eg,Eg] at this;exact this
   rw[<- h2];refine He λx hx=>?_;obtain⟨k,h3,h4⟩:=hrd x hx;simp only[Function.comp_apply,WideElems.rg,h4,h3,Dt,strOf]
  rw[this]
 show (((es.toList.map (WideElems.rg Af kt ABz)).foldr DataW.insert [])).length=_;rw[(UQ _).length_eq,DZ,hlen]
theorem sortsA(m:Nat):AnyZ.SortsIn Af Ah.sortedA_ren UE m:=
 ⟨λblk off cap ss W hH hblk hsz=>callsIn_wide.2 (AnyM.slices_Sort_string Ah.sortA blk off cap ss W hH hblk hsz),
  λp cap W=>callsIn_wide.2 (AnyM.slices_Sort_string_none Ah.sortA p cap W)⟩
theorem oz(mb:Option Nat)(W:AL):A7 Af 88 #[.map mb] W λe w'=>e=.returned (.func (.func 124) #[] #[.pointer (AA ⟨W.heap.size,0,AB⟩)])/\w'=W.alloc (.cells #[.map mb] 112):=
 (callsIn_wide (n:=5)).1 (AnyZ.keys_in Ah.AFs UE 5 trivial rfl mb W)
theorem o5(mb:Option Nat)(W:AL):A7 Af 89 #[.map mb] W λe w'=>e=.returned (.func (.func 125) #[] #[.pointer (AA ⟨W.heap.size,0,AB⟩)])/\w'=W.alloc (.cells #[.map mb] 130):=
 (callsIn_wide (n:=5)).1 (AnyZ.keys_in Ah.AFt UE 5 trivial rfl mb W)
theorem Yv{W:AL}{m:List (ByteArray×AP)}{D:Dl Unit}{v:AP}{ss:List (List UInt8)}(hperm:(strKeys D).Perm ((m.map Aa).map (·.data.toList)))(hp:ss.Perm (strKeys D))
  (hrow:w'.ownsRow W.heap.size 9 1 v ss.length ((ss.mergeSort (λx y=>decide (x<=y))).map encStr)) (hb:Below W.heap.size W w'):
  La 9 1 W (PN (UR (m.map Aa))) m.length (.returned v) w':=by
 (have hlen:ss.length=m.length:=by rw[(hp.trans hperm).length_eq,DZ,DZ]);have hse:ss.mergeSort (λx y=>decide (x<=y))=((m.map Aa).map (·.data.toList)).mergeSort (λx y=>decide (x<=y)):=mergeSort_of_perm (hp.trans hperm)
 have hsv:PN (UR (m.map Aa))=(((m.map Aa).map (·.data.toList)).mergeSort (λx y=>decide (x<=y))).map encStr:=by
  unfold PN UR;rw[Eg];rfl
 rw[hse,hlen,<- hsv] at hrow;rcases hrow.2 with ⟨hv,hz⟩|⟨g,cap,cur,hv,hbase,hr⟩
 ·subst hv;refine⟨AB,0,by rw[hz],⟨hrow.1,.inl ⟨by rw[hz],hz⟩⟩,AZ.of_below hb [],AV⟩
 subst hv;exact⟨_,cap,rfl,⟨hrow.1,.inr ⟨g,cap,cur,rfl,D5 _,hr⟩⟩,AZ.of_below hb [],by simpa using hbase⟩
theorem zT(W:AL)(b:Nat)(m:List (ByteArray×AP))(h:Mp W b IQ m)(hk: ∀p∈m,p.1.size<=EO)(hm:m.length<=1073741824):
  A7 Af 87 #[.func (.func 124) #[] #[.pointer (AA ⟨W.heap.size,0,AB⟩)]] (W.alloc (.cells #[.map (AA b)] 112)) (La 9 1 (W.alloc (.cells #[.map (AA b)] 112)) (PN (UR (m.map Aa))) m.length):=by
 obtain⟨D,hown,hperm,hsz⟩:=h.owns KZ hk Qv;have hbl:=hown.lt
 have hseq:SeqGives UE 2 Af 124 #[.pointer (AA ⟨W.heap.size,0,AB⟩)] encStr (λss=>ss.Perm (strKeys D)) (Maps.size D) (W.alloc (.cells #[.map (AA b)] 112)):=
  AnyZ.keys_gives (ρ:=Ah.ik) {Ah.AFs with} UE _ trivial rfl Ad W.heap.size b m.length D _ AV AV (by
   obtain⟨es,clock,hb,Ft,hs,hD⟩:=hown
   exact⟨es,clock,(Below.heap_alloc _ _ b hbl).trans hb,Ft,hs,hD⟩)
 have cS:=AnyZ.sorted_in Ah.sortedA UE 5 trivial trivial trivial trivial rfl Ad (sortsA _) (enters_of AEK Aq rfl) 124 #[.pointer (AA ⟨W.heap.size,0,AB⟩)] trivial (enters_of AJQ Aq rfl) _ _ (by rw[hsz];unfold EO;omega) (by rw[hsz];omega) _ hseq;change CallsIn _ _ Af 87 _ _ _ at cS;refine ((callsIn_wide (n:=5)).1 cS).mono ?_;rintro e w' ⟨v,ss,rfl,hp,hrow,hnil,hb⟩;exact Yv hperm hp hrow hb
theorem zU(W:AL)(b:Nat)(m:List (ByteArray×AP))(h:Mp W b IQ m)(hk: ∀p∈m,p.1.size<=EO)(hm:m.length<=1073741824):
  A7 Af 87 #[.func (.func 125) #[] #[.pointer (AA ⟨W.heap.size,0,AB⟩)]] (W.alloc (.cells #[.map (AA b)] 130)) (La 9 1 (W.alloc (.cells #[.map (AA b)] 130)) (PN (UR (m.map Aa))) m.length):=by
 obtain⟨D,hown,hperm,hsz⟩:=h.owns KZ hk Qv;have hbl:=hown.lt
 have hseq:SeqGives UE 2 Af 125 #[.pointer (AA ⟨W.heap.size,0,AB⟩)] encStr (λss=>ss.Perm (strKeys D)) (Maps.size D) (W.alloc (.cells #[.map (AA b)] 130)):=
  AnyZ.keys_gives (ρ:=Ah.iq) {Ah.AFt with} UE _ trivial rfl Ad W.heap.size b m.length D _ AV AV (by
   obtain⟨es,clock,hb,Ft,hs,hD⟩:=hown
   exact⟨es,clock,(Below.heap_alloc _ _ b hbl).trans hb,Ft,hs,hD⟩)
 have cS:=AnyZ.sorted_in Ah.sortedA UE 5 trivial trivial trivial trivial rfl Ad (sortsA _) (enters_of AEK Aq rfl) 125 #[.pointer (AA ⟨W.heap.size,0,AB⟩)] trivial (enters_of AJR Aq rfl) _ _ (by rw[hsz];unfold EO;omega) (by rw[hsz];omega) _ hseq;change CallsIn _ _ Af 87 _ _ _ at cS;refine ((callsIn_wide (n:=5)).1 cS).mono ?_;rintro e w' ⟨v,ss,rfl,hp,hrow,hnil,hb⟩;exact Yv hperm hp hrow hb
theorem AB0(W:AL)(b:Nat)(m:List (ByteArray×AP))(h:Mp W b IQ m):
  A7 Af 86 #[.map (AA b)] W λe w'=>e=.returned (.map (AA W.heap.size))/\Mp w' W.heap.size IQ m/\AZ [] W w':=by
 obtain⟨es,clock,hb,he,hn,hs,hc⟩:=h;have c:=AnyW.maps_Clone Ah.ATA b es clock W hb;change A7 Af 86 _ _ _ at c;refine c.mono ?_;rintro e w' ⟨rfl,rfl⟩;exact⟨rfl,⟨es,clock,(MapKept.heap_alloc W _).1,he,hn,hs,hc⟩,(AZ.refl _ _).alloc _⟩
theorem AEV(l:List ByteArray):(l.map (·.data.toList)).map (λl=>(⟨l.toArray⟩:ByteArray))=l:=by
 rw[Eg]
 conv=>rhs;rw[<- List.map_id l]
 exact He λx _=>by cases x;rfl
theorem AFu{β:Type}{m:List (ByteArray×β)}{t:List (ByteArray×α)}(hp:(m.map Aa).Perm (t.map Aa))(hs:RH t):UR (m.map Aa)=t.map Aa:=by
 unfold UR;rw[show ((m.map Aa).map (·.data.toList)).mergeSort (λx y=>decide (x<=y))=((t.map Aa).map (·.data.toList)).mergeSort (λx y=>decide (x<=y)) from mergeSort_of_perm (hp.map _)];rw[List.mergeSort_of_pairwise];exact AEV _;refine List.Pairwise.map _ (λa b hab=>?_) hs;rw[SK] at hab;simp only[decide_eq_true_eq];exact List.le_of_lt hab
def AB1 (m:List (ByteArray×AP)) (k:ByteArray):AP:=(BH m k).getD (.map AB)
def QR (a s:Int) (m:List (ByteArray×AP)) (there:Bool) (ns:List ByteArray):Int:=
 if UO a s=true then 80 else if ns.all CS=false then 81 else if there=true/\(BH m (ns.headD Lu)).isNone=true then 82 else 0
theorem zV{c:Nat}{ns:List ByteArray}(h:Rd w 1 A n c (PN ns)){j:Nat}(hj:j<n):
  ∃ad s,A=AA ad/\ns[j]? =AA s/\w.cell? (ad.add j)=AA (.string s):=by
 obtain⟨ad,u,hA,hx,hc⟩:=h.fC hj;unfold PN at hx;rw[Bg] at hx
 cases hs:ns[j]? with|none=>rw[hs] at hx;cases hx|some s=>rw[hs] at hx;simp at hx;subst hx;exact⟨ad,s,hA,rfl,hc⟩
theorem AB2(b sb:Nat)(a s:Int)(m:List (ByteArray×AP))(there:Bool)(A:Option Addr)(n c:Nat)(ns:List ByteArray)(w:AL)
  (h0:w.cell? ⟨b,0,AB⟩=AA (.map (AA sb))) (h5:w.cell? ⟨b,5,AB⟩=AA (.int .i64 a)) (h6:w.cell? ⟨b,6,AB⟩=AA (.int .i64 s))
  (hm:Mp w sb IQ m) (hv: ∀p∈m,∃r,p.2=.map (AA r)) (hr:Rd w 1 A n c (PN ns)) (hn:n<=1073741824) (ht:there=true->0<n):
  A7 Af 70 #[.pointer (AA ⟨b,0,AB⟩),.bool there,.slice A n c] w λe w'=>e=.returned (.int .i64 (QR a s m there ns))/\AZ [] w w':=by
 (have hl:ns.length=n:=by have:=hr.1;simp[PN] at this;omega);have HR:=AQ hr;have HL:=AQ hl;have HMP:=AQ hm;have HV:=AQ hv;have H0:=AQ h0;have HT:=AQ ht;clear hr hl hm hv h0 ht;have k36:= @vI;have k61:= @AJi;go_enter AM9,Tryz.ntmps70;(go_wp2_with fail);refine (vU b a s w h5 h6).mono ?_;rintro e w1 ⟨rfl,hc1⟩;have DI:=AQ hc1;clear hc1 h5 h6
 cases hd:UO a s with
 |true=>
  have HE:Hid (QR a s m there ns=80):=AQ (by unfold QR;rw[BZ hd]);clear hd;go_wp2;go_ret;exact⟨by rw[HE.out];rfl,DI.out⟩
 |false=>
  have HD:=AQ hd;clear hd;go_wp2;go_loopw [13] (λq wr=>∃i:Nat,i<=n/\q=.int .i64 i/\(∀x∈ns.take i,CS x=true)/\AZ [] w wr) (λq _=>n - (intOf q).toNat)
  case atStart=>exact⟨0,D5 _,rfl,AV,DI.out⟩
  obtain⟨i,hi,rfl,hall,hch⟩:=hrel;have MF:=AQ hall;have DY:=AQ hch;clear hall hch;by_cases hlt:i<n
  ·(have hlt':(i:Int)<n:=by omega);obtain⟨ad,x,rfl,hx,hcell⟩:=zV (HR.out.Ak DY.out Ej) hlt;have HX:=AQ hx;clear hx;(go_wp2_with fail);refine (Rf x _).mono ?_;rintro e w3 ⟨rfl,rfl⟩
   cases hg:CS x with
   |false=>
    have HE:Hid (QR a s m there ns=81):=AQ (by
     unfold QR
     rw[BM (by rw[HD.out];simp),BZ (by rw[List.all_eq_false];exact⟨x,Bq HX.out,by simp[hg]⟩)])
    clear hg;go_wp2;go_ret;exact⟨by rw[HE.out];rfl,DY.out⟩
   |true=>
    have HG:=AQ hg;clear hg;go_wp2;go_roundw
    case rel=>
     refine⟨i+1,Ad,by go_num,λy hy=>?_,DY.out⟩;rw[take_snoc _ _ _ HX.out] at hy;rcases Be.1 hy with h|h;exact MF.out y h;simp at h;subst h;exact HG.out
    simp[intOf];omega
  (obtain rfl:i=n:=by omega);have HAL:Hid (ns.all CS=true):=AQ (JC.2 (λx hx=>MF.out x (by rw[FH (by rw[HL.out];exact Ba _)];exact hx)))
  cases there with
  |false=>
   have HE:Hid (QR a s m false ns=0):=AQ (by unfold QR;rw[BM (by rw[HD.out];simp),BM (by rw[HAL.out];simp),BM AV]);(go_wp2_with fail);go_quiet (fail);go_wp2;go_ret;exact⟨by rw[HE.out];rfl,DY.out.drewN _⟩
  |true=>
   have hn0:=HT.out rfl;obtain⟨ad,x,rfl,hx,hcell⟩:=zV (HR.out.Ak DY.out Ej) hn0;(have hcell0:wr.cell? ad=AA (.string x):=by simpa[Addr.add] using hcell);(have hn1:(0:Int)<(i:Int):=by omega);have hq:=λw r=>run_eql_map_nil (P:=Af) w 130 _ _ r PH;have h0:=DY.out.cell H0.out (λh=>BC h);have hmp:=HMP.out.Ak DY.out (λh=>BC h);have hlk: ∀q,(Instr.lookup 112 (.map (AA sb)) (.string x) false).run Af (wr.drewN q)=.ok (AB1 m x) (wr.drewN q):=λq=>(Mp.lookup (hmp.Ak ((AZ.refl [] wr).drewN q) (λh=>BC h)) (Cj KZ) Iy (z:=.map AB) Aq x).1
   have hhd:ns.headD Lu=x:=by
    cases ns with|nil=>simp at hx|cons y r=>simp at hx;exact hx
   have HHD:=AQ hhd;clear hx hcell hmp hhd;rcases hdv:BH m x with _|v
   ·(have sF:AB1 m x=.map AB:=by unfold AB1;rw[hdv];rfl);have HE:Hid (QR a s m true ns=82):=AQ (by unfold QR;rw[BM (by rw[HD.out];simp),BM (by rw[HAL.out];simp),BZ ⟨rfl,by rw[HHD.out,hdv];rfl⟩]);rw[sF] at hlk;clear sF hdv;(go_wp2_with fail);go_quiet (fail);go_wp2;go_ret;exact⟨by rw[HE.out];rfl,DY.out.drewN _⟩
   obtain⟨r,hrv⟩:=HV.out _ (CJ hdv);(have sF:AB1 m x=.map (AA r):=by unfold AB1;rw[hdv];exact hrv);have HE:Hid (QR a s m true ns=0):=AQ (by unfold QR;rw[BM (by rw[HD.out];simp),BM (by rw[HAL.out];simp),BM (by rintro⟨_,h⟩;rw[HHD.out,hdv] at h;cases h)]);rw[sF] at hlk;clear sF hdv hrv;(go_wp2_with fail);go_quiet (fail);go_wp2;go_ret;exact⟨by rw[HE.out];rfl,DY.out.drewN _⟩
section
variable {κ α β:Type} [DecidableEq κ]
theorem FC(p:κ×α)(t:List (κ×α))(k:κ):BH (p::t) k=if p.1=k then AA p.2 else BH t k:=by
 unfold BH;rw[BK,Qw];by_cases h:p.1=k;simp[h];(have hb:(p.1==k)=false:=by simp[h]);rw[BM h];simp only[hb];cases (t.map Aa).idxOf? k<;>simp
theorem fG(g:α->β)(t:List (κ×α))(k:κ):BH (t.map λp=>(p.1,g p.2)) k=(BH t k).map g:=by
 induction t with
 |nil=>rfl|cons p r ih=>
  rw[BK,FC,FC,ih];by_cases h:p.1=k<;>simp[h]
end
def Ip (f:List (ByteArray×Nat)):List (ByteArray×AP):=f.map λp=>(p.1,.pointer (AA ⟨p.2,0,AB⟩))
def Eu (t:List (ByteArray×Nat×List (ByteArray×Nat))):List (ByteArray×AP):=t.map λp=>(p.1,.map (AA p.2.1))
structure Tree (w:AL) (tb:Nat) (t:List (ByteArray×Nat×List (ByteArray×Nat))):Prop where
 top:Mp w tb IQ (Eu t)
 sub: ∀p∈t,Mp w p.2.1 IQ (Ip p.2.2)
 apart:(tb::t.map λp=>p.2.1).Nodup
theorem Tree.Ak{w w':AL}{tb:Nat}{t:List (ByteArray×Nat×List (ByteArray×Nat))}{L:List Nat}(h:Tree w tb t)(hc:AZ L w w')(h1:tb∉L)(h2: ∀p∈t,p.2.1∉L):Tree w' tb t:=
 ⟨h.top.Ak hc h1,λp hp=>(h.sub p hp).Ak hc (h2 p hp),h.apart⟩
theorem Tree.Ho{tb:Nat}{t:List (ByteArray×Nat×List (ByteArray×Nat))}(h:Tree w tb t)(hc:AZ [] w w'):Tree w' tb t:=h.Ak hc BC Ej
theorem Eo(t:List (ByteArray×Nat×List (ByteArray×Nat)))(k:ByteArray):BH (Eu t) k=(BH t k).map λd=>Value.map (AA d.1):=
 fG (λd:Nat×List (ByteArray×Nat)=>Value.map (AA d.1)) t k
theorem VX(f:List (ByteArray×Nat))(k:ByteArray):BH (Ip f) k=(BH f k).map λi=>P9 (AA ⟨i,0,AB⟩):=
 fG (λi:Nat=>P9 (AA ⟨i,0,AB⟩)) f k
theorem o7{t:List (ByteArray×Nat×List (ByteArray×Nat))}: ∀p∈Eu t,∃r,p.2=.map (AA r):=by
 intro p hp;obtain⟨q,_,rfl⟩:=Bz.1 hp;exact⟨q.2.1,rfl⟩
def VY (a s:Int) (t:List (ByteArray×Nat×List (ByteArray×Nat))) (dir name:ByteArray):Option Nat×Int:=
 if QR a s (Eu t) true [dir,name]≠0 then (AB,QR a s (Eu t) true [dir,name]) else
 match (BH t dir).bind λd=>BH d.2 name with|none=>(AB,82)|some i=>(AA i,0)
def XZ (r:Option Nat×Int):AP:=.tuple #[.pointer (r.1.map λi=>⟨i,0,AB⟩),.int .i64 r.2]
theorem AHA(b sb:Nat)(a s:Int)(t:List (ByteArray×Nat×List (ByteArray×Nat)))(dir name:ByteArray)(w:AL)
  (h0:w.cell? ⟨b,0,AB⟩=AA (.map (AA sb))) (h5:w.cell? ⟨b,5,AB⟩=AA (.int .i64 a)) (h6:w.cell? ⟨b,6,AB⟩=AA (.int .i64 s))
  (ht:Tree w sb t):
  A7 Af 81 #[.pointer (AA ⟨b,0,AB⟩),.string dir,.string name] w λe w'=>e=.returned (XZ (VY a s t dir name))/\AZ [] w w':=by
 have HT:=AQ ht;have H0:=AQ h0;have H5:=AQ h5;have H6:=AQ h6;clear ht h0 h5 h6;have k70:= @iY;go_enter ANE,Tryz.ntmps81;(go_wp2_with fail);have hal:AZ [] w (w.alloc (.cells #[.string dir,.string name] 9)):=(AZ.refl _ _).alloc _;refine (AB2 b sb a s (Eu t) true _ 2 2 [dir,name] _ (hal.cell H0.out (λh=>BC h)) (hal.cell H5.out (λh=>BC h)) (hal.cell H6.out (λh=>BC h)) (HT.out.top.Ak hal BC) o7 (Own.lit w 9 1 #[.string dir,.string name] 2 Ar rfl).rd Ar (λ_=>by decide)).mono ?_;rintro e w1 ⟨rfl,hc1⟩;have DI:Hid (AZ [] w w1):=AQ (hal.Ap hc1);clear hc1 hal;obtain⟨E,hE⟩: ∃E,QR a s (Eu t) true [dir,name]=E:=⟨_,rfl⟩;rw[hE];have HE:=AQ hE;clear hE;by_cases h:E=0
 ·subst h
  have hne: ∃d,BH t dir=AA d:=by
   cases hd:BH t dir with
   |some d=>exact⟨d,rfl⟩|none=>
    have q:=HE.out;(have hg:BH (Eu t) dir=AB:=by rw[Eo,hd];rfl);unfold QR at q;split at q;(cases q);split at q;(cases q);simp only[List.headD_cons,hg,Option.isNone_none,and_self,if_true] at q;cases q
  obtain⟨d,hd⟩:=hne;have h0:=DI.out.cell H0.out (λh=>BC h);have ht1:=HT.out.Ho DI.out;have hl1:=(Mp.lookup ht1.top (Cj KZ) Iy (z:=.map AB) Aq dir).1;have hl2:=(Mp.lookup (ht1.sub _ (CJ hd)) (Cj KZ) PH (z:=.pointer AB) Aq name).1;rw[show BH (Eu t) dir=AA (.map (AA d.1)) from by rw[Eo,hd];rfl] at hl1;simp only[Dt] at hl1;simp only at hl2;rw[show BH (Ip d.2) name=(BH d.2 name).map (λi=>P9 (AA ⟨i,0,AB⟩)) from VX _ _] at hl2;have HD:=AQ hd;clear hd ht1
  cases hx:BH d.2 name with
  |none=>
   have HR:Hid (VY a s t dir name=(AB,82)):=AQ (by unfold VY;rw[BM (by rw[HE.out];simp),HD.out];simp only[Vx,hx]);rw[hx] at hl2;simp only[Option.map_none,Option.getD_none] at hl2;clear hx;go_wp2
   go_ret2
   exact⟨by rw[HR.out];rfl,DI.out⟩
  |some i=>
   have HR:Hid (VY a s t dir name=(AA i,0)):=AQ (by unfold VY;rw[BM (by rw[HE.out];simp),HD.out];simp only[Vx,hx]);rw[hx] at hl2;simp only[Option.map_some,Dt] at hl2;clear hx;go_wp2
   go_ret2
   exact⟨by rw[HR.out];rfl,DI.out⟩
 (have hb:(E !=0)=true:=by simp[h]);have HR:Hid (VY a s t dir name=(AB,E)):=AQ (by unfold VY;rw[BZ (by rw[HE.out];exact h),HE.out]);clear h;go_wp2
 go_ret2
 exact⟨by rw[HR.out];rfl,DI.out⟩
section
variable {κ α β:Type} [DecidableEq κ]
theorem MW(t:List (κ×α))(k k':κ):BH (without t k) k'=if k=k' then AB else BH t k':=by
 induction t with
 |nil=>unfold without BH;split<;>rfl|cons p r ih=>
  rw[FT,FC];by_cases h:p.1=k
  ·rw[BZ h,ih];by_cases h2:k=k';rw[BZ h2,BZ h2];rw[BM h2,BM h2,BM (λe=>h2 (h▸e))]
  rw[BM h,FC,ih];by_cases h2:p.1=k';rw[BZ h2,BM (λe=>h (h2.trans e.symm)),BZ h2];rw[BM h2,BM h2]
theorem Zb{t:List (κ×α)}(hn:(t.map Aa).Nodup)(k k':κ):BH (I9 t k) k'=if k=k' then AB else BH t k':=by
 rw[MV hn,MW]
theorem IC{t:List (κ×α)}{k:κ}:(BH t k).isSome=true↔k∈t.map Aa:=by
 cases h:BH t k with|none=>rw[En] at h;simp[h]|some v=>exact⟨λ_=>Bz.2 ⟨_,CJ h,rfl⟩,λ_=>rfl⟩
theorem LG{t:List (κ×α)}{p:κ×α}(hn:(t.map Aa).Nodup)(h:p∈t):BH t p.1=AA p.2:=RD hn h
end
section
variable {α:Type}
theorem QS{t:List (ByteArray×α)}(hk:k∉t.map Aa)(v:α)(k':ByteArray):BH (Dx k v t) k'=if k=k' then AA v else BH t k':=by
 induction t with
 |nil=>
  simp only[Dx];rw[FC]
 |cons p r ih=>
  have h1:k≠p.1:=λe=>hk (by simp[e]);have h2:k∉r.map Aa:=λe=>hk (CO _ e);rw[Dx];split;rw[FC];rw[FC,ih h2,FC];by_cases h3:p.1=k';rw[BZ h3,BM (λe=>h1 (e.trans h3.symm)),BZ h3];rw[BM h3,BM h3]
theorem Jk{t:List (ByteArray×α)}(k:ByteArray):k∉(without t k).map Aa:=by
 intro h;obtain⟨p,hp,rfl⟩:=Bz.1 h;unfold without at hp;simp at hp
theorem Ff{t:List (ByteArray×α)}{p:ByteArray×α}:p∈without t k↔p∈t/\p.1≠k:=by
 unfold without;simp
theorem NU{t:List (ByteArray×α)}{v:α}{p:ByteArray×α}:p∈Dx k v t↔p=(k,v)\/p∈t:=by
 rw[(G8 k v t).mem_iff,BB]
end
abbrev Jl:=List (ByteArray×Nat)
abbrev Tr:=List (ByteArray×Jl)
inductive ED where
 |CX (d:ByteArray)|create (d n:ByteArray) (i:Nat)|rename (a b:ByteArray)|remove (d n:ByteArray)|rmdir (d:ByteArray)
def Ey (T:Tr) (d:ByteArray):Jl:=(BH T d).getD []
def ED.on (T:Tr):ED->Tr
 | .CX d=>Dx d [] T| .create d n i=>Dx d (Dx n i (Ey T d)) (without T d)| .rename a b=>Dx b (Ey T a) (without (without T a) b)| .remove d n=>Dx d (without (Ey T d) n) (without T d)| .rmdir d=>without T d
def ED.ok (m:Nat) (T:Tr):ED->Prop
 | .CX d=>CS d=true/\BH T d=AB| .create d n i=>i<m/\CS n=true/\∃F,BH T d=AA F/\BH F n=AB| .rename a b=>CS b=true/\∃F,BH T a=AA F| .remove d _=>∃F,BH T d=AA F| .rmdir d=>∃F,BH T d=AA F
structure Val (m:Nat) (T:Tr):Prop where
 UR:RH T
 sub: ∀p∈T,RH p.2
 ids: ∀p∈T,∀q∈p.2,q.2<m
 nm: ∀p∈T,CS p.1=true
 zW: ∀p∈T,∀q∈p.2,CS q.1=true
theorem Val.Xa{T:Tr}(h:Val m T)(d:ByteArray):RH (Ey T d)/\(∀q∈Ey T d,q.2<m)/\∀q∈Ey T d,CS q.1=true:=by
 unfold Ey
 cases hd:BH T d with|none=>exact⟨List.Pairwise.nil,λq hq=>by simp at hq,λq hq=>by simp at hq⟩|some F=>exact⟨h.sub _ (CJ hd),h.ids _ (CJ hd),h.zW _ (CJ hd)⟩
theorem Val.mono{T:Tr}(h:Val m T)(hm:m<=m'):Val m' T:=⟨h.UR,h.sub,λp hp q hq=>ER (h.ids p hp q hq) hm,h.nm,h.zW⟩
theorem Val.without{m:Nat}{T:Tr}(h:Val m T)(d:ByteArray):Val m (without T d):=
 ⟨h.UR.without d,λp hp=>h.sub p (Ff.1 hp).1,λp hp=>h.ids p (Ff.1 hp).1,λp hp=>h.nm p (Ff.1 hp).1,λp hp=>h.zW p (Ff.1 hp).1⟩
theorem Val.with_{m:Nat}{T:Tr}(h:Val m T){d:ByteArray}{F:Jl}(hd:d∉T.map Aa)(hg:CS d=true)(h1:RH F)(h2: ∀q∈F,q.2<m)(h3: ∀q∈F,CS q.1=true):Val m (Dx d F T):=
 ⟨h.UR.with_ F hd,λp hp=>by rcases NU.1 hp with rfl|hp;exact h1;exact h.sub p hp,λp hp=>by rcases NU.1 hp with rfl|hp;exact h2;exact h.ids p hp,
  λp hp=>by rcases NU.1 hp with rfl|hp;exact hg;exact h.nm p hp,λp hp=>by rcases NU.1 hp with rfl|hp;exact h3;exact h.zW p hp⟩
theorem Val.on{m:Nat}{T:Tr}(h:Val m T){c:ED}(hc:c.ok m T):Val m (c.on T):=by
 cases c with
 |CX d=>exact h.with_ (En.1 hc.2) hc.1 List.Pairwise.nil AV AV|create d n i=>
  obtain⟨hi,hg,F,hF,hn⟩:=hc;(have hf:Ey T d=F:=by unfold Ey;rw[hF];rfl);refine (h.without d).with_ (Jk d) (h.nm _ (CJ hF)) ?_ ?_ ?_;rw[hf];exact (h.sub _ (CJ hF)).with_ i (En.1 hn)
  ·rw[hf];intro q hq;rcases NU.1 hq with rfl|hq;exact hi;exact h.ids _ (CJ hF) q hq
  rw[hf];intro q hq;rcases NU.1 hq with rfl|hq;exact hg;exact h.zW _ (CJ hF) q hq
 |rename a b=>
  exact ((h.without a).without b).with_ (Jk b) hc.1 (h.Xa a).1 (h.Xa a).2.1 (h.Xa a).2.2
 |remove d n=>
  obtain⟨F,hF⟩:=hc;exact (h.without d).with_ (Jk d) (h.nm _ (CJ hF)) ((h.Xa d).1.without n) (λq hq=>(h.Xa d).2.1 q (Ff.1 hq).1) (λq hq=>(h.Xa d).2.2 q (Ff.1 hq).1)
 |rmdir d=>exact h.without d
theorem AEW{x:ByteArray}(h:CS x=true):x.size<=30:=by
 unfold CS at h;simp only[DU,decide_eq_true_eq] at h;omega
def wd (T:Tr):Nat:=(T.map λp=>p.2.length+1).sum
theorem YJ(d:ByteArray)(F:Jl)(T:Tr):wd (Dx d F T)=F.length+1+wd T:=by
 unfold wd;rw[((G8 d F T).map _).sum_nat,BK,Bo]
theorem Xb(T:Tr)(d:ByteArray):wd (without T d)<=wd T:=by
 unfold wd without
 induction T with
 |nil=>simp|cons p r ih=>
  rw[Wh];split;simp only[BK,Bo];omega;simp only[BK,Bo];omega
theorem zX(T:Tr)(d:ByteArray):(Ey T d).length+(if BH T d=AB then 0 else 1)+wd (without T d)<=wd T:=by
 induction T with
 |nil=>simp[Ey,BH,wd,without]|cons p r ih=>
  unfold Ey at ih⊢;rw[FC,FT];by_cases h:p.1=d
  ·rw[BZ h,BZ h];have:=Xb r d;simp only[Dt,wd,BK,Bo] at this⊢;simp;omega
  rw[BM h,BM h];simp only[wd,BK,Bo] at ih⊢;omega
theorem zY(T:Tr):T.length<=wd T:=by
 unfold wd
 induction T with|nil=>simp|cons p r ih=>simp only[ES,BK,Bo];omega
theorem zZ{T:Tr}{p:ByteArray×Jl}(h:p∈T):p.2.length<=wd T:=by
 unfold wd
 induction T with
 |nil=>simp at h|cons q r ih=>
  simp only[BK,Bo];rcases BB.1 h with rfl|h;omega;have:=ih h;omega
theorem AEX(k:ByteArray)(v:α)(t:List (ByteArray×α)):(Dx k v t).length=t.length+1:=by
 rw[(G8 k v t).length_eq,ES]
theorem zf(t:List (ByteArray×α))(k:ByteArray):(without t k).length<=t.length:=xW _ _
theorem ARI{T:Tr}{c:ED}(hc:c.ok m T):wd (c.on T)<=wd T+1:=by
 cases c with
 |CX d=>simp only[ED.on,YJ,List.length_nil];omega|create d n i=>
  obtain⟨hi,hg,F,hF,hn⟩:=hc;have:=zX T d;rw[hF,BM AV] at this;simp only[ED.on,YJ,AEX];omega
 |rename a b=>
  obtain⟨hg,F,hF⟩:=hc;have:=zX T a;rw[hF,BM AV] at this;have:=Xb (without T a) b;simp only[ED.on,YJ];omega
 |remove d n=>
  obtain⟨F,hF⟩:=hc;have:=zX T d;rw[hF,BM AV] at this;have:=zf (Ey T d) n;simp only[ED.on,YJ];omega
 |rmdir d=>simp only[ED.on];have:=Xb T d;omega
abbrev EX:=List Int×List (List Int)
def EX.all (f:EX):List Int:=f.1++f.2.flatten
structure St where
 seen:Tr
 safe:Tr
 D6:List ED
 files:List EX
 wr:List Nat
 BI:Int
 stop:Int
 steps:Nat
def II (T:Tr) (cs:List ED):Tr:=cs.foldl (λt c=>ED.on t c) T
def fH (m:Nat):Tr->List ED->Prop
 |_,[]=>True|T,c::r=>c.ok m T/\fH m (c.on T) r
theorem SN(T:Tr)(cs:List ED)(c:ED):II T (cs++[c])=c.on (II T cs):=by simp[II]
theorem AHB{T:Tr}{cs:List ED}{c:ED}:fH m T (cs++[c])↔fH m T cs/\c.ok m (II T cs):=by
 induction cs generalizing T with|nil=>simp[fH,II]|cons x r ih=>simp only[List.cons_append,fH,ih,II,List.foldl_cons,and_assoc]
theorem Ux{T:Tr}{cs:List ED}(h:fH m T cs)(k:Nat):fH m T (cs.take k):=by
 induction cs generalizing T k with
 |nil=>simpa using h|cons x r ih=>
  cases k with|zero=>exact Am|succ k=>exact⟨h.1,ih h.2 k⟩
theorem AMC{T:Tr}{cs:List ED}(h:fH m T cs){i:Nat}{c:ED}(hi:cs[i]? =AA c):c.ok m (II T (cs.take i)):=by
 induction cs generalizing T i with
 |nil=>simp at hi|cons x r ih=>
  cases i with|zero=>simp at hi;subst hi;exact h.1|succ i=>simp at hi;simpa[II] using ih h.2 hi
theorem ED.AJ6{T:Tr}{c:ED}(h:c.ok m T)(hm:m<=m'):c.ok m' T:=by
 cases c<;>first|exact h|exact⟨ER h.1 hm,h.2⟩
theorem AHC{T:Tr}{cs:List ED}(h:fH m T cs)(hm:m<=m'):fH m' T cs:=by
 induction cs generalizing T with|nil=>trivial|cons x r ih=>exact⟨ED.AJ6 h.1 hm,ih h.2⟩
theorem Val.run{T:Tr}{cs:List ED}(h:Val m T)(hc:fH m T cs):Val m (II T cs):=by
 induction cs generalizing T with|nil=>exact h|cons x r ih=>exact ih (h.on hc.1) hc.2
theorem zg{T:Tr}{cs:List ED}(hc:fH m T cs):wd (II T cs)<=wd T+cs.length:=by
 induction cs generalizing T with
 |nil=>simp[II]|cons x r ih=>
  have h1:=ARI hc.1;have h2:=ih hc.2;simp only[II,List.foldl_cons,ES] at h2⊢;omega
def Ic (fs:List EX):Nat:=(fs.map λf=>f.all.length+f.2.length).sum
theorem AFv{fs:List EX}{f:EX}(h:f∈fs):f.all.length+f.2.length<=Ic fs:=by
 unfold Ic
 induction fs with
 |nil=>simp at h|cons q r ih=>
  simp only[BK,Bo];rcases BB.1 h with rfl|h;omega;have:=ih h;omega
structure Inv (B:Nat) (S:St):Prop where
 safe:Val S.files.length S.safe
 D6:fH S.files.length S.safe S.D6
 seen:II S.safe S.D6=S.seen
 wr: ∀x∈S.wr,x<S.files.length
 zh:wd S.safe+S.D6.length<=B
 nf:S.files.length<=B
 bulk:Ic S.files<=B
 nw:S.wr.length<=B
 st:S.steps<=B
 BI:0<=S.BI/\S.BI<=9223372036854775807
theorem Inv.val{S:St}(h:Inv B S):Val S.files.length S.seen:=by rw[<- h.seen];exact h.safe.run h.D6
theorem Inv.wd{B:Nat}{S:St}(h:Inv B S):wd S.seen<=B:=by rw[<- h.seen];have:=zg h.D6;have:=h.zh;omega
theorem Inv.mono{B':Nat}{S:St}(h:Inv B S)(hb:B<=B'):Inv B' S:=by
 obtain⟨h1,h2,h3,h4,h5,h6,h7,h8,h9,h10⟩:=h;exact⟨h1,h2,h3,h4,Ad,Ad,Ad,Ad,Ad,h10⟩
def St.down (S:St):Bool:=UO S.stop S.steps
def St.ask (S:St) (there:Bool) (ns:List ByteArray):Int:=
 if S.down=true then 80 else if ns.all CS=false then 81 else if there=true/\(BH S.seen (ns.headD Lu)).isNone=true then 82 else 0
def St.Oa (S:St) (d n:ByteArray):Option Nat×Int:=
 if S.ask true [d,n]≠0 then (AB,S.ask true [d,n]) else match BH (Ey S.seen d) n with|none=>(AB,82)|some i=>(AA i,0)
def St.bytes (S:St) (i:Nat):List Int:=EX.all (S.files.getD i ([],[]))
def St.view (S:St):List (ByteArray×List (ByteArray×List Int)):=
 if S.down=true then [] else S.seen.map λp=>(p.1,p.2.map λq=>(q.1,S.bytes q.2))
def bytesOf (D:List (ByteArray×List (ByteArray×List Int))):Nat:=(D.map λp=>(p.2.map λq=>q.2.length).sum).sum
def St.used (S:St):Nat:=bytesOf S.view
def St.keep (S:St) (ks:List Bool) (x:Nat):List Bool:=((S.wr.zipIdx.filter λp=>p.1==x).map λp=>(ks[p.2]?).getD false)
def St.after (S:St) (ks:List Bool) (i:Nat):List Int:=let f:=S.files.getD i ([],[]);PL f.1 f.1.length f.2 (S.keep ks i)
def St.left (S:St) (ks:List Bool) (names:Int):List (ByteArray×List (ByteArray×List Int)):=
 (II S.safe (S.D6.take names.toNat)).map λp=>(p.1,p.2.map λq=>(q.1,S.after ks q.2))
def St.make (S:St) (c:ED):St:={S with seen:=c.on S.seen,D6:=S.D6++[c],steps:=S.steps+1}
def St.CX (S:St) (d:ByteArray):St×Int:=
 if S.ask false [d]≠0 then (S,S.ask false [d]) else if (BH S.seen d).isSome=true then (S,83) else (S.make (.CX d),0)
def St.create (S:St) (d n:ByteArray):St×Int:=
 if S.ask true [d,n]≠0 then (S,S.ask true [d,n]) else if (BH (Ey S.seen d) n).isSome=true then (S,83) else
  (({S with files:=S.files++[([],[])]}:St).make (.create d n S.files.length),0)
def St.write (S:St) (d n:ByteArray) (data:List Int):St×Int:=
 match S.Oa d n with
 |(AB,e)=>(S,e)
 |(AA x,_)=>if data=[] then ({S with steps:=S.steps+1},0) else if S.BI<(S.used:Int)+data.length then (S,85) else
  ({S with files:=S.files.modify x (λf=>(f.1,f.2++[data])),wr:=S.wr++[x],steps:=S.steps+1},0)
def St.sync (S:St) (d n:ByteArray):St×Int:=
 match S.Oa d n with|(AB,e)=>(S,e)|(AA x,_)=>({S with files:=S.files.modify x (λf=>(EX.all f,[])),wr:=S.wr.filter (λy=>y !=x),steps:=S.steps+1},0)
def St.names (S:St):St×Int:=
 if S.down=true then (S,80) else ({S with safe:=S.seen,D6:=[],steps:=S.steps+1},0)
def St.rename (S:St) (a b:ByteArray):St×Int:=
 if S.ask true [a,b]≠0 then (S,S.ask true [a,b]) else (S.make (.rename a b),0)
def St.remove (S:St) (d n:ByteArray):St×Int:=
 match S.Oa d n with|(AB,e)=>(S,e)|(AA _,_)=>(S.make (.remove d n),0)
def St.rmdir (S:St) (d:ByteArray):St×Int:=
 if S.ask true [d]≠0 then (S,S.ask true [d]) else if (Ey S.seen d).length>0 then (S,85 - 1) else (S.make (.rmdir d),0)
def St.list (S:St) (d:ByteArray):List ByteArray×Int:=
 if S.ask true [d]≠0 then ([],S.ask true [d]) else ((Ey S.seen d).map Aa,0)
def St.MG (S:St):List ByteArray×Int:=if S.down=true then ([],80) else (S.seen.map Aa,0)
theorem o8{c:Nat}{xs:List Int}(h:Rd w 1 A n c (bv xs)):(convert 62 9 (.slice A n c)).run Af w=.ok (.string (FQ xs)) w:=by
 have hl:xs.length=n:=by have:=h.1;simp at this;omega
 cases A with
 |none=>
  have h1:=h.2.2.2.1 rfl;have h2:=h.2.1;have hx:xs=[]:=TF Ad;subst hx;exact run_convert_bytes_nil w 62 5 vJ VU5 _ _ _ KZ
 |some ad=>
  have hld:(loadCells ad n).run Af w=.ok (bv xs).toArray w:=by
   have:=run_loadCells_list (P:=Af) w ad (bv xs) (λj v hj=>(h.2.2.2.2 ad rfl).2 j v hj);simpa[hl] using this
  rw[run_convert_bytes_string w _ _ _ _ n c vJ VU5 KZ,run_bytesToString w ad n c xs hld,foldl_push_bytes];simp[FQ,Lu,ByteArray.emptyWithCapacity];rfl
def bH (p:Prop) (w:AL) (e:Ending) (w':AL):Prop:=∃b:Bool,e=.returned (.bool b)/\(p->b=true)/\AZ [] w w'
theorem AEY(A:Option Addr)(n c:Nat)(xs:List Int)(B:Option Addr)(m d:Nat)(ys:List Int)(w:AL)(ha:Rd w 1 A n c (bv xs))(hb:Rd w 1 B m d (bv ys)):
  A7 Af 65 #[.slice A n c,.slice B m d] w (bH (xs=ys) w):=by
 have h1:=o8 ha;have h2:=o8 hb;obtain⟨s,hs⟩: ∃s,FQ xs=s:=⟨_,rfl⟩;obtain⟨t,ht⟩: ∃t,FQ ys=t:=⟨_,rfl⟩;rw[hs] at h1;rw[ht] at h2;have HST:Hid (xs=ys->s=t):=AQ (by rintro rfl;rw[<- hs,<- ht]);clear ha hb hs ht;go_enter AM8,Tryz.ntmps65;go_wp2;go_ret;refine⟨_,rfl,λh=>?_,AZ.refl _ _⟩;rw[HST.out h];simp
end
end Go.Proofs.YtkkgcebhfghdnaaGreatDoor.Vw
