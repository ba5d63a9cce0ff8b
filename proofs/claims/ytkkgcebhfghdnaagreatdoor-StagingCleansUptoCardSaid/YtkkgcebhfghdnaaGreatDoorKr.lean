/- Part 18 of what that rests on; no condition. -/
import Derived.Test.YtkkgcebhfghdnaaGreatDoorKq
import Derived.BigQuiet
import Derived.Laws.BytesArg
import Derived.Laws.StructEq
import Derived.StringKeys
set_option maxRecDepth 100000
set_option maxHeartbeats 8000000
namespace Go.Proofs.YtkkgcebhfghdnaaGreatDoor.Vw
open Go.RowKit
def TZ (a s:Int):Bool:=decide (0<=a) && decide (a<=s)
theorem sK(b:Nat)(a s:Int)(w:World)(h5:w.cell? ⟨b,5,none⟩=some (.int .i64 a))(h6:w.cell? ⟨b,6,none⟩=some (.int .i64 s)):
  Calls Ae 61 #[.pointer (some ⟨b,0,none⟩)] w λe w'=>e=.returned (.bool (TZ a s))/\AZ [] w w':=by
 by_cases ha:0<=a
 ·(have d1:decide (0<=a)=true:=by simp[ha]);have HD:Hid (TZ a s=decide (a<=s)):=AQ (by unfold TZ;rw[d1,Bool.true_and]);clear ha;go_enter AHM,Tryz.ntmps61;go_wp2;go_quiet (fail);go_wp2;go_ret;exact⟨by rw[HD.out];rfl,(AZ.refl [] w).drewN _⟩
 (have d1:decide (0<=a)=false:=by simp;omega);have HD:Hid (TZ a s=false):=AQ (by unfold TZ;rw[d1,Bool.false_and]);clear ha;go_enter AHM,Tryz.ntmps61;go_wp2;go_quiet (fail);go_wp2;go_ret;exact⟨by rw[HD.out];rfl,(AZ.refl [] w).drewN _⟩
theorem lU(b:Nat)(s:Int)(w:World)(h6:w.cell? ⟨b,6,none⟩=some (.int .i64 s)):
  Calls Ae 23 #[.pointer (some ⟨b,0,none⟩)] w λe w'=>e=.returned (.int .i64 s)/\w'=w:=by
 go_enter AKV,Tryz.ntmps23;go_wp2;go_ret;exact⟨rfl,rfl⟩
def UQ (a b:ByteArray):Bool:=Op.bytesLess a.toList b.toList || a.toList==b.toList
theorem U1(a b:ByteArray)(w:World):(binOp .leq 9 (.string a) (.string b)).run Ae w=.ok (.bool (UQ a b)) w:=by
 simp[binOp,Op.stringOp,UQ]
def Gn (f:Bool) (last name:ByteArray):Int:=if DR name=false then 81 else if f=false/\UQ name last=true then 6 else 0
theorem Zp(f:Bool)(last name:ByteArray)(w:World):
  Calls Ae 58 #[.bool f,.string last,.string name] w λe w'=>e=.returned (.int .i64 (Gn f last name))/\w'=w:=by
 have hle:=λw=>U1 name last w
 cases hg:DR name with
 |false=>
  have HR:Hid (Gn f last name=81):=AQ (by unfold Gn;rw[if_pos hg]);have k36:= @rZ;go_enter AAS,Tryz.ntmps58;(go_wp2_with fail);refine (Q3 name _).mono ?_;rintro e w1 ⟨rfl,rfl⟩;rw[hg];go_wp2;go_ret;exact⟨by rw[HR.out];rfl,rfl⟩
 |true=>
  cases f with
  |true=>
   have HR:Hid (Gn true last name=0):=AQ (by unfold Gn;rw[if_neg (by simp[hg]),if_neg AY]);have k36:= @rZ;go_enter AAS,Tryz.ntmps58;(go_wp2_with fail);refine (Q3 name _).mono ?_;rintro e w1 ⟨rfl,rfl⟩;rw[hg];go_wp2;go_ret;exact⟨by rw[HR.out];rfl,rfl⟩
  |false=>
   cases hl:UQ name last with
   |true=>
    have HR:Hid (Gn false last name=6):=AQ (by unfold Gn;rw[if_neg (by simp[hg]),if_pos ⟨rfl,hl⟩]);rw[hl] at hle;have k36:= @rZ;go_enter AAS,Tryz.ntmps58;(go_wp2_with fail);refine (Q3 name _).mono ?_;rintro e w1 ⟨rfl,rfl⟩;rw[hg];go_wp2;go_ret;exact⟨by rw[HR.out];rfl,rfl⟩
   |false=>
    have HR:Hid (Gn false last name=0):=AQ (by unfold Gn;rw[if_neg (by simp[hg]),if_neg (by simp[hl])]);rw[hl] at hle;have k36:= @rZ;go_enter AAS,Tryz.ntmps58;(go_wp2_with fail);refine (Q3 name _).mono ?_;rintro e w1 ⟨rfl,rfl⟩;rw[hg];go_wp2;go_ret;exact⟨by rw[HR.out];rfl,rfl⟩
open Go.Maps Go.Sort Go.Shelf
theorem insert_perm{H:Type}(x:Lit×DataW H): ∀l:List (Lit×DataW H),(DataW.insert x l).Perm (x::l)
 | []=>EF _
 |y::r=>by
  unfold DataW.insert;split;exact EF _;exact ((insert_perm x r).cons y).trans (List.Perm.swap x y r)
theorem Tc{H:Type}: ∀l:List (Lit×DataW H),(l.foldr DataW.insert []).Perm l
 | []=>EF _|x::r=>(insert_perm x _).trans ((Tc r).cons x)
abbrev IA:ByteArray->Value:=λz=>Value.string z
def AAc:Value->Option (DataW Unit×List MemPlace):=λ_=>some (.nil,[])
def Vu (ks:List ByteArray):List ByteArray:=((ks.map (·.data.toList)).mergeSort (λx y=>decide (x<=y))).map λl=>⟨l.toArray⟩
def Oi (ks:List ByteArray):List Value:=ks.map Value.string
theorem Mp.owns{w:World}{b:Nat}{m:List (ByteArray×Value)}(h:Mp w b IA m){kt:TypeId}(hkt:Ae.underlying kt=some .string)(hk: ∀p∈m,p.1.size<=maxLen)(hm:m.length<=maxLen):
  ∃D:DataW Unit,w.ownsMap Ae kt AAc b m.length D/\(strKeys D).Perm ((m.map Prod.fst).map (·.data.toList))/\Maps.size D=m.length:=by
 obtain⟨es,clock,hb,he,hn,hs,hc⟩:=h;(have hlen:es.toList.length=m.length:=by have:=congrArg List.length he;simpa using this);have hkeys:=Mp.keys he
 have hat: ∀x∈es.toList,∃k:ByteArray,x.key=Value.string k/\k.size<=maxLen:=by
  intro x hx;have:x.key∈es.toList.map (·.key):=Ag.2 ⟨x,hx,rfl⟩;rw[hkeys] at this;obtain⟨k,hk1,hk2⟩:=Ag.1 this;obtain⟨p,hp1,rfl⟩:=Ag.1 hk1;exact⟨p.1,hk2.symm,hk p hp1⟩
 have hrd: ∀x∈es.toList,∃k:ByteArray,x.key=Value.string k/\WideElems.rd Ae kt AAc x=some (.string k.data.toList,.nil):=by
  intro x hx;obtain⟨k,h1,h2⟩:=hat x hx;refine⟨k,h1,?_⟩;unfold WideElems.rd;rw[h1,WideMaps.keyOf_string_mk hkt h2];rfl
 refine⟨_,⟨es,clock,hb,⟨by rw[<- Array.length_toList,hlen];exact hm,⟨hc,hs,?_⟩,λx hx=>?_⟩,by rw[<- Array.length_toList,hlen];exact AP _,rfl⟩,?_,?_⟩
 ·rw[hkeys];exact List.Pairwise.map IA (R:=(· ≠ ·)) (S:=(· ≠ ·)) (λa b hab e=>hab (by injection e)) hn
 obtain⟨k,_,h2⟩:=hrd x hx;exact⟨_,h2⟩
 ·show (((es.toList.map (WideElems.rg Ae kt AAc)).foldr DataW.insert []).map λp=>strOf p.1).Perm _;refine ((Tc _).map _).trans ?_
  have:(es.toList.map (WideElems.rg Ae kt AAc)).map (λp=>strOf p.1)=(m.map Prod.fst).map (·.data.toList):=by
   rw[Bq]
   have h2:(es.toList.map λx=>match x.key with| .string a=>a.data.toList|_=>[])=(m.map Prod.fst).map (·.data.toList):=by
    have:=congrArg (List.map λv:Value=>match v with| .string a=>a.data.toList|_=>[]) hkeys;rw[Bq,Bq] at this;exact this
   rw[<- h2];refine ES λx hx=>?_;obtain⟨k,h3,h4⟩:=hrd x hx;simp only[Function.comp_apply,WideElems.rg,h4,h3,Option.getD_some,strOf]
  rw[this]
 show (((es.toList.map (WideElems.rg Ae kt AAc)).foldr DataW.insert [])).length=_;rw[(Tc _).length_eq,BH,hlen]
theorem sortsA(m:Nat):AnyZ.SortsIn Ae Ai.sortedA_ren Fence.wide m:=
 ⟨λblk off cap ss W hH hblk hsz=>callsIn_wide.2 (AnyM.slices_Sort_string Ai.sortA blk off cap ss W hH hblk hsz),
  λp cap W=>callsIn_wide.2 (AnyM.slices_Sort_string_none Ai.sortA p cap W)⟩
theorem lV(mb:Option Nat)(W:World):Calls Ae 88 #[.map mb] W λe w'=>e=.returned (.func (.func 124) #[] #[.pointer (some ⟨W.heap.size,0,none⟩)])/\w'=W.alloc (.cells #[.map mb] 112):=
 (callsIn_wide (n:=5)).1 (AnyZ.keys_in Ai.AD8 Fence.wide 5 trivial rfl mb W)
theorem lW(mb:Option Nat)(W:World):Calls Ae 89 #[.map mb] W λe w'=>e=.returned (.func (.func 125) #[] #[.pointer (some ⟨W.heap.size,0,none⟩)])/\w'=W.alloc (.cells #[.map mb] 130):=
 (callsIn_wide (n:=5)).1 (AnyZ.keys_in Ai.AD9 Fence.wide 5 trivial rfl mb W)
theorem YM{W w':World}{m:List (ByteArray×Value)}{D:DataW Unit}{v:Value}{ss:List (List UInt8)}(hperm:(strKeys D).Perm ((m.map Prod.fst).map (·.data.toList)))(hp:ss.Perm (strKeys D))
  (hrow:w'.ownsRow W.heap.size 9 1 v ss.length ((ss.mergeSort (λx y=>decide (x<=y))).map encStr)) (hb:Below W.heap.size W w'):
  Ko 9 1 W (Oi (Vu (m.map Prod.fst))) m.length (.returned v) w':=by
 (have hlen:ss.length=m.length:=by rw[(hp.trans hperm).length_eq,BH,BH]);have hse:ss.mergeSort (λx y=>decide (x<=y))=((m.map Prod.fst).map (·.data.toList)).mergeSort (λx y=>decide (x<=y)):=mergeSort_of_perm (hp.trans hperm)
 have hsv:Oi (Vu (m.map Prod.fst))=(((m.map Prod.fst).map (·.data.toList)).mergeSort (λx y=>decide (x<=y))).map encStr:=by
  unfold Oi Vu;rw[Bq];rfl
 rw[hse,hlen,<- hsv] at hrow;rcases hrow.2 with ⟨hv,hz⟩|⟨g,cap,cur,hv,hbase,hr⟩
 ·subst hv;refine⟨none,0,by rw[hz],⟨hrow.1,.inl ⟨by rw[hz],hz⟩⟩,AZ.of_below hb [],AY⟩
 subst hv;exact⟨_,cap,rfl,⟨hrow.1,.inr ⟨g,cap,cur,rfl,BP _,hr⟩⟩,AZ.of_below hb [],by simpa using hbase⟩
theorem wQ(W:World)(b:Nat)(m:List (ByteArray×Value))(h:Mp W b IA m)(hk: ∀p∈m,p.1.size<=maxLen)(hm:m.length<=1073741824):
  Calls Ae 87 #[.func (.func 124) #[] #[.pointer (some ⟨W.heap.size,0,none⟩)]] (W.alloc (.cells #[.map (some b)] 112)) (Ko 9 1 (W.alloc (.cells #[.map (some b)] 112)) (Oi (Vu (m.map Prod.fst))) m.length):=by
 obtain⟨D,hown,hperm,hsz⟩:=h.owns J4 hk (by unfold maxLen;omega);have hbl:=hown.lt
 have hseq:SeqGives Fence.wide 2 Ae 124 #[.pointer (some ⟨W.heap.size,0,none⟩)] encStr (λss=>ss.Perm (strKeys D)) (Maps.size D) (W.alloc (.cells #[.map (some b)] 112)):=
  AnyZ.keys_gives (ρ:=Ai.fQ) {Ai.AD8 with} Fence.wide _ trivial rfl Ac W.heap.size b m.length D _ AY AY (by
   obtain⟨es,clock,hb,Ft,hs,hD⟩:=hown
   exact⟨es,clock,(Below.heap_alloc _ _ b hbl).trans hb,Ft,hs,hD⟩)
 have cS:=AnyZ.sorted_in Ai.sortedA Fence.wide 5 trivial trivial trivial trivial rfl Ac (sortsA _) (enters_of ACk Ap rfl) 124 #[.pointer (some ⟨W.heap.size,0,none⟩)] trivial (enters_of AHS Ap rfl) _ _ (by rw[hsz];unfold maxLen;omega) (by rw[hsz];omega) _ hseq;change CallsIn _ _ Ae 87 _ _ _ at cS;refine ((callsIn_wide (n:=5)).1 cS).mono ?_;rintro e w' ⟨v,ss,rfl,hp,hrow,hnil,hb⟩;exact YM hperm hp hrow hb
theorem wR(W:World)(b:Nat)(m:List (ByteArray×Value))(h:Mp W b IA m)(hk: ∀p∈m,p.1.size<=maxLen)(hm:m.length<=1073741824):
  Calls Ae 87 #[.func (.func 125) #[] #[.pointer (some ⟨W.heap.size,0,none⟩)]] (W.alloc (.cells #[.map (some b)] 130)) (Ko 9 1 (W.alloc (.cells #[.map (some b)] 130)) (Oi (Vu (m.map Prod.fst))) m.length):=by
 obtain⟨D,hown,hperm,hsz⟩:=h.owns J4 hk (by unfold maxLen;omega);have hbl:=hown.lt
 have hseq:SeqGives Fence.wide 2 Ae 125 #[.pointer (some ⟨W.heap.size,0,none⟩)] encStr (λss=>ss.Perm (strKeys D)) (Maps.size D) (W.alloc (.cells #[.map (some b)] 130)):=
  AnyZ.keys_gives (ρ:=Ai.fU) {Ai.AD9 with} Fence.wide _ trivial rfl Ac W.heap.size b m.length D _ AY AY (by
   obtain⟨es,clock,hb,Ft,hs,hD⟩:=hown
   exact⟨es,clock,(Below.heap_alloc _ _ b hbl).trans hb,Ft,hs,hD⟩)
 have cS:=AnyZ.sorted_in Ai.sortedA Fence.wide 5 trivial trivial trivial trivial rfl Ac (sortsA _) (enters_of ACk Ap rfl) 125 #[.pointer (some ⟨W.heap.size,0,none⟩)] trivial (enters_of AHT Ap rfl) _ _ (by rw[hsz];unfold maxLen;omega) (by rw[hsz];omega) _ hseq;change CallsIn _ _ Ae 87 _ _ _ at cS;refine ((callsIn_wide (n:=5)).1 cS).mono ?_;rintro e w' ⟨v,ss,rfl,hp,hrow,hnil,hb⟩;exact YM hperm hp hrow hb
theorem AAd(W:World)(b:Nat)(m:List (ByteArray×Value))(h:Mp W b IA m):
  Calls Ae 86 #[.map (some b)] W λe w'=>e=.returned (.map (some W.heap.size))/\Mp w' W.heap.size IA m/\AZ [] W w':=by
 obtain⟨es,clock,hb,he,hn,hs,hc⟩:=h;have c:=AnyW.maps_Clone Ai.AQj b es clock W hb;change Calls Ae 86 _ _ _ at c;refine c.mono ?_;rintro e w' ⟨rfl,rfl⟩;exact⟨rfl,⟨es,clock,(MapKept.heap_alloc W _).1,he,hn,hs,hc⟩,(AZ.refl _ _).alloc _⟩
theorem ACv(l:List ByteArray):(l.map (·.data.toList)).map (λl=>(⟨l.toArray⟩:ByteArray))=l:=by
 rw[Bq]
 conv=>rhs;rw[<- List.map_id l]
 exact ES λx _=>by cases x;rfl
theorem AEA{α β:Type}{m:List (ByteArray×β)}{t:List (ByteArray×α)}(hp:(m.map Prod.fst).Perm (t.map Prod.fst))(hs:Rw t):Vu (m.map Prod.fst)=t.map Prod.fst:=by
 unfold Vu;rw[show ((m.map Prod.fst).map (·.data.toList)).mergeSort (λx y=>decide (x<=y))=((t.map Prod.fst).map (·.data.toList)).mergeSort (λx y=>decide (x<=y)) from mergeSort_of_perm (hp.map _)];rw[List.mergeSort_of_pairwise];exact ACv _;refine List.Pairwise.map _ (λa b hab=>?_) hs;rw[RZ] at hab;simp only[decide_eq_true_eq];exact List.le_of_lt hab
def AAe (m:List (ByteArray×Value)) (k:ByteArray):Value:=(BJ m k).getD (.map none)
def Py (a s:Int) (m:List (ByteArray×Value)) (there:Bool) (ns:List ByteArray):Int:=
 if TZ a s=true then 80 else if ns.all DR=false then 81 else if there=true/\(BJ m (ns.headD ByteArray.empty)).isNone=true then 82 else 0
theorem wS{w:World}{A:Option Addr}{n c:Nat}{ns:List ByteArray}(h:Rd w 1 A n c (Oi ns)){j:Nat}(hj:j<n):
  ∃ad s,A=some ad/\ns[j]? =some s/\w.cell? (ad.add j)=some (.string s):=by
 obtain⟨ad,u,hA,hx,hc⟩:=h.bT hj;unfold Oi at hx;rw[AV] at hx
 cases hs:ns[j]? with|none=>rw[hs] at hx;cases hx|some s=>rw[hs] at hx;simp at hx;subst hx;exact⟨ad,s,hA,rfl,hc⟩
theorem AAf(b sb:Nat)(a s:Int)(m:List (ByteArray×Value))(there:Bool)(A:Option Addr)(n c:Nat)(ns:List ByteArray)(w:World)
  (h0:w.cell? ⟨b,0,none⟩=some (.map (some sb))) (h5:w.cell? ⟨b,5,none⟩=some (.int .i64 a)) (h6:w.cell? ⟨b,6,none⟩=some (.int .i64 s))
  (hm:Mp w sb IA m) (hv: ∀p∈m,∃r,p.2=.map (some r)) (hr:Rd w 1 A n c (Oi ns)) (hn:n<=1073741824) (ht:there=true->0<n):
  Calls Ae 70 #[.pointer (some ⟨b,0,none⟩),.bool there,.slice A n c] w λe w'=>e=.returned (.int .i64 (Py a s m there ns))/\AZ [] w w':=by
 (have hl:ns.length=n:=by have:=hr.1;simp[Oi] at this;omega);have HR:=AQ hr;have HL:=AQ hl;have HMP:=AQ hm;have HV:=AQ hv;have H0:=AQ h0;have HT:=AQ ht;clear hr hl hm hv h0 ht;have k36:= @rZ;have k61:= @AHi;go_enter AKw,Tryz.ntmps70;(go_wp2_with fail);refine (sK b a s w h5 h6).mono ?_;rintro e w1 ⟨rfl,hc1⟩;have DC:=AQ hc1;clear hc1 h5 h6
 cases hd:TZ a s with
 |true=>
  have HE:Hid (Py a s m there ns=80):=AQ (by unfold Py;rw[if_pos hd]);clear hd;go_wp2;go_ret;exact⟨by rw[HE.out];rfl,DC.out⟩
 |false=>
  have HD:=AQ hd;clear hd;go_wp2;go_loopw [13] (λq wr=>∃i:Nat,i<=n/\q=.int .i64 i/\(∀x∈ns.take i,DR x=true)/\AZ [] w wr) (λq _=>n - (intOf q).toNat)
  case atStart=>exact⟨0,BP _,rfl,AY,DC.out⟩
  obtain⟨i,hi,rfl,hall,hch⟩:=hrel;have Lc:=AQ hall;have Dc:=AQ hch;clear hall hch;by_cases hlt:i<n
  ·(have hlt':(i:Int)<n:=by omega);obtain⟨ad,x,rfl,hx,hcell⟩:=wS (HR.out.Am Dc.out EY) hlt;have HX:=AQ hx;clear hx;(go_wp2_with fail);refine (Q3 x _).mono ?_;rintro e w3 ⟨rfl,rfl⟩
   cases hg:DR x with
   |false=>
    have HE:Hid (Py a s m there ns=81):=AQ (by
     unfold Py
     rw[if_neg (by rw[HD.out];simp),if_pos (by rw[List.all_eq_false];exact⟨x,Aa HX.out,by simp[hg]⟩)])
    clear hg;go_wp2;go_ret;exact⟨by rw[HE.out];rfl,Dc.out⟩
   |true=>
    have HG:=AQ hg;clear hg;go_wp2;go_roundw
    case rel=>
     refine⟨i+1,Ac,by go_num,λy hy=>?_,Dc.out⟩;rw[take_snoc _ _ _ HX.out] at hy;rcases AU.1 hy with h|h;exact Lc.out y h;simp at h;subst h;exact HG.out
    simp[intOf];omega
  (obtain rfl:i=n:=by omega);have HAL:Hid (ns.all DR=true):=AQ (CO.2 (λx hx=>Lc.out x (by rw[Bc (by rw[HL.out];exact AP _)];exact hx)))
  cases there with
  |false=>
   have HE:Hid (Py a s m false ns=0):=AQ (by unfold Py;rw[if_neg (by rw[HD.out];simp),if_neg (by rw[HAL.out];simp),if_neg AY]);(go_wp2_with fail);go_quiet (fail);go_wp2;go_ret;exact⟨by rw[HE.out];rfl,Dc.out.drewN _⟩
  |true=>
   have hn0:=HT.out rfl;obtain⟨ad,x,rfl,hx,hcell⟩:=wS (HR.out.Am Dc.out EY) hn0;(have hcell0:wr.cell? ad=some (.string x):=by simpa[Addr.add] using hcell);(have hn1:(0:Int)<(i:Int):=by omega);have hq:=λw r=>run_eql_map_nil (P:=Ae) w 130 _ _ r Oc;have h0:=Dc.out.cell H0.out (λh=>AB h);have hmp:=HMP.out.Am Dc.out (λh=>AB h);have hlk: ∀q,(Instr.lookup 112 (.map (some sb)) (.string x) false).run Ae (wr.drewN q)=.ok (AAe m x) (wr.drewN q):=λq=>(Mp.lookup (hmp.Am ((AZ.refl [] wr).drewN q) (λh=>AB h)) (Cm J4) IZ (z:=.map none) Ap x).1
   have hhd:ns.headD ByteArray.empty=x:=by
    cases ns with|nil=>simp at hx|cons y r=>simp at hx;exact hx
   have HHD:=AQ hhd;clear hx hcell hmp hhd;rcases hdv:BJ m x with _|v
   ·(have o9:AAe m x=.map none:=by unfold AAe;rw[hdv];rfl);have HE:Hid (Py a s m true ns=82):=AQ (by unfold Py;rw[if_neg (by rw[HD.out];simp),if_neg (by rw[HAL.out];simp),if_pos ⟨rfl,by rw[HHD.out,hdv];rfl⟩]);rw[o9] at hlk;clear o9 hdv;(go_wp2_with fail);go_quiet (fail);go_wp2;go_ret;exact⟨by rw[HE.out];rfl,Dc.out.drewN _⟩
   obtain⟨r,Xy⟩:=HV.out _ (CP hdv);(have o9:AAe m x=.map (some r):=by unfold AAe;rw[hdv];exact Xy);have HE:Hid (Py a s m true ns=0):=AQ (by unfold Py;rw[if_neg (by rw[HD.out];simp),if_neg (by rw[HAL.out];simp),if_neg (by rintro⟨_,h⟩;rw[HHD.out,hdv] at h;cases h)]);rw[o9] at hlk;clear o9 hdv Xy;(go_wp2_with fail);go_quiet (fail);go_wp2;go_ret;exact⟨by rw[HE.out];rfl,Dc.out.drewN _⟩
section
variable {κ α β:Type} [DecidableEq κ]
theorem Fg(p:κ×α)(t:List (κ×α))(k:κ):BJ (p::t) k=if p.1=k then some p.2 else BJ t k:=by
 unfold BJ;rw[AL,En];by_cases h:p.1=k;simp[h];(have hb:(p.1==k)=false:=by simp[h]);rw[if_neg h];simp only[hb];cases (t.map Prod.fst).idxOf? k<;>simp
theorem bY(g:α->β)(t:List (κ×α))(k:κ):BJ (t.map λp=>(p.1,g p.2)) k=(BJ t k).map g:=by
 induction t with
 |nil=>rfl|cons p r ih=>
  rw[AL,Fg,Fg,ih];by_cases h:p.1=k<;>simp[h]
end
def IU (f:List (ByteArray×Nat)):List (ByteArray×Value):=f.map λp=>(p.1,.pointer (some ⟨p.2,0,none⟩))
def Ef (t:List (ByteArray×Nat×List (ByteArray×Nat))):List (ByteArray×Value):=t.map λp=>(p.1,.map (some p.2.1))
structure Tree (w:World) (tb:Nat) (t:List (ByteArray×Nat×List (ByteArray×Nat))):Prop where
 top:Mp w tb IA (Ef t)
 sub: ∀p∈t,Mp w p.2.1 IA (IU p.2.2)
 apart:(tb::t.map λp=>p.2.1).Nodup
theorem Tree.Am{w w':World}{tb:Nat}{t:List (ByteArray×Nat×List (ByteArray×Nat))}{L:List Nat}(h:Tree w tb t)(hc:AZ L w w')(h1:tb∉L)(h2: ∀p∈t,p.2.1∉L):Tree w' tb t:=
 ⟨h.top.Am hc h1,λp hp=>(h.sub p hp).Am hc (h2 p hp),h.apart⟩
theorem Tree.GK{w w':World}{tb:Nat}{t:List (ByteArray×Nat×List (ByteArray×Nat))}(h:Tree w tb t)(hc:AZ [] w w'):Tree w' tb t:=h.Am hc AB EY
theorem EZ(t:List (ByteArray×Nat×List (ByteArray×Nat)))(k:ByteArray):BJ (Ef t) k=(BJ t k).map λd=>Value.map (some d.1):=
 bY (λd:Nat×List (ByteArray×Nat)=>Value.map (some d.1)) t k
theorem U2(f:List (ByteArray×Nat))(k:ByteArray):BJ (IU f) k=(BJ f k).map λi=>Value.pointer (some ⟨i,0,none⟩):=
 bY (λi:Nat=>Value.pointer (some ⟨i,0,none⟩)) f k
theorem lX{t:List (ByteArray×Nat×List (ByteArray×Nat))}: ∀p∈Ef t,∃r,p.2=.map (some r):=by
 intro p hp;obtain⟨q,_,rfl⟩:=Ag.1 hp;exact⟨q.2.1,rfl⟩
def U3 (a s:Int) (t:List (ByteArray×Nat×List (ByteArray×Nat))) (dir name:ByteArray):Option Nat×Int:=
 if Py a s (Ef t) true [dir,name]≠0 then (none,Py a s (Ef t) true [dir,name]) else
 match (BJ t dir).bind λd=>BJ d.2 name with|none=>(none,82)|some i=>(some i,0)
def Wq (r:Option Nat×Int):Value:=.tuple #[.pointer (r.1.map λi=>⟨i,0,none⟩),.int .i64 r.2]
theorem AFR(b sb:Nat)(a s:Int)(t:List (ByteArray×Nat×List (ByteArray×Nat)))(dir name:ByteArray)(w:World)
  (h0:w.cell? ⟨b,0,none⟩=some (.map (some sb))) (h5:w.cell? ⟨b,5,none⟩=some (.int .i64 a)) (h6:w.cell? ⟨b,6,none⟩=some (.int .i64 s))
  (ht:Tree w sb t):
  Calls Ae 81 #[.pointer (some ⟨b,0,none⟩),.string dir,.string name] w λe w'=>e=.returned (Wq (U3 a s t dir name))/\AZ [] w w':=by
 have HT:=AQ ht;have H0:=AQ h0;have H5:=AQ h5;have H6:=AQ h6;clear ht h0 h5 h6;have Qu:= @fM;go_enter AK0,Tryz.ntmps81;(go_wp2_with fail);have hal:AZ [] w (w.alloc (.cells #[.string dir,.string name] 9)):=(AZ.refl _ _).alloc _;refine (AAf b sb a s (Ef t) true _ 2 2 [dir,name] _ (hal.cell H0.out (λh=>AB h)) (hal.cell H5.out (λh=>AB h)) (hal.cell H6.out (λh=>AB h)) (HT.out.top.Am hal AB) lX (Own.lit w 9 1 #[.string dir,.string name] 2 Az rfl).rd Az (λ_=>by decide)).mono ?_;rintro e w1 ⟨rfl,hc1⟩;have DC:Hid (AZ [] w w1):=AQ (hal.Aq hc1);clear hc1 hal;obtain⟨E,hE⟩: ∃E,Py a s (Ef t) true [dir,name]=E:=⟨_,rfl⟩;rw[hE];have HE:=AQ hE;clear hE;by_cases h:E=0
 ·subst h
  have hne: ∃d,BJ t dir=some d:=by
   cases hd:BJ t dir with
   |some d=>exact⟨d,rfl⟩|none=>
    have q:=HE.out;(have hg:BJ (Ef t) dir=none:=by rw[EZ,hd];rfl);unfold Py at q;split at q;(cases q);split at q;(cases q);simp only[List.headD_cons,hg,Option.isNone_none,and_self,if_true] at q;cases q
  obtain⟨d,hd⟩:=hne;have h0:=DC.out.cell H0.out (λh=>AB h);have ht1:=HT.out.GK DC.out;have hl1:=(Mp.lookup ht1.top (Cm J4) IZ (z:=.map none) Ap dir).1;have hl2:=(Mp.lookup (ht1.sub _ (CP hd)) (Cm J4) Oc (z:=.pointer none) Ap name).1;rw[show BJ (Ef t) dir=some (.map (some d.1)) from by rw[EZ,hd];rfl] at hl1;simp only[Option.getD_some] at hl1;simp only at hl2;rw[show BJ (IU d.2) name=(BJ d.2 name).map (λi=>Value.pointer (some ⟨i,0,none⟩)) from U2 _ _] at hl2;have HD:=AQ hd;clear hd ht1
  cases hx:BJ d.2 name with
  |none=>
   have HR:Hid (U3 a s t dir name=(none,82)):=AQ (by unfold U3;rw[if_neg (by rw[HE.out];simp),HD.out];simp only[Option.bind_some,hx]);rw[hx] at hl2;simp only[Option.map_none,Option.getD_none] at hl2;clear hx;go_wp2
   go_ret2
   exact⟨by rw[HR.out];rfl,DC.out⟩
  |some i=>
   have HR:Hid (U3 a s t dir name=(some i,0)):=AQ (by unfold U3;rw[if_neg (by rw[HE.out];simp),HD.out];simp only[Option.bind_some,hx]);rw[hx] at hl2;simp only[Option.map_some,Option.getD_some] at hl2;clear hx;go_wp2
   go_ret2
   exact⟨by rw[HR.out];rfl,DC.out⟩
 (have hb:(E !=0)=true:=by simp[h]);have HR:Hid (U3 a s t dir name=(none,E)):=AQ (by unfold U3;rw[if_pos (by rw[HE.out];exact h),HE.out]);clear h;go_wp2
 go_ret2
 exact⟨by rw[HR.out];rfl,DC.out⟩
section
variable {κ α β:Type} [DecidableEq κ]
theorem MI(t:List (κ×α))(k k':κ):BJ (without t k) k'=if k=k' then none else BJ t k':=by
 induction t with
 |nil=>unfold without BJ;split<;>rfl|cons p r ih=>
  rw[Ir,Fg];by_cases h:p.1=k
  ·rw[if_pos h,ih];by_cases h2:k=k';rw[if_pos h2,if_pos h2];rw[if_neg h2,if_neg h2,if_neg (λe=>h2 (h▸e))]
  rw[if_neg h,Fg,ih];by_cases h2:p.1=k';rw[if_pos h2,if_neg (λe=>h (h2.trans e.symm)),if_pos h2];rw[if_neg h2,if_neg h2]
theorem Yw{t:List (κ×α)}(hn:(t.map Prod.fst).Nodup)(k k':κ):BJ (Ii t k) k'=if k=k' then none else BJ t k':=by
 rw[MH hn,MI]
theorem Nw{t:List (κ×α)}{k:κ}:(BJ t k).isSome=true↔k∈t.map Prod.fst:=by
 cases h:BJ t k with|none=>rw[Fa] at h;simp[h]|some v=>exact⟨λ_=>Ag.2 ⟨_,CP h,rfl⟩,λ_=>rfl⟩
theorem KH{t:List (κ×α)}{p:κ×α}(hn:(t.map Prod.fst).Nodup)(h:p∈t):BJ t p.1=some p.2:=Qh hn h
end
section
variable {α:Type}
theorem Ws{t:List (ByteArray×α)}{k:ByteArray}(hk:k∉t.map Prod.fst)(v:α)(k':ByteArray):BJ (IJ k v t) k'=if k=k' then some v else BJ t k':=by
 induction t with
 |nil=>
  simp only[IJ];rw[Fg]
 |cons p r ih=>
  have h1:k≠p.1:=λe=>hk (by simp[e]);have h2:k∉r.map Prod.fst:=λe=>hk (Aj _ e);rw[IJ];split;rw[Fg];rw[Fg,ih h2,Fg];by_cases h3:p.1=k';rw[if_pos h3,if_neg (λe=>h1 (e.trans h3.symm)),if_pos h3];rw[if_neg h3,if_neg h3]
theorem Kq{t:List (ByteArray×α)}(k:ByteArray):k∉(without t k).map Prod.fst:=by
 intro h;obtain⟨p,hp,rfl⟩:=Ag.1 h;unfold without at hp;simp at hp
theorem Gf{t:List (ByteArray×α)}{k:ByteArray}{p:ByteArray×α}:p∈without t k↔p∈t/\p.1≠k:=by
 unfold without;simp
theorem Oj{t:List (ByteArray×α)}{k:ByteArray}{v:α}{p:ByteArray×α}:p∈IJ k v t↔p=(k,v)\/p∈t:=by
 rw[(Pv k v t).mem_iff,AA]
end
abbrev Qi:=List (ByteArray×Nat)
abbrev Tr:=List (ByteArray×Qi)
inductive FH where
 |Dn (d:ByteArray)|create (d n:ByteArray) (i:Nat)|rename (a b:ByteArray)|remove (d n:ByteArray)|rmdir (d:ByteArray)
def GR (T:Tr) (d:ByteArray):Qi:=(BJ T d).getD []
def FH.on (T:Tr):FH->Tr
 | .Dn d=>IJ d [] T| .create d n i=>IJ d (IJ n i (GR T d)) (without T d)| .rename a b=>IJ b (GR T a) (without (without T a) b)| .remove d n=>IJ d (without (GR T d) n) (without T d)| .rmdir d=>without T d
def FH.ok (m:Nat) (T:Tr):FH->Prop
 | .Dn d=>DR d=true/\BJ T d=none| .create d n i=>i<m/\DR n=true/\∃F,BJ T d=some F/\BJ F n=none| .rename a b=>DR b=true/\∃F,BJ T a=some F| .remove d _=>∃F,BJ T d=some F| .rmdir d=>∃F,BJ T d=some F
structure Val (m:Nat) (T:Tr):Prop where
 Vu:Rw T
 sub: ∀p∈T,Rw p.2
 ids: ∀p∈T,∀q∈p.2,q.2<m
 nm: ∀p∈T,DR p.1=true
 Rl: ∀p∈T,∀q∈p.2,DR q.1=true
theorem Val.wU{m:Nat}{T:Tr}(h:Val m T)(d:ByteArray):Rw (GR T d)/\(∀q∈GR T d,q.2<m)/\∀q∈GR T d,DR q.1=true:=by
 unfold GR
 cases hd:BJ T d with|none=>exact⟨List.Pairwise.nil,λq hq=>by simp at hq,λq hq=>by simp at hq⟩|some F=>exact⟨h.sub _ (CP hd),h.ids _ (CP hd),h.Rl _ (CP hd)⟩
theorem Val.mono{m m':Nat}{T:Tr}(h:Val m T)(hm:m<=m'):Val m' T:=⟨h.Vu,h.sub,λp hp q hq=>BU (h.ids p hp q hq) hm,h.nm,h.Rl⟩
theorem Val.without{m:Nat}{T:Tr}(h:Val m T)(d:ByteArray):Val m (without T d):=
 ⟨h.Vu.without d,λp hp=>h.sub p (Gf.1 hp).1,λp hp=>h.ids p (Gf.1 hp).1,λp hp=>h.nm p (Gf.1 hp).1,λp hp=>h.Rl p (Gf.1 hp).1⟩
theorem Val.with_{m:Nat}{T:Tr}(h:Val m T){d:ByteArray}{F:Qi}(hd:d∉T.map Prod.fst)(hg:DR d=true)(h1:Rw F)(h2: ∀q∈F,q.2<m)(h3: ∀q∈F,DR q.1=true):Val m (IJ d F T):=
 ⟨h.Vu.with_ F hd,λp hp=>by rcases Oj.1 hp with rfl|hp;exact h1;exact h.sub p hp,λp hp=>by rcases Oj.1 hp with rfl|hp;exact h2;exact h.ids p hp,
  λp hp=>by rcases Oj.1 hp with rfl|hp;exact hg;exact h.nm p hp,λp hp=>by rcases Oj.1 hp with rfl|hp;exact h3;exact h.Rl p hp⟩
theorem Val.on{m:Nat}{T:Tr}(h:Val m T){c:FH}(hc:c.ok m T):Val m (c.on T):=by
 cases c with
 |Dn d=>exact h.with_ (Fa.1 hc.2) hc.1 List.Pairwise.nil AY AY|create d n i=>
  obtain⟨hi,hg,F,hF,hn⟩:=hc;(have hf:GR T d=F:=by unfold GR;rw[hF];rfl);refine (h.without d).with_ (Kq d) (h.nm _ (CP hF)) ?_ ?_ ?_;rw[hf];exact (h.sub _ (CP hF)).with_ i (Fa.1 hn)
  ·rw[hf];intro q hq;rcases Oj.1 hq with rfl|hq;exact hi;exact h.ids _ (CP hF) q hq
  rw[hf];intro q hq;rcases Oj.1 hq with rfl|hq;exact hg;exact h.Rl _ (CP hF) q hq
 |rename a b=>
  exact ((h.without a).without b).with_ (Kq b) hc.1 (h.wU a).1 (h.wU a).2.1 (h.wU a).2.2
 |remove d n=>
  obtain⟨F,hF⟩:=hc;exact (h.without d).with_ (Kq d) (h.nm _ (CP hF)) ((h.wU d).1.without n) (λq hq=>(h.wU d).2.1 q (Gf.1 hq).1) (λq hq=>(h.wU d).2.2 q (Gf.1 hq).1)
 |rmdir d=>exact h.without d
theorem ACw{x:ByteArray}(h:DR x=true):x.size<=30:=by
 unfold DR at h;simp only[BF,decide_eq_true_eq] at h;omega
def wd (T:Tr):Nat:=(T.map λp=>p.2.length+1).sum
theorem Xe(d:ByteArray)(F:Qi)(T:Tr):wd (IJ d F T)=F.length+1+wd T:=by
 unfold wd;rw[((Pv d F T).map _).sum_nat,AL,List.sum_cons]
theorem Wu(T:Tr)(d:ByteArray):wd (without T d)<=wd T:=by
 unfold wd without
 induction T with
 |nil=>simp|cons p r ih=>
  rw[Io];split;simp only[AL,List.sum_cons];omega;simp only[AL,List.sum_cons];omega
theorem wV(T:Tr)(d:ByteArray):(GR T d).length+(if BJ T d=none then 0 else 1)+wd (without T d)<=wd T:=by
 induction T with
 |nil=>simp[GR,BJ,wd,without]|cons p r ih=>
  unfold GR at ih⊢;rw[Fg,Ir];by_cases h:p.1=d
  ·rw[if_pos h,if_pos h];have:=Wu r d;simp only[Option.getD_some,wd,AL,List.sum_cons] at this⊢;simp;omega
  rw[if_neg h,if_neg h];simp only[wd,AL,List.sum_cons] at ih⊢;omega
theorem wW(T:Tr):T.length<=wd T:=by
 unfold wd
 induction T with|nil=>simp|cons p r ih=>simp only[List.length_cons,AL,List.sum_cons];omega
theorem wX{T:Tr}{p:ByteArray×Qi}(h:p∈T):p.2.length<=wd T:=by
 unfold wd
 induction T with
 |nil=>simp at h|cons q r ih=>
  simp only[AL,List.sum_cons];rcases AA.1 h with rfl|h;omega;have:=ih h;omega
theorem ACx{α:Type}(k:ByteArray)(v:α)(t:List (ByteArray×α)):(IJ k v t).length=t.length+1:=by
 rw[(Pv k v t).length_eq,List.length_cons]
theorem wY{α:Type}(t:List (ByteArray×α))(k:ByteArray):(without t k).length<=t.length:=Jn _ _
theorem AOq{m:Nat}{T:Tr}{c:FH}(hc:c.ok m T):wd (c.on T)<=wd T+1:=by
 cases c with
 |Dn d=>simp only[FH.on,Xe,List.length_nil];omega|create d n i=>
  obtain⟨hi,hg,F,hF,hn⟩:=hc;have:=wV T d;rw[hF,if_neg AY] at this;simp only[FH.on,Xe,ACx];omega
 |rename a b=>
  obtain⟨hg,F,hF⟩:=hc;have:=wV T a;rw[hF,if_neg AY] at this;have:=Wu (without T a) b;simp only[FH.on,Xe];omega
 |remove d n=>
  obtain⟨F,hF⟩:=hc;have:=wV T d;rw[hF,if_neg AY] at this;have:=wY (GR T d) n;simp only[FH.on,Xe];omega
 |rmdir d=>simp only[FH.on];have:=Wu T d;omega
abbrev Hg:=List Int×List (List Int)
def Hg.all (f:Hg):List Int:=f.1++f.2.flatten
structure St where
 seen:Tr
 safe:Tr
 FQ:List FH
 files:List Hg
 wr:List Nat
 BR:Int
 stop:Int
 steps:Nat
def Je (T:Tr) (cs:List FH):Tr:=cs.foldl (λt c=>FH.on t c) T
def bZ (m:Nat):Tr->List FH->Prop
 |_,[]=>True|T,c::r=>c.ok m T/\bZ m (c.on T) r
theorem Yx(T:Tr)(cs:List FH)(c:FH):Je T (cs++[c])=c.on (Je T cs):=by simp[Je]
theorem AFS{m:Nat}{T:Tr}{cs:List FH}{c:FH}:bZ m T (cs++[c])↔bZ m T cs/\c.ok m (Je T cs):=by
 induction cs generalizing T with|nil=>simp[bZ,Je]|cons x r ih=>simp only[List.cons_append,bZ,ih,Je,List.foldl_cons,and_assoc]
theorem bn{m:Nat}{T:Tr}{cs:List FH}(h:bZ m T cs)(k:Nat):bZ m T (cs.take k):=by
 induction cs generalizing T k with
 |nil=>simpa using h|cons x r ih=>
  cases k with|zero=>exact trivial|succ k=>exact⟨h.1,ih h.2 k⟩
theorem AJ0{m:Nat}{T:Tr}{cs:List FH}(h:bZ m T cs){i:Nat}{c:FH}(hi:cs[i]? =some c):c.ok m (Je T (cs.take i)):=by
 induction cs generalizing T i with
 |nil=>simp at hi|cons x r ih=>
  cases i with|zero=>simp at hi;subst hi;exact h.1|succ i=>simp at hi;simpa[Je] using ih h.2 hi
theorem FH.AH6{m m':Nat}{T:Tr}{c:FH}(h:c.ok m T)(hm:m<=m'):c.ok m' T:=by
 cases c<;>first|exact h|exact⟨BU h.1 hm,h.2⟩
theorem AFT{m m':Nat}{T:Tr}{cs:List FH}(h:bZ m T cs)(hm:m<=m'):bZ m' T cs:=by
 induction cs generalizing T with|nil=>trivial|cons x r ih=>exact⟨FH.AH6 h.1 hm,ih h.2⟩
theorem Val.run{m:Nat}{T:Tr}{cs:List FH}(h:Val m T)(hc:bZ m T cs):Val m (Je T cs):=by
 induction cs generalizing T with|nil=>exact h|cons x r ih=>exact ih (h.on hc.1) hc.2
theorem AEB{m:Nat}{T:Tr}{cs:List FH}(hc:bZ m T cs):wd (Je T cs)<=wd T+cs.length:=by
 induction cs generalizing T with
 |nil=>simp[Je]|cons x r ih=>
  have h1:=AOq hc.1;have h2:=ih hc.2;simp only[Je,List.foldl_cons,List.length_cons] at h2⊢;omega
def IK (fs:List Hg):Nat:=(fs.map λf=>f.all.length+f.2.length).sum
theorem AEC{fs:List Hg}{f:Hg}(h:f∈fs):f.all.length+f.2.length<=IK fs:=by
 unfold IK
 induction fs with
 |nil=>simp at h|cons q r ih=>
  simp only[AL,List.sum_cons];rcases AA.1 h with rfl|h;omega;have:=ih h;omega
structure Inv (B:Nat) (S:St):Prop where
 safe:Val S.files.length S.safe
 FQ:bZ S.files.length S.safe S.FQ
 seen:Je S.safe S.FQ=S.seen
 wr: ∀x∈S.wr,x<S.files.length
 OE:wd S.safe+S.FQ.length<=B
 nf:S.files.length<=B
 bulk:IK S.files<=B
 nw:S.wr.length<=B
 st:S.steps<=B
 BR:0<=S.BR/\S.BR<=9223372036854775807
theorem Inv.val{B:Nat}{S:St}(h:Inv B S):Val S.files.length S.seen:=by rw[<- h.seen];exact h.safe.run h.FQ
theorem Inv.wd{B:Nat}{S:St}(h:Inv B S):wd S.seen<=B:=by rw[<- h.seen];have:=AEB h.FQ;have:=h.OE;omega
theorem Inv.mono{B B':Nat}{S:St}(h:Inv B S)(hb:B<=B'):Inv B' S:=by
 obtain⟨h1,h2,h3,h4,h5,h6,h7,h8,h9,h10⟩:=h;exact⟨h1,h2,h3,h4,Ac,Ac,Ac,Ac,Ac,h10⟩
def St.down (S:St):Bool:=TZ S.stop S.steps
def St.ask (S:St) (there:Bool) (ns:List ByteArray):Int:=
 if S.down=true then 80 else if ns.all DR=false then 81 else if there=true/\(BJ S.seen (ns.headD ByteArray.empty)).isNone=true then 82 else 0
def St.Qj (S:St) (d n:ByteArray):Option Nat×Int:=
 if S.ask true [d,n]≠0 then (none,S.ask true [d,n]) else match BJ (GR S.seen d) n with|none=>(none,82)|some i=>(some i,0)
def St.bytes (S:St) (i:Nat):List Int:=Hg.all (S.files.getD i ([],[]))
def St.view (S:St):List (ByteArray×List (ByteArray×List Int)):=
 if S.down=true then [] else S.seen.map λp=>(p.1,p.2.map λq=>(q.1,S.bytes q.2))
def bytesOf (D:List (ByteArray×List (ByteArray×List Int))):Nat:=(D.map λp=>(p.2.map λq=>q.2.length).sum).sum
def St.used (S:St):Nat:=bytesOf S.view
def St.keep (S:St) (ks:List Bool) (x:Nat):List Bool:=((S.wr.zipIdx.filter λp=>p.1==x).map λp=>(ks[p.2]?).getD false)
def St.after (S:St) (ks:List Bool) (i:Nat):List Int:=let f:=S.files.getD i ([],[]);Oh f.1 f.1.length f.2 (S.keep ks i)
def St.left (S:St) (ks:List Bool) (names:Int):List (ByteArray×List (ByteArray×List Int)):=
 (Je S.safe (S.FQ.take names.toNat)).map λp=>(p.1,p.2.map λq=>(q.1,S.after ks q.2))
def St.make (S:St) (c:FH):St:={S with seen:=c.on S.seen,FQ:=S.FQ++[c],steps:=S.steps+1}
def St.Dn (S:St) (d:ByteArray):St×Int:=
 if S.ask false [d]≠0 then (S,S.ask false [d]) else if (BJ S.seen d).isSome=true then (S,83) else (S.make (.Dn d),0)
def St.create (S:St) (d n:ByteArray):St×Int:=
 if S.ask true [d,n]≠0 then (S,S.ask true [d,n]) else if (BJ (GR S.seen d) n).isSome=true then (S,83) else
  (({S with files:=S.files++[([],[])]}:St).make (.create d n S.files.length),0)
def St.write (S:St) (d n:ByteArray) (data:List Int):St×Int:=
 match S.Qj d n with
 |(none,e)=>(S,e)
 |(some x,_)=>if data=[] then ({S with steps:=S.steps+1},0) else if S.BR<(S.used:Int)+data.length then (S,85) else
  ({S with files:=S.files.modify x (λf=>(f.1,f.2++[data])),wr:=S.wr++[x],steps:=S.steps+1},0)
def St.sync (S:St) (d n:ByteArray):St×Int:=
 match S.Qj d n with|(none,e)=>(S,e)|(some x,_)=>({S with files:=S.files.modify x (λf=>(Hg.all f,[])),wr:=S.wr.filter (λy=>y !=x),steps:=S.steps+1},0)
def St.names (S:St):St×Int:=
 if S.down=true then (S,80) else ({S with safe:=S.seen,FQ:=[],steps:=S.steps+1},0)
def St.rename (S:St) (a b:ByteArray):St×Int:=
 if S.ask true [a,b]≠0 then (S,S.ask true [a,b]) else (S.make (.rename a b),0)
def St.remove (S:St) (d n:ByteArray):St×Int:=
 match S.Qj d n with|(none,e)=>(S,e)|(some _,_)=>(S.make (.remove d n),0)
def St.rmdir (S:St) (d:ByteArray):St×Int:=
 if S.ask true [d]≠0 then (S,S.ask true [d]) else if (GR S.seen d).length>0 then (S,85 - 1) else (S.make (.rmdir d),0)
def St.list (S:St) (d:ByteArray):List ByteArray×Int:=
 if S.ask true [d]≠0 then ([],S.ask true [d]) else ((GR S.seen d).map Prod.fst,0)
def St.Ld (S:St):List ByteArray×Int:=if S.down=true then ([],80) else (S.seen.map Prod.fst,0)
theorem lY{w:World}{A:Option Addr}{n c:Nat}{xs:List Int}(h:Rd w 1 A n c (bv xs)):(convert 62 9 (.slice A n c)).run Ae w=.ok (.string (strOfNums xs)) w:=by
 have hl:xs.length=n:=by have:=h.1;simp at this;omega
 cases A with
 |none=>
  have h1:=h.2.2.2.1 rfl;have h2:=h.2.1;have hx:xs=[]:=E5 Ac;subst hx;exact run_convert_bytes_nil w 62 5 rf VU5 _ _ _ J4
 |some ad=>
  have hld:(loadCells ad n).run Ae w=.ok (bv xs).toArray w:=by
   have:=run_loadCells_list (P:=Ae) w ad (bv xs) (λj v hj=>(h.2.2.2.2 ad rfl).2 j v hj);simpa[hl] using this
  rw[run_convert_bytes_string w _ _ _ _ n c rf VU5 J4,run_bytesToString w ad n c xs hld,foldl_push_bytes];simp[strOfNums,ByteArray.empty,ByteArray.emptyWithCapacity];rfl
def Zq (p:Prop) (w:World) (e:Ending) (w':World):Prop:=∃b:Bool,e=.returned (.bool b)/\(p->b=true)/\AZ [] w w'
theorem ACy(A:Option Addr)(n c:Nat)(xs:List Int)(B:Option Addr)(m d:Nat)(ys:List Int)(w:World)(ha:Rd w 1 A n c (bv xs))(hb:Rd w 1 B m d (bv ys)):
  Calls Ae 65 #[.slice A n c,.slice B m d] w (Zq (xs=ys) w):=by
 have h1:=lY ha;have h2:=lY hb;obtain⟨s,hs⟩: ∃s,strOfNums xs=s:=⟨_,rfl⟩;obtain⟨t,ht⟩: ∃t,strOfNums ys=t:=⟨_,rfl⟩;rw[hs] at h1;rw[ht] at h2;have HST:Hid (xs=ys->s=t):=AQ (by rintro rfl;rw[<- hs,<- ht]);clear ha hb hs ht;go_enter AKv,Tryz.ntmps65;go_wp2;go_ret;refine⟨_,rfl,λh=>?_,AZ.refl _ _⟩;rw[HST.out h];simp
end Go.Proofs.YtkkgcebhfghdnaaGreatDoor.Vw
