/- Part 17 of what that rests on; no condition. -/
import Derived.Test.YtkkgcebhfghdnaaGreatDoorKp
import Derived.BigQuiet
import Derived.Deep.QuietTactic
import Derived.Deep.RegionHeld3
import Derived.Deep.RegionLaw
import Derived.Ground.GgzProg
import Derived.Ground.SlgmProg
import Derived.Ground.SlmcProg
import Derived.KernelRfl
import Derived.Lib.AppendZerosOnto
import Derived.Lib.SmallJoins
import Derived.Shelf.SlGeneric
import Derived.Shelf.SlIter.Nil
import Derived.Shelf.SlMaps.Clone
import Derived.Shelf.SortM.Plain
import Derived.Shelf.SortM.SortNone
import Derived.Sort.KeysCollected
import Derived.Sort.Walk0
import Derived.StillTailTactics
import Derived.Test.YtkkgcebhfghdnaaGreatDoorChecked
import Derived.Test.YtkkgcebhfghdnaaGreatDoorRows
import Derived.WalkSpells
set_option maxRecDepth 100000
set_option maxHeartbeats 8000000
namespace Go.Proofs.YtkkgcebhfghdnaaGreatDoor.Vw
open Go.RowKit
abbrev bv (zs:List Int):List Value:=zs.map (Value.int .u8)
abbrev iv (zs:List Int):List Value:=zs.map (Value.int .i64)
theorem wM(zs:List Int): ∀u∈bv zs,u.oneCell'=true:=ints_oneCell _ _
def Ko (e:TypeId) (sz:Nat) (w:World) (xs:List Value) (n:Nat) (en:Ending) (w':World):Prop:=
 ∃A c,en=.returned (.slice A n c)/\Own w' e sz A n c xs/\AZ [] w w'/\∀k∈bo A,w.heap.size<=k
theorem Qz:Ety Ae 62 5 1 1 (.int .u8 0):=.mk' rf Ap rfl Az
theorem AH2:Ety Ae 81 3 1 8 (.int .i64 0):=.mk' AQd Ap rfl Az
theorem AAa(k:IntKind)(x:Int): ∀u∈(#[Value.int k x]:Array Value).toList,u.oneCell'=true:=by simp[Value.oneCell']
theorem take_snoc{α:Type}(l:List α)(k:Nat)(x:α)(h:l[k]? =some x):l.take (k+1)=l.take k++[x]:=by
 rw[FC,h];rfl
theorem lJ{w:World}{k:IntKind}{A:Option Addr}{n c:Nat}{zs:List Int}(h:Rd w 1 A n c (zs.map (Value.int k))){j:Nat}(hj:j<n):
  ∃ad x,A=some ad/\zs[j]? =some x/\w.cell? (ad.add j)=some (.int k x):=by
 obtain⟨ad,u,h1,h2,h3⟩:=h.bT hj;rw[AV] at h2
 cases hz:zs[j]? with|none=>rw[hz] at h2;cases h2|some x=>rw[hz] at h2;simp at h2;subst h2;exact⟨ad,x,h1,rfl,h3⟩
theorem sF(A:Option Addr)(n c:Nat)(zs:List Int)(w:World)(hn:n<=1073741824)(hrd:Rd w 1 A n c (bv zs)):
  Calls Ae 53 #[.slice A n c] w (Ko 5 1 w (bv zs) n):=by
 (have hl:zs.length=n:=by have:=hrd.1;simp at this;omega);have HR:=AQ hrd;have HL:=AQ hl;clear hrd hl;go_enter AKl,Tryz.ntmps53;go_wp2;go_loopw [3,4] (λv i wr=>∃(k:Nat) (A':Option Addr) (c':Nat),k<=n/\i=.int .i64 k/\v=.slice A' k c'/\Own wr 5 1 A' k c' ((bv zs).take k)/\AZ [] w wr/\(∀k∈bo A',w.heap.size<=k)) (λ_ i _=>n - (intOf i).toNat)
 case atStart=>
  exact⟨0,_,0,BP _,rfl,rfl,Own.lit w 5 1 #[] 0 Az rfl,(AZ.refl _ _).alloc _,AY⟩
 obtain⟨k,A',c',hk,rfl,rfl,hown,EJ,hnew⟩:=hrel;by_cases hlt:k<n
 ·obtain⟨ad,x,rfl,hx,hcell⟩:=lJ (HR.out.Am EJ AY) hlt;have HX:=AQ hx;have HN:=AQ hnew;clear hx hnew;(go_wp2_with (at_builtin;refine Fq rfl _ _ rfl Qz rfl (hown.Am ((AZ.refl [] wr).alloc _) AY) rfl (Own.lit wr 5 1 #[.int .u8 x] 1 Az rfl).rd (AAa _ _) (by unfold maxLen;omega) Ac ?_;intro A2 c2 w2 hown2 Og Jl _));go_roundw
  case rel=>
   refine⟨k+1,A2,c2,Ac,by go_num,rfl,?_,(EJ.alloc _).trans Og (λy hy=>.inr (HN.out y hy)),λy hy=>?_⟩;rw[take_snoc _ _ (.int .u8 x) (by simp[HX.out])];exact hown2;rcases Jl y hy with h1|h1;exact HN.out y h1;have h2:=EJ.size;simp at h1;omega
  simp[intOf];omega
 go_wp2;go_ret;(have hkn:k=n:=by omega);subst hkn;exact⟨A',c',rfl,by rw[<- Bc (l:=bv zs) (i:=k) (by simp[HL.out])];exact hown,EJ,hnew⟩
theorem clone_any(A:Option Addr)(n c:Nat)(zs:List Int)(w:World)(hn:n<=1073741824)(hrd:Rd w 1 A n c (bv zs)):
  Calls Ae 78 #[.slice A n c] w (Ko 5 1 w (bv zs) n):=by
 cases A with
 |none=>
  have hc:=hrd.2.2.2.1 rfl;(have hn0:n=0:=by have:=hrd.2.1;omega);subst hc;subst hn0;have hz:bv zs=[]:=E5 (by simpa using hrd.1);have HZ:=AQ hz;have qT:=λ(w:World)=>Lib.run_eql_slice_nil (P:=Ae) w 62 5 none 0 0 0 0 rf;clear hz hrd;go_enter AHO,Tryz.ntmps78;go_wp2;go_ret;exact⟨none,0,rfl,by rw[HZ.out];exact Own.nil _ _ _,AZ.refl _ _,AY⟩
 |some ad=>
  have HR:=AQ hrd;clear hrd;have qT:=λ(w:World)=>Lib.run_eql_slice_nil (P:=Ae) w 62 5 (some ad) n c 0 0 rf;go_enter AHO,Tryz.ntmps78;(go_wp2_with (at_builtin;refine Fq rfl _ _ rfl Qz rfl (Own.lit w 5 1 #[] 0 Az rfl) rfl (HR.out.Am ((AZ.refl [] w).alloc _) AY) (wM zs) (by unfold maxLen;omega) Ac ?_;intro A2 c2 w3 hown4 AOm AOn _));go_ret
  exact⟨A2,c2,rfl,by simpa using hown4,((AZ.refl [] w).alloc _).trans AOm AY,λk hk=>by
   rcases AOn k hk with h1|h1;simp at h1;omega
   have:=h1.1;simp at this;omega⟩
theorem Vg(z:Value)(hz:z.cells= #[z])(k:Nat):(Builtin.zeroCells z.cells k).toList=List.replicate k z:=by
 apply D6;intro i;rw[hz];simp only[Builtin.zeroCells,Hr,Array.toList_range,AV,Tu];by_cases h:i<k
 ·rw[Af (by simpa using h)];simp[h,Lj]
 rw[CS (by simpa using h)];simp[h]
theorem lK{P:Program}{w:World}{t tn ty e:TypeId}{bytes:Nat}{z:Value}(he:Ety P t e 1 bytes z)(htn:P.underlying tn=some (.int .i64))(hz1:z.cells= #[z])(hz2:z.oneCell'=true)
  {A:Option Addr} {n c:Nat} {xs:List Value} (hown:Own w e 1 A n c xs) (k:Nat) (h63:n+k<=maxLen) (hb:(n+k)*bytes<=140737488355328):
  ∃A' c' w',(Builtin.append_ #[t,tn] ty #[.slice A n c,.int .i64 k]).run P w=.ok (.slice A' (n+k) c') w'/\Own w' e 1 A' (n+k) c' (xs++List.replicate k z)/\AZ (bo A) w w'/\
   (∀k∈bo A',k∈bo A\/(w.heap.size<=k/\k<w'.heap.size)):=by
 obtain⟨ht,⟨i,hi,hz,hsz,hby⟩,hzs,hpos⟩:=he;subst hby
 have hkb:k*i.bytes<=281474976710656:=by
  have:k*i.bytes<=(n+k)*i.bytes:=Ez _ Ac;omega
 (have hw:IntKind.i64.wrap (k:Int)=k:=by rw[IntKind.wrap_i64];simp only[maxLen] at h63;omega);(have hneg: ¬((k:Int)<0):=by omega);(have h48i: ¬(281474976710656<(k:Int)*(i.bytes:Int)):=by rw[<- Int.natCast_mul];omega);by_cases hk:k=0
 ·subst hk;(have hw0:IntKind.i64.wrap 0=0:=by decide);have hnc:n<=c:=hown.rd.2.1;refine⟨A,c,w,?_,by simpa using hown,AZ.refl _ _,λk hk=>.inl hk⟩;cases A<;>simp[Builtin.append_,run_underlying ht,run_underlying htn,sizeOf,typeInfo,hi,asInt,asIntOf,hw0,hnc,storeCells]
 have hns: ¬(k*i.size=0):=by rw[hsz];omega
 have grown: ∀old,∃A' c' w',(.ok (.slice (some ⟨w.heap.size,0,none⟩) (n+k) (grownCap w (n+k) old e)) (w.drew.alloc (.cells (xs.toArray++Builtin.zeroCells z.cells k++Builtin.zeroCells z.cells (grownCap w (n+k) old e - (n+k))) e)):Result Value)=.ok (.slice A' (n+k) c') w'/\
   Own w' e 1 A' (n+k) c' (xs++List.replicate k z)/\AZ (bo A) w w'/\(∀k∈bo A',k∈bo A\/(w.heap.size<=k/\k<w'.heap.size)):=by
  intro old;have hge:=grownCap_ge w (n+k) old e;have hcm:grownCap w (n+k) old e<=maxLen:=grownCap_le_maxLen w (n+k) old e h63;(have hxl:xs.length=n:=by have:=hown.1;omega);refine⟨_,_,_,rfl,⟨by simp[hxl],.inr ⟨w.heap.size,_,_,rfl,BP _,heap_alloc_new w.drew _,hge,hcm,?_,?_⟩⟩,((AZ.refl _ _).drew).alloc _,?_⟩
  ·simp only[LD,CG,size_zeroCells,hzs,hxl];omega
  ·simp only[aY,Vg z hz1];exact Ll (by simp[hxl])
  intro j hj;right;simp at hj;subst hj;simp
 by_cases hroom:n+k<=c
 ·rcases hown.form with ⟨rfl,rfl,rfl,rfl⟩|⟨g,cur,rfl,hbk,hnc,hcm,hcs,htk⟩;omega;(have hfit:n*1+(List.replicate k z).length<=cur.size:=by simp;omega);have hst:=run_storeCells_at P g (n*1) e (List.replicate k z) 0 cur w hbk (by simpa using hfit) (by simp[hz2]);simp only[Nat.add_zero,D7,AEe] at hst;(have hxl:xs.length=n:=by have:=hown.1;omega);(have hcl:cur.toList.length=cur.size:=by simp);refine⟨some ⟨g,0,none⟩,c,_,?_,⟨by simp[hown.1],.inr ⟨g,c,_,rfl,BP _,setRow_heap w g cur (cur.toList.take n++List.replicate k z++cur.toList.drop (n+k)).toArray e _ hbk,hroom,hcm,?_,?_⟩⟩,⟨rfl,rfl,rfl,by simp[World.setRow],λj _ hj=>setRow_other w g j _ (by simpa using hj)⟩,λj hj=>.inl hj⟩;simp[Builtin.append_,run_underlying ht,run_underlying htn,sizeOf,typeInfo,zeroValue,hi,hz,asInt,asIntOf,hw,hneg,h48i,hroom,Addr.add_lit,hsz,hk,Vg z hz1,hst];simp;omega;simp only[D7] at htk⊢;rw[<- htk];exact Ll (by simp;omega)
 have hc:c<n+k:=by omega
 have hold:(Builtin.firstCells i.size n (.slice A n c)).run P w.drew=.ok xs.toArray w.drew:=by
  rcases hown.form with ⟨rfl,rfl,rfl,rfl⟩|⟨g,cur,rfl,hbk,hnc,hcm,hcs,htk⟩;exact run_firstCells_none (P:=P) w.drew _ _ _ _;exact run_firstCells_some (P:=P) w.drew i.size n ⟨g,0,none⟩ n c xs (by rw[hsz];exact hown.1) (World.ownsRow.cells hown (g:=g) rfl)
 have e0:=Lib.run_append_grow_zeros (P:=P) w t tn ty e i z .i64 .i64 ht htn hi hz A n c xs hold k Ac Ac hc (by simp only[maxLen] at h63;omega) hkb (growslice_fits Ac hb);rw[e0];exact grown c
theorem Zo{P:Program}{w:World}{ops:Array Oper}{rest:List Oper}{o:Oper}{a:Act}{Q:Exit->Act->World->Prop}(hgd:o.guard=none)(s x:Operand){t tn:TypeId}
  (ho:o.op=.call {callee:=.builtin .append,args:=#[s,x],argTypes:=#[t,tn]})
  {e:TypeId} {bytes:Nat} {z:Value} (he:Ety P t e 1 bytes z) (htn:P.underlying tn=some (.int .i64)) (hz1:z.cells= #[z]) (hz2:z.oneCell'=true)
  {A:Option Addr} {n c:Nat} {xs:List Value} (hs:a.eval s=.slice A n c) (hown:Own w e 1 A n c xs) (k:Nat) (hx:a.eval x=.int .i64 k) (h63:n+k<=maxLen) (hb:(n+k)*bytes<=140737488355328)
  (h: ∀A' c' w',Own w' e 1 A' (n+k) c' (xs++List.replicate k z)->AZ (bo A) w w'->(∀k∈bo A',k∈bo A\/(w.heap.size<=k/\k<w'.heap.size))->
   wpList P ops Q rest (a.put o.dst (.slice A' (n+k) c')) w'):wpList P ops Q (o::rest) a w:=by
 obtain⟨A',c',w',hr,h2,h3,h4⟩:=lK (ty:=o.type) he htn hz1 hz2 hown k h63 hb;exact Lib.wpList_append_run w hgd s x t tn ho _ _ hs hx _ w' hr (h A' c' w' h2 h3 h4)
def ends:Nat->List (List Int)->List Int
 |_,[]=>[]|b,x::r=>((b+x.length:Nat):Int)::ends (b+x.length) r
theorem ACr(b:Nat)(ws:List (List Int))(x:List Int):ends b (ws++[x])=ends b ws++[((b+ws.flatten.length+x.length:Nat):Int)]:=by
 induction ws generalizing b with|nil=>simp[ends]|cons y r ih=>simp[ends,ih];omega
theorem AH3(b:Nat)(ws:List (List Int))(i:Nat)(x:List Int)(h:ws[i]? =some x):(ends b ws)[i]? =some (((b+(ws.take i).flatten.length+x.length:Nat):Int)):=by
 induction ws generalizing b i with
 |nil=>simp at h|cons y r ih=>
  cases i with|zero=>simp at h;subst h;simp[ends]|succ i=>simp at h;simp[ends,ih _ i h];omega
theorem RY(ws:List (List Int))(x:List Int):(ws++[x]).flatten.length=ws.flatten.length+x.length:=by
 rw[JW,DU];simp
def Vs (w:World) (g:Nat) (L:List Nat) (base:List Int) (ws:List (List Int)):Prop:=
 ∃A n c M m d s,Bo w g 183 #[.slice A n c,.int .i64 (s:Nat),.slice M m d]/\Own w 5 1 A n c (bv (base++ws.flatten))/\
  Own w 3 1 M m d (iv (ends base.length ws))/\L=g::(bo A++bo M)/\n=base.length+ws.flatten.length/\m=ws.length/\s=base.length
theorem Vs.lt{w:World}{g:Nat}{L:List Nat}{base:List Int}{ws:List (List Int)}(h:Vs w g L base ws): ∀k∈L,k<w.heap.size:=by
 obtain⟨A,n,c,M,m,d,s,hb,h1,h2,rfl,_⟩:=h;intro k hk;simp only[AA,AU] at hk;rcases hk with rfl|hk|hk;exact hb.lt;exact h1.lt k hk;exact h2.lt k hk
theorem Vs.Am{w w':World}{g:Nat}{L M:List Nat}{base:List Int}{ws:List (List Int)}(h:Vs w g L base ws)(hc:AZ M w w')(hn: ∀k∈L,k∉M):Vs w' g L base ws:=by
 obtain⟨A,n,c,M,m,d,s,hb,h1,h2,rfl,e⟩:=h;exact⟨A,n,c,M,m,d,s,hb.Am hc (hn g AY),h1.Am hc (λk hk=>hn k (by simp[hk])),h2.Am hc (λk hk=>hn k (by simp[hk])),rfl,e⟩
def AJv (w:World) (zs:List Int) (e:Ending) (w':World):Prop:=
 ∃g L,e=.returned (.pointer (some ⟨g,0,none⟩))/\Vs w' g L zs []/\AZ [] w w'/\∀k∈L,w.heap.size<=k
theorem new_any(A:Option Addr)(n c:Nat)(zs:List Int)(w:World)(hn:n<=1073741824)(hrd:Rd w 1 A n c (bv zs)):
  Calls Ae 59 #[.slice A n c] w (AJv w zs):=by
 (have hl:zs.length=n:=by have:=hrd.1;simp at this;omega);have HL:=AQ hl;clear hl;have k78:= @AHj;go_enter AKq,Tryz.ntmps59;(go_wp2_with (go_at_call 78;refine (clone_any A n c zs _ hn hrd).mono ?_;rintro e w1 ⟨A1,c1,rfl,hown,EJ,hnew⟩));go_ret;have ho:=HL.out;subst ho;refine⟨w1.heap.size,_,rfl,⟨A1,_,c1,none,0,0,_,Bo.new w1 183 _,?_,?_,rfl,?_,rfl,rfl⟩,EJ.alloc _,?_⟩;simpa using hown.Am ((AZ.refl [] w1).alloc _) AY;exact Own.nil _ _ _;simp;have:=EJ.size;intro k hk;simp at hk;rcases hk with rfl|hk;exact this;exact hnew k hk
def AH4 (w:World) (g:Nat) (L:List Nat) (base:List Int) (ws:List (List Int)) (e:Ending) (w':World):Prop:=
 ∃L',e=.returned (.tuple #[])/\Vs w' g L' base ws/\AZ L w w'/\∀k∈L',k∈L\/w.heap.size<=k
theorem wO(g:Nat)(L:List Nat)(base:List Int)(ws:List (List Int))(B:Option Addr)(k d:Nat)(xs:List Int)(w:World)(h:Vs w g L base ws)(hk:0<k)(hlen:base.length+ws.flatten.length+k<=1073741824)
  (hws:ws.length<=1073741824) (hrd:Rd w 1 B k d (bv xs)):
  Calls Ae 180 #[.pointer (some ⟨g,0,none⟩),.slice B k d] w (AH4 w g L base (ws++[xs])):=by
 obtain⟨A,n,c,M,m,dm,s,hb,h1,h2,rfl,hn,hm,hs⟩:=h;(have hlx:xs.length=k:=by have:=hrd.1;simp at this;omega);(have n63:n+k<=1073741824:=by omega);(have m63:m<=1073741824:=by omega);have HE:=AQ (show n=base.length+ws.flatten.length/\m=ws.length/\s=base.length/\xs.length=k from ⟨hn,hm,hs,hlx⟩);have HR:=AQ hrd;have HO:=AQ h1;have HM:=AQ h2;have HB:=AQ hb;have c0:=hb.cell 0;have c1:=hb.cell 1;have c2:=hb.cell 2;have f0:=hb.frozen 0;simp at c0 c1 c2;clear hrd h1 h2 hb hn hm hs hlx hws;go_enter AHa,Tryz.ntmps180;(go_wp2_with (at_builtin;refine Fq rfl _ _ rfl Qz rfl HO.out rfl HR.out (wM _) (by unfold maxLen;omega) Ac ?_;intro A1 wP w1 hown1 Yq lL _;have ff:=(HB.out.Am Yq (λhh=>HO.out.FZ HB.out Az g hh rfl));have d0:=ff.cell 0;have d1:=ff.cell 1;have d2:=ff.cell 2;have e0:=ff.frozen 0;have e2:=ff.frozen 2;simp at d0 d1 d2));(have hb2:Bo (w1.setCell ⟨g,0,none⟩ (.slice A1 (n+k) wP)) g 183 #[.slice A1 (n+k) wP,.int .i64 (s:Nat),.slice M m dm]:=by simpa using ff.Em 0 (.slice A1 (n+k) wP));have hch:AZ [g] w1 (w1.setCell ⟨g,0,none⟩ (.slice A1 (n+k) wP)):=(AZ.refl [g] w1).setCell AY _;have HA1:=AQ (hown1.Am hch (λj hj hh=>hown1.FZ ff Az j hj (by simpa using hh)));have hM1:=HM.out.Am Yq (λj hj hh=>HM.out.own_ne HO.out Az j hj hh);have HM1:=AQ (hM1.Am hch (λj hj hh=>hM1.FZ ff Az j hj (by simpa using hh)));have HC:=AQ (show AZ (g::bo A) w (w1.setCell ⟨g,0,none⟩ (.slice A1 (n+k) wP)) from (Yq.mono (by simp+contextual)).trans hch AY);clear hM1 hch d0 d1 d2 e0 e2 ff c0 c1 c2 f0
 generalize w1.setCell ⟨g,0,none⟩ (.slice A1 (n+k) wP)=W2 at*
 have d0:=hb2.cell 0;have d2:=hb2.cell 2;have e2:=hb2.frozen 2;have d2a:=λo=>(hb2.alloc o).cell 2;simp at d0 d2 d2a;have HB2:=AQ hb2;clear hb2
 go_region_law (refine JE rfl _ _ rfl AH2 rfl (HM1.out.Am (((AZ.refl [] W2).drew).alloc _) AY) rfl (Own.lit W2.drew 3 1 #[.int .i64 ((n+k:Nat):Int)] 1 Az rfl).rd (AAa _ _) (by unfold maxLen;omega) Ac ?_;intro A2 cc2 w3 hown2 Og Jl _;have hb3:=((HB2.out.drew).alloc _).Am Og (λhh=>HM1.out.FZ HB2.out Az g hh rfl);have x2:=hb3.cell 2;have y2:=hb3.frozen 2;simp at x2)
 all_goals
  go_wp2
  go_end0
  obtain⟨hn,hm,hs,hlx⟩:=HE.out;have hW:AZ [g] w3 (w3.setCell ⟨g,2,none⟩ (.slice A2 (m+1) cc2)):=(AZ.refl [g] w3).setCell AY _;have hA3:=(HA1.out.Am (((AZ.refl [] W2).drew).alloc (.cells #[.int .i64 ((n+k:Nat):Int)] 3)) AY).Am Og (λj hj hh=>HA1.out.own_ne HM1.out Az j hj hh);have sz:w.heap.size<=W2.heap.size:=HC.out.size;refine⟨g::(bo A1++bo A2),rfl,⟨A1,n+k,wP,A2,m+1,cc2,s,by simpa using hb3.Em 2 (.slice A2 (m+1) cc2),?_,?_,rfl,?_,?_,hs⟩,?_,?_⟩;simpa[Dt] using hA3.Am hW (λj hj hh=>hA3.FZ hb3 Az j hj (by simpa using hh))
  ·rw[ACr,<- hn];have:=hown2.Am hW (λj hj hh=>hown2.FZ hb3 Az j hj (by simpa using hh));simp only[Bf,AL,BC,hlx];exact this
  rw[RY];omega;simp[hm]
  ·refine ((((HC.out.mono (L:=g::(bo A++bo M)) (λx hx=>.inl (by simp only[AA,AU] at hx⊢;rcases hx with hx|hx<;>simp[hx]))).drew).alloc _).trans Og ?_).trans hW AY;intro x hx;left;simp[hx]
  intro j hj;simp only[AA,AU] at hj⊢;rcases hj with rfl|hj|hj;simp
  ·rcases lL j hj with h1|h1;exact .inl (.inr (.inl h1));exact .inr h1.1
  rcases Jl j hj with h1|h1;exact .inl (.inr (.inr h1));right;have:=h1.1;simp at this;omega
theorem AFL(g:Nat)(L:List Nat)(base:List Int)(ws:List (List Int))(w:World)(h:Vs w g L base ws)(hlen:base.length+ws.flatten.length<=1073741824):
  Calls Ae 82 #[.pointer (some ⟨g,0,none⟩)] w (AH4 w g L (base++ws.flatten) []):=by
 obtain⟨A,n,c,M,m,dm,s,hb,h1,h2,rfl,hn,hm,hs⟩:=h;(have n63:n<=1073741824:=by omega);have hmd:=h2.rd.2.1;have HE:=AQ (show n=base.length+ws.flatten.length/\m=ws.length/\s=base.length from ⟨hn,hm,hs⟩);have HO:=AQ h1;have HM:=AQ h2;have HB:=AQ hb;have c0:=hb.cell 0;have c1:=hb.cell 1;have c2:=hb.cell 2;have f1:=hb.frozen 1;have f2:=hb.frozen 2;simp at c0 c1 c2;clear h1 h2 hb hn hm hs;go_enter AK1,Tryz.ntmps82;go_wp2
 go_end0
 obtain⟨hn,hm,hs⟩:=HE.out;have hb2:=(HB.out.Em 1 (.int .i64 n)).Em 2 (.slice M 0 dm);have hch:AZ [g] w ((w.setCell ⟨g,1,none⟩ (.int .i64 n)).setCell ⟨g,2,none⟩ (.slice M 0 dm)):=((AZ.refl [g] w).setCell AY _).setCell AY _;refine⟨g::(bo A++bo M),rfl,⟨A,n,c,M,0,dm,n,by simpa using hb2,?_,?_,rfl,?_,rfl,?_⟩,hch.mono AY,λk hk=>.inl hk⟩;simpa using HO.out.Am hch (λj hj hh=>HO.out.FZ HB.out Az j hj (by simpa using hh))
 ·have:=(HM.out.Am hch (λj hj hh=>HM.out.FZ HB.out Az j hj (by simpa using hh))).cut (BP _);simp only[KL,List.take_zero] at this;exact this
 simpa using hn;rw[hn,DU]
theorem AFM(g:Nat)(L:List Nat)(base:List Int)(ws:List (List Int))(w:World)(h:Vs w g L base ws)(hlen:base.length+ws.flatten.length<=1073741824)(N0:Nat)(hN0:(base++ws.flatten).length=N0):
  Calls Ae 63 #[.pointer (some ⟨g,0,none⟩)] w (Ko 5 1 w (bv (base++ws.flatten)) N0):=by
 subst hN0;obtain⟨A,n,c,M,m,dm,s,hb,h1,h2,rfl,hn,hm,hs⟩:=h;(have n63:n<=1073741824:=by omega);have HE:=AQ (show n=(base++ws.flatten).length by rw[DU];omega);have HO:=AQ h1;have c0:=hb.cell 0;simp at c0;clear h1 h2 hb hn hm hs;have k78:= @AHj;go_enter AKt,Tryz.ntmps63;(go_wp2_with (go_at_call 78;refine (clone_any A n c _ _ n63 HO.out.rd).mono ?_;rintro e w1 ⟨A1,c1,rfl,hown,EJ,hnew⟩));go_ret;rw[<- HE.out];exact⟨A1,c1,rfl,hown,EJ,hnew⟩
theorem AFN(g:Nat)(L:List Nat)(base:List Int)(ws:List (List Int))(w:World)(h:Vs w g L base ws)(hlen:base.length+ws.flatten.length<=1073741824)(N0:Nat)(hN0:base.length=N0):
  Calls Ae 90 #[.pointer (some ⟨g,0,none⟩)] w (Ko 5 1 w (bv base) N0):=by
 subst hN0;obtain⟨A,n,c,M,m,dm,s,hb,h1,h2,rfl,hn,hm,hs⟩:=h;(have n63:n<=1073741824:=by omega);(have s63:s<=1073741824:=by omega);(have hsn:s<=n:=by omega);have hnc:=h1.rd.2.1
 have hcut:Rd w 1 A s c (bv base):=by
  have:=h1.rd.take hsn;rw[D7] at this;rw[show bv base=(bv (base++ws.flatten)).take s by rw[hs];simp];exact this
 have HC:=AQ hcut;have HE:=AQ (show s=base.length from hs);have c0:=hb.cell 0;have c1:=hb.cell 1;simp at c0 c1;(have q0:(0:Int)<=s:=by omega);(have q1:(s:Int)<=c:=by omega);clear h1 h2 hb hn hm hs hcut;have k78:= @AHj;go_enter AK8,Tryz.ntmps90;go_wp2
 go_still_tail 9,Ap
 (go_wp2_with (go_at_call 78;refine (clone_any A s c _ _ s63 (HC.out.Am ((AZ.refl [] w).drew) AY)).mono ?_;rintro e w1 ⟨A1,c1,rfl,hown,EJ,hnew⟩));go_ret;rw[<- HE.out];exact⟨A1,c1,rfl,hown,((AZ.refl [] w).drew).Aq EJ,hnew⟩
theorem size_any(g:Nat)(L:List Nat)(base:List Int)(ws:List (List Int))(w:World)(h:Vs w g L base ws)(N0:Nat)(hN0:base.length+ws.flatten.length=N0):
  Calls Ae 181 #[.pointer (some ⟨g,0,none⟩)] w (λe w'=>e=.returned (.int .i64 (N0:Nat))/\w'=w):=by
 subst hN0;obtain⟨A,n,c,M,m,dm,s,hb,h1,h2,rfl,hn,hm,hs⟩:=h;have HE:=AQ hn;have c0:=hb.cell 0;simp at c0;clear h1 h2 hb hn hm hs;go_enter AHb,Tryz.ntmps181;go_wp2;go_ret;exact⟨by rw[<- HE.out];rfl,rfl⟩
def Oh (out:List Int) (start:Nat):List (List Int)->List Bool->List Int
 | [],_=>out|x::r,ks=>Oh (if ks.headD false then out++List.replicate (start - out.length) 0++x else out) (start+x.length) r ks.tail
theorem bV(out:List Int)(start:Nat)(ws:List (List Int))(x:List Int)(ks:List Bool):
  Oh out start (ws++[x]) ks=if ks[ws.length]?.getD false then Oh out start ws ks++List.replicate (start+ws.flatten.length - (Oh out start ws ks).length) 0++x else Oh out start ws ks:=by
 induction ws generalizing out start ks with
 |nil=>cases ks<;>simp[Oh]|cons y r ih=>
  simp only[List.cons_append,Oh,ih]
  cases ks with|nil=>simp|cons k ks=>simp[Fj]
theorem AJw(out:List Int)(start:Nat)(ws:List (List Int))(ks:List Bool)(h:out.length<=start):(Oh out start ws ks).length<=start+ws.flatten.length:=by
 induction ws generalizing out start ks with
 |nil=>simpa[Oh] using h|cons y r ih=>
  simp only[Oh,List.flatten_cons,DU]
  have:(if ks.headD false then out++List.replicate (start - out.length) 0++y else out).length<=start+y.length:=by
   split;simp;omega;omega
  have:=ih _ _ ks.tail this;omega
theorem AJx(base:List Int)(ws:List (List Int))(i:Nat)(x:List Int)(h:ws[i]? =some x):((base++ws.flatten).drop (base.length+(ws.take i).flatten.length)).take x.length=x:=by
 have hi:i<ws.length:=(BB.1 h).1
 have e:ws=ws.take i++x::ws.drop (i+1):=by
  conv=>lhs;rw[<- Gs i ws,Gh hi]
  rw[(BB.1 h).2]
 have e2:base++ws.flatten=(base++(ws.take i).flatten)++(x++(ws.drop (i+1)).flatten):=by
  conv=>lhs;rw[e]
  simp
 rw[e2,List.drop_left' AY,Ll rfl]
abbrev kv (ks:List Bool):List Value:=ks.map Value.bool
theorem AAb{w:World}{A:Option Addr}{n c:Nat}{ks:List Bool}(h:Rd w 1 A n c (kv ks)){j:Nat}(hj:j<n):
  ∃ad x,A=some ad/\ks[j]? =some x/\w.cell? (ad.add j)=some (.bool x):=by
 obtain⟨ad,u,h1,h2,h3⟩:=h.bT hj;rw[AV] at h2
 cases hz:ks[j]? with|none=>rw[hz] at h2;cases h2|some x=>rw[hz] at h2;simp at h2;subst h2;exact⟨ad,x,h1,rfl,h3⟩
theorem ACs(g:Nat)(L:List Nat)(base:List Int)(ws:List (List Int))(K:Option Addr)(kn kc:Nat)(ks:List Bool)(w:World)(h:Vs w g L base ws)(hlen:base.length+ws.flatten.length<=1073741824)
  (hwl:ws.length<=1073741824) (hkn:kn<=1073741824) (hkd:Rd w 1 K kn kc (kv ks)) (N0:Nat) (hN0:(Oh base base.length ws ks).length=N0):
  Calls Ae 57 #[.pointer (some ⟨g,0,none⟩),.slice K kn kc] w (Ko 5 1 w (bv (Oh base base.length ws ks)) N0):=by
 subst hN0;have HS:=AQ h;obtain⟨A,n,c,M,m,dm,s,hb,h1,h2,rfl,hn,hm,hs⟩:=h;(have n63:n<=1073741824:=by omega);(have m63:m<=1073741824:=by omega);(have hkl:ks.length=kn:=by have:=hkd.1;simp at this;omega);have HE:=AQ (show n=base.length+ws.flatten.length/\m=ws.length/\s=base.length/\ks.length=kn from ⟨hn,hm,hs,hkl⟩);have HO:=AQ h1;have HM:=AQ h2;have HB:=AQ hb;have HK:=AQ hkd;have HL:=AQ hlen;clear h1 h2 hb hn hm hs hkd hkl hlen hwl;have k90:= @AQN;go_enter AKp,Tryz.ntmps57;(go_wp2_with (go_at_call 90;refine (AFN g _ base ws _ HS.out HL.out base.length rfl).mono ?_;rintro e w1 ⟨A1,c1,rfl,hown,EJ,hnew⟩;have hb1:=HB.out.Am EJ AY;have c0:=hb1.cell 0;have c1':=hb1.cell 1;have c2:=hb1.cell 2;simp at c0 c1' c2));obtain⟨hn,hm,hs,hkl⟩:=HE.out;have hown':Own w1 5 1 A1 base.length c1 (bv base):=hown;clear hown c0 c1' c2
 go_loopw [5,6,20] (λo f q wr=>∃(i F N':Nat) (A':Option Addr) (c':Nat),i<=m/\o=.slice A' N' c'/\f=.int .i64 F/\q=.int .i64 i/\F=base.length+(ws.take i).flatten.length/\N'=(Oh base base.length (ws.take i) ks).length/\
  Own wr 5 1 A' N' c' (bv (Oh base base.length (ws.take i) ks))/\AZ [] w wr/\(∀k∈bo A',w.heap.size<=k)) (λ_ _ q _=>m - (intOf q).toNat)
 case atStart=>exact⟨0,s,_,A1,c1,BP _,rfl,rfl,rfl,by simp[hs],by simp[Oh],by simpa[Oh] using hown',EJ,hnew⟩
 obtain⟨i,F,N',A',c',hi,rfl,rfl,rfl,hF,hN,hown,EJ,hnew⟩:=hrel;have HF:=AQ hF;have HN:=AQ hN;have HW:=AQ hnew;have HG:=AQ hkl;have HNM:=AQ (show n=base.length+ws.flatten.length/\m=ws.length/\s=base.length from ⟨hn,hm,hs⟩);have hb1:=HB.out.Am EJ AY;have c0:=hb1.cell 0;simp at c0;by_cases hlt:i<m
 ·obtain⟨x,hx⟩: ∃x,ws[i]? =some x:=⟨_,Af Ac⟩;have hend:=AH3 base.length ws i x hx;have hle:=AJw base base.length (ws.take i) ks (AP _);have hts:=take_snoc ws i x hx;have hfl:(ws.take (i+1)).flatten.length=(ws.take i).flatten.length+x.length:=by rw[hts,RY]
  have htot:(ws.take (i+1)).flatten.length<=ws.flatten.length:=by
   conv=>rhs;rw[<- Gs (i+1) ws,JW,DU]
   omega
  obtain⟨E,hE⟩: ∃E,E=base.length+(ws.take i).flatten.length+x.length:=⟨_,rfl⟩;rw[<- hE] at hend;obtain⟨ad,u,rfl,hu,hcu⟩:=lJ ((HM.out.rd).Am EJ AY) hlt;rw[hend] at hu;simp at hu;subst hu;(have q1:F<=E:=by omega);(have q2:E<=n:=by have:=HL.out;omega);(have q3:N'<=F:=by omega);have q4:=HO.out.rd.2.1;obtain⟨S,hsl,hrs,hbs⟩:=AAU Qz (HO.out.rd) (show F<=E by omega) q2
  have ALX:Rd w 1 S (E - F) (c - F) (bv x):=by
   rw[D7,D7,show E - F=x.length by omega,hF,<- List.map_drop,<- D8,AJx base ws i x hx] at hrs;rw[show E - F=x.length by omega,hF];exact hrs
  have sG:=ALX.Am EJ AY;have ALY:=HO.out.lt;(have hdis: ∀k∈bo S,k∉bo A':=λk hk hk'=>by have h1:=ALY k (hbs k hk);have h2:=hnew k hk';omega);(have hga:g∉bo A':=λhh=>by have h1:=HB.out.lt;have h2:=hnew g hh;omega);have HRS:=AQ sG;have YL:=AQ hdis;have HGA:=AQ hga;have Yr:=AQ hbs;have HQ:=AQ (show F=base.length+(ws.take i).flatten.length/\E=F+x.length from ⟨hF,Ac⟩);have HX:=AQ hx;clear hrs ALX sG ALY hdis hga hbs hF hN hnew hkl hn hm hs hx hend hle hts hfl htot hE;by_cases hki:i<kn
  ·obtain⟨kd,b,rfl,hkb,hck⟩:=AAb (HK.out.Am EJ AY) hki;have HKB:=AQ hkb;clear hkb
   cases b with
   |true=>
    have q5:F - N'<=1073741824:=by omega
    go_wp2_with (first
     |(at_builtin;refine Zo rfl _ _ rfl Qz VU3 rfl rfl rfl hown (F - N') (by show Value.int .i64 _=_;congr 1;omega) (by unfold maxLen;omega) Ac ?_;intro A2 c2 w2 hown2 Og Jl;have hb2:=hb1.Am Og HGA.out;have d0:=hb2.cell 0;simp at d0;rw[show N'+(F - N')=F by omega] at hown2)
     |(at_builtin;go_must (refine Fq rfl _ _ rfl Qz rfl hown2 rfl (HRS.out.Am Og YL.out) (wM x) (by unfold maxLen;omega) Ac ?_);intro A3 c3 w3 hown3 AOo AOp _))
    go_roundw
    case rel=>
     obtain⟨hF,hE⟩:=HQ.out
     have haft:Oh base base.length (ws.take (i+1)) ks=Oh base base.length (ws.take i) ks++List.replicate (F - N') 0++x:=by
      rw[take_snoc ws i x HX.out,bV,CB,DK (FI (BB.1 HX.out).1),HKB.out,HN.out,hF];rfl
     refine⟨i+1,E,E,A3,c3,Ac,by first|rfl|(congr 1;omega),rfl,by go_num,?_,?_,?_,?_,?_⟩;rw[take_snoc ws i x HX.out,RY];omega;rw[haft];simp[<- HN.out];omega
     ·rw[haft];rw[show F+(E - F)=E by omega] at hown3;simpa[Dt] using hown3
     ·exact (EJ.trans Og (λy hy=>.inr (HW.out y hy))).trans AOo (λy hy=>by
       rcases Jl y hy with h1|h1;exact .inr (HW.out y h1)
       right;have:=EJ.size;omega)
     intro y hy;have:=EJ.size;have h2:=Og.size;rcases AOp y hy with h1|h1
     ·rcases Jl y h1 with h1|h1;exact HW.out y h1;omega
     omega
    simp[intOf];omega
   |false=>
    go_wp2;go_roundw
    case rel=>
     obtain⟨hF,hE⟩:=HQ.out
     have haft:Oh base base.length (ws.take (i+1)) ks=Oh base base.length (ws.take i) ks:=by
      rw[take_snoc ws i x HX.out,bV,CB,DK (FI (BB.1 HX.out).1),HKB.out];rfl
     exact⟨i+1,E,N',A',c',Ac,rfl,rfl,by go_num,by rw[take_snoc ws i x HX.out,RY];omega,by rw[haft];exact HN.out,by rw[haft];exact hown,EJ,HW.out⟩
    simp[intOf];omega
  have hkb:ks[i]? =none:=CS (by rw[HG.out];omega);have HKB:=AQ hkb;clear hkb;go_wp2;go_roundw
  case rel=>
   obtain⟨hF,hE⟩:=HQ.out
   have haft:Oh base base.length (ws.take (i+1)) ks=Oh base base.length (ws.take i) ks:=by
    rw[take_snoc ws i x HX.out,bV,CB,DK (FI (BB.1 HX.out).1),HKB.out];rfl
   exact⟨i+1,E,N',A',c',Ac,rfl,rfl,by go_num,by rw[take_snoc ws i x HX.out,RY];omega,by rw[haft];exact HN.out,by rw[haft];exact hown,EJ,HW.out⟩
  simp[intOf];omega
 go_wp2;go_ret;have him:ws.take i=ws:=Bc Ac;have hown5:=hown;rw[him] at hown5;have hN5:=HN.out;rw[him] at hN5;rw[<- hN5];exact⟨A',c',rfl,hown5,EJ,HW.out⟩
section
variable {κ α:Type} [DecidableEq κ]
def without (t:List (κ×α)) (k:κ):List (κ×α):=t.filter λp=>decide (p.1≠k)
theorem MG{t:List (κ×α)}{k:κ}(h:k∉t.map Prod.fst):without t k=t:=by
 unfold without;rw[JX];intro p hp;simp only[decide_eq_true_eq];intro e;exact h (Ag.2 ⟨p,hp,e⟩)
theorem Ir(p:κ×α)(t:List (κ×α))(k:κ):without (p::t) k=if p.1=k then without t k else p::without t k:=by
 unfold without;rw[Io];by_cases h:p.1=k<;>simp[h]
theorem Yt(p:κ×α)(t:List (κ×α))(k:κ):Ii (p::t) k=if p.1=k then t else p::Ii t k:=by
 unfold Ii;rw[AL,En];by_cases h:p.1=k;simp[h];(have hb:(p.1==k)=false:=by simp[h]);rw[if_neg h];simp only[hb];cases (t.map Prod.fst).idxOf? k<;>simp
theorem MH{t:List (κ×α)}(hn:(t.map Prod.fst).Nodup)(k:κ):Ii t k=without t k:=by
 induction t with
 |nil=>rfl|cons p r ih=>
  rw[AL,DW] at hn;rw[Yt,Ir];by_cases h:p.1=k;rw[if_pos h,if_pos h,MG (by rw[<- h];exact hn.1)];rw[if_neg h,if_neg h,ih hn.2]
theorem Uz(p:κ×α)(t:List (κ×α))(k:κ)(v:α):Dp (p::t) k v=if p.1=k then (k,v)::t else p::Dp t k v:=by
 unfold Dp;rw[AL,En];by_cases h:p.1=k;simp[h];(have hb:(p.1==k)=false:=by simp[h]);rw[if_neg h];simp only[hb];cases (t.map Prod.fst).idxOf? k<;>simp
theorem U0{t:List (κ×α)}(hn:(t.map Prod.fst).Nodup)(k:κ)(v:α):(Dp t k v).Perm ((k,v)::without t k):=by
 induction t with
 |nil=>exact EF _|cons p r ih=>
  rw[AL,DW] at hn;rw[Uz,Ir];by_cases h:p.1=k;rw[if_pos h,if_pos h,MG (by rw[<- h];exact hn.1)];rw[if_neg h,if_neg h];exact ((ih hn.2).cons p).trans (List.Perm.swap _ _ _)
end
def Vt (a b:ByteArray):Bool:=Op.bytesLess a.toList b.toList
theorem RZ{a b:ByteArray}:Vt a b=true↔a.data.toList<b.data.toList:=by
 unfold Vt;rw[Go.Proofs.bytesLess_eq,ByteArray.toList_eq,ByteArray.toList_eq];simp
theorem data_inj{a b:ByteArray}(h:a.data.toList=b.data.toList):a=b:=by
 cases a with|mk x=>cases b with|mk y=>
  (cases x;cases y);simp at h;subst h;rfl
theorem Yu{a b c:ByteArray}(h:Vt a b=true)(k:Vt b c=true):Vt a c=true:=by
 rw[RZ] at*
 exact List.lt_trans h k
theorem Wp(a:ByteArray):Vt a a=false:=by
 rw[<- I7,RZ];exact MR _
theorem AJy{a b:ByteArray}(h:a≠b)(k:Vt a b=false):Vt b a=true:=by
 rw[<- I7,RZ] at k;rw[RZ];have h1:b.data.toList<=a.data.toList:=List.not_lt.1 k;rcases Tv.1 h1 with h2|h2;exact h2;exact absurd (data_inj h2).symm h
section
variable {α:Type}
def IJ (k:ByteArray) (v:α):List (ByteArray×α)->List (ByteArray×α)
 | []=>[(k,v)]|p::r=>if Vt k p.1=true then (k,v)::p::r else p::IJ k v r
theorem Pv(k:ByteArray)(v:α): ∀t:List (ByteArray×α),(IJ k v t).Perm ((k,v)::t)
 | []=>EF _
 |p::r=>by
  rw[IJ];split;exact EF _;exact ((Pv k v r).cons p).trans (List.Perm.swap _ _ _)
def Rw (t:List (ByteArray×α)):Prop:=(t.map Prod.fst).Pairwise λa b=>Vt a b=true
theorem Rw.nodup{t:List (ByteArray×α)}(h:Rw t):(t.map Prod.fst).Nodup:=
 List.Pairwise.imp (λ{a b} hab e=>by subst e;rw[Wp] at hab;cases hab) h
theorem Rw.without{t:List (ByteArray×α)}(h:Rw t)(k:ByteArray):Rw (without t k):=
 VG ((List.filter_sublist).map Prod.fst) h
theorem Rw.with_{t:List (ByteArray×α)}(h:Rw t){k:ByteArray}(v:α)(hk:k∉t.map Prod.fst):Rw (IJ k v t):=by
 induction t with
 |nil=>simp[Rw,IJ]|cons p r ih=>
  have hp: ∀x∈r.map Prod.fst,Vt p.1 x=true:=(EI.1 h).1;have hr:Rw r:=(EI.1 h).2;rw[IJ];split
  ·rename_i hlt;refine EI.2 ⟨λx hx=>?_,h⟩;rcases AA.1 hx with rfl|hx;exact hlt;exact Yu hlt (hp x hx)
  rename_i hlt;rw[I7] at hlt;have hne:k≠p.1:=λe=>hk (by simp[e]);refine EI.2 ⟨λx hx=>?_,ih hr (λhm=>hk (Aj _ hm))⟩;have hx2:x∈((k,v)::r).map Prod.fst:=((Pv k v r).map Prod.fst).mem_iff.1 hx;rcases AA.1 hx2 with rfl|hx2;exact AJy hne hlt;exact hp x hx2
end
structure Jm where
 nm:ByteArray
 A:Option Addr
 n:Nat
 c:Nat
def Jm.cells (x:Jm):List Value:=[.string x.nm,.slice x.A x.n x.c]
def Iw (xs:List Jm):List Value:=xs.flatMap Jm.cells
theorem fO(xs:List Jm):(Iw xs).length=xs.length*2:=by
 induction xs with|nil=>rfl|cons x r ih=>simp only[Iw,F8,DU,List.length_cons] at ih⊢;rw[ih];simp[Jm.cells];omega
theorem NS(a b:List Jm):Iw (a++b)=Iw a++Iw b:=by simp[Iw]
theorem Px(xs:List Jm)(j k:Nat)(hk:k<2):(Iw xs)[j*2+k]? =(xs[j]?).bind λx=>x.cells[k]? :=by
 induction xs generalizing j with
 |nil=>simp[Iw]|cons x r ih=>
  simp only[Iw,F8]
  cases j with
  |zero=>
   rw[Dy (by simp[Jm.cells];omega)];simp
  |succ j=>
   rw[Bj (by simp[Jm.cells];omega)];(have:(j+1)*2+k - x.cells.length=j*2+k:=by simp[Jm.cells];omega);rw[this];simpa[Iw] using ih j
theorem UO(xs:List Jm): ∀u∈Iw xs,u.oneCell'=true:=by
 intro u hu;obtain⟨x,_,h⟩:=Bd.1 hu;simp only[Jm.cells,AA,JY,or_false] at h;rcases h with rfl|rfl<;>rfl
structure AD7 (w:World) (p:Addr) (x:Jm):Prop where
 c0:w.cell? p=some (.string x.nm)
 c1:w.cell? ⟨p.block,p.off+1,none⟩=some (.slice x.A x.n x.c)
theorem AD7.Am{w w':World}{p:Addr}{x:Jm}{L:List Nat}(h:AD7 w p x)(hc:AZ L w w')(hn:p.block∉L):AD7 w' p x:=⟨hc.cell h.c0 hn,hc.cell h.c1 hn⟩
theorem Rd.OJ{w:World}{A:Option Addr}{n c:Nat}{xs:List Jm}(h:Rd w 2 A n c (Iw xs)):xs.length=n:=by have:=h.1;rw[fO] at this;omega
theorem Rd.ns{w:World}{A:Option Addr}{n c:Nat}{xs:List Jm}(h:Rd w 2 A n c (Iw xs)){j:Nat}{x:Jm}(hj:xs[j]? =some x): ∃ad,A=some ad/\AD7 w (ad.add (j*2)) x:=by
 have hl:=h.OJ;(have hjn:j<n:=by have:=(BB.1 hj).1;omega);obtain⟨ad,rfl,_⟩:=h.some_ Ac;refine⟨ad,rfl,?_⟩;have hc: ∀k,k<2->∀u,x.cells[k]? =some u->w.cell? (ad.add (j*2+k))=some u:=λk hk u hu=>(h.2.2.2.2 ad rfl).2 _ u (by rw[Px _ _ _ hk,hj];exact hu);refine⟨hc 0 Az _ rfl,?_⟩;have:=hc 1 Az _ rfl;rw[lH] at this;exact this
abbrev FM:=Jm×List Int
abbrev DM:=Jm×List FM
abbrev He:=List (ByteArray×List (ByteArray×List Int))
def Fe (fs:List FM):List Jm:=fs.map (·.1)
def Ej (ds:List DM):List Jm:=ds.map (·.1)
def BI (fs:List FM):List (ByteArray×List Int):=fs.map λf=>(f.1.nm,f.2)
def BG (ds:List DM):He:=ds.map λd=>(d.1.nm,BI d.2)
def GZ (fs:List FM):List Nat:=fs.flatMap λf=>bo f.1.A
def Nv (ds:List DM):List Nat:=ds.flatMap λd=>bo d.1.A++GZ d.2
structure Ff (w:World) (A:Option Addr) (n c:Nat) (fs:List FM):Prop where
 row:Rd w 2 A n c (Iw (Fe fs))
 dat: ∀f∈fs,Rd w 1 f.1.A f.1.n f.1.c (bv f.2)
structure Gl (w:World) (A:Option Addr) (n c:Nat) (ds:List DM):Prop where
 row:Rd w 2 A n c (Iw (Ej ds))
 Iu: ∀d∈ds,Ff w d.1.A d.1.n d.1.c d.2
theorem Ff.Am{w w':World}{A:Option Addr}{n c:Nat}{fs:List FM}{L:List Nat}(h:Ff w A n c fs)(hc:AZ L w w')(hn: ∀k∈bo A++GZ fs,k∉L):Ff w' A n c fs:=
 ⟨h.row.Am hc (λk hk=>hn k (Bh _ hk)),λf hf=>(h.dat f hf).Am hc (λk hk=>hn k (Bi _ (Bd.2 ⟨f,hf,hk⟩)))⟩
theorem Gl.Am{w w':World}{A:Option Addr}{n c:Nat}{ds:List DM}{L:List Nat}(h:Gl w A n c ds)(hc:AZ L w w')(hn: ∀k∈bo A++Nv ds,k∉L):Gl w' A n c ds:=
 ⟨h.row.Am hc (λk hk=>hn k (Bh _ hk)),λd hd=>(h.Iu d hd).Am hc (λk hk=>hn k (Bi _ (Bd.2 ⟨d,hd,hk⟩)))⟩
theorem Gl.GK{w w':World}{A:Option Addr}{n c:Nat}{ds:List DM}(h:Gl w A n c ds)(hc:AZ [] w w'):Gl w' A n c ds:=h.Am hc EY
theorem Ff.GK{w w':World}{A:Option Addr}{n c:Nat}{fs:List FM}(h:Ff w A n c fs)(hc:AZ [] w w'):Ff w' A n c fs:=h.Am hc EY
structure Gw (w:World) (A:Option Addr) (n c:Nat) (fs:List FM):Prop where
 row:Own w 64 2 A n c (Iw (Fe fs))
 dat: ∀f∈fs,Own w 5 1 f.1.A f.1.n f.1.c (bv f.2)
 sep:(GZ fs).Nodup
structure JU (w:World) (A:Option Addr) (n c:Nat) (ds:List DM):Prop where
 row:Own w 77 2 A n c (Iw (Ej ds))
 Iu: ∀d∈ds,Gw w d.1.A d.1.n d.1.c d.2
 sep:(Nv ds).Nodup
theorem Gw.rd{w:World}{A:Option Addr}{n c:Nat}{fs:List FM}(h:Gw w A n c fs):Ff w A n c fs:=⟨h.row.rd,λf hf=>(h.dat f hf).rd⟩
theorem JU.rd{w:World}{A:Option Addr}{n c:Nat}{ds:List DM}(h:JU w A n c ds):Gl w A n c ds:=⟨h.row.rd,λd hd=>(h.Iu d hd).rd⟩
theorem Gw.Am{w w':World}{A:Option Addr}{n c:Nat}{fs:List FM}{L:List Nat}(h:Gw w A n c fs)(hc:AZ L w w')(hn: ∀k∈bo A++GZ fs,k∉L):Gw w' A n c fs:=
 ⟨h.row.Am hc (λk hk=>hn k (Bh _ hk)),λf hf=>(h.dat f hf).Am hc (λk hk=>hn k (Bi _ (Bd.2 ⟨f,hf,hk⟩))),h.sep⟩
theorem JU.Am{w w':World}{A:Option Addr}{n c:Nat}{ds:List DM}{L:List Nat}(h:JU w A n c ds)(hc:AZ L w w')(hn: ∀k∈bo A++Nv ds,k∉L):JU w' A n c ds:=
 ⟨h.row.Am hc (λk hk=>hn k (Bh _ hk)),λd hd=>(h.Iu d hd).Am hc (λk hk=>hn k (Bi _ (Bd.2 ⟨d,hd,hk⟩))),h.sep⟩
theorem Gw.lt{w:World}{A:Option Addr}{n c:Nat}{fs:List FM}(h:Gw w A n c fs): ∀k∈bo A++GZ fs,k<w.heap.size:=by
 intro k hk;rcases AU.1 hk with hk|hk;exact h.row.lt k hk;obtain⟨f,hf,hk⟩:=Bd.1 hk;exact (h.dat f hf).lt k hk
theorem JU.lt{w:World}{A:Option Addr}{n c:Nat}{ds:List DM}(h:JU w A n c ds): ∀k∈bo A++Nv ds,k<w.heap.size:=by
 intro k hk;rcases AU.1 hk with hk|hk;exact h.row.lt k hk;obtain⟨d,hd,hk⟩:=Bd.1 hk;exact (h.Iu d hd).lt k hk
theorem sH:Ety Ae 25 64 2 40 (.agg #[.string ByteArray.empty,.slice none 0 0]):=.mk' AQY Ap rfl Az
theorem lM:Ety Ae 22 77 2 40 (.agg #[.string ByteArray.empty,.slice none 0 0]):=.mk' AQX Ap rfl Az
theorem bW(A:Option Addr):(bo A).Nodup:=by cases A<;>simp
theorem Gw.snoc{w w':World}{A A':Option Addr}{n c c':Nat}{fs:List FM}(h:Gw w A n c fs){x:FM}(hc:AZ (bo A) w w')(hr:Own w' 64 2 A' (n+1) c' (Iw (Fe (fs++[x]))))(hx:Own w' 5 1 x.1.A x.1.n x.1.c (bv x.2))(hd: ∀k∈bo x.1.A,k∉GZ fs):Gw w' A' (n+1) c' (fs++[x]):=by
 refine⟨hr,λf hf=>?_,?_⟩
 ·rcases AU.1 hf with hf|hf;exact (h.dat f hf).Am hc ((h.dat f hf).own_ne h.row Az);simp only[Ad] at hf;subst hf;exact hx
 unfold GZ;rw[VH];refine EN.2 ⟨h.sep,by simpa using bW x.1.A,λa ha b hb=>?_⟩;simp only[F8,List.flatMap_nil,EK] at hb;rintro rfl;exact hd a hb ha
theorem lN(fs:List FM)(x:FM):GZ (fs++[x])=GZ fs++bo x.1.A:=by simp[GZ]
theorem Yv(ds:List DM)(x:DM):Nv (ds++[x])=Nv ds++(bo x.1.A++GZ x.2):=by simp[Nv]
theorem Gw.nodup{w:World}{A:Option Addr}{n c:Nat}{fs:List FM}(h:Gw w A n c fs):(bo A++GZ fs).Nodup:=by
 refine EN.2 ⟨bW A,h.sep,λa ha b hb=>?_⟩;obtain⟨f,hf,hb⟩:=Bd.1 hb;rintro rfl;exact (h.dat f hf).own_ne h.row Az a hb ha
theorem JU.AJz{w:World}{A:Option Addr}{n c:Nat}{ds:List DM}(h:JU w A n c ds): ∀k∈Nv ds,k∉bo A:=by
 intro k hk;obtain⟨d,hd,hk⟩:=Bd.1 hk;rcases AU.1 hk with hk|hk;exact (h.Iu d hd).row.own_ne h.row Az k hk;obtain⟨f,hf,hk⟩:=Bd.1 hk;exact ((h.Iu d hd).dat f hf).own_ne h.row Az k hk
theorem JU.snoc{w w':World}{A A':Option Addr}{n c c':Nat}{ds:List DM}(h:JU w A n c ds){x:DM}(hc:AZ (bo A) w w')(hr:Own w' 77 2 A' (n+1) c' (Iw (Ej (ds++[x]))))(hx:Gw w' x.1.A x.1.n x.1.c x.2)(hd: ∀k∈bo x.1.A++GZ x.2,k∉Nv ds):JU w' A' (n+1) c' (ds++[x]):=by
 refine⟨hr,λd hd=>?_,?_⟩
 ·rcases AU.1 hd with hd|hd;exact (h.Iu d hd).Am hc (λk hk=>h.AJz k (Bd.2 ⟨d,hd,hk⟩));simp only[Ad] at hd;subst hd;exact hx
 rw[Yv];exact EN.2 ⟨h.sep,hx.nodup,λa ha b hb=>by rintro rfl;exact hd a hb ha⟩
def Xd (w:World) (D:He) (e:Ending) (w':World):Prop:=
 ∃A n c ds,e=.returned (.slice A n c)/\JU w' A n c ds/\BG ds=D/\AZ [] w w'/\∀k∈bo A++Nv ds,w.heap.size<=k
open Go.ChangeShapes Go.WideShapes Go.Deep
open Go
section
variable {P:Program} {ops:Array Oper} {Q:Exit->Act->World->Prop} {md:Region.Mode} {S:World->Prop}
theorem tk(i:Nat){oi:Oper}{v:Value}{fuel:Nat}{listed:Array Bool}{a a':Act}{w:World}(h:wpAnyH P md ops Q S fuel (listed.setIfInBounds i true) a' w)(hi:ops[i]? =some oi:=by exact rfl)
  (hs:Region.noSelect ops=true:=by kernel_rfl) (hf:Region.free md ops listed i=true:=by kernel_rfl) (hr:(Region.ready md ops listed).contains i=true:=by kernel_rfl)
  (hy:YieldsIf P ops S oi v a:=by first|exact Or.inl ⟨by rfl,by intro w' hSw;go_simp;try with_reducible rfl⟩|exact Or.inr ⟨by rfl,rfl⟩) (ha:a.put oi.dst v=a':=by simp only[Act.put,Be];first|done|rfl)
  (hQ: ∀c a w,Q (.panic c) (a.put oi.dst v) w->Q (.panic c) a w:=by first|exact λ_ _ _ h=>h|exact λ_ _ _ h=>AH5.out _ _ _ _ _ Az h) (hS:S w:=by assumption):wpAnyH P md ops Q S (fuel+1) listed a w:=
 wpAnyH_take hi hs hf hr hQ hy hS (by rw[ha];exact h)
theorem Gm(i:Nat){C:World->Prop}(q: ∀w,S w->C w){oi:Oper}{v:Value}{fuel:Nat}{listed:Array Bool}{a a':Act}{w:World}(h:wpAnyH P md ops Q S fuel (listed.setIfInBounds i true) a' w)(hi:ops[i]? =some oi:=by exact rfl)
  (hs:Region.noSelect ops=true:=by kernel_rfl) (hf:Region.free md ops listed i=true:=by kernel_rfl) (hr:(Region.ready md ops listed).contains i=true:=by kernel_rfl)
  (hw:Region.wanted oi (yielded ops a.tmps)=true:=by rfl)
  (hy: ∀w,S w->C w->(execOp a.eval oi).run P w=.ok (.value v) w:=by intro w' hSw q;go_simp;try with_reducible rfl) (ha:a.put oi.dst v=a':=by simp only[Act.put,Be];first|done|rfl)
  (hQ: ∀c a w,Q (.panic c) (a.put oi.dst v) w->Q (.panic c) a w:=by first|exact λ_ _ _ h=>h|exact λ_ _ _ h=>AH5.out _ _ _ _ _ Az h) (hS:S w:=by assumption):wpAnyH P md ops Q S (fuel+1) listed a w:=
 wpAnyH_take hi hs hf hr hQ (Or.inl ⟨hw,λw hw'=>hy w hw' (q w hw')⟩) hS (by rw[ha];exact h)
theorem AQh(i:Nat){C D:World->Prop}(q: ∀w,S w->C w/\D w){oi:Oper}{v:Value}{fuel:Nat}{listed:Array Bool}{a a':Act}{w:World}(h:wpAnyH P md ops Q S fuel (listed.setIfInBounds i true) a' w)(hi:ops[i]? =some oi:=by exact rfl)
  (hs:Region.noSelect ops=true:=by kernel_rfl) (hf:Region.free md ops listed i=true:=by kernel_rfl) (hr:(Region.ready md ops listed).contains i=true:=by kernel_rfl)
  (hw:Region.wanted oi (yielded ops a.tmps)=true:=by rfl)
  (hy: ∀w,S w->C w->D w->(execOp a.eval oi).run P w=.ok (.value v) w:=by intro w' hSw q q2;go_simp;try with_reducible rfl) (ha:a.put oi.dst v=a':=by simp only[Act.put,Be];first|done|rfl)
  (hQ: ∀c a w,Q (.panic c) (a.put oi.dst v) w->Q (.panic c) a w:=by first|exact λ_ _ _ h=>h|exact λ_ _ _ h=>AH5.out _ _ _ _ _ Az h) (hS:S w:=by assumption):wpAnyH P md ops Q S (fuel+1) listed a w:=
 wpAnyH_take hi hs hf hr hQ (Or.inl ⟨hw,λw hw'=>hy w hw' (q w hw').1 (q w hw').2⟩) hS (by rw[ha];exact h)
theorem Ee(i:Nat){o:Oper}{fuel:Nat}{listed:Array Bool}{a:Act}{w:World}
  (h: ∀K':Act->World->Prop,Shut (∀a w,S w->(S w->wpAnyH P md ops Q S fuel (listed.setIfInBounds i true) a w)->K' a w)->if Region.wanted o (yielded ops a.tmps)=true then Oper.wp P o a w K' Q else K' (a.put o.dst undef) w)
  (ho:ops[i]? =some o:=by exact rfl) (hr:Region.ready md ops listed=[i]:=by kernel_rfl):wpAnyH P md ops Q S (fuel+1) listed a w:=
 wpAnyH_ready hr AY (AllReadyH.cons ho h AllReadyH.nil)
end
def iL (c:Int):Bool:=decide (97<=c/\c<=122) || decide (48<=c/\c<=57) || c==46 || c==95 || c==45
def DR (s:ByteArray):Bool:=decide (0<s.size/\s.size<=30) && s.data.toList.all λb=>iL (b.toNat:Int)
theorem lQ{s:ByteArray}{i:Nat}{u:UInt8}(h:s.data.toList[i]? =some u)(hb:iL (u.toNat:Int)=false):DR s=false:=by
 unfold DR;rw[AEf];right;rw[List.all_eq_false];exact⟨u,Aa h,by simp[hb]⟩
theorem sJ{l:List UInt8}{i:Nat}{u:UInt8}(h: ∀x∈l.take i,iL (x.toNat:Int)=true)(hu:l[i]? =some u)(ho:iL (u.toNat:Int)=true): ∀x∈l.take (i+1),iL (x.toNat:Int)=true:=by
 intro x hx;rw[FC,hu] at hx;rcases AU.1 hx with h1|h1;exact h x h1;simp at h1;subst h1;exact ho
theorem Q3(s:ByteArray)(w:World):Calls Ae 36 #[.string s] w λe w'=>e=.returned (.bool (DR s))/\w'=w:=by
 by_cases h0:s.size=0
 ·have hs:s=ByteArray.empty:=by
   cases s with|mk d=>simp[ByteArray.size] at h0;subst h0;rfl
  subst hs;go_enter AD5,Tryz.ntmps36;go_wp2;go_ret;exact⟨rfl,rfl⟩
 have e1:s.toList.isEmpty=false:=by
  rw[ByteArray.toList_eq,<- I7,List.isEmpty_iff];intro h;apply h0;(have q:s.data.toList.length=0:=by rw[h];rfl);simpa using q
 by_cases h30:30<s.size
 ·(have e2:decide ((30:Int)<(s.size:Int))=true:=by simp;omega);have HR:Hid (DR s=false):=AQ (by unfold DR;simp;omega);go_enter AD5,Tryz.ntmps36;go_wp2;go_ret;exact⟨by rw[HR.out];rfl,rfl⟩
 (have e2:decide ((30:Int)<(s.size:Int))=false:=by simp;omega);go_enter AD5,Tryz.ntmps36;go_wp2;go_loopw [14] (λq wr=>∃i:Nat,i<=s.size/\q=.int .i64 i/\(∀x∈s.data.toList.take i,iL (x.toNat:Int)=true)/\wr=w) (λq _=>s.size - (intOf q).toNat)
 case atStart=>exact⟨0,BP _,rfl,AY,rfl⟩
 obtain⟨i,hi,rfl,hall,rfl⟩:=hrel;have Lc:=AQ hall;clear hall;by_cases hlt:i<s.size
 ·(have hlt':(i:Int)<(s.size:Int):=by omega);have HX:Hid (s.data.toList[i]? =some (s[i]'hlt)):=AQ (by rw[Af (by simpa using hlt)];rfl);have hub:(s[i]'hlt).toNat<256:=(s[i]'hlt).toNat_lt;rcases (show (97<=(s[i]'hlt).toNat/\(s[i]'hlt).toNat<=122)\/(48<=(s[i]'hlt).toNat/\(s[i]'hlt).toNat<=57)\/(s[i]'hlt).toNat=46\/(s[i]'hlt).toNat=95\/(s[i]'hlt).toNat=45\/((s[i]'hlt).toNat<48/\(s[i]'hlt).toNat≠46/\(s[i]'hlt).toNat≠45)\/(57<(s[i]'hlt).toNat/\(s[i]'hlt).toNat<97/\(s[i]'hlt).toNat≠95)\/(122<(s[i]'hlt).toNat) by omega) with hq|hq|hq|hq|hq|hq|hq|hq
  all_goals
   (first|have e0:decide (((s[i]'hlt).toNat:Int)<97)=true:=by simp;omega|have e0:decide (((s[i]'hlt).toNat:Int)<97)=false:=by simp;omega);(first|have e1:decide (122<((s[i]'hlt).toNat:Int))=true:=by simp;omega|have e1:decide (122<((s[i]'hlt).toNat:Int))=false:=by simp;omega);(first|have e2:decide (((s[i]'hlt).toNat:Int)<48)=true:=by simp;omega|have e2:decide (((s[i]'hlt).toNat:Int)<48)=false:=by simp;omega);(first|have e3:decide (57<((s[i]'hlt).toNat:Int))=true:=by simp;omega|have e3:decide (57<((s[i]'hlt).toNat:Int))=false:=by simp;omega);(first|have e4:(((s[i]'hlt).toNat:Int) !=46)=true:=by simp;omega|have e4:(((s[i]'hlt).toNat:Int) !=46)=false:=by simp;omega);(first|have e5:(((s[i]'hlt).toNat:Int) !=95)=true:=by simp;omega|have e5:(((s[i]'hlt).toNat:Int) !=95)=false:=by simp;omega);(first|have e6:(((s[i]'hlt).toNat:Int) !=45)=true:=by simp;omega|have e6:(((s[i]'hlt).toNat:Int) !=45)=false:=by simp;omega);first
   |have HO:Hid (iL ((s[i]'hlt).toNat:Int)=true):=AQ (by unfold iL;simp;omega)
    go_wp2;go_roundw
    case rel=>exact⟨i+1,Ac,by go_num,sJ Lc.out HX.out HO.out,trivial⟩
    simp[intOf];omega
   |have HR:Hid (DR s=false):=AQ (lQ HX.out (by unfold iL;simp;omega))
    go_wp2;go_ret;exact⟨by rw[HR.out];rfl,rfl⟩
 obtain rfl:i=s.size:=by omega
 have HR:Hid (DR s=true):=AQ (by
  unfold DR;rw[BF];refine⟨by simp;omega,CO.2 (λx hx=>Lc.out x ?_)⟩;rw[Bc AY]
  exact hx)
 go_wp2;go_ret;exact⟨by rw[HR.out];rfl,rfl⟩
def lS:ByteArray:=⟨#[97,98,99,100,101,102,103,104,105,106,107,108,109,110,111,112,113,114,115,116,117,118,119,120,121,122,48,49,50,51,52,53,54,55,56,57,46,95,45]⟩
def fP (k:Nat) (c:Nat):Bool:=(lS.data.toList.take k).any λb=>b.toNat==c
theorem AFO:((List.range 256).all λn=>fP 39 n==iL (n:Int))=true:=by kernel_rfl
theorem AFP{c:Nat}(h:c<256):fP 39 c=iL (c:Int):=by
 have q:=CO.1 AFO c (GG.2 h);exact eq_of_beq q
theorem ACt{k c:Nat}(h:k<39):fP (k+1) c=(fP k c || (lS[k]'h).toNat==c):=by
 unfold fP;rw[FC,show lS.data.toList[k]? =some (lS[k]'h) from by rw[Af (show k<lS.data.toList.length from h)];rfl];simp[List.any_append]
theorem lT(s:ByteArray)(w:World):Calls Ae 10 #[.string s] w λe w'=>e=.returned (.bool (DR s))/\AZ [] w w':=by
 by_cases h0:s.size=0
 ·(have e1:((s.size:Int)==0)=true:=by simp[h0]);have HR:Hid (DR s=false):=AQ (by unfold DR;simp[h0]);go_enter AD4,Tryz.ntmps10;go_wp2;go_ret;exact⟨by rw[HR.out];rfl,AZ.refl _ _⟩
 (have e1:((s.size:Int)==0)=false:=by rw[beq_eq_false_iff_ne];omega);by_cases h30:30<s.size
 ·(have e2:decide ((30:Int)<(s.size:Int))=true:=by simp;omega);have HR:Hid (DR s=false):=AQ (by unfold DR;simp;omega);go_enter AD4,Tryz.ntmps10;go_wp2;go_ret;exact⟨by rw[HR.out];rfl,AZ.refl _ _⟩
 (have e2:decide ((30:Int)<(s.size:Int))=false:=by simp;omega);go_enter AD4,Tryz.ntmps10;go_wp2;go_loopw [3] (λq wr=>∃i:Nat,i<=s.size/\q=.int .i64 i/\(∀x∈s.data.toList.take i,iL (x.toNat:Int)=true)/\AZ [] w wr) (λq _=>s.size - (intOf q).toNat)
 case atStart=>exact⟨0,BP _,rfl,AY,AZ.refl _ _⟩
 obtain⟨i,hi,rfl,hall,hch⟩:=hrel;have Lc:=AQ hall;have Dc:=AQ hch;clear hall hch;by_cases hlt:i<s.size
 ·(have hlt':(i:Int)<(s.size:Int):=by omega);have HX:Hid (s.data.toList[i]? =some (s[i]'hlt)):=AQ (by rw[Af (by simpa using hlt)];rfl);have hub:(s[i]'hlt).toNat<256:=(s[i]'hlt).toNat_lt;go_wp2;obtain⟨wk,hwk⟩: ∃wk:World,wk=wr:=⟨_,rfl⟩;subst hwk;go_loopw [5,4] (λq b wr=>∃k:Nat,k<=39/\q=.int .i64 k/\b=.bool (fP k (s[i]'hlt).toNat)/\AZ [] wk wr) (λq _ _=>39 - (intOf q).toNat)
  case atStart=>exact⟨0,Ac,rfl,rfl,AZ.refl _ _⟩
  obtain⟨k,hk,rfl,rfl,hcr⟩:=hrel;have HCR:=AQ hcr;clear hcr;by_cases AQi:k<39
  ·(have ARm:(k:Int)<39:=by omega);have HS:=AQ (ACt (c:=(s[i]'hlt).toNat) AQi)
   cases hb:fP k (s[i]'hlt).toNat with
   |true=>
    rw[hb] at HS;clear hb;(go_wp2_with fail);go_quiet (fail);go_wp2;go_roundw
    case rel=>exact⟨k+1,Ac,by go_num,by rw[HS.out];rfl,HCR.out.drewN _⟩
    simp[intOf];omega
   |false=>
    rw[hb] at HS;clear hb;(go_wp2_with fail);go_quiet (fail);go_wp2;go_roundw
    case rel=>
     refine⟨k+1,Ac,by go_num,?_,HCR.out.drewN _⟩;rw[HS.out,Bool.false_or];exact congrArg Value.bool (by rw[J3];simp;exact⟨λh=>by exact_mod_cast h,λh=>by exact_mod_cast h⟩)
    simp[intOf];omega
  (obtain rfl:k=39:=by omega);have HK:=AQ (AFP hub)
  cases hb:fP 39 (s[i]'hlt).toNat with
  |true=>
   rw[hb] at HK;clear hb;go_wp2;go_roundw
   case rel=>exact⟨i+1,Ac,by go_num,sJ Lc.out HX.out HK.out.symm,Dc.out.Aq HCR.out⟩
   simp[intOf];omega
  |false=>
   rw[hb] at HK;clear hb;have HR:Hid (DR s=false):=AQ (lQ HX.out HK.out.symm);go_wp2;go_ret;exact⟨by rw[HR.out];rfl,Dc.out.Aq HCR.out⟩
 obtain rfl:i=s.size:=by omega
 have HR:Hid (DR s=true):=AQ (by
  unfold DR;rw[BF];refine⟨by simp;omega,CO.2 (λx hx=>Lc.out x ?_)⟩;rw[Bc AY]
  exact hx)
 go_wp2;go_ret;exact⟨by rw[HR.out];rfl,Dc.out⟩
end Go.Proofs.YtkkgcebhfghdnaaGreatDoor.Vw
namespace Go.Proofs.YtkkgcebhfghdnaaGreatDoor
open Go
open Go.Shelf
def Ai.fQ:Go.Shelf.Ren:=⟨fun|7=>88|10=>124|n=>n,fun|23=>112|26=>9|3=>130|28=>179|0=>0|27=>178|33=>37|4=>4|n=>n,fun|n=>n⟩
theorem Ai.AD8:Go.Proofs.SlLaysZ.n7 Ae Ai.fQ:={
 mixed:=by kernel_rfl
 f7:=⟨Tryz.f88.name,Az,AK6.trans (congrArg some Ap)⟩
 f10:=⟨Tryz.f124.name,Az,AHS.trans (congrArg some Ap)⟩
 t0:=VU0
 a0:=VI0
 z0:=VS0
 v0:=VZ0
 t4:=VU4
 a4:=VI4
 z4:=VS4
 v4:=VZ4
 t23:=IZ
 a23:=AN0
 z23:=AN1
 v23:=AN2
 t26:=J4
 a26:=jJ
 z26:=jK
 v26:=jL
 t27:=AHv
 a27:=AHw
 z27:=AHx
 v27:=AHy
 t28:=ACm
 a28:=ACn
 z28:=ACo
 v28:=ACp
 t33:=ALS
 a33:=ALT
 z33:=ALU
 v33:=ALV}
def Ai.fU:Go.Shelf.Ren:=⟨fun|7=>89|10=>125|n=>n,fun|23=>130|26=>9|3=>121|28=>179|0=>0|27=>178|33=>37|4=>4|n=>n,fun|n=>n⟩
theorem Ai.AD9:Go.Proofs.SlLaysZ.n7 Ae Ai.fU:={
 mixed:=by kernel_rfl
 f7:=⟨Tryz.f89.name,Az,AK7.trans (congrArg some Ap)⟩
 f10:=⟨Tryz.f125.name,Az,AHT.trans (congrArg some Ap)⟩
 t0:=VU0
 a0:=VI0
 z0:=VS0
 v0:=VZ0
 t4:=VU4
 a4:=VI4
 z4:=VS4
 v4:=VZ4
 t23:=Oc
 a23:=AHr
 z23:=AHs
 v23:=AHt
 t26:=J4
 a26:=jJ
 z26:=jK
 v26:=jL
 t27:=AHv
 a27:=AHw
 z27:=AHx
 v27:=AHy
 t28:=ACm
 a28:=ACn
 z28:=ACo
 v28:=ACp
 t33:=ALS
 a33:=ALT
 z33:=ALU
 v33:=ALV}
def Ai.sortedA_ren:Go.Shelf.Ren:=⟨fun|6=>87|8=>122|9=>123|11=>136|13=>138|12=>137|23=>148|24=>149|14=>139|15=>140|16=>141|17=>142|18=>143|19=>144|20=>145|21=>146|22=>147|25=>150|26=>151|27=>152|28=>153|29=>154|30=>155|31=>156|n=>n,fun|26=>9|28=>179|24=>69|0=>0|3=>3|37=>214|48=>166|50=>163|4=>4|40=>243|39=>242|45=>248|5=>5|9=>9|51=>252|55=>255|57=>257|58=>258|33=>37|n=>n,fun|n=>n⟩
theorem Ai.sortedA:Go.Proofs.SlLaysZ.n6 Ae Ai.sortedA_ren:={
 mixed:=by kernel_rfl
 f6:=⟨Tryz.f87.name,Az,AK5.trans (congrArg some Ap)⟩
 f8:=⟨Tryz.f122.name,Az,ANJ.trans (congrArg some Ap)⟩
 f11:=⟨Tryz.f136.name,Az,ANK.trans (congrArg some Ap)⟩
 t0:=VU0
 a0:=VI0
 z0:=VS0
 v0:=VZ0
 t24:=AHm
 a24:=AHn
 z24:=AHo
 v24:=AHp
 t26:=J4
 a26:=jJ
 z26:=jK
 v26:=jL
 t28:=ACm
 a28:=ACn
 z28:=ACo
 v28:=ACp
 i26:=by kernel_rfl}
def Ai.ACu:Go.Shelf.Ren:=⟨fun|6=>123|8=>138|9=>137|19=>148|20=>149|21=>139|22=>140|23=>141|24=>142|25=>143|26=>144|27=>145|28=>146|29=>147|36=>150|31=>151|32=>152|37=>153|38=>154|39=>155|41=>156|n=>n,fun|27=>69|29=>9|3=>3|32=>214|26=>69|0=>0|44=>166|46=>163|4=>4|36=>243|35=>242|41=>248|5=>5|9=>9|53=>252|57=>255|63=>257|64=>258|n=>n,fun|n=>n⟩
theorem Ai.sortA:Go.Proofs.SlLaysM.n6 Ae Ai.ACu:={
 mixed:=by kernel_rfl
 f6:=⟨Tryz.f123.name,Az,ACk.trans (congrArg some Ap)⟩
 f8:=ANM.trans (congrArg some Ap)
 f9:=⟨Tryz.f137.name,Az,ANL.trans (congrArg some Ap)⟩
 f19:=ANX.trans (congrArg some Ap)
 f20:=ANZ.trans (congrArg some Ap)
 f21:=⟨Tryz.f139.name,Az,ANN.trans (congrArg some Ap)⟩
 f22:=⟨Tryz.f140.name,Az,ANO.trans (congrArg some Ap)⟩
 f23:=⟨Tryz.f141.name,Az,ANP.trans (congrArg some Ap)⟩
 f24:=⟨Tryz.f142.name,Az,ANQ.trans (congrArg some Ap)⟩
 f25:=⟨Tryz.f143.name,Az,ANR.trans (congrArg some Ap)⟩
 f26:=⟨Tryz.f144.name,Az,ANT.trans (congrArg some Ap)⟩
 f27:=⟨Tryz.f145.name,Az,ANU.trans (congrArg some Ap)⟩
 f28:=⟨Tryz.f146.name,Az,ANV.trans (congrArg some Ap)⟩
 f29:=⟨Tryz.f147.name,Az,ANW.trans (congrArg some Ap)⟩
 f31:=ANb.trans (congrArg some Ap)
 f32:=ANc.trans (congrArg some Ap)
 f36:=⟨Tryz.f150.name,Az,ANa.trans (congrArg some Ap)⟩
 f37:=⟨Tryz.f153.name,Az,ANd.trans (congrArg some Ap)⟩
 f38:=⟨Tryz.f154.name,Az,ANe.trans (congrArg some Ap)⟩
 f39:=⟨Tryz.f155.name,Az,ANf.trans (congrArg some Ap)⟩
 f41:=⟨Tryz.f156.name,Az,ANg.trans (congrArg some Ap)⟩
 t0:=VU0
 a0:=VI0
 z0:=VS0
 v0:=VZ0
 t3:=VU3
 a3:=VI3
 z3:=VS3
 v3:=VZ3
 t4:=VU4
 a4:=VI4
 z4:=VS4
 v4:=VZ4
 t5:=VU5
 a5:=VI5
 z5:=VS5
 v5:=VZ5
 t9:=J4
 a9:=jJ
 z9:=jK
 v9:=jL
 t26:=AHm
 a26:=AHn
 z26:=AHo
 v26:=AHp
 t27:=AHm
 a27:=AHn
 z27:=AHo
 v27:=AHp
 t29:=J4
 a29:=jJ
 z29:=jK
 v29:=jL
 t32:=AOE
 a32:=AOF
 z32:=AOG
 v32:=AOH
 t35:=AOI
 a35:=AOJ
 z35:=AOK
 v35:=AOL
 t36:=AOM
 a36:=AON
 z36:=AOO
 v36:=AOP
 t41:=AOQ
 a41:=AOR
 z41:=AOS
 v41:=AOT
 t44:=AN9
 a44:=AOA
 z44:=AOB
 v44:=AOC
 t46:=AN5
 a46:=AN6
 z46:=AN7
 v46:=AN8
 t53:=AOU
 a53:=AOV
 z53:=AOW
 v53:=AOX
 t57:=AOY
 a57:=AOZ
 z57:=AOa
 v57:=AOb
 t63:=AOc
 a63:=AOd
 z63:=AOe
 v63:=AOf
 t64:=AOg
 a64:=AOh
 z64:=AOi
 v64:=AOj}
def Ai.AFQ:Go.Shelf.Ren:=⟨fun|5=>86|7=>121|n=>n,fun|23=>130|25=>9|3=>121|4=>4|20=>20|n=>n,fun|n=>n⟩
theorem Ai.AQj:Go.Proofs.SlLaysW.n5 Ae Ai.AFQ:={
 mixed:=by kernel_rfl
 f5:=⟨Tryz.f86.name,Az,AK4.trans (congrArg some Ap)⟩
 f7:=ANh.trans (congrArg some Ap)
 t4:=VU4
 a4:=VI4
 z4:=VS4
 v4:=VZ4
 t20:=AQT
 a20:=AQU
 z20:=AQV
 v20:=AQW
 t23:=Oc
 a23:=AHr
 z23:=AHs
 v23:=AHt}
end Go.Proofs.YtkkgcebhfghdnaaGreatDoor
