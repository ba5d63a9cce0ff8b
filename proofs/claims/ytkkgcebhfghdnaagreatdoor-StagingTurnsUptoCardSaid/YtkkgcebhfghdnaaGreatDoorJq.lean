/- Part 17 of what that rests on; no condition. -/
import Derived.Test.YtkkgcebhfghdnaaGreatDoorJp
import Derived.BigQuiet
import Derived.Deep.QuietTactic
import Derived.Deep.RegionHeld3
import Derived.Deep.RegionLaw
import Derived.Ground.GgzProg
import Derived.Ground.SlgmProg
import Derived.Ground.SlmcProg
import Derived.KernelRfl
import Derived.Lib.AppendZerosOnto
import Derived.Lib.SmallJoins
import Derived.Shelf.SlGeneric
import Derived.Shelf.SlIter.Nil
import Derived.Shelf.SlMaps.Clone
import Derived.Shelf.SortM.Plain
import Derived.Shelf.SortM.SortNone
import Derived.Sort.KeysCollected
import Derived.Sort.Walk0
import Derived.StillTailTactics
import Derived.Test.YtkkgcebhfghdnaaGreatDoorChecked
import Derived.Test.YtkkgcebhfghdnaaGreatDoorRows
import Derived.WalkSpells
set_option maxRecDepth 100000
set_option maxHeartbeats 8000000
open Go.ByteArray renaming toList_eq→Yg
open Go.Builtin renaming zeroCells→Nh, append_→PX
open ByteArray renaming empty→Lu
open Go renaming run_underlying→IG, TypeId→Aj, maxLen→EO, Ending→Fv, Value→AP, World→AL, Calls→A7, Addr→Ag
open List renaming replicate→L8
open Go.Value renaming int→KU
open Prod renaming fst→Aa
open Option renaming none→AB, some→AA
namespace Go.Proofs.YtkkgcebhfghdnaaGreatDoor.Vw
open Go.RowKit
section
variable {c j n:Nat}{A:Option Ag}{P:Program}{t tn:Aj}{w:AL}
abbrev bv (zs:List Int):List AP:=zs.map (KU .u8)
abbrev iv (zs:List Int):List AP:=zs.map (KU .i64)
theorem zO(zs:List Int): ∀u∈bv zs,u.oneCell'=true:=ints_oneCell _ _
def La (e:Aj) (sz:Nat) (w:AL) (xs:List AP) (n:Nat) (en:Fv) (w':AL):Prop:=
 ∃A c,en=.returned (.slice A n c)/\Own w' e sz A n c xs/\AZ [] w w'/\∀k∈bo A,w.heap.size<=k
theorem RZ:Ety Af 62 5 1 1 (.int .u8 0):=.mk' vJ Aq rfl Ar
theorem AJ2:Ety Af 81 3 1 8 (.int .i64 0):=.mk' AS4 Aq rfl Ar
theorem ABw(k:IntKind)(x:Int): ∀u∈(#[KU k x]:Array AP).toList,u.oneCell'=true:=by simp[Value.oneCell']
theorem take_snoc{α:Type}(l:List α)(k:Nat)(x:α)(h:l[k]? =AA x):l.take (k+1)=l.take k++[x]:=by
 rw[U6,h];rfl
theorem oQ{k:IntKind}{zs:List Int}(h:Rd w 1 A n c (zs.map (KU k)))(hj:j<n):
  ∃ad x,A=AA ad/\zs[j]? =AA x/\w.cell? (ad.add j)=AA (.int k x):=by
 obtain⟨ad,u,h1,h2,h3⟩:=h.fC hj;rw[Bg] at h2
 cases hz:zs[j]? with|none=>rw[hz] at h2;cases h2|some x=>rw[hz] at h2;simp at h2;subst h2;exact⟨ad,x,h1,rfl,h3⟩
theorem vO(A:Option Ag)(n c:Nat)(zs:List Int)(w:AL)(hn:n<=1073741824)(hrd:Rd w 1 A n c (bv zs)):
  A7 Af 53 #[.slice A n c] w (La 5 1 w (bv zs) n):=by
 (have hl:zs.length=n:=by have:=hrd.1;simp at this;omega);have HR:=AQ hrd;have HL:=AQ hl;clear hrd hl;go_enter AMy,Tryz.ntmps53;go_wp2;go_loopw [3,4] (λv i wr=>∃(k:Nat) (A':Option Ag) (c':Nat),k<=n/\i=.int .i64 k/\v=.slice A' k c'/\Own wr 5 1 A' k c' ((bv zs).take k)/\AZ [] w wr/\(∀k∈bo A',w.heap.size<=k)) (λ_ i _=>n - (intOf i).toNat)
 case atStart=>
  exact⟨0,_,0,D5 _,rfl,rfl,Own.lit w 5 1 #[] 0 Ar rfl,(AZ.refl _ _).alloc _,AV⟩
 obtain⟨k,A',c',hk,rfl,rfl,hown,EU,hnew⟩:=hrel;by_cases hlt:k<n
 ·obtain⟨ad,x,rfl,hx,hcell⟩:=oQ (HR.out.Ak EU AV) hlt;have HX:=AQ hx;have HN:=AQ hnew;clear hx hnew;(go_wp2_with (at_builtin;refine Gz rfl _ _ rfl RZ rfl (hown.Ak ((AZ.refl [] wr).alloc _) AV) rfl (Own.lit wr 5 1 #[.int .u8 x] 1 Ar rfl).rd (ABw _ _) Qv Ad ?_;intro A2 c2 w2 hown2 PK J6 _));go_roundw
  case rel=>
   refine⟨k+1,A2,c2,Ad,by go_num,rfl,?_,(EU.alloc _).trans PK (λy hy=>.inr (HN.out y hy)),λy hy=>?_⟩;rw[take_snoc _ _ (.int .u8 x) (by simp[HX.out])];exact hown2;rcases J6 y hy with h1|h1;exact HN.out y h1;have h2:=EU.size;simp at h1;omega
  simp[intOf];omega
 go_wp2;go_ret;(have hkn:k=n:=by omega);subst hkn;exact⟨A',c',rfl,by rw[<- FH (l:=bv zs) (i:=k) (by simp[HL.out])];exact hown,EU,hnew⟩
theorem clone_any(A:Option Ag)(n c:Nat)(zs:List Int)(w:AL)(hn:n<=1073741824)(hrd:Rd w 1 A n c (bv zs)):
  A7 Af 78 #[.slice A n c] w (La 5 1 w (bv zs) n):=by
 cases A with
 |none=>
  have hc:=hrd.2.2.2.1 rfl;(have hn0:n=0:=by have:=hrd.2.1;omega);subst hc;subst hn0;have hz:bv zs=[]:=TF (by simpa using hrd.1);have HZ:=AQ hz;have qT:=λ(w:AL)=>Lib.run_eql_slice_nil (P:=Af) w 62 5 AB 0 0 0 0 vJ;clear hz hrd;go_enter AJM,Tryz.ntmps78;go_wp2;go_ret;exact⟨AB,0,rfl,by rw[HZ.out];exact Own.nil _ _ _,AZ.refl _ _,AV⟩
 |some ad=>
  have HR:=AQ hrd;clear hrd;have qT:=λ(w:AL)=>Lib.run_eql_slice_nil (P:=Af) w 62 5 (AA ad) n c 0 0 vJ;go_enter AJM,Tryz.ntmps78;(go_wp2_with (at_builtin;refine Gz rfl _ _ rfl RZ rfl (Own.lit w 5 1 #[] 0 Ar rfl) rfl (HR.out.Ak ((AZ.refl [] w).alloc _) AV) (zO zs) Qv Ad ?_;intro A2 c2 w3 hown4 ARC ARD _));go_ret
  exact⟨A2,c2,rfl,by simpa using hown4,((AZ.refl [] w).alloc _).trans ARC AV,λk hk=>by
   rcases ARD k hk with h1|h1;simp at h1;omega
   have:=h1.1;simp at this;omega⟩
theorem WE(z:AP)(hz:z.cells= #[z])(k:Nat):(Nh z.cells k).toList=L8 k z:=by
 apply N7;intro i;rw[hz];simp only[Nh,Y6,Array.toList_range,Bg,AFC];by_cases h:i<k
 ·rw[CQ (by simpa using h)];simp[h,xQ]
 rw[H8 (by simpa using h)];simp[h]
theorem oU{ty e:Aj}{bytes:Nat}{z:AP}(he:Ety P t e 1 bytes z)(htn:P.underlying tn=AA (.int .i64))(hz1:z.cells= #[z])(hz2:z.oneCell'=true)
  {A:Option Ag} {n c:Nat} {xs:List AP} (hown:Own w e 1 A n c xs) (k:Nat) (h63:n+k<=EO) (hb:(n+k)*bytes<=140737488355328):
  ∃A' c' w',(PX #[t,tn] ty #[.slice A n c,.int .i64 k]).run P w=.ok (.slice A' (n+k) c') w'/\Own w' e 1 A' (n+k) c' (xs++L8 k z)/\AZ (bo A) w w'/\
   (∀k∈bo A',k∈bo A\/(w.heap.size<=k/\k<w'.heap.size)):=by
 obtain⟨ht,⟨i,hi,hz,hsz,hby⟩,hzs,hpos⟩:=he;subst hby
 have hkb:k*i.bytes<=281474976710656:=by
  have:k*i.bytes<=(n+k)*i.bytes:=TE _ Ad;omega
 (have hw:IntKind.i64.wrap (k:Int)=k:=by rw[IntKind.wrap_i64];simp only[EO] at h63;omega);(have hneg: ¬((k:Int)<0):=by omega);(have h48i: ¬(281474976710656<(k:Int)*(i.bytes:Int)):=by rw[<- Int.natCast_mul];omega);by_cases hk:k=0
 ·subst hk;(have hw0:IntKind.i64.wrap 0=0:=by decide);have hnc:n<=c:=hown.rd.2.1;refine⟨A,c,w,?_,by simpa using hown,AZ.refl _ _,λk hk=>.inl hk⟩;cases A<;>simp[PX,IG ht,IG htn,sizeOf,typeInfo,hi,asInt,asIntOf,hw0,hnc,storeCells]
 have hns: ¬(k*i.size=0):=by rw[hsz];omega
 have grown: ∀old,∃A' c' w',(.ok (.slice (AA ⟨w.heap.size,0,AB⟩) (n+k) (grownCap w (n+k) old e)) (w.drew.alloc (.cells (xs.toArray++Nh z.cells k++Nh z.cells (grownCap w (n+k) old e - (n+k))) e)):Result AP)=.ok (.slice A' (n+k) c') w'/\
   Own w' e 1 A' (n+k) c' (xs++L8 k z)/\AZ (bo A) w w'/\(∀k∈bo A',k∈bo A\/(w.heap.size<=k/\k<w'.heap.size)):=by
  intro old;have hge:=grownCap_ge w (n+k) old e;have hcm:grownCap w (n+k) old e<=EO:=grownCap_le_maxLen w (n+k) old e h63;(have hxl:xs.length=n:=by have:=hown.1;omega);refine⟨_,_,_,rfl,⟨by simp[hxl],.inr ⟨w.heap.size,_,_,rfl,D5 _,heap_alloc_new w.drew _,hge,hcm,?_,?_⟩⟩,((AZ.refl _ _).drew).alloc _,?_⟩
  ·simp only[lV,Iq,size_zeroCells,hzs,hxl];omega
  ·simp only[AHv,WE z hz1];exact xR (by simp[hxl])
  intro j hj;right;simp at hj;subst hj;simp
 by_cases hroom:n+k<=c
 ·rcases hown.form with ⟨rfl,rfl,rfl,rfl⟩|⟨g,cur,rfl,hbk,hnc,hcm,hcs,htk⟩;omega;(have hfit:n*1+(L8 k z).length<=cur.size:=by simp;omega);have hst:=run_storeCells_at P g (n*1) e (L8 k z) 0 cur w hbk (by simpa using hfit) (by simp[hz2]);simp only[Nat.add_zero,N8,ALN] at hst;(have hxl:xs.length=n:=by have:=hown.1;omega);(have hcl:cur.toList.length=cur.size:=by simp);refine⟨AA ⟨g,0,AB⟩,c,_,?_,⟨by simp[hown.1],.inr ⟨g,c,_,rfl,D5 _,setRow_heap w g cur (cur.toList.take n++L8 k z++cur.toList.drop (n+k)).toArray e _ hbk,hroom,hcm,?_,?_⟩⟩,⟨rfl,rfl,rfl,by simp[World.setRow],λj _ hj=>setRow_other w g j _ (by simpa using hj)⟩,λj hj=>.inl hj⟩;simp[PX,IG ht,IG htn,sizeOf,typeInfo,zeroValue,hi,hz,asInt,asIntOf,hw,hneg,h48i,hroom,Addr.add_lit,hsz,hk,WE z hz1,hst];simp;omega;simp only[N8] at htk⊢;rw[<- htk];exact xR (by simp;omega)
 have hc:c<n+k:=by omega
 have hold:(Builtin.firstCells i.size n (.slice A n c)).run P w.drew=.ok xs.toArray w.drew:=by
  rcases hown.form with ⟨rfl,rfl,rfl,rfl⟩|⟨g,cur,rfl,hbk,hnc,hcm,hcs,htk⟩;exact run_firstCells_none (P:=P) w.drew _ _ _ _;exact run_firstCells_some (P:=P) w.drew i.size n ⟨g,0,AB⟩ n c xs (by rw[hsz];exact hown.1) (World.ownsRow.cells hown (g:=g) rfl)
 have e0:=Lib.run_append_grow_zeros (P:=P) w t tn ty e i z .i64 .i64 ht htn hi hz A n c xs hold k Ad Ad hc (by simp only[EO] at h63;omega) hkb (growslice_fits Ad hb);rw[e0];exact grown c
theorem bD{ops:Array Oper}{rest:List Oper}{o:Oper}{a:Act}{Q:Exit->Act->AL->Prop}(hgd:o.guard=AB)(s x:Operand)
  (ho:o.op=.call {callee:=.builtin .append,args:=#[s,x],argTypes:=#[t,tn]})
  {e:Aj} {bytes:Nat} {z:AP} (he:Ety P t e 1 bytes z) (htn:P.underlying tn=AA (.int .i64)) (hz1:z.cells= #[z]) (hz2:z.oneCell'=true)
  {A:Option Ag} {n c:Nat} {xs:List AP} (hs:a.eval s=.slice A n c) (hown:Own w e 1 A n c xs) (k:Nat) (hx:a.eval x=.int .i64 k) (h63:n+k<=EO) (hb:(n+k)*bytes<=140737488355328)
  (h: ∀A' c' w',Own w' e 1 A' (n+k) c' (xs++L8 k z)->AZ (bo A) w w'->(∀k∈bo A',k∈bo A\/(w.heap.size<=k/\k<w'.heap.size))->
   wpList P ops Q rest (a.put o.dst (.slice A' (n+k) c')) w'):wpList P ops Q (o::rest) a w:=by
 obtain⟨A',c',w',hr,h2,h3,h4⟩:=oU (ty:=o.type) he htn hz1 hz2 hown k h63 hb;exact Lib.wpList_append_run w hgd s x t tn ho _ _ hs hx _ w' hr (h A' c' w' h2 h3 h4)
def ends:Nat->List (List Int)->List Int
 |_,[]=>[]|b,x::r=>((b+x.length:Nat):Int)::ends (b+x.length) r
theorem AER(b:Nat)(ws:List (List Int))(x:List Int):ends b (ws++[x])=ends b ws++[((b+ws.flatten.length+x.length:Nat):Int)]:=by
 induction ws generalizing b with|nil=>simp[ends]|cons y r ih=>simp[ends,ih];omega
theorem AJ3(b:Nat)(ws:List (List Int))(i:Nat)(x:List Int)(h:ws[i]? =AA x):(ends b ws)[i]? =AA (((b+(ws.take i).flatten.length+x.length:Nat):Int)):=by
 induction ws generalizing b i with
 |nil=>simp at h|cons y r ih=>
  cases i with|zero=>simp at h;subst h;simp[ends]|succ i=>simp at h;simp[ends,ih _ i h];omega
theorem SI(ws:List (List Int))(x:List Int):(ws++[x]).flatten.length=ws.flatten.length+x.length:=by
 rw[kE,Ig];simp
def WQ (w:AL) (g:Nat) (L:List Nat) (base:List Int) (ws:List (List Int)):Prop:=
 ∃A n c M m d s,Bl w g 183 #[.slice A n c,.int .i64 (s:Nat),.slice M m d]/\Own w 5 1 A n c (bv (base++ws.flatten))/\
  Own w 3 1 M m d (iv (ends base.length ws))/\L=g::(bo A++bo M)/\n=base.length+ws.flatten.length/\m=ws.length/\s=base.length
theorem WQ.lt{w:AL}{g:Nat}{L:List Nat}{base:List Int}{ws:List (List Int)}(h:WQ w g L base ws): ∀k∈L,k<w.heap.size:=by
 obtain⟨A,n,c,M,m,d,s,hb,h1,h2,rfl,_⟩:=h;intro k hk;simp only[BB,Be] at hk;rcases hk with rfl|hk|hk;exact hb.lt;exact h1.lt k hk;exact h2.lt k hk
theorem WQ.Ak{w w':AL}{g:Nat}{L M:List Nat}{base:List Int}{ws:List (List Int)}(h:WQ w g L base ws)(hc:AZ M w w')(hn: ∀k∈L,k∉M):WQ w' g L base ws:=by
 obtain⟨A,n,c,M,m,d,s,hb,h1,h2,rfl,e⟩:=h;exact⟨A,n,c,M,m,d,s,hb.Ak hc (hn g AV),h1.Ak hc (λk hk=>hn k (by simp[hk])),h2.Ak hc (λk hk=>hn k (by simp[hk])),rfl,e⟩
def AL8 (w:AL) (zs:List Int) (e:Fv) (w':AL):Prop:=
 ∃g L,e=.returned (.pointer (AA ⟨g,0,AB⟩))/\WQ w' g L zs []/\AZ [] w w'/\∀k∈L,w.heap.size<=k
theorem new_any(A:Option Ag)(n c:Nat)(zs:List Int)(w:AL)(hn:n<=1073741824)(hrd:Rd w 1 A n c (bv zs)):
  A7 Af 59 #[.slice A n c] w (AL8 w zs):=by
 (have hl:zs.length=n:=by have:=hrd.1;simp at this;omega);have HL:=AQ hl;clear hl;have k78:= @AJj;go_enter AM3,Tryz.ntmps59;(go_wp2_with (go_at_call 78;refine (clone_any A n c zs _ hn hrd).mono ?_;rintro e w1 ⟨A1,c1,rfl,hown,EU,hnew⟩));go_ret;have ho:=HL.out;subst ho;refine⟨w1.heap.size,_,rfl,⟨A1,_,c1,AB,0,0,_,Bl.new w1 183 _,?_,?_,rfl,?_,rfl,rfl⟩,EU.alloc _,?_⟩;simpa using hown.Ak ((AZ.refl [] w1).alloc _) AV;exact Own.nil _ _ _;simp;have:=EU.size;intro k hk;simp at hk;rcases hk with rfl|hk;exact this;exact hnew k hk
def AJ4 (w:AL) (g:Nat) (L:List Nat) (base:List Int) (ws:List (List Int)) (e:Fv) (w':AL):Prop:=
 ∃L',e=.returned (.tuple #[])/\WQ w' g L' base ws/\AZ L w w'/\∀k∈L',k∈L\/w.heap.size<=k
theorem zQ(g:Nat)(L:List Nat)(base:List Int)(ws:List (List Int))(B:Option Ag)(k d:Nat)(xs:List Int)(w:AL)(h:WQ w g L base ws)(hk:0<k)(hlen:base.length+ws.flatten.length+k<=1073741824)
  (hws:ws.length<=1073741824) (hrd:Rd w 1 B k d (bv xs)):
  A7 Af 180 #[.pointer (AA ⟨g,0,AB⟩),.slice B k d] w (AJ4 w g L base (ws++[xs])):=by
 obtain⟨A,n,c,M,m,dm,s,hb,h1,h2,rfl,hn,hm,hs⟩:=h;(have hlx:xs.length=k:=by have:=hrd.1;simp at this;omega);(have n63:n+k<=1073741824:=by omega);(have m63:m<=1073741824:=by omega);have HE:=AQ (show n=base.length+ws.flatten.length/\m=ws.length/\s=base.length/\xs.length=k from ⟨hn,hm,hs,hlx⟩);have HR:=AQ hrd;have HO:=AQ h1;have HM:=AQ h2;have HB:=AQ hb;have c0:=hb.cell 0;have c1:=hb.cell 1;have c2:=hb.cell 2;have f0:=hb.frozen 0;simp at c0 c1 c2;clear hrd h1 h2 hb hn hm hs hlx hws;go_enter AJY,Tryz.ntmps180;(go_wp2_with (at_builtin;refine Gz rfl _ _ rfl RZ rfl HO.out rfl HR.out (zO _) Qv Ad ?_;intro A1 zS w1 hown1 ZW oV _;have ff:=(HB.out.Ak ZW (λhh=>HO.out.GG HB.out Ar g hh rfl));have d0:=ff.cell 0;have d1:=ff.cell 1;have d2:=ff.cell 2;have e0:=ff.frozen 0;have e2:=ff.frozen 2;simp at d0 d1 d2));(have hb2:Bl (w1.setCell ⟨g,0,AB⟩ (.slice A1 (n+k) zS)) g 183 #[.slice A1 (n+k) zS,.int .i64 (s:Nat),.slice M m dm]:=by simpa using ff.FK 0 (.slice A1 (n+k) zS));have hch:AZ [g] w1 (w1.setCell ⟨g,0,AB⟩ (.slice A1 (n+k) zS)):=(AZ.refl [g] w1).setCell AV _;have HA1:=AQ (hown1.Ak hch (λj hj hh=>hown1.GG ff Ar j hj (by simpa using hh)));have hM1:=HM.out.Ak ZW (λj hj hh=>HM.out.own_ne HO.out Ar j hj hh);have HM1:=AQ (hM1.Ak hch (λj hj hh=>hM1.GG ff Ar j hj (by simpa using hh)));have HC:=AQ (show AZ (g::bo A) w (w1.setCell ⟨g,0,AB⟩ (.slice A1 (n+k) zS)) from (ZW.mono (by simp+contextual)).trans hch AV);clear hM1 hch d0 d1 d2 e0 e2 ff c0 c1 c2 f0
 generalize w1.setCell ⟨g,0,AB⟩ (.slice A1 (n+k) zS)=W2 at*
 have d0:=hb2.cell 0;have d2:=hb2.cell 2;have e2:=hb2.frozen 2;have d2a:=λo=>(hb2.alloc o).cell 2;simp at d0 d2 d2a;have HB2:=AQ hb2;clear hb2
 go_region_law (refine JU rfl _ _ rfl AJ2 rfl (HM1.out.Ak (((AZ.refl [] W2).drew).alloc _) AV) rfl (Own.lit W2.drew 3 1 #[.int .i64 ((n+k:Nat):Int)] 1 Ar rfl).rd (ABw _ _) Qv Ad ?_;intro A2 cc2 w3 hown2 PK J6 _;have hb3:=((HB2.out.drew).alloc _).Ak PK (λhh=>HM1.out.GG HB2.out Ar g hh rfl);have x2:=hb3.cell 2;have y2:=hb3.frozen 2;simp at x2)
 all_goals
  go_wp2
  go_end0
  obtain⟨hn,hm,hs,hlx⟩:=HE.out;have hW:AZ [g] w3 (w3.setCell ⟨g,2,AB⟩ (.slice A2 (m+1) cc2)):=(AZ.refl [g] w3).setCell AV _;have hA3:=(HA1.out.Ak (((AZ.refl [] W2).drew).alloc (.cells #[.int .i64 ((n+k:Nat):Int)] 3)) AV).Ak PK (λj hj hh=>HA1.out.own_ne HM1.out Ar j hj hh);have sz:w.heap.size<=W2.heap.size:=HC.out.size;refine⟨g::(bo A1++bo A2),rfl,⟨A1,n+k,zS,A2,m+1,cc2,s,by simpa using hb3.FK 2 (.slice A2 (m+1) cc2),?_,?_,rfl,?_,?_,hs⟩,?_,?_⟩;simpa[KC] using hA3.Ak hW (λj hj hh=>hA3.GG hb3 Ar j hj (by simpa using hh))
  ·rw[AER,<- hn];have:=hown2.Ak hW (λj hj hh=>hown2.GG hb3 Ar j hj (by simpa using hh));simp only[Em,BK,EG,hlx];exact this
  rw[SI];omega;simp[hm]
  ·refine ((((HC.out.mono (L:=g::(bo A++bo M)) (λx hx=>.inl (by simp only[BB,Be] at hx⊢;rcases hx with hx|hx<;>simp[hx]))).drew).alloc _).trans PK ?_).trans hW AV;intro x hx;left;simp[hx]
  intro j hj;simp only[BB,Be] at hj⊢;rcases hj with rfl|hj|hj;simp
  ·rcases oV j hj with h1|h1;exact .inl (.inr (.inl h1));exact .inr h1.1
  rcases J6 j hj with h1|h1;exact .inl (.inr (.inr h1));right;have:=h1.1;simp at this;omega
theorem AG4(g:Nat)(L:List Nat)(base:List Int)(ws:List (List Int))(w:AL)(h:WQ w g L base ws)(hlen:base.length+ws.flatten.length<=1073741824):
  A7 Af 82 #[.pointer (AA ⟨g,0,AB⟩)] w (AJ4 w g L (base++ws.flatten) []):=by
 obtain⟨A,n,c,M,m,dm,s,hb,h1,h2,rfl,hn,hm,hs⟩:=h;(have n63:n<=1073741824:=by omega);have hmd:=h2.rd.2.1;have HE:=AQ (show n=base.length+ws.flatten.length/\m=ws.length/\s=base.length from ⟨hn,hm,hs⟩);have HO:=AQ h1;have HM:=AQ h2;have HB:=AQ hb;have c0:=hb.cell 0;have c1:=hb.cell 1;have c2:=hb.cell 2;have f1:=hb.frozen 1;have f2:=hb.frozen 2;simp at c0 c1 c2;clear h1 h2 hb hn hm hs;go_enter ANF,Tryz.ntmps82;go_wp2
 go_end0
 obtain⟨hn,hm,hs⟩:=HE.out;have hb2:=(HB.out.FK 1 (.int .i64 n)).FK 2 (.slice M 0 dm);have hch:AZ [g] w ((w.setCell ⟨g,1,AB⟩ (.int .i64 n)).setCell ⟨g,2,AB⟩ (.slice M 0 dm)):=((AZ.refl [g] w).setCell AV _).setCell AV _;refine⟨g::(bo A++bo M),rfl,⟨A,n,c,M,0,dm,n,by simpa using hb2,?_,?_,rfl,?_,rfl,?_⟩,hch.mono AV,λk hk=>.inl hk⟩;simpa using HO.out.Ak hch (λj hj hh=>HO.out.GG HB.out Ar j hj (by simpa using hh))
 ·have:=(HM.out.Ak hch (λj hj hh=>HM.out.GG HB.out Ar j hj (by simpa using hh))).cut (D5 _);simp only[lQ,List.take_zero] at this;exact this
 simpa using hn;rw[hn,Ig]
theorem AG5(g:Nat)(L:List Nat)(base:List Int)(ws:List (List Int))(w:AL)(h:WQ w g L base ws)(hlen:base.length+ws.flatten.length<=1073741824)(N0:Nat)(hN0:(base++ws.flatten).length=N0):
  A7 Af 63 #[.pointer (AA ⟨g,0,AB⟩)] w (La 5 1 w (bv (base++ws.flatten)) N0):=by
 subst hN0;obtain⟨A,n,c,M,m,dm,s,hb,h1,h2,rfl,hn,hm,hs⟩:=h;(have n63:n<=1073741824:=by omega);have HE:=AQ (show n=(base++ws.flatten).length by rw[Ig];omega);have HO:=AQ h1;have c0:=hb.cell 0;simp at c0;clear h1 h2 hb hn hm hs;have k78:= @AJj;go_enter AM6,Tryz.ntmps63;(go_wp2_with (go_at_call 78;refine (clone_any A n c _ _ n63 HO.out.rd).mono ?_;rintro e w1 ⟨A1,c1,rfl,hown,EU,hnew⟩));go_ret;rw[<- HE.out];exact⟨A1,c1,rfl,hown,EU,hnew⟩
theorem AG6(g:Nat)(L:List Nat)(base:List Int)(ws:List (List Int))(w:AL)(h:WQ w g L base ws)(hlen:base.length+ws.flatten.length<=1073741824)(N0:Nat)(hN0:base.length=N0):
  A7 Af 90 #[.pointer (AA ⟨g,0,AB⟩)] w (La 5 1 w (bv base) N0):=by
 subst hN0;obtain⟨A,n,c,M,m,dm,s,hb,h1,h2,rfl,hn,hm,hs⟩:=h;(have n63:n<=1073741824:=by omega);(have s63:s<=1073741824:=by omega);(have hsn:s<=n:=by omega);have hnc:=h1.rd.2.1
 have hcut:Rd w 1 A s c (bv base):=by
  have:=h1.rd.take hsn;rw[N8] at this;rw[show bv base=(bv (base++ws.flatten)).take s by rw[hs];simp];exact this
 have HC:=AQ hcut;have HE:=AQ (show s=base.length from hs);have c0:=hb.cell 0;have c1:=hb.cell 1;simp at c0 c1;(have q0:(0:Int)<=s:=by omega);(have q1:(s:Int)<=c:=by omega);clear h1 h2 hb hn hm hs hcut;have k78:= @AJj;go_enter ANM,Tryz.ntmps90;go_wp2
 go_still_tail 9,Aq
 (go_wp2_with (go_at_call 78;refine (clone_any A s c _ _ s63 (HC.out.Ak ((AZ.refl [] w).drew) AV)).mono ?_;rintro e w1 ⟨A1,c1,rfl,hown,EU,hnew⟩));go_ret;rw[<- HE.out];exact⟨A1,c1,rfl,hown,((AZ.refl [] w).drew).Ap EU,hnew⟩
theorem size_any(g:Nat)(L:List Nat)(base:List Int)(ws:List (List Int))(w:AL)(h:WQ w g L base ws)(N0:Nat)(hN0:base.length+ws.flatten.length=N0):
  A7 Af 181 #[.pointer (AA ⟨g,0,AB⟩)] w (λe w'=>e=.returned (.int .i64 (N0:Nat))/\w'=w):=by
 subst hN0;obtain⟨A,n,c,M,m,dm,s,hb,h1,h2,rfl,hn,hm,hs⟩:=h;have HE:=AQ hn;have c0:=hb.cell 0;simp at c0;clear h1 h2 hb hn hm hs;go_enter AJZ,Tryz.ntmps181;go_wp2;go_ret;exact⟨by rw[<- HE.out];rfl,rfl⟩
def PL (out:List Int) (start:Nat):List (List Int)->List Bool->List Int
 | [],_=>out|x::r,ks=>PL (if ks.headD false then out++L8 (start - out.length) 0++x else out) (start+x.length) r ks.tail
theorem fE(out:List Int)(start:Nat)(ws:List (List Int))(x:List Int)(ks:List Bool):
  PL out start (ws++[x]) ks=if ks[ws.length]?.getD false then PL out start ws ks++L8 (start+ws.flatten.length - (PL out start ws ks).length) 0++x else PL out start ws ks:=by
 induction ws generalizing out start ks with
 |nil=>cases ks<;>simp[PL]|cons y r ih=>
  simp only[List.cons_append,PL,ih]
  cases ks with|nil=>simp|cons k ks=>simp[U4]
theorem AFq(out:List Int)(start:Nat)(ws:List (List Int))(ks:List Bool)(h:out.length<=start):(PL out start ws ks).length<=start+ws.flatten.length:=by
 induction ws generalizing out start ks with
 |nil=>simpa[PL] using h|cons y r ih=>
  simp only[PL,List.flatten_cons,Ig]
  have:(if ks.headD false then out++L8 (start - out.length) 0++y else out).length<=start+y.length:=by
   split;simp;omega;omega
  have:=ih _ _ ks.tail this;omega
theorem AL9(base:List Int)(ws:List (List Int))(i:Nat)(x:List Int)(h:ws[i]? =AA x):((base++ws.flatten).drop (base.length+(ws.take i).flatten.length)).take x.length=x:=by
 have hi:i<ws.length:=(DC.1 h).1
 have e:ws=ws.take i++x::ws.drop (i+1):=by
  conv=>lhs;rw[<- X4 i ws,X0 hi]
  rw[(DC.1 h).2]
 have e2:base++ws.flatten=(base++(ws.take i).flatten)++(x++(ws.drop (i+1)).flatten):=by
  conv=>lhs;rw[e]
  simp
 rw[e2,List.drop_left' AV,xR rfl]
abbrev kv (ks:List Bool):List AP:=ks.map Value.bool
theorem ABx{ks:List Bool}(h:Rd w 1 A n c (kv ks))(hj:j<n):
  ∃ad x,A=AA ad/\ks[j]? =AA x/\w.cell? (ad.add j)=AA (.bool x):=by
 obtain⟨ad,u,h1,h2,h3⟩:=h.fC hj;rw[Bg] at h2
 cases hz:ks[j]? with|none=>rw[hz] at h2;cases h2|some x=>rw[hz] at h2;simp at h2;subst h2;exact⟨ad,x,h1,rfl,h3⟩
theorem AES(g:Nat)(L:List Nat)(base:List Int)(ws:List (List Int))(K:Option Ag)(kn kc:Nat)(ks:List Bool)(w:AL)(h:WQ w g L base ws)(hlen:base.length+ws.flatten.length<=1073741824)
  (hwl:ws.length<=1073741824) (hkn:kn<=1073741824) (hkd:Rd w 1 K kn kc (kv ks)) (N0:Nat) (hN0:(PL base base.length ws ks).length=N0):
  A7 Af 57 #[.pointer (AA ⟨g,0,AB⟩),.slice K kn kc] w (La 5 1 w (bv (PL base base.length ws ks)) N0):=by
 subst hN0;have HS:=AQ h;obtain⟨A,n,c,M,m,dm,s,hb,h1,h2,rfl,hn,hm,hs⟩:=h;(have n63:n<=1073741824:=by omega);(have m63:m<=1073741824:=by omega);(have hkl:ks.length=kn:=by have:=hkd.1;simp at this;omega);have HE:=AQ (show n=base.length+ws.flatten.length/\m=ws.length/\s=base.length/\ks.length=kn from ⟨hn,hm,hs,hkl⟩);have HO:=AQ h1;have HM:=AQ h2;have HB:=AQ hb;have HK:=AQ hkd;have HL:=AQ hlen;clear h1 h2 hb hn hm hs hkd hkl hlen hwl;have k90:= @ASo;go_enter AM2,Tryz.ntmps57;(go_wp2_with (go_at_call 90;refine (AG6 g _ base ws _ HS.out HL.out base.length rfl).mono ?_;rintro e w1 ⟨A1,c1,rfl,hown,EU,hnew⟩;have hb1:=HB.out.Ak EU AV;have c0:=hb1.cell 0;have c1':=hb1.cell 1;have c2:=hb1.cell 2;simp at c0 c1' c2));obtain⟨hn,hm,hs,hkl⟩:=HE.out;have hown':Own w1 5 1 A1 base.length c1 (bv base):=hown;clear hown c0 c1' c2
 go_loopw [5,6,20] (λo f q wr=>∃(i F N':Nat) (A':Option Ag) (c':Nat),i<=m/\o=.slice A' N' c'/\f=.int .i64 F/\q=.int .i64 i/\F=base.length+(ws.take i).flatten.length/\N'=(PL base base.length (ws.take i) ks).length/\
  Own wr 5 1 A' N' c' (bv (PL base base.length (ws.take i) ks))/\AZ [] w wr/\(∀k∈bo A',w.heap.size<=k)) (λ_ _ q _=>m - (intOf q).toNat)
 case atStart=>exact⟨0,s,_,A1,c1,D5 _,rfl,rfl,rfl,by simp[hs],by simp[PL],by simpa[PL] using hown',EU,hnew⟩
 obtain⟨i,F,N',A',c',hi,rfl,rfl,rfl,hF,hN,hown,EU,hnew⟩:=hrel;have HF:=AQ hF;have HN:=AQ hN;have HW:=AQ hnew;have HG:=AQ hkl;have HNM:=AQ (show n=base.length+ws.flatten.length/\m=ws.length/\s=base.length from ⟨hn,hm,hs⟩);have hb1:=HB.out.Ak EU AV;have c0:=hb1.cell 0;simp at c0;by_cases hlt:i<m
 ·obtain⟨x,hx⟩: ∃x,ws[i]? =AA x:=⟨_,CQ Ad⟩;have hend:=AJ3 base.length ws i x hx;have hle:=AFq base base.length (ws.take i) ks (Ba _);have hts:=take_snoc ws i x hx;have hfl:(ws.take (i+1)).flatten.length=(ws.take i).flatten.length+x.length:=by rw[hts,SI]
  have htot:(ws.take (i+1)).flatten.length<=ws.flatten.length:=by
   conv=>rhs;rw[<- X4 (i+1) ws,kE,Ig]
   omega
  obtain⟨E,hE⟩: ∃E,E=base.length+(ws.take i).flatten.length+x.length:=⟨_,rfl⟩;rw[<- hE] at hend;obtain⟨ad,u,rfl,hu,hcu⟩:=oQ ((HM.out.rd).Ak EU AV) hlt;rw[hend] at hu;simp at hu;subst hu;(have q1:F<=E:=by omega);(have q2:E<=n:=by have:=HL.out;omega);(have q3:N'<=F:=by omega);have q4:=HO.out.rd.2.1;obtain⟨S,hsl,hrs,hbs⟩:=ABq RZ (HO.out.rd) (show F<=E by omega) q2
  have ANo:Rd w 1 S (E - F) (c - F) (bv x):=by
   rw[N8,N8,show E - F=x.length by omega,hF,<- List.map_drop,<- N9,AL9 base ws i x hx] at hrs;rw[show E - F=x.length by omega,hF];exact hrs
  have vP:=ANo.Ak EU AV;have ANp:=HO.out.lt;(have hdis: ∀k∈bo S,k∉bo A':=λk hk hk'=>by have h1:=ANp k (hbs k hk);have h2:=hnew k hk';omega);(have hga:g∉bo A':=λhh=>by have h1:=HB.out.lt;have h2:=hnew g hh;omega);have HRS:=AQ vP;have Yu:=AQ hdis;have HGA:=AQ hga;have ZX:=AQ hbs;have HQ:=AQ (show F=base.length+(ws.take i).flatten.length/\E=F+x.length from ⟨hF,Ad⟩);have HX:=AQ hx;clear hrs ANo vP ANp hdis hga hbs hF hN hnew hkl hn hm hs hx hend hle hts hfl htot hE;by_cases hki:i<kn
  ·obtain⟨kd,b,rfl,hkb,hck⟩:=ABx (HK.out.Ak EU AV) hki;have HKB:=AQ hkb;clear hkb
   cases b with
   |true=>
    have q5:F - N'<=1073741824:=by omega
    go_wp2_with (first
     |(at_builtin;refine bD rfl _ _ rfl RZ VU3 rfl rfl rfl hown (F - N') (by show KU .i64 _=_;congr 1;omega) Qv Ad ?_;intro A2 c2 w2 hown2 PK J6;have hb2:=hb1.Ak PK HGA.out;have d0:=hb2.cell 0;simp at d0;rw[show N'+(F - N')=F by omega] at hown2)
     |(at_builtin;go_must (refine Gz rfl _ _ rfl RZ rfl hown2 rfl (HRS.out.Ak PK Yu.out) (zO x) Qv Ad ?_);intro A3 c3 w3 hown3 ARF ARH _))
    go_roundw
    case rel=>
     obtain⟨hF,hE⟩:=HQ.out
     have haft:PL base base.length (ws.take (i+1)) ks=PL base base.length (ws.take i) ks++L8 (F - N') 0++x:=by
      rw[take_snoc ws i x HX.out,fE,Ie,Je (TJ (DC.1 HX.out).1),HKB.out,HN.out,hF];rfl
     refine⟨i+1,E,E,A3,c3,Ad,by first|rfl|(congr 1;omega),rfl,by go_num,?_,?_,?_,?_,?_⟩;rw[take_snoc ws i x HX.out,SI];omega;rw[haft];simp[<- HN.out];omega
     ·rw[haft];rw[show F+(E - F)=E by omega] at hown3;simpa[KC] using hown3
     ·exact (EU.trans PK (λy hy=>.inr (HW.out y hy))).trans ARF (λy hy=>by
       rcases J6 y hy with h1|h1;exact .inr (HW.out y h1)
       right;have:=EU.size;omega)
     intro y hy;have:=EU.size;have h2:=PK.size;rcases ARH y hy with h1|h1
     ·rcases J6 y h1 with h1|h1;exact HW.out y h1;omega
     omega
    simp[intOf];omega
   |false=>
    go_wp2;go_roundw
    case rel=>
     obtain⟨hF,hE⟩:=HQ.out
     have haft:PL base base.length (ws.take (i+1)) ks=PL base base.length (ws.take i) ks:=by
      rw[take_snoc ws i x HX.out,fE,Ie,Je (TJ (DC.1 HX.out).1),HKB.out];rfl
     exact⟨i+1,E,N',A',c',Ad,rfl,rfl,by go_num,by rw[take_snoc ws i x HX.out,SI];omega,by rw[haft];exact HN.out,by rw[haft];exact hown,EU,HW.out⟩
    simp[intOf];omega
  have hkb:ks[i]? =AB:=H8 (by rw[HG.out];omega);have HKB:=AQ hkb;clear hkb;go_wp2;go_roundw
  case rel=>
   obtain⟨hF,hE⟩:=HQ.out
   have haft:PL base base.length (ws.take (i+1)) ks=PL base base.length (ws.take i) ks:=by
    rw[take_snoc ws i x HX.out,fE,Ie,Je (TJ (DC.1 HX.out).1),HKB.out];rfl
   exact⟨i+1,E,N',A',c',Ad,rfl,rfl,by go_num,by rw[take_snoc ws i x HX.out,SI];omega,by rw[haft];exact HN.out,by rw[haft];exact hown,EU,HW.out⟩
  simp[intOf];omega
 go_wp2;go_ret;have him:ws.take i=ws:=FH Ad;have hown5:=hown;rw[him] at hown5;have hN5:=HN.out;rw[him] at hN5;rw[<- hN5];exact⟨A',c',rfl,hown5,EU,HW.out⟩
end
section
variable {a b:ByteArray}{c c' n:Nat}{A A':Option Ag}{w w':AL}
section
variable {κ α:Type} [DecidableEq κ]
def without (t:List (κ×α)) (k:κ):List (κ×α):=t.filter λp=>decide (p.1≠k)
theorem Jv{t:List (κ×α)}{k:κ}(h:k∉t.map Aa):without t k=t:=by
 unfold without;rw[kF];intro p hp;simp only[decide_eq_true_eq];intro e;exact h (Bz.2 ⟨p,hp,e⟩)
theorem FT(p:κ×α)(t:List (κ×α))(k:κ):without (p::t) k=if p.1=k then without t k else p::without t k:=by
 unfold without;rw[Wh];by_cases h:p.1=k<;>simp[h]
theorem ZY(p:κ×α)(t:List (κ×α))(k:κ):I9 (p::t) k=if p.1=k then t else p::I9 t k:=by
 unfold I9;rw[BK,Qw];by_cases h:p.1=k;simp[h];(have hb:(p.1==k)=false:=by simp[h]);rw[BM h];simp only[hb];cases (t.map Aa).idxOf? k<;>simp
theorem MV{t:List (κ×α)}(hn:(t.map Aa).Nodup)(k:κ):I9 t k=without t k:=by
 induction t with
 |nil=>rfl|cons p r ih=>
  rw[BK,Ii] at hn;rw[ZY,FT];by_cases h:p.1=k;rw[BZ h,BZ h,Jv (by rw[<- h];exact hn.1)];rw[BM h,BM h,ih hn.2]
theorem VU(p:κ×α)(t:List (κ×α))(k:κ)(v:α):Dk (p::t) k v=if p.1=k then (k,v)::t else p::Dk t k v:=by
 unfold Dk;rw[BK,Qw];by_cases h:p.1=k;simp[h];(have hb:(p.1==k)=false:=by simp[h]);rw[BM h];simp only[hb];cases (t.map Aa).idxOf? k<;>simp
theorem VV{t:List (κ×α)}(hn:(t.map Aa).Nodup)(k:κ)(v:α):(Dk t k v).Perm ((k,v)::without t k):=by
 induction t with
 |nil=>exact OA _|cons p r ih=>
  rw[BK,Ii] at hn;rw[VU,FT];by_cases h:p.1=k;rw[BZ h,BZ h,Jv (by rw[<- h];exact hn.1)];rw[BM h,BM h];exact ((ih hn.2).cons p).trans (List.Perm.swap _ _ _)
end
def UN (a b:ByteArray):Bool:=Op.bytesLess a.toList b.toList
theorem SK:UN a b=true↔a.data.toList<b.data.toList:=by
 unfold UN;rw[Go.Proofs.bytesLess_eq,Yg,Yg];simp
theorem data_inj(h:a.data.toList=b.data.toList):a=b:=by
 cases a with|mk x=>cases b with|mk y=>
  (cases x;cases y);simp at h;subst h;rfl
theorem ZZ{c:ByteArray}(h:UN a b=true)(k:UN b c=true):UN a c=true:=by
 rw[SK] at*
 exact List.lt_trans h k
theorem XY(a:ByteArray):UN a a=false:=by
 rw[<- dQ,SK];exact xU _
theorem AMA(h:a≠b)(k:UN a b=false):UN b a=true:=by
 rw[<- dQ,SK] at k;rw[SK];have h1:b.data.toList<=a.data.toList:=List.not_lt.1 k;rcases AFD.1 h1 with h2|h2;exact h2;exact Ai (data_inj h2).symm h
section
variable {α:Type}
def Dx (k:ByteArray) (v:α):List (ByteArray×α)->List (ByteArray×α)
 | []=>[(k,v)]|p::r=>if UN k p.1=true then (k,v)::p::r else p::Dx k v r
theorem G8(k:ByteArray)(v:α): ∀t:List (ByteArray×α),(Dx k v t).Perm ((k,v)::t)
 | []=>OA _
 |p::r=>by
  rw[Dx];split;exact OA _;exact ((G8 k v r).cons p).trans (List.Perm.swap _ _ _)
def RH (t:List (ByteArray×α)):Prop:=(t.map Aa).Pairwise λa b=>UN a b=true
theorem RH.nodup{t:List (ByteArray×α)}(h:RH t):(t.map Aa).Nodup:=
 List.Pairwise.imp (λ{a b} hab e=>by subst e;rw[XY] at hab;cases hab) h
theorem RH.without{t:List (ByteArray×α)}(h:RH t)(k:ByteArray):RH (without t k):=
 AFE ((List.filter_sublist).map Aa) h
theorem RH.with_{t:List (ByteArray×α)}(h:RH t){k:ByteArray}(v:α)(hk:k∉t.map Aa):RH (Dx k v t):=by
 induction t with
 |nil=>simp[RH,Dx]|cons p r ih=>
  have hp: ∀x∈r.map Aa,UN p.1 x=true:=(LK.1 h).1;have hr:RH r:=(LK.1 h).2;rw[Dx];split
  ·rename_i hlt;refine LK.2 ⟨λx hx=>?_,h⟩;rcases BB.1 hx with rfl|hx;exact hlt;exact ZZ hlt (hp x hx)
  rename_i hlt;rw[dQ] at hlt;have hne:k≠p.1:=λe=>hk (by simp[e]);refine LK.2 ⟨λx hx=>?_,ih hr (λhm=>hk (CO _ hm))⟩;have hx2:x∈((k,v)::r).map Aa:=((G8 k v r).map Aa).mem_iff.1 hx;rcases BB.1 hx2 with rfl|hx2;exact AMA hne hlt;exact hp x hx2
end
structure Lc where
 nm:ByteArray
 A:Option Ag
 n:Nat
 c:Nat
def Lc.cells (x:Lc):List AP:=[.string x.nm,.slice x.A x.n x.c]
def Ko (xs:List Lc):List AP:=xs.flatMap Lc.cells
theorem iZ(xs:List Lc):(Ko xs).length=xs.length*2:=by
 induction xs with|nil=>rfl|cons x r ih=>simp only[Ko,U7,Ig,List.length_cons] at ih⊢;rw[ih];simp[Lc.cells];omega
theorem Nq(a b:List Lc):Ko (a++b)=Ko a++Ko b:=by simp[Ko]
theorem QQ(xs:List Lc)(j k:Nat)(hk:k<2):(Ko xs)[j*2+k]? =(xs[j]?).bind λx=>x.cells[k]? :=by
 induction xs generalizing j with
 |nil=>simp[Ko]|cons x r ih=>
  simp only[Ko,U7]
  cases j with
  |zero=>
   rw[NK (by simp[Lc.cells];omega)];simp
  |succ j=>
   rw[Gt (by simp[Lc.cells];omega)];(have:(j+1)*2+k - x.cells.length=j*2+k:=by simp[Lc.cells];omega);rw[this];simpa[Ko] using ih j
theorem Uu(xs:List Lc): ∀u∈Ko xs,u.oneCell'=true:=by
 intro u hu;obtain⟨x,_,h⟩:=FI.1 hu;simp only[Lc.cells,BB,kG,or_false] at h;rcases h with rfl|rfl<;>rfl
structure AFr (w:AL) (p:Ag) (x:Lc):Prop where
 c0:w.cell? p=AA (.string x.nm)
 c1:w.cell? ⟨p.block,p.off+1,AB⟩=AA (.slice x.A x.n x.c)
theorem AFr.Ak{p:Ag}{x:Lc}{L:List Nat}(h:AFr w p x)(hc:AZ L w w')(hn:p.block∉L):AFr w' p x:=⟨hc.cell h.c0 hn,hc.cell h.c1 hn⟩
theorem Rd.Ov{xs:List Lc}(h:Rd w 2 A n c (Ko xs)):xs.length=n:=by have:=h.1;rw[iZ] at this;omega
theorem Rd.ns{xs:List Lc}(h:Rd w 2 A n c (Ko xs)){j:Nat}{x:Lc}(hj:xs[j]? =AA x): ∃ad,A=AA ad/\AFr w (ad.add (j*2)) x:=by
 have hl:=h.Ov;(have hjn:j<n:=by have:=(DC.1 hj).1;omega);obtain⟨ad,rfl,_⟩:=h.some_ Ad;refine⟨ad,rfl,?_⟩;have hc: ∀k,k<2->∀u,x.cells[k]? =AA u->w.cell? (ad.add (j*2+k))=AA u:=λk hk u hu=>(h.2.2.2.2 ad rfl).2 _ u (by rw[QQ _ _ _ hk,hj];exact hu);refine⟨hc 0 Ar _ rfl,?_⟩;have:=hc 1 Ar _ rfl;rw[oO] at this;exact this
abbrev FM:=Lc×List Int
abbrev DM:=Lc×List FM
abbrev GH:=List (ByteArray×List (ByteArray×List Int))
def F5 (fs:List FM):List Lc:=fs.map (·.1)
def Gi (ds:List DM):List Lc:=ds.map (·.1)
def BD (fs:List FM):List (ByteArray×List Int):=fs.map λf=>(f.1.nm,f.2)
def BJ (ds:List DM):GH:=ds.map λd=>(d.1.nm,BD d.2)
def Gj (fs:List FM):List Nat:=fs.flatMap λf=>bo f.1.A
def OZ (ds:List DM):List Nat:=ds.flatMap λd=>bo d.1.A++Gj d.2
structure FO (w:AL) (A:Option Ag) (n c:Nat) (fs:List FM):Prop where
 row:Rd w 2 A n c (Ko (F5 fs))
 dat: ∀f∈fs,Rd w 1 f.1.A f.1.n f.1.c (bv f.2)
structure Ib (w:AL) (A:Option Ag) (n c:Nat) (ds:List DM):Prop where
 row:Rd w 2 A n c (Ko (Gi ds))
 Ed: ∀d∈ds,FO w d.1.A d.1.n d.1.c d.2
theorem FO.Ak{w w':AL}{A:Option Ag}{n c:Nat}{fs:List FM}{L:List Nat}(h:FO w A n c fs)(hc:AZ L w w')(hn: ∀k∈bo A++Gj fs,k∉L):FO w' A n c fs:=
 ⟨h.row.Ak hc (λk hk=>hn k (Fh _ hk)),λf hf=>(h.dat f hf).Ak hc (λk hk=>hn k (Gx _ (FI.2 ⟨f,hf,hk⟩)))⟩
theorem Ib.Ak{w w':AL}{A:Option Ag}{n c:Nat}{ds:List DM}{L:List Nat}(h:Ib w A n c ds)(hc:AZ L w w')(hn: ∀k∈bo A++OZ ds,k∉L):Ib w' A n c ds:=
 ⟨h.row.Ak hc (λk hk=>hn k (Fh _ hk)),λd hd=>(h.Ed d hd).Ak hc (λk hk=>hn k (Gx _ (FI.2 ⟨d,hd,hk⟩)))⟩
theorem Ib.Ho{ds:List DM}(h:Ib w A n c ds)(hc:AZ [] w w'):Ib w' A n c ds:=h.Ak hc Ej
theorem FO.Ho{fs:List FM}(h:FO w A n c fs)(hc:AZ [] w w'):FO w' A n c fs:=h.Ak hc Ej
structure Gu (w:AL) (A:Option Ag) (n c:Nat) (fs:List FM):Prop where
 row:Own w 64 2 A n c (Ko (F5 fs))
 dat: ∀f∈fs,Own w 5 1 f.1.A f.1.n f.1.c (bv f.2)
 sep:(Gj fs).Nodup
structure Jj (w:AL) (A:Option Ag) (n c:Nat) (ds:List DM):Prop where
 row:Own w 77 2 A n c (Ko (Gi ds))
 Ed: ∀d∈ds,Gu w d.1.A d.1.n d.1.c d.2
 sep:(OZ ds).Nodup
theorem Gu.rd{w:AL}{A:Option Ag}{n c:Nat}{fs:List FM}(h:Gu w A n c fs):FO w A n c fs:=⟨h.row.rd,λf hf=>(h.dat f hf).rd⟩
theorem Jj.rd{w:AL}{A:Option Ag}{n c:Nat}{ds:List DM}(h:Jj w A n c ds):Ib w A n c ds:=⟨h.row.rd,λd hd=>(h.Ed d hd).rd⟩
theorem Gu.Ak{w w':AL}{A:Option Ag}{n c:Nat}{fs:List FM}{L:List Nat}(h:Gu w A n c fs)(hc:AZ L w w')(hn: ∀k∈bo A++Gj fs,k∉L):Gu w' A n c fs:=
 ⟨h.row.Ak hc (λk hk=>hn k (Fh _ hk)),λf hf=>(h.dat f hf).Ak hc (λk hk=>hn k (Gx _ (FI.2 ⟨f,hf,hk⟩))),h.sep⟩
theorem Jj.Ak{w w':AL}{A:Option Ag}{n c:Nat}{ds:List DM}{L:List Nat}(h:Jj w A n c ds)(hc:AZ L w w')(hn: ∀k∈bo A++OZ ds,k∉L):Jj w' A n c ds:=
 ⟨h.row.Ak hc (λk hk=>hn k (Fh _ hk)),λd hd=>(h.Ed d hd).Ak hc (λk hk=>hn k (Gx _ (FI.2 ⟨d,hd,hk⟩))),h.sep⟩
theorem Gu.lt{w:AL}{A:Option Ag}{n c:Nat}{fs:List FM}(h:Gu w A n c fs): ∀k∈bo A++Gj fs,k<w.heap.size:=by
 intro k hk;rcases Be.1 hk with hk|hk;exact h.row.lt k hk;obtain⟨f,hf,hk⟩:=FI.1 hk;exact (h.dat f hf).lt k hk
theorem Jj.lt{w:AL}{A:Option Ag}{n c:Nat}{ds:List DM}(h:Jj w A n c ds): ∀k∈bo A++OZ ds,k<w.heap.size:=by
 intro k hk;rcases Be.1 hk with hk|hk;exact h.row.lt k hk;obtain⟨d,hd,hk⟩:=FI.1 hk;exact (h.Ed d hd).lt k hk
theorem vS:Ety Af 25 64 2 40 (.agg #[.string Lu,.slice AB 0 0]):=.mk' ASz Aq rfl Ar
theorem ABy:Ety Af 22 77 2 40 (.agg #[.string Lu,.slice AB 0 0]):=.mk' ASy Aq rfl Ar
theorem fF(A:Option Ag):(bo A).Nodup:=by cases A<;>simp
theorem Gu.snoc{fs:List FM}(h:Gu w A n c fs){x:FM}(hc:AZ (bo A) w w')(hr:Own w' 64 2 A' (n+1) c' (Ko (F5 (fs++[x]))))(hx:Own w' 5 1 x.1.A x.1.n x.1.c (bv x.2))(hd: ∀k∈bo x.1.A,k∉Gj fs):Gu w' A' (n+1) c' (fs++[x]):=by
 refine⟨hr,λf hf=>?_,?_⟩
 ·rcases Be.1 hf with hf|hf;exact (h.dat f hf).Ak hc ((h.dat f hf).own_ne h.row Ar);simp only[CG] at hf;subst hf;exact hx
 unfold Gj;rw[ALO];refine Pj.2 ⟨h.sep,by simpa using fF x.1.A,λa ha b hb=>?_⟩;simp only[U7,List.flatMap_nil,LM] at hb;rintro rfl;exact hd a hb ha
theorem oZ(fs:List FM)(x:FM):Gj (fs++[x])=Gj fs++bo x.1.A:=by simp[Gj]
theorem Za(ds:List DM)(x:DM):OZ (ds++[x])=OZ ds++(bo x.1.A++Gj x.2):=by simp[OZ]
theorem Gu.nodup{fs:List FM}(h:Gu w A n c fs):(bo A++Gj fs).Nodup:=by
 refine Pj.2 ⟨fF A,h.sep,λa ha b hb=>?_⟩;obtain⟨f,hf,hb⟩:=FI.1 hb;rintro rfl;exact (h.dat f hf).own_ne h.row Ar a hb ha
theorem Jj.AMB{ds:List DM}(h:Jj w A n c ds): ∀k∈OZ ds,k∉bo A:=by
 intro k hk;obtain⟨d,hd,hk⟩:=FI.1 hk;rcases Be.1 hk with hk|hk;exact (h.Ed d hd).row.own_ne h.row Ar k hk;obtain⟨f,hf,hk⟩:=FI.1 hk;exact ((h.Ed d hd).dat f hf).own_ne h.row Ar k hk
theorem Jj.snoc{ds:List DM}(h:Jj w A n c ds){x:DM}(hc:AZ (bo A) w w')(hr:Own w' 77 2 A' (n+1) c' (Ko (Gi (ds++[x]))))(hx:Gu w' x.1.A x.1.n x.1.c x.2)(hd: ∀k∈bo x.1.A++Gj x.2,k∉OZ ds):Jj w' A' (n+1) c' (ds++[x]):=by
 refine⟨hr,λd hd=>?_,?_⟩
 ·rcases Be.1 hd with hd|hd;exact (h.Ed d hd).Ak hc (λk hk=>h.AMB k (FI.2 ⟨d,hd,hk⟩));simp only[CG] at hd;subst hd;exact hx
 rw[Za];exact Pj.2 ⟨h.sep,hx.nodup,λa ha b hb=>by rintro rfl;exact hd a hb ha⟩
def bF (w:AL) (D:GH) (e:Fv) (w':AL):Prop:=
 ∃A n c ds,e=.returned (.slice A n c)/\Jj w' A n c ds/\BJ ds=D/\AZ [] w w'/\∀k∈bo A++OZ ds,w.heap.size<=k
open Go.ChangeShapes Go.WideShapes Go.Deep
end
open Go
section
variable {a a':Act}{fuel:Nat}{oi:Oper}{v:AP}{w:AL}{C:AL->Prop}
section
variable {P:Program} {ops:Array Oper} {Q:Exit->Act->AL->Prop} {md:Region.Mode} {S:AL->Prop}
theorem tk(i:Nat){listed:Array Bool}(h:wpAnyH P md ops Q S fuel (listed.setIfInBounds i true) a' w)(hi:ops[i]? =some oi:=by exact rfl)
  (hs:Region.noSelect ops=true:=by kernel_rfl) (hf:Region.free md ops listed i=true:=by kernel_rfl) (hr:(Region.ready md ops listed).contains i=true:=by kernel_rfl)
  (hy:YieldsIf P ops S oi v a:=by first|exact Or.inl ⟨by rfl,by intro w' hSw;go_simp;try with_reducible rfl⟩|exact Or.inr ⟨by rfl,rfl⟩) (ha:a.put oi.dst v=a':=by simp only[Act.put,Bf];first|done|rfl)
  (hQ: ∀c a w,Q (.panic c) (a.put oi.dst v) w->Q (.panic c) a w:=by first|exact λ_ _ _ h=>h|exact λ_ _ _ h=>AJ5.out _ _ _ _ _ Ar h) (hS:S w:=by assumption):wpAnyH P md ops Q S (fuel+1) listed a w:=
 wpAnyH_take hi hs hf hr hQ hy hS (by rw[ha];exact h)
theorem GI(i:Nat)(q: ∀w,S w->C w){listed:Array Bool}(h:wpAnyH P md ops Q S fuel (listed.setIfInBounds i true) a' w)(hi:ops[i]? =some oi:=by exact rfl)
  (hs:Region.noSelect ops=true:=by kernel_rfl) (hf:Region.free md ops listed i=true:=by kernel_rfl) (hr:(Region.ready md ops listed).contains i=true:=by kernel_rfl)
  (hw:Region.wanted oi (yielded ops a.tmps)=true:=by rfl)
  (hy: ∀w,S w->C w->(execOp a.eval oi).run P w=.ok (.value v) w:=by intro w' hSw q;go_simp;try with_reducible rfl) (ha:a.put oi.dst v=a':=by simp only[Act.put,Bf];first|done|rfl)
  (hQ: ∀c a w,Q (.panic c) (a.put oi.dst v) w->Q (.panic c) a w:=by first|exact λ_ _ _ h=>h|exact λ_ _ _ h=>AJ5.out _ _ _ _ _ Ar h) (hS:S w:=by assumption):wpAnyH P md ops Q S (fuel+1) listed a w:=
 wpAnyH_take hi hs hf hr hQ (Or.inl ⟨hw,λw hw'=>hy w hw' (q w hw')⟩) hS (by rw[ha];exact h)
theorem AS8(i:Nat){D:World->Prop}(q: ∀w,S w->C w/\D w){listed:Array Bool}(h:wpAnyH P md ops Q S fuel (listed.setIfInBounds i true) a' w)(hi:ops[i]? =some oi:=by exact rfl)
  (hs:Region.noSelect ops=true:=by kernel_rfl) (hf:Region.free md ops listed i=true:=by kernel_rfl) (hr:(Region.ready md ops listed).contains i=true:=by kernel_rfl)
  (hw:Region.wanted oi (yielded ops a.tmps)=true:=by rfl)
  (hy: ∀w,S w->C w->D w->(execOp a.eval oi).run P w=.ok (.value v) w:=by intro w' hSw q q2;go_simp;try with_reducible rfl) (ha:a.put oi.dst v=a':=by simp only[Act.put,Bf];first|done|rfl)
  (hQ: ∀c a w,Q (.panic c) (a.put oi.dst v) w->Q (.panic c) a w:=by first|exact λ_ _ _ h=>h|exact λ_ _ _ h=>AJ5.out _ _ _ _ _ Ar h) (hS:S w:=by assumption):wpAnyH P md ops Q S (fuel+1) listed a w:=
 wpAnyH_take hi hs hf hr hQ (Or.inl ⟨hw,λw hw'=>hy w hw' (q w hw').1 (q w hw').2⟩) hS (by rw[ha];exact h)
theorem EW(i:Nat){o:Oper}{listed:Array Bool}
  (h: ∀K':Act->World->Prop,Shut (∀a w,S w->(S w->wpAnyH P md ops Q S fuel (listed.setIfInBounds i true) a w)->K' a w)->if Region.wanted o (yielded ops a.tmps)=true then Oper.wp P o a w K' Q else K' (a.put o.dst undef) w)
  (ho:ops[i]? =some o:=by exact rfl) (hr:Region.ready md ops listed=[i]:=by kernel_rfl):wpAnyH P md ops Q S (fuel+1) listed a w:=
 wpAnyH_ready hr AV (AllReadyH.cons ho h AllReadyH.nil)
end
end
section
variable {c i:Nat}{u:UInt8}
def ji (c:Int):Bool:=decide (97<=c/\c<=122) || decide (48<=c/\c<=57) || c==46 || c==95 || c==45
def CS (s:ByteArray):Bool:=decide (0<s.size/\s.size<=30) && s.data.toList.all λb=>ji (b.toNat:Int)
theorem oh{s:ByteArray}(h:s.data.toList[i]? =AA u)(hb:ji (u.toNat:Int)=false):CS s=false:=by
 unfold CS;rw[ALP];right;rw[List.all_eq_false];exact⟨u,Bq h,by simp[hb]⟩
theorem vT{l:List UInt8}(h: ∀x∈l.take i,ji (x.toNat:Int)=true)(hu:l[i]? =AA u)(ho:ji (u.toNat:Int)=true): ∀x∈l.take (i+1),ji (x.toNat:Int)=true:=by
 intro x hx;rw[U6,hu] at hx;rcases Be.1 hx with h1|h1;exact h x h1;simp at h1;subst h1;exact ho
theorem Rf(s:ByteArray)(w:AL):A7 Af 36 #[.string s] w λe w'=>e=.returned (.bool (CS s))/\w'=w:=by
 by_cases h0:s.size=0
 ·have hs:s=Lu:=by
   cases s with|mk d=>simp[ByteArray.size] at h0;subst h0;rfl
  subst hs;go_enter AFp,Tryz.ntmps36;go_wp2;go_ret;exact⟨rfl,rfl⟩
 have e1:s.toList.isEmpty=false:=by
  rw[Yg,<- dQ,List.isEmpty_iff];intro h;apply h0;(have q:s.data.toList.length=0:=by rw[h];rfl);simpa using q
 by_cases h30:30<s.size
 ·(have e2:decide ((30:Int)<(s.size:Int))=true:=by simp;omega);have HR:Hid (CS s=false):=AQ (by unfold CS;simp;omega);go_enter AFp,Tryz.ntmps36;go_wp2;go_ret;exact⟨by rw[HR.out];rfl,rfl⟩
 (have e2:decide ((30:Int)<(s.size:Int))=false:=by simp;omega);go_enter AFp,Tryz.ntmps36;go_wp2;go_loopw [14] (λq wr=>∃i:Nat,i<=s.size/\q=.int .i64 i/\(∀x∈s.data.toList.take i,ji (x.toNat:Int)=true)/\wr=w) (λq _=>s.size - (intOf q).toNat)
 case atStart=>exact⟨0,D5 _,rfl,AV,rfl⟩
 obtain⟨i,hi,rfl,hall,rfl⟩:=hrel;have MF:=AQ hall;clear hall;by_cases hlt:i<s.size
 ·(have hlt':(i:Int)<(s.size:Int):=by omega);have HX:Hid (s.data.toList[i]? =AA (s[i]'hlt)):=AQ (by rw[CQ (by simpa using hlt)];rfl);have hub:(s[i]'hlt).toNat<256:=(s[i]'hlt).toNat_lt;rcases (show (97<=(s[i]'hlt).toNat/\(s[i]'hlt).toNat<=122)\/(48<=(s[i]'hlt).toNat/\(s[i]'hlt).toNat<=57)\/(s[i]'hlt).toNat=46\/(s[i]'hlt).toNat=95\/(s[i]'hlt).toNat=45\/((s[i]'hlt).toNat<48/\(s[i]'hlt).toNat≠46/\(s[i]'hlt).toNat≠45)\/(57<(s[i]'hlt).toNat/\(s[i]'hlt).toNat<97/\(s[i]'hlt).toNat≠95)\/(122<(s[i]'hlt).toNat) by omega) with hq|hq|hq|hq|hq|hq|hq|hq
  all_goals
   (first|have e0:decide (((s[i]'hlt).toNat:Int)<97)=true:=by simp;omega|have e0:decide (((s[i]'hlt).toNat:Int)<97)=false:=by simp;omega);(first|have e1:decide (122<((s[i]'hlt).toNat:Int))=true:=by simp;omega|have e1:decide (122<((s[i]'hlt).toNat:Int))=false:=by simp;omega);(first|have e2:decide (((s[i]'hlt).toNat:Int)<48)=true:=by simp;omega|have e2:decide (((s[i]'hlt).toNat:Int)<48)=false:=by simp;omega);(first|have e3:decide (57<((s[i]'hlt).toNat:Int))=true:=by simp;omega|have e3:decide (57<((s[i]'hlt).toNat:Int))=false:=by simp;omega);(first|have e4:(((s[i]'hlt).toNat:Int) !=46)=true:=by simp;omega|have e4:(((s[i]'hlt).toNat:Int) !=46)=false:=by simp;omega);(first|have e5:(((s[i]'hlt).toNat:Int) !=95)=true:=by simp;omega|have e5:(((s[i]'hlt).toNat:Int) !=95)=false:=by simp;omega);(first|have e6:(((s[i]'hlt).toNat:Int) !=45)=true:=by simp;omega|have e6:(((s[i]'hlt).toNat:Int) !=45)=false:=by simp;omega);first
   |have HO:Hid (ji ((s[i]'hlt).toNat:Int)=true):=AQ (by unfold ji;simp;omega)
    go_wp2;go_roundw
    case rel=>exact⟨i+1,Ad,by go_num,vT MF.out HX.out HO.out,Am⟩
    simp[intOf];omega
   |have HR:Hid (CS s=false):=AQ (oh HX.out (by unfold ji;simp;omega))
    go_wp2;go_ret;exact⟨by rw[HR.out];rfl,rfl⟩
 obtain rfl:i=s.size:=by omega
 have HR:Hid (CS s=true):=AQ (by
  unfold CS;rw[DU];refine⟨by simp;omega,JC.2 (λx hx=>MF.out x ?_)⟩;rw[FH AV]
  exact hx)
 go_wp2;go_ret;exact⟨by rw[HR.out];rfl,rfl⟩
def oq:ByteArray:=⟨#[97,98,99,100,101,102,103,104,105,106,107,108,109,110,111,112,113,114,115,116,117,118,119,120,121,122,48,49,50,51,52,53,54,55,56,57,46,95,45]⟩
def ig (k:Nat) (c:Nat):Bool:=(oq.data.toList.take k).any λb=>b.toNat==c
theorem AG7:((List.range 256).all λn=>ig 39 n==ji (n:Int))=true:=by kernel_rfl
theorem AG8(h:c<256):ig 39 c=ji (c:Int):=by
 have q:=JC.1 AG7 c (WZ.2 h);exact eq_of_beq q
theorem AET{k:Nat}(h:k<39):ig (k+1) c=(ig k c || (oq[k]'h).toNat==c):=by
 unfold ig;rw[U6,show oq.data.toList[k]? =AA (oq[k]'h) from by rw[CQ (show k<oq.data.toList.length from h)];rfl];simp[List.any_append]
theorem ou(s:ByteArray)(w:AL):A7 Af 10 #[.string s] w λe w'=>e=.returned (.bool (CS s))/\AZ [] w w':=by
 by_cases h0:s.size=0
 ·(have e1:((s.size:Int)==0)=true:=by simp[h0]);have HR:Hid (CS s=false):=AQ (by unfold CS;simp[h0]);go_enter AFo,Tryz.ntmps10;go_wp2;go_ret;exact⟨by rw[HR.out];rfl,AZ.refl _ _⟩
 (have e1:((s.size:Int)==0)=false:=by rw[beq_eq_false_iff_ne];omega);by_cases h30:30<s.size
 ·(have e2:decide ((30:Int)<(s.size:Int))=true:=by simp;omega);have HR:Hid (CS s=false):=AQ (by unfold CS;simp;omega);go_enter AFo,Tryz.ntmps10;go_wp2;go_ret;exact⟨by rw[HR.out];rfl,AZ.refl _ _⟩
 (have e2:decide ((30:Int)<(s.size:Int))=false:=by simp;omega);go_enter AFo,Tryz.ntmps10;go_wp2;go_loopw [3] (λq wr=>∃i:Nat,i<=s.size/\q=.int .i64 i/\(∀x∈s.data.toList.take i,ji (x.toNat:Int)=true)/\AZ [] w wr) (λq _=>s.size - (intOf q).toNat)
 case atStart=>exact⟨0,D5 _,rfl,AV,AZ.refl _ _⟩
 obtain⟨i,hi,rfl,hall,hch⟩:=hrel;have MF:=AQ hall;have DY:=AQ hch;clear hall hch;by_cases hlt:i<s.size
 ·(have hlt':(i:Int)<(s.size:Int):=by omega);have HX:Hid (s.data.toList[i]? =AA (s[i]'hlt)):=AQ (by rw[CQ (by simpa using hlt)];rfl);have hub:(s[i]'hlt).toNat<256:=(s[i]'hlt).toNat_lt;go_wp2;obtain⟨wk,hwk⟩: ∃wk:AL,wk=wr:=⟨_,rfl⟩;subst hwk;go_loopw [5,4] (λq b wr=>∃k:Nat,k<=39/\q=.int .i64 k/\b=.bool (ig k (s[i]'hlt).toNat)/\AZ [] wk wr) (λq _ _=>39 - (intOf q).toNat)
  case atStart=>exact⟨0,Ad,rfl,rfl,AZ.refl _ _⟩
  obtain⟨k,hk,rfl,rfl,hcr⟩:=hrel;have HCR:=AQ hcr;clear hcr;by_cases AS9:k<39
  ·(have AUE:(k:Int)<39:=by omega);have HS:=AQ (AET (c:=(s[i]'hlt).toNat) AS9)
   cases hb:ig k (s[i]'hlt).toNat with
   |true=>
    rw[hb] at HS;clear hb;(go_wp2_with fail);go_quiet (fail);go_wp2;go_roundw
    case rel=>exact⟨k+1,Ad,by go_num,by rw[HS.out];rfl,HCR.out.drewN _⟩
    simp[intOf];omega
   |false=>
    rw[hb] at HS;clear hb;(go_wp2_with fail);go_quiet (fail);go_wp2;go_roundw
    case rel=>
     refine⟨k+1,Ad,by go_num,?_,HCR.out.drewN _⟩;rw[HS.out,Bool.false_or];exact congrArg Value.bool (by rw[lN];simp;exact⟨λh=>by exact_mod_cast h,λh=>by exact_mod_cast h⟩)
    simp[intOf];omega
  (obtain rfl:k=39:=by omega);have HK:=AQ (AG8 hub)
  cases hb:ig 39 (s[i]'hlt).toNat with
  |true=>
   rw[hb] at HK;clear hb;go_wp2;go_roundw
   case rel=>exact⟨i+1,Ad,by go_num,vT MF.out HX.out HK.out.symm,DY.out.Ap HCR.out⟩
   simp[intOf];omega
  |false=>
   rw[hb] at HK;clear hb;have HR:Hid (CS s=false):=AQ (oh HX.out HK.out.symm);go_wp2;go_ret;exact⟨by rw[HR.out];rfl,DY.out.Ap HCR.out⟩
 obtain rfl:i=s.size:=by omega
 have HR:Hid (CS s=true):=AQ (by
  unfold CS;rw[DU];refine⟨by simp;omega,JC.2 (λx hx=>MF.out x ?_)⟩;rw[FH AV]
  exact hx)
 go_wp2;go_ret;exact⟨by rw[HR.out];rfl,DY.out⟩
end
end Go.Proofs.YtkkgcebhfghdnaaGreatDoor.Vw
namespace Go.Proofs.YtkkgcebhfghdnaaGreatDoor
open Go
open Go.Shelf
def Ah.ik:Go.Shelf.Ren:=⟨fun|7=>88|10=>124|n=>n,fun|23=>112|26=>9|3=>130|28=>179|0=>0|27=>178|33=>37|4=>4|n=>n,fun|n=>n⟩
theorem Ah.AFs:Go.Proofs.SlLaysZ.n7 Af Ah.ik:={
 mixed:=by kernel_rfl
 f7:=⟨Tryz.f88.name,Ar,ANK.trans (congrArg AA Aq)⟩
 f10:=⟨Tryz.f124.name,Ar,AJQ.trans (congrArg AA Aq)⟩
 t0:=VU0
 a0:=VI0
 z0:=VS0
 v0:=VZ0
 t4:=VU4
 a4:=VI4
 z4:=VS4
 v4:=VZ4
 t23:=Iy
 a23:=AQR
 z23:=AQS
 v23:=AQT
 t26:=KZ
 a26:=VI9
 z26:=VS9
 v26:=VZ9
 t27:=AJv
 a27:=AJw
 z27:=AJx
 v27:=AJy
 t28:=AEM
 a28:=AEN
 z28:=AEO
 v28:=AEP
 t33:=ANj
 a33:=ANk
 z33:=ANl
 v33:=ANm}
def Ah.iq:Go.Shelf.Ren:=⟨fun|7=>89|10=>125|n=>n,fun|23=>130|26=>9|3=>121|28=>179|0=>0|27=>178|33=>37|4=>4|n=>n,fun|n=>n⟩
theorem Ah.AFt:Go.Proofs.SlLaysZ.n7 Af Ah.iq:={
 mixed:=by kernel_rfl
 f7:=⟨Tryz.f89.name,Ar,ANL.trans (congrArg AA Aq)⟩
 f10:=⟨Tryz.f125.name,Ar,AJR.trans (congrArg AA Aq)⟩
 t0:=VU0
 a0:=VI0
 z0:=VS0
 v0:=VZ0
 t4:=VU4
 a4:=VI4
 z4:=VS4
 v4:=VZ4
 t23:=PH
 a23:=AJr
 z23:=AJs
 v23:=AJt
 t26:=KZ
 a26:=VI9
 z26:=VS9
 v26:=VZ9
 t27:=AJv
 a27:=AJw
 z27:=AJx
 v27:=AJy
 t28:=AEM
 a28:=AEN
 z28:=AEO
 v28:=AEP
 t33:=ANj
 a33:=ANk
 z33:=ANl
 v33:=ANm}
def Ah.sortedA_ren:Go.Shelf.Ren:=⟨fun|6=>87|8=>122|9=>123|11=>136|13=>138|12=>137|23=>148|24=>149|14=>139|15=>140|16=>141|17=>142|18=>143|19=>144|20=>145|21=>146|22=>147|25=>150|26=>151|27=>152|28=>153|29=>154|30=>155|31=>156|n=>n,fun|26=>9|28=>179|24=>69|0=>0|3=>3|37=>214|48=>166|50=>163|4=>4|40=>243|39=>242|45=>248|5=>5|9=>9|51=>252|55=>255|57=>257|58=>258|33=>37|n=>n,fun|n=>n⟩
theorem Ah.sortedA:Go.Proofs.SlLaysZ.n6 Af Ah.sortedA_ren:={
 mixed:=by kernel_rfl
 f6:=⟨Tryz.f87.name,Ar,ANJ.trans (congrArg AA Aq)⟩
 f8:=⟨Tryz.f122.name,Ar,APm.trans (congrArg AA Aq)⟩
 f11:=⟨Tryz.f136.name,Ar,APn.trans (congrArg AA Aq)⟩
 t0:=VU0
 a0:=VI0
 z0:=VS0
 v0:=VZ0
 t24:=AJm
 a24:=AJn
 z24:=AJo
 v24:=AJp
 t26:=KZ
 a26:=VI9
 z26:=VS9
 v26:=VZ9
 t28:=AEM
 a28:=AEN
 z28:=AEO
 v28:=AEP
 i26:=by kernel_rfl}
def Ah.AEU:Go.Shelf.Ren:=⟨fun|6=>123|8=>138|9=>137|19=>148|20=>149|21=>139|22=>140|23=>141|24=>142|25=>143|26=>144|27=>145|28=>146|29=>147|36=>150|31=>151|32=>152|37=>153|38=>154|39=>155|41=>156|n=>n,fun|27=>69|29=>9|3=>3|32=>214|26=>69|0=>0|44=>166|46=>163|4=>4|36=>243|35=>242|41=>248|5=>5|9=>9|53=>252|57=>255|63=>257|64=>258|n=>n,fun|n=>n⟩
theorem Ah.sortA:Go.Proofs.SlLaysM.n6 Af Ah.AEU:={
 mixed:=by kernel_rfl
 f6:=⟨Tryz.f123.name,Ar,AEK.trans (congrArg AA Aq)⟩
 f8:=APp.trans (congrArg AA Aq)
 f9:=⟨Tryz.f137.name,Ar,APo.trans (congrArg AA Aq)⟩
 f19:=APz.trans (congrArg AA Aq)
 f20:=AP0.trans (congrArg AA Aq)
 f21:=⟨Tryz.f139.name,Ar,APq.trans (congrArg AA Aq)⟩
 f22:=⟨Tryz.f140.name,Ar,APr.trans (congrArg AA Aq)⟩
 f23:=⟨Tryz.f141.name,Ar,APs.trans (congrArg AA Aq)⟩
 f24:=⟨Tryz.f142.name,Ar,APt.trans (congrArg AA Aq)⟩
 f25:=⟨Tryz.f143.name,Ar,APu.trans (congrArg AA Aq)⟩
 f26:=⟨Tryz.f144.name,Ar,APv.trans (congrArg AA Aq)⟩
 f27:=⟨Tryz.f145.name,Ar,APw.trans (congrArg AA Aq)⟩
 f28:=⟨Tryz.f146.name,Ar,APx.trans (congrArg AA Aq)⟩
 f29:=⟨Tryz.f147.name,Ar,APy.trans (congrArg AA Aq)⟩
 f31:=AP2.trans (congrArg AA Aq)
 f32:=AP3.trans (congrArg AA Aq)
 f36:=⟨Tryz.f150.name,Ar,AP1.trans (congrArg AA Aq)⟩
 f37:=⟨Tryz.f153.name,Ar,AP4.trans (congrArg AA Aq)⟩
 f38:=⟨Tryz.f154.name,Ar,AP5.trans (congrArg AA Aq)⟩
 f39:=⟨Tryz.f155.name,Ar,AP6.trans (congrArg AA Aq)⟩
 f41:=⟨Tryz.f156.name,Ar,AP7.trans (congrArg AA Aq)⟩
 t0:=VU0
 a0:=VI0
 z0:=VS0
 v0:=VZ0
 t3:=VU3
 a3:=VI3
 z3:=VS3
 v3:=VZ3
 t4:=VU4
 a4:=VI4
 z4:=VS4
 v4:=VZ4
 t5:=VU5
 a5:=VI5
 z5:=VS5
 v5:=VZ5
 t9:=KZ
 a9:=VI9
 z9:=VS9
 v9:=VZ9
 t26:=AJm
 a26:=AJn
 z26:=AJo
 v26:=AJp
 t27:=AJm
 a27:=AJn
 z27:=AJo
 v27:=AJp
 t29:=KZ
 a29:=VI9
 z29:=VS9
 v29:=VZ9
 t32:=AQf
 a32:=AQg
 z32:=AQh
 v32:=AQi
 t35:=AQj
 a35:=AQk
 z35:=AQl
 v35:=AQm
 t36:=AQn
 a36:=AQo
 z36:=AQp
 v36:=AQq
 t41:=AQr
 a41:=AQs
 z41:=AQt
 v41:=AQu
 t44:=AQa
 a44:=AQb
 z44:=AQc
 v44:=AQd
 t46:=AQW
 a46:=AQX
 z46:=AQY
 v46:=AQZ
 t53:=AQv
 a53:=AQw
 z53:=AQx
 v53:=AQy
 t57:=AQz
 a57:=AQ0
 z57:=AQ1
 v57:=AQ2
 t63:=AQ3
 a63:=AQ4
 z63:=AQ5
 v63:=AQ6
 t64:=AQ7
 a64:=AQ8
 z64:=AQ9
 v64:=ARA}
def Ah.AG9:Go.Shelf.Ren:=⟨fun|5=>86|7=>121|n=>n,fun|23=>130|25=>9|3=>121|4=>4|20=>20|n=>n,fun|n=>n⟩
theorem Ah.ATA:Go.Proofs.SlLaysW.n5 Af Ah.AG9:={
 mixed:=by kernel_rfl
 f5:=⟨Tryz.f86.name,Ar,ANI.trans (congrArg AA Aq)⟩
 f7:=AP8.trans (congrArg AA Aq)
 t4:=VU4
 a4:=VI4
 z4:=VS4
 v4:=VZ4
 t20:=ASu
 a20:=ASv
 z20:=ASw
 v20:=ASx
 t23:=PH
 a23:=AJr
 z23:=AJs
 v23:=AJt}
end Go.Proofs.YtkkgcebhfghdnaaGreatDoor
