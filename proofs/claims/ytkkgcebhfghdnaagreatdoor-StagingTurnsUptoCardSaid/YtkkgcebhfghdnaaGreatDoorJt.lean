/- Part 20 of what that rests on; no condition. -/
import Derived.Test.YtkkgcebhfghdnaaGreatDoorJs
import Derived.BigQuiet
import Derived.Maps.RangeWalk
set_option maxRecDepth 100000
set_option maxHeartbeats 8000000
open Option renaming getD_some→Dt, map_none→Xy, map_some→FY, none→AB, some→AA
open ByteArray renaming empty→Lu
open List renaming headD_cons→RS, sum_cons→Bo, length→KX
open Go.Result renaming andThen→P8
open Go.Value renaming pointer→P9
open Go.Builtin renaming len_→UZ
open Prod renaming fst→Aa
open Go renaming TypeId→Aj, Value→AP, World→AL, Calls→A7
namespace Go.Proofs.YtkkgcebhfghdnaaGreatDoor.Vw
open Go.RowKit
section
variable {d n:ByteArray}{e:Int}{B j k x:Nat}{S:St}{w:AL}
theorem ACA{G:Bh}(h:EI w G S)(hi:Inv B S)(hB:B<=1073741824)(hok:ED.ok S.files.length S.seen (.CX d))(Kk:k∈G.K)(hk:w.cell? ⟨k,0,AB⟩=AA (.string d)):
  A7 Af 71 #[.pointer (AA ⟨G.b,0,AB⟩),.func (.func 72) #[] #[.pointer (AA ⟨k,0,AB⟩)]] w λe w'=>e=.returned (.int .i64 0)/\DJ w G (S.make (.CX d)) w':=by
 (have n1:S.D6.length<=1073741824:=by have:=hi.zh;omega);(have n2:S.steps<=1073741824:=by have:=hi.st;omega);have hm: ∀(j:Nat) (P:List Nat),G.parts[j]? =AA P->j≠1->∀x∈P,x∉ET G.t1 G.g1:=λj P hj hne x hx=>h.lay.ne hj (j:=1) rfl hne x hx;refine (bI 72 #[_] @ASi G.b G.t1 (AA G.t2) G.A G.Aw S.D6.length G.c S.wr.length G.cw S.BI S.stop S.steps G.vs w (λw'=>SQ w G.t1 G.g1 G.ib (ED.on S.seen (.CX d)) w') (ET G.t1 G.g1) ((vV h.FU h.Le hok.2 hk).mono (λe w' hq=>⟨hq.1,hq.2,hq.2.2⟩)) h.blk h.own (hm 0 _ rfl Ar _ AV) (hm 3 _ rfl Ar) n1 n2).mono ?_;rintro e w' ⟨rfl,w1,hcl,hc0,hc1,A',c',hb,ho,hA⟩;exact⟨rfl,h.did ⟨k,rfl,Kk,hk⟩ hcl hc1 hb ho hA⟩
theorem ACB{G:Bh}(h:EI w G S)(hi:Inv B S)(hB:B<=1073741824)(_:ED.ok S.files.length S.seen (.rmdir d))(Kk:k∈G.K)(hk:w.cell? ⟨k,0,AB⟩=AA (.string d)):
  A7 Af 71 #[.pointer (AA ⟨G.b,0,AB⟩),.func (.func 130) #[] #[.pointer (AA ⟨k,0,AB⟩)]] w λe w'=>e=.returned (.int .i64 0)/\DJ w G (S.make (.rmdir d)) w':=by
 (have n1:S.D6.length<=1073741824:=by have:=hi.zh;omega);(have n2:S.steps<=1073741824:=by have:=hi.st;omega);have hm: ∀(j:Nat) (P:List Nat),G.parts[j]? =AA P->j≠1->∀x∈P,x∉ET G.t1 G.g1:=λj P hj hne x hx=>h.lay.ne hj (j:=1) rfl hne x hx;refine (bI 130 #[_] @AQI G.b G.t1 (AA G.t2) G.A G.Aw S.D6.length G.c S.wr.length G.cw S.BI S.stop S.steps G.vs w (λw'=>SQ w G.t1 G.g1 G.ib (ED.on S.seen (.rmdir d)) w') (ET G.t1 G.g1) ((vW h.FU h.Le hk).mono (λe w' hq=>⟨hq.1,hq.2,hq.2.2⟩)) h.blk h.own (hm 0 _ rfl Ar _ AV) (hm 3 _ rfl Ar) n1 n2).mono ?_;rintro e w' ⟨rfl,w1,hcl,hc0,hc1,A',c',hb,ho,hA⟩;exact⟨rfl,h.did ⟨k,rfl,Kk,hk⟩ hcl hc1 hb ho hA⟩
theorem zt{G:Bh}(h:EI w G S)(hi:Inv B S)(hB:B<=1073741824)(hok:ED.ok S.files.length S.seen (.remove d n))(Kk:k∈G.K)(hk:w.cell? ⟨k,0,AB⟩=AA (.string d))(Kj:j∈G.K)(hj:w.cell? ⟨j,0,AB⟩=AA (.string n)):
  A7 Af 71 #[.pointer (AA ⟨G.b,0,AB⟩),.func (.func 129) #[] #[.pointer (AA ⟨k,0,AB⟩),.pointer (AA ⟨j,0,AB⟩)]] w λe w'=>e=.returned (.int .i64 0)/\DJ w G (S.make (.remove d n)) w':=by
 (have n1:S.D6.length<=1073741824:=by have:=hi.zh;omega);(have n2:S.steps<=1073741824:=by have:=hi.st;omega);have hm: ∀(j:Nat) (P:List Nat),G.parts[j]? =AA P->j≠1->∀x∈P,x∉ET G.t1 G.g1:=λj P hj hne x hx=>h.lay.ne hj (j:=1) rfl hne x hx;refine (bI 129 #[_,_] @AQH G.b G.t1 (AA G.t2) G.A G.Aw S.D6.length G.c S.wr.length G.cw S.BI S.stop S.steps G.vs w (λw'=>SQ w G.t1 G.g1 G.ib (ED.on S.seen (.remove d n)) w') (ET G.t1 G.g1) ((pF h.FU h.Le hi.val hok hk hj).mono (λe w' hq=>⟨hq.1,hq.2,hq.2.2⟩)) h.blk h.own (hm 0 _ rfl Ar _ AV) (hm 3 _ rfl Ar) n1 n2).mono ?_;rintro e w' ⟨rfl,w1,hcl,hc0,hc1,A',c',hb,ho,hA⟩;exact⟨rfl,h.did ⟨k,j,rfl,Kk,Kj,hk,hj⟩ hcl hc1 hb ho hA⟩
theorem zu{G:Bh}(h:EI w G S)(hi:Inv B S)(hB:B<=1073741824){a b:ByteArray}(hok:ED.ok S.files.length S.seen (.rename a b))(Kk:k∈G.K)(hk:w.cell? ⟨k,0,AB⟩=AA (.string a))(Kj:j∈G.K)(hj:w.cell? ⟨j,0,AB⟩=AA (.string b)):
  A7 Af 71 #[.pointer (AA ⟨G.b,0,AB⟩),.func (.func 85) #[] #[.pointer (AA ⟨k,0,AB⟩),.pointer (AA ⟨j,0,AB⟩)]] w λe w'=>e=.returned (.int .i64 0)/\DJ w G (S.make (.rename a b)) w':=by
 (have n1:S.D6.length<=1073741824:=by have:=hi.zh;omega);(have n2:S.steps<=1073741824:=by have:=hi.st;omega);have hm: ∀(j:Nat) (P:List Nat),G.parts[j]? =AA P->j≠1->∀x∈P,x∉ET G.t1 G.g1:=λj P hj hne x hx=>h.lay.ne hj (j:=1) rfl hne x hx;refine (bI 85 #[_,_] @ASm G.b G.t1 (AA G.t2) G.A G.Aw S.D6.length G.c S.wr.length G.cw S.BI S.stop S.steps G.vs w (λw'=>SQ w G.t1 G.g1 G.ib (ED.on S.seen (.rename a b)) w') (ET G.t1 G.g1) ((pG h.FU h.Le hok hk hj (λe=>hm 5 _ rfl Ar k Kk (by simp[ET,e])) (λe=>hm 5 _ rfl Ar j Kj (by simp[ET,e]))).mono (λe w' hq=>⟨hq.1,hq.2,hq.2.2⟩)) h.blk h.own (hm 0 _ rfl Ar _ AV) (hm 3 _ rfl Ar) n1 n2).mono ?_;rintro e w' ⟨rfl,w1,hcl,hc0,hc1,A',c',hb,ho,hA⟩;exact⟨rfl,h.did ⟨k,j,rfl,Kk,Kj,hk,hj⟩ hcl hc1 hb ho hA⟩
theorem zx{G:Bh}(h:EI w G S)(hi:Inv B S)(hB:B<=1073741824){i:Nat}(hok:ED.ok S.files.length S.seen (.create d n i))(Kx:x∈G.K)(hx:w.cell? ⟨x,0,AB⟩=AA (.pointer (AA ⟨EE G.ib i,0,AB⟩)))(Kk:k∈G.K)(hk:w.cell? ⟨k,0,AB⟩=AA (.string d))(Kj:j∈G.K)(hj:w.cell? ⟨j,0,AB⟩=AA (.string n)):
  A7 Af 71 #[.pointer (AA ⟨G.b,0,AB⟩),.func (.func 73) #[] #[.pointer (AA ⟨x,0,AB⟩),.pointer (AA ⟨k,0,AB⟩),.pointer (AA ⟨j,0,AB⟩)]] w λe w'=>e=.returned (.int .i64 0)/\DJ w G (S.make (.create d n i)) w':=by
 (have n1:S.D6.length<=1073741824:=by have:=hi.zh;omega);(have n2:S.steps<=1073741824:=by have:=hi.st;omega);have hm: ∀(j:Nat) (P:List Nat),G.parts[j]? =AA P->j≠1->∀x∈P,x∉ET G.t1 G.g1:=λj P hj hne x hx=>h.lay.ne hj (j:=1) rfl hne x hx;refine (bI 73 #[_,_,_] @ASj G.b G.t1 (AA G.t2) G.A G.Aw S.D6.length G.c S.wr.length G.cw S.BI S.stop S.steps G.vs w (λw'=>SQ w G.t1 G.g1 G.ib (ED.on S.seen (.create d n i)) w') (ET G.t1 G.g1) ((o9 h.FU h.Le hi.val hok hx hk hj).mono (λe w' hq=>⟨hq.1,hq.2,hq.2.2⟩)) h.blk h.own (hm 0 _ rfl Ar _ AV) (hm 3 _ rfl Ar) n1 n2).mono ?_;rintro e w' ⟨rfl,w1,hcl,hc0,hc1,A',c',hb,ho,hA⟩;exact⟨rfl,h.did ⟨x,k,j,rfl,Kx,Kk,Kj,hx,hk,hj,by rw[h.Qe];exact hok.1⟩ hcl hc1 hb ho hA⟩
theorem Hq{there:Bool}{ns:List ByteArray}(h:S.ask there ns=0):S.down=false/\(∀n∈ns,CS n=true)/\(there=true->∃F,BH S.seen (ns.headD Lu)=AA F):=by
 unfold St.ask at h
 cases hd:S.down with
 |true=>rw[BZ hd] at h;cases h|false=>
  rw[BM (by simp[hd])] at h
  cases hg:ns.all CS with
  |false=>rw[BZ hg] at h;cases h|true=>
   rw[BM (by simp[hg])] at h;refine⟨rfl,λn hn=>JC.1 hg n hn,λht=>?_⟩
   cases hs:BH S.seen (ns.headD Lu) with|some F=>exact⟨F,rfl⟩|none=>rw[BZ ⟨ht,by rw[hs];rfl⟩] at h;cases h
theorem AHD{G:Bh}(h:EI w G S)(hi:Inv B S)(hB:B<=1073741824)(d:ByteArray):
  A7 Af 42 #[.pointer (AA ⟨G.b,0,AB⟩),.string d] w λe w'=>e=.returned (.int .i64 (S.CX d).2)/\DJ w G (S.CX d).1 w':=by
 have HF:=AQ h;have HI:=AQ hi;have HB:=AQ hB;clear h hi hB;have k70:= @iY;have k71:= @ABp;go_enter AMp,Tryz.ntmps42;(go_wp2_with fail);have hal:AZ [] w ((w.alloc (.cells #[.string d] 9)).alloc (.cells #[.string d] 9)):=((AZ.refl _ _).alloc _).alloc _;refine (Va (HF.out.CE hal) false _ 1 1 [d] (by simpa[PN] using (Own.lit (w.alloc (.cells #[.string d] 9)) 9 1 #[.string d] 1 Ar rfl).rd) Ar AV).mono ?_;rintro e w1 ⟨rfl,hc1⟩;have DI:Hid (AZ [] w w1):=AQ (hal.Ap hc1);have hk:w1.cell? ⟨w.heap.size,0,AB⟩=AA (.string d):=hc1.cell (((Bl.new w 9 #[.string d]).alloc _).cell 0) (λh=>BC h);(have hs1:w.heap.size<w1.heap.size:=by have:=hc1.size;simp at this;omega);have GR:=AQ (HF.out.vY DI.out (Ba _) hs1);clear hc1 hal hs1;obtain⟨E,hE⟩: ∃E,S.ask false [d]=E:=⟨_,rfl⟩;rw[hE];have HE:=AQ hE;clear hE;by_cases h:E=0
 ·subst h;have h0:=GR.out.blk.cell 0;simp at h0;have hl:=λq=>(Mp.lookup (GR.out.FU.top.Ak ((AZ.refl [] w1).drewN q) BC) (Cj KZ) Iy (z:=.map AB) Aq d).1;have hq:=λw r=>run_neq_map_nil (P:=Af) w 130 _ _ r PH;simp only[Eo] at hl
  cases hd:BH G.g1 d with
  |some e=>
   rw[hd] at hl;simp only[FY,Dt] at hl
   have HR:Hid (S.CX d=(S,83)):=AQ (by
    have:=HF.out.Le.top d;rw[hd] at this;unfold St.CX
    rw[BM (by rw[HE.out];simp),BZ (by rw[<- this];rfl)])
   clear hd;(go_wp2_with fail);go_quiet (fail);go_wp2;go_ret;exact⟨by rw[HR.out];rfl,by rw[HR.out];exact DJ.same HF.out (DI.out.drewN _)⟩
  |none=>
   rw[hd] at hl;simp only[Xy,Option.getD_none] at hl
   have hT:BH S.seen d=AB:=by
    have:=HF.out.Le.top d;rw[hd] at this
    cases hs:BH S.seen d with|none=>rfl|some F=>rw[hs] at this;cases this
   have HR:Hid (S.CX d=(S.make (.CX d),0)):=AQ (by
    unfold St.CX
    rw[BM (by rw[HE.out];simp),BM (by rw[hT];simp)])
   have HT:=AQ hT;clear hd hT;(go_wp2_with fail);go_quiet (fail);(go_wp2_with fail);refine (ACA (GR.out.CE ((AZ.refl [] w1).drewN _)) HI.out HB.out ⟨(Hq HE.out).2.1 d AV,HT.out⟩ (k:=w.heap.size) AV (((AZ.refl [] w1).drewN _).cell hk BC)).mono ?_;rintro e w2 ⟨rfl,hto⟩;have zy:=AQ hto;clear hto;go_wp2;go_ret;exact⟨by rw[HR.out];rfl,by rw[HR.out];exact zy.out.of (DI.out.drewN _) rfl (Bh.Uy (Ba _))⟩
 (have hb:(E !=0)=true:=by simp[h]);have HR:Hid (S.CX d=(S,E)):=AQ (by unfold St.CX;rw[HE.out,BZ h]);clear h;go_wp2;go_ret;exact⟨by rw[HR.out];rfl,by rw[HR.out];exact DJ.same HF.out DI.out⟩
theorem EI.AEb{w1:AL}{G:Bh}(h:EI w G S)(hc:AZ [] w w1)(hx1:w.heap.size+1<w1.heap.size):EI w1 {G with K:=(w.heap.size+1)::w.heap.size::G.K} S:=by
 have hc0:AZ [] w (w.alloc (.map #[] 0)):=(AZ.refl _ _).alloc _;have h1:=h.vY (x:=w.heap.size) hc0 (Ba _) AV;have h2:=h.vY (x:=w.heap.size) hc (Ba _) Ad;refine⟨h2.blk,h2.FU,h2.Le,h2.tr2,h2.is2,h2.own,λi c v a b=>(h2.chn i c v a b).keep (AZ.refl [] w1) Ej (λ_ hm=>CO _ hm) (λ_ _=>rfl) (Ba _),h2.fM,h2.Qe,h2.WR,h2.RI,h2.Zc,λy hy=>CO _ (h2.WT y hy),h2.ino,?_⟩
 exact h1.lay.FK (w':=w1) (i:=5) (P':=(w.heap.size+1)::w.heap.size::G.K) rfl (λy hy=>by
  rcases BB.1 hy with rfl|hy;right;simp
  ·exact .inl hy) (λy hy=>by
  rcases BB.1 hy with rfl|hy;exact hx1
  exact h2.lay.lt (w.heap.size::G.K) (Bq (i:=5) rfl) y hy) (by simp;omega)
theorem Bh.Zd{G:Bh}{y:Nat}(hx:B<=x)(hy:B<=y): ∀z∈Bh.all {G with K:=y::x::G.K},z∈G.all\/B<=z:=by
 intro z hz;rcases Bh.Uy (G:={G with K:=x::G.K}) hy z hz with h|h;exact Bh.Uy hx z h;exact .inr h
theorem Mp.len{κ:Type}{b:Nat}{kv:κ->AP}{m:List (κ×AP)}(h:Mp w b kv m){t k e ty:Aj}(ht:Af.underlying t=AA (.map k e)):(UZ #[t] ty #[.map (AA b)]).run Af w=.ok (.int .i64 (m.length:Int)) w:=by
 obtain⟨es,clock,hb,he,_⟩:=h;(have hl:es.size=m.length:=by have:=congrArg KX he;simpa using this);(have hrun:(getObj b).run Af w=.ok (.map es clock) w:=by simp[getObj,Sem.run,hb]);simp[UZ,run_underlying ht,hrun,hl,goInt]
theorem AHE{G:Bh}(h:EI w G S)(hi:Inv B S)(hB:B<=1073741824)(d:ByteArray):
  A7 Af 99 #[.pointer (AA ⟨G.b,0,AB⟩),.string d] w λe w'=>e=.returned (.int .i64 (S.rmdir d).2)/\DJ w G (S.rmdir d).1 w':=by
 have HF:=AQ h;have HI:=AQ hi;have HB:=AQ hB;clear h hi hB;have k70:= @iY;have k71:= @ABp;go_enter ANR,Tryz.ntmps99;(go_wp2_with fail);have hal:AZ [] w ((w.alloc (.cells #[.string d] 9)).alloc (.cells #[.string d] 9)):=((AZ.refl _ _).alloc _).alloc _;refine (Va (HF.out.CE hal) true _ 1 1 [d] (by simpa[PN] using (Own.lit (w.alloc (.cells #[.string d] 9)) 9 1 #[.string d] 1 Ar rfl).rd) Ar AV).mono ?_;rintro e w1 ⟨rfl,hc1⟩;have DI:Hid (AZ [] w w1):=AQ (hal.Ap hc1);have hk:w1.cell? ⟨w.heap.size,0,AB⟩=AA (.string d):=hc1.cell (((Bl.new w 9 #[.string d]).alloc _).cell 0) (λh=>BC h);(have hs1:w.heap.size<w1.heap.size:=by have:=hc1.size;simp at this;omega);have GR:=AQ (HF.out.vY DI.out (Ba _) hs1);clear hc1 hal hs1;obtain⟨E,hE⟩: ∃E,S.ask true [d]=E:=⟨_,rfl⟩;rw[hE];have HE:=AQ hE;clear hE;by_cases h:E=0
 ·subst h;obtain⟨F,hF⟩:=(Hq HE.out).2.2 rfl;simp only[RS] at hF;obtain⟨g,hg,hsub⟩:=HF.out.Le.get hF;have h0:=GR.out.blk.cell 0;simp at h0;have hl:=λq=>(Mp.lookup (GR.out.FU.top.Ak ((AZ.refl [] w1).drewN q) BC) (Cj KZ) Iy (z:=.map AB) Aq d).1;rw[show G.g1=({G with K:=w.heap.size::G.K}:Bh).g1 from rfl] at hg;have hlen:=λq ty=>Mp.len ((GR.out.FU.sub _ (CJ hg)).Ak ((AZ.refl [] w1).drewN q) BC) (ty:=ty) PH;simp only[Eo,hg] at hl;simp only[FY,Dt] at hl
  have hfl:(Ip g.2).length=F.length:=by
   have:=(fK hsub (GR.out.FU.Ri (CJ hg)) (HI.out.val.sub _ (CJ hF))).length_eq;simpa[Ip] using this
  simp only[hfl] at hlen;have WU:=AQ hF;clear hg hsub hfl hF;by_cases hz:0<F.length
  ·have hz1: ¬F.length=0:=by omega
   have HR:Hid (S.rmdir d=(S,84)):=AQ (by
    unfold St.rmdir;rw[BM (by rw[HE.out];simp),BZ (by rw[Ez WU.out];exact hz)]
    rfl)
   (go_wp2_with fail);go_quiet (fail);go_wp2;go_ret;exact⟨by rw[HR.out];rfl,by rw[HR.out];exact DJ.same HF.out (DI.out.drewN _)⟩
  (have hz0:F.length=0:=by omega);rw[hz0] at hlen
  have HR:Hid (S.rmdir d=(S.make (.rmdir d),0)):=AQ (by
   unfold St.rmdir
   rw[BM (by rw[HE.out];simp),BM (by rw[Ez WU.out];exact hz)])
  clear hz hz0;(go_wp2_with fail);go_quiet (fail);(go_wp2_with fail);refine (ACB (GR.out.CE ((AZ.refl [] w1).drewN _)) HI.out HB.out ⟨F,WU.out⟩ (k:=w.heap.size) AV (((AZ.refl [] w1).drewN _).cell hk BC)).mono ?_;rintro e w2 ⟨rfl,hto⟩;have zy:=AQ hto;clear hto;go_wp2;go_ret;exact⟨by rw[HR.out];rfl,by rw[HR.out];exact zy.out.of (DI.out.drewN _) rfl (Bh.Uy (Ba _))⟩
 (have hb:(E !=0)=true:=by simp[h]);have HR:Hid (S.rmdir d=(S,E)):=AQ (by unfold St.rmdir;rw[HE.out,BZ h]);clear h;go_wp2;go_ret;exact⟨by rw[HR.out];rfl,by rw[HR.out];exact DJ.same HF.out DI.out⟩
theorem AEc{G:Bh}(h:EI w G S)(hi:Inv B S)(hB:B<=1073741824)(d n:ByteArray):
  A7 Af 52 #[.pointer (AA ⟨G.b,0,AB⟩),.string d,.string n] w λe w'=>e=.returned (.int .i64 (S.rename d n).2)/\DJ w G (S.rename d n).1 w':=by
 have HF:=AQ h;have HI:=AQ hi;have HB:=AQ hB;clear h hi hB;have k70:= @iY;have k71:= @ABp;go_enter AMx,Tryz.ntmps52;(go_wp2_with fail);have hal:AZ [] w (((w.alloc (.cells #[.string d] 9)).alloc (.cells #[.string n] 9)).alloc (.cells #[.string d,.string n] 9)):=(((AZ.refl _ _).alloc _).alloc _).alloc _;(have hsz:((w.alloc (.cells #[.string d] 9)).alloc (.cells #[.string n] 9)).heap.size=w.heap.size+2:=by simp);refine (Va (HF.out.CE hal) true _ 2 2 [d,n] (by simpa[PN] using (Own.lit ((w.alloc (.cells #[.string d] 9)).alloc (.cells #[.string n] 9)) 9 1 #[.string d,.string n] 2 Ar rfl).rd) Ar AV).mono ?_;rintro e w1 ⟨rfl,hc1⟩;have DI:Hid (AZ [] w w1):=AQ (hal.Ap hc1);have hk:w1.cell? ⟨w.heap.size,0,AB⟩=AA (.string d):=hc1.cell ((((Bl.new w 9 #[.string d]).alloc _).alloc _).cell 0) (λh=>BC h);have hj:w1.cell? ⟨w.heap.size+1,0,AB⟩=AA (.string n):=hc1.cell (by simpa using (((Bl.new (w.alloc (.cells #[.string d] 9)) 9 #[.string n]).alloc _).cell 0)) (λh=>BC h);(have hs1:w.heap.size+1<w1.heap.size:=by have:=hc1.size;simp at this;omega);have GR:=AQ ((HF.out.vY DI.out (Ba w.heap.size) Ad));have AFx:Hid (w.heap.size+1<w1.heap.size):=AQ hs1;clear hc1 hal hs1 hsz;obtain⟨E,hE⟩: ∃E,S.ask true [d,n]=E:=⟨_,rfl⟩;rw[hE];have HE:=AQ hE;clear hE;by_cases h:E=0
 ·subst h;obtain⟨F,hF⟩:=(Hq HE.out).2.2 rfl;simp only[RS] at hF;have WU:=AQ hF
  have HR:Hid (S.rename d n=(S.make (.rename d n),0)):=AQ (by
   unfold St.rename
   rw[BM (by rw[HE.out];simp)])
  clear hF;(go_wp2_with fail);refine (zu (HF.out.AEb DI.out AFx.out) HI.out HB.out ⟨(Hq HE.out).2.1 n AV,F,WU.out⟩ (k:=w.heap.size) (j:=w.heap.size+1) AV hk AV hj).mono ?_;rintro e w2 ⟨rfl,hto⟩;have zy:=AQ hto;clear hto;go_wp2;go_ret;exact⟨by rw[HR.out];rfl,by rw[HR.out];exact zy.out.of DI.out rfl (Bh.Zd (Ba _) Ad)⟩
 (have hb:(E !=0)=true:=by simp[h]);have HR:Hid (S.rename d n=(S,E)):=AQ (by unfold St.rename;rw[HE.out,BZ h]);clear h;go_wp2;go_ret;exact⟨by rw[HR.out];rfl,by rw[HR.out];exact DJ.same HF.out DI.out⟩
theorem Uz(h:S.Oa d n=(AA x,e)):e=0/\S.down=false/\∃F,BH S.seen d=AA F/\BH F n=AA x:=by
 unfold St.Oa at h;by_cases h0:S.ask true [d,n]=0
 ·rw[BM (by simp[h0])] at h;obtain⟨hd,_,hF⟩:=Hq h0;obtain⟨F,hF⟩:=hF rfl;simp only[RS] at hF;rw[Ez hF] at h
  cases hn:BH F n with|none=>rw[hn] at h;cases h|some i=>rw[hn] at h;injection h with h1 h2;injection h1 with h1;subst h1;exact⟨h2.symm,hd,F,hF,hn⟩
 rw[BZ h0] at h;cases h
theorem pK(h:S.Oa d n=(AB,e)):e≠0:=by
 unfold St.Oa at h;by_cases h0:S.ask true [d,n]=0
 ·rw[BM (by simp[h0])] at h
  cases hn:BH (Ey S.seen d) n with
  |none=>rw[hn] at h;injection h with _ h2;rw[<- h2];decide
  |some i=>rw[hn] at h;cases h
 rw[BZ h0] at h;injection h with _ h2;rw[<- h2];exact h0
theorem AEd{G:Bh}(h:EI w G S)(hi:Inv B S)(hB:B<=1073741824)(d n:ByteArray):
  A7 Af 98 #[.pointer (AA ⟨G.b,0,AB⟩),.string d,.string n] w λe w'=>e=.returned (.int .i64 (S.remove d n).2)/\DJ w G (S.remove d n).1 w':=by
 have HF:=AQ h;have HI:=AQ hi;have HB:=AQ hB;clear h hi hB;have k71:= @ABp;have k81:= @AJk;go_enter ANQ,Tryz.ntmps98;(go_wp2_with fail);have hal:AZ [] w ((w.alloc (.cells #[.string d] 9)).alloc (.cells #[.string n] 9)):=((AZ.refl _ _).alloc _).alloc _;refine (pJ (HF.out.CE hal) d n).mono ?_;rintro e w1 ⟨rfl,hc1⟩;have DI:Hid (AZ [] w w1):=AQ (hal.Ap hc1);have hk:w1.cell? ⟨w.heap.size,0,AB⟩=AA (.string d):=hc1.cell (((Bl.new w 9 #[.string d]).alloc _).cell 0) (λh=>BC h);have hj:w1.cell? ⟨w.heap.size+1,0,AB⟩=AA (.string n):=hc1.cell AV (λh=>BC h);(have hs1:w.heap.size+1<w1.heap.size:=by have:=hc1.size;simp at this;omega);have AFx:Hid (w.heap.size+1<w1.heap.size):=AQ hs1;clear hc1 hal hs1;obtain⟨o,E,hE⟩: ∃o E,S.Oa d n=(o,E):=⟨_,_,rfl⟩;rw[hE];have HE:=AQ hE
 cases o with
 |some x=>
  obtain⟨he0,hd0,F,hF,hx⟩:=Uz hE;subst he0;have WU:=AQ hF;have HR:Hid (S.remove d n=(S.make (.remove d n),0)):=AQ (by unfold St.remove;rw[HE.out]);clear hF hE hx hd0;simp only[XZ,FY];(go_wp2_with fail);refine (zt (HF.out.AEb DI.out AFx.out) HI.out HB.out ⟨F,WU.out⟩ (k:=w.heap.size) (j:=w.heap.size+1) AV hk AV hj).mono ?_;rintro e w2 ⟨rfl,hto⟩;have zy:=AQ hto;clear hto;go_wp2;go_ret;exact⟨by rw[HR.out];rfl,by rw[HR.out];exact zy.out.of DI.out rfl (Bh.Zd (Ba _) Ad)⟩
 |none=>
  (have hb:(E !=0)=true:=by simpa using pK hE);have HR:Hid (S.remove d n=(S,E)):=AQ (by unfold St.remove;rw[HE.out]);clear hE;simp only[XZ,Xy];go_wp2;go_ret;exact⟨by rw[HR.out];rfl,by rw[HR.out];exact DJ.same HF.out DI.out⟩
theorem jk(fs:List EX)(f:EX):Ic (fs++[f])=Ic fs+(f.all.length+f.2.length):=by
 simp[Ic]
theorem Inv.bK(h:Inv B S)(f:List Int):Inv (B+f.length+1) {S with files:=S.files++[(f,[])]}:=by
 obtain⟨h1,h2,h3,h4,h5,h6,h7,h8,h9,h10⟩:=h;refine⟨h1.mono AV,AHC h2 AV,h3,λx hx=>by have:=h4 x hx;simp;omega,by simp only;omega,by simp;omega,?_,by simp only;omega,by simp only;omega,h10⟩;simp only[jk,EX.all,List.flatten_nil,LM,List.length_nil];omega
theorem AEe{G:Bh}(h:EI w G S)(hi:Inv B S)(hB:B+1<=1073741824)(d n:ByteArray):
  A7 Af 44 #[.pointer (AA ⟨G.b,0,AB⟩),.string d,.string n] w λe w'=>e=.returned (.int .i64 (S.create d n).2)/\DJ w G (S.create d n).1 w':=by
 have HF:=AQ h;have HI:=AQ hi;have HB:=AQ hB;clear h hi hB;have k59:= @ANe;have k70:= @iY;have k71:= @ABp;go_enter AMr,Tryz.ntmps44;(go_wp2_with fail);have hal:AZ [] w (((w.alloc (.cells #[.string d] 9)).alloc (.cells #[.string n] 9)).alloc (.cells #[.string d,.string n] 9)):=(((AZ.refl _ _).alloc _).alloc _).alloc _;(have hsz:((w.alloc (.cells #[.string d] 9)).alloc (.cells #[.string n] 9)).heap.size=w.heap.size+2:=by simp);refine (Va (HF.out.CE hal) true _ 2 2 [d,n] (by simpa[PN] using (Own.lit ((w.alloc (.cells #[.string d] 9)).alloc (.cells #[.string n] 9)) 9 1 #[.string d,.string n] 2 Ar rfl).rd) Ar AV).mono ?_;rintro e w1 ⟨rfl,hc1⟩;have DI:Hid (AZ [] w w1):=AQ (hal.Ap hc1);have hk:w1.cell? ⟨w.heap.size,0,AB⟩=AA (.string d):=hc1.cell ((((Bl.new w 9 #[.string d]).alloc _).alloc _).cell 0) (λh=>BC h);have hj:w1.cell? ⟨w.heap.size+1,0,AB⟩=AA (.string n):=hc1.cell (by simpa using (((Bl.new (w.alloc (.cells #[.string d] 9)) 9 #[.string n]).alloc _).cell 0)) (λh=>BC h);(have hs1:w.heap.size+1<w1.heap.size:=by have:=hc1.size;simp at this;omega);have AFx:Hid (w.heap.size+1<w1.heap.size):=AQ hs1;have GR:=AQ (HF.out.AEb DI.out hs1);clear hc1 hal hs1 hsz;obtain⟨E,hE⟩: ∃E,S.ask true [d,n]=E:=⟨_,rfl⟩;rw[hE];have HE:=AQ hE;clear hE;by_cases h:E=0
 ·subst h;obtain⟨F,hF⟩:=(Hq HE.out).2.2 rfl;simp only[RS] at hF;obtain⟨g,hg,hsub⟩:=HF.out.Le.get hF;have h0:=GR.out.blk.cell 0;simp at h0;have hl:=λq=>(Mp.lookup (GR.out.FU.top.Ak ((AZ.refl [] w1).drewN q) BC) (Cj KZ) Iy (z:=.map AB) Aq d).1;rw[show G.g1=({G with K:=(w.heap.size+1)::w.heap.size::G.K}:Bh).g1 from rfl] at hg;have hl2:=λq=>(Mp.lookup ((GR.out.FU.sub _ (CJ hg)).Ak ((AZ.refl [] w1).drewN q) BC) (Cj KZ) PH (z:=.pointer AB) Aq n).1;simp only[Eo,hg] at hl;simp only[FY,Dt] at hl;simp only at hl2;simp only[VX,hsub n] at hl2;have WU:=AQ hF;clear hg hsub hF
  cases hx:BH F n with
  |some x=>
   rw[hx] at hl2;simp only[FY,Dt] at hl2
   have HR:Hid (S.create d n=(S,83)):=AQ (by
    unfold St.create
    rw[BM (by rw[HE.out];simp),BZ (by rw[Ez WU.out,hx];rfl)])
   clear hx;(go_wp2_with fail);go_quiet (fail);go_wp2;go_ret;exact⟨by rw[HR.out];rfl,by rw[HR.out];exact DJ.same HF.out (DI.out.drewN _)⟩
  |none=>
   rw[hx] at hl2;simp only[Xy,Option.getD_none] at hl2
   have HR:Hid (S.create d n=(({S with files:=S.files++[([],[])]}:St).make (.create d n S.files.length),0)):=AQ (by
    unfold St.create
    rw[BM (by rw[HE.out];simp),BM (by rw[Ez WU.out,hx];simp)])
   have HX:=AQ hx;clear hx;(go_wp2_with fail);go_quiet (fail);(go_wp2_with fail);refine (new_any AB 0 0 [] _ Ar (Rd.nil _ _)).mono ?_;rintro e w2 ⟨sg,L,rfl,hs,hc2,hLn⟩;have HC2:Hid (AZ [] w1 w2):=AQ (((AZ.refl [] w1).drewN _).Ap hc2);have HS:=AQ hs;have HLN:Hid (∀k∈L,w1.heap.size<=k):=AQ hLn;have hk2:=HC2.out.cell hk BC;have hj2:=HC2.out.cell hj BC;clear hs hc2 hLn hk hj h0 hl hl2;(go_wp2_with fail);have hF2:=GR.out.bK HI.out HC2.out HLN.out HS.out (w2:=w2.alloc (.cells #[.pointer (AA ⟨sg,0,AB⟩)] 126)) ((AZ.refl [] w2).alloc _) (x:=w2.heap.size) (Ba _) (Bl.new w2 126 #[.pointer (AA ⟨sg,0,AB⟩)]);have hF3:=hF2.vY (w1:=(w2.alloc (.cells #[.pointer (AA ⟨sg,0,AB⟩)] 126)).alloc (.cells #[.pointer (AA ⟨w2.heap.size,0,AB⟩)] 121)) ((AZ.refl [] _).alloc _) (x:=w2.heap.size+1) AV AV;have hc4:AZ [] w2 ((w2.alloc (.cells #[.pointer (AA ⟨sg,0,AB⟩)] 126)).alloc (.cells #[.pointer (AA ⟨w2.heap.size,0,AB⟩)] 121)):=((AZ.refl [] w2).alloc _).alloc _
   have hx4:((w2.alloc (.cells #[.pointer (AA ⟨sg,0,AB⟩)] 126)).alloc (.cells #[.pointer (AA ⟨w2.heap.size,0,AB⟩)] 121)).cell? ⟨w2.heap.size+1,0,AB⟩=AA (.pointer (AA ⟨w2.heap.size,0,AB⟩)):=by
    simp
   (have hib:EE (G.ib++[w2.heap.size]) S.files.length=w2.heap.size:=by rw[<- HF.out.Qe];exact AB9 _ _);have hin:=HI.out.bK [];refine (zx hF3 hin (by simpa using HB.out) (i:=S.files.length) ⟨AV,(Hq HE.out).2.1 n AV,F,WU.out,HX.out⟩ (x:=w2.heap.size+1) (k:=w.heap.size) (j:=w.heap.size+1) AV (by show _=AA (P9 (AA ⟨EE (G.ib++[w2.heap.size]) S.files.length,0,AB⟩));rw[hib];exact hx4) AV (hc4.cell hk2 BC) AV (hc4.cell hj2 BC)).mono ?_;rintro e w5 ⟨rfl,hto⟩;have zy:=AQ hto;have hsz2:=HC2.out.size;have hsz1:=DI.out.size
   have MF:Hid (∀y∈Bh.all {b:=G.b,t1:=G.t1,t2:=G.t2,g1:=G.g1,g2:=G.g2,A:=G.A,c:=G.c,vs:=G.vs,Aw:=G.Aw,cw:=G.cw,K:=(w2.heap.size+1)::w2.heap.size::(w.heap.size+1)::w.heap.size::G.K,ib:=G.ib++[w2.heap.size],sg:=G.sg++[sg],Ls:=G.Ls++[L]},y∈G.all\/w.heap.size<=y):=AQ (λy hy=>by
    rcases Bh.Uy (B:=w.heap.size) (G:={G with K:=w2.heap.size::(w.heap.size+1)::w.heap.size::G.K,ib:=G.ib++[w2.heap.size],sg:=G.sg++[sg],Ls:=G.Ls++[L]}) (x:=w2.heap.size+1) Ad y hy with h1|h1
    ·rcases Bh.zq (B:=w.heap.size) (G:={G with K:=(w.heap.size+1)::w.heap.size::G.K}) (x:=w2.heap.size) (L:=L) (g:=sg) Ad (λk hk=>by have:=HLN.out k hk;omega) y h1 with h2|h2;exact Bh.Zd (Ba _) Ad y h2;exact .inr h2
    exact .inr h1)
   have HCC:Hid (AZ [] w ((w2.alloc (.cells #[.pointer (AA ⟨sg,0,AB⟩)] 126)).alloc (.cells #[.pointer (AA ⟨w2.heap.size,0,AB⟩)] 121))):=AQ ((DI.out.Ap HC2.out).Ap hc4);clear hto hF2 hF3 hc4 hx4 hib hin hk2 hj2 hsz2 hsz1;go_wp2;go_ret;exact⟨by rw[HR.out];rfl,by rw[HR.out];exact zy.out.of HCC.out rfl MF.out⟩
 (have hb:(E !=0)=true:=by simp[h]);have HR:Hid (S.create d n=(S,E)):=AQ (by unfold St.create;rw[HE.out,BZ h]);clear h;go_wp2;go_ret;exact⟨by rw[HR.out];rfl,by rw[HR.out];exact DJ.same HF.out DI.out⟩
end
open Go.ChangeMaps Go.MapKept
section
variable {g g':MX}{B i:Nat}{S:St}{α:Type}{e k:Aj}{w:AL}
def Jd {κ:Type} (w:AL) (b r:Nat) (kv:κ->AP) (m todo:List (κ×AP)):Prop:=
 ∃es clock since seen c0,w.heap[b]? =AA (.map es clock)/\es.toList.map (λe=>(e.key,e.val))=m.map (λp=>(kv p.1,p.2))/\(m.map Aa).Nodup/\(es.toList.map (·.born)).Nodup/\(∀e∈es.toList,e.born<clock)/\
  w.heap[r]? =AA (.mapIter (AA b) since seen c0)/\(∀x∈es.toList,x.born<since)/\since<=c0/\since<=clock/\(leftOf es seen).toList.map (λe=>(e.key,e.val))=todo.map (λp=>(kv p.1,p.2))
theorem ACC{l:List α}{p:α}(h:l[i]? =AA p):l.Perm (p::l.eraseIdx i):=by
 induction l generalizing i with
 |nil=>simp at h|cons x l ih=>
  cases i with
  |zero=>simp at h;subst h;exact OA _|succ i=>
   simp at h;rw[List.eraseIdx_cons_succ];exact ((ih h).cons x).trans (List.Perm.swap _ _ _)
theorem AAA{l:List MapEntry}{e:MapEntry}(hnb:(l.map (·.born)).Nodup)(hi:l[i]? =AA e):l.filter (λx=>x.born !=e.born)=l.eraseIdx i:=by
 induction l generalizing i with
 |nil=>simp at hi|cons x l ih=>
  rw[BK,Ii] at hnb
  cases i with
  |zero=>
   simp at hi;subst hi;rw[Wh];simp only[bne_self_eq_false,C9,if_false,List.eraseIdx_zero,List.tail_cons];rw[kF];intro y hy;simp only[bne_iff_ne,ne_eq];intro e2;exact hnb.1 (Bz.2 ⟨y,hy,e2⟩)
  |succ i=>
   simp at hi;rw[Wh]
   have hx:(x.born !=e.born)=true:=by
    simp only[bne_iff_ne,ne_eq];intro e2;exact hnb.1 (Bz.2 ⟨e,Bq hi,e2.symm⟩)
   rw[BZ hx,List.eraseIdx_cons_succ];congr 1;exact ih hnb.2 hi
section
variable {κ:Type} {w w':AL} {b r:Nat} {kv:κ->AP} {m todo:List (κ×AP)} {L:List Nat}
theorem Jd.mp(h:Jd w b r kv m todo):Mp w b kv m:=by
 obtain⟨es,clock,_,_,_,hb,he,hn,hs,hc,_⟩:=h;exact⟨es,clock,hb,he,hn,hs,hc⟩
theorem Jd.lt(h:Jd w b r kv m todo):r<w.heap.size:=by
 obtain⟨es,clock,_,_,_,hb,he,hn,hs,hc,hr,_⟩:=h;exact (Df.1 hr).1
theorem Jd.Ak(h:Jd w b r kv m todo)(hc:AZ L w w')(h1:b∉L)(h2:r∉L):Jd w' b r kv m todo:=by
 have hl:=h.lt;have hl2:=h.mp.lt;obtain⟨es,clock,since,seen,c0,hb,he,hn,hs,hcl,hr,rest⟩:=h;exact⟨es,clock,since,seen,c0,(hc.block b hl2 h1).trans hb,he,hn,hs,hcl,(hc.block r hl h2).trans hr,rest⟩
theorem Jd.left_eq(h:Jd w b r kv m todo):w.rangeLeft b r=todo.length:=by
 obtain⟨es,clock,since,seen,c0,hb,_,_,_,_,hr,_,_,_,hl⟩:=h;simp only[World.rangeLeft,hb,hr];have:=congrArg KX hl;simpa using this
theorem Jd.ne(h:Jd w b r kv m todo):r≠b:=by
 obtain⟨es,clock,since,seen,c0,hb,_,_,_,_,hr,_⟩:=h;intro e;rw[e,hb] at hr;cases hr
theorem Jd.start{P:Program}{t:Aj}(h:Mp w b kv m)(ht:P.underlying t=AA (.map k e)):
  ∃w',(Instr.range t (.map (AA b))).run P w=.ok (.pointer (AA ⟨w.heap.size,0,AB⟩)) w'/\Jd w' b w.heap.size kv m m/\AZ [] w w'/\w'.heap.size=w.heap.size+1:=by
 have hl:=h.lt;obtain⟨es,clock,hb,he,hn,hs,hc⟩:=h;refine⟨_,run_range_map w t k e b es clock ht hb,⟨es,clock,clock,#[],clock,((MapKept.heap_alloc w _).2 b hl).trans hb,he,hn,hs,hc,(MapKept.heap_alloc w _).1,hc,Ba _,Ba _,?_⟩,(AZ.refl _ _).alloc _,AV⟩;(have:leftOf es #[]=es:=by simp[leftOf]);rw[this,he]
theorem Jd.step{P:Program}(h:Jd w b r kv m todo)(ty:Aj):
  (todo=[]/\(Instr.next (.pointer (AA ⟨r,0,AB⟩)) false ty).run P w=.ok (.tuple #[.bool false]) w)\/
  ∃k v todo' w',(todo.Perm ((k,v)::todo'))/\(Instr.next (.pointer (AA ⟨r,0,AB⟩)) false ty).run P w=.ok (.tuple #[.bool true,kv k,v]) w'/\
   Jd w' b r kv m todo'/\AZ [r] w w'/\(Instr.entry (.pointer (AA ⟨r,0,AB⟩))).run P w'=.ok (.tuple #[kv k,v]) w':=by
 have hne:=h.ne;obtain⟨es,clock,since,seen,c0,hb,he,hn,hs,hc,hr,hold,hsc,hsk,hl⟩:=h;rcases run_next_at (P:=P) w ty r b since c0 seen es clock hr hb hold hsc with ⟨h0,hrun⟩|⟨e,ANq,w1,hal,hrun⟩
 ·left;refine⟨?_,hrun⟩;have:=congrArg KX hl;simp only[DZ,Array.length_toList] at this;exact TF Ad
 right;have hem:=mem_left ANq;obtain⟨i,hi⟩:=Qx ANq;have hil:i<(leftOf es seen).toList.length:=(DC.1 hi).1;have hlen:=congrArg KX hl;simp only[DZ] at hlen;obtain⟨p,hp⟩: ∃p,todo[i]? =AA p:=⟨_,CQ Ad⟩
 have hkv:(e.key,e.val)=(kv p.1,p.2):=by
  have:=congrArg (λl=>l[i]?) hl;simp only[Bg,hi,hp,FY] at this;exact EF this
 have hnb:((leftOf es seen).toList.map (·.born)).Nodup:=by
  unfold leftOf;rw[dO];exact hs.sublist (List.filter_sublist.map _)
 (have hr1:w1.heap[r]? =AA (.mapIter (AA b) since seen c0):=by rcases hal with rfl|rfl<;>exact hr);(have hb1:w1.heap[b]? =AA (.map es clock):=by rcases hal with rfl|rfl<;>exact hb);have hset:=heap_set (o':=.mapIter (AA b) since (seen.push e.born) clock) hr1;have hb':(setBlock w1 r (.mapIter (AA b) since (seen.push e.born) clock)).heap[b]? =AA (.map es clock):=(hset.2 b (λe1=>hne e1.symm)).trans hb1
 have hleft:(leftOf es (seen.push e.born)).toList=(leftOf es seen).toList.eraseIdx i:=by
  have e1:(leftOf es (seen.push e.born)).toList=(leftOf es seen).toList.filter (λx=>x.born !=e.born):=by
   unfold leftOf;rw[dO,dO,List.filter_filter];refine kJ λx _=>?_;rw[contains_push];cases seen.contains x.born<;>cases hxe:(x.born==e.born)<;>simp[bne,hxe]
  rw[e1];exact AAA hnb hi
 (have ATB:i<todo.length:=by omega);(have hpe:todo[i]=p:=by rw[CQ ATB] at hp;exact EF hp);injection hkv with hk1 hk2;refine⟨p.1,p.2,todo.eraseIdx i,_,?_,by rw[hrun,hk1,hk2],⟨es,clock,since,seen.push e.born,clock,hb',he,hn,hs,hc,hset.1,hold,hsk,hsk,?_⟩,?_,?_⟩;exact ACC hp;rw[hleft,<- SC,<- SC,hl]
 ·rcases hal with rfl|rfl<;>exact⟨rfl,rfl,rfl,by simp[setBlock],λi _ hi=>hset.2 i (λe1=>hi (by simp[e1]))⟩
 rw[<- hk1,<- hk2];exact run_entry_at _ r b since seen es clock e hset.1 hb' hem.1 hs
end
section
variable {P:Program} {κ:Type} {w:AL} {ops:Array Oper} {rest:List Oper} {o:Oper} {a:Act} {Q:Exit->Act->AL->Prop} {b r:Nat} {kv:κ->AP} {m todo:List (κ×AP)}
theorem PR(hg:o.guard=AB)(x:Operand)(t:Aj)(hop:o.op=Op.range t x)(ht:P.underlying t=AA (.map k e))(hx:a.eval x=.map (AA b))(h:Mp w b kv m)
  (hK: ∀w',Jd w' b w.heap.size kv m m->AZ [] w w'->w'.heap.size=w.heap.size+1->wpList P ops Q rest (a.put o.dst (.pointer (AA ⟨w.heap.size,0,AB⟩))) w'):wpList P ops Q (o::rest) a w:=by
 refine wpList_plain hg λK' hK'=>?_;obtain⟨w',hrun,r1,r2,r3⟩:=Jd.start (P:=P) h ht;unfold Oper.wp;simp[execOp,hop,hx,hrun,P8];exact hK' _ _ (hK w' r1 r2 r3)
theorem Qg(hg:o.guard=AB)(it:Operand)(hop:o.op=Op.next it false)(hit:a.eval it=.pointer (AA ⟨r,0,AB⟩))(h:Jd w b r kv m todo)
  (hDone:todo=[]->wpList P ops Q rest (a.put o.dst (.tuple #[.bool false])) w)
  (hMore: ∀(k:κ) (v:AP) (todo':List (κ×AP)) (w':AL),todo.Perm ((k,v)::todo')->Jd w' b r kv m todo'->AZ [r] w w'->
   (Instr.entry (.pointer (AA ⟨r,0,AB⟩))).run P w'=.ok (.tuple #[kv k,v]) w'->wpList P ops Q rest (a.put o.dst (.tuple #[.bool true,kv k,v])) w'):wpList P ops Q (o::rest) a w:=by
 refine wpList_plain hg λK' hK'=>?_;unfold Oper.wp;rcases h.step (P:=P) o.type with ⟨h0,hrun⟩|⟨k,v,todo',w',hp,hrun,ATC,hch,hen⟩
 ·simp[execOp,hop,hit,hrun,P8];exact hK' _ _ (hDone h0)
 simp[execOp,hop,hit,hrun,P8];exact hK' _ _ (hMore k v todo' w' hp ATC hch hen)
end
def AAB (g g':MX):Prop:=∀k,(BH g' k).map (·.2)=(BH g k).map (·.2)
theorem D7.copied{ib:List Nat}{T:Tr}(h:D7 ib g T)(hc:AAB g g'):D7 ib g' T:=by
 refine⟨λk=>?_,λk d F hd hF n=>?_⟩
 ·have:=congrArg Option.isSome (hc k);rw[xX,xX] at this;rw[this];exact h.top k
 have:=hc k;rw[hd] at this
 cases hg:BH g k with
 |none=>rw[hg] at this;cases this|some e=>
  rw[hg] at this;simp only[FY,DN] at this;rw[this];exact h.sub k e F hg hF n
theorem AEf(hn:(g.map Aa).Nodup)(_:(g'.map Aa).Nodup)(h1: ∀p∈g',∃q∈g,q.1=p.1/\q.2.2=p.2.2)(h2:(g'.map Aa).Perm (g.map Aa)):AAB g g':=by
 intro k
 cases hk:BH g' k with
 |none=>
  have:k∉g.map Aa:=λh=>(En.1 hk) (h2.mem_iff.2 h);rw[En.2 this]
 |some e=>
  obtain⟨q,hq,e1,e2⟩:=h1 _ (CJ hk);have:=RD hn (show (k,q.2)∈g by rw[<- show q.1=k from e1];exact hq);rw[this];simp only[FY,DN];exact e2.symm
theorem AHF{κ:Type}[DecidableEq κ]{t:List (κ×α)}{k:κ}(h:k∉t.map Aa)(v:α):Dk t k v=t++[(k,v)]:=by
 unfold Dk;rw[SG.2 h]
theorem Xd(w:AL)(tb:Nat)(g:MX)(h:Tree w tb g):
  A7 Af 54 #[.map (AA tb)] w λe w'=>∃ob g',e=.returned (.map (AA ob))/\Tree w' ob g'/\(∀x∈ET ob g',w.heap.size<=x)/\AZ [] w w'/\AAB g g':=by
 have HT:=AQ h;have hmm:= @run_makeMap Af;have hal:AZ [] w (w.alloc (.map #[] 0)):=(AZ.refl _ _).alloc _;have hmp:=h.top.Ak hal BC;have HM:Hid (Mp (w.alloc (.map #[] 0)) w.heap.size IQ []):=AQ (Mp.made w IQ);clear h hal;have k86:= @ASn;go_enter AMz,Tryz.ntmps54;go_wp2_with (at_range;refine PR rfl _ _ rfl Iy rfl hmp ?_;intro w0 hit0 hc0 hs0)
 go_frame
 obtain⟨ob,hob⟩: ∃ob,w.heap.size=ob:=⟨_,rfl⟩;obtain⟨r,hr⟩: ∃r,(w.alloc (.map #[] 0)).heap.size=r:=⟨_,rfl⟩;rw[hr] at hit0;have hc1:AZ [] w w0:=((AZ.refl [] w).alloc _).Ap hc0;(have hm0:Mp w0 ob IQ []:=by rw[<- hob];exact HM.out.Ak hc0 BC);rw[hr,hob];(have hrl:w.heap.size<=r:=by rw[<- hr];simp);(have hne:r∉[ob]:=by rw[<- hr,<- hob];simp);(have hnt:r∉ET tb g:=λhm=>by have:=HT.out.lt r hm;rw[<- hr] at this;simp at this;omega);(have hol:w.heap.size<=ob:=by omega);(have hot:tb≠ob:=by have:=HT.out.top.lt;omega);have HA:=AQ (show w.heap.size<=r/\r∉[ob]/\r∉ET tb g/\w.heap.size<=ob/\tb≠ob from ⟨hrl,hne,hnt,hol,hot⟩);clear hrl hne hnt hol hot;go_loopw [4] (λ_ wr=>∃done todo g',Jd wr tb r IQ (Eu g) todo/\(done++todo).Perm (Eu g)/\Tree wr ob g'/\(∀x∈ET ob g',w.heap.size<=x)/\AZ [] w wr/\(∀p∈g',∃q∈g,q.1=p.1/\q.2.2=p.2.2)/\g'.map Aa=done.map Aa) (λ_ wr=>wr.rangeLeft tb r)
 case atStart=>
  exact⟨[],Eu g,[],hit0,OA _,⟨hm0,AV,AV⟩,by simp[ET];exact HA.out.2.2.2.1,hc1,AV,rfl⟩
 obtain⟨done,todo,g',hit,hperm,htr,hnew,hch,hcp,hks⟩:=hrel;have HP:=AQ hperm;have jl:=AQ htr;have HN:=AQ hnew;have DY:=AQ hch;have tY:=AQ hcp;have HKS:=AQ hks;have HIT:=AQ hit;clear hperm htr hnew hch hcp hks;go_wp2_with (at_next;refine Qg rfl _ rfl rfl hit ?_ ?_)
 ·intro hdone;have HD:=AQ hdone;clear hdone;go_wp2;go_ret;have hp:=HP.out;rw[HD.out,LM] at hp;have hn:=jl.out.nodup;refine⟨ob,g',rfl,jl.out,HN.out,DY.out,AEf HT.out.nodup hn tY.out ?_⟩;rw[HKS.out,<- PQ];exact hp.map _
 intro k v todo' w1 hp AFy U0 hen;have hkv:(k,v)∈Eu g:=HP.out.mem_iff.1 (Gx _ (hp.mem_iff.2 (D9 ..)));obtain⟨q,hq,hqe⟩:=Bz.1 hkv;injection hqe with hq1 hq2;subst hq1;subst hq2
 have hkn:q.1∉g'.map Aa:=by
  rw[HKS.out];intro hm;have hnd:=(HP.out.map Aa).nodup_iff.2 (by rw[PQ];exact HT.out.nodup);rw[Em,Pj] at hnd;exact hnd.2.2 _ hm _ (((hp.map Aa).mem_iff).2 AV) rfl
 have hne1:=HIT.out.ne;have AEg:AZ [] w w1:=DY.out.trans U0 (λx hx=>by simp only[CG] at hx;subst hx;exact .inr HA.out.1);have hsub:=(HT.out.sub q hq).Ak AEg BC
 have ANr:=jl.out.keep U0 (λx hx hm=>by
  simp only[CG] at hm;subst hm;rcases BB.1 hx with rfl|hx;exact HA.out.2.1 AV;obtain⟨p,hp',rfl⟩:=Bz.1 hx;have h1:=(jl.out.sub p hp');obtain⟨es,c,hb,_⟩:=h1;obtain⟨_,_,_,_,_,_,_,_,_,_,hbr,_⟩:=HIT.out
  rw[hb] at hbr;cases hbr)
 have WG:=AQ hsub;have HPP:=AQ hp;have HKN:=AQ hkn;have DI:=AQ AEg;have bM:=AQ ANr;have vZ:=AQ AFy;have HQ:=AQ hq;clear hp hkv hkn U0 AEg ANr hq hit hsub;(go_wp2_with fail);refine (AB0 w1 q.2.1 _ WG.out).mono ?_;rintro e w2 ⟨rfl,hm2,hc2⟩;obtain⟨w3,hu,hm3,hc3⟩:=Mp.update (bM.out.top.Ak hc2 BC) (Cj KZ) Iy q.1 (.map (AA w1.heap.size));have pM:AZ [ob] w1 w3:=(hc2.nil [ob]).trans hc3 (λx hx=>.inl hx);have hlo:=bM.out.top.lt;(have hwo:w1.heap.size≠ob:=by omega);have hro:=HA.out.2.1;have ATD:=AQ (Tree.put (d:=q.1) (fb:=w1.heap.size) (f:=q.2.2) bM.out.nodup bM.out.sub bM.out.apart pM hm3 (hm2.Ak hc3 (by simpa using hwo)) (by simpa using hwo) (λp hp _=>by have:=(bM.out.sub p hp).lt;omega) (λp hp _=>by simpa using bM.out.Ld hp));have hlt:=vZ.out.lt;have AFz:=AQ (vZ.out.Ak pM (by simpa using HA.out.2.2.2.2) hro);have Hz:Hid (AZ [] w w3):=AQ (DI.out.trans pM (λx hx=>by simp only[CG] at hx;subst hx;exact .inr HA.out.2.2.2.1));have Qh:Hid (w.heap.size<=w1.heap.size):=AQ DI.out.size;clear hm2 hc2 hm3 hc3 pM hlo hwo hro hlt hne1;go_wp2;go_roundw
 case rel=>
  refine⟨done++[(q.1,Value.map (AA q.2.1))],todo',Dk g' q.1 (w1.heap.size,q.2.2),AFz.out,?_,ATD.out,?_,Hz.out,?_,?_⟩
  ·rw[KC];exact (Z7 done HPP.out.symm).trans HP.out
  ·intro x hx;rcases Nr (B:=w.heap.size) bM.out.nodup (.inr Qh.out) x hx with h|h;exact HN.out x h;exact h
  ·intro p hp;rcases (Jw bM.out.nodup).1 hp with rfl|⟨hp,_⟩;exact⟨q,HQ.out,rfl,rfl⟩;exact tY.out p hp
  rw[AHF HKN.out,Em,Em,HKS.out];rfl
 have h1:=AFz.out.left_eq;have h2:=HIT.out.left_eq;have h3:=HPP.out.length_eq;rw[h1,h2,h3];simp
def Ti {α:Type} (c:α->Nat) (F:List (ByteArray×α)) (ks:List ByteArray):Nat:=(ks.map λn=>((BH F n).map c).getD 0).sum
theorem PS{c:α->Nat}{F:List (ByteArray×α)}{a b:List ByteArray}(h:a.Perm b):Ti c F a=Ti c F b:=(h.map _).sum_nat
theorem Lh{c:α->Nat}{F:List (ByteArray×α)}(a b:List ByteArray):Ti c F (a++b)=Ti c F a+Ti c F b:=by simp[Ti]
theorem YL{c:α->Nat}{F:List (ByteArray×α)}{n:ByteArray}{x:α}(h:BH F n=AA x):Ti c F [n]=c x:=by simp[Ti,h]
theorem ve(c:α->Nat){F:List (ByteArray×α)}(hn:(F.map Aa).Nodup):Ti c F (F.map Aa)=(F.map λq=>c q.2).sum:=by
 unfold Ti;rw[Eg];congr 1;refine He λq hq=>?_;simp only[Function.comp];rw[LG hn hq];rfl
theorem ACD(l:List α)(f:α->Nat)(M:Nat)(h: ∀x∈l,f x<=M):(l.map f).sum<=l.length*M:=by
 induction l with
 |nil=>simp|cons x r ih=>
  simp only[BK,Bo,List.length_cons];have h1:=h x AV;have h2:=ih (λy hy=>h y (CO _ hy));rw[kC,Nat.one_mul];omega
def St.len (S:St) (i:Nat):Nat:=(S.bytes i).length
def St.Yw (S:St) (F:Jl):Nat:=(F.map λq=>S.len q.2).sum
theorem Inv.len{B:Nat}{S:St}(h:Inv B S)(i:Nat):S.len i<=B:=by
 unfold St.len St.bytes;rw[GY]
 cases hf:S.files[i]? with
 |none=>simp[EX.all]|some f=>
  have h1:=AFv (Bq hf);have h2:=h.bulk;simp only[Dt];omega
theorem ACE(hd:S.down=false):S.used=(S.seen.map λp=>S.Yw p.2).sum:=by
 unfold St.used St.view bytesOf;rw[BM (by simp[hd]),Eg];congr 1;refine He λp _=>?_;simp only[Function.comp];rw[Eg];rfl
theorem AAC(h:Inv B S)(T:Tr):(T.map λp=>S.Yw p.2).sum<=wd T*B:=by
 unfold wd
 induction T with
 |nil=>simp|cons p r ih=>
  simp only[BK,Bo,kC];have h1:S.Yw p.2<=p.2.length*B:=ACD _ _ B (λq _=>h.len q.2);omega
theorem ACF(h:Inv B S):S.used<=B*B:=by
 cases hd:S.down with
 |true=>unfold St.used St.view;rw[BZ hd];simp[bytesOf]|false=>
  rw[ACE hd];exact Ci (AAC h S.seen) (TE _ h.wd)
theorem EI.ARK{G:Bh}(h:EI w G S)(hi:i<S.files.length): ∃g,Bl w (EE G.ib i) 126 #[.pointer (AA ⟨g,0,AB⟩)]/\A7 Af 181 #[.pointer (AA ⟨g,0,AB⟩)] w (λe w'=>e=.returned (.int .i64 (S.len i:Nat))/\w'=w):=by
 have hf:S.files[i]? =AA S.files[i]:=CQ hi;obtain⟨x,g,L,h1,h2,h3,h4,h5⟩:=h.at_ hf;refine⟨g,by rw[zo h1];exact h4,size_any g L _ _ w h5 _ ?_⟩;unfold St.len St.bytes;rw[GY,hf];simp[EX.all]
theorem AJ7{G:Bh}(h:EI w G S)(hi:Inv B S)(hB:B<=1073741824):
  A7 Af 179 #[.pointer (AA ⟨G.b,0,AB⟩)] w λe w'=>e=.returned (.int .i64 (S.used:Int))/\AZ [] w w':=by
 have HF:=AQ h;have HI:=AQ hi
 have hU:S.used<=1152921504606846976:=by
  have h1:=ACF hi;have h2:B*B<=1073741824*1073741824:=AFG hB hB;omega
 have HU:=AQ hU;clear h hi hB hU;have k61:= @AJi;have AUc:= @AQN;go_enter AJX,Tryz.ntmps179;(go_wp2_with fail);refine (AB8 HF.out).mono ?_;rintro e w1 ⟨rfl,hc1⟩;have DI:=AQ hc1
 cases hd:S.down with
 |true=>
  have HR:Hid (S.used=0):=AQ (by unfold St.used St.view;rw[BZ hd];rfl);clear hc1 hd;go_wp2;go_ret;exact⟨by rw[HR.out];rfl,DI.out⟩
 |false=>
  have HR:Hid (S.used=(S.seen.map λp=>S.Yw p.2).sum):=AQ (ACE hd);have GR:=AQ (HF.out.CE hc1);have h0:=GR.out.blk.cell 0;simp at h0;have hmp:=GR.out.FU.top;clear hc1 hd;go_wp2_with (at_range;refine PR rfl _ _ rfl Iy rfl hmp ?_;intro w0 hit0 hc0 hs0)
  go_frame
  obtain⟨r,hr⟩: ∃r,w1.heap.size=r:=⟨_,rfl⟩;rw[hr] at hit0⊢;have WV:Hid (AZ [] w w0):=AQ (DI.out.Ap hc0);have HRR:Hid (w.heap.size<=r):=AQ (by rw[<- hr];exact DI.out.size);clear hr hs0 hc0 h0 hmp
  have htot:Ti S.Yw S.seen (G.g1.map Aa)=S.used:=by
   rw[HR.out,PS (HF.out.Le.keys HF.out.FU.nodup HI.out.val.UR),ve _ HI.out.val.UR.nodup]
  have ANs:=AQ htot;clear htot;go_loopw [2,4] (λs _ wr=>∃done todo,∃N:Nat,s=.int .i64 N/\Jd wr G.t1 r IQ (Eu G.g1) todo/\(done++todo).Perm (Eu G.g1)/\AZ [] w wr/\N=Ti S.Yw S.seen (done.map Aa)) (λ_ _ wr=>wr.rangeLeft G.t1 r)
  case atStart=>exact⟨[],Eu G.g1,0,rfl,hit0,OA _,WV.out,rfl⟩
  obtain⟨done,todo,N,rfl,hit,hperm,hch,hN⟩:=hrel;have HP:=AQ hperm;have DY:=AQ hch;have HN:=AQ hN;have HIT:=AQ hit;clear hperm hch hN;go_wp2_with (at_next;refine Qg rfl _ rfl rfl hit ?_ ?_)
  ·intro hdone;have HD:=AQ hdone;clear hdone;go_wp2;go_ret;have hp:=HP.out;rw[HD.out,LM] at hp;refine⟨?_,DY.out⟩;rw[HN.out,PS (hp.map Aa),PQ,ANs.out];rfl
  intro k v todo' w2 hp AFy U0 hen;have hkv:(k,v)∈Eu G.g1:=HP.out.mem_iff.1 (Gx _ (hp.mem_iff.2 (D9 ..)));obtain⟨q,hq,hqe⟩:=Bz.1 hkv;injection hqe with hq1 hq2;subst hq1;subst hq2;have hgq:=LG HF.out.FU.nodup hq
  obtain⟨F,hF⟩: ∃F,BH S.seen q.1=AA F:=by
   have:=HF.out.Le.top q.1;rw[hgq] at this;exact AFH.1 this.symm
  have hsub:=HF.out.Le.sub _ _ _ hgq hF;have hSF:RH F:=HI.out.val.sub _ (CJ hF)
  have hall:Ti S.len F ((q.2.2).map Aa)=S.Yw F:=by
   rw[PS (fK hsub (HF.out.FU.Ri hq) hSF),ve _ hSF.nodup];rfl
  have hle:N+S.Yw F<=S.used:=by
   have e1:=PS (c:=S.Yw) (F:=S.seen) (((Z7 done hp.symm).trans HP.out).map Aa);rw[PQ,ANs.out,Em,BK,Lh] at e1;rw[show (q.1::todo'.map Aa)=[q.1]++todo'.map Aa from rfl,Lh,YL hF] at e1;have:=HN.out;omega
  have hC2:AZ [] w w2:=DY.out.trans U0 (λx hx=>by simp only[CG] at hx;subst hx;exact .inr HRR.out);have hmq:=(HF.out.FU.sub q hq).Ak hC2 BC;have HC2:=AQ hC2;have WG:=AQ hsub;have MF:=AQ hall;have HLE:=AQ hle;have HPP:=AQ hp;have vZ:=AQ AFy;have WU:=AQ hF;have HQ:=AQ hq;clear hkv hgq hF hsub hSF hall hle hC2 hp hit AFy U0 hq;go_wp2_with (at_range;refine PR rfl _ _ rfl PH rfl hmq ?_;intro w3 hit3 hc3 hs3)
  go_frame
  obtain⟨r2,hr2⟩: ∃r2,w2.heap.size=r2:=⟨_,rfl⟩;rw[hr2] at hit3⊢;have Hz:Hid (AZ [] w w3):=AQ (HC2.out.Ap hc3)
  have HR2:Hid (w.heap.size<=r2/\r≠r2/\G.t1≠r2):=AQ (by
   have h1:=HC2.out.size;have h2:=vZ.out.lt;have h3:=vZ.out.mp.lt
   refine⟨Ad,Ad,Ad⟩)
  have AFz:Hid (Jd w3 G.t1 r IQ (Eu G.g1) todo'):=AQ (vZ.out.Ak hc3 BC BC);clear hr2 hs3 hc3 hmq hen;go_loopw [2,6] (λs _ wr=>∃done2 AEh,∃M:Nat,s=.int .i64 ((N+M:Nat):Int)/\Jd wr q.2.1 r2 IQ (Ip q.2.2) AEh/\Jd wr G.t1 r IQ (Eu G.g1) todo'/\(done2++AEh).Perm (Ip q.2.2)/\AZ [] w wr/\M=Ti S.len F (done2.map Aa)) (λ_ _ wr=>wr.rangeLeft q.2.1 r2)
  case atStart=>exact⟨[],Ip q.2.2,0,rfl,hit3,AFz.out,OA _,Hz.out,rfl⟩
  obtain⟨done2,AEh,M,rfl,AJ8,ANt,AF0,ANu,hM⟩:=hrel;have HP2:=AQ AF0;have ANv:=AQ ANu;have HM:=AQ hM;have ATE:=AQ AJ8;have AJ9:=AQ ANt;clear AF0 ANu hM ANt;go_wp2_with (at_next;refine Qg rfl _ rfl rfl AJ8 ?_ ?_)
  ·intro hdone;have HD:=AQ hdone;clear hdone;go_wp2;go_roundw
   case rel=>
    refine⟨done++[(q.1,Value.map (AA q.2.1))],todo',N+M,rfl,AJ9.out,(KC done _ _▸(Z7 done HPP.out.symm).trans HP.out),ANv.out,?_⟩;have hp2:=HP2.out;rw[HD.out,LM] at hp2;rw[Em,Lh,BK,EG,YL WU.out,HM.out,PS (hp2.map Aa),Rh,MF.out,HN.out]
   have h1:=AJ9.out.left_eq;have h2:=HIT.out.left_eq;have h3:=HPP.out.length_eq;rw[h1,h2,h3];simp
  intro k2 v2 AAD w4 hp2 ANw AKA AUd;have ANx:(k2,v2)∈Ip q.2.2:=HP2.out.mem_iff.1 (Gx _ (hp2.mem_iff.2 (D9 ..)));obtain⟨p,hp,hpe⟩:=Bz.1 ANx;injection hpe with hp1 hpv;subst hp1;subst hpv;have hgp:=LG (HF.out.FU.Ri HQ.out) hp
  obtain⟨i,hi,hix⟩: ∃i,BH F p.1=AA i/\EE G.ib i=p.2:=by
   have:=WG.out p.1;rw[hgp] at this
   cases hFi:BH F p.1 with|none=>rw[hFi] at this;cases this|some i=>rw[hFi] at this;injection this with this;exact⟨i,rfl,this.symm⟩
  have hil:=HI.out.val.ids _ (CJ WU.out) _ (CJ hi);have hC4:AZ [] w w4:=ANv.out.trans AKA (λx hx=>by simp only[CG] at hx;subst hx;exact .inr HR2.out.1);obtain⟨sg,hb4,hsz⟩:=(HF.out.CE hC4).ARK hil;rw[hix] at hb4;have c0:=hb4.cell 0;simp at c0
  have hle2:M+S.len i<=S.Yw F:=by
   have e1:=PS (c:=S.len) (F:=F) (((Z7 done2 hp2.symm).trans HP2.out).map Aa);rw[Rh,MF.out,Em,BK,Lh] at e1;rw[show (p.1::AAD.map Aa)=[p.1]++AAD.map Aa from rfl,Lh,YL hi] at e1;have:=HM.out;omega
  have hwr:wrap64 ((N:Int)+(M:Int)+(S.len i:Nat))=((N+(M+S.len i):Nat):Int):=by
   have h1:=HLE.out;have h2:=HU.out;unfold wrap64;omega
  have HWR:=AQ hwr;clear hwr;have NV:=AQ hC4;have HP5:=AQ hp2;have ANy:=AQ ANw;have ATF:Hid (Jd w4 G.t1 r IQ (Eu G.g1) todo'):=AQ (AJ9.out.Ak AKA (by simpa using HR2.out.2.2) (by simpa using HR2.out.2.1));have HII:=AQ hi;have Qh:=AQ hsz;clear ANx hgp hi hix hil hC4 hb4 hle2 hp2 AJ8 ANw AKA hp hsz;(go_wp2_with fail);refine Qh.out.mono ?_;rintro e w5 ⟨rfl,rfl⟩;go_wp2;go_roundw
  case rel=>
   refine⟨done2++[(p.1,P9 (AA ⟨p.2,0,AB⟩))],AAD,M+S.len i,(congrArg (Value.int .i64) HWR.out),ANy.out,ATF.out,(KC done2 _ _▸(Z7 done2 HP5.out.symm).trans HP2.out),NV.out,?_⟩;rw[Em,Lh,BK,EG,YL HII.out,HM.out]
  have h1:=ANy.out.left_eq;have h2:=ATE.out.left_eq;have h3:=HP5.out.length_eq;rw[h1,h2,h3];simp
end
section
variable {ib:List Nat}{B i:Nat}{S:St}{w w0:AL}
def bP (e:Aj) (w:AL) (xs:List AP) (n:Nat) (code:Int) (en:Ending) (w':AL):Prop:=
 ∃A c,en=.returned (.tuple #[.slice A n c,.int .i64 code])/\Own w' e 1 A n c xs/\AZ [] w w'/\∀k∈bo A,w.heap.size<=k
theorem Lay.others{Ps:List (List Nat)}(h:Lay w Ps){L:List Nat}{is:List Nat}(hL: ∀x∈L,∃j P,j∈is/\Ps[j]? =AA P/\x∈P){P:List Nat}(hi:Ps[i]? =AA P)(hn:i∉is): ∀x∈P,x∉L:=by
 intro x hx hm;obtain⟨j,Q,hj,hQ,hxq⟩:=hL x hm;exact h.ne hi hQ (λe=>hn (e▸hj)) x hx hxq
theorem iy:S.names=if S.ask false []≠0 then (S,S.ask false []) else ({S with safe:=S.seen,D6:=[],steps:=S.steps+1},0):=by
 unfold St.names St.ask;cases hd:S.down<;>simp
theorem vg{G:Bh}(h:EI w G S)(hi:Inv B S)(hB:B<=1073741824):
  A7 Af 50 #[.pointer (AA ⟨G.b,0,AB⟩)] w λe w'=>e=.returned (.int .i64 S.names.2)/\DJ w G S.names.1 w':=by
 have HF:=AQ h;have HI:=AQ hi;(have hwt:IntKind.i64.wrap ((S.steps:Int)+1)=((S.steps+1:Nat):Int):=by have:=hi.st;rw[IntKind.wrap_i64];omega);clear h hi hB;have k54:= @AJh;have k70:= @iY;go_enter AMv,Tryz.ntmps50;(go_wp2_with fail);refine (Va HF.out false AB 0 0 [] (Rd.nil w 1) Ar AV).mono ?_;rintro e w1 ⟨rfl,hc1⟩;have DI:=AQ hc1;obtain⟨E,hE⟩: ∃E,S.ask false []=E:=⟨_,rfl⟩;rw[hE];have HE:=AQ hE;clear hE;by_cases h:E=0
 ·subst h;have GR:=AQ (HF.out.CE hc1);have h0:=GR.out.blk.cell 0;simp at h0;have HR:Hid (S.names=({S with safe:=S.seen,D6:=[],steps:=S.steps+1},0)):=AQ (by rw[iy,BM (by rw[HE.out];simp)]);clear hc1;(go_wp2_with fail);refine (Xd w1 G.t1 G.g1 GR.out.FU).mono ?_;rintro e w2 ⟨ob,g',rfl,htr,hnew,hc2,hcp⟩;have HF2:=AQ (GR.out.CE hc2);have c1:=HF2.out.blk.frozen 1;have x1:=HF2.out.blk.cell 1;have x2:=HF2.out.blk.cell 2;simp at x1 x2;have hb2:=HF2.out.blk.FK 1 (.map (AA ob));have c2:=hb2.frozen 2;have hb3:=hb2.FK 2 (.slice AB 0 0);have c6:=hb3.cell 6;have f6:=hb3.frozen 6;have hb4:=hb3.FK 6 (.int .i64 ((S.steps+1:Nat):Int));simp at c6;have HB4:=AQ hb4;have jl:=AQ htr;have HN:=AQ hnew;have HC2:=AQ hc2;have tY:=AQ hcp;clear htr hnew hc2 hcp hb2 hb3 hb4;go_wp2;go_ret;refine⟨by rw[HR.out];rfl,?_⟩;rw[HR.out];have hF:=HF2.out;obtain⟨w3,hw3⟩: ∃w3,((w2.setCell ⟨G.b,1,AB⟩ (.map (AA ob))).setCell ⟨G.b,2,AB⟩ (.slice AB 0 0)).setCell ⟨G.b,6,AB⟩ (.int .i64 ((S.steps+1:Nat):Int))=w3:=⟨_,rfl⟩;have hb:=HB4.out;(have hch:AZ [G.b] w2 w3:=by rw[<- hw3];exact (((AZ.refl [G.b] w2).setCell (.inl AV) _).setCell (.inl AV) _).setCell (.inl AV) _);have ATG:=hw3;rw[ATG] at hb;show DJ w G _ (((w2.setCell ⟨G.b,1,AB⟩ (.map (AA ob))).setCell ⟨G.b,2,AB⟩ (.slice AB 0 0)).setCell ⟨G.b,6,AB⟩ (.int .i64 ((S.steps+1:Nat):Int)));rw[hw3];have hL: ∀x∈[G.b],∃j P,j∈[0]/\G.parts[j]? =AA P/\x∈P:=λx hx=>⟨0,[G.b],AV,rfl,hx⟩;have ho:=λ(i:Nat) (P:List Nat) (hi:G.parts[i]? =AA P) (hne:i∉[0])=>hF.lay.others hL hi hne;have hG2:=GR.out.lay.FK (w':=w2) (i:=2) (P':=ET ob g') rfl (λx hx=>.inr (HN.out x hx)) jl.out.lt HC2.out.size;have hG3:=hG2.FK (w':=w3) (i:=3) (P:=bo G.A) (P':=[]) rfl AV AV hch.size;refine⟨{G with t2:=ob,g2:=g',A:=AB,c:=0,vs:=[]},⟨by simpa using hb,hF.FU.keep hch (ho 1 _ rfl AV),hF.Le,jl.out.keep hch (λx hx hm=>?_),hF.Le.copied tY.out,Own.nil _ _ _,?_,hF.fM.Ak hch (ho 4 _ rfl AV),hF.Qe,hF.WR,hF.RI,hF.Zc,hF.WT,?_,hG3⟩,rfl,?_,?_⟩
  ·exact hG2.ne (i:=2) (j:=0) (P:=ET ob g') (Q:=[G.b]) rfl rfl Ar x hx hm
  intro i c v e1 e2;simp at e1
  ·intro i x g L f e1 e2 e3 e4;exact (hF.ino i x g L f e1 e2 e3 e4).keep hch (ho 5 _ rfl AV x (hF.WT x (Bq e1))) (ho (i+6) L (by simpa[Bh.parts] using e3) AV)
  ·intro x hx;obtain⟨P,hP,hx⟩:=KD.1 hx;simp only[Bh.parts,BB] at hP;rcases hP with rfl|rfl|rfl|rfl|hP;exact .inl (Bh.FV (i:=0) rfl hx);exact .inl (Bh.FV (i:=1) rfl hx);exact .inr (Ci DI.out.size (HN.out x hx));simp at hx;exact .inl (KD.2 ⟨P,by simp only[Bh.parts,BB];exact .inr (.inr (.inr (.inr hP))),hx⟩)
  exact (((DI.out.Ap HC2.out).nil [G.b]).trans hch (λx hx=>.inl hx)).mono (λx hx=>.inl (Bh.FV (i:=0) rfl hx))
 (have hb:(E !=0)=true:=by simp[h]);have HR:Hid (S.names=(S,E)):=AQ (by rw[iy,HE.out,BZ h]);clear h;go_wp2;go_ret;exact⟨by rw[HR.out];rfl,by rw[HR.out];exact DJ.same HF.out DI.out⟩
theorem pO:S.MG=if S.ask false []≠0 then ([],S.ask false []) else (S.seen.map Aa,0):=by
 unfold St.MG St.ask;cases hd:S.down<;>simp
theorem Xe{x:ByteArray}(h:CS x=true):x.size<=maxLen:=by have:=AEW h;unfold maxLen;omega
theorem Yx{tb:Nat}{g:MX}{T:Tr}{m:Nat}(ht:Tree w0 tb g)(hi:D7 ib g T)(hv:Val m T)(hl:T.length<=1073741824)(hw:w=w0):
  A7 Af 87 #[.func (.func 124) #[] #[.pointer (AA ⟨w0.heap.size,0,AB⟩)]] (w.alloc (.cells #[.map (AA tb)] 112)) (La 9 1 w0 (PN (T.map Aa)) T.length):=by
 subst hw;have hp:=hi.keys ht.nodup hv.UR;(have hlen:(Eu g).length=T.length:=by have:=hp.length_eq;simpa[Eu] using this);have hs:UR ((Eu g).map Aa)=T.map Aa:=AFu (by rw[PQ];exact hp) hv.UR
 have:=zT w tb (Eu g) ht.top (λp hp2=>by
  have:p.1∈T.map Aa:=hp.mem_iff.1 (by rw[<- PQ];exact Bz.2 ⟨p,hp2,rfl⟩);obtain⟨q,hq,e⟩:=Bz.1 this
  rw[<- e];exact Xe (hv.nm q hq)) Ad
 rw[hs,hlen] at this;refine this.mono ?_;rintro e w' ⟨A,c,rfl,ho,hc,hn⟩;exact⟨A,c,rfl,ho,(((AZ.refl [] w).alloc _).Ap hc),λk hk=>Ci AV (hn k hk)⟩
theorem Yy{fb:Nat}{f:List (ByteArray×Nat)}{F:Jl}(hf:Mp w0 fb IQ (Ip f))(hi: ∀n,BH f n=(BH F n).map (EE ib))(hs:RH F)(hg: ∀q∈F,CS q.1=true)(hl:F.length<=1073741824)(hw:w=w0):
  A7 Af 87 #[.func (.func 125) #[] #[.pointer (AA ⟨w0.heap.size,0,AB⟩)]] (w.alloc (.cells #[.map (AA fb)] 130)) (La 9 1 w0 (PN (F.map Aa)) F.length):=by
 subst hw;(have hn:(f.map Aa).Nodup:=by rw[<- Rh];exact hf.nodup);have hp:=fK hi hn hs;(have hlen:(Ip f).length=F.length:=by have:=hp.length_eq;simpa[Ip] using this);have hs:UR ((Ip f).map Aa)=F.map Aa:=AFu (by rw[Rh];exact hp) hs
 have:=zU w fb (Ip f) hf (λp hp2=>by
  have:p.1∈F.map Aa:=hp.mem_iff.1 (by rw[<- Rh];exact Bz.2 ⟨p,hp2,rfl⟩);obtain⟨q,hq,e⟩:=Bz.1 this
  rw[<- e];exact Xe (hg q hq)) Ad
 rw[hs,hlen] at this;refine this.mono ?_;rintro e w' ⟨A,c,rfl,ho,hc,hn⟩;exact⟨A,c,rfl,ho,(((AZ.refl [] w).alloc _).Ap hc),λk hk=>Ci AV (hn k hk)⟩
theorem AKB{G:Bh}(h:EI w G S)(hi:Inv B S)(hB:B<=1073741824):
  A7 Af 95 #[.pointer (AA ⟨G.b,0,AB⟩)] w (bP 9 w (PN S.MG.1) S.MG.1.length S.MG.2):=by
 have HF:=AQ h;have HI:=AQ hi;have HB:=AQ (show S.seen.length<=1073741824 by have:=hi.wd;have:=zY S.seen;omega);clear h hi hB;have k70:= @iY;have k87:= @AJl;have k88:= @ANg;go_enter ANN,Tryz.ntmps95;(go_wp2_with fail);refine (Va HF.out false AB 0 0 [] (Rd.nil w 1) Ar AV).mono ?_;rintro e w1 ⟨rfl,hc1⟩;have DI:=AQ hc1;obtain⟨E,hE⟩: ∃E,S.ask false []=E:=⟨_,rfl⟩;rw[hE];have HE:=AQ hE;clear hE;by_cases h:E=0
 ·subst h;have GR:=AQ (HF.out.CE hc1);have h0:=GR.out.blk.cell 0;simp at h0;have HR:Hid (S.MG=(S.seen.map Aa,0)):=AQ (by rw[pO,BM (by rw[HE.out];simp)]);clear hc1;(go_wp2_with fail);refine (oz (AA G.t1) w1).mono ?_;rintro e w2 ⟨rfl,hw2⟩;have HW2:=AQ hw2;clear hw2;(go_wp2_with fail);rw[HW2.out];refine (Yx GR.out.FU GR.out.Le HI.out.val HB.out rfl).mono ?_;rintro e w3 ⟨A,c,rfl,ho,hc3,hn3⟩;have HO:=AQ ho;have Hz:=AQ hc3;have HN3:=AQ hn3;clear ho hc3 hn3;go_wp2
  go_ret2
  rw[HR.out];refine⟨A,c,by rw[DZ];rfl,by rw[DZ];exact HO.out,DI.out.Ap Hz.out,λk hk=>Ci DI.out.size (HN3.out k hk)⟩
 (have hb:(E !=0)=true:=by simp[h]);have HR:Hid (S.MG=([],E)):=AQ (by rw[pO,HE.out,BZ h]);clear h;go_wp2
 go_ret2
 rw[HR.out];exact⟨AB,0,rfl,Own.nil _ _ _,DI.out,AV⟩
theorem AKC{G:Bh}(h:EI w G S)(hi:Inv B S)(hB:B<=1073741824)(d:ByteArray):
  A7 Af 97 #[.pointer (AA ⟨G.b,0,AB⟩),.string d] w (bP 9 w (PN (S.list d).1) (S.list d).1.length (S.list d).2):=by
 have HF:=AQ h;have HI:=AQ hi;have HB:=AQ (show ∀p∈S.seen,p.2.length<=1073741824 from λp hp=>by have:=hi.wd;have:=zZ hp;omega);clear h hi hB;have k70:= @iY;have k87:= @AJl;have k89:= @ANh;go_enter ANP,Tryz.ntmps97;(go_wp2_with fail);have hal:AZ [] w (w.alloc (.cells #[.string d] 9)):=(AZ.refl _ _).alloc _;refine (Va (HF.out.CE hal) true _ 1 1 [d] (by simpa[PN] using (Own.lit w 9 1 #[.string d] 1 Ar rfl).rd) Ar AV).mono ?_;rintro e w1 ⟨rfl,hc1⟩;have DI:=AQ (hal.Ap hc1);clear hc1 hal;obtain⟨E,hE⟩: ∃E,S.ask true [d]=E:=⟨_,rfl⟩;rw[hE];have HE:=AQ hE;clear hE;by_cases h:E=0
 ·subst h;have GR:=AQ (HF.out.CE DI.out);obtain⟨F,hF⟩:=(Hq HE.out).2.2 rfl;simp only[RS] at hF;obtain⟨g,hg,hsub⟩:=HF.out.Le.get hF;have h0:=GR.out.blk.cell 0;simp at h0;have hl:=(Mp.lookup GR.out.FU.top (Cj KZ) Iy (z:=.map AB) Aq d).1;simp only[Eo,hg,FY,Dt] at hl;have WG:=AQ hsub;have WU:=AQ hF;have HG:=AQ hg;have HR:Hid (S.list d=(F.map Aa,0)):=AQ (by unfold St.list;rw[BM (by rw[HE.out];simp),Ez hF]);clear hsub hF hg;(go_wp2_with fail);refine (o5 (AA g.1) w1).mono ?_;rintro e w2 ⟨rfl,hw2⟩;have HW2:=AQ hw2;clear hw2;(go_wp2_with fail);rw[HW2.out];refine (Yy (GR.out.FU.sub _ (CJ HG.out)) WG.out (HI.out.val.sub _ (CJ WU.out)) (HI.out.val.zW _ (CJ WU.out)) (HB.out _ (CJ WU.out)) rfl).mono ?_;rintro e w3 ⟨A,c,rfl,ho,hc3,hn3⟩;have HO:=AQ ho;have Hz:=AQ hc3;have HN3:=AQ hn3;clear ho hc3 hn3;go_wp2
  go_ret2
  rw[HR.out];refine⟨A,c,by rw[DZ];rfl,by rw[DZ];exact HO.out,DI.out.Ap Hz.out,λk hk=>Ci DI.out.size (HN3.out k hk)⟩
 (have hb:(E !=0)=true:=by simp[h]);have HR:Hid (S.list d=([],E)):=AQ (by unfold St.list;rw[HE.out,BZ h]);clear h;go_wp2
 go_ret2
 rw[HR.out];exact⟨AB,0,rfl,Own.nil _ _ _,DI.out,AV⟩
theorem EI.bQ{G:Bh}(h:EI w G S)(hi:i<S.files.length): ∃g L,G.Ls[i]? =AA L/\Bl w (EE G.ib i) 126 #[.pointer (AA ⟨g,0,AB⟩)]/\WQ w g L (S.files.getD i ([],[])).1 (S.files.getD i ([],[])).2/\G.sg[i]? =AA g/\G.ib[i]? =AA (EE G.ib i):=by
 have hf:S.files[i]? =AA S.files[i]:=CQ hi;obtain⟨x,g,L,h1,h2,h3,h4,h5⟩:=h.at_ hf;refine⟨g,L,h3,by rw[zo h1];exact h4,?_,h2,by rw[zo h1];exact h1⟩;rw[GY,hf];exact h5
theorem Inv.Ed(h:Inv B S)(i:Nat):(S.files.getD i ([],[])).1.length+(S.files.getD i ([],[])).2.flatten.length<=B/\(S.files.getD i ([],[])).2.length<=B:=by
 rw[GY]
 cases hf:S.files[i]? with
 |none=>simp|some f=>
  have h1:=AFv (Bq hf);have h2:=h.bulk;simp only[Dt,EX.all,Ig] at h1⊢;omega
theorem kX(h:Inv B S){d n:ByteArray}{x:Nat}{e:Int}(hf:S.Oa d n=(AA x,e)):x<S.files.length:=by
 obtain⟨_,_,F,hF,hx⟩:=Uz hf;exact h.val.ids _ (CJ hF) _ (CJ hx)
end
end Go.Proofs.YtkkgcebhfghdnaaGreatDoor.Vw
