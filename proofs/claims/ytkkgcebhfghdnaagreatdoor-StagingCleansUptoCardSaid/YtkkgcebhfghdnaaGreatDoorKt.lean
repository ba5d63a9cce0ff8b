/- Part 20 of what that rests on; no condition. -/
import Derived.Test.YtkkgcebhfghdnaaGreatDoorKs
import Derived.BigQuiet
import Derived.Maps.RangeWalk
set_option maxRecDepth 100000
set_option maxHeartbeats 8000000
namespace Go.Proofs.YtkkgcebhfghdnaaGreatDoor.Vw
open Go.RowKit
theorem AAn{w:World}{G:Bg}{S:St}{B:Nat}(h:ED w G S)(hi:Inv B S)(hB:B<=1073741824){d:ByteArray}{k:Nat}(hok:FH.ok S.files.length S.seen (.Dn d))(Kk:k∈G.K)(hk:w.cell? ⟨k,0,none⟩=some (.string d)):
  Calls Ae 71 #[.pointer (some ⟨G.b,0,none⟩),.func (.func 72) #[] #[.pointer (some ⟨k,0,none⟩)]] w λe w'=>e=.returned (.int .i64 0)/\DI w G (S.make (.Dn d)) w':=by
 (have n1:S.FQ.length<=1073741824:=by have:=hi.OE;omega);(have n2:S.steps<=1073741824:=by have:=hi.st;omega);have hm: ∀(j:Nat) (P:List Nat),G.parts[j]? =some P->j≠1->∀x∈P,x∉EL G.t1 G.g1:=λj P hj hne x hx=>h.lay.ne hj (j:=1) rfl hne x hx;refine (Zr 72 #[_] @AQH G.b G.t1 (some G.t2) G.A G.Aw S.FQ.length G.c S.wr.length G.cw S.BR S.stop S.steps G.vs w (λw'=>Rf w G.t1 G.g1 G.ib (FH.on S.seen (.Dn d)) w') (EL G.t1 G.g1) ((sN h.Ep h.Kt hok.2 hk).mono (λe w' hq=>⟨hq.1,hq.2,hq.2.2⟩)) h.blk h.own (hm 0 _ rfl Az _ AY) (hm 3 _ rfl Az) n1 n2).mono ?_;rintro e w' ⟨rfl,w1,hcl,hc0,hc1,A',c',hb,ho,hA⟩;exact⟨rfl,h.did ⟨k,rfl,Kk,hk⟩ hcl hc1 hb ho hA⟩
theorem AAo{w:World}{G:Bg}{S:St}{B:Nat}(h:ED w G S)(hi:Inv B S)(hB:B<=1073741824){d:ByteArray}{k:Nat}(_:FH.ok S.files.length S.seen (.rmdir d))(Kk:k∈G.K)(hk:w.cell? ⟨k,0,none⟩=some (.string d)):
  Calls Ae 71 #[.pointer (some ⟨G.b,0,none⟩),.func (.func 130) #[] #[.pointer (some ⟨k,0,none⟩)]] w λe w'=>e=.returned (.int .i64 0)/\DI w G (S.make (.rmdir d)) w':=by
 (have n1:S.FQ.length<=1073741824:=by have:=hi.OE;omega);(have n2:S.steps<=1073741824:=by have:=hi.st;omega);have hm: ∀(j:Nat) (P:List Nat),G.parts[j]? =some P->j≠1->∀x∈P,x∉EL G.t1 G.g1:=λj P hj hne x hx=>h.lay.ne hj (j:=1) rfl hne x hx;refine (Zr 130 #[_] @ANr G.b G.t1 (some G.t2) G.A G.Aw S.FQ.length G.c S.wr.length G.cw S.BR S.stop S.steps G.vs w (λw'=>Rf w G.t1 G.g1 G.ib (FH.on S.seen (.rmdir d)) w') (EL G.t1 G.g1) ((sO h.Ep h.Kt hk).mono (λe w' hq=>⟨hq.1,hq.2,hq.2.2⟩)) h.blk h.own (hm 0 _ rfl Az _ AY) (hm 3 _ rfl Az) n1 n2).mono ?_;rintro e w' ⟨rfl,w1,hcl,hc0,hc1,A',c',hb,ho,hA⟩;exact⟨rfl,h.did ⟨k,rfl,Kk,hk⟩ hcl hc1 hb ho hA⟩
theorem xE{w:World}{G:Bg}{S:St}{B:Nat}(h:ED w G S)(hi:Inv B S)(hB:B<=1073741824){d n:ByteArray}{k j:Nat}(hok:FH.ok S.files.length S.seen (.remove d n))(Kk:k∈G.K)(hk:w.cell? ⟨k,0,none⟩=some (.string d))(Kj:j∈G.K)(hj:w.cell? ⟨j,0,none⟩=some (.string n)):
  Calls Ae 71 #[.pointer (some ⟨G.b,0,none⟩),.func (.func 129) #[] #[.pointer (some ⟨k,0,none⟩),.pointer (some ⟨j,0,none⟩)]] w λe w'=>e=.returned (.int .i64 0)/\DI w G (S.make (.remove d n)) w':=by
 (have n1:S.FQ.length<=1073741824:=by have:=hi.OE;omega);(have n2:S.steps<=1073741824:=by have:=hi.st;omega);have hm: ∀(j:Nat) (P:List Nat),G.parts[j]? =some P->j≠1->∀x∈P,x∉EL G.t1 G.g1:=λj P hj hne x hx=>h.lay.ne hj (j:=1) rfl hne x hx;refine (Zr 129 #[_,_] @ANq G.b G.t1 (some G.t2) G.A G.Aw S.FQ.length G.c S.wr.length G.cw S.BR S.stop S.steps G.vs w (λw'=>Rf w G.t1 G.g1 G.ib (FH.on S.seen (.remove d n)) w') (EL G.t1 G.g1) ((lg h.Ep h.Kt hi.val hok hk hj).mono (λe w' hq=>⟨hq.1,hq.2,hq.2.2⟩)) h.blk h.own (hm 0 _ rfl Az _ AY) (hm 3 _ rfl Az) n1 n2).mono ?_;rintro e w' ⟨rfl,w1,hcl,hc0,hc1,A',c',hb,ho,hA⟩;exact⟨rfl,h.did ⟨k,j,rfl,Kk,Kj,hk,hj⟩ hcl hc1 hb ho hA⟩
theorem xG{w:World}{G:Bg}{S:St}{B:Nat}(h:ED w G S)(hi:Inv B S)(hB:B<=1073741824){a b:ByteArray}{k j:Nat}(hok:FH.ok S.files.length S.seen (.rename a b))(Kk:k∈G.K)(hk:w.cell? ⟨k,0,none⟩=some (.string a))(Kj:j∈G.K)(hj:w.cell? ⟨j,0,none⟩=some (.string b)):
  Calls Ae 71 #[.pointer (some ⟨G.b,0,none⟩),.func (.func 85) #[] #[.pointer (some ⟨k,0,none⟩),.pointer (some ⟨j,0,none⟩)]] w λe w'=>e=.returned (.int .i64 0)/\DI w G (S.make (.rename a b)) w':=by
 (have n1:S.FQ.length<=1073741824:=by have:=hi.OE;omega);(have n2:S.steps<=1073741824:=by have:=hi.st;omega);have hm: ∀(j:Nat) (P:List Nat),G.parts[j]? =some P->j≠1->∀x∈P,x∉EL G.t1 G.g1:=λj P hj hne x hx=>h.lay.ne hj (j:=1) rfl hne x hx;refine (Zr 85 #[_,_] @AQL G.b G.t1 (some G.t2) G.A G.Aw S.FQ.length G.c S.wr.length G.cw S.BR S.stop S.steps G.vs w (λw'=>Rf w G.t1 G.g1 G.ib (FH.on S.seen (.rename a b)) w') (EL G.t1 G.g1) ((lh h.Ep h.Kt hok hk hj (λe=>hm 5 _ rfl Az k Kk (by simp[EL,e])) (λe=>hm 5 _ rfl Az j Kj (by simp[EL,e]))).mono (λe w' hq=>⟨hq.1,hq.2,hq.2.2⟩)) h.blk h.own (hm 0 _ rfl Az _ AY) (hm 3 _ rfl Az) n1 n2).mono ?_;rintro e w' ⟨rfl,w1,hcl,hc0,hc1,A',c',hb,ho,hA⟩;exact⟨rfl,h.did ⟨k,j,rfl,Kk,Kj,hk,hj⟩ hcl hc1 hb ho hA⟩
theorem xH{w:World}{G:Bg}{S:St}{B:Nat}(h:ED w G S)(hi:Inv B S)(hB:B<=1073741824){d n:ByteArray}{i x k j:Nat}(hok:FH.ok S.files.length S.seen (.create d n i))(Kx:x∈G.K)(hx:w.cell? ⟨x,0,none⟩=some (.pointer (some ⟨EC G.ib i,0,none⟩)))(Kk:k∈G.K)(hk:w.cell? ⟨k,0,none⟩=some (.string d))(Kj:j∈G.K)(hj:w.cell? ⟨j,0,none⟩=some (.string n)):
  Calls Ae 71 #[.pointer (some ⟨G.b,0,none⟩),.func (.func 73) #[] #[.pointer (some ⟨x,0,none⟩),.pointer (some ⟨k,0,none⟩),.pointer (some ⟨j,0,none⟩)]] w λe w'=>e=.returned (.int .i64 0)/\DI w G (S.make (.create d n i)) w':=by
 (have n1:S.FQ.length<=1073741824:=by have:=hi.OE;omega);(have n2:S.steps<=1073741824:=by have:=hi.st;omega);have hm: ∀(j:Nat) (P:List Nat),G.parts[j]? =some P->j≠1->∀x∈P,x∉EL G.t1 G.g1:=λj P hj hne x hx=>h.lay.ne hj (j:=1) rfl hne x hx;refine (Zr 73 #[_,_,_] @AQI G.b G.t1 (some G.t2) G.A G.Aw S.FQ.length G.c S.wr.length G.cw S.BR S.stop S.steps G.vs w (λw'=>Rf w G.t1 G.g1 G.ib (FH.on S.seen (.create d n i)) w') (EL G.t1 G.g1) ((lZ h.Ep h.Kt hi.val hok hx hk hj).mono (λe w' hq=>⟨hq.1,hq.2,hq.2.2⟩)) h.blk h.own (hm 0 _ rfl Az _ AY) (hm 3 _ rfl Az) n1 n2).mono ?_;rintro e w' ⟨rfl,w1,hcl,hc0,hc1,A',c',hb,ho,hA⟩;exact⟨rfl,h.did ⟨x,k,j,rfl,Kx,Kk,Kj,hx,hk,hj,by rw[h.QG];exact hok.1⟩ hcl hc1 hb ho hA⟩
theorem Gx{S:St}{there:Bool}{ns:List ByteArray}(h:S.ask there ns=0):S.down=false/\(∀n∈ns,DR n=true)/\(there=true->∃F,BJ S.seen (ns.headD ByteArray.empty)=some F):=by
 unfold St.ask at h
 cases hd:S.down with
 |true=>rw[if_pos hd] at h;cases h|false=>
  rw[if_neg (by simp[hd])] at h
  cases hg:ns.all DR with
  |false=>rw[if_pos hg] at h;cases h|true=>
   rw[if_neg (by simp[hg])] at h;refine⟨rfl,λn hn=>CO.1 hg n hn,λht=>?_⟩
   cases hs:BJ S.seen (ns.headD ByteArray.empty) with|some F=>exact⟨F,rfl⟩|none=>rw[if_pos ⟨ht,by rw[hs];rfl⟩] at h;cases h
theorem AFU{w:World}{G:Bg}{S:St}{B:Nat}(h:ED w G S)(hi:Inv B S)(hB:B<=1073741824)(d:ByteArray):
  Calls Ae 42 #[.pointer (some ⟨G.b,0,none⟩),.string d] w λe w'=>e=.returned (.int .i64 (S.Dn d).2)/\DI w G (S.Dn d).1 w':=by
 have HF:=AQ h;have HI:=AQ hi;have HB:=AQ hB;clear h hi hB;have Qu:= @fM;have k71:= @AAT;go_enter AKc,Tryz.ntmps42;(go_wp2_with fail);have hal:AZ [] w ((w.alloc (.cells #[.string d] 9)).alloc (.cells #[.string d] 9)):=((AZ.refl _ _).alloc _).alloc _;refine (U6 (HF.out.CX hal) false _ 1 1 [d] (by simpa[Oi] using (Own.lit (w.alloc (.cells #[.string d] 9)) 9 1 #[.string d] 1 Az rfl).rd) Az AY).mono ?_;rintro e w1 ⟨rfl,hc1⟩;have DC:Hid (AZ [] w w1):=AQ (hal.Aq hc1);have hk:w1.cell? ⟨w.heap.size,0,none⟩=some (.string d):=hc1.cell (((Bo.new w 9 #[.string d]).alloc _).cell 0) (λh=>AB h);(have hs1:w.heap.size<w1.heap.size:=by have:=hc1.size;simp at this;omega);have Fp:=AQ (HF.out.sS DC.out (AP _) hs1);clear hc1 hal hs1;obtain⟨E,hE⟩: ∃E,S.ask false [d]=E:=⟨_,rfl⟩;rw[hE];have HE:=AQ hE;clear hE;by_cases h:E=0
 ·subst h;have h0:=Fp.out.blk.cell 0;simp at h0;have hl:=λq=>(Mp.lookup (Fp.out.Ep.top.Am ((AZ.refl [] w1).drewN q) AB) (Cm J4) IZ (z:=.map none) Ap d).1;have hq:=λw r=>run_neq_map_nil (P:=Ae) w 130 _ _ r Oc;simp only[EZ] at hl
  cases hd:BJ G.g1 d with
  |some e=>
   rw[hd] at hl;simp only[Option.map_some,Option.getD_some] at hl
   have HR:Hid (S.Dn d=(S,83)):=AQ (by
    have:=HF.out.Kt.top d;rw[hd] at this;unfold St.Dn
    rw[if_neg (by rw[HE.out];simp),if_pos (by rw[<- this];rfl)])
   clear hd;(go_wp2_with fail);go_quiet (fail);go_wp2;go_ret;exact⟨by rw[HR.out];rfl,by rw[HR.out];exact DI.same HF.out (DC.out.drewN _)⟩
  |none=>
   rw[hd] at hl;simp only[Option.map_none,Option.getD_none] at hl
   have hT:BJ S.seen d=none:=by
    have:=HF.out.Kt.top d;rw[hd] at this
    cases hs:BJ S.seen d with|none=>rfl|some F=>rw[hs] at this;cases this
   have HR:Hid (S.Dn d=(S.make (.Dn d),0)):=AQ (by
    unfold St.Dn
    rw[if_neg (by rw[HE.out];simp),if_neg (by rw[hT];simp)])
   have HT:=AQ hT;clear hd hT;(go_wp2_with fail);go_quiet (fail);(go_wp2_with fail);refine (AAn (Fp.out.CX ((AZ.refl [] w1).drewN _)) HI.out HB.out ⟨(Gx HE.out).2.1 d AY,HT.out⟩ (k:=w.heap.size) AY (((AZ.refl [] w1).drewN _).cell hk AB)).mono ?_;rintro e w2 ⟨rfl,hto⟩;have xI:=AQ hto;clear hto;go_wp2;go_ret;exact⟨by rw[HR.out];rfl,by rw[HR.out];exact xI.out.of (DC.out.drewN _) rfl (Bg.UR (AP _))⟩
 (have hb:(E !=0)=true:=by simp[h]);have HR:Hid (S.Dn d=(S,E)):=AQ (by unfold St.Dn;rw[HE.out,if_pos h]);clear h;go_wp2;go_ret;exact⟨by rw[HR.out];rfl,by rw[HR.out];exact DI.same HF.out DC.out⟩
theorem ED.AC1{w w1:World}{G:Bg}{S:St}(h:ED w G S)(hc:AZ [] w w1)(hx1:w.heap.size+1<w1.heap.size):ED w1 {G with K:=(w.heap.size+1)::w.heap.size::G.K} S:=by
 have hc0:AZ [] w (w.alloc (.map #[] 0)):=(AZ.refl _ _).alloc _;have h1:=h.sS (x:=w.heap.size) hc0 (AP _) AY;have h2:=h.sS (x:=w.heap.size) hc (AP _) Ac;refine⟨h2.blk,h2.Ep,h2.Kt,h2.Oy,h2.Oz,h2.own,λi c v a b=>(h2.O0 i c v a b).keep (AZ.refl [] w1) EY (λ_ hm=>Aj _ hm) (λ_ _=>rfl) (AP _),h2.cO,h2.QG,h2.Vx,h2.Qk,h2.Yy,λy hy=>Aj _ (h2.Vy y hy),h2.ino,?_⟩
 exact h1.lay.Em (w':=w1) (i:=5) (P':=(w.heap.size+1)::w.heap.size::G.K) rfl (λy hy=>by
  rcases AA.1 hy with rfl|hy;right;simp
  ·exact .inl hy) (λy hy=>by
  rcases AA.1 hy with rfl|hy;exact hx1
  exact h2.lay.lt (w.heap.size::G.K) (Aa (i:=5) rfl) y hy) (by simp;omega)
theorem Bg.Yz{G:Bg}{x y B:Nat}(hx:B<=x)(hy:B<=y): ∀z∈Bg.all {G with K:=y::x::G.K},z∈G.all\/B<=z:=by
 intro z hz;rcases Bg.UR (G:={G with K:=x::G.K}) hy z hz with h|h;exact Bg.UR hx z h;exact .inr h
theorem Mp.len{κ:Type}{w:World}{b:Nat}{kv:κ->Value}{m:List (κ×Value)}(h:Mp w b kv m){t k e ty:TypeId}(ht:Ae.underlying t=some (.map k e)):(Builtin.len_ #[t] ty #[.map (some b)]).run Ae w=.ok (.int .i64 (m.length:Int)) w:=by
 obtain⟨es,clock,hb,he,_⟩:=h;(have hl:es.size=m.length:=by have:=congrArg List.length he;simpa using this);(have hrun:(getObj b).run Ae w=.ok (.map es clock) w:=by simp[getObj,Sem.run,hb]);simp[Builtin.len_,run_underlying ht,hrun,hl,goInt]
theorem AFV{w:World}{G:Bg}{S:St}{B:Nat}(h:ED w G S)(hi:Inv B S)(hB:B<=1073741824)(d:ByteArray):
  Calls Ae 99 #[.pointer (some ⟨G.b,0,none⟩),.string d] w λe w'=>e=.returned (.int .i64 (S.rmdir d).2)/\DI w G (S.rmdir d).1 w':=by
 have HF:=AQ h;have HI:=AQ hi;have HB:=AQ hB;clear h hi hB;have Qu:= @fM;have k71:= @AAT;go_enter ALD,Tryz.ntmps99;(go_wp2_with fail);have hal:AZ [] w ((w.alloc (.cells #[.string d] 9)).alloc (.cells #[.string d] 9)):=((AZ.refl _ _).alloc _).alloc _;refine (U6 (HF.out.CX hal) true _ 1 1 [d] (by simpa[Oi] using (Own.lit (w.alloc (.cells #[.string d] 9)) 9 1 #[.string d] 1 Az rfl).rd) Az AY).mono ?_;rintro e w1 ⟨rfl,hc1⟩;have DC:Hid (AZ [] w w1):=AQ (hal.Aq hc1);have hk:w1.cell? ⟨w.heap.size,0,none⟩=some (.string d):=hc1.cell (((Bo.new w 9 #[.string d]).alloc _).cell 0) (λh=>AB h);(have hs1:w.heap.size<w1.heap.size:=by have:=hc1.size;simp at this;omega);have Fp:=AQ (HF.out.sS DC.out (AP _) hs1);clear hc1 hal hs1;obtain⟨E,hE⟩: ∃E,S.ask true [d]=E:=⟨_,rfl⟩;rw[hE];have HE:=AQ hE;clear hE;by_cases h:E=0
 ·subst h;obtain⟨F,hF⟩:=(Gx HE.out).2.2 rfl;simp only[List.headD_cons] at hF;obtain⟨g,hg,hsub⟩:=HF.out.Kt.get hF;have h0:=Fp.out.blk.cell 0;simp at h0;have hl:=λq=>(Mp.lookup (Fp.out.Ep.top.Am ((AZ.refl [] w1).drewN q) AB) (Cm J4) IZ (z:=.map none) Ap d).1;rw[show G.g1=({G with K:=w.heap.size::G.K}:Bg).g1 from rfl] at hg;have hlen:=λq ty=>Mp.len ((Fp.out.Ep.sub _ (CP hg)).Am ((AZ.refl [] w1).drewN q) AB) (ty:=ty) Oc;simp only[EZ,hg] at hl;simp only[Option.map_some,Option.getD_some] at hl
  have hfl:(IU g.2).length=F.length:=by
   have:=(bz hsub (Fp.out.Ep.Q5 (CP hg)) (HI.out.val.sub _ (CP hF))).length_eq;simpa[IU] using this
  simp only[hfl] at hlen;have Vz:=AQ hF;clear hg hsub hfl hF;by_cases hz:0<F.length
  ·have hz1: ¬F.length=0:=by omega
   have HR:Hid (S.rmdir d=(S,84)):=AQ (by
    unfold St.rmdir;rw[if_neg (by rw[HE.out];simp),if_pos (by rw[GU Vz.out];exact hz)]
    rfl)
   (go_wp2_with fail);go_quiet (fail);go_wp2;go_ret;exact⟨by rw[HR.out];rfl,by rw[HR.out];exact DI.same HF.out (DC.out.drewN _)⟩
  (have hz0:F.length=0:=by omega);rw[hz0] at hlen
  have HR:Hid (S.rmdir d=(S.make (.rmdir d),0)):=AQ (by
   unfold St.rmdir
   rw[if_neg (by rw[HE.out];simp),if_neg (by rw[GU Vz.out];exact hz)])
  clear hz hz0;(go_wp2_with fail);go_quiet (fail);(go_wp2_with fail);refine (AAo (Fp.out.CX ((AZ.refl [] w1).drewN _)) HI.out HB.out ⟨F,Vz.out⟩ (k:=w.heap.size) AY (((AZ.refl [] w1).drewN _).cell hk AB)).mono ?_;rintro e w2 ⟨rfl,hto⟩;have xI:=AQ hto;clear hto;go_wp2;go_ret;exact⟨by rw[HR.out];rfl,by rw[HR.out];exact xI.out.of (DC.out.drewN _) rfl (Bg.UR (AP _))⟩
 (have hb:(E !=0)=true:=by simp[h]);have HR:Hid (S.rmdir d=(S,E)):=AQ (by unfold St.rmdir;rw[HE.out,if_pos h]);clear h;go_wp2;go_ret;exact⟨by rw[HR.out];rfl,by rw[HR.out];exact DI.same HF.out DC.out⟩
theorem AC2{w:World}{G:Bg}{S:St}{B:Nat}(h:ED w G S)(hi:Inv B S)(hB:B<=1073741824)(d n:ByteArray):
  Calls Ae 52 #[.pointer (some ⟨G.b,0,none⟩),.string d,.string n] w λe w'=>e=.returned (.int .i64 (S.rename d n).2)/\DI w G (S.rename d n).1 w':=by
 have HF:=AQ h;have HI:=AQ hi;have HB:=AQ hB;clear h hi hB;have Qu:= @fM;have k71:= @AAT;go_enter AKk,Tryz.ntmps52;(go_wp2_with fail);have hal:AZ [] w (((w.alloc (.cells #[.string d] 9)).alloc (.cells #[.string n] 9)).alloc (.cells #[.string d,.string n] 9)):=(((AZ.refl _ _).alloc _).alloc _).alloc _;(have hsz:((w.alloc (.cells #[.string d] 9)).alloc (.cells #[.string n] 9)).heap.size=w.heap.size+2:=by simp);refine (U6 (HF.out.CX hal) true _ 2 2 [d,n] (by simpa[Oi] using (Own.lit ((w.alloc (.cells #[.string d] 9)).alloc (.cells #[.string n] 9)) 9 1 #[.string d,.string n] 2 Az rfl).rd) Az AY).mono ?_;rintro e w1 ⟨rfl,hc1⟩;have DC:Hid (AZ [] w w1):=AQ (hal.Aq hc1);have hk:w1.cell? ⟨w.heap.size,0,none⟩=some (.string d):=hc1.cell ((((Bo.new w 9 #[.string d]).alloc _).alloc _).cell 0) (λh=>AB h);have hj:w1.cell? ⟨w.heap.size+1,0,none⟩=some (.string n):=hc1.cell (by simpa using (((Bo.new (w.alloc (.cells #[.string d] 9)) 9 #[.string n]).alloc _).cell 0)) (λh=>AB h);(have hs1:w.heap.size+1<w1.heap.size:=by have:=hc1.size;simp at this;omega);have Fp:=AQ ((HF.out.sS DC.out (AP w.heap.size) Ac));have AEE:Hid (w.heap.size+1<w1.heap.size):=AQ hs1;clear hc1 hal hs1 hsz;obtain⟨E,hE⟩: ∃E,S.ask true [d,n]=E:=⟨_,rfl⟩;rw[hE];have HE:=AQ hE;clear hE;by_cases h:E=0
 ·subst h;obtain⟨F,hF⟩:=(Gx HE.out).2.2 rfl;simp only[List.headD_cons] at hF;have Vz:=AQ hF
  have HR:Hid (S.rename d n=(S.make (.rename d n),0)):=AQ (by
   unfold St.rename
   rw[if_neg (by rw[HE.out];simp)])
  clear hF;(go_wp2_with fail);refine (xG (HF.out.AC1 DC.out AEE.out) HI.out HB.out ⟨(Gx HE.out).2.1 n AY,F,Vz.out⟩ (k:=w.heap.size) (j:=w.heap.size+1) AY hk AY hj).mono ?_;rintro e w2 ⟨rfl,hto⟩;have xI:=AQ hto;clear hto;go_wp2;go_ret;exact⟨by rw[HR.out];rfl,by rw[HR.out];exact xI.out.of DC.out rfl (Bg.Yz (AP _) Ac)⟩
 (have hb:(E !=0)=true:=by simp[h]);have HR:Hid (S.rename d n=(S,E)):=AQ (by unfold St.rename;rw[HE.out,if_pos h]);clear h;go_wp2;go_ret;exact⟨by rw[HR.out];rfl,by rw[HR.out];exact DI.same HF.out DC.out⟩
theorem UT{S:St}{d n:ByteArray}{x:Nat}{e:Int}(h:S.Qj d n=(some x,e)):e=0/\S.down=false/\∃F,BJ S.seen d=some F/\BJ F n=some x:=by
 unfold St.Qj at h;by_cases h0:S.ask true [d,n]=0
 ·rw[if_neg (by simp[h0])] at h;obtain⟨hd,_,hF⟩:=Gx h0;obtain⟨F,hF⟩:=hF rfl;simp only[List.headD_cons] at hF;rw[GU hF] at h
  cases hn:BJ F n with|none=>rw[hn] at h;cases h|some i=>rw[hn] at h;injection h with h1 h2;injection h1 with h1;subst h1;exact⟨h2.symm,hd,F,hF,hn⟩
 rw[if_pos h0] at h;cases h
theorem mD{S:St}{d n:ByteArray}{e:Int}(h:S.Qj d n=(none,e)):e≠0:=by
 unfold St.Qj at h;by_cases h0:S.ask true [d,n]=0
 ·rw[if_neg (by simp[h0])] at h
  cases hn:BJ (GR S.seen d) n with
  |none=>rw[hn] at h;injection h with _ h2;rw[<- h2];decide
  |some i=>rw[hn] at h;cases h
 rw[if_pos h0] at h;injection h with _ h2;rw[<- h2];exact h0
theorem AC3{w:World}{G:Bg}{S:St}{B:Nat}(h:ED w G S)(hi:Inv B S)(hB:B<=1073741824)(d n:ByteArray):
  Calls Ae 98 #[.pointer (some ⟨G.b,0,none⟩),.string d,.string n] w λe w'=>e=.returned (.int .i64 (S.remove d n).2)/\DI w G (S.remove d n).1 w':=by
 have HF:=AQ h;have HI:=AQ hi;have HB:=AQ hB;clear h hi hB;have k71:= @AAT;have k81:= @AHk;go_enter ALC,Tryz.ntmps98;(go_wp2_with fail);have hal:AZ [] w ((w.alloc (.cells #[.string d] 9)).alloc (.cells #[.string n] 9)):=((AZ.refl _ _).alloc _).alloc _;refine (lu (HF.out.CX hal) d n).mono ?_;rintro e w1 ⟨rfl,hc1⟩;have DC:Hid (AZ [] w w1):=AQ (hal.Aq hc1);have hk:w1.cell? ⟨w.heap.size,0,none⟩=some (.string d):=hc1.cell (((Bo.new w 9 #[.string d]).alloc _).cell 0) (λh=>AB h);have hj:w1.cell? ⟨w.heap.size+1,0,none⟩=some (.string n):=hc1.cell AY (λh=>AB h);(have hs1:w.heap.size+1<w1.heap.size:=by have:=hc1.size;simp at this;omega);have AEE:Hid (w.heap.size+1<w1.heap.size):=AQ hs1;clear hc1 hal hs1;obtain⟨o,E,hE⟩: ∃o E,S.Qj d n=(o,E):=⟨_,_,rfl⟩;rw[hE];have HE:=AQ hE
 cases o with
 |some x=>
  obtain⟨he0,hd0,F,hF,hx⟩:=UT hE;subst he0;have Vz:=AQ hF;have HR:Hid (S.remove d n=(S.make (.remove d n),0)):=AQ (by unfold St.remove;rw[HE.out]);clear hF hE hx hd0;simp only[Wq,Option.map_some];(go_wp2_with fail);refine (xE (HF.out.AC1 DC.out AEE.out) HI.out HB.out ⟨F,Vz.out⟩ (k:=w.heap.size) (j:=w.heap.size+1) AY hk AY hj).mono ?_;rintro e w2 ⟨rfl,hto⟩;have xI:=AQ hto;clear hto;go_wp2;go_ret;exact⟨by rw[HR.out];rfl,by rw[HR.out];exact xI.out.of DC.out rfl (Bg.Yz (AP _) Ac)⟩
 |none=>
  (have hb:(E !=0)=true:=by simpa using mD hE);have HR:Hid (S.remove d n=(S,E)):=AQ (by unfold St.remove;rw[HE.out]);clear hE;simp only[Wq,Option.map_none];go_wp2;go_ret;exact⟨by rw[HR.out];rfl,by rw[HR.out];exact DI.same HF.out DC.out⟩
theorem iM(fs:List Hg)(f:Hg):IK (fs++[f])=IK fs+(f.all.length+f.2.length):=by
 simp[IK]
theorem Inv.Zu{B:Nat}{S:St}(h:Inv B S)(f:List Int):Inv (B+f.length+1) {S with files:=S.files++[(f,[])]}:=by
 obtain⟨h1,h2,h3,h4,h5,h6,h7,h8,h9,h10⟩:=h;refine⟨h1.mono AY,AFT h2 AY,h3,λx hx=>by have:=h4 x hx;simp;omega,by simp only;omega,by simp;omega,?_,by simp only;omega,by simp only;omega,h10⟩;simp only[iM,Hg.all,List.flatten_nil,EK,List.length_nil];omega
theorem AC4{w:World}{G:Bg}{S:St}{B:Nat}(h:ED w G S)(hi:Inv B S)(hB:B+1<=1073741824)(d n:ByteArray):
  Calls Ae 44 #[.pointer (some ⟨G.b,0,none⟩),.string d,.string n] w λe w'=>e=.returned (.int .i64 (S.create d n).2)/\DI w G (S.create d n).1 w':=by
 have HF:=AQ h;have HI:=AQ hi;have HB:=AQ hB;clear h hi hB;have k59:= @ALN;have Qu:= @fM;have k71:= @AAT;go_enter AKe,Tryz.ntmps44;(go_wp2_with fail);have hal:AZ [] w (((w.alloc (.cells #[.string d] 9)).alloc (.cells #[.string n] 9)).alloc (.cells #[.string d,.string n] 9)):=(((AZ.refl _ _).alloc _).alloc _).alloc _;(have hsz:((w.alloc (.cells #[.string d] 9)).alloc (.cells #[.string n] 9)).heap.size=w.heap.size+2:=by simp);refine (U6 (HF.out.CX hal) true _ 2 2 [d,n] (by simpa[Oi] using (Own.lit ((w.alloc (.cells #[.string d] 9)).alloc (.cells #[.string n] 9)) 9 1 #[.string d,.string n] 2 Az rfl).rd) Az AY).mono ?_;rintro e w1 ⟨rfl,hc1⟩;have DC:Hid (AZ [] w w1):=AQ (hal.Aq hc1);have hk:w1.cell? ⟨w.heap.size,0,none⟩=some (.string d):=hc1.cell ((((Bo.new w 9 #[.string d]).alloc _).alloc _).cell 0) (λh=>AB h);have hj:w1.cell? ⟨w.heap.size+1,0,none⟩=some (.string n):=hc1.cell (by simpa using (((Bo.new (w.alloc (.cells #[.string d] 9)) 9 #[.string n]).alloc _).cell 0)) (λh=>AB h);(have hs1:w.heap.size+1<w1.heap.size:=by have:=hc1.size;simp at this;omega);have AEE:Hid (w.heap.size+1<w1.heap.size):=AQ hs1;have Fp:=AQ (HF.out.AC1 DC.out hs1);clear hc1 hal hs1 hsz;obtain⟨E,hE⟩: ∃E,S.ask true [d,n]=E:=⟨_,rfl⟩;rw[hE];have HE:=AQ hE;clear hE;by_cases h:E=0
 ·subst h;obtain⟨F,hF⟩:=(Gx HE.out).2.2 rfl;simp only[List.headD_cons] at hF;obtain⟨g,hg,hsub⟩:=HF.out.Kt.get hF;have h0:=Fp.out.blk.cell 0;simp at h0;have hl:=λq=>(Mp.lookup (Fp.out.Ep.top.Am ((AZ.refl [] w1).drewN q) AB) (Cm J4) IZ (z:=.map none) Ap d).1;rw[show G.g1=({G with K:=(w.heap.size+1)::w.heap.size::G.K}:Bg).g1 from rfl] at hg;have hl2:=λq=>(Mp.lookup ((Fp.out.Ep.sub _ (CP hg)).Am ((AZ.refl [] w1).drewN q) AB) (Cm J4) Oc (z:=.pointer none) Ap n).1;simp only[EZ,hg] at hl;simp only[Option.map_some,Option.getD_some] at hl;simp only at hl2;simp only[U2,hsub n] at hl2;have Vz:=AQ hF;clear hg hsub hF
  cases hx:BJ F n with
  |some x=>
   rw[hx] at hl2;simp only[Option.map_some,Option.getD_some] at hl2
   have HR:Hid (S.create d n=(S,83)):=AQ (by
    unfold St.create
    rw[if_neg (by rw[HE.out];simp),if_pos (by rw[GU Vz.out,hx];rfl)])
   clear hx;(go_wp2_with fail);go_quiet (fail);go_wp2;go_ret;exact⟨by rw[HR.out];rfl,by rw[HR.out];exact DI.same HF.out (DC.out.drewN _)⟩
  |none=>
   rw[hx] at hl2;simp only[Option.map_none,Option.getD_none] at hl2
   have HR:Hid (S.create d n=(({S with files:=S.files++[([],[])]}:St).make (.create d n S.files.length),0)):=AQ (by
    unfold St.create
    rw[if_neg (by rw[HE.out];simp),if_neg (by rw[GU Vz.out,hx];simp)])
   have HX:=AQ hx;clear hx;(go_wp2_with fail);go_quiet (fail);(go_wp2_with fail);refine (new_any none 0 0 [] _ Az (Rd.nil _ _)).mono ?_;rintro e w2 ⟨sg,L,rfl,hs,hc2,hLn⟩;have HC2:Hid (AZ [] w1 w2):=AQ (((AZ.refl [] w1).drewN _).Aq hc2);have HS:=AQ hs;have HLN:Hid (∀k∈L,w1.heap.size<=k):=AQ hLn;have hk2:=HC2.out.cell hk AB;have hj2:=HC2.out.cell hj AB;clear hs hc2 hLn hk hj h0 hl hl2;(go_wp2_with fail);have hF2:=Fp.out.Zu HI.out HC2.out HLN.out HS.out (w2:=w2.alloc (.cells #[.pointer (some ⟨sg,0,none⟩)] 126)) ((AZ.refl [] w2).alloc _) (x:=w2.heap.size) (AP _) (Bo.new w2 126 #[.pointer (some ⟨sg,0,none⟩)]);have hF3:=hF2.sS (w1:=(w2.alloc (.cells #[.pointer (some ⟨sg,0,none⟩)] 126)).alloc (.cells #[.pointer (some ⟨w2.heap.size,0,none⟩)] 121)) ((AZ.refl [] _).alloc _) (x:=w2.heap.size+1) AY AY;have hc4:AZ [] w2 ((w2.alloc (.cells #[.pointer (some ⟨sg,0,none⟩)] 126)).alloc (.cells #[.pointer (some ⟨w2.heap.size,0,none⟩)] 121)):=((AZ.refl [] w2).alloc _).alloc _
   have hx4:((w2.alloc (.cells #[.pointer (some ⟨sg,0,none⟩)] 126)).alloc (.cells #[.pointer (some ⟨w2.heap.size,0,none⟩)] 121)).cell? ⟨w2.heap.size+1,0,none⟩=some (.pointer (some ⟨w2.heap.size,0,none⟩)):=by
    simp
   (have hib:EC (G.ib++[w2.heap.size]) S.files.length=w2.heap.size:=by rw[<- HF.out.QG];exact AAm _ _);have hin:=HI.out.Zu [];refine (xH hF3 hin (by simpa using HB.out) (i:=S.files.length) ⟨AY,(Gx HE.out).2.1 n AY,F,Vz.out,HX.out⟩ (x:=w2.heap.size+1) (k:=w.heap.size) (j:=w.heap.size+1) AY (by show _=some (Value.pointer (some ⟨EC (G.ib++[w2.heap.size]) S.files.length,0,none⟩));rw[hib];exact hx4) AY (hc4.cell hk2 AB) AY (hc4.cell hj2 AB)).mono ?_;rintro e w5 ⟨rfl,hto⟩;have xI:=AQ hto;have hsz2:=HC2.out.size;have hsz1:=DC.out.size
   have Lc:Hid (∀y∈Bg.all {b:=G.b,t1:=G.t1,t2:=G.t2,g1:=G.g1,g2:=G.g2,A:=G.A,c:=G.c,vs:=G.vs,Aw:=G.Aw,cw:=G.cw,K:=(w2.heap.size+1)::w2.heap.size::(w.heap.size+1)::w.heap.size::G.K,ib:=G.ib++[w2.heap.size],sg:=G.sg++[sg],Ls:=G.Ls++[L]},y∈G.all\/w.heap.size<=y):=AQ (λy hy=>by
    rcases Bg.UR (B:=w.heap.size) (G:={G with K:=w2.heap.size::(w.heap.size+1)::w.heap.size::G.K,ib:=G.ib++[w2.heap.size],sg:=G.sg++[sg],Ls:=G.Ls++[L]}) (x:=w2.heap.size+1) Ac y hy with h1|h1
    ·rcases Bg.xC (B:=w.heap.size) (G:={G with K:=(w.heap.size+1)::w.heap.size::G.K}) (x:=w2.heap.size) (L:=L) (g:=sg) Ac (λk hk=>by have:=HLN.out k hk;omega) y h1 with h2|h2;exact Bg.Yz (AP _) Ac y h2;exact .inr h2
    exact .inr h1)
   have HCC:Hid (AZ [] w ((w2.alloc (.cells #[.pointer (some ⟨sg,0,none⟩)] 126)).alloc (.cells #[.pointer (some ⟨w2.heap.size,0,none⟩)] 121))):=AQ ((DC.out.Aq HC2.out).Aq hc4);clear hto hF2 hF3 hc4 hx4 hib hin hk2 hj2 hsz2 hsz1;go_wp2;go_ret;exact⟨by rw[HR.out];rfl,by rw[HR.out];exact xI.out.of HCC.out rfl Lc.out⟩
 (have hb:(E !=0)=true:=by simp[h]);have HR:Hid (S.create d n=(S,E)):=AQ (by unfold St.create;rw[HE.out,if_pos h]);clear h;go_wp2;go_ret;exact⟨by rw[HR.out];rfl,by rw[HR.out];exact DI.same HF.out DC.out⟩
open Go.ChangeMaps Go.MapKept
def JM {κ:Type} (w:World) (b r:Nat) (kv:κ->Value) (m todo:List (κ×Value)):Prop:=
 ∃es clock since seen c0,w.heap[b]? =some (.map es clock)/\es.toList.map (λe=>(e.key,e.val))=m.map (λp=>(kv p.1,p.2))/\(m.map Prod.fst).Nodup/\(es.toList.map (·.born)).Nodup/\(∀e∈es.toList,e.born<clock)/\
  w.heap[r]? =some (.mapIter (some b) since seen c0)/\(∀x∈es.toList,x.born<since)/\since<=c0/\since<=clock/\(leftOf es seen).toList.map (λe=>(e.key,e.val))=todo.map (λp=>(kv p.1,p.2))
theorem AAp{α:Type}{l:List α}{i:Nat}{p:α}(h:l[i]? =some p):l.Perm (p::l.eraseIdx i):=by
 induction l generalizing i with
 |nil=>simp at h|cons x l ih=>
  cases i with
  |zero=>simp at h;subst h;exact EF _|succ i=>
   simp at h;rw[List.eraseIdx_cons_succ];exact ((ih h).cons x).trans (List.Perm.swap _ _ _)
theorem xJ{l:List MapEntry}{i:Nat}{e:MapEntry}(hnb:(l.map (·.born)).Nodup)(hi:l[i]? =some e):l.filter (λx=>x.born !=e.born)=l.eraseIdx i:=by
 induction l generalizing i with
 |nil=>simp at hi|cons x l ih=>
  rw[AL,DW] at hnb
  cases i with
  |zero=>
   simp at hi;subst hi;rw[Io];simp only[bne_self_eq_false,Ak,if_false,List.eraseIdx_zero,List.tail_cons];rw[JX];intro y hy;simp only[bne_iff_ne,ne_eq];intro e2;exact hnb.1 (Ag.2 ⟨y,hy,e2⟩)
  |succ i=>
   simp at hi;rw[Io]
   have hx:(x.born !=e.born)=true:=by
    simp only[bne_iff_ne,ne_eq];intro e2;exact hnb.1 (Ag.2 ⟨e,Aa hi,e2.symm⟩)
   rw[if_pos hx,List.eraseIdx_cons_succ];congr 1;exact ih hnb.2 hi
section
variable {κ:Type} {w w':World} {b r:Nat} {kv:κ->Value} {m todo:List (κ×Value)} {L:List Nat}
theorem JM.mp(h:JM w b r kv m todo):Mp w b kv m:=by
 obtain⟨es,clock,_,_,_,hb,he,hn,hs,hc,_⟩:=h;exact⟨es,clock,hb,he,hn,hs,hc⟩
theorem JM.lt(h:JM w b r kv m todo):r<w.heap.size:=by
 obtain⟨es,clock,_,_,_,hb,he,hn,hs,hc,hr,_⟩:=h;exact (BK.1 hr).1
theorem JM.Am(h:JM w b r kv m todo)(hc:AZ L w w')(h1:b∉L)(h2:r∉L):JM w' b r kv m todo:=by
 have hl:=h.lt;have hl2:=h.mp.lt;obtain⟨es,clock,since,seen,c0,hb,he,hn,hs,hcl,hr,rest⟩:=h;exact⟨es,clock,since,seen,c0,(hc.block b hl2 h1).trans hb,he,hn,hs,hcl,(hc.block r hl h2).trans hr,rest⟩
theorem JM.left_eq(h:JM w b r kv m todo):w.rangeLeft b r=todo.length:=by
 obtain⟨es,clock,since,seen,c0,hb,_,_,_,_,hr,_,_,_,hl⟩:=h;simp only[World.rangeLeft,hb,hr];have:=congrArg List.length hl;simpa using this
theorem JM.ne(h:JM w b r kv m todo):r≠b:=by
 obtain⟨es,clock,since,seen,c0,hb,_,_,_,_,hr,_⟩:=h;intro e;rw[e,hb] at hr;cases hr
theorem JM.start{P:Program}{t k e:TypeId}(h:Mp w b kv m)(ht:P.underlying t=some (.map k e)):
  ∃w',(Instr.range t (.map (some b))).run P w=.ok (.pointer (some ⟨w.heap.size,0,none⟩)) w'/\JM w' b w.heap.size kv m m/\AZ [] w w'/\w'.heap.size=w.heap.size+1:=by
 have hl:=h.lt;obtain⟨es,clock,hb,he,hn,hs,hc⟩:=h;refine⟨_,run_range_map w t k e b es clock ht hb,⟨es,clock,clock,#[],clock,((MapKept.heap_alloc w _).2 b hl).trans hb,he,hn,hs,hc,(MapKept.heap_alloc w _).1,hc,AP _,AP _,?_⟩,(AZ.refl _ _).alloc _,AY⟩;(have:leftOf es #[]=es:=by simp[leftOf]);rw[this,he]
theorem JM.step{P:Program}(h:JM w b r kv m todo)(ty:TypeId):
  (todo=[]/\(Instr.next (.pointer (some ⟨r,0,none⟩)) false ty).run P w=.ok (.tuple #[.bool false]) w)\/
  ∃k v todo' w',(todo.Perm ((k,v)::todo'))/\(Instr.next (.pointer (some ⟨r,0,none⟩)) false ty).run P w=.ok (.tuple #[.bool true,kv k,v]) w'/\
   JM w' b r kv m todo'/\AZ [r] w w'/\(Instr.entry (.pointer (some ⟨r,0,none⟩))).run P w'=.ok (.tuple #[kv k,v]) w':=by
 have hne:=h.ne;obtain⟨es,clock,since,seen,c0,hb,he,hn,hs,hc,hr,hold,hsc,hsk,hl⟩:=h;rcases run_next_at (P:=P) w ty r b since c0 seen es clock hr hb hold hsc with ⟨h0,hrun⟩|⟨e,ALZ,w1,hal,hrun⟩
 ·left;refine⟨?_,hrun⟩;have:=congrArg List.length hl;simp only[BH,Array.length_toList] at this;exact E5 Ac
 right;have hem:=mem_left ALZ;obtain⟨i,hi⟩:=Eo ALZ;have hil:i<(leftOf es seen).toList.length:=(BB.1 hi).1;have hlen:=congrArg List.length hl;simp only[BH] at hlen;obtain⟨p,hp⟩: ∃p,todo[i]? =some p:=⟨_,Af Ac⟩
 have hkv:(e.key,e.val)=(kv p.1,p.2):=by
  have:=congrArg (λl=>l[i]?) hl;simp only[AV,hi,hp,Option.map_some] at this;exact BQ this
 have hnb:((leftOf es seen).toList.map (·.born)).Nodup:=by
  unfold leftOf;rw[Ip];exact hs.sublist (List.filter_sublist.map _)
 (have hr1:w1.heap[r]? =some (.mapIter (some b) since seen c0):=by rcases hal with rfl|rfl<;>exact hr);(have hb1:w1.heap[b]? =some (.map es clock):=by rcases hal with rfl|rfl<;>exact hb);have hset:=heap_set (o':=.mapIter (some b) since (seen.push e.born) clock) hr1;have hb':(setBlock w1 r (.mapIter (some b) since (seen.push e.born) clock)).heap[b]? =some (.map es clock):=(hset.2 b (λe1=>hne e1.symm)).trans hb1
 have hleft:(leftOf es (seen.push e.born)).toList=(leftOf es seen).toList.eraseIdx i:=by
  have e1:(leftOf es (seen.push e.born)).toList=(leftOf es seen).toList.filter (λx=>x.born !=e.born):=by
   unfold leftOf;rw[Ip,Ip,List.filter_filter];refine Jt λx _=>?_;rw[contains_push];cases seen.contains x.born<;>cases hxe:(x.born==e.born)<;>simp[bne,hxe]
  rw[e1];exact xJ hnb hi
 (have AQk:i<todo.length:=by omega);(have hpe:todo[i]=p:=by rw[Af AQk] at hp;exact BQ hp);injection hkv with hk1 hk2;refine⟨p.1,p.2,todo.eraseIdx i,_,?_,by rw[hrun,hk1,hk2],⟨es,clock,since,seen.push e.born,clock,hb',he,hn,hs,hc,hset.1,hold,hsk,hsk,?_⟩,?_,?_⟩;exact AAp hp;rw[hleft,<- RU,<- RU,hl]
 ·rcases hal with rfl|rfl<;>exact⟨rfl,rfl,rfl,by simp[setBlock],λi _ hi=>hset.2 i (λe1=>hi (by simp[e1]))⟩
 rw[<- hk1,<- hk2];exact run_entry_at _ r b since seen es clock e hset.1 hb' hem.1 hs
end
section
variable {P:Program} {κ:Type} {w:World} {ops:Array Oper} {rest:List Oper} {o:Oper} {a:Act} {Q:Exit->Act->World->Prop} {b r:Nat} {kv:κ->Value} {m todo:List (κ×Value)}
theorem Oo(hg:o.guard=none)(x:Operand)(t:TypeId)(hop:o.op=Op.range t x){k e:TypeId}(ht:P.underlying t=some (.map k e))(hx:a.eval x=.map (some b))(h:Mp w b kv m)
  (hK: ∀w',JM w' b w.heap.size kv m m->AZ [] w w'->w'.heap.size=w.heap.size+1->wpList P ops Q rest (a.put o.dst (.pointer (some ⟨w.heap.size,0,none⟩))) w'):wpList P ops Q (o::rest) a w:=by
 refine wpList_plain hg λK' hK'=>?_;obtain⟨w',hrun,r1,r2,r3⟩:=JM.start (P:=P) h ht;unfold Oper.wp;simp[execOp,hop,hx,hrun,Result.andThen];exact hK' _ _ (hK w' r1 r2 r3)
theorem QH(hg:o.guard=none)(it:Operand)(hop:o.op=Op.next it false)(hit:a.eval it=.pointer (some ⟨r,0,none⟩))(h:JM w b r kv m todo)
  (hDone:todo=[]->wpList P ops Q rest (a.put o.dst (.tuple #[.bool false])) w)
  (hMore: ∀(k:κ) (v:Value) (todo':List (κ×Value)) (w':World),todo.Perm ((k,v)::todo')->JM w' b r kv m todo'->AZ [r] w w'->
   (Instr.entry (.pointer (some ⟨r,0,none⟩))).run P w'=.ok (.tuple #[kv k,v]) w'->wpList P ops Q rest (a.put o.dst (.tuple #[.bool true,kv k,v])) w'):wpList P ops Q (o::rest) a w:=by
 refine wpList_plain hg λK' hK'=>?_;unfold Oper.wp;rcases h.step (P:=P) o.type with ⟨h0,hrun⟩|⟨k,v,todo',w',hp,hrun,AQl,hch,hen⟩
 ·simp[execOp,hop,hit,hrun,Result.andThen];exact hK' _ _ (hDone h0)
 simp[execOp,hop,hit,hrun,Result.andThen];exact hK' _ _ (hMore k v todo' w' hp AQl hch hen)
end
def xK (g g':MJ):Prop:=∀k,(BJ g' k).map (·.2)=(BJ g k).map (·.2)
theorem D5.copied{ib:List Nat}{g g':MJ}{T:Tr}(h:D5 ib g T)(hc:xK g g'):D5 ib g' T:=by
 refine⟨λk=>?_,λk d F hd hF n=>?_⟩
 ·have:=congrArg Option.isSome (hc k);rw[MV,MV] at this;rw[this];exact h.top k
 have:=hc k;rw[hd] at this
 cases hg:BJ g k with
 |none=>rw[hg] at this;cases this|some e=>
  rw[hg] at this;simp only[Option.map_some,BD] at this;rw[this];exact h.sub k e F hg hF n
theorem AC5{g g':MJ}(hn:(g.map Prod.fst).Nodup)(_:(g'.map Prod.fst).Nodup)(h1: ∀p∈g',∃q∈g,q.1=p.1/\q.2.2=p.2.2)(h2:(g'.map Prod.fst).Perm (g.map Prod.fst)):xK g g':=by
 intro k
 cases hk:BJ g' k with
 |none=>
  have:k∉g.map Prod.fst:=λh=>(Fa.1 hk) (h2.mem_iff.2 h);rw[Fa.2 this]
 |some e=>
  obtain⟨q,hq,e1,e2⟩:=h1 _ (CP hk);have:=Qh hn (show (k,q.2)∈g by rw[<- show q.1=k from e1];exact hq);rw[this];simp only[Option.map_some,BD];exact e2.symm
theorem AFW{κ α:Type}[DecidableEq κ]{t:List (κ×α)}{k:κ}(h:k∉t.map Prod.fst)(v:α):Dp t k v=t++[(k,v)]:=by
 unfold Dp;rw[RV.2 h]
theorem Wy(w:World)(tb:Nat)(g:MJ)(h:Tree w tb g):
  Calls Ae 54 #[.map (some tb)] w λe w'=>∃ob g',e=.returned (.map (some ob))/\Tree w' ob g'/\(∀x∈EL ob g',w.heap.size<=x)/\AZ [] w w'/\xK g g':=by
 have HT:=AQ h;have hmm:= @run_makeMap Ae;have hal:AZ [] w (w.alloc (.map #[] 0)):=(AZ.refl _ _).alloc _;have hmp:=h.top.Am hal AB;have HM:Hid (Mp (w.alloc (.map #[] 0)) w.heap.size IA []):=AQ (Mp.made w IA);clear h hal;have k86:= @AQM;go_enter AKm,Tryz.ntmps54;go_wp2_with (at_range;refine Oo rfl _ _ rfl IZ rfl hmp ?_;intro w0 hit0 hc0 hs0)
 go_frame
 obtain⟨ob,hob⟩: ∃ob,w.heap.size=ob:=⟨_,rfl⟩;obtain⟨r,hr⟩: ∃r,(w.alloc (.map #[] 0)).heap.size=r:=⟨_,rfl⟩;rw[hr] at hit0;have hc1:AZ [] w w0:=((AZ.refl [] w).alloc _).Aq hc0;(have hm0:Mp w0 ob IA []:=by rw[<- hob];exact HM.out.Am hc0 AB);rw[hr,hob];(have hrl:w.heap.size<=r:=by rw[<- hr];simp);(have hne:r∉[ob]:=by rw[<- hr,<- hob];simp);(have hnt:r∉EL tb g:=λhm=>by have:=HT.out.lt r hm;rw[<- hr] at this;simp at this;omega);(have hol:w.heap.size<=ob:=by omega);(have hot:tb≠ob:=by have:=HT.out.top.lt;omega);have HA:=AQ (show w.heap.size<=r/\r∉[ob]/\r∉EL tb g/\w.heap.size<=ob/\tb≠ob from ⟨hrl,hne,hnt,hol,hot⟩);clear hrl hne hnt hol hot;go_loopw [4] (λ_ wr=>∃done todo g',JM wr tb r IA (Ef g) todo/\(done++todo).Perm (Ef g)/\Tree wr ob g'/\(∀x∈EL ob g',w.heap.size<=x)/\AZ [] w wr/\(∀p∈g',∃q∈g,q.1=p.1/\q.2.2=p.2.2)/\g'.map Prod.fst=done.map Prod.fst) (λ_ wr=>wr.rangeLeft tb r)
 case atStart=>
  exact⟨[],Ef g,[],hit0,EF _,⟨hm0,AY,AY⟩,by simp[EL];exact HA.out.2.2.2.1,hc1,AY,rfl⟩
 obtain⟨done,todo,g',hit,hperm,htr,hnew,hch,hcp,hks⟩:=hrel;have HP:=AQ hperm;have iO:=AQ htr;have HN:=AQ hnew;have Dc:=AQ hch;have qE:=AQ hcp;have HKS:=AQ hks;have HIT:=AQ hit;clear hperm htr hnew hch hcp hks;go_wp2_with (at_next;refine QH rfl _ rfl rfl hit ?_ ?_)
 ·intro hdone;have HD:=AQ hdone;clear hdone;go_wp2;go_ret;have hp:=HP.out;rw[HD.out,EK] at hp;have hn:=iO.out.nodup;refine⟨ob,g',rfl,iO.out,HN.out,Dc.out,AC5 HT.out.nodup hn qE.out ?_⟩;rw[HKS.out,<- Om];exact hp.map _
 intro k v todo' w1 hp AEF UU hen;have hkv:(k,v)∈Ef g:=HP.out.mem_iff.1 (Bi _ (hp.mem_iff.2 (BZ ..)));obtain⟨q,hq,hqe⟩:=Ag.1 hkv;injection hqe with hq1 hq2;subst hq1;subst hq2
 have hkn:q.1∉g'.map Prod.fst:=by
  rw[HKS.out];intro hm;have hnd:=(HP.out.map Prod.fst).nodup_iff.2 (by rw[Om];exact HT.out.nodup);rw[Bf,EN] at hnd;exact hnd.2.2 _ hm _ (((hp.map Prod.fst).mem_iff).2 AY) rfl
 have hne1:=HIT.out.ne;have AC6:AZ [] w w1:=Dc.out.trans UU (λx hx=>by simp only[Ad] at hx;subst hx;exact .inr HA.out.1);have hsub:=(HT.out.sub q hq).Am AC6 AB
 have ALa:=iO.out.keep UU (λx hx hm=>by
  simp only[Ad] at hm;subst hm;rcases AA.1 hx with rfl|hx;exact HA.out.2.1 AY;obtain⟨p,hp',rfl⟩:=Ag.1 hx;have h1:=(iO.out.sub p hp');obtain⟨es,c,hb,_⟩:=h1;obtain⟨_,_,_,_,_,_,_,_,_,_,hbr,_⟩:=HIT.out
  rw[hb] at hbr;cases hbr)
 have Vh:=AQ hsub;have jP:=AQ hp;have HKN:=AQ hkn;have DC:=AQ AC6;have Zv:=AQ ALa;have sU:=AQ AEF;have HQ:=AQ hq;clear hp hkv hkn UU AC6 ALa hq hit hsub;(go_wp2_with fail);refine (AAd w1 q.2.1 _ Vh.out).mono ?_;rintro e w2 ⟨rfl,hm2,hc2⟩;obtain⟨w3,hu,hm3,hc3⟩:=Mp.update (Zv.out.top.Am hc2 AB) (Cm J4) IZ q.1 (.map (some w1.heap.size));have mF:AZ [ob] w1 w3:=(hc2.nil [ob]).trans hc3 (λx hx=>.inl hx);have hlo:=Zv.out.top.lt;(have hwo:w1.heap.size≠ob:=by omega);have hro:=HA.out.2.1;have AQm:=AQ (Tree.put (d:=q.1) (fb:=w1.heap.size) (f:=q.2.2) Zv.out.nodup Zv.out.sub Zv.out.apart mF hm3 (hm2.Am hc3 (by simpa using hwo)) (by simpa using hwo) (λp hp _=>by have:=(Zv.out.sub p hp).lt;omega) (λp hp _=>by simpa using Zv.out.Kr hp));have hlt:=sU.out.lt;have AEG:=AQ (sU.out.Am mF (by simpa using HA.out.2.2.2.2) hro);have GV:Hid (AZ [] w w3):=AQ (DC.out.trans mF (λx hx=>by simp only[Ad] at hx;subst hx;exact .inr HA.out.2.2.2.1));have QI:Hid (w.heap.size<=w1.heap.size):=AQ DC.out.size;clear hm2 hc2 hm3 hc3 mF hlo hwo hro hlt hne1;go_wp2;go_roundw
 case rel=>
  refine⟨done++[(q.1,Value.map (some q.2.1))],todo',Dp g' q.1 (w1.heap.size,q.2.2),AEG.out,?_,AQm.out,?_,GV.out,?_,?_⟩
  ·rw[Dt];exact (IP done jP.out.symm).trans HP.out
  ·intro x hx;rcases NT (B:=w.heap.size) Zv.out.nodup (.inr QI.out) x hx with h|h;exact HN.out x h;exact h
  ·intro p hp;rcases (Ji Zv.out.nodup).1 hp with rfl|⟨hp,_⟩;exact⟨q,HQ.out,rfl,rfl⟩;exact qE.out p hp
  rw[AFW HKN.out,Bf,Bf,HKS.out];rfl
 have h1:=AEG.out.left_eq;have h2:=HIT.out.left_eq;have h3:=jP.out.length_eq;rw[h1,h2,h3];simp
def Sl {α:Type} (c:α->Nat) (F:List (ByteArray×α)) (ks:List ByteArray):Nat:=(ks.map λn=>((BJ F n).map c).getD 0).sum
theorem Oq{α:Type}{c:α->Nat}{F:List (ByteArray×α)}{a b:List ByteArray}(h:a.Perm b):Sl c F a=Sl c F b:=(h.map _).sum_nat
theorem Ku{α:Type}{c:α->Nat}{F:List (ByteArray×α)}(a b:List ByteArray):Sl c F (a++b)=Sl c F a+Sl c F b:=by simp[Sl]
theorem Xg{α:Type}{c:α->Nat}{F:List (ByteArray×α)}{n:ByteArray}{x:α}(h:BJ F n=some x):Sl c F [n]=c x:=by simp[Sl,h]
theorem sV{α:Type}(c:α->Nat){F:List (ByteArray×α)}(hn:(F.map Prod.fst).Nodup):Sl c F (F.map Prod.fst)=(F.map λq=>c q.2).sum:=by
 unfold Sl;rw[Bq];congr 1;refine ES λq hq=>?_;simp only[Function.comp];rw[KH hn hq];rfl
theorem AAq{α:Type}(l:List α)(f:α->Nat)(M:Nat)(h: ∀x∈l,f x<=M):(l.map f).sum<=l.length*M:=by
 induction l with
 |nil=>simp|cons x r ih=>
  simp only[AL,List.sum_cons,List.length_cons];have h1:=h x AY;have h2:=ih (λy hy=>h y (Aj _ hy));rw[JH,Nat.one_mul];omega
def St.len (S:St) (i:Nat):Nat:=(S.bytes i).length
def St.YN (S:St) (F:Qi):Nat:=(F.map λq=>S.len q.2).sum
theorem Inv.len{B:Nat}{S:St}(h:Inv B S)(i:Nat):S.len i<=B:=by
 unfold St.len St.bytes;rw[CW]
 cases hf:S.files[i]? with
 |none=>simp[Hg.all]|some f=>
  have h1:=AEC (Aa hf);have h2:=h.bulk;simp only[Option.getD_some];omega
theorem AAr{S:St}(hd:S.down=false):S.used=(S.seen.map λp=>S.YN p.2).sum:=by
 unfold St.used St.view bytesOf;rw[if_neg (by simp[hd]),Bq];congr 1;refine ES λp _=>?_;simp only[Function.comp];rw[Bq];rfl
theorem xM{B:Nat}{S:St}(h:Inv B S)(T:Tr):(T.map λp=>S.YN p.2).sum<=wd T*B:=by
 unfold wd
 induction T with
 |nil=>simp|cons p r ih=>
  simp only[AL,List.sum_cons,JH];have h1:S.YN p.2<=p.2.length*B:=AAq _ _ B (λq _=>h.len q.2);omega
theorem AAs{B:Nat}{S:St}(h:Inv B S):S.used<=B*B:=by
 cases hd:S.down with
 |true=>unfold St.used St.view;rw[if_pos hd];simp[bytesOf]|false=>
  rw[AAr hd];exact Ah (xM h S.seen) (Ez _ h.wd)
theorem ED.AOs{w:World}{G:Bg}{S:St}(h:ED w G S){i:Nat}(hi:i<S.files.length): ∃g,Bo w (EC G.ib i) 126 #[.pointer (some ⟨g,0,none⟩)]/\Calls Ae 181 #[.pointer (some ⟨g,0,none⟩)] w (λe w'=>e=.returned (.int .i64 (S.len i:Nat))/\w'=w):=by
 have hf:S.files[i]? =some S.files[i]:=Af hi;obtain⟨x,g,L,h1,h2,h3,h4,h5⟩:=h.at_ hf;refine⟨g,by rw[xB h1];exact h4,size_any g L _ _ w h5 _ ?_⟩;unfold St.len St.bytes;rw[CW,hf];simp[Hg.all]
theorem AH7{w:World}{G:Bg}{S:St}{B:Nat}(h:ED w G S)(hi:Inv B S)(hB:B<=1073741824):
  Calls Ae 179 #[.pointer (some ⟨G.b,0,none⟩)] w λe w'=>e=.returned (.int .i64 (S.used:Int))/\AZ [] w w':=by
 have HF:=AQ h;have HI:=AQ hi
 have hU:S.used<=1152921504606846976:=by
  have h1:=AAs hi;have h2:B*B<=1073741824*1073741824:=VJ hB hB;omega
 have HU:=AQ hU;clear h hi hB hU;have k61:= @AHi;have AR8:= @ANw;go_enter AHZ,Tryz.ntmps179;(go_wp2_with fail);refine (AAl HF.out).mono ?_;rintro e w1 ⟨rfl,hc1⟩;have DC:=AQ hc1
 cases hd:S.down with
 |true=>
  have HR:Hid (S.used=0):=AQ (by unfold St.used St.view;rw[if_pos hd];rfl);clear hc1 hd;go_wp2;go_ret;exact⟨by rw[HR.out];rfl,DC.out⟩
 |false=>
  have HR:Hid (S.used=(S.seen.map λp=>S.YN p.2).sum):=AQ (AAr hd);have Fp:=AQ (HF.out.CX hc1);have h0:=Fp.out.blk.cell 0;simp at h0;have hmp:=Fp.out.Ep.top;clear hc1 hd;go_wp2_with (at_range;refine Oo rfl _ _ rfl IZ rfl hmp ?_;intro w0 hit0 hc0 hs0)
  go_frame
  obtain⟨r,hr⟩: ∃r,w1.heap.size=r:=⟨_,rfl⟩;rw[hr] at hit0⊢;have Td:Hid (AZ [] w w0):=AQ (DC.out.Aq hc0);have HRR:Hid (w.heap.size<=r):=AQ (by rw[<- hr];exact DC.out.size);clear hr hs0 hc0 h0 hmp
  have htot:Sl S.YN S.seen (G.g1.map Prod.fst)=S.used:=by
   rw[HR.out,Oq (HF.out.Kt.keys HF.out.Ep.nodup HI.out.val.Vu),sV _ HI.out.val.Vu.nodup]
  have ALb:=AQ htot;clear htot;go_loopw [2,4] (λs _ wr=>∃done todo,∃N:Nat,s=.int .i64 N/\JM wr G.t1 r IA (Ef G.g1) todo/\(done++todo).Perm (Ef G.g1)/\AZ [] w wr/\N=Sl S.YN S.seen (done.map Prod.fst)) (λ_ _ wr=>wr.rangeLeft G.t1 r)
  case atStart=>exact⟨[],Ef G.g1,0,rfl,hit0,EF _,Td.out,rfl⟩
  obtain⟨done,todo,N,rfl,hit,hperm,hch,hN⟩:=hrel;have HP:=AQ hperm;have Dc:=AQ hch;have HN:=AQ hN;have HIT:=AQ hit;clear hperm hch hN;go_wp2_with (at_next;refine QH rfl _ rfl rfl hit ?_ ?_)
  ·intro hdone;have HD:=AQ hdone;clear hdone;go_wp2;go_ret;have hp:=HP.out;rw[HD.out,EK] at hp;refine⟨?_,Dc.out⟩;rw[HN.out,Oq (hp.map Prod.fst),Om,ALb.out];rfl
  intro k v todo' w2 hp AEF UU hen;have hkv:(k,v)∈Ef G.g1:=HP.out.mem_iff.1 (Bi _ (hp.mem_iff.2 (BZ ..)));obtain⟨q,hq,hqe⟩:=Ag.1 hkv;injection hqe with hq1 hq2;subst hq1;subst hq2;have hgq:=KH HF.out.Ep.nodup hq
  obtain⟨F,hF⟩: ∃F,BJ S.seen q.1=some F:=by
   have:=HF.out.Kt.top q.1;rw[hgq] at this;exact VK.1 this.symm
  have hsub:=HF.out.Kt.sub _ _ _ hgq hF;have Xz:Rw F:=HI.out.val.sub _ (CP hF)
  have hall:Sl S.len F ((q.2.2).map Prod.fst)=S.YN F:=by
   rw[Oq (bz hsub (HF.out.Ep.Q5 hq) Xz),sV _ Xz.nodup];rfl
  have hle:N+S.YN F<=S.used:=by
   have e1:=Oq (c:=S.YN) (F:=S.seen) (((IP done hp.symm).trans HP.out).map Prod.fst);rw[Om,ALb.out,Bf,AL,Ku] at e1;rw[show (q.1::todo'.map Prod.fst)=[q.1]++todo'.map Prod.fst from rfl,Ku,Xg hF] at e1;have:=HN.out;omega
  have hC2:AZ [] w w2:=Dc.out.trans UU (λx hx=>by simp only[Ad] at hx;subst hx;exact .inr HRR.out);have hmq:=(HF.out.Ep.sub q hq).Am hC2 AB;have HC2:=AQ hC2;have Vh:=AQ hsub;have Lc:=AQ hall;have HLE:=AQ hle;have jP:=AQ hp;have sU:=AQ AEF;have Vz:=AQ hF;have HQ:=AQ hq;clear hkv hgq hF hsub Xz hall hle hC2 hp hit AEF UU hq;go_wp2_with (at_range;refine Oo rfl _ _ rfl Oc rfl hmq ?_;intro w3 hit3 hc3 hs3)
  go_frame
  obtain⟨r2,hr2⟩: ∃r2,w2.heap.size=r2:=⟨_,rfl⟩;rw[hr2] at hit3⊢;have GV:Hid (AZ [] w w3):=AQ (HC2.out.Aq hc3)
  have HR2:Hid (w.heap.size<=r2/\r≠r2/\G.t1≠r2):=AQ (by
   have h1:=HC2.out.size;have h2:=sU.out.lt;have h3:=sU.out.mp.lt
   refine⟨Ac,Ac,Ac⟩)
  have AEG:Hid (JM w3 G.t1 r IA (Ef G.g1) todo'):=AQ (sU.out.Am hc3 AB AB);clear hr2 hs3 hc3 hmq hen;go_loopw [2,6] (λs _ wr=>∃done2 AC7,∃M:Nat,s=.int .i64 ((N+M:Nat):Int)/\JM wr q.2.1 r2 IA (IU q.2.2) AC7/\JM wr G.t1 r IA (Ef G.g1) todo'/\(done2++AC7).Perm (IU q.2.2)/\AZ [] w wr/\M=Sl S.len F (done2.map Prod.fst)) (λ_ _ wr=>wr.rangeLeft q.2.1 r2)
  case atStart=>exact⟨[],IU q.2.2,0,rfl,hit3,AEG.out,EF _,GV.out,rfl⟩
  obtain⟨done2,AC7,M,rfl,AH8,ALc,AEH,ALd,hM⟩:=hrel;have HP2:=AQ AEH;have ALe:=AQ ALd;have HM:=AQ hM;have AQn:=AQ AH8;have AH9:=AQ ALc;clear AEH ALd hM ALc;go_wp2_with (at_next;refine QH rfl _ rfl rfl AH8 ?_ ?_)
  ·intro hdone;have HD:=AQ hdone;clear hdone;go_wp2;go_roundw
   case rel=>
    refine⟨done++[(q.1,Value.map (some q.2.1))],todo',N+M,rfl,AH9.out,(Dt done _ _▸(IP done jP.out.symm).trans HP.out),ALe.out,?_⟩;have hp2:=HP2.out;rw[HD.out,EK] at hp2;rw[Bf,Ku,AL,BC,Xg Vz.out,HM.out,Oq (hp2.map Prod.fst),Q4,Lc.out,HN.out]
   have h1:=AH9.out.left_eq;have h2:=HIT.out.left_eq;have h3:=jP.out.length_eq;rw[h1,h2,h3];simp
  intro k2 v2 xN w4 hp2 ALf AIA AR9;have ALg:(k2,v2)∈IU q.2.2:=HP2.out.mem_iff.1 (Bi _ (hp2.mem_iff.2 (BZ ..)));obtain⟨p,hp,hpe⟩:=Ag.1 ALg;injection hpe with hp1 hpv;subst hp1;subst hpv;have hgp:=KH (HF.out.Ep.Q5 HQ.out) hp
  obtain⟨i,hi,hix⟩: ∃i,BJ F p.1=some i/\EC G.ib i=p.2:=by
   have:=Vh.out p.1;rw[hgp] at this
   cases hFi:BJ F p.1 with|none=>rw[hFi] at this;cases this|some i=>rw[hFi] at this;injection this with this;exact⟨i,rfl,this.symm⟩
  have hil:=HI.out.val.ids _ (CP Vz.out) _ (CP hi);have hC4:AZ [] w w4:=ALe.out.trans AIA (λx hx=>by simp only[Ad] at hx;subst hx;exact .inr HR2.out.1);obtain⟨sg,hb4,hsz⟩:=(HF.out.CX hC4).AOs hil;rw[hix] at hb4;have c0:=hb4.cell 0;simp at c0
  have hle2:M+S.len i<=S.YN F:=by
   have e1:=Oq (c:=S.len) (F:=F) (((IP done2 hp2.symm).trans HP2.out).map Prod.fst);rw[Q4,Lc.out,Bf,AL,Ku] at e1;rw[show (p.1::xN.map Prod.fst)=[p.1]++xN.map Prod.fst from rfl,Ku,Xg hi] at e1;have:=HM.out;omega
  have hwr:wrap64 ((N:Int)+(M:Int)+(S.len i:Nat))=((N+(M+S.len i):Nat):Int):=by
   have h1:=HLE.out;have h2:=HU.out;unfold wrap64;omega
  have HWR:=AQ hwr;clear hwr;have MK:=AQ hC4;have HP5:=AQ hp2;have ALh:=AQ ALf;have AQo:Hid (JM w4 G.t1 r IA (Ef G.g1) todo'):=AQ (AH9.out.Am AIA (by simpa using HR2.out.2.2) (by simpa using HR2.out.2.1));have HII:=AQ hi;have QI:=AQ hsz;clear ALg hgp hi hix hil hC4 hb4 hle2 hp2 AH8 ALf AIA hp hsz;(go_wp2_with fail);refine QI.out.mono ?_;rintro e w5 ⟨rfl,rfl⟩;go_wp2;go_roundw
  case rel=>
   refine⟨done2++[(p.1,Value.pointer (some ⟨p.2,0,none⟩))],xN,M+S.len i,(congrArg (Value.int .i64) HWR.out),ALh.out,AQo.out,(Dt done2 _ _▸(IP done2 HP5.out.symm).trans HP2.out),MK.out,?_⟩;rw[Bf,Ku,AL,BC,Xg HII.out,HM.out]
  have h1:=ALh.out.left_eq;have h2:=AQn.out.left_eq;have h3:=HP5.out.length_eq;rw[h1,h2,h3];simp
def Zw (e:TypeId) (w:World) (xs:List Value) (n:Nat) (code:Int) (en:Ending) (w':World):Prop:=
 ∃A c,en=.returned (.tuple #[.slice A n c,.int .i64 code])/\Own w' e 1 A n c xs/\AZ [] w w'/\∀k∈bo A,w.heap.size<=k
theorem Lay.others{w:World}{Ps:List (List Nat)}(h:Lay w Ps){L:List Nat}{is:List Nat}(hL: ∀x∈L,∃j P,j∈is/\Ps[j]? =some P/\x∈P){i:Nat}{P:List Nat}(hi:Ps[i]? =some P)(hn:i∉is): ∀x∈P,x∉L:=by
 intro x hx hm;obtain⟨j,Q,hj,hQ,hxq⟩:=hL x hm;exact h.ne hi hQ (λe=>hn (e▸hj)) x hx hxq
theorem fV{S:St}:S.names=if S.ask false []≠0 then (S,S.ask false []) else ({S with safe:=S.seen,FQ:=[],steps:=S.steps+1},0):=by
 unfold St.names St.ask;cases hd:S.down<;>simp
theorem sW{w:World}{G:Bg}{S:St}{B:Nat}(h:ED w G S)(hi:Inv B S)(hB:B<=1073741824):
  Calls Ae 50 #[.pointer (some ⟨G.b,0,none⟩)] w λe w'=>e=.returned (.int .i64 S.names.2)/\DI w G S.names.1 w':=by
 have HF:=AQ h;have HI:=AQ hi;(have hwt:IntKind.i64.wrap ((S.steps:Int)+1)=((S.steps+1:Nat):Int):=by have:=hi.st;rw[IntKind.wrap_i64];omega);clear h hi hB;have k54:= @AHh;have Qu:= @fM;go_enter AKi,Tryz.ntmps50;(go_wp2_with fail);refine (U6 HF.out false none 0 0 [] (Rd.nil w 1) Az AY).mono ?_;rintro e w1 ⟨rfl,hc1⟩;have DC:=AQ hc1;obtain⟨E,hE⟩: ∃E,S.ask false []=E:=⟨_,rfl⟩;rw[hE];have HE:=AQ hE;clear hE;by_cases h:E=0
 ·subst h;have Fp:=AQ (HF.out.CX hc1);have h0:=Fp.out.blk.cell 0;simp at h0;have HR:Hid (S.names=({S with safe:=S.seen,FQ:=[],steps:=S.steps+1},0)):=AQ (by rw[fV,if_neg (by rw[HE.out];simp)]);clear hc1;(go_wp2_with fail);refine (Wy w1 G.t1 G.g1 Fp.out.Ep).mono ?_;rintro e w2 ⟨ob,g',rfl,htr,hnew,hc2,hcp⟩;have HF2:=AQ (Fp.out.CX hc2);have c1:=HF2.out.blk.frozen 1;have x1:=HF2.out.blk.cell 1;have x2:=HF2.out.blk.cell 2;simp at x1 x2;have hb2:=HF2.out.blk.Em 1 (.map (some ob));have c2:=hb2.frozen 2;have hb3:=hb2.Em 2 (.slice none 0 0);have c6:=hb3.cell 6;have f6:=hb3.frozen 6;have hb4:=hb3.Em 6 (.int .i64 ((S.steps+1:Nat):Int));simp at c6;have HB4:=AQ hb4;have iO:=AQ htr;have HN:=AQ hnew;have HC2:=AQ hc2;have qE:=AQ hcp;clear htr hnew hc2 hcp hb2 hb3 hb4;go_wp2;go_ret;refine⟨by rw[HR.out];rfl,?_⟩;rw[HR.out];have hF:=HF2.out;obtain⟨w3,hw3⟩: ∃w3,((w2.setCell ⟨G.b,1,none⟩ (.map (some ob))).setCell ⟨G.b,2,none⟩ (.slice none 0 0)).setCell ⟨G.b,6,none⟩ (.int .i64 ((S.steps+1:Nat):Int))=w3:=⟨_,rfl⟩;have hb:=HB4.out;(have hch:AZ [G.b] w2 w3:=by rw[<- hw3];exact (((AZ.refl [G.b] w2).setCell (.inl AY) _).setCell (.inl AY) _).setCell (.inl AY) _);have AQp:=hw3;rw[AQp] at hb;show DI w G _ (((w2.setCell ⟨G.b,1,none⟩ (.map (some ob))).setCell ⟨G.b,2,none⟩ (.slice none 0 0)).setCell ⟨G.b,6,none⟩ (.int .i64 ((S.steps+1:Nat):Int)));rw[hw3];have hL: ∀x∈[G.b],∃j P,j∈[0]/\G.parts[j]? =some P/\x∈P:=λx hx=>⟨0,[G.b],AY,rfl,hx⟩;have ho:=λ(i:Nat) (P:List Nat) (hi:G.parts[i]? =some P) (hne:i∉[0])=>hF.lay.others hL hi hne;have hG2:=Fp.out.lay.Em (w':=w2) (i:=2) (P':=EL ob g') rfl (λx hx=>.inr (HN.out x hx)) iO.out.lt HC2.out.size;have hG3:=hG2.Em (w':=w3) (i:=3) (P:=bo G.A) (P':=[]) rfl AY AY hch.size;refine⟨{G with t2:=ob,g2:=g',A:=none,c:=0,vs:=[]},⟨by simpa using hb,hF.Ep.keep hch (ho 1 _ rfl AY),hF.Kt,iO.out.keep hch (λx hx hm=>?_),hF.Kt.copied qE.out,Own.nil _ _ _,?_,hF.cO.Am hch (ho 4 _ rfl AY),hF.QG,hF.Vx,hF.Qk,hF.Yy,hF.Vy,?_,hG3⟩,rfl,?_,?_⟩
  ·exact hG2.ne (i:=2) (j:=0) (P:=EL ob g') (Q:=[G.b]) rfl rfl Az x hx hm
  intro i c v e1 e2;simp at e1
  ·intro i x g L f e1 e2 e3 e4;exact (hF.ino i x g L f e1 e2 e3 e4).keep hch (ho 5 _ rfl AY x (hF.Vy x (Aa e1))) (ho (i+6) L (by simpa[Bg.parts] using e3) AY)
  ·intro x hx;obtain⟨P,hP,hx⟩:=DX.1 hx;simp only[Bg.parts,AA] at hP;rcases hP with rfl|rfl|rfl|rfl|hP;exact .inl (Bg.Es (i:=0) rfl hx);exact .inl (Bg.Es (i:=1) rfl hx);exact .inr (Ah DC.out.size (HN.out x hx));simp at hx;exact .inl (DX.2 ⟨P,by simp only[Bg.parts,AA];exact .inr (.inr (.inr (.inr hP))),hx⟩)
  exact (((DC.out.Aq HC2.out).nil [G.b]).trans hch (λx hx=>.inl hx)).mono (λx hx=>.inl (Bg.Es (i:=0) rfl hx))
 (have hb:(E !=0)=true:=by simp[h]);have HR:Hid (S.names=(S,E)):=AQ (by rw[fV,HE.out,if_pos h]);clear h;go_wp2;go_ret;exact⟨by rw[HR.out];rfl,by rw[HR.out];exact DI.same HF.out DC.out⟩
theorem mG{S:St}:S.Ld=if S.ask false []≠0 then ([],S.ask false []) else (S.seen.map Prod.fst,0):=by
 unfold St.Ld St.ask;cases hd:S.down<;>simp
theorem XA{x:ByteArray}(h:DR x=true):x.size<=maxLen:=by have:=ACw h;unfold maxLen;omega
theorem YO{w w0:World}{tb:Nat}{g:MJ}{ib:List Nat}{T:Tr}{m:Nat}(ht:Tree w0 tb g)(hi:D5 ib g T)(hv:Val m T)(hl:T.length<=1073741824)(hw:w=w0):
  Calls Ae 87 #[.func (.func 124) #[] #[.pointer (some ⟨w0.heap.size,0,none⟩)]] (w.alloc (.cells #[.map (some tb)] 112)) (Ko 9 1 w0 (Oi (T.map Prod.fst)) T.length):=by
 subst hw;have hp:=hi.keys ht.nodup hv.Vu;(have hlen:(Ef g).length=T.length:=by have:=hp.length_eq;simpa[Ef] using this);have hs:Vu ((Ef g).map Prod.fst)=T.map Prod.fst:=AEA (by rw[Om];exact hp) hv.Vu
 have:=wQ w tb (Ef g) ht.top (λp hp2=>by
  have:p.1∈T.map Prod.fst:=hp.mem_iff.1 (by rw[<- Om];exact Ag.2 ⟨p,hp2,rfl⟩);obtain⟨q,hq,e⟩:=Ag.1 this
  rw[<- e];exact XA (hv.nm q hq)) Ac
 rw[hs,hlen] at this;refine this.mono ?_;rintro e w' ⟨A,c,rfl,ho,hc,hn⟩;exact⟨A,c,rfl,ho,(((AZ.refl [] w).alloc _).Aq hc),λk hk=>Ah AY (hn k hk)⟩
theorem YP{w w0:World}{fb:Nat}{f:List (ByteArray×Nat)}{ib:List Nat}{F:Qi}(hf:Mp w0 fb IA (IU f))(hi: ∀n,BJ f n=(BJ F n).map (EC ib))(hs:Rw F)(hg: ∀q∈F,DR q.1=true)(hl:F.length<=1073741824)(hw:w=w0):
  Calls Ae 87 #[.func (.func 125) #[] #[.pointer (some ⟨w0.heap.size,0,none⟩)]] (w.alloc (.cells #[.map (some fb)] 130)) (Ko 9 1 w0 (Oi (F.map Prod.fst)) F.length):=by
 subst hw;(have hn:(f.map Prod.fst).Nodup:=by rw[<- Q4];exact hf.nodup);have hp:=bz hi hn hs;(have hlen:(IU f).length=F.length:=by have:=hp.length_eq;simpa[IU] using this);have hs:Vu ((IU f).map Prod.fst)=F.map Prod.fst:=AEA (by rw[Q4];exact hp) hs
 have:=wR w fb (IU f) hf (λp hp2=>by
  have:p.1∈F.map Prod.fst:=hp.mem_iff.1 (by rw[<- Q4];exact Ag.2 ⟨p,hp2,rfl⟩);obtain⟨q,hq,e⟩:=Ag.1 this
  rw[<- e];exact XA (hg q hq)) Ac
 rw[hs,hlen] at this;refine this.mono ?_;rintro e w' ⟨A,c,rfl,ho,hc,hn⟩;exact⟨A,c,rfl,ho,(((AZ.refl [] w).alloc _).Aq hc),λk hk=>Ah AY (hn k hk)⟩
theorem AIB{w:World}{G:Bg}{S:St}{B:Nat}(h:ED w G S)(hi:Inv B S)(hB:B<=1073741824):
  Calls Ae 95 #[.pointer (some ⟨G.b,0,none⟩)] w (Zw 9 w (Oi S.Ld.1) S.Ld.1.length S.Ld.2):=by
 have HF:=AQ h;have HI:=AQ hi;have HB:=AQ (show S.seen.length<=1073741824 by have:=hi.wd;have:=wW S.seen;omega);clear h hi hB;have Qu:= @fM;have k87:= @AHl;have k88:= @ALP;go_enter AK9,Tryz.ntmps95;(go_wp2_with fail);refine (U6 HF.out false none 0 0 [] (Rd.nil w 1) Az AY).mono ?_;rintro e w1 ⟨rfl,hc1⟩;have DC:=AQ hc1;obtain⟨E,hE⟩: ∃E,S.ask false []=E:=⟨_,rfl⟩;rw[hE];have HE:=AQ hE;clear hE;by_cases h:E=0
 ·subst h;have Fp:=AQ (HF.out.CX hc1);have h0:=Fp.out.blk.cell 0;simp at h0;have HR:Hid (S.Ld=(S.seen.map Prod.fst,0)):=AQ (by rw[mG,if_neg (by rw[HE.out];simp)]);clear hc1;(go_wp2_with fail);refine (lV (some G.t1) w1).mono ?_;rintro e w2 ⟨rfl,hw2⟩;have HW2:=AQ hw2;clear hw2;(go_wp2_with fail);rw[HW2.out];refine (YO Fp.out.Ep Fp.out.Kt HI.out.val HB.out rfl).mono ?_;rintro e w3 ⟨A,c,rfl,ho,hc3,hn3⟩;have HO:=AQ ho;have GV:=AQ hc3;have qF:=AQ hn3;clear ho hc3 hn3;go_wp2
  go_ret2
  rw[HR.out];refine⟨A,c,by rw[BH];rfl,by rw[BH];exact HO.out,DC.out.Aq GV.out,λk hk=>Ah DC.out.size (qF.out k hk)⟩
 (have hb:(E !=0)=true:=by simp[h]);have HR:Hid (S.Ld=([],E)):=AQ (by rw[mG,HE.out,if_pos h]);clear h;go_wp2
 go_ret2
 rw[HR.out];exact⟨none,0,rfl,Own.nil _ _ _,DC.out,AY⟩
theorem AIC{w:World}{G:Bg}{S:St}{B:Nat}(h:ED w G S)(hi:Inv B S)(hB:B<=1073741824)(d:ByteArray):
  Calls Ae 97 #[.pointer (some ⟨G.b,0,none⟩),.string d] w (Zw 9 w (Oi (S.list d).1) (S.list d).1.length (S.list d).2):=by
 have HF:=AQ h;have HI:=AQ hi;have HB:=AQ (show ∀p∈S.seen,p.2.length<=1073741824 from λp hp=>by have:=hi.wd;have:=wX hp;omega);clear h hi hB;have Qu:= @fM;have k87:= @AHl;have k89:= @ALQ;go_enter ALB,Tryz.ntmps97;(go_wp2_with fail);have hal:AZ [] w (w.alloc (.cells #[.string d] 9)):=(AZ.refl _ _).alloc _;refine (U6 (HF.out.CX hal) true _ 1 1 [d] (by simpa[Oi] using (Own.lit w 9 1 #[.string d] 1 Az rfl).rd) Az AY).mono ?_;rintro e w1 ⟨rfl,hc1⟩;have DC:=AQ (hal.Aq hc1);clear hc1 hal;obtain⟨E,hE⟩: ∃E,S.ask true [d]=E:=⟨_,rfl⟩;rw[hE];have HE:=AQ hE;clear hE;by_cases h:E=0
 ·subst h;have Fp:=AQ (HF.out.CX DC.out);obtain⟨F,hF⟩:=(Gx HE.out).2.2 rfl;simp only[List.headD_cons] at hF;obtain⟨g,hg,hsub⟩:=HF.out.Kt.get hF;have h0:=Fp.out.blk.cell 0;simp at h0;have hl:=(Mp.lookup Fp.out.Ep.top (Cm J4) IZ (z:=.map none) Ap d).1;simp only[EZ,hg,Option.map_some,Option.getD_some] at hl;have Vh:=AQ hsub;have Vz:=AQ hF;have HG:=AQ hg;have HR:Hid (S.list d=(F.map Prod.fst,0)):=AQ (by unfold St.list;rw[if_neg (by rw[HE.out];simp),GU hF]);clear hsub hF hg;(go_wp2_with fail);refine (lW (some g.1) w1).mono ?_;rintro e w2 ⟨rfl,hw2⟩;have HW2:=AQ hw2;clear hw2;(go_wp2_with fail);rw[HW2.out];refine (YP (Fp.out.Ep.sub _ (CP HG.out)) Vh.out (HI.out.val.sub _ (CP Vz.out)) (HI.out.val.Rl _ (CP Vz.out)) (HB.out _ (CP Vz.out)) rfl).mono ?_;rintro e w3 ⟨A,c,rfl,ho,hc3,hn3⟩;have HO:=AQ ho;have GV:=AQ hc3;have qF:=AQ hn3;clear ho hc3 hn3;go_wp2
  go_ret2
  rw[HR.out];refine⟨A,c,by rw[BH];rfl,by rw[BH];exact HO.out,DC.out.Aq GV.out,λk hk=>Ah DC.out.size (qF.out k hk)⟩
 (have hb:(E !=0)=true:=by simp[h]);have HR:Hid (S.list d=([],E)):=AQ (by unfold St.list;rw[HE.out,if_pos h]);clear h;go_wp2
 go_ret2
 rw[HR.out];exact⟨none,0,rfl,Own.nil _ _ _,DC.out,AY⟩
theorem ED.Zx{w:World}{G:Bg}{S:St}(h:ED w G S){i:Nat}(hi:i<S.files.length): ∃g L,G.Ls[i]? =some L/\Bo w (EC G.ib i) 126 #[.pointer (some ⟨g,0,none⟩)]/\Vs w g L (S.files.getD i ([],[])).1 (S.files.getD i ([],[])).2/\G.sg[i]? =some g/\G.ib[i]? =some (EC G.ib i):=by
 have hf:S.files[i]? =some S.files[i]:=Af hi;obtain⟨x,g,L,h1,h2,h3,h4,h5⟩:=h.at_ hf;refine⟨g,L,h3,by rw[xB h1];exact h4,?_,h2,by rw[xB h1];exact h1⟩;rw[CW,hf];exact h5
theorem Inv.Iu{B:Nat}{S:St}(h:Inv B S)(i:Nat):(S.files.getD i ([],[])).1.length+(S.files.getD i ([],[])).2.flatten.length<=B/\(S.files.getD i ([],[])).2.length<=B:=by
 rw[CW]
 cases hf:S.files[i]? with
 |none=>simp|some f=>
  have h1:=AEC (Aa hf);have h2:=h.bulk;simp only[Option.getD_some,Hg.all,DU] at h1⊢;omega
theorem iq{B:Nat}{S:St}(h:Inv B S){d n:ByteArray}{x:Nat}{e:Int}(hf:S.Qj d n=(some x,e)):x<S.files.length:=by
 obtain⟨_,_,F,hF,hx⟩:=UT hf;exact h.val.ids _ (CP hF) _ (CP hx)
end Go.Proofs.YtkkgcebhfghdnaaGreatDoor.Vw
