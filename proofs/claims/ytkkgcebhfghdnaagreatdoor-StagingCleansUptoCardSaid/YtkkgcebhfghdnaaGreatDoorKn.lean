/- Part 14 of what that rests on; no condition. -/
import Derived.Test.YtkkgcebhfghdnaaGreatDoorKm
import Derived.Conc.CrowdTrace
import Derived.Laws.BytesArg
import Derived.Lib.ByteType
set_option maxRecDepth 100000
set_option maxHeartbeats 8000000
namespace Go.Proofs.YtkkgcebhfghdnaaGreatDoor
open Go Go.Conc
section
variable {P:Program} {Z:Nat->Prop} {B L:Nat} {gs:Array Goroutine} {w:World} {t:Trace} {a a' child:Goroutine} {q:Nat->Nat} {sl:Option (Nat×Nat)}
theorem ACd(h:Nu P Z B L gs t a q 0)(ha:a.status=.running)(hs: ∀dd,stepG P true a (w.at dd)=.spawn a' child (w.at dd) #[]):
  ∃N gs1 sl1 t1 q1 d1 x y,runNT P N (crowd gs w sl) t=(.next (crowd ((gs1.setIfInBounds 0 a').push child) (w.at d1) sl1),t1++ #[x,y])/\gs1.size=gs.size/\Nu P Z B L gs1 t1 a q1 0/\(x.g=0/\x.act=.go gs.size)/\(y.g=gs.size/\y.act=.start):=by
 obtain⟨N,gs1,w1,sl1,t1,q1,dd,sx,h1,h2,h3,⟨d1,rfl⟩,h5⟩:=AGp (w:=w) (sl:=sl) h ha;have hr:=runT_crowd_spawn (P:=P) (w:=w.at dd) (w':=w.at dd) (sl:=sx) (i:=0) h3.at0 (show stepG P (0==0) a (w.at dd)=_ from hs dd);rw[h2] at hr;refine⟨N+1,gs1,sx,t1,q1,dd,{g:=0,fn:=a.frame.fn,pos:=a.frame.place,act:=.go gs.size},{g:=gs.size,fn:=child.frame.fn,pos:=a.frame.place,act:=.start},?_,h2,h3,⟨rfl,rfl⟩,rfl,rfl⟩;rw[kY h1 (h5.trans hr)];congr 1
end
theorem AGv{C:Cx}{B L:Nat}{gs:Array Goroutine}{w:World}{t:Trace}{a a' child:Goroutine}{q:Nat->Nat}{x y:MemOp}{oM:Own C.SR}(h:Nu C.P C.Z B L gs t a q 0)(hj:C.j=gs.size)(hx:x.g=0/\x.act=.go gs.size)(hy:y.g=gs.size/\y.act=.start)
  (hB:B<=w.heap.size) (hL:L<=C.wg) (om: ∀b,oM.O b->b<w.heap.size/\¬C.SR b/\¬C.SY b/\¬C.Z b) (sr: ∀b,C.SR b->b<w.heap.size/\¬C.SY b/\¬C.Z b) (sy: ∀b,C.SY b->b<w.heap.size/\¬C.Z b) (z: ∀b,C.Z b->b<w.heap.size) (im:oM.I w)
  (keep:(∀b,b<C.w0.heap.size->¬C.T0 b->w.heap[b]? =C.w0.heap[b]?)/\(∀b,(oM.O b\/C.SY b)->b<C.w0.heap.size->C.T0 b)) (sz:C.w0.heap.size<=w.heap.size) (same:w.tape=C.w0.tape/\w.os=C.w0.os/\w.output=C.w0.output):
  Cf C ((gs.setIfInBounds 0 a').push child) w (t++ #[x,y]) q a' child 0 0 oM (λ_=>False):=by
 have h0:0<gs.size:=(BK.1 h.at0).1;have hmem: ∀op∈(#[x,y]:Array MemOp),op=x\/op=y:=λop hop=>by simpa using hop
 have hnt: ∀op∈(#[x,y]:Array MemOp),op.act.touch? =none:=λop hop=>by
  rcases hmem op hop with rfl|rfl;rw[hx.2];rfl;rw[hy.2];rfl
 have hdf: ∀g,Deaf (t++ #[x,y]) g=Deaf t g:=λg=>Go.ConcX.Deaf_keep t g #[x,y] λop hop=>by
  rcases hmem op hop with rfl|rfl;rw[hx.2];exact⟨AY,AY⟩;rw[hy.2];exact⟨AY,AY⟩
 have hd0:Deaf t 0=0:=h.past.deaf;have hdj:Deaf t gs.size=0:=h.leavers.above _ (AP _)
 have told: ∀i a,touchAt (t++ #[x,y]) i=some a->touchAt t i=some a:=λi a ha=>by
  obtain⟨op,hop,hoa⟩:=touch_of ha;rcases getElem?_append_cases hop with ⟨_,hop'⟩|⟨_,hou⟩
  ·rw[touchAt_of hop'];exact hoa
  rw[hnt op hou] at hoa;cases hoa
 have both: ∀i a,touchAt (t++ #[x,y]) i=some a->(∃b,a.loc.blk=some b/\¬C.Z b)->Knows (t++ #[x,y]) 0 i/\Knows (t++ #[x,y]) C.j i:=λi a ha ⟨b,hb,hz⟩=>by
  have hm:a.loc.isMemory=true:=by
   generalize a.loc=l at hb;cases l<;>first|rfl|cases hb
  rcases h.past.known i a (told i a ha) hm with hk|⟨hs,_⟩;exact⟨hk.app _,by rw[hj];exact Go.ConcN.fork_knows hx hy hd0 hdj hk⟩;obtain⟨b',hb',hz'⟩:=rV hs;rw[hb] at hb';(cases hb');exact absurd hz' hz
 refine⟨by rw[hj];exact h0,?_,?_,λi g hi hij hg=>?_,λi hi=>?_,by rw[hdf,hd0],by rw[hdf,hj,hdj],?_,?_,?_,λb hb=>?_,λb hb=>hb.elim,sr,sy,z,im,⟨keep.1,λb hb hl=>keep.2 b (hb.imp id λx=>x.elim (λy=>y.elim) id) hl⟩,sz,same,?_⟩
 ·rw[Ey (by simpa using h0)];simp[h0]
 ·rw[hj];(have:(gs.setIfInBounds 0 a').size=gs.size:=by simp);rw[<- this,Array.getElem?_push_size]
 ·have hlt:i<gs.size:=by
   have:=(BK.1 hg).1;simp at this;rw[hj] at hij;omega
  rw[Ey (by simpa using hlt),<- Ba,BO Ac] at hg;rw[hdf];exact h.leavers.old i g hi hg
 ·rw[hdf];refine h.leavers.above i ?_;simp at hi;omega
 ·refine⟨λsaid=>?_,λi x b _ _ hb=>hb.elim,λi a b ha hb hs _=>both i a ha ⟨b,hb,(sr b hs).2.2⟩,λi a b ha hb hs=>.inr (both i a ha ⟨b,hb,(sy b hs).2⟩),λi a b ha hb _ _ _ hz=>(both i a ha ⟨b,hb,hz⟩).1,λi a ha hm=>?_⟩
  ·rintro⟨i,k,hik,⟨a,b,ha,hb,hc⟩,n1,n2⟩;refine h.past.clean said ⟨i,k,hik,⟨a,b,told i a ha,told k b hb,hc⟩,λhh=>n1 (hb_app _ hh),λhh=>n2 (hb_app _ hh)⟩
  rcases h.past.known i a (told i a ha) hm with hk|hk;exact .inl (hk.app _);exact .inr (.inr hk)
 ·intro op hop;rcases Ce.1 hop with hop|hop;exact MemAct.low_mono hB (h.past.seen op hop);rcases hmem op hop with rfl|rfl;rw[hx.2];trivial;rw[hy.2];trivial
 ·refine NF (λi hi=>?_) λop hop=>?_
  ·obtain⟨op,ho,hoa⟩:=DV.1 hi;have:=h.past.nor op (Jy ho) _ hoa;simp only[FU] at this;omega
  rcases hmem op hop with rfl|rfl;rw[hx.2];simp;rw[hy.2];simp
 ·obtain⟨h1,h2,h3⟩:=om b hb;exact⟨h1,λx=>x,h2,h3⟩
 exact OY (λi g hg h0 _ hc=>h.past.over i g hg h0 hc) λop hop=>.inr (.inr (hnt op hop))
def frz (SR:Nat->Prop) (W:World) (h: ∀b,SR b->b<W.heap.size):RF SR where
 R:=λw=>∀b,SR b->w.heap[b]? =W.heap[b]?
 st:=λw w1 hw k _ b hb=>(k b hb).trans (hw b hb)
 lt:=λw hw b hb=>by
  have h1:=hw b hb;rw[Ba (h b hb)] at h1;exact (BK.1 h1).1
theorem vw{w:World}{B:List Nat}{s:ByteArray}{n:Int}{a b:Nat}(h:IL w B s n a b): ∃B',IL w B' s n a b/\∀c∈B',c∈B/\∃o,w.heap[c]? =some o/\isCells o:=by
 obtain⟨D,cap,ta,h1,h2⟩:=h.box;obtain⟨tb,h3⟩:=h.size;rcases h2 with h2|⟨d,o,cells,td,e,hd,h4,h5,h6,h7⟩
 ·refine⟨[a,b],⟨λc hc=>?_,AY,AY,h.pos,h.hi,h.few,⟨D,cap,ta,h1,.inl h2⟩,tb,h3⟩,λc hc=>?_⟩
  ·simp only[AA,AB,or_false] at hc;rcases hc with rfl|rfl;exact h.lt _ h.ou;exact h.lt _ h.inb
  simp only[AA,AB,or_false] at hc;rcases hc with rfl|rfl;exact⟨h.ou,_,h1,_,_,_,rfl⟩;exact⟨h.inb,_,h3,_,_,_,rfl⟩
 refine⟨[a,b,d],⟨λc hc=>?_,AY,AY,h.pos,h.hi,h.few,⟨D,cap,ta,h1,.inr ⟨d,o,cells,td,e,AY,h4,h5,h6,h7⟩⟩,tb,h3⟩,λc hc=>?_⟩
 ·simp only[AA,AB,or_false] at hc;rcases hc with rfl|rfl|rfl;exact h.lt _ h.ou;exact h.lt _ h.inb;exact h.lt _ hd
 simp only[AA,AB,or_false] at hc;rcases hc with rfl|rfl|rfl;exact⟨h.ou,_,h1,_,_,_,rfl⟩;exact⟨h.inb,_,h3,_,_,_,rfl⟩;exact⟨hd,_,h4,_,_,_,rfl⟩
theorem IL.kZ{w w':World}{B:List Nat}{s:ByteArray}{n:Int}{a b:Nat}(h:IL w B s n a b)(hk: ∀c∈B,w'.heap[c]? =w.heap[c]?):IL w' B s n a b:=by
 obtain⟨D,cap,ta,h1,h2⟩:=h.box;obtain⟨tb,h3⟩:=h.size;refine⟨λc hc=>?_,h.ou,h.inb,h.pos,h.hi,h.few,⟨D,cap,ta,by rw[hk a h.ou];exact h1,?_⟩,tb,by rw[hk b h.inb];exact h3⟩
 ·have h4:=hk c hc;rw[Ba (h.lt c hc)] at h4;exact (BK.1 h4).1
 rcases h2 with h2|⟨d,o,cells,td,e,hd,h4,h5⟩;exact .inl h2;exact .inr ⟨d,o,cells,td,e,hd,by rw[hk d hd];exact h4,h5⟩
theorem Ig{w:World}{b o:Nat}{c:Array Value}{t:TypeId}{f:Nat×Nat}(h:w.heap[b]? =some (.cells c t f)):w.cell? ⟨b,o,none⟩=c[o]? :=by
 unfold World.cell?;rw[h];rfl
theorem AGw{C:Cx}{W:World}{hlt: ∀b,C.SR b->b<W.heap.size}{B:List Nat}{s:ByteArray}{sz p1 p2 xb:Nat}{t:TypeId}(hS:IL W B s sz p1 p2)(hB: ∀c∈B,C.SR c)(hxb:C.SR xb)
  (hx:W.heap[xb]? =some (.cells #[.func (.func 79) #[] #[.pointer (some ⟨p1,0,none⟩),.pointer (some ⟨p2,0,none⟩)]] t (0,0))):
  ∃D c,ACU C (frz C.SR W hlt) xb p1 p2 D s.data.toList.length c sz/\s.data.toList.length<=c/\(D=none->s.data.toList=[])/\
   (0<s.data.toList.length->∀d,D=some d->C.SR d.block/\∀w,(frz C.SR W hlt).R w->∀j v,(Jc s.data.toList)[j]? =some v->w.cell? (d.add j)=some v):=by
 obtain⟨D,cap,ta,h1,h2⟩:=hS.box;obtain⟨tb,h3⟩:=hS.size;(have hl:s.data.toList.length=s.size:=by rw[Array.length_toList];rfl);refine⟨D,cap,⟨hxb,hB _ hS.ou,hB _ hS.inb,λw hw=>?_,λw hw=>?_,λw hw=>?_⟩,?_,λhn=>?_,λhpos d hd=>?_⟩;rw[Ig ((hw xb hxb).trans hx)];rfl;rw[Ig ((hw p1 (hB _ hS.ou)).trans h1),hl];rfl;rw[Ig ((hw p2 (hB _ hS.inb)).trans h3)];rfl
 ·rw[hl];rcases h2 with h2|⟨_,_,_,_,_,_,_,_,h6,_⟩;omega;exact h6
 ·rcases h2 with h2|⟨_,_,_,_,e,_⟩;exact Il.1 (hl.trans h2);rw[hn] at e;cases e
 rcases h2 with h2|⟨d',o,cells,td,e,hd',h4,h5,h6,h7⟩;omega;rw[hd] at e;obtain rfl:=BQ e;refine⟨hB _ hd',λw hw j v hv=>?_⟩
 have hj:j<s.size:=by
  have:=(BB.1 hv).1;simp only[Jc,BH,hl] at this;exact this
 have hvv:v=.int .u8 (s[j].toNat:Int):=by
  simp only[Jc,AV] at hv
  have e2:s.data.toList[j]? =some s[j]:=by
   rw[G8];exact Ba _
  rw[e2] at hv;exact (BQ hv).symm
 have hc:=Ig (o:=o+j) ((hw d' (hB _ hd')).trans h4);rw[h7 j hj,<- hvv] at hc;(have ea:(⟨d',o,none⟩:Addr).add j=⟨d',o+j,none⟩:=by simp[Addr.add]);rw[ea];exact hc
theorem ADw{l sz:Nat}(hsz:1<=sz):l<=((l+sz - 1)/sz)*sz/\∀k,l<=k*sz->(∀j,j<k->j*sz<l)->k=(l+sz - 1)/sz:=by
 have h1:=Nat.div_add_mod (l+sz - 1) sz;have h2:=Ib (l+sz - 1) (show sz>0 by omega);have h3:sz*((l+sz - 1)/sz)=((l+sz - 1)/sz)*sz:=Nat.mul_comm _ _;refine⟨Ac,λk hk hj=>?_⟩
 generalize hN:(l+sz - 1)/sz=N at*
 rcases Nat.lt_trichotomy k N with h|h|h
 ·have:(k+1)*sz<=N*sz:=Ez _ h;have e:(k+1)*sz=k*sz+sz:=Nat.succ_mul k sz;omega
 exact h;have:=hj N h;omega
def AAK (Z:Nat->Prop) (ρ:Rn) (wg:Nat) (W:World) (b:Nat):Prop:=b≠wg/\(∀a,¬ρ.r a b)/\¬Z b/\∃o,W.heap[b]? =some o/\isCells o
theorem AAK.lt{Z:Nat->Prop}{ρ:Rn}{wg:Nat}{W:World}(b:Nat)(h:AAK Z ρ wg W b):b<W.heap.size:=by
 obtain⟨_,_,_,o,h,_⟩:=h;exact (BK.1 h).1
def Ve (Z:Nat->Prop) (ρ:Rn) (w:World):Prop:=∀s n a b,ρ.q s n a b->∃B,IL w B s n a b/\∀c∈B,(∀x,¬ρ.r x c)/\¬Z c
noncomputable def cx (Z:Nat->Prop) (ρ:Rn) (wg c1 c2 j:Nat) (W:World) (s:ByteArray) (sz:Nat):Cx:=
 {P:=Tryz.prog,j:=j,bc:=c1,bs:=c2,wg:=wg,ty:=168,N:=(s.size+sz - 1)/sz,Cs:=Piece (AAK Z ρ wg W) s sz,SR:=AAK Z ρ wg W,Z:=Z,w0:=W,T0:=λb=>(∃a,ρ.r a b)\/b=wg\/b=c1\/b=c2,FW:=λ_=>True}
structure AJo (Z:Nat->Prop) (ρ:Rn) (W:World) (new:List Nat) (ρ1:Rn) (v1 w':World) (wg:Nat):Prop where
 le:ρ.le ρ1
 rel:DD K2.F 2 ρ1 v1 w'
 apart: ∀a b,ρ1.r a b->¬(Z b\/b=wg)
 low: ∀a b,ρ1.r a b->b<W.heap.size->(∃a',ρ.r a' b)\/b∈new
 sz:W.heap.size<=w'.heap.size
 keep: ∀b,b<W.heap.size->(∀a,¬ρ.r a b)->b∉new->w'.heap[b]? =W.heap[b]?
 same:w'.tape=W.tape/\w'.os=W.os/\w'.output=W.output
 sl: ∀s n a b,ρ1.q s n a b->∃B,IL w' B s n a b/\∀c∈B,(∀x,¬ρ1.r x c)/\¬(Z c\/c=wg)
section
variable {Z:Nat->Prop} {L:Nat} {gs:Array Goroutine} {t:Trace} {q:Nat->Nat} {sl:Option (Nat×Nat)} {W:World} {v:World} {ρ:Rn} {to to':Value} {s:ByteArray} {sz p1 p2 wg b1 b2 c1 c2 xb:Nat} {Kp:Frame->List Frame->World->Prop} {c0:Frame} {cs cs0:List Frame}
 {a0 a3 a9 Wh Oa a16 a17 Nq Nr a20 a21 a22 a23 a24 a25 a26 a27 a28:Value}
theorem AGx(hS:Nu Tryz.prog Z W.heap.size L gs t (G (fr 46 #[a0,to',.pointer (some ⟨xb,0,none⟩),a3,.int .i64 0,.int .i64 0,.pointer (some ⟨b1,0,none⟩),.pointer (some ⟨b2,0,none⟩),.pointer (some ⟨wg,0,none⟩),a9,.chan (some c1),.chan (some c2),.tuple #[],.func (.func 75) #[] #[.pointer (some ⟨wg,0,none⟩),.pointer (some ⟨b1,0,none⟩),.pointer (some ⟨xb,0,none⟩),.pointer (some ⟨b2,0,none⟩)],Wh,Oa,a16,a17,Nq,Nr,a20,a21,a22,a23,a24,a25,a26,a27,a28] [.inRegion ops4 [1],.code Vd] [] none) cs0) q 0)
  (hL:L<=wg) (hW:DD K2.F 2 ρ v W) (hZ:Apart Z ρ W) (hq:ρ.q s sz p1 p2) (hsl:Ve (λb=>Z b\/b=wg) ρ W)
  (hwg:W.heap[wg]? =some (.cells #[.int .u64 KQ,.int .u32 0] 168)) (hx:W.heap[xb]? =some (.cells #[.func (.func 79) #[] #[.pointer (some ⟨p1,0,none⟩),.pointer (some ⟨p2,0,none⟩)]] 106))
  (hb1:W.heap[b1]? =some (.cells #[.chan (some c1)] 157)) (hb2:W.heap[b2]? =some (.cells #[.chan (some c2)] 158)) (hc1:W.heap[c1]? =some (.chan 0 #[] false 0 0 false)) (hc2:W.heap[c2]? =some (.chan 0 #[] false 0 0 false))
  (hnew: ∀b∈[wg,b2,b1,c2,c1,xb],(∀a,¬ρ.r a b)/\¬Z b) (hnd:[wg,b2,b1,c2,c1,xb].Nodup)
  (hev:Ev Ae Kp (Frame.enter Ae 46 #[FD 79 s sz,to] .normal) (c0::cs) v) (hto:Au K2.F ρ to to') (Bz: ∀f ts v,Kp f ts v->ts=[]/\f.mode=.returning)
  (OX:ND Ae Kp ⟨Frame.enter Ae 46 #[FD 79 s sz,to] .normal,c0::cs,v⟩):
  ∃(N:Nat) (gs':Array Goroutine) (w':World) (sl':Option (Nat×Nat)) (t':Trace) (q':Nat->Nat) (a':Goroutine) (ρ1:Rn) (v1:World) (cnt e:Int) (d0 d1 d2 d3 d6 d9 d10 d11 d12 d13 d14 d15 d16 d17 d18 d19 d20 d21 d22 d23 d24 d25 d26 d27 d28:Value),
   runNT Tryz.prog N (crowd gs W sl) t=(.next (crowd gs' w' sl'),t')/\Sit Tryz.prog (λb=>Z b\/b=wg) gs' w' t' a' q'/\
   Ze Tryz.prog a' (G (fr 46 #[d0,d1,d2,d3,.int .i64 cnt,.int .i64 e,d6,.pointer (some ⟨b2,0,none⟩),.pointer (some ⟨wg,0,none⟩),d9,d10,d11,d12,d13,d14,d15,d16,d17,d18,d19,d20,d21,d22,d23,d24,d25,d26,d27,d28] [.inRegion Yp [],.code PE] [] none) cs0)/\
   Jb Ae Kp ⟨c0.finish (.tuple #[.int .i64 cnt,.int .i64 e]),cs,v1⟩ ⟨Frame.enter Ae 46 #[FD 79 s sz,to] .normal,c0::cs,v⟩/\AJo Z ρ W [wg,c1,c2] ρ1 v1 w' wg:=by
 obtain⟨B0,AAL,hB0⟩:=hsl _ _ _ _ hq;(have hsz:1<=sz:=by have:=AAL.pos;omega);have hsz2:(sz:Int)<=9223372036854775807:=AAL.hi;have hs:s.size<=1073741824:=AAL.few;(have hl:s.data.toList.length=s.size:=by rw[Array.length_toList];rfl);obtain⟨N,gs1,sl1,t1,q1,d1,x,y,r1,z1,S1,hxx,hyy⟩:=ACd (w:=W) (sl:=sl) hS rfl (λdd=>APQ (w:=W.at dd) rfl);obtain⟨C,hC⟩: ∃C,C=cx Z ρ wg c1 c2 gs1.size W s sz:=⟨_,rfl⟩;(have OA:C.P=Tryz.prog:=by rw[hC];rfl);have YK:C.SR=AAK Z ρ wg W:=by rw[hC];rfl
 have AGy: ∀b∈[b2,b1,xb],(∃o,W.heap[b]? =some o/\isCells o)->C.SR b:=λb hb ho=>by
  rw[YK];have h1:=hnew b (by simp at hb⊢;rcases hb with rfl|rfl|rfl<;>simp);refine⟨?_,h1.1,h1.2,ho⟩;simp only[DW,AA,AB,or_false,not_or] at hnd hb;omega
 have hlt: ∀b,C.SR b->b<W.heap.size:=λb hb=>by rw[YK] at hb;exact hb.lt
 have AKF: ∀s n a b,ρ.q s n a b->∃B,IL W B s n a b/\∀c∈B,C.SR c:=λs n a b hq=>by
  obtain⟨B,hB,hBc⟩:=hsl _ _ _ _ hq;obtain⟨B2,hB2,APU⟩:=vw hB;refine⟨B2,hB2,λc hc=>?_⟩;obtain⟨h1,h2⟩:=APU c hc;obtain⟨h3,h4⟩:=hBc c h1;rw[YK];exact⟨λe=>h4 (.inr e),h3,λe=>h4 (.inl e),h2⟩
 obtain⟨R,hR⟩: ∃R,R=frz C.SR W hlt:=⟨_,rfl⟩;have hRR: ∀w,R.R w↔∀b,C.SR b->w.heap[b]? =W.heap[b]? :=λw=>by rw[hR];rfl
 have jD:OG R ρ:=⟨λa b hab hb=>by rw[YK] at hb;exact hb.2.1 a hab,λw hw s n a b hq=>by
  obtain⟨B,hB,hc⟩:=AKF _ _ _ _ hq
  exact⟨B,hB.kZ λc hcB=>(hRR w).1 hw c (hc c hcB),hc⟩⟩
 have APV:R.Ok:=⟨λw hw b hb=>by
  rw[(hRR w).1 hw b hb];rw[YK] at hb
  exact hb.2.2.2⟩
 have sb1:C.SR b1:=AGy b1 AY ⟨_,hb1,_,_,_,rfl⟩;have sb2:C.SR b2:=AGy b2 AY ⟨_,hb2,_,_,_,rfl⟩;have sxb:C.SR xb:=AGy xb AY ⟨_,hx,_,_,_,rfl⟩;(have hbc:C.bc=c1:=by rw[hC];rfl);(have hbs:C.bs=c2:=by rw[hC];rfl);(have fH:C.wg=wg:=by rw[hC];rfl);(have AKG:C.Cs=Piece C.SR s sz:=by rw[hC];rfl);(have hCN:C.N=(s.size+sz - 1)/sz:=by rw[hC];rfl);(have Xr:C.Z=Z:=by rw[hC];rfl);(have hCj:C.j=gs1.size:=by rw[hC];rfl);(have ADx:C.w0=W:=by rw[hC];rfl);(have AKH:C.T0=λb=>(∃a,ρ.r a b)\/b=wg\/b=c1\/b=c2:=by rw[hC];rfl);(have APW:C.ty=168:=by rw[hC];rfl);(have APX:C.FW=λ_=>True:=by rw[hC];rfl);clear hC;(have hWA: ∀d,WA C (W.at d) KQ 0:=λd=>by unfold WA;rw[fH,APW];exact hwg);have hlive: ∃w,Live C w:=⟨_,_,_,hWA 0⟩;(have Ee: ∀w,R.R w->w.cell? ⟨b1,0,none⟩=some (.chan (some C.bc)):=λw hw=>by rw[Ig (((hRR w).1 hw b1 sb1).trans hb1),hbc];rfl);(have rd2: ∀w,R.R w->w.cell? ⟨b2,0,none⟩=some (.chan (some C.bs)):=λw hw=>by rw[Ig (((hRR w).1 hw b2 sb2).trans hb2),hbs];rfl);have hSY: ∀b,C.SY b↔b=wg\/b=c1\/b=c2:=λb=>by unfold Cx.SY;rw[fH,hbc,hbs]
 have ADy: ∀b,C.SY b->(∀a,¬ρ.r a b)/\¬Z b/\b<W.heap.size/\¬C.SR b:=λb hb=>by
  have hb:=(hSY b).1 hb;rcases hb with rfl|rfl|rfl;exact⟨(hnew _ AY).1,(hnew _ AY).2,(BK.1 hwg).1,λh=>by rw[YK] at h;exact h.1 rfl⟩
  ·refine⟨(hnew _ AY).1,(hnew _ AY).2,(BK.1 hc1).1,λh=>?_⟩;rw[YK] at h;obtain⟨_,_,_,o,ho,c,tt,f,rfl⟩:=h;rw[hc1] at ho;cases ho
  refine⟨(hnew _ AY).1,(hnew _ AY).2,(BK.1 hc2).1,λh=>?_⟩;rw[YK] at h;obtain⟨_,_,_,o,ho,c,tt,f,rfl⟩:=h;rw[hc2] at ho;cases ho
 have hM:=ACc (C:=C) (R:=R) (cs0:=cs0) OA (s:=s) (sz:=sz) (λk xv bk ob h=>by rw[AKG] at h;exact h) (by rw[hCN];exact (ADw hsz).1) hsz hsz2 hs (sb:=b2) sb2 rd2 hlive Bz (b1:=b1) sb1 Ee jD hev OX hto (a0:=a0) (a2:=.pointer (some ⟨xb,0,none⟩)) (a3:=a3) (a9:=a9) (a10:=.chan (some c1)) (a11:=.chan (some c2)) (a12:=.tuple #[])
  (KF:=.func (.func 75) #[] #[.pointer (some ⟨wg,0,none⟩),.pointer (some ⟨b1,0,none⟩),.pointer (some ⟨xb,0,none⟩),.pointer (some ⟨b2,0,none⟩)]) (Wh:=Wh) (Oa:=Oa) (a16:=a16) (a17:=a17) (Nq:=Nq) (Nr:=Nr) (a20:=a20) (a21:=a21) (a22:=a22) (a23:=a23) (a24:=a24) (a25:=a25) (a26:=a26) (a27:=a27) (a28:=a28)
 obtain⟨B3,hB3,APY⟩:=AKF _ _ _ _ hq;obtain⟨D,c,hX,hle,hDn,hD⟩:=AGw (C:=C) (hlt:=hlt) hB3 APY sxb hx;rw[<- hR] at hX hD
 have hPW:=w_all (C:=C) OA APV (wg:=wg) (cb:=b1) (sb:=b2) (xb:=xb) (p1:=p1) (p2:=p2) ⟨sb1,sb2,Ee,rd2⟩ hX hsz (by rw[hl];exact hs) Ac hle hDn hD
  (λk hk m cap hm h1 h2=>by rw[AKG];exact⟨by rw[hl] at hk;exact hk,hm,cap,h1,h2,rfl,rfl⟩) (λk h1 h2=>by rw[hCN,<- hl];exact (ADw hsz).2 k h1 h2) hlive (λL=>by rw[APX];trivial) fH
 have hph:All C _ _ _ _ _ _ _ _ _:=phase hM hPW;obtain⟨gA,hgA⟩: ∃gA,gA=G (fr 46 #[a0,to',.pointer (some ⟨xb,0,none⟩),a3,.int .i64 0,.int .i64 0,.pointer (some ⟨b1,0,none⟩),.pointer (some ⟨b2,0,none⟩),.pointer (some ⟨wg,0,none⟩),a9,.chan (some c1),.chan (some c2),.tuple #[],.func (.func 75) #[] #[.pointer (some ⟨wg,0,none⟩),.pointer (some ⟨b1,0,none⟩),.pointer (some ⟨xb,0,none⟩),.pointer (some ⟨b2,0,none⟩)],Wh,Oa,a16,a17,Nq,Nr,a20,a21,a22,a23,a24,a25,a26,a27,a28] [.inRegion ops4 [],.code Vd] [] none) cs0:=⟨_,rfl⟩;obtain⟨gB,hgB⟩: ∃gB,gB=born Tryz.prog {target:=.fn (.func 75) #[.pointer (some ⟨wg,0,none⟩),.pointer (some ⟨b1,0,none⟩),.pointer (some ⟨xb,0,none⟩),.pointer (some ⟨b2,0,none⟩)],args:=#[]}:=⟨_,rfl⟩;(have hAr:gA.status=.running:=by rw[hgA];rfl);(have hBr:gB.status=.running:=by rw[hgB];rfl);rw[fH,<- hgA] at hph;rw[<- hgB] at hph;rw[<- hgA,<- hgB] at r1;clear hM hPW
 have hcf:Cf C ((gs1.setIfInBounds 0 gA).push gB) (W.at d1) (t1++ #[x,y]) q1 gA gB 0 0 (og K2.F 2 R ρ v jD) (λ_=>False):=by
  rw[<- z1] at hxx hyy
  refine AGv (B:=W.heap.size) (L:=L) (by rw[OA,Xr];exact S1) hCj hxx hyy (AP _) (by rw[fH];exact hL) (λb ⟨a,hab⟩=>⟨(hW.dom hab).2,jD.Qp a b hab,λh=>(ADy b h).1 a hab,by rw[Xr];exact hZ.r a b hab⟩)
   (λb hb=>⟨hlt b hb,λh=>(ADy b h).2.2.2 hb,by rw[Xr];rw[YK] at hb;exact hb.2.2.1⟩) (λb hb=>⟨(ADy b hb).2.2.1,by rw[Xr];exact (ADy b hb).2.1⟩) (λb hb=>by rw[Xr] at hb;exact hZ.z b hb) ⟨hW.pre ⟨rfl,rfl⟩ ⟨rfl,rfl⟩,(hRR _).2 λ_ _=>rfl⟩
   ⟨λb _ _=>by rw[ADx];rfl,λb hb _=>?_⟩ (by rw[ADx];exact AP _) (by rw[ADx];exact⟨rfl,rfl,rfl⟩)
  rw[AKH];rcases hb with hb|hb;exact .inl hb;exact .inr ((hSY b).1 hb)
 have hnd':=hnd;simp only[DW,AA,AB,or_false,not_or] at hnd'
 have hst:St C .work (.work false) 0 0 gA gB (og K2.F 2 R ρ v jD) (ow R (λ_=>False) []) ((gs1.setIfInBounds 0 gA).push gB) (W.at d1) (t1++ #[x,y]) q1 gA gB (λ_=>False) 0:=
  {cf:=hcf
   ne:=(by rw[hbc,hbs,fH];omega)
   MB:=.inl ⟨hAr,rfl,rfl,rfl⟩
   Rt:=λ_=>.inl ⟨hBr,rfl,rfl,rfl⟩
   qu:=λh=>(by cases h)
   nb:=.inl hAr
   iw:=λ_=>⟨λp hp=>(by cases hp),(hRR _).2 λ_ _=>rfl⟩
   ow:=λx hx=>(by rcases hx with h|h;exact h;simp at h)
   c1:=⟨0,(by rw[hbc];exact hc1)⟩
   c2:=⟨0,(by rw[hbs];exact hc2)⟩
   wg:=.inl ⟨.inl rfl,hWA _⟩
   dw:=λ_=>rfl
   kk:=λ_=>⟨λs hs=>⟨rfl,(by cases hs;rfl)⟩,λh=>(by cases h)⟩
   rel:=λh=>(by cases h)}
 obtain⟨n,gs',w',sl',t',q',a',k,oM,h1,h2,h3,h4,h5,h6,h7,h8,h9,h10,h11,h12,h13,h14⟩:=hph (sl:=sl1) hst;obtain⟨a0',a1',a2',a3',a6',a9',a10',ARu,ARv,ARw,ARx,ARy,ARz,AR0,AR1,AR2,AR3,AR4,AR5,a23',a24',AR6,AR7,cnt,e,ρ1,v1,AKI,l1,rfl,l3,l4⟩:=h4;rw[fH] at l1;rw[OA] at h1 h3;(have hZ':C.Z'=λb=>Z b\/b=wg:=by unfold Cx.Z';rw[Xr,fH]);rw[hZ'] at h3 h6 h7;rw[ADx] at h8 h9 h10 h11 h12 h14;rw[AKH] at h9 h14;have hR': ∀b,C.SR b->w'.heap[b]? =W.heap[b]? :=(hRR w').1 h5.2;refine⟨N+n,gs',w',sl',t',q',a',ρ1,v1,cnt,e,_,_,_,_,_,_,_,_,_,_,_,_,_,_,_,_,_,_,_,_,_,_,_,_,_,EP r1 h1,h3,l1,l3,l4,h5.1,λa b hab=>(h6 b ⟨a,hab⟩).2,λa b hab hb=>?_,h8,λb hb hn hnn=>?_,⟨h10,h11,h12⟩,λs n a b hq=>?_⟩
 ·rcases h14 b ⟨a,hab⟩ hb with h|h;exact .inl h;exact .inr (by simp;exact h)
 ·refine h9 b hb ?_;rintro (⟨a,h⟩|h);exact hn a h;exact hnn (by simp;exact h)
 obtain⟨B,hB,hc⟩:=AKI.sl w' h5.2 s n a b hq;refine⟨B,hB,λc hcB=>⟨λx hx=>AKI.Qp x c hx (hc c hcB),?_⟩⟩;have:=hc c hcB;rw[YK] at this;rintro (h|h);exact this.2.2.1 h;exact this.1 h
end
open Go.RowKit Go.Conc.Lib Go.ConcX Go.ConcX.Gen
section
variable {SR:Nat->Prop} {J:Goroutine->Own SR->Prop} (hJ:pq Tryz.prog true J) {o:Own SR} {cs:List Frame} {c0:Frame} {cnt e:Int} {d0 d1 d2 d3 d6 d7 d8 d9 d10 d11 d12 d13 d14 d15 d16 d17 d18 d19 d20 d21 d22 d23 d24 d25 d26 d27 d28:Value}
include hJ
theorem AGz(next:J (G (c0.finish (.tuple #[.int .i64 cnt,.int .i64 e])) cs) o):
  J (G (fr 46 #[d0,d1,d2,d3,.int .i64 cnt,.int .i64 e,d6,d7,d8,d9,d10,d11,d12,d13,d14,d15,d16,d17,d18,d19,d20,d21,d22,d23,d24,d25,d26,d27,d28] [.inRegion Yp [],.code PE] [] none) (c0::cs)) o:=by
 have Next:=AQ next;clear next;have el:PE=PE:=rfl
 conv at el=>lhs;simp only[PE,PD,EH,Tryz.f46,Option.getD_some]
 rw[<- el];clear el;(iterate 8 refine QF ?_);refine Cc hJ (λw=>Nj) rfl ?_;exact JD (v:=.tuple #[.int .i64 cnt,.int .i64 e]) hJ Tryz.func46 (λw=>(by rw[kP (f:=Tryz.f46) (a:=4) (b:=5) rfl w];rfl)) Next.out
end
theorem AAM{P:Program}{g':Goroutine}{w0:World}: ∀{n:Nat} {g:Goroutine} {w:World},AtRel w0 w->Goes P true (λ_ _=>True) DC0 (λx _=>x=g') n g w->Goes P true AtRel DC0 (λx w1=>x=g'/\AtRel w0 w1) n g w:=by
 intro n
 induction n with
 |zero=>exact λhw h w1 h1=>⟨h w1 trivial,atRel_trans _ _ _ hw h1⟩|succ n ih=>
  intro g w hw h;rcases h with h|⟨hr,h⟩;exact .inl λw1 h1=>⟨h w1 trivial,atRel_trans _ _ _ hw h1⟩;refine .inr ⟨hr,λw1 h1=>?_⟩;have h2:=h w1 trivial
  cases hs:stepG P true g w1 with
  |go g2 w2 es=>
   rw[hs] at h2;obtain⟨⟨rfl,rfl⟩,h3⟩:=h2;exact⟨⟨rfl,rfl⟩,ih (atRel_trans _ _ _ hw h1) h3⟩
  |_=>rw[hs] at h2;exact h2.elim
theorem DD.kept{F:Fs}{N:Nat}{ρ:Rn}{v w w1:World}(h:DD F N ρ v w)(hr: ∀b,b<w.heap.size->w1.heap[b]? =w.heap[b]?)(hz:w.heap.size<=w1.heap.size)(ho:w1.os=w.os):DD F N ρ v w1:=
 ⟨h.ok,λa b hab=>by
  obtain⟨o,o',h1,h2,h3⟩:=h.obj a b hab
  exact⟨o,o',h1,by rw[hr b (h.dom hab).2];exact h2,h3⟩,h.tok,h.nv,Ah h.nw hz,ho.trans h.os,λs n a b hq=>by
  obtain⟨B,hB,hc⟩:=h.seq s n a b hq
  exact⟨B,hB.kZ λc hcB=>hr c (hB.lt c hcB),hc⟩⟩
theorem Ve.kept{Z:Nat->Prop}{ρ:Rn}{w w1:World}(h:Ve Z ρ w)(hr: ∀b,b<w.heap.size->w1.heap[b]? =w.heap[b]?):Ve Z ρ w1:=λs n a b hq=>by
 obtain⟨B,hB,hc⟩:=h s n a b hq;exact⟨B,hB.kZ λc hcB=>hr c (hB.lt c hcB),hc⟩
structure Dv (Z:Nat->Prop) (ρ:Rn) (w:World) (Z':Nat->Prop) (ρ1:Rn) (v1 w':World):Prop where
 le:ρ.le ρ1
 rel:DD K1.F 2 ρ1 v1 w'
 apart:Apart Z' ρ1 w'
 sl:Ve Z' ρ1 w'
 zle: ∀b,Z b->Z' b
 AG0: ∀b,Z' b->Z b\/w.heap.size<=b
 low: ∀a b,ρ1.r a b->b<w.heap.size->∃a',ρ.r a' b
 sz:w.heap.size<=w'.heap.size
 keep: ∀b,b<w.heap.size->(∀a,¬ρ.r a b)->w'.heap[b]? =w.heap[b]?
 same:w'.tape=w.tape/\w'.os=w.os/\w'.output=w.output
theorem Dv.trans{Z Z' Z'':Nat->Prop}{ρ ρ1 ρ2:Rn}{v1 v2 w w1 w2:World}(h:Dv Z ρ w Z' ρ1 v1 w1)(k:Dv Z' ρ1 w1 Z'' ρ2 v2 w2):Dv Z ρ w Z'' ρ2 v2 w2 where
 le:=h.le.trans k.le
 rel:=k.rel
 apart:=k.apart
 sl:=k.sl
 zle:=λb hb=>k.zle b (h.zle b hb)
 AG0:=λb hb=>by
  rcases k.AG0 b hb with x|x;exact h.AG0 b x;exact .inr (Ah h.sz x)
 low:=λa b hab hb=>by
  obtain⟨a',h1⟩:=k.low a b hab (BU hb h.sz);exact h.low a' b h1 hb
 sz:=Ah h.sz k.sz
 keep:=λb hb hn=>(k.keep b (BU hb h.sz) λa hab=>by
  obtain⟨a',h1⟩:=h.low a b hab hb
  exact hn a' h1).trans (h.keep b hb hn)
 same:=⟨k.same.1.trans h.same.1,k.same.2.1.trans h.same.2.1,k.same.2.2.trans h.same.2.2⟩
def vz:RF (λ_:Nat=>False) where
 R:=λ_=>True
 st:=λ_ _ _ _ _=>trivial
 lt:=λ_ _ _ h=>h.elim
section
variable {Z:Nat->Prop} {gs:Array Goroutine} {t:Trace} {q:Nat->Nat} {sl:Option (Nat×Nat)} {w v:World} {ρ:Rn} {to to':Value} {s:ByteArray} {n:Int} {p1 p2:Nat} {Kp:Frame->List Frame->World->Prop} {c0 c0':Frame} {cs cs0:List Frame}
theorem AFE(hS:Sit Tryz.prog Z gs w t (G (Frame.enter Tryz.prog 46 #[qV 79 p1 p2,to'] .normal) (c0'::cs0)) q)(hW:DD K1.F 2 ρ v w)(hZ:Apart Z ρ w)(hq:ρ.q s n p1 p2)(hsl:Ve Z ρ w)
  (hev:Ev Ae Kp (Frame.enter Ae 46 #[FD 79 s n,to] .normal) (c0::cs) v) (hto:Au K1.F ρ to to') (Bz: ∀f ts v,Kp f ts v->ts=[]/\f.mode=.returning)
  (OX:ND Ae Kp ⟨Frame.enter Ae 46 #[FD 79 s n,to] .normal,c0::cs,v⟩):
  ∃(N:Nat) (gs':Array Goroutine) (w':World) (sl':Option (Nat×Nat)) (t':Trace) (q':Nat->Nat) (Z':Nat->Prop) (ρ1:Rn) (v1:World) (cnt e:Int),
   runNT Tryz.prog N (crowd gs w sl) t=(.next (crowd gs' w' sl'),t')/\Sit Tryz.prog Z' gs' w' t' (G (c0'.finish (.tuple #[.int .i64 cnt,.int .i64 e])) cs0) q'/\
   Jb Ae Kp ⟨c0.finish (.tuple #[.int .i64 cnt,.int .i64 e]),cs,v1⟩ ⟨Frame.enter Ae 46 #[FD 79 s n,to] .normal,c0::cs,v⟩/\Dv Z ρ w Z' ρ1 v1 w':=by
 obtain⟨B0,AAL,hB0⟩:=hsl _ _ _ _ hq;obtain⟨sz,rfl⟩: ∃sz:Nat,n=sz:=⟨n.toNat,by have:=AAL.pos;omega⟩;have hZw: ∀b,Z b->b<w.heap.size:=hZ.z
 have hpre:Ps Tryz.prog (λ(a:Goroutine) (o:Own (λ_:Nat=>False))=>∃xb c1 c2 b1 b2 wg,[wg,b2,b1,c2,c1,xb].Nodup/\a=G (Frame.enter Tryz.prog 74 #[.pointer (some ⟨wg,0,none⟩),.int .i64 1] .normal)
   (fr 46 #[.func (.func 79) #[] #[.pointer (some ⟨p1,0,none⟩),.pointer (some ⟨p2,0,none⟩)],to',.pointer (some ⟨xb,0,none⟩),undef,.int .i64 0,.int .i64 0,.pointer (some ⟨b1,0,none⟩),.pointer (some ⟨b2,0,none⟩),.pointer (some ⟨wg,0,none⟩),undef,.chan (some c1),.chan (some c2),undef,undef,undef,undef,undef,undef,undef,undef,undef,undef,undef,undef,undef,undef,undef,undef,undef] [.inRegion ops3 [0],.code Si] [] none::c0'::cs0)/\
   o=ow vz (λ_=>False) [(wg,.cells #[.int .u64 0,.int .u32 0] 168),(b2,.cells #[.chan (some c2)] 158),(b1,.cells #[.chan (some c1)] 157),(c2,.chan 0 #[] false 0 0 false),(c1,.chan 0 #[] false 0 0 false),(xb,.cells #[.func (.func 79) #[] #[.pointer (some ⟨p1,0,none⟩),.pointer (some ⟨p2,0,none⟩)]] 106)])
   (G (Frame.enter Tryz.prog 46 #[.func (.func 79) #[] #[.pointer (some ⟨p1,0,none⟩),.pointer (some ⟨p2,0,none⟩)],to'] .normal) (c0'::cs0)) (ow vz (λ_=>False) []):=
  AGr MP λxb c1 c2 b1 b2 wg hnd=>Ps.fin ⟨xb,c1,c2,b1,b2,wg,hnd,rfl,rfl⟩
 obtain⟨N1,gs1,w1,sl1,t1,q1,a1,o1,r1,z1,S1,⟨xb,c1,c2,b1,b2,wg,hnd,rfl,rfl⟩,I1,E1⟩:=hpre (sl:=sl) hS.AGo ⟨λp hp=>(by cases hp),trivial⟩ (λb hb=>(by rcases hb with h|h;exact h.elim;simp at h)) (λb hb=>hb.elim) hZw;clear hpre;have hI1:=I1.1;simp only[AA,AB,or_false,forall_eq_or_imp,forall_eq] at hI1;obtain⟨iwg,ib2,ib1,ic2,ic1,ixb⟩:=hI1
 have fJ: ∀b∈[wg,b2,b1,c2,c1,xb],w.heap.size<=b/\¬Z b:=λb hb=>by
  have hO:(ow vz (λ_=>False) [(wg,Obj.cells #[.int .u64 0,.int .u32 0] 168),(b2,.cells #[.chan (some c2)] 158),(b1,.cells #[.chan (some c1)] 157),(c2,.chan 0 #[] false 0 0 false),(c1,.chan 0 #[] false 0 0 false),(xb,.cells #[.func (.func 79) #[] #[.pointer (some ⟨p1,0,none⟩),.pointer (some ⟨p2,0,none⟩)]] 106)]).O b:=.inr hb;refine⟨?_,(E1.own b hO).2⟩;rcases E1.new b hO with h|h
  ·rcases h with h|h;exact h.elim;simp at h
  exact h
 have hnd':=hnd;simp only[DW,AA,AB,or_false,not_or] at hnd';have hwl:wg<w1.heap.size:=(BK.1 iwg).1;obtain⟨T,hT⟩: ∃T:Array Value,T= #[.func (.func 79) #[] #[.pointer (some ⟨p1,0,none⟩),.pointer (some ⟨p2,0,none⟩)],to',.pointer (some ⟨xb,0,none⟩),undef,.int .i64 0,.int .i64 0,.pointer (some ⟨b1,0,none⟩),.pointer (some ⟨b2,0,none⟩),.pointer (some ⟨wg,0,none⟩),undef,.chan (some c1),.chan (some c2),undef,undef,undef,undef,undef,undef,undef,undef,undef,undef,undef,undef,undef,undef,undef,undef,undef]:=⟨_,rfl⟩;rw[<- hT] at S1;obtain⟨N2,gs2,sl2,t2,q2,dd,r2,z2,S2⟩:=AGs (b₀:=fr 46 T [.inRegion ops3 [0],.code Si] [] none) (a₀:=⟨T,[]⟩) (ops₀:=ops3) (i₀:=0) (rest₀:=[]) (k₀:=[.code Si]) (cs:=c0'::cs0) (w:=w1) (sl:=sl1) wgLib S1 iwg hwl (fJ wg AY).2 (by rw[ACb];rfl);obtain⟨w2,hw2⟩: ∃w2:World,w2=(w1.setCell (FU wg) (.int .u64 KQ)).at dd:=⟨_,rfl⟩
 have Xt: ∀b,b≠wg->w2.heap[b]? =w1.heap[b]? :=λb hb=>by
  rw[hw2];show (w1.setCell (FU wg) (.int .u64 KQ)).heap[b]? =_;exact (NQ w1 (FU wg) (.int .u64 KQ)).1 b hb
 have h2w:w2.heap[wg]? =some (.cells #[.int .u64 KQ,.int .u32 0] 168):=by
  rw[hw2];exact WA.setSt (C:=cx Z ρ wg c1 c2 0 w s sz) (w:=w1) (st:=0) (sm:=0) iwg KQ
 (have h2z:w2.heap.size=w1.heap.size:=by rw[hw2];exact (NQ w1 (FU wg) (.int .u64 KQ)).2.1);(have h2s:w2.tape=w1.tape/\w2.os=w1.os/\w2.output=w1.output:=by rw[hw2];exact (NQ w1 (FU wg) (.int .u64 KQ)).2.2);rw[<- hw2] at r2;(have ea:G ((fr 46 T [.inRegion ops3 [0],.code Si] [] none).at ((⟨T,[]⟩:Act).put ((ops3[0]?).bind (·.dst)) (.tuple #[])) (.inRegion ops3 []::[.code Si])) (c0'::cs0)=G (fr 46 #[.func (.func 79) #[] #[.pointer (some ⟨p1,0,none⟩),.pointer (some ⟨p2,0,none⟩)],to',.pointer (some ⟨xb,0,none⟩),undef,.int .i64 0,.int .i64 0,.pointer (some ⟨b1,0,none⟩),.pointer (some ⟨b2,0,none⟩),.pointer (some ⟨wg,0,none⟩),undef,.chan (some c1),.chan (some c2),.tuple #[],undef,undef,undef,undef,undef,undef,undef,undef,undef,undef,undef,undef,undef,undef,undef,undef] [.inRegion ops3 [],.code Si] [] none) (c0'::cs0):=by rw[hT];rfl);rw[ea] at S2;obtain⟨o3,ho3⟩: ∃o3:Own (λ_:Nat=>False),o3=ow vz (λ_=>False) [(wg,Obj.cells #[.int .u64 KQ,.int .u32 0] 168),(b2,.cells #[.chan (some c2)] 158),(b1,.cells #[.chan (some c1)] 157),(c2,.chan 0 #[] false 0 0 false),(c1,.chan 0 #[] false 0 0 false),(xb,.cells #[.func (.func 79) #[] #[.pointer (some ⟨p1,0,none⟩),.pointer (some ⟨p2,0,none⟩)]] 106)]:=⟨_,rfl⟩
 have hO3: ∀b,o3.O b->b∈[wg,b2,b1,c2,c1,xb]:=λb hb=>by
  rw[ho3] at hb;rcases hb with h|h;exact h.elim;exact h
 have hmid:Ps Tryz.prog (λa o=>a=G (fr 46 #[.func (.func 79) #[] #[.pointer (some ⟨p1,0,none⟩),.pointer (some ⟨p2,0,none⟩)],to',.pointer (some ⟨xb,0,none⟩),undef,.int .i64 0,.int .i64 0,.pointer (some ⟨b1,0,none⟩),.pointer (some ⟨b2,0,none⟩),.pointer (some ⟨wg,0,none⟩),undef,.chan (some c1),.chan (some c2),.tuple #[],.func (.func 75) #[] #[.pointer (some ⟨wg,0,none⟩),.pointer (some ⟨b1,0,none⟩),.pointer (some ⟨xb,0,none⟩),.pointer (some ⟨b2,0,none⟩)],undef,undef,undef,undef,undef,undef,undef,undef,undef,undef,undef,undef,undef,undef,undef] [.inRegion ops4 [1],.code Vd] [] none) (c0'::cs0)/\o=o3) _ o3:=AGt (KF:=undef) MP (Ps.fin ⟨rfl,rfl⟩)
 have hI2:o3.I w2:=by
  rw[ho3];refine⟨λp hp=>?_,trivial⟩;simp only[AA,AB,or_false] at hp;rcases hp with rfl|rfl|rfl|rfl|rfl|rfl;exact h2w;exact (Xt _ Ac).trans ib2;exact (Xt _ Ac).trans ib1;exact (Xt _ Ac).trans ic2;exact (Xt _ Ac).trans ic1;exact (Xt _ Ac).trans ixb
 have hO2: ∀b,o3.O b->b<w2.heap.size/\¬Z b:=λb hb=>⟨by
  obtain⟨p,hp,rfl⟩: ∃p∈[(wg,Obj.cells #[.int .u64 KQ,.int .u32 0] 168),(b2,.cells #[.chan (some c2)] 158),(b1,.cells #[.chan (some c1)] 157),(c2,.chan 0 #[] false 0 0 false),(c1,.chan 0 #[] false 0 0 false),(xb,.cells #[.func (.func 79) #[] #[.pointer (some ⟨p1,0,none⟩),.pointer (some ⟨p2,0,none⟩)]] 106)],p.1=b:=by
   rw[ho3] at hb;rcases hb with h|h;exact h.elim;exact Ag.1 h
  rw[ho3] at hI2
  exact (BK.1 (hI2.1 p hp)).1,(fJ b (hO3 b hb)).2⟩
 rw[<- h2z] at S2;obtain⟨N3,gs3,w3,sl3,t3,q3,a3,o3',r3,z3,S3,⟨rfl,rfl⟩,I3,E3⟩:=hmid (sl:=sl2) (w:=w2) S2 hI2 hO2 (λb hb=>hb.elim) (λb hb=>by rw[h2z];exact BU (hZw b hb) E1.sz);clear hmid
 have hold: ∀b,b<w.heap.size->w3.heap[b]? =w.heap[b]? :=λb hb=>by
  (have hnew: ∀b',b'∈[wg,b2,b1,c2,c1,xb]->b≠b':=λb' hb' e=>by have:=(fJ b' hb').1;omega);rw[E3.keep b (by rw[h2z];exact BU hb E1.sz) (λh=>hnew b (hO3 b h) rfl),Xt b (hnew wg AY)];exact E1.keep b hb (λh=>by rcases h with h|h;exact h.elim;simp at h)
 have AAN:w.heap.size<=w3.heap.size:=Ah E1.sz (by rw[<- h2z];exact E3.sz);have hs3:w3.tape=w.tape/\w3.os=w.os/\w3.output=w.output:=⟨(E3.same.1.trans h2s.1).trans E1.same.1,(E3.same.2.1.trans h2s.2.1).trans E1.same.2.1,(E3.same.2.2.trans h2s.2.2).trans E1.same.2.2⟩;have jF:=I3;rw[ho3] at jF;have jF:=jF.1;simp only[AA,AB,or_false,forall_eq_or_imp,forall_eq] at jF;obtain⟨jwg,jb2,jb1,jc2,jc1,jxb⟩:=jF;have AKJ:=(fJ wg AY).1
 obtain⟨N4,gs4,w4,sl4,t4,q4,a4,ρ1,v1,cnt,e,d0,d1,d2,d3,d6,d9,d10,d11,d12,d13,d14,d15,d16,d17,d18,d19,d20,d21,d22,d23,d24,d25,d26,d27,d28,r4,S4,⟨nl,hlv⟩,hnx,hP⟩:=AGx (v:=v) (ρ:=ρ) (to:=to) (s:=s) (Kp:=Kp) (c0:=c0) (cs:=cs) (sl:=sl3) S3 AKJ ((hW.alike AAI).kept hold AAN hs3.2.1)
  ⟨hZ.r,λb hb=>BU (hZw b hb) AAN⟩ hq (λs n a b hq=>by
   obtain⟨B,hB,hc⟩:=hsl s n a b hq;refine⟨B,hB.kZ λc hcB=>hold c (hB.lt c hcB),λc hcB=>⟨(hc c hcB).1,?_⟩⟩;rintro (h|h);exact (hc c hcB).2 h
   have:=hB.lt c hcB;omega) jwg jxb jb1 jb2 jc1 jc2 (λb hb=>⟨λa hab=>by have h1:=(hW.dom hab).2;have h2:=(fJ b hb).1;omega,(fJ b hb).2⟩) hnd hev (hto.alike AAI) Bz OX
 obtain⟨N5,gs5,w5,sl5,t5,q5,a5,r5,z5,S5,st5⟩:=vg (B:=w4.heap.size) (D:=DC0) (sl:=sl4) (λw w' es h e he=>by rw[h.2] at he;simp at he) S4.AGo (AAM (w0:=w4) (atRel_refl _) (hlv w4));obtain⟨rfl,d5,e5⟩:=st5 w5.drawn;have e5:w5=w4.at d5:=e5;subst e5;have hout:Ps Tryz.prog (λa o=>a=G (c0'.finish (.tuple #[.int .i64 cnt,.int .i64 e])) cs0/\o=ow vz (λ_=>False) []) _ (ow vz (λ_=>False) []):=AGz (d0:=d0) (d1:=d1) (d2:=d2) (d3:=d3) (d6:=d6) (d9:=d9) (d10:=d10) (d11:=d11) (d12:=d12) (d13:=d13) (d14:=d14) (d15:=d15) (d16:=d16) (d17:=d17) (d18:=d18) (d19:=d19) (d20:=d20) (d21:=d21) (d22:=d22) (d23:=d23) (d24:=d24) (d25:=d25) (d26:=d26) (d27:=d27) (d28:=d28) (d7:=.pointer (some ⟨b2,0,none⟩)) (d8:=.pointer (some ⟨wg,0,none⟩)) MP (Ps.fin ⟨rfl,rfl⟩)
 have hZ4: ∀b,(Z b\/b=wg)->b<w4.heap.size:=λb hb=>by
  have h3:=hP.sz;rcases hb with hb|rfl;have:=hZw b hb;omega;have:=(BK.1 jwg).1;omega
 obtain⟨N6,gs6,w6,sl6,t6,q6,a6,o6,r6,z6,S6,⟨rfl,rfl⟩,I6,E6⟩:=hout (sl:=sl5) (w:=w4.at d5) S5 ⟨λp hp=>(by cases hp),trivial⟩ (λb hb=>(by rcases hb with h|h;exact h.elim;simp at h)) (λb hb=>hb.elim) hZ4;have h64: ∀b,b<w4.heap.size->w6.heap[b]? =w4.heap[b]? :=λb hb=>E6.keep b hb (λh=>by rcases h with h|h;exact h.elim;simp at h);have Qr:w4.heap.size<=w6.heap.size:=E6.sz;refine⟨_,gs6,w6,sl6,t6,q6,λb=>Z b\/b=wg,ρ1,v1,cnt,e,EP (EP (EP (EP (EP r1 r2) r3) r4) r5) r6,?_,hnx,?_⟩;exact⟨S6.at0,S6.leavers,(S6.past.mono (AP _)).past⟩;refine⟨hP.le,(hP.rel.alike AGj).kept h64 Qr E6.same.2.1,⟨hP.apart,λb hb=>BU (hZ4 b hb) Qr⟩,Ve.kept hP.sl h64,λb hb=>.inl hb,λb hb=>?_,λa b hab hb=>?_,Ah AAN (Ah hP.sz Qr),λb hb hn=>?_,(E6.same.1.trans hP.same.1).trans hs3.1,(E6.same.2.1.trans hP.same.2.1).trans hs3.2.1,(E6.same.2.2.trans hP.same.2.2).trans hs3.2.2⟩
 ·rcases hb with hb|rfl;exact .inl hb;exact .inr AKJ
 ·rcases hP.low a b hab (BU hb AAN) with h|h;exact h;exfalso;have:=(fJ b (by simp at h⊢;rcases h with rfl|rfl|rfl<;>simp)).1;omega
 have hb3:=BU hb AAN
 rw[h64 b (BU hb3 hP.sz),hP.keep b hb3 hn (λh=>by
  have:=(fJ b (by simp at h⊢;rcases h with rfl|rfl|rfl<;>simp)).1
  omega)]
 exact hold b hb
end
section
variable {T:Twin} {F:Fs} {N:Nat} {ρ:Rn} {v w:World}
theorem AJp(hW:DD F N ρ v w){a a':Addr}(ha:RelA ρ a a'): ∀(n i:Nat) (acc:Array Value),
  (∃vs:List Value,vs.length=n/\(∀j x,vs[j]? =some x->∃x',v.cell? (a.add (i+j))=some x/\w.cell? (a'.add (i+j))=some x'/\Au F ρ x x')/\(loadCellsFrom a i n acc).run T.v v=.ok (acc++vs.toArray) v)\/
  ∃h,(loadCellsFrom a i n acc).run T.v v=.halt h v/\Halt.still h:=by
 intro n
 induction n with
 |zero=>intro i acc;exact .inl ⟨[],rfl,λj x h=>(by simp at h),by simp[loadCellsFrom]⟩
 |succ n ih=>
  intro i acc;rcases ah hW (ha.add i) with ⟨x,x',h1,h2,h3⟩|⟨h1,h2⟩
  ·have e:(loadCellsFrom a i (n+1) acc).run T.v v=(loadCellsFrom a (i+1) n (acc.push x)).run T.v v:=by
    simp only[loadCellsFrom,load,Sem.run_bind];rw[Sem.run,h1];rfl
   rw[e];rcases ih (i+1) (acc.push x) with ⟨vs,k1,k2,k3⟩|h
   ·refine .inl ⟨x::vs,by simp[k1],λj y hy=>?_,by rw[k3];simp⟩
    cases j with
    |zero=>
     simp only[List.getElem?_cons_zero,BD] at hy;subst hy;exact⟨x',h1,h2,h3⟩
    |succ j=>
     simp only[List.getElem?_cons_succ] at hy;have:=k2 j y hy;rwa[show i+1+j=i+(j+1) by omega] at this
   exact .inr h
  right;obtain⟨s,hs⟩:=(YX (T:=T) h1 h2 false).1;refine⟨.stuck s,?_,trivial⟩;simp only[loadCellsFrom,load,Sem.run_bind];rw[Sem.run,h1];have e:(Mode.plain==Mode.atomic)=false:=rfl;simp only[e,hs];rfl
theorem AG1{P:Program}{a:Addr}{n k:Nat}{vs:List Value}(hl:(loadCells a n).run P v=.ok vs.toArray v):(∃ks:List Int,vs=ks.map (Value.int .u8))\/
  ∃h,(Conv.bytesToString (.slice (some a) n k)).run P v=.halt h v/\Halt.still h:=by
 unfold Conv.bytesToString;simp only[Sem.run_bind,hl,Result.andThen,List.forIn_toArray];clear hl;generalize ByteArray.empty=s0
 induction vs generalizing s0 with
 |nil=>exact .inl ⟨[],rfl⟩|cons x l ih=>
  by_cases hx: ∃k,x=.int .u8 k
  ·obtain⟨k,rfl⟩:=hx;rcases ih (s0.push (UInt8.ofNat k.toNat)) with ⟨ks,rfl⟩|⟨h,h1,h2⟩;exact .inl ⟨k::ks,rfl⟩;refine .inr ⟨h,?_,h2⟩;simp only[PV,pure_bind];exact h1
  refine .inr ⟨.stuck "bytesToString: byte expected",?_,trivial⟩;simp only[PV]
  cases x with
  |int k n=>cases k<;>first|exact absurd ⟨n,rfl⟩ hx|rfl
  |_=>rfl
theorem ACe(hW:DD F N ρ v w){x x':Value}(hx:Au F ρ x x'):(∃h,(Conv.bytesToString x).run T.v v=.halt h v/\Halt.still h)\/
  ∃ks:List Int,(Conv.bytesToString x).run T.v v=.ok (.string (strOfNums ks)) v/\((∃l c,x=.slice none l c/\x'=x/\ks=[])\/
   ∃a a' l c,x=.slice (some a) l c/\x'=.slice (some a') l c/\(0<l->RelA ρ a a')/\ks.length=l/\∀(i:Nat) (k:Int),ks[i]? =some k->v.cell? (a.add i)=some (.int .u8 k)/\w.cell? (a'.add i)=some (.int .u8 k)):=by
 have stk: ∀s,(stuck s:Sem Value).run T.v v=.halt (.stuck s) v:=λs=>rfl
 cases hx with
 |flat hf=>
  (cases x<;>first|exact .inl ⟨_,rfl,trivial⟩|skip);rename_i a n k
  cases a with|none=>exact .inr ⟨[],rfl,.inl ⟨n,k,rfl,rfl,rfl⟩⟩|some _=>exact CU hf
 | @slice a a' n k ha=>
  rcases AJp (T:=T) hW ha n 0 #[] with ⟨vs,h1,h2,h3⟩|⟨h,h1,h2⟩
  ·rcases AG1 (v:=v) (P:=T.v) (a:=a) (n:=n) (k:=k) (vs:=vs) (by unfold loadCells;rw[h3];simp) with ⟨ks,rfl⟩|⟨h,h4,h5⟩
   ·refine .inr ⟨ks,?_,.inr ⟨a,a',n,k,rfl,rfl,λ_=>ha,by simpa using h1,λi kk hk=>?_⟩⟩
    ·rw[run_bytesToString v a n k ks (by unfold loadCells;rw[h3];simp),foldl_push_bytes];simp[strOfNums,ByteArray.empty,ByteArray.emptyWithCapacity];rfl
    obtain⟨x',k1,k2,k3⟩:=h2 i (.int .u8 kk) (by simp[hk]);obtain rfl:=BN k3 rfl;rw[Dx] at k1 k2;exact⟨k1,k2⟩
   exact .inl ⟨h,h4,h5⟩
  refine .inl ⟨h,?_,h2⟩;unfold Conv.bytesToString loadCells;simp only[Sem.run_bind,h1,Result.andThen]
 | @emp b a hc=>exact .inr ⟨[],rfl,.inr ⟨⟨b,0,none⟩,a,0,0,rfl,rfl,λh=>absurd h (Nat.lt_irrefl 0),rfl,λi k h=>(by cases h)⟩⟩|_=>exact .inl ⟨_,rfl,trivial⟩
end
def RP (x y:Value) (s:ByteArray) (l i:Nat) (r12 r13 Jd Hm r16 Ho:Value):Array Value:=
 #[x,y,.string s,.int .i64 l,undef,.bool true,undef,undef,undef,undef,undef,.int .i64 i,r12,r13,Jd,Hm,r16,Ho,.int .i64 l,.bool true]
theorem JL:Ae.underlying 62=some (.slice 5):=(Ai.und _).trans Tryz.underlying62
theorem AG2{a:Addr}{l c i:Nat}{w:World}(hi:i<l):(Instr.indexAt 62 (.slice (some a) l c) (.int .i64 (i:Int))).run Ae w=.ok (.pointer (some (a.add i))) w:=by
 (have he:Ae.elem 62=5:=by unfold Program.elem;rw[JL]);rw[run_indexAt_slice _ _ _ _ _ _ _ (by rw[he];exact JL),he];have hs:(sizeOf 5).run Ae w=.ok 1 w:=Lib.byte_size Ap w;rw[hs];(have h1:(0:Int)<=(i:Int)/\(i:Int)<(l:Int):=by omega);simp[h1]
theorem rW{A:Option Addr}{l c:Nat}{w:World}(ty:TypeId):(Builtin.len_ #[62] ty #[.slice A l c]).run Ae w=.ok (.int .i64 (l:Int)) w:=by
 (have he:Ae.elem 62=5:=by unfold Program.elem;rw[JL]);rw[run_len_slice _ _ _ _ _ _ (by rw[he];exact JL)];rfl
theorem rX{A:Option Addr}{l c:Nat}{w:World}:(convert 62 9 (.slice A l c)).run Ae w=(Conv.bytesToString (.slice A l c)).run Ae w:=by
 have h1:=JL;have h2:Ae.underlying 9=some .string:=(Ai.und _).trans Tryz.underlying9;have h3:Ae.underlying 5=some (.int .u8):=(Ai.und _).trans Tryz.underlying5;simp[convert,run_underlying h1,run_underlying h2,run_underlying h3]
section
variable {Kp:Frame->List Frame->World->Prop} (Bz: ∀f ts v,Kp f ts v->ts=[]) {Good:VS->Prop} {fn:FuncId} {T:Array Value} {k:List Item} {cs:List Frame} {c0:Frame} {v v1:World}
 {ops:Array Oper} {i:Nat} {rest:List Nat} {op:Oper}
include Bz
theorem AG3(x:Value)(ho:ops[i]? =some op)(hw:Region.wanted op (yielded ops T)=true)(hr:(execOp (ev T) op).run Ae v=.ok (.value x) v)
  (next:Vr Ae Kp Good ⟨fr fn (put T op.dst x) (.inRegion ops rest::k) [] none,c0::cs,v⟩):Vr Ae Kp Good ⟨fr fn T (.inRegion ops (i::rest)::k) [] none,c0::cs,v⟩:=
 (MO (λx=>by cases Bz _ _ _ x) (WV ho hw (.inl rfl) hr) next).vr
theorem RQ{m:String}(h:Ev Ae Kp (fr fn T (.code (.refuse m)::k) [] none) (c0::cs) v):False:=by
 have e: ∃o u es,stepG Ae true (G (fr fn T (.code (.refuse m)::k) [] none) (c0::cs++[door Ae])) v=.ended o u es:=⟨_,_,_,rfl⟩;obtain⟨o,u,es,e⟩:=e;exact Xb Bz h e
theorem Xc{hh:Halt}(h:Ev Ae Kp (fr fn T (.inRegion ops (i::rest)::k) [] none) (c0::cs) v)(ho:ops[i]? =some op)(hw:Region.wanted op (yielded ops T)=true)(hr:(execOp (ev T) op).run Ae v=.halt hh v)(hs:Halt.still hh):False:=by
 obtain⟨q,u,es,e⟩:=kV (P:=Ae) (mn:=true) (fn:=fn) (T:=T) (k:=k) (D:=[]) (cs:=c0::cs++[door Ae]) (i:=i) (rest:=rest) ho hw hr hs;exact Xb Bz h e
omit Bz in
theorem wB{s:VS}(h:Ev Ae Kp s.f s.ts s.v)(k:Vr Ae Kp Good s): ∃s',Good s'/\(s'=s\/Jb Ae Kp s' s)/\Ev Ae Kp s'.f s'.ts s'.v:=by
 obtain⟨s',hg,e⟩:=k;refine⟨s',hg,e,?_⟩;rcases e with rfl|e;exact h;exact Ev.OU h e
theorem AG4{x y:Value}{s:ByteArray}{A:Option Addr}{l c:Nat}{ks:List Int}(hx:x=.slice A l c)(hl:l<=1073741824)(hks:ks.length=l)(hcell: ∀(i:Nat) (k:Int),ks[i]? =some k->∃a,A=some a/\v.cell? (a.add i)=some (.int .u8 k)):
  ∀(m i:Nat),m+i=l->∀(r12 r13 Jd Hm r16 Ho:Value),Ev Ae Kp (fr 47 (RP x y s l i r12 r13 Jd Hm r16 Ho) [.code Ai.JB,.inLoop Ai.JB,.inBlock 0,.code Ai.IG] [] none) (c0::cs) v->
   (∃q12 q13 wC OC q16 qB,Jb Ae Kp ⟨fr 47 (RP x y s l l q12 q13 wC OC q16 qB) [.code Ai.IG] [] none,c0::cs,v⟩ ⟨fr 47 (RP x y s l i r12 r13 Jd Hm r16 Ho) [.code Ai.JB,.inLoop Ai.JB,.inBlock 0,.code Ai.IG] [] none,c0::cs,v⟩)/\
   ∀(j:Nat) (k:Int),i<=j->ks[j]? =some k->0<=k/\k<=255:=by
 intro m
 induction m with
 |zero=>
  intro i hi r12 r13 Jd Hm r16 Ho hev;(obtain rfl:i=l:=by omega);refine⟨?_,λj k hj hk=>?_⟩
  ·have wE:kL Ae Kp (λs'=>∃q12 q13 wC OC q16 qB,s'=⟨fr 47 (RP x y s i i q12 q13 wC OC q16 qB) [.code Ai.IG] [] none,c0::cs,v⟩) ⟨fr 47 (RP x y s i i r12 r13 Jd Hm r16 Ho) [.code Ai.JB,.inLoop Ai.JB,.inBlock 0,.code Ai.IG] [] none,c0::cs,v⟩:=by
    unfold RP;refine MO (λx=>by cases Bz _ _ _ x) Jk ?_;(iterate 4 refine Po ?_);(have hd:decide ((i:Int)<(i:Int))=false:=by simp);refine Po ?_;refine II Bz (λw=>s_exit rfl) ?_;exact .fin ⟨_,_,_,_,_,_,rfl⟩
   obtain⟨s',⟨q12,q13,wC,OC,q16,qB,rfl⟩,hn⟩:=wE;exact⟨q12,q13,wC,OC,q16,qB,hn⟩
  have:=(BB.1 hk).1;omega
 |succ m ih=>
  intro i hi r12 r13 Jd Hm r16 Ho hev;(have hil:i<l:=by omega);obtain⟨kk,hkk⟩: ∃kk,ks[i]? =some kk:=⟨_,Af Ac⟩;obtain⟨a,rfl,hc⟩:=hcell i kk hkk;(have hw:IntKind.i64.wrap ((i:Int)+1)=(i:Int)+1:=by rw[IntKind.wrap_i64];omega);have hw2:((i+1:Nat):Int)=(i:Int)+1:=by omega
  have wE:kL Ae Kp (λs'=>s'=⟨fr 47 (RP x y s l (i+1) (.bool true) (.pointer (some (a.add i))) (.int .u8 kk) (.bool (decide (0<=kk))) (.bool (decide (kk<=255))) (.int .i64 ((i+1:Nat):Int))) [.code (.seq (.cond (.tmp 15) .skip (.refuse "")) (.cond (.tmp 16) .skip (.refuse ""))),.inLoop Ai.JB,.inBlock 0,.code Ai.IG] [] none,c0::cs,v⟩) ⟨fr 47 (RP x y s l i r12 r13 Jd Hm r16 Ho) [.code Ai.JB,.inLoop Ai.JB,.inBlock 0,.code Ai.IG] [] none,c0::cs,v⟩:=by
   subst hx;unfold RP;refine MO (λx=>by cases Bz _ _ _ x) Jk ?_;(have hlt:decide ((i:Int)<(l:Int))=true:=by simp;omega);(iterate 8 refine Po ?_);refine ADn Bz (.pointer (some (a.add i))) rfl rfl (λw=>?_) ?_
   ·show ((Instr.indexAt 62 (.slice (some a) l c) (.int .i64 (i:Int))>>=λr=>pure (Next.value r)):Sem Next).run Ae w=_;rw[Sem.run_bind,AG2 hil];rfl
   simp only[put];walk_nrm;refine AG3 Bz (.int .u8 kk) rfl rfl ?_ ?_
   ·have f0:=hc;unfold ev;go_simp;try exact rfl
   simp only[put];walk_nrm;(iterate 5 refine Po ?_);rw[<- hw2];exact .fin rfl
  obtain⟨s',rfl,hn⟩:=wE;have hev1:=Ev.OU (s:=⟨_,_,_⟩) hev hn;simp only at hev1;have hev2:=Ob Bz (c:=c0) (ts:=cs) hev1 Jk;by_cases h0:0<=kk
  ·by_cases h5:kk<=255
   ·have APZ:Vr Ae Kp (λs'=>s'=⟨fr 47 (RP x y s l (i+1) (.bool true) (.pointer (some (a.add i))) (.int .u8 kk) (.bool true) (.bool true) (.int .i64 ((i+1:Nat):Int))) [.code Ai.JB,.inLoop Ai.JB,.inBlock 0,.code Ai.IG] [] none,c0::cs,v⟩) ⟨fr 47 (RP x y s l (i+1) (.bool true) (.pointer (some (a.add i))) (.int .u8 kk) (.bool (decide (0<=kk))) (.bool (decide (kk<=255))) (.int .i64 ((i+1:Nat):Int))) [.code (.seq (.cond (.tmp 15) .skip (.refuse "")) (.cond (.tmp 16) .skip (.refuse ""))),.inLoop Ai.JB,.inBlock 0,.code Ai.IG] [] none,c0::cs,v⟩:=by
     (have e1:decide (0<=kk)=true:=by simpa using h0);(have e2:decide (kk<=255)=true:=by simpa using h5);rw[e1,e2];unfold RP;(iterate 6 refine Po ?_);exact .fin rfl
    obtain⟨s',rfl,hn2⟩:=APZ
    have hn3:Jb Ae Kp ⟨fr 47 (RP x y s l (i+1) (.bool true) (.pointer (some (a.add i))) (.int .u8 kk) (.bool true) (.bool true) (.int .i64 ((i+1:Nat):Int))) [.code Ai.JB,.inLoop Ai.JB,.inBlock 0,.code Ai.IG] [] none,c0::cs,v⟩ ⟨fr 47 (RP x y s l i r12 r13 Jd Hm r16 Ho) [.code Ai.JB,.inLoop Ai.JB,.inBlock 0,.code Ai.IG] [] none,c0::cs,v⟩:=by
     rcases hn2 with e|hn2;rw[e];exact hn;exact hn2.trans hn
    have APa:=Ev.OU (s:=⟨_,_,_⟩) hev hn3;obtain⟨⟨q12,q13,wC,OC,q16,qB,hq⟩,hall⟩:=ih (i+1) Ac _ _ _ _ _ _ APa;refine⟨⟨q12,q13,wC,OC,q16,qB,hq.trans hn3⟩,λj k hj hk=>?_⟩;rcases Nat.eq_or_lt_of_le hj with rfl|hj
    ·rw[hkk] at hk;obtain rfl:=BQ hk;exact⟨h0,h5⟩
    exact hall j k hj hk
   exfalso;(have e1:decide (0<=kk)=true:=by simpa using h0);(have e2:decide (kk<=255)=false:=by simpa using h5);rw[e1,e2] at hev2;have h3:=Ob Bz (c:=c0) (ts:=cs) hev2 (s_cond (b:=true) rfl);have h4:=Ob Bz (c:=c0) (ts:=cs) h3 Qc;have h5:=Ob Bz (c:=c0) (ts:=cs) h4 (s_cond (b:=false) rfl);exact RQ Bz h5
  exfalso;(have e1:decide (0<=kk)=false:=by simpa using h0);rw[e1] at hev2;have h3:=Ob Bz (c:=c0) (ts:=cs) hev2 (s_cond (b:=false) rfl);exact RQ Bz h3
end
noncomputable def ops9:Array Oper:=match EH Ai.f47 with| .seq (.region _ o _) _=>o|_=>#[]
noncomputable def c9:Code:=match EH Ai.f47 with| .seq _ c=>c|_=>.skip
noncomputable def AG5:Array Oper:=match Ai.IG with| .seq (.region _ o _) _=>o|_=>#[]
noncomputable def c9p:Code:=match Ai.IG with| .seq _ c=>c|_=>.skip
theorem AG6{x:Value}{w:World}(ty:TypeId):(∃A l c,x=.slice A l c)\/∃h,(Builtin.len_ #[62] ty #[x]).run Ae w=.halt h w/\Halt.still h:=by
 by_cases hx: ∃A l c,x=.slice A l c;exact .inl hx;right;have h1:=JL
 have key: ∃s,(Builtin.len_ #[62] ty #[x]).run Ae w=.halt (.stuck s) w:=by
  cases x<;>first|exact absurd ⟨_,_,_,rfl⟩ hx|(refine⟨"len: string, array, pointer to array, slice, map or channel expected",?_⟩;simp[Builtin.len_,run_underlying h1,stuck])
 obtain⟨s,e⟩:=key;exact⟨_,e,trivial⟩
section
variable {Kp:Frame->List Frame->World->Prop} (Bz: ∀f ts v,Kp f ts v->ts=[]) {Good:VS->Prop} {cs:List Frame} {c0:Frame} {v:World}
include Bz
theorem APb{x y:Value}{s:ByteArray}{A:Option Addr}{l c:Nat}(hx:x=.slice A l c)(hs:(Conv.bytesToString x).run Ae v=.ok (.string s) v)
  (hev:Ev Ae Kp (fr 47 #[x,y,undef,undef,undef,undef,undef,undef,undef,undef,undef,undef,undef,undef,undef,undef,undef,undef,undef,undef] [.inRegion ops9 [0,1,2,3,4,5],.code c9] [] none) (c0::cs) v):
  s.size=l/\l<=1073741824/\Vr Ae Kp (λs'=>s'=⟨fr 47 (RP x y s l 0 undef undef undef undef undef undef) [.code Ai.JB,.inLoop Ai.JB,.inBlock 0,.code Ai.IG] [] none,c0::cs,v⟩) ⟨fr 47 #[x,y,undef,undef,undef,undef,undef,undef,undef,undef,undef,undef,undef,undef,undef,undef,undef,undef,undef,undef] [.inRegion ops9 [0,1,2,3,4,5],.code c9] [] none,c0::cs,v⟩:=by
 have start: ∀{G:VS->Prop},(∀(b5 b19:Bool),b5=decide ((l:Int)<=1073741824)->b19=decide ((s.size:Int)=(l:Int))->Vr Ae Kp G ⟨fr 47 #[x,y,.string s,.int .i64 l,undef,.bool b5,undef,undef,undef,undef,undef,.int .i64 0,undef,undef,undef,undef,undef,undef,.int .i64 s.size,.bool b19] [.inRegion ops9 [],.code c9] [] none,c0::cs,v⟩)->
   Vr Ae Kp G ⟨fr 47 #[x,y,undef,undef,undef,undef,undef,undef,undef,undef,undef,undef,undef,undef,undef,undef,undef,undef,undef,undef] [.inRegion ops9 [0,1,2,3,4,5],.code c9] [] none,c0::cs,v⟩:=λ{G} next=>by
  have NX:=AQ next;clear next hev;subst hx;have el:ops9=ops9:=rfl
  conv at el=>lhs;simp only[ops9,EH,Option.getD_some]
  rw[<- el] at NX⊢;clear el;refine ADn Bz (.int .i64 (l:Int)) rfl rfl (λw=>?_) ?_
  ·rw[UN (op:=_) rfl];simp only[BX,AL,BC];show ((Builtin.len_ #[62] 3 #[.slice A l c]>>=λr=>pure (Next.value r)):Sem Next).run Ae w=_;rw[Sem.run_bind,rW];rfl
  simp only[put];walk_nrm;refine AG3 Bz (.string s) rfl rfl ?_ ?_
  ·show ((convert 62 9 (.slice A l c)>>=λr=>pure (Next.value r)):Sem Next).run Ae v=_;rw[Sem.run_bind,rX,hs];rfl
  simp only[put];walk_nrm;(iterate 4 refine Po ?_);exact NX.out _ _ rfl (by first|rfl|simp|(trace_state;rfl))
 by_cases h1:s.size=l
 ·by_cases h2:l<=1073741824
  ·refine⟨h1,h2,start λb5 b19 e5 e19=>?_⟩;(have e5:b5=true:=by rw[e5];simp;omega);(have e19:b19=true:=by rw[e19];simp[h1]);subst e5 e19;rw[h1];have el:c9=c9:=rfl
   conv at el=>lhs;simp only[c9,EH,Option.getD_some]
   rw[<- el];clear el;(iterate 9 refine Po ?_);refine II Bz (λw=>iY) ?_;exact .fin rfl
  exfalso
  obtain⟨s',⟨T,k,rfl⟩,_,h⟩:=wB (Good:=λs'=>∃T k,s'=⟨fr 47 T (.code (.refuse "")::k) [] none,c0::cs,v⟩) (s:=⟨_,_,_⟩) hev (start λb5 b19 e5 e19=>by
   (have e5:b5=false:=by rw[e5];simp;omega);(have e19:b19=true:=by rw[e19];simp[h1]);subst e5 e19;have el:c9=c9:=rfl
   conv at el=>lhs;simp only[c9,EH,Option.getD_some]
   rw[<- el];clear el;iterate 6 refine Po ?_
   exact .fin ⟨_,_,rfl⟩)
  exact RQ Bz h
 exfalso
 obtain⟨s',⟨T,k,rfl⟩,_,h⟩:=wB (Good:=λs'=>∃T k,s'=⟨fr 47 T (.code (.refuse "")::k) [] none,c0::cs,v⟩) (s:=⟨_,_,_⟩) hev (start λb5 b19 e5 e19=>by
  (have e19:b19=false:=by rw[e19];simp;omega);subst e19;have el:c9=c9:=rfl
  conv at el=>lhs;simp only[c9,EH,Option.getD_some]
  rw[<- el];clear el;iterate 3 refine Po ?_
  exact .fin ⟨_,_,rfl⟩)
 exact RQ Bz h
theorem APc{x y:Value}{s:ByteArray}{l:Nat}{r12 r13 Jd Hm r16 Ho:Value}(hl:l<=1073741824)(hev:Ev Ae Kp (fr 47 (RP x y s l l r12 r13 Jd Hm r16 Ho) [.code Ai.IG] [] none) (c0::cs) v):
  ∃n sz:Int,y=.int .i64 n/\(n<1->sz=if (1:Int)<l then (l:Int) else 1)/\(1<=n->sz=n)/\sz<=9223372036854775807/\
   kL Ae Kp (λs'=>s'=⟨c0.finish (FD 79 s sz),cs,v⟩) ⟨fr 47 (RP x y s l l r12 r13 Jd Hm r16 Ho) [.code Ai.IG] [] none,c0::cs,v⟩:=by
 have e0:Ev Ae Kp (fr 47 (RP x y s l l r12 r13 Jd Hm r16 Ho) [.inRegion AG5 [0,1],.code c9p] [] none) (c0::cs) v:=
  Ob Bz (c:=c0) (ts:=cs) (Ob Bz (c:=c0) (ts:=cs) hev Jk) rD
 obtain⟨op,ho,hop,hw⟩: ∃op,AG5[0]? =some op/\op.op=.binOp .lss 3 (.tmp 1) (.const (.int .i64 1)) 3/\∀T,Region.wanted op T=true:=⟨_,rfl,rfl,λ_=>rfl⟩
 have hy: ∃n,y=.int .i64 n:=by
  refine LH λhn=>?_
  have hst: ∃why,(execOp (ev (RP x y s l l r12 r13 Jd Hm r16 Ho)) op).run Ae v=.halt why v/\Halt.still why:=by
   have e1:ev (RP x y s l l r12 r13 Jd Hm r16 Ho) (.tmp 1)=y:=rfl;have e2:ev (RP x y s l l r12 r13 Jd Hm r16 Ho) (.const (.int .i64 1))=.int .i64 1:=rfl;unfold execOp;simp only[hop,e1,e2]
   cases y with
   |int kk n=>
    cases kk<;>first|exact absurd ⟨n,rfl⟩ hn|exact⟨_,rfl,trivial⟩
   |_=>first|exact⟨_,rfl,trivial⟩|(rename_i y;cases y<;>exact⟨_,rfl,trivial⟩)
  obtain⟨why,hst,hs⟩:=hst;exact Xc Bz e0 ho (hw _) hst hs
 obtain⟨n,rfl⟩:=hy
 have hmx: ∀w,(Builtin.max_ #[3,3] 3 #[.int .i64 1,.int .i64 (l:Int)]).run Ae w=.ok (.int .i64 (if (1:Int)<l then (l:Int) else 1)) w:=λw=>by
  simp[Builtin.max_,Builtin.max2,Sem.run_pure]
 obtain⟨b6,hb6⟩: ∃b6,b6=decide (n<1):=⟨_,rfl⟩;(obtain⟨mx,ADz⟩: ∃mx:Int,mx=if (1:Int)<l then (l:Int) else 1:=⟨_,rfl⟩);rw[<- ADz] at hmx
 have start: ∀{G:VS->Prop},(∀sz:Int,((b6=true/\sz=mx)\/(b6=false/\sz=n))->Vr Ae Kp G ⟨fr 47 #[x,.int .i64 n,.string s,.int .i64 l,undef,.bool true,.bool b6,.int .i64 mx,.int .i64 sz,.bool (decide (sz<=9223372036854775807)),undef,.int .i64 l,r12,r13,Jd,Hm,r16,Ho,.int .i64 l,.bool true] [.code (.seq (.cond (.tmp 9) .skip (.refuse "")) (match Ai.IG with| .seq _ (.seq _ (.seq _ (.seq _ c)))=>c|_=>.skip))] [] none,c0::cs,v⟩)->
   kL Ae Kp G ⟨fr 47 (RP x (.int .i64 n) s l l r12 r13 Jd Hm r16 Ho) [.code Ai.IG] [] none,c0::cs,v⟩:=λ{G} next=>by
  have NX:=AQ next;clear next hev e0 ADz;unfold RP;refine MO (λx=>by cases Bz _ _ _ x) Jk ?_;(iterate 2 refine Po ?_);rw[<- hb6];refine ADn Bz (.int .i64 mx) rfl rfl (λw=>?_) ?_
  ·rw[UN (op:=_) rfl];simp only[BX,AL,BC];show ((Builtin.max_ #[3,3] 3 #[.int .i64 1,.int .i64 (l:Int)]>>=λr=>pure (Next.value r)):Sem Next).run Ae w=_;rw[Sem.run_bind,hmx];rfl
  simp only[put];walk_nrm;iterate 2 refine Po ?_
  cases b6 with
  |true=>
   (iterate 8 refine Po ?_);exact NX.out mx (.inl ⟨rfl,rfl⟩)
  |false=>
   (iterate 8 refine Po ?_);exact NX.out n (.inr ⟨rfl,rfl⟩)
 have APd:mx<=9223372036854775807:=by rw[ADz];split<;>omega
 have fin: ∀sz:Int,sz<=9223372036854775807->Vr Ae Kp (λs'=>s'=⟨c0.finish (FD 79 s sz),cs,v⟩) ⟨fr 47 #[x,.int .i64 n,.string s,.int .i64 l,undef,.bool true,.bool b6,.int .i64 mx,.int .i64 sz,.bool true,undef,.int .i64 l,r12,r13,Jd,Hm,r16,Ho,.int .i64 l,.bool true] [.code (.seq (.cond (.tmp 9) .skip (.refuse "")) (match Ai.IG with| .seq _ (.seq _ (.seq _ (.seq _ c)))=>c|_=>.skip))] [] none,c0::cs,v⟩:=λsz hsz=>by
  clear start hev e0;(iterate 8 refine Po ?_);refine II Bz (λw=>Nj) ?_;exact rM Bz AAB (λw=>MF (t:=4) rfl w) (.fin rfl)
 have ACf: ∀sz:Int,((b6=true/\sz=mx)\/(b6=false/\sz=n))->sz<=9223372036854775807:=λsz h=>by
  rcases h with ⟨_,rfl⟩|⟨_,rfl⟩;exact APd;refine LH λhlt=>?_
  obtain⟨s',⟨T,k,rfl⟩,_,h⟩:=wB (Good:=λs'=>∃T k,s'=⟨fr 47 T (.code (.refuse "")::k) [] none,c0::cs,v⟩) (s:=⟨_,_,_⟩) hev (start λsz' h'=>by
   (have e9:decide (sz<=9223372036854775807)=false:=by simpa using hlt);rcases h' with ⟨h1,h2⟩|⟨h1,h2⟩
   ·have h3:= ‹b6=false›;rw[h1] at h3;cases h3
   subst h2;rw[e9];iterate 2 refine Po ?_
   exact .fin ⟨_,_,rfl⟩).vr
  exact RQ Bz h
 (obtain⟨sz,hsz⟩: ∃sz:Int,(b6=true/\sz=mx)\/(b6=false/\sz=n):=by cases b6<;>simp);refine⟨n,sz,rfl,λh=>?_,λh=>?_,ACf sz hsz,start λsz' h'=>?_⟩
 ·rcases hsz with ⟨_,h2⟩|⟨h1,_⟩;rw[h2,ADz];rw[hb6] at h1;simp at h1;omega
 ·rcases hsz with ⟨h1,_⟩|⟨_,h2⟩;rw[hb6] at h1;simp at h1;omega;exact h2
 have e:sz'=sz:=by
  rcases hsz with ⟨h1,h2⟩|⟨h1,h2⟩<;>rcases h' with ⟨h3,h4⟩|⟨h3,h4⟩<;>first|exact h4.trans h2.symm|(rw[h1] at h3;cases h3)
 subst e;(have e9:decide (sz'<=9223372036854775807)=true:=by simpa using ACf sz' hsz);rw[e9];exact fin sz' (ACf sz' hsz)
end
end Go.Proofs.YtkkgcebhfghdnaaGreatDoor
