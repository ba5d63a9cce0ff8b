/- Part 14 of what that rests on; no condition. -/
import Derived.Test.YtkkgcebhfghdnaaGreatDoorJm
import Derived.Laws.BytesArg
import Derived.Lib.ByteType
set_option maxRecDepth 100000
set_option maxHeartbeats 8000000
open Go.Conv renaming bytesToString→Ph
open Option renaming getD_some→Dt, none→AB, some→AA
open ByteArray renaming empty→Lu
open Go.Result renaming andThen→P8
open Go renaming run_underlying→IG, loadCellsFrom→UY, Goroutine→Ac, strOfNums→FQ, execOp→BG, Value→AP, undef→AU, World→AL, Frame→AX
open Go.Region renaming wanted→DV
open Go.Builtin renaming len_→UZ
open Go.Sem renaming run_bind→Eh
open Go.Frame renaming enter→BV
open Go.Obj renaming cells→P7
namespace Go.Proofs.YtkkgcebhfghdnaaGreatDoor
open Go Go.Conc
def ABg (Z:Nat->Prop) (ρ:Rn) (wg:Nat) (W:AL) (b:Nat):Prop:=b≠wg/\(∀a,¬ρ.r a b)/\¬Z b/\∃o,W.heap[b]? =AA o/\isCells o
theorem ABg.lt{Z:Nat->Prop}{ρ:Rn}{wg:Nat}{W:AL}(b:Nat)(h:ABg Z ρ wg W b):b<W.heap.size:=by
 obtain⟨_,_,_,o,h,_⟩:=h;exact (Df.1 h).1
def V9 (Z:Nat->Prop) (ρ:Rn) (w:AL):Prop:=∀s n a b,ρ.q s n a b->∃B,Ij w B s n a b/\∀c∈B,(∀x,¬ρ.r x c)/\¬Z c
noncomputable def cx (Z:Nat->Prop) (ρ:Rn) (wg c1 c2 j:Nat) (W:AL) (s:ByteArray) (sz:Nat):Cx:=
 {P:=Tryz.prog,j:=j,bc:=c1,bs:=c2,wg:=wg,ty:=168,N:=(s.size+sz - 1)/sz,Cs:=Piece (ABg Z ρ wg W) s sz,SR:=ABg Z ρ wg W,Z:=Z,w0:=W,T0:=λb=>(∃a,ρ.r a b)\/b=wg\/b=c1\/b=c2,FW:=λ_=>True}
structure AL1 (Z:Nat->Prop) (ρ:Rn) (W:AL) (new:List Nat) (ρ1:Rn) (v1 w':AL) (wg:Nat):Prop where
 le:ρ.le ρ1
 rel:DD K2.F 2 ρ1 v1 w'
 apart: ∀a b,ρ1.r a b->¬(Z b\/b=wg)
 low: ∀a b,ρ1.r a b->b<W.heap.size->(∃a',ρ.r a' b)\/b∈new
 sz:W.heap.size<=w'.heap.size
 keep: ∀b,b<W.heap.size->(∀a,¬ρ.r a b)->b∉new->w'.heap[b]? =W.heap[b]?
 same:w'.tape=W.tape/\w'.os=W.os/\w'.output=W.output
 sl: ∀s n a b,ρ1.q s n a b->∃B,Ij w' B s n a b/\∀c∈B,(∀x,¬ρ1.r x c)/\¬(Z c\/c=wg)
section
variable {Z:Nat->Prop} {L:Nat} {gs:Array Ac} {t:Trace} {q:Nat->Nat} {sl:Option (Nat×Nat)} {W:AL} {v:AL} {ρ:Rn} {to to':AP} {s:ByteArray} {sz p1 p2 wg b1 b2 c1 c2 xb:Nat} {Kp:AX->List AX->AL->Prop} {c0:AX} {cs cs0:List AX}
 {a0 a3 a9 XT PE a16 a17 OU OV a20 a21 a22 a23 a24 a25 a26 a27 a28:AP}
theorem AIu(hS:OY Tryz.prog Z W.heap.size L gs t (G (fr 46 #[a0,to',.pointer (AA ⟨xb,0,AB⟩),a3,.int .i64 0,.int .i64 0,.pointer (AA ⟨b1,0,AB⟩),.pointer (AA ⟨b2,0,AB⟩),.pointer (AA ⟨wg,0,AB⟩),a9,.chan (AA c1),.chan (AA c2),.tuple #[],.func (.func 75) #[] #[.pointer (AA ⟨wg,0,AB⟩),.pointer (AA ⟨b1,0,AB⟩),.pointer (AA ⟨xb,0,AB⟩),.pointer (AA ⟨b2,0,AB⟩)],XT,PE,a16,a17,OU,OV,a20,a21,a22,a23,a24,a25,a26,a27,a28] [.inRegion ops4 [1],.code V8] [] AB) cs0) q 0)
  (hL:L<=wg) (hW:DD K2.F 2 ρ v W) (hZ:Apart Z ρ W) (hq:ρ.q s sz p1 p2) (hsl:V9 (λb=>Z b\/b=wg) ρ W)
  (hwg:W.heap[wg]? =AA (.cells #[.int .u64 KQ,.int .u32 0] 168)) (hx:W.heap[xb]? =AA (.cells #[.func (.func 79) #[] #[.pointer (AA ⟨p1,0,AB⟩),.pointer (AA ⟨p2,0,AB⟩)]] 106))
  (hb1:W.heap[b1]? =AA (.cells #[.chan (AA c1)] 157)) (hb2:W.heap[b2]? =AA (.cells #[.chan (AA c2)] 158)) (hc1:W.heap[c1]? =AA (.chan 0 #[] false 0 0 false)) (hc2:W.heap[c2]? =AA (.chan 0 #[] false 0 0 false))
  (hnew: ∀b∈[wg,b2,b1,c2,c1,xb],(∀a,¬ρ.r a b)/\¬Z b) (hnd:[wg,b2,b1,c2,c1,xb].Nodup)
  (hev:Ev Af Kp (BV Af 46 #[Fg 79 s sz,to] .normal) (c0::cs) v) (hto:Az K2.F ρ to to') (Bv: ∀f ts v,Kp f ts v->ts=[]/\f.mode=.returning)
  (O8:NQ Af Kp ⟨BV Af 46 #[Fg 79 s sz,to] .normal,c0::cs,v⟩):
  ∃(N:Nat) (gs':Array Ac) (w':AL) (sl':Option (Nat×Nat)) (t':Trace) (q':Nat->Nat) (a':Ac) (ρ1:Rn) (v1:AL) (cnt e:Int) (d0 d1 d2 d3 d6 d9 d10 d11 d12 d13 d14 d15 d16 d17 d18 d19 d20 d21 d22 d23 d24 d25 d26 d27 d28:AP),
   runNT Tryz.prog N (crowd gs W sl) t=(.next (crowd gs' w' sl'),t')/\Sit Tryz.prog (λb=>Z b\/b=wg) gs' w' t' a' q'/\
   ae Tryz.prog a' (G (fr 46 #[d0,d1,d2,d3,.int .i64 cnt,.int .i64 e,d6,.pointer (AA ⟨b2,0,AB⟩),.pointer (AA ⟨wg,0,AB⟩),d9,d10,d11,d12,d13,d14,d15,d16,d17,d18,d19,d20,d21,d22,d23,d24,d25,d26,d27,d28] [.inRegion ZV [],.code Px] [] AB) cs0)/\
   Jq Af Kp ⟨c0.finish (.tuple #[.int .i64 cnt,.int .i64 e]),cs,v1⟩ ⟨BV Af 46 #[Fg 79 s sz,to] .normal,c0::cs,v⟩/\AL1 Z ρ W [wg,c1,c2] ρ1 v1 w' wg:=by
 obtain⟨B0,ABh,hB0⟩:=hsl _ _ _ _ hq;(have hsz:1<=sz:=by have:=ABh.pos;omega);have hsz2:(sz:Int)<=9223372036854775807:=ABh.hi;have hs:s.size<=1073741824:=ABh.few;(have hl:s.data.toList.length=s.size:=by rw[Array.length_toList];rfl);obtain⟨N,gs1,sl1,t1,q1,d1,x,y,r1,z1,S1,hxx,hyy⟩:=AED (w:=W) (sl:=sl) hS rfl (λdd=>ARv (w:=W.at dd) rfl);obtain⟨C,hC⟩: ∃C,C=cx Z ρ wg c1 c2 gs1.size W s sz:=⟨_,rfl⟩;(have hCP:C.P=Tryz.prog:=by rw[hC];rfl);have Yt:C.SR=ABg Z ρ wg W:=by rw[hC];rfl
 have AIv: ∀b∈[b2,b1,xb],(∃o,W.heap[b]? =AA o/\isCells o)->C.SR b:=λb hb ho=>by
  rw[Yt];have h1:=hnew b (by simp at hb⊢;rcases hb with rfl|rfl|rfl<;>simp);refine⟨?_,h1.1,h1.2,ho⟩;simp only[Ii,BB,BC,or_false,not_or] at hnd hb;omega
 have hlt: ∀b,C.SR b->b<W.heap.size:=λb hb=>by rw[Yt] at hb;exact hb.lt
 have AMV: ∀s n a b,ρ.q s n a b->∃B,Ij W B s n a b/\∀c∈B,C.SR c:=λs n a b hq=>by
  obtain⟨B,hB,hBc⟩:=hsl _ _ _ _ hq;obtain⟨B2,hB2,ARz⟩:=zA hB;refine⟨B2,hB2,λc hc=>?_⟩;obtain⟨h1,h2⟩:=ARz c hc;obtain⟨h3,h4⟩:=hBc c h1;rw[Yt];exact⟨λe=>h4 (.inr e),h3,λe=>h4 (.inl e),h2⟩
 obtain⟨R,hR⟩: ∃R,R=frz C.SR W hlt:=⟨_,rfl⟩;have hRR: ∀w,R.R w↔∀b,C.SR b->w.heap[b]? =W.heap[b]? :=λw=>by rw[hR];rfl
 have hOG:OG R ρ:=⟨λa b hab hb=>by rw[Yt] at hb;exact hb.2.1 a hab,λw hw s n a b hq=>by
  obtain⟨B,hB,hc⟩:=AMV _ _ _ _ hq
  exact⟨B,hB.oD λc hcB=>(hRR w).1 hw c (hc c hcB),hc⟩⟩
 have AR0:R.Ok:=⟨λw hw b hb=>by
  rw[(hRR w).1 hw b hb];rw[Yt] at hb
  exact hb.2.2.2⟩
 have sb1:C.SR b1:=AIv b1 AV ⟨_,hb1,_,_,_,rfl⟩;have sb2:C.SR b2:=AIv b2 AV ⟨_,hb2,_,_,_,rfl⟩;have sxb:C.SR xb:=AIv xb AV ⟨_,hx,_,_,_,rfl⟩;(have hbc:C.bc=c1:=by rw[hC];rfl);(have hbs:C.bs=c2:=by rw[hC];rfl);(have iU:C.wg=wg:=by rw[hC];rfl);(have AMW:C.Cs=Piece C.SR s sz:=by rw[hC];rfl);(have hCN:C.N=(s.size+sz - 1)/sz:=by rw[hC];rfl);(have hCZ:C.Z=Z:=by rw[hC];rfl);(have hCj:C.j=gs1.size:=by rw[hC];rfl);(have AFi:C.w0=W:=by rw[hC];rfl);(have AMX:C.T0=λb=>(∃a,ρ.r a b)\/b=wg\/b=c1\/b=c2:=by rw[hC];rfl);(have AR1:C.ty=168:=by rw[hC];rfl);(have AR2:C.FW=λ_=>True:=by rw[hC];rfl);clear hC;(have hWA: ∀d,WA C (W.at d) KQ 0:=λd=>by unfold WA;rw[iU,AR1];exact hwg);have hlive: ∃w,Live C w:=⟨_,_,_,hWA 0⟩;(have EW: ∀w,R.R w->w.cell? ⟨b1,0,AB⟩=AA (.chan (AA C.bc)):=λw hw=>by rw[I8 (((hRR w).1 hw b1 sb1).trans hb1),hbc];rfl);(have rd2: ∀w,R.R w->w.cell? ⟨b2,0,AB⟩=AA (.chan (AA C.bs)):=λw hw=>by rw[I8 (((hRR w).1 hw b2 sb2).trans hb2),hbs];rfl);have hSY: ∀b,C.SY b↔b=wg\/b=c1\/b=c2:=λb=>by unfold Cx.SY;rw[iU,hbc,hbs]
 have AFj: ∀b,C.SY b->(∀a,¬ρ.r a b)/\¬Z b/\b<W.heap.size/\¬C.SR b:=λb hb=>by
  have hb:=(hSY b).1 hb;rcases hb with rfl|rfl|rfl;exact⟨(hnew _ AV).1,(hnew _ AV).2,(Df.1 hwg).1,λh=>by rw[Yt] at h;exact h.1 rfl⟩
  ·refine⟨(hnew _ AV).1,(hnew _ AV).2,(Df.1 hc1).1,λh=>?_⟩;rw[Yt] at h;obtain⟨_,_,_,o,ho,c,tt,f,rfl⟩:=h;rw[hc1] at ho;cases ho
  refine⟨(hnew _ AV).1,(hnew _ AV).2,(Df.1 hc2).1,λh=>?_⟩;rw[Yt] at h;obtain⟨_,_,_,o,ho,c,tt,f,rfl⟩:=h;rw[hc2] at ho;cases ho
 have hM:=AEC (C:=C) (R:=R) (cs0:=cs0) hCP (s:=s) (sz:=sz) (λk xv bk ob h=>by rw[AMW] at h;exact h) (by rw[hCN];exact (AFh hsz).1) hsz hsz2 hs (sb:=b2) sb2 rd2 hlive Bv (b1:=b1) sb1 EW hOG hev O8 hto (a0:=a0) (a2:=.pointer (AA ⟨xb,0,AB⟩)) (a3:=a3) (a9:=a9) (a10:=.chan (AA c1)) (a11:=.chan (AA c2)) (a12:=.tuple #[])
  (LD:=.func (.func 75) #[] #[.pointer (AA ⟨wg,0,AB⟩),.pointer (AA ⟨b1,0,AB⟩),.pointer (AA ⟨xb,0,AB⟩),.pointer (AA ⟨b2,0,AB⟩)]) (XT:=XT) (PE:=PE) (a16:=a16) (a17:=a17) (OU:=OU) (OV:=OV) (a20:=a20) (a21:=a21) (a22:=a22) (a23:=a23) (a24:=a24) (a25:=a25) (a26:=a26) (a27:=a27) (a28:=a28)
 obtain⟨B3,hB3,AR3⟩:=AMV _ _ _ _ hq;obtain⟨D,c,hX,hle,hDn,hD⟩:=AIt (C:=C) (hlt:=hlt) hB3 AR3 sxb hx;rw[<- hR] at hX hD
 have hPW:=w_all (C:=C) hCP AR0 (wg:=wg) (cb:=b1) (sb:=b2) (xb:=xb) (p1:=p1) (p2:=p2) ⟨sb1,sb2,EW,rd2⟩ hX hsz (by rw[hl];exact hs) Ad hle hDn hD
  (λk hk m cap hm h1 h2=>by rw[AMW];exact⟨by rw[hl] at hk;exact hk,hm,cap,h1,h2,rfl,rfl⟩) (λk h1 h2=>by rw[hCN,<- hl];exact (AFh hsz).2 k h1 h2) hlive (λL=>by rw[AR2];trivial) iU
 have hph:All C _ _ _ _ _ _ _ _ _:=phase hM hPW;obtain⟨gA,hgA⟩: ∃gA,gA=G (fr 46 #[a0,to',.pointer (AA ⟨xb,0,AB⟩),a3,.int .i64 0,.int .i64 0,.pointer (AA ⟨b1,0,AB⟩),.pointer (AA ⟨b2,0,AB⟩),.pointer (AA ⟨wg,0,AB⟩),a9,.chan (AA c1),.chan (AA c2),.tuple #[],.func (.func 75) #[] #[.pointer (AA ⟨wg,0,AB⟩),.pointer (AA ⟨b1,0,AB⟩),.pointer (AA ⟨xb,0,AB⟩),.pointer (AA ⟨b2,0,AB⟩)],XT,PE,a16,a17,OU,OV,a20,a21,a22,a23,a24,a25,a26,a27,a28] [.inRegion ops4 [],.code V8] [] AB) cs0:=⟨_,rfl⟩;obtain⟨gB,hgB⟩: ∃gB,gB=born Tryz.prog {target:=.fn (.func 75) #[.pointer (AA ⟨wg,0,AB⟩),.pointer (AA ⟨b1,0,AB⟩),.pointer (AA ⟨xb,0,AB⟩),.pointer (AA ⟨b2,0,AB⟩)],args:=#[]}:=⟨_,rfl⟩;(have hAr:gA.status=.running:=by rw[hgA];rfl);(have hBr:gB.status=.running:=by rw[hgB];rfl);rw[iU,<- hgA] at hph;rw[<- hgB] at hph;rw[<- hgA,<- hgB] at r1;clear hM hPW
 have hcf:Cf C ((gs1.setIfInBounds 0 gA).push gB) (W.at d1) (t1++ #[x,y]) q1 gA gB 0 0 (og K2.F 2 R ρ v hOG) (λ_=>False):=by
  rw[<- z1] at hxx hyy
  refine AIs (B:=W.heap.size) (L:=L) (by rw[hCP,hCZ];exact S1) hCj hxx hyy (Ba _) (by rw[iU];exact hL) (λb ⟨a,hab⟩=>⟨(hW.dom hab).2,hOG.dis a b hab,λh=>(AFj b h).1 a hab,by rw[hCZ];exact hZ.r a b hab⟩)
   (λb hb=>⟨hlt b hb,λh=>(AFj b h).2.2.2 hb,by rw[hCZ];rw[Yt] at hb;exact hb.2.2.1⟩) (λb hb=>⟨(AFj b hb).2.2.1,by rw[hCZ];exact (AFj b hb).2.1⟩) (λb hb=>by rw[hCZ] at hb;exact hZ.z b hb) ⟨hW.pre ⟨rfl,rfl⟩ ⟨rfl,rfl⟩,(hRR _).2 λ_ _=>rfl⟩
   ⟨λb _ _=>by rw[AFi];rfl,λb hb _=>?_⟩ (by rw[AFi];exact Ba _) (by rw[AFi];exact⟨rfl,rfl,rfl⟩)
  rw[AMX];rcases hb with hb|hb;exact .inl hb;exact .inr ((hSY b).1 hb)
 have hnd':=hnd;simp only[Ii,BB,BC,or_false,not_or] at hnd'
 have hst:St C .work (.work false) 0 0 gA gB (og K2.F 2 R ρ v hOG) (ow R (λ_=>False) []) ((gs1.setIfInBounds 0 gA).push gB) (W.at d1) (t1++ #[x,y]) q1 gA gB (λ_=>False) 0:=
  {cf:=hcf
   ne:=(by rw[hbc,hbs,iU];omega)
   MP:=.inl ⟨hAr,rfl,rfl,rfl⟩
   S9:=λ_=>.inl ⟨hBr,rfl,rfl,rfl⟩
   qu:=λh=>(by cases h)
   nb:=.inl hAr
   iw:=λ_=>⟨λp hp=>(by cases hp),(hRR _).2 λ_ _=>rfl⟩
   ow:=λx hx=>(by rcases hx with h|h;exact h;simp at h)
   c1:=⟨0,(by rw[hbc];exact hc1)⟩
   c2:=⟨0,(by rw[hbs];exact hc2)⟩
   wg:=.inl ⟨.inl rfl,hWA _⟩
   dw:=λ_=>rfl
   kk:=λ_=>⟨λs hs=>⟨rfl,(by cases hs;rfl)⟩,λh=>(by cases h)⟩
   rel:=λh=>(by cases h)}
 obtain⟨n,gs',w',sl',t',q',a',k,oM,h1,h2,h3,h4,h5,h6,h7,h8,h9,h10,h11,h12,h13,h14⟩:=hph (sl:=sl1) hst;obtain⟨a0',a1',a2',a3',a6',a9',a10',AUN,AUO,AUP,AUQ,AUR,AUS,AUT,AUU,AUW,AUX,AUY,AUZ,a23',a24',AUa,AUb,cnt,e,ρ1,v1,AMY,l1,rfl,l3,l4⟩:=h4;rw[iU] at l1;rw[hCP] at h1 h3;(have hZ':C.Z'=λb=>Z b\/b=wg:=by unfold Cx.Z';rw[hCZ,iU]);rw[hZ'] at h3 h6 h7;rw[AFi] at h8 h9 h10 h11 h12 h14;rw[AMX] at h9 h14;have hR': ∀b,C.SR b->w'.heap[b]? =W.heap[b]? :=(hRR w').1 h5.2;refine⟨N+n,gs',w',sl',t',q',a',ρ1,v1,cnt,e,_,_,_,_,_,_,_,_,_,_,_,_,_,_,_,_,_,_,_,_,_,_,_,_,_,EZ r1 h1,h3,l1,l3,l4,h5.1,λa b hab=>(h6 b ⟨a,hab⟩).2,λa b hab hb=>?_,h8,λb hb hn hnn=>?_,⟨h10,h11,h12⟩,λs n a b hq=>?_⟩
 ·rcases h14 b ⟨a,hab⟩ hb with h|h;exact .inl h;exact .inr (by simp;exact h)
 ·refine h9 b hb ?_;rintro (⟨a,h⟩|h);exact hn a h;exact hnn (by simp;exact h)
 obtain⟨B,hB,hc⟩:=AMY.sl w' h5.2 s n a b hq;refine⟨B,hB,λc hcB=>⟨λx hx=>AMY.dis x c hx (hc c hcB),?_⟩⟩;have:=hc c hcB;rw[Yt] at this;rintro (h|h);exact this.2.2.1 h;exact this.1 h
end
open Go.RowKit Go.Conc.Lib Go.ConcX Go.ConcX.Gen
section
variable {SR:Nat->Prop} {J:Ac->Own SR->Prop} (hJ:tH Tryz.prog true J) {o:Own SR} {cs:List AX} {c0:AX} {cnt e:Int} {d0 d1 d2 d3 d6 d7 d8 d9 d10 d11 d12 d13 d14 d15 d16 d17 d18 d19 d20 d21 d22 d23 d24 d25 d26 d27 d28:AP}
include hJ
theorem AIw(next:J (G (c0.finish (.tuple #[.int .i64 cnt,.int .i64 e])) cs) o):
  J (G (fr 46 #[d0,d1,d2,d3,.int .i64 cnt,.int .i64 e,d6,d7,d8,d9,d10,d11,d12,d13,d14,d15,d16,d17,d18,d19,d20,d21,d22,d23,d24,d25,d26,d27,d28] [.inRegion ZV [],.code Px] [] AB) (c0::cs)) o:=by
 have Next:=AQ next;clear next;have el:Px=Px:=rfl
 conv at el=>lhs;simp only[Px,Pv,EM,Tryz.f46,Dt]
 rw[<- el];clear el;(iterate 8 refine Qd ?_);refine CZ hJ (λw=>OM) rfl ?_;exact JS (v:=.tuple #[.int .i64 cnt,.int .i64 e]) hJ Tryz.func46 (λw=>(by rw[nV (f:=Tryz.f46) (a:=4) (b:=5) rfl w];rfl)) Next.out
end
theorem ABi{P:Program}{g':Ac}{w0:AL}: ∀{n:Nat} {g:Ac} {w:AL},AtRel w0 w->Goes P true (λ_ _=>True) DC0 (λx _=>x=g') n g w->Goes P true AtRel DC0 (λx w1=>x=g'/\AtRel w0 w1) n g w:=by
 intro n
 induction n with
 |zero=>exact λhw h w1 h1=>⟨h w1 trivial,atRel_trans _ _ _ hw h1⟩|succ n ih=>
  intro g w hw h;rcases h with h|⟨hr,h⟩;exact .inl λw1 h1=>⟨h w1 trivial,atRel_trans _ _ _ hw h1⟩;refine .inr ⟨hr,λw1 h1=>?_⟩;have h2:=h w1 trivial
  cases hs:stepG P true g w1 with
  |go g2 w2 es=>
   rw[hs] at h2;obtain⟨⟨rfl,rfl⟩,h3⟩:=h2;exact⟨⟨rfl,rfl⟩,ih (atRel_trans _ _ _ hw h1) h3⟩
  |_=>rw[hs] at h2;exact h2.elim
theorem DD.kept{F:Fs}{N:Nat}{ρ:Rn}{v w w1:AL}(h:DD F N ρ v w)(hr: ∀b,b<w.heap.size->w1.heap[b]? =w.heap[b]?)(hz:w.heap.size<=w1.heap.size)(ho:w1.os=w.os):DD F N ρ v w1:=
 ⟨h.ok,λa b hab=>by
  obtain⟨o,o',h1,h2,h3⟩:=h.obj a b hab
  exact⟨o,o',h1,by rw[hr b (h.dom hab).2];exact h2,h3⟩,h.tok,h.nv,Ci h.nw hz,ho.trans h.os,λs n a b hq=>by
  obtain⟨B,hB,hc⟩:=h.seq s n a b hq
  exact⟨B,hB.oD λc hcB=>hr c (hB.lt c hcB),hc⟩⟩
theorem V9.kept{Z:Nat->Prop}{ρ:Rn}{w w1:AL}(h:V9 Z ρ w)(hr: ∀b,b<w.heap.size->w1.heap[b]? =w.heap[b]?):V9 Z ρ w1:=λs n a b hq=>by
 obtain⟨B,hB,hc⟩:=h s n a b hq;exact⟨B,hB.oD λc hcB=>hr c (hB.lt c hcB),hc⟩
structure Dv (Z:Nat->Prop) (ρ:Rn) (w:AL) (Z':Nat->Prop) (ρ1:Rn) (v1 w':AL):Prop where
 le:ρ.le ρ1
 rel:DD K1.F 2 ρ1 v1 w'
 apart:Apart Z' ρ1 w'
 sl:V9 Z' ρ1 w'
 zle: ∀b,Z b->Z' b
 AIx: ∀b,Z' b->Z b\/w.heap.size<=b
 low: ∀a b,ρ1.r a b->b<w.heap.size->∃a',ρ.r a' b
 sz:w.heap.size<=w'.heap.size
 keep: ∀b,b<w.heap.size->(∀a,¬ρ.r a b)->w'.heap[b]? =w.heap[b]?
 same:w'.tape=w.tape/\w'.os=w.os/\w'.output=w.output
theorem Dv.trans{Z Z' Z'':Nat->Prop}{ρ ρ1 ρ2:Rn}{v1 v2 w w1 w2:AL}(h:Dv Z ρ w Z' ρ1 v1 w1)(k:Dv Z' ρ1 w1 Z'' ρ2 v2 w2):Dv Z ρ w Z'' ρ2 v2 w2 where
 le:=h.le.trans k.le
 rel:=k.rel
 apart:=k.apart
 sl:=k.sl
 zle:=λb hb=>k.zle b (h.zle b hb)
 AIx:=λb hb=>by
  rcases k.AIx b hb with x|x;exact h.AIx b x;exact .inr (Ci h.sz x)
 low:=λa b hab hb=>by
  obtain⟨a',h1⟩:=k.low a b hab (ER hb h.sz);exact h.low a' b h1 hb
 sz:=Ci h.sz k.sz
 keep:=λb hb hn=>(k.keep b (ER hb h.sz) λa hab=>by
  obtain⟨a',h1⟩:=h.low a b hab hb
  exact hn a' h1).trans (h.keep b hb hn)
 same:=⟨k.same.1.trans h.same.1,k.same.2.1.trans h.same.2.1,k.same.2.2.trans h.same.2.2⟩
def zB:RF (λ_:Nat=>False) where
 R:=λ_=>True
 st:=λ_ _ _ _ _=>Am
 lt:=λ_ _ _ h=>h.elim
section
variable {Z:Nat->Prop} {gs:Array Ac} {t:Trace} {q:Nat->Nat} {sl:Option (Nat×Nat)} {w v:AL} {ρ:Rn} {to to':AP} {s:ByteArray} {n:Int} {p1 p2:Nat} {Kp:AX->List AX->AL->Prop} {c0 c0':AX} {cs cs0:List AX}
theorem AGx(hS:Sit Tryz.prog Z gs w t (G (BV Tryz.prog 46 #[uI 79 p1 p2,to'] .normal) (c0'::cs0)) q)(hW:DD K1.F 2 ρ v w)(hZ:Apart Z ρ w)(hq:ρ.q s n p1 p2)(hsl:V9 Z ρ w)
  (hev:Ev Af Kp (BV Af 46 #[Fg 79 s n,to] .normal) (c0::cs) v) (hto:Az K1.F ρ to to') (Bv: ∀f ts v,Kp f ts v->ts=[]/\f.mode=.returning)
  (O8:NQ Af Kp ⟨BV Af 46 #[Fg 79 s n,to] .normal,c0::cs,v⟩):
  ∃(N:Nat) (gs':Array Ac) (w':AL) (sl':Option (Nat×Nat)) (t':Trace) (q':Nat->Nat) (Z':Nat->Prop) (ρ1:Rn) (v1:AL) (cnt e:Int),
   runNT Tryz.prog N (crowd gs w sl) t=(.next (crowd gs' w' sl'),t')/\Sit Tryz.prog Z' gs' w' t' (G (c0'.finish (.tuple #[.int .i64 cnt,.int .i64 e])) cs0) q'/\
   Jq Af Kp ⟨c0.finish (.tuple #[.int .i64 cnt,.int .i64 e]),cs,v1⟩ ⟨BV Af 46 #[Fg 79 s n,to] .normal,c0::cs,v⟩/\Dv Z ρ w Z' ρ1 v1 w':=by
 obtain⟨B0,ABh,hB0⟩:=hsl _ _ _ _ hq;obtain⟨sz,rfl⟩: ∃sz:Nat,n=sz:=⟨n.toNat,by have:=ABh.pos;omega⟩;have hZw: ∀b,Z b->b<w.heap.size:=hZ.z
 have hpre:Ps Tryz.prog (λ(a:Ac) (o:Own (λ_:Nat=>False))=>∃xb c1 c2 b1 b2 wg,[wg,b2,b1,c2,c1,xb].Nodup/\a=G (BV Tryz.prog 74 #[.pointer (AA ⟨wg,0,AB⟩),.int .i64 1] .normal)
   (fr 46 #[.func (.func 79) #[] #[.pointer (AA ⟨p1,0,AB⟩),.pointer (AA ⟨p2,0,AB⟩)],to',.pointer (AA ⟨xb,0,AB⟩),AU,.int .i64 0,.int .i64 0,.pointer (AA ⟨b1,0,AB⟩),.pointer (AA ⟨b2,0,AB⟩),.pointer (AA ⟨wg,0,AB⟩),AU,.chan (AA c1),.chan (AA c2),AU,AU,AU,AU,AU,AU,AU,AU,AU,AU,AU,AU,AU,AU,AU,AU,AU] [.inRegion ops3 [0],.code Td] [] AB::c0'::cs0)/\
   o=ow zB (λ_=>False) [(wg,.cells #[.int .u64 0,.int .u32 0] 168),(b2,.cells #[.chan (AA c2)] 158),(b1,.cells #[.chan (AA c1)] 157),(c2,.chan 0 #[] false 0 0 false),(c1,.chan 0 #[] false 0 0 false),(xb,.cells #[.func (.func 79) #[] #[.pointer (AA ⟨p1,0,AB⟩),.pointer (AA ⟨p2,0,AB⟩)]] 106)])
   (G (BV Tryz.prog 46 #[.func (.func 79) #[] #[.pointer (AA ⟨p1,0,AB⟩),.pointer (AA ⟨p2,0,AB⟩)],to'] .normal) (c0'::cs0)) (ow zB (λ_=>False) []):=
  AIo NF λxb c1 c2 b1 b2 wg hnd=>Ps.fin ⟨xb,c1,c2,b1,b2,wg,hnd,rfl,rfl⟩
 obtain⟨N1,gs1,w1,sl1,t1,q1,a1,o1,r1,z1,S1,⟨xb,c1,c2,b1,b2,wg,hnd,rfl,rfl⟩,I1,E1⟩:=hpre (sl:=sl) hS.AIl ⟨λp hp=>(by cases hp),Am⟩ (λb hb=>(by rcases hb with h|h;exact h.elim;simp at h)) (λb hb=>hb.elim) hZw;clear hpre;have hI1:=I1.1;simp only[BB,BC,or_false,forall_eq_or_imp,forall_eq] at hI1;obtain⟨iwg,ib2,ib1,ic2,ic1,ixb⟩:=hI1
 have iV: ∀b∈[wg,b2,b1,c2,c1,xb],w.heap.size<=b/\¬Z b:=λb hb=>by
  have hO:(ow zB (λ_=>False) [(wg,P7 #[.int .u64 0,.int .u32 0] 168),(b2,.cells #[.chan (AA c2)] 158),(b1,.cells #[.chan (AA c1)] 157),(c2,.chan 0 #[] false 0 0 false),(c1,.chan 0 #[] false 0 0 false),(xb,.cells #[.func (.func 79) #[] #[.pointer (AA ⟨p1,0,AB⟩),.pointer (AA ⟨p2,0,AB⟩)]] 106)]).O b:=.inr hb;refine⟨?_,(E1.own b hO).2⟩;rcases E1.new b hO with h|h
  ·rcases h with h|h;exact h.elim;simp at h
  exact h
 have hnd':=hnd;simp only[Ii,BB,BC,or_false,not_or] at hnd';have hwl:wg<w1.heap.size:=(Df.1 iwg).1;obtain⟨T,hT⟩: ∃T:Array AP,T= #[.func (.func 79) #[] #[.pointer (AA ⟨p1,0,AB⟩),.pointer (AA ⟨p2,0,AB⟩)],to',.pointer (AA ⟨xb,0,AB⟩),AU,.int .i64 0,.int .i64 0,.pointer (AA ⟨b1,0,AB⟩),.pointer (AA ⟨b2,0,AB⟩),.pointer (AA ⟨wg,0,AB⟩),AU,.chan (AA c1),.chan (AA c2),AU,AU,AU,AU,AU,AU,AU,AU,AU,AU,AU,AU,AU,AU,AU,AU,AU]:=⟨_,rfl⟩;rw[<- hT] at S1;obtain⟨N2,gs2,sl2,t2,q2,dd,r2,z2,S2⟩:=AIp (b₀:=fr 46 T [.inRegion ops3 [0],.code Td] [] AB) (a₀:=⟨T,[]⟩) (ops₀:=ops3) (i₀:=0) (rest₀:=[]) (k₀:=[.code Td]) (cs:=c0'::cs0) (w:=w1) (sl:=sl1) wgLib S1 iwg hwl (iV wg AV).2 (by rw[AEB];rfl);obtain⟨w2,hw2⟩: ∃w2:AL,w2=(w1.setCell (F6 wg) (.int .u64 KQ)).at dd:=⟨_,rfl⟩
 have h2o: ∀b,b≠wg->w2.heap[b]? =w1.heap[b]? :=λb hb=>by
  rw[hw2];show (w1.setCell (F6 wg) (.int .u64 KQ)).heap[b]? =_;exact (Nl w1 (F6 wg) (.int .u64 KQ)).1 b hb
 have h2w:w2.heap[wg]? =AA (.cells #[.int .u64 KQ,.int .u32 0] 168):=by
  rw[hw2];exact WA.setSt (C:=cx Z ρ wg c1 c2 0 w s sz) (w:=w1) (st:=0) (sm:=0) iwg KQ
 (have h2z:w2.heap.size=w1.heap.size:=by rw[hw2];exact (Nl w1 (F6 wg) (.int .u64 KQ)).2.1);(have h2s:w2.tape=w1.tape/\w2.os=w1.os/\w2.output=w1.output:=by rw[hw2];exact (Nl w1 (F6 wg) (.int .u64 KQ)).2.2);rw[<- hw2] at r2;(have ea:G ((fr 46 T [.inRegion ops3 [0],.code Td] [] AB).at ((⟨T,[]⟩:Act).put ((ops3[0]?).bind (·.dst)) (.tuple #[])) (.inRegion ops3 []::[.code Td])) (c0'::cs0)=G (fr 46 #[.func (.func 79) #[] #[.pointer (AA ⟨p1,0,AB⟩),.pointer (AA ⟨p2,0,AB⟩)],to',.pointer (AA ⟨xb,0,AB⟩),AU,.int .i64 0,.int .i64 0,.pointer (AA ⟨b1,0,AB⟩),.pointer (AA ⟨b2,0,AB⟩),.pointer (AA ⟨wg,0,AB⟩),AU,.chan (AA c1),.chan (AA c2),.tuple #[],AU,AU,AU,AU,AU,AU,AU,AU,AU,AU,AU,AU,AU,AU,AU,AU] [.inRegion ops3 [],.code Td] [] AB) (c0'::cs0):=by rw[hT];rfl);rw[ea] at S2;obtain⟨o3,ho3⟩: ∃o3:Own (λ_:Nat=>False),o3=ow zB (λ_=>False) [(wg,P7 #[.int .u64 KQ,.int .u32 0] 168),(b2,.cells #[.chan (AA c2)] 158),(b1,.cells #[.chan (AA c1)] 157),(c2,.chan 0 #[] false 0 0 false),(c1,.chan 0 #[] false 0 0 false),(xb,.cells #[.func (.func 79) #[] #[.pointer (AA ⟨p1,0,AB⟩),.pointer (AA ⟨p2,0,AB⟩)]] 106)]:=⟨_,rfl⟩
 have hO3: ∀b,o3.O b->b∈[wg,b2,b1,c2,c1,xb]:=λb hb=>by
  rw[ho3] at hb;rcases hb with h|h;exact h.elim;exact h
 have hmid:Ps Tryz.prog (λa o=>a=G (fr 46 #[.func (.func 79) #[] #[.pointer (AA ⟨p1,0,AB⟩),.pointer (AA ⟨p2,0,AB⟩)],to',.pointer (AA ⟨xb,0,AB⟩),AU,.int .i64 0,.int .i64 0,.pointer (AA ⟨b1,0,AB⟩),.pointer (AA ⟨b2,0,AB⟩),.pointer (AA ⟨wg,0,AB⟩),AU,.chan (AA c1),.chan (AA c2),.tuple #[],.func (.func 75) #[] #[.pointer (AA ⟨wg,0,AB⟩),.pointer (AA ⟨b1,0,AB⟩),.pointer (AA ⟨xb,0,AB⟩),.pointer (AA ⟨b2,0,AB⟩)],AU,AU,AU,AU,AU,AU,AU,AU,AU,AU,AU,AU,AU,AU,AU] [.inRegion ops4 [1],.code V8] [] AB) (c0'::cs0)/\o=o3) _ o3:=AIq (LD:=AU) NF (Ps.fin ⟨rfl,rfl⟩)
 have hI2:o3.I w2:=by
  rw[ho3];refine⟨λp hp=>?_,Am⟩;simp only[BB,BC,or_false] at hp;rcases hp with rfl|rfl|rfl|rfl|rfl|rfl;exact h2w;exact (h2o _ Ad).trans ib2;exact (h2o _ Ad).trans ib1;exact (h2o _ Ad).trans ic2;exact (h2o _ Ad).trans ic1;exact (h2o _ Ad).trans ixb
 have hO2: ∀b,o3.O b->b<w2.heap.size/\¬Z b:=λb hb=>⟨by
  obtain⟨p,hp,rfl⟩: ∃p∈[(wg,P7 #[.int .u64 KQ,.int .u32 0] 168),(b2,.cells #[.chan (AA c2)] 158),(b1,.cells #[.chan (AA c1)] 157),(c2,.chan 0 #[] false 0 0 false),(c1,.chan 0 #[] false 0 0 false),(xb,.cells #[.func (.func 79) #[] #[.pointer (AA ⟨p1,0,AB⟩),.pointer (AA ⟨p2,0,AB⟩)]] 106)],p.1=b:=by
   rw[ho3] at hb;rcases hb with h|h;exact h.elim;exact Bz.1 h
  rw[ho3] at hI2
  exact (Df.1 (hI2.1 p hp)).1,(iV b (hO3 b hb)).2⟩
 rw[<- h2z] at S2;obtain⟨N3,gs3,w3,sl3,t3,q3,a3,o3',r3,z3,S3,⟨rfl,rfl⟩,I3,E3⟩:=hmid (sl:=sl2) (w:=w2) S2 hI2 hO2 (λb hb=>hb.elim) (λb hb=>by rw[h2z];exact ER (hZw b hb) E1.sz);clear hmid
 have hold: ∀b,b<w.heap.size->w3.heap[b]? =w.heap[b]? :=λb hb=>by
  (have hnew: ∀b',b'∈[wg,b2,b1,c2,c1,xb]->b≠b':=λb' hb' e=>by have:=(iV b' hb').1;omega);rw[E3.keep b (by rw[h2z];exact ER hb E1.sz) (λh=>hnew b (hO3 b h) rfl),h2o b (hnew wg AV)];exact E1.keep b hb (λh=>by rcases h with h|h;exact h.elim;simp at h)
 have ABj:w.heap.size<=w3.heap.size:=Ci E1.sz (by rw[<- h2z];exact E3.sz);have hs3:w3.tape=w.tape/\w3.os=w.os/\w3.output=w.output:=⟨(E3.same.1.trans h2s.1).trans E1.same.1,(E3.same.2.1.trans h2s.2.1).trans E1.same.2.1,(E3.same.2.2.trans h2s.2.2).trans E1.same.2.2⟩;have hI3:=I3;rw[ho3] at hI3;have hI3:=hI3.1;simp only[BB,BC,or_false,forall_eq_or_imp,forall_eq] at hI3;obtain⟨jwg,jb2,jb1,jc2,jc1,jxb⟩:=hI3;have AMZ:=(iV wg AV).1
 obtain⟨N4,gs4,w4,sl4,t4,q4,a4,ρ1,v1,cnt,e,d0,d1,d2,d3,d6,d9,d10,d11,d12,d13,d14,d15,d16,d17,d18,d19,d20,d21,d22,d23,d24,d25,d26,d27,d28,r4,S4,⟨nl,hlv⟩,hnx,hP⟩:=AIu (v:=v) (ρ:=ρ) (to:=to) (s:=s) (Kp:=Kp) (c0:=c0) (cs:=cs) (sl:=sl3) S3 AMZ ((hW.alike ABe).kept hold ABj hs3.2.1)
  ⟨hZ.r,λb hb=>ER (hZw b hb) ABj⟩ hq (λs n a b hq=>by
   obtain⟨B,hB,hc⟩:=hsl s n a b hq;refine⟨B,hB.oD λc hcB=>hold c (hB.lt c hcB),λc hcB=>⟨(hc c hcB).1,?_⟩⟩;rintro (h|h);exact (hc c hcB).2 h
   have:=hB.lt c hcB;omega) jwg jxb jb1 jb2 jc1 jc2 (λb hb=>⟨λa hab=>by have h1:=(hW.dom hab).2;have h2:=(iV b hb).1;omega,(iV b hb).2⟩) hnd hev (hto.alike ABe) Bv O8
 obtain⟨N5,gs5,w5,sl5,t5,q5,a5,r5,z5,S5,st5⟩:=y5 (B:=w4.heap.size) (D:=DC0) (sl:=sl4) (λw w' es h e he=>by rw[h.2] at he;simp at he) S4.AIl (ABi (w0:=w4) (atRel_refl _) (hlv w4));obtain⟨rfl,d5,e5⟩:=st5 w5.drawn;have e5:w5=w4.at d5:=e5;subst e5;have hout:Ps Tryz.prog (λa o=>a=G (c0'.finish (.tuple #[.int .i64 cnt,.int .i64 e])) cs0/\o=ow zB (λ_=>False) []) _ (ow zB (λ_=>False) []):=AIw (d0:=d0) (d1:=d1) (d2:=d2) (d3:=d3) (d6:=d6) (d9:=d9) (d10:=d10) (d11:=d11) (d12:=d12) (d13:=d13) (d14:=d14) (d15:=d15) (d16:=d16) (d17:=d17) (d18:=d18) (d19:=d19) (d20:=d20) (d21:=d21) (d22:=d22) (d23:=d23) (d24:=d24) (d25:=d25) (d26:=d26) (d27:=d27) (d28:=d28) (d7:=.pointer (AA ⟨b2,0,AB⟩)) (d8:=.pointer (AA ⟨wg,0,AB⟩)) NF (Ps.fin ⟨rfl,rfl⟩)
 have hZ4: ∀b,(Z b\/b=wg)->b<w4.heap.size:=λb hb=>by
  have h3:=hP.sz;rcases hb with hb|rfl;have:=hZw b hb;omega;have:=(Df.1 jwg).1;omega
 obtain⟨N6,gs6,w6,sl6,t6,q6,a6,o6,r6,z6,S6,⟨rfl,rfl⟩,I6,E6⟩:=hout (sl:=sl5) (w:=w4.at d5) S5 ⟨λp hp=>(by cases hp),Am⟩ (λb hb=>(by rcases hb with h|h;exact h.elim;simp at h)) (λb hb=>hb.elim) hZ4;have h64: ∀b,b<w4.heap.size->w6.heap[b]? =w4.heap[b]? :=λb hb=>E6.keep b hb (λh=>by rcases h with h|h;exact h.elim;simp at h);have hz6:w4.heap.size<=w6.heap.size:=E6.sz;refine⟨_,gs6,w6,sl6,t6,q6,λb=>Z b\/b=wg,ρ1,v1,cnt,e,EZ (EZ (EZ (EZ (EZ r1 r2) r3) r4) r5) r6,?_,hnx,?_⟩;exact⟨S6.at0,S6.leavers,(S6.past.mono (Ba _)).past⟩;refine⟨hP.le,(hP.rel.alike AIg).kept h64 hz6 E6.same.2.1,⟨hP.apart,λb hb=>ER (hZ4 b hb) hz6⟩,V9.kept hP.sl h64,λb hb=>.inl hb,λb hb=>?_,λa b hab hb=>?_,Ci ABj (Ci hP.sz hz6),λb hb hn=>?_,(E6.same.1.trans hP.same.1).trans hs3.1,(E6.same.2.1.trans hP.same.2.1).trans hs3.2.1,(E6.same.2.2.trans hP.same.2.2).trans hs3.2.2⟩
 ·rcases hb with hb|rfl;exact .inl hb;exact .inr AMZ
 ·rcases hP.low a b hab (ER hb ABj) with h|h;exact h;exfalso;have:=(iV b (by simp at h⊢;rcases h with rfl|rfl|rfl<;>simp)).1;omega
 have hb3:=ER hb ABj
 rw[h64 b (ER hb3 hP.sz),hP.keep b hb3 hn (λh=>by
  have:=(iV b (by simp at h⊢;rcases h with rfl|rfl|rfl<;>simp)).1
  omega)]
 exact hold b hb
end
section
variable {T:Twin} {F:Fs} {N:Nat} {ρ:Rn} {v w:AL}
theorem AL2(hW:DD F N ρ v w){a a':Addr}(ha:RelA ρ a a'): ∀(n i:Nat) (acc:Array AP),
  (∃vs:List AP,vs.length=n/\(∀j x,vs[j]? =AA x->∃x',v.cell? (a.add (i+j))=AA x/\w.cell? (a'.add (i+j))=AA x'/\Az F ρ x x')/\(UY a i n acc).run T.v v=.ok (acc++vs.toArray) v)\/
  ∃h,(UY a i n acc).run T.v v=.halt h v/\Halt.still h:=by
 intro n
 induction n with
 |zero=>intro i acc;exact .inl ⟨[],rfl,λj x h=>(by simp at h),by simp[UY]⟩
 |succ n ih=>
  intro i acc;rcases dR hW (ha.add i) with ⟨x,x',h1,h2,h3⟩|⟨h1,h2⟩
  ·have e:(UY a i (n+1) acc).run T.v v=(UY a (i+1) n (acc.push x)).run T.v v:=by
    simp only[UY,load,Eh];rw[Sem.run,h1];rfl
   rw[e];rcases ih (i+1) (acc.push x) with ⟨vs,k1,k2,k3⟩|h
   ·refine .inl ⟨x::vs,by simp[k1],λj y hy=>?_,by rw[k3];simp⟩
    cases j with
    |zero=>
     simp only[List.getElem?_cons_zero,DN] at hy;subst hy;exact⟨x',h1,h2,h3⟩
    |succ j=>
     simp only[List.getElem?_cons_succ] at hy;have:=k2 j y hy;rwa[show i+1+j=i+(j+1) by omega] at this
   exact .inr h
  right;obtain⟨s,hs⟩:=(ZB (T:=T) h1 h2 false).1;refine⟨.stuck s,?_,Am⟩;simp only[UY,load,Eh];rw[Sem.run,h1];have e:(Mode.plain==Mode.atomic)=false:=rfl;simp only[e,hs];rfl
theorem AIy{P:Program}{a:Addr}{n k:Nat}{vs:List AP}(hl:(loadCells a n).run P v=.ok vs.toArray v):(∃ks:List Int,vs=ks.map (Value.int .u8))\/
  ∃h,(Ph (.slice (AA a) n k)).run P v=.halt h v/\Halt.still h:=by
 unfold Ph;simp only[Eh,hl,P8,List.forIn_toArray];clear hl;generalize Lu=s0
 induction vs generalizing s0 with
 |nil=>exact .inl ⟨[],rfl⟩|cons x l ih=>
  by_cases hx: ∃k,x=.int .u8 k
  ·obtain⟨k,rfl⟩:=hx;rcases ih (s0.push (UInt8.ofNat k.toNat)) with ⟨ks,rfl⟩|⟨h,h1,h2⟩;exact .inl ⟨k::ks,rfl⟩;refine .inr ⟨h,?_,h2⟩;simp only[ADG,pure_bind];exact h1
  refine .inr ⟨.stuck "bytesToString: byte expected",?_,Am⟩;simp only[ADG]
  cases x with
  |int k n=>cases k<;>first|exact Ai ⟨n,rfl⟩ hx|rfl
  |_=>rfl
theorem AEE(hW:DD F N ρ v w){x x':AP}(hx:Az F ρ x x'):(∃h,(Ph x).run T.v v=.halt h v/\Halt.still h)\/
  ∃ks:List Int,(Ph x).run T.v v=.ok (.string (FQ ks)) v/\((∃l c,x=.slice AB l c/\x'=x/\ks=[])\/
   ∃a a' l c,x=.slice (AA a) l c/\x'=.slice (AA a') l c/\(0<l->RelA ρ a a')/\ks.length=l/\∀(i:Nat) (k:Int),ks[i]? =AA k->v.cell? (a.add i)=AA (.int .u8 k)/\w.cell? (a'.add i)=AA (.int .u8 k)):=by
 have stk: ∀s,(stuck s:Sem AP).run T.v v=.halt (.stuck s) v:=λs=>rfl
 cases hx with
 |flat hf=>
  (cases x<;>first|exact .inl ⟨_,rfl,Am⟩|skip);rename_i a n k
  cases a with|none=>exact .inr ⟨[],rfl,.inl ⟨n,k,rfl,rfl,rfl⟩⟩|some _=>exact Ai (show false=true from hf) AV
 | @slice a a' n k ha=>
  rcases AL2 (T:=T) hW ha n 0 #[] with ⟨vs,h1,h2,h3⟩|⟨h,h1,h2⟩
  ·rcases AIy (v:=v) (P:=T.v) (a:=a) (n:=n) (k:=k) (vs:=vs) (by unfold loadCells;rw[h3];simp) with ⟨ks,rfl⟩|⟨h,h4,h5⟩
   ·refine .inr ⟨ks,?_,.inr ⟨a,a',n,k,rfl,rfl,λ_=>ha,by simpa using h1,λi kk hk=>?_⟩⟩
    ·rw[run_bytesToString v a n k ks (by unfold loadCells;rw[h3];simp),foldl_push_bytes];simp[FQ,Lu,ByteArray.emptyWithCapacity];rfl
    obtain⟨x',k1,k2,k3⟩:=h2 i (.int .u8 kk) (by simp[hk]);obtain rfl:=BP k3 rfl;rw[Ny] at k1 k2;exact⟨k1,k2⟩
   exact .inl ⟨h,h4,h5⟩
  refine .inl ⟨h,?_,h2⟩;unfold Ph loadCells;simp only[Eh,h1,P8]
 | @emp b a hc=>exact .inr ⟨[],rfl,.inr ⟨⟨b,0,AB⟩,a,0,0,rfl,rfl,λh=>Ai h (Nat.lt_irrefl 0),rfl,λi k h=>(by cases h)⟩⟩|_=>exact .inl ⟨_,rfl,Am⟩
end
section
variable {c l:Nat}{A:Option Addr}{w:AL}
def Rz (x y:AP) (s:ByteArray) (l i:Nat) (r12 r13 Js IA r16 IB:AP):Array AP:=
 #[x,y,.string s,.int .i64 l,AU,.bool true,AU,AU,AU,AU,AU,.int .i64 i,r12,r13,Js,IA,r16,IB,.int .i64 l,.bool true]
theorem Jc:Af.underlying 62=AA (.slice 5):=(Ah.und _).trans Tryz.underlying62
theorem AIz{a:Addr}{i:Nat}(hi:i<l):(Instr.indexAt 62 (.slice (AA a) l c) (.int .i64 (i:Int))).run Af w=.ok (.pointer (AA (a.add i))) w:=by
 (have he:Af.elem 62=5:=by unfold Program.elem;rw[Jc]);rw[run_indexAt_slice _ _ _ _ _ _ _ (by rw[he];exact Jc),he];have hs:(sizeOf 5).run Af w=.ok 1 w:=Lib.byte_size Aq w;rw[hs];(have h1:(0:Int)<=(i:Int)/\(i:Int)<(l:Int):=by omega);simp[h1]
theorem vF(ty:TypeId):(UZ #[62] ty #[.slice A l c]).run Af w=.ok (.int .i64 (l:Int)) w:=by
 (have he:Af.elem 62=5:=by unfold Program.elem;rw[Jc]);rw[run_len_slice _ _ _ _ _ _ (by rw[he];exact Jc)];rfl
theorem vG:(convert 62 9 (.slice A l c)).run Af w=(Ph (.slice A l c)).run Af w:=by
 have h1:=Jc;have h2:Af.underlying 9=AA .string:=(Ah.und _).trans Tryz.underlying9;have h3:Af.underlying 5=AA (.int .u8):=(Ah.und _).trans Tryz.underlying5;simp[convert,IG h1,IG h2,IG h3]
section
variable {Kp:AX->List AX->AL->Prop} (Bv: ∀f ts v,Kp f ts v->ts=[]) {Good:VS->Prop} {fn:FuncId} {T:Array AP} {k:List Item} {cs:List AX} {c0:AX} {v v1:AL}
 {ops:Array Oper} {i:Nat} {rest:List Nat} {op:Oper}
include Bv
theorem AI0(x:AP)(ho:ops[i]? =AA op)(hw:DV op (yielded ops T)=true)(hr:(BG (ev T) op).run Af v=.ok (.value x) v)
  (next:Vr Af Kp Good ⟨fr fn (put T op.dst x) (.inRegion ops rest::k) [] AB,c0::cs,v⟩):Vr Af Kp Good ⟨fr fn T (.inRegion ops (i::rest)::k) [] AB,c0::cs,v⟩:=
 (ND (λx=>by cases Bv _ _ _ x) (XM ho hw (.inl rfl) hr) next).vr
theorem SA{m:String}(h:Ev Af Kp (fr fn T (.code (.refuse m)::k) [] AB) (c0::cs) v):False:=by
 have e: ∃o u es,stepG Af true (G (fr fn T (.code (.refuse m)::k) [] AB) (c0::cs++[door Af])) v=.ended o u es:=⟨_,_,_,rfl⟩;obtain⟨o,u,es,e⟩:=e;exact YH Bv h e
theorem YI{hh:Halt}(h:Ev Af Kp (fr fn T (.inRegion ops (i::rest)::k) [] AB) (c0::cs) v)(ho:ops[i]? =AA op)(hw:DV op (yielded ops T)=true)(hr:(BG (ev T) op).run Af v=.halt hh v)(hs:Halt.still hh):False:=by
 obtain⟨q,u,es,e⟩:=ny (P:=Af) (mn:=true) (fn:=fn) (T:=T) (k:=k) (D:=[]) (cs:=c0::cs++[door Af]) (i:=i) (rest:=rest) ho hw hr hs;exact YH Bv h e
omit Bv in
theorem zC{s:VS}(h:Ev Af Kp s.f s.ts s.v)(k:Vr Af Kp Good s): ∃s',Good s'/\(s'=s\/Jq Af Kp s' s)/\Ev Af Kp s'.f s'.ts s'.v:=by
 obtain⟨s',hg,e⟩:=k;refine⟨s',hg,e,?_⟩;rcases e with rfl|e;exact h;exact Ev.O6 h e
theorem AI1{x y:AP}{s:ByteArray}{ks:List Int}(hx:x=.slice A l c)(hl:l<=1073741824)(hks:ks.length=l)(hcell: ∀(i:Nat) (k:Int),ks[i]? =AA k->∃a,A=AA a/\v.cell? (a.add i)=AA (.int .u8 k)):
  ∀(m i:Nat),m+i=l->∀(r12 r13 Js IA r16 IB:AP),Ev Af Kp (fr 47 (Rz x y s l i r12 r13 Js IA r16 IB) [.code Ah.JQ,.inLoop Ah.JQ,.inBlock 0,.code Ah.IZ] [] AB) (c0::cs) v->
   (∃q12 q13 tV zD q16 oG,Jq Af Kp ⟨fr 47 (Rz x y s l l q12 q13 tV zD q16 oG) [.code Ah.IZ] [] AB,c0::cs,v⟩ ⟨fr 47 (Rz x y s l i r12 r13 Js IA r16 IB) [.code Ah.JQ,.inLoop Ah.JQ,.inBlock 0,.code Ah.IZ] [] AB,c0::cs,v⟩)/\
   ∀(j:Nat) (k:Int),i<=j->ks[j]? =AA k->0<=k/\k<=255:=by
 intro m
 induction m with
 |zero=>
  intro i hi r12 r13 Js IA r16 IB hev;(obtain rfl:i=l:=by omega);refine⟨?_,λj k hj hk=>?_⟩
  ·have zF:nT Af Kp (λs'=>∃q12 q13 tV zD q16 oG,s'=⟨fr 47 (Rz x y s i i q12 q13 tV zD q16 oG) [.code Ah.IZ] [] AB,c0::cs,v⟩) ⟨fr 47 (Rz x y s i i r12 r13 Js IA r16 IB) [.code Ah.JQ,.inLoop Ah.JQ,.inBlock 0,.code Ah.IZ] [] AB,c0::cs,v⟩:=by
    unfold Rz;refine ND (λx=>by cases Bv _ _ _ x) J5 ?_;(iterate 4 refine QL ?_);(have hd:decide ((i:Int)<(i:Int))=false:=by simp);refine QL ?_;refine Ia Bv (λw=>s_exit rfl) ?_;exact .fin ⟨_,_,_,_,_,_,rfl⟩
   obtain⟨s',⟨q12,q13,tV,zD,q16,oG,rfl⟩,hn⟩:=zF;exact⟨q12,q13,tV,zD,q16,oG,hn⟩
  have:=(DC.1 hk).1;omega
 |succ m ih=>
  intro i hi r12 r13 Js IA r16 IB hev;(have hil:i<l:=by omega);obtain⟨kk,hkk⟩: ∃kk,ks[i]? =AA kk:=⟨_,CQ Ad⟩;obtain⟨a,rfl,hc⟩:=hcell i kk hkk;(have hw:IntKind.i64.wrap ((i:Int)+1)=(i:Int)+1:=by rw[IntKind.wrap_i64];omega);have hw2:((i+1:Nat):Int)=(i:Int)+1:=by omega
  have zF:nT Af Kp (λs'=>s'=⟨fr 47 (Rz x y s l (i+1) (.bool true) (.pointer (AA (a.add i))) (.int .u8 kk) (.bool (decide (0<=kk))) (.bool (decide (kk<=255))) (.int .i64 ((i+1:Nat):Int))) [.code (.seq (.cond (.tmp 15) .skip (.refuse "")) (.cond (.tmp 16) .skip (.refuse ""))),.inLoop Ah.JQ,.inBlock 0,.code Ah.IZ] [] AB,c0::cs,v⟩) ⟨fr 47 (Rz x y s l i r12 r13 Js IA r16 IB) [.code Ah.JQ,.inLoop Ah.JQ,.inBlock 0,.code Ah.IZ] [] AB,c0::cs,v⟩:=by
   subst hx;unfold Rz;refine ND (λx=>by cases Bv _ _ _ x) J5 ?_;(have hlt:decide ((i:Int)<(l:Int))=true:=by simp;omega);(iterate 8 refine QL ?_);refine AFY Bv (.pointer (AA (a.add i))) rfl rfl (λw=>?_) ?_
   ·show ((Instr.indexAt 62 (.slice (AA a) l c) (.int .i64 (i:Int))>>=λr=>pure (Next.value r)):Sem Next).run Af w=_;rw[Eh,AIz hil];rfl
   simp only[put];walk_nrm;refine AI0 Bv (.int .u8 kk) rfl rfl ?_ ?_
   ·have f0:=hc;unfold ev;go_simp;try exact rfl
   simp only[put];walk_nrm;(iterate 5 refine QL ?_);rw[<- hw2];exact .fin rfl
  obtain⟨s',rfl,hn⟩:=zF;have hev1:=Ev.O6 (s:=⟨_,_,_⟩) hev hn;simp only at hev1;have hev2:=PG Bv (c:=c0) (ts:=cs) hev1 J5;by_cases h0:0<=kk
  ·by_cases h5:kk<=255
   ·have AR4:Vr Af Kp (λs'=>s'=⟨fr 47 (Rz x y s l (i+1) (.bool true) (.pointer (AA (a.add i))) (.int .u8 kk) (.bool true) (.bool true) (.int .i64 ((i+1:Nat):Int))) [.code Ah.JQ,.inLoop Ah.JQ,.inBlock 0,.code Ah.IZ] [] AB,c0::cs,v⟩) ⟨fr 47 (Rz x y s l (i+1) (.bool true) (.pointer (AA (a.add i))) (.int .u8 kk) (.bool (decide (0<=kk))) (.bool (decide (kk<=255))) (.int .i64 ((i+1:Nat):Int))) [.code (.seq (.cond (.tmp 15) .skip (.refuse "")) (.cond (.tmp 16) .skip (.refuse ""))),.inLoop Ah.JQ,.inBlock 0,.code Ah.IZ] [] AB,c0::cs,v⟩:=by
     (have e1:decide (0<=kk)=true:=by simpa using h0);(have e2:decide (kk<=255)=true:=by simpa using h5);rw[e1,e2];unfold Rz;(iterate 6 refine QL ?_);exact .fin rfl
    obtain⟨s',rfl,hn2⟩:=AR4
    have hn3:Jq Af Kp ⟨fr 47 (Rz x y s l (i+1) (.bool true) (.pointer (AA (a.add i))) (.int .u8 kk) (.bool true) (.bool true) (.int .i64 ((i+1:Nat):Int))) [.code Ah.JQ,.inLoop Ah.JQ,.inBlock 0,.code Ah.IZ] [] AB,c0::cs,v⟩ ⟨fr 47 (Rz x y s l i r12 r13 Js IA r16 IB) [.code Ah.JQ,.inLoop Ah.JQ,.inBlock 0,.code Ah.IZ] [] AB,c0::cs,v⟩:=by
     rcases hn2 with e|hn2;rw[e];exact hn;exact hn2.trans hn
    have AR5:=Ev.O6 (s:=⟨_,_,_⟩) hev hn3;obtain⟨⟨q12,q13,tV,zD,q16,oG,hq⟩,hall⟩:=ih (i+1) Ad _ _ _ _ _ _ AR5;refine⟨⟨q12,q13,tV,zD,q16,oG,hq.trans hn3⟩,λj k hj hk=>?_⟩;rcases Nat.eq_or_lt_of_le hj with rfl|hj
    ·rw[hkk] at hk;obtain rfl:=EF hk;exact⟨h0,h5⟩
    exact hall j k hj hk
   exfalso;(have e1:decide (0<=kk)=true:=by simpa using h0);(have e2:decide (kk<=255)=false:=by simpa using h5);rw[e1,e2] at hev2;have h3:=PG Bv (c:=c0) (ts:=cs) hev2 (s_cond (b:=true) rfl);have h4:=PG Bv (c:=c0) (ts:=cs) h3 Q5;have h5:=PG Bv (c:=c0) (ts:=cs) h4 (s_cond (b:=false) rfl);exact SA Bv h5
  exfalso;(have e1:decide (0<=kk)=false:=by simpa using h0);rw[e1] at hev2;have h3:=PG Bv (c:=c0) (ts:=cs) hev2 (s_cond (b:=false) rfl);exact SA Bv h3
end
end
section
variable {s:ByteArray}{l:Nat}{x y:AP}
noncomputable def ops9:Array Oper:=match EM Ah.f47 with| .seq (.region _ o _) _=>o|_=>#[]
noncomputable def c9:Code:=match EM Ah.f47 with| .seq _ c=>c|_=>.skip
noncomputable def AI2:Array Oper:=match Ah.IZ with| .seq (.region _ o _) _=>o|_=>#[]
noncomputable def c9p:Code:=match Ah.IZ with| .seq _ c=>c|_=>.skip
theorem AI3{w:AL}(ty:TypeId):(∃A l c,x=.slice A l c)\/∃h,(UZ #[62] ty #[x]).run Af w=.halt h w/\Halt.still h:=by
 by_cases hx: ∃A l c,x=.slice A l c;exact .inl hx;right;have h1:=Jc
 have key: ∃s,(UZ #[62] ty #[x]).run Af w=.halt (.stuck s) w:=by
  cases x<;>first|exact Ai ⟨_,_,_,rfl⟩ hx|(refine⟨"len: string, array, pointer to array, slice, map or channel expected",?_⟩;simp[UZ,IG h1,stuck])
 obtain⟨s,e⟩:=key;exact⟨_,e,Am⟩
section
variable {Kp:AX->List AX->AL->Prop} (Bv: ∀f ts v,Kp f ts v->ts=[]) {Good:VS->Prop} {cs:List AX} {c0:AX} {v:AL}
include Bv
theorem AR6{A:Option Addr}{c:Nat}(hx:x=.slice A l c)(hs:(Ph x).run Af v=.ok (.string s) v)
  (hev:Ev Af Kp (fr 47 #[x,y,AU,AU,AU,AU,AU,AU,AU,AU,AU,AU,AU,AU,AU,AU,AU,AU,AU,AU] [.inRegion ops9 [0,1,2,3,4,5],.code c9] [] AB) (c0::cs) v):
  s.size=l/\l<=1073741824/\Vr Af Kp (λs'=>s'=⟨fr 47 (Rz x y s l 0 AU AU AU AU AU AU) [.code Ah.JQ,.inLoop Ah.JQ,.inBlock 0,.code Ah.IZ] [] AB,c0::cs,v⟩) ⟨fr 47 #[x,y,AU,AU,AU,AU,AU,AU,AU,AU,AU,AU,AU,AU,AU,AU,AU,AU,AU,AU] [.inRegion ops9 [0,1,2,3,4,5],.code c9] [] AB,c0::cs,v⟩:=by
 have start: ∀{G:VS->Prop},(∀(b5 b19:Bool),b5=decide ((l:Int)<=1073741824)->b19=decide ((s.size:Int)=(l:Int))->Vr Af Kp G ⟨fr 47 #[x,y,.string s,.int .i64 l,AU,.bool b5,AU,AU,AU,AU,AU,.int .i64 0,AU,AU,AU,AU,AU,AU,.int .i64 s.size,.bool b19] [.inRegion ops9 [],.code c9] [] AB,c0::cs,v⟩)->
   Vr Af Kp G ⟨fr 47 #[x,y,AU,AU,AU,AU,AU,AU,AU,AU,AU,AU,AU,AU,AU,AU,AU,AU,AU,AU] [.inRegion ops9 [0,1,2,3,4,5],.code c9] [] AB,c0::cs,v⟩:=λ{G} next=>by
  have NX:=AQ next;clear next hev;subst hx;have el:ops9=ops9:=rfl
  conv at el=>lhs;simp only[ops9,EM,Dt]
  rw[<- el] at NX⊢;clear el;refine AFY Bv (.int .i64 (l:Int)) rfl rfl (λw=>?_) ?_
  ·rw[Ut (op:=_) rfl];simp only[J3,BK,EG];show ((UZ #[62] 3 #[.slice A l c]>>=λr=>pure (Next.value r)):Sem Next).run Af w=_;rw[Eh,vF];rfl
  simp only[put];walk_nrm;refine AI0 Bv (.string s) rfl rfl ?_ ?_
  ·show ((convert 62 9 (.slice A l c)>>=λr=>pure (Next.value r)):Sem Next).run Af v=_;rw[Eh,vG,hs];rfl
  simp only[put];walk_nrm;(iterate 4 refine QL ?_);exact NX.out _ _ rfl (by first|rfl|simp|(trace_state;rfl))
 by_cases h1:s.size=l
 ·by_cases h2:l<=1073741824
  ·refine⟨h1,h2,start λb5 b19 e5 e19=>?_⟩;(have e5:b5=true:=by rw[e5];simp;omega);(have e19:b19=true:=by rw[e19];simp[h1]);subst e5 e19;rw[h1];have el:c9=c9:=rfl
   conv at el=>lhs;simp only[c9,EM,Dt]
   rw[<- el];clear el;(iterate 9 refine QL ?_);refine Ia Bv (λw=>kS) ?_;exact .fin rfl
  exfalso
  obtain⟨s',⟨T,k,rfl⟩,_,h⟩:=zC (Good:=λs'=>∃T k,s'=⟨fr 47 T (.code (.refuse "")::k) [] AB,c0::cs,v⟩) (s:=⟨_,_,_⟩) hev (start λb5 b19 e5 e19=>by
   (have e5:b5=false:=by rw[e5];simp;omega);(have e19:b19=true:=by rw[e19];simp[h1]);subst e5 e19;have el:c9=c9:=rfl
   conv at el=>lhs;simp only[c9,EM,Dt]
   rw[<- el];clear el;iterate 6 refine QL ?_
   exact .fin ⟨_,_,rfl⟩)
  exact SA Bv h
 exfalso
 obtain⟨s',⟨T,k,rfl⟩,_,h⟩:=zC (Good:=λs'=>∃T k,s'=⟨fr 47 T (.code (.refuse "")::k) [] AB,c0::cs,v⟩) (s:=⟨_,_,_⟩) hev (start λb5 b19 e5 e19=>by
  (have e19:b19=false:=by rw[e19];simp;omega);subst e19;have el:c9=c9:=rfl
  conv at el=>lhs;simp only[c9,EM,Dt]
  rw[<- el];clear el;iterate 3 refine QL ?_
  exact .fin ⟨_,_,rfl⟩)
 exact SA Bv h
theorem AR7{r12 r13 Js IA r16 IB:AP}(hl:l<=1073741824)(hev:Ev Af Kp (fr 47 (Rz x y s l l r12 r13 Js IA r16 IB) [.code Ah.IZ] [] AB) (c0::cs) v):
  ∃n sz:Int,y=.int .i64 n/\(n<1->sz=if (1:Int)<l then (l:Int) else 1)/\(1<=n->sz=n)/\sz<=9223372036854775807/\
   nT Af Kp (λs'=>s'=⟨c0.finish (Fg 79 s sz),cs,v⟩) ⟨fr 47 (Rz x y s l l r12 r13 Js IA r16 IB) [.code Ah.IZ] [] AB,c0::cs,v⟩:=by
 have e0:Ev Af Kp (fr 47 (Rz x y s l l r12 r13 Js IA r16 IB) [.inRegion AI2 [0,1],.code c9p] [] AB) (c0::cs) v:=
  PG Bv (c:=c0) (ts:=cs) (PG Bv (c:=c0) (ts:=cs) hev J5) ui
 obtain⟨op,ho,hop,hw⟩: ∃op,AI2[0]? =AA op/\op.op=.binOp .lss 3 (.tmp 1) (.const (.int .i64 1)) 3/\∀T,DV op T=true:=⟨_,rfl,rfl,λ_=>rfl⟩
 have hy: ∃n,y=.int .i64 n:=by
  refine lX λhn=>?_
  have hst: ∃why,(BG (ev (Rz x y s l l r12 r13 Js IA r16 IB)) op).run Af v=.halt why v/\Halt.still why:=by
   have e1:ev (Rz x y s l l r12 r13 Js IA r16 IB) (.tmp 1)=y:=rfl;have e2:ev (Rz x y s l l r12 r13 Js IA r16 IB) (.const (.int .i64 1))=.int .i64 1:=rfl;unfold BG;simp only[hop,e1,e2]
   cases y with
   |int kk n=>
    cases kk<;>first|exact Ai ⟨n,rfl⟩ hn|exact⟨_,rfl,Am⟩
   |_=>first|exact⟨_,rfl,Am⟩|(rename_i y;cases y<;>exact⟨_,rfl,Am⟩)
  obtain⟨why,hst,hs⟩:=hst;exact YI Bv e0 ho (hw _) hst hs
 obtain⟨n,rfl⟩:=hy
 have hmx: ∀w,(Builtin.max_ #[3,3] 3 #[.int .i64 1,.int .i64 (l:Int)]).run Af w=.ok (.int .i64 (if (1:Int)<l then (l:Int) else 1)) w:=λw=>by
  simp[Builtin.max_,Builtin.max2,Sem.run_pure]
 obtain⟨b6,hb6⟩: ∃b6,b6=decide (n<1):=⟨_,rfl⟩;(obtain⟨mx,AFk⟩: ∃mx:Int,mx=if (1:Int)<l then (l:Int) else 1:=⟨_,rfl⟩);rw[<- AFk] at hmx
 have start: ∀{G:VS->Prop},(∀sz:Int,((b6=true/\sz=mx)\/(b6=false/\sz=n))->Vr Af Kp G ⟨fr 47 #[x,.int .i64 n,.string s,.int .i64 l,AU,.bool true,.bool b6,.int .i64 mx,.int .i64 sz,.bool (decide (sz<=9223372036854775807)),AU,.int .i64 l,r12,r13,Js,IA,r16,IB,.int .i64 l,.bool true] [.code (.seq (.cond (.tmp 9) .skip (.refuse "")) (match Ah.IZ with| .seq _ (.seq _ (.seq _ (.seq _ c)))=>c|_=>.skip))] [] AB,c0::cs,v⟩)->
   nT Af Kp G ⟨fr 47 (Rz x (.int .i64 n) s l l r12 r13 Js IA r16 IB) [.code Ah.IZ] [] AB,c0::cs,v⟩:=λ{G} next=>by
  have NX:=AQ next;clear next hev e0 AFk;unfold Rz;refine ND (λx=>by cases Bv _ _ _ x) J5 ?_;(iterate 2 refine QL ?_);rw[<- hb6];refine AFY Bv (.int .i64 mx) rfl rfl (λw=>?_) ?_
  ·rw[Ut (op:=_) rfl];simp only[J3,BK,EG];show ((Builtin.max_ #[3,3] 3 #[.int .i64 1,.int .i64 (l:Int)]>>=λr=>pure (Next.value r)):Sem Next).run Af w=_;rw[Eh,hmx];rfl
  simp only[put];walk_nrm;iterate 2 refine QL ?_
  cases b6 with
  |true=>
   (iterate 8 refine QL ?_);exact NX.out mx (.inl ⟨rfl,rfl⟩)
  |false=>
   (iterate 8 refine QL ?_);exact NX.out n (.inr ⟨rfl,rfl⟩)
 have AR8:mx<=9223372036854775807:=by rw[AFk];split<;>omega
 have fin: ∀sz:Int,sz<=9223372036854775807->Vr Af Kp (λs'=>s'=⟨c0.finish (Fg 79 s sz),cs,v⟩) ⟨fr 47 #[x,.int .i64 n,.string s,.int .i64 l,AU,.bool true,.bool b6,.int .i64 mx,.int .i64 sz,.bool true,AU,.int .i64 l,r12,r13,Js,IA,r16,IB,.int .i64 l,.bool true] [.code (.seq (.cond (.tmp 9) .skip (.refuse "")) (match Ah.IZ with| .seq _ (.seq _ (.seq _ (.seq _ c)))=>c|_=>.skip))] [] AB,c0::cs,v⟩:=λsz hsz=>by
  clear start hev e0;(iterate 8 refine QL ?_);refine Ia Bv (λw=>OM) ?_;exact uu Bv ABX (λw=>MR (t:=4) rfl w) (.fin rfl)
 have AEF: ∀sz:Int,((b6=true/\sz=mx)\/(b6=false/\sz=n))->sz<=9223372036854775807:=λsz h=>by
  rcases h with ⟨_,rfl⟩|⟨_,rfl⟩;exact AR8;refine lX λhlt=>?_
  obtain⟨s',⟨T,k,rfl⟩,_,h⟩:=zC (Good:=λs'=>∃T k,s'=⟨fr 47 T (.code (.refuse "")::k) [] AB,c0::cs,v⟩) (s:=⟨_,_,_⟩) hev (start λsz' h'=>by
   (have e9:decide (sz<=9223372036854775807)=false:=by simpa using hlt);rcases h' with ⟨h1,h2⟩|⟨h1,h2⟩
   ·have h3:= ‹b6=false›;rw[h1] at h3;cases h3
   subst h2;rw[e9];iterate 2 refine QL ?_
   exact .fin ⟨_,_,rfl⟩).vr
  exact SA Bv h
 (obtain⟨sz,hsz⟩: ∃sz:Int,(b6=true/\sz=mx)\/(b6=false/\sz=n):=by cases b6<;>simp);refine⟨n,sz,rfl,λh=>?_,λh=>?_,AEF sz hsz,start λsz' h'=>?_⟩
 ·rcases hsz with ⟨_,h2⟩|⟨h1,_⟩;rw[h2,AFk];rw[hb6] at h1;simp at h1;omega
 ·rcases hsz with ⟨h1,_⟩|⟨_,h2⟩;rw[hb6] at h1;simp at h1;omega;exact h2
 have e:sz'=sz:=by
  rcases hsz with ⟨h1,h2⟩|⟨h1,h2⟩<;>rcases h' with ⟨h3,h4⟩|⟨h3,h4⟩<;>first|exact h4.trans h2.symm|(rw[h1] at h3;cases h3)
 subst e;(have e9:decide (sz'<=9223372036854775807)=true:=by simpa using AEF sz' hsz);rw[e9];exact fin sz' (AEF sz' hsz)
end
end
theorem oH{ks:List Int}{i:Nat}(h:i<(FQ ks).size){k:Int}(hk:ks[i]? =AA k):(FQ ks)[i]=UInt8.ofNat k.toNat:=by
 have h1:(FQ ks).data.toList[i]? =AA (FQ ks)[i]:=by
  rw[Y5];exact FD _
 rw[strOfNums_data,Bg,hk] at h1;exact (EF h1).symm
section
variable {Kp:AX->List AX->AL->Prop} (Bv: ∀f ts v,Kp f ts v->ts=[]) {cs:List AX} {c0:AX} {v w:AL} {ρ:Rn}
include Bv
theorem AL3(hW:DD K1.F 2 ρ v w){x y x' y':AP}(hx:Az K1.F ρ x x')(hy:Az K1.F ρ y y')(hev:Ev Af Kp (BV Af 47 #[x,y] .normal) (c0::cs) v):
  ∃(s:ByteArray) (n sz:Int),y'=.int .i64 n/\(n<1->sz=if (1:Int)<s.size then (s.size:Int) else 1)/\(1<=n->sz=n)/\sz<=9223372036854775807/\s.size<=1073741824/\
   Jq Af Kp ⟨c0.finish (Fg 79 s sz),cs,v⟩ ⟨BV Af 47 #[x,y] .normal,c0::cs,v⟩/\
   ((∃c,x'=.slice AB 0 c/\s.size=0)\/∃a' c,x'=.slice (AA a') s.size c/\(0<s.size->∃b,ρ.r b a'.block)/\∀i (h:i<s.size),w.cell? (a'.add i)=AA (.int .u8 (s[i].toNat:Int))):=by
 have zF:nT Af Kp (λs'=>s'=⟨fr 47 #[x,y,AU,AU,AU,AU,AU,AU,AU,AU,AU,AU,AU,AU,AU,AU,AU,AU,AU,AU] [.inRegion ops9 [0,1,2,3,4,5],.code c9] [] AB,c0::cs,v⟩) ⟨BV Af 47 #[x,y] .normal,c0::cs,v⟩:=by
  rw[IM ABX rfl];simp only[Iq,List.length_cons,List.length_nil,Nat.reduceAdd,Nat.reduceSub,KE,Array.replicate_zero,KF,KH,List.nil_append,List.cons_append];refine ND (λx=>by cases Bv _ _ _ x) J5 ?_;refine QL ?_;exact .fin rfl
 obtain⟨s',rfl,nA⟩:=zF;have ay:=Ev.O6 (s:=⟨_,_,_⟩) hev nA;simp only at ay;obtain⟨T,hT⟩: ∃T:Array AP,T= #[x,y,AU,AU,AU,AU,AU,AU,AU,AU,AU,AU,AU,AU,AU,AU,AU,AU,AU,AU]:=⟨_,rfl⟩;obtain⟨op0,ho0,hop0,hw0,hd0⟩: ∃op,ops9[0]? =AA op/\op.op=.call {callee:=.builtin .len,args:=#[.tmp 0],argTypes:=#[62]}/\(∀T,DV op T=true)/\op.dst=AA 3:=⟨_,rfl,rfl,λ_=>rfl,rfl⟩;obtain⟨op1,ho1,AR9,hw1⟩: ∃op,ops9[1]? =AA op/\op.op=.convert 62 9 (.tmp 0)/\∀T,DV op T=true:=⟨_,rfl,rfl,λ_=>rfl⟩
 have hx0: ∀T:Array AP,T.getD 0 AU=x->(BG (ev T) op0)=((UZ #[62] op0.type #[x]>>=λr=>pure (Go.Next.value r)):Sem Go.Next):=λT h=>by
  rw[Ut hop0];simp only[J3,BK,EG];rw[show ev T (.tmp 0)=x from h];rfl
 have hsl: ∃A l c,x=.slice A l c:=by
  rcases AI3 (x:=x) (w:=v) op0.type with h|⟨h,h1,h2⟩;exact h;exfalso;refine YI Bv ay ho0 (hw0 _) (hh:=h) ?_ h2;rw[hx0 _ rfl,Eh,h1];rfl
 obtain⟨A,l,c,rfl⟩:=hsl;rcases AEE (T:=T1) hW hx with ⟨h,h1,h2⟩|⟨ks,hok,hcase⟩
 ·exfalso;have AFl:=PG Bv (c:=c0) (ts:=cs) ay (XM (kd:=false) (v:=.int .i64 (l:Int)) (w':=v) ho0 (hw0 _) (.inl rfl) (by rw[hx0 _ rfl,Eh,vF];rfl));refine YI Bv AFl ho1 (hw1 _) (hh:=h) ?_ h2
  have e:BG (ev (put #[.slice A l c,y,AU,AU,AU,AU,AU,AU,AU,AU,AU,AU,AU,AU,AU,AU,AU,AU,AU,AU] op0.dst (.int .i64 (l:Int)))) op1=((convert 62 9 (.slice A l c)>>=λr=>pure (Go.Next.value r)):Sem Go.Next):=by
   unfold BG;simp only[AR9,hd0];rfl
  rw[e,Eh,vG];have h1':(Ph (.slice A l c)).run Af v=.halt h v:=h1;rw[h1'];rfl
 have hok':(Ph (.slice A l c)).run Af v=.ok (.string (FQ ks)) v:=hok;obtain⟨hsz,hl,zF⟩:=AR6 Bv (y:=y) rfl hok' ay;obtain⟨s',rfl,nB,AFl⟩:=zC (s:=⟨_,_,_⟩) ay zF;have AI4:ks.length=l:=by rw[<- hsz,strOfNums_size]
 have hcell: ∀(i:Nat) (k:Int),ks[i]? =AA k->∃a,A=AA a/\v.cell? (a.add i)=AA (.int .u8 k):=λi k hk=>by
  rcases hcase with ⟨_,_,_,_,rfl⟩|⟨a,a',l',c',e1,_,_,_,h⟩;(cases hk);(cases e1);exact⟨a,rfl,(h i k hk).1⟩
 obtain⟨⟨q12,q13,tV,zD,q16,oG,nC⟩,hall⟩:=AI1 Bv (y:=y) (s:=FQ ks) (c0:=c0) (cs:=cs) (c:=c) rfl hl AI4 hcell l 0 Ad _ _ _ _ _ _ AFl;have ASA:=Ev.O6 (s:=⟨_,_,_⟩) AFl nC;obtain⟨n,sz,rfl,e1,e2,e3,s',rfl,nD⟩:=AR7 Bv hl ASA;obtain rfl:=BP hy rfl;refine⟨FQ ks,n,sz,rfl,by rw[hsz];exact e1,e2,e3,by rw[hsz];exact hl,?_,?_⟩
 ·rcases nB with e|nB
  ·rw[e] at nC;exact (nD.trans nC).trans nA
  exact ((nD.trans nC).trans nB).trans nA
 rcases hcase with ⟨l',c',e1,e2,rfl⟩|⟨a,a',l',c',e1,e2,e3,e4,h⟩
 ·(cases e1);refine .inl ⟨c,?_,rfl⟩;rw[e2];(have:l=0:=by rw[<- AI4];rfl);rw[this]
 (cases e1);refine .inr ⟨a',c,by rw[e2,hsz],λhp=>⟨_,(e3 Ad).1⟩,λi hi=>?_⟩;(have hi':i<ks.length:=by rw[AI4,<- hsz];exact hi);obtain⟨k,hk⟩: ∃k,ks[i]? =AA k:=⟨_,CQ hi'⟩;have hr:=hall i k (D5 _) hk;rw[(h i k hk).2,oH hi hk]
 have e5:((UInt8.ofNat k.toNat).toNat:Int)=k:=by
  rw[UInt8.toNat_ofNat'];omega
 rw[e5]
end
def Rn.RY (ρ:Rn) (s:ByteArray) (n:Int) (a b:Nat):Rn:={r:=ρ.r,c:=ρ.c,q:=λs' n' a' b'=>ρ.q s' n' a' b'\/(s'=s/\n'=n/\a'=a/\b'=b)}
theorem Rn.bC{ρ:Rn}{s:ByteArray}{n:Int}{a b:Nat}:ρ.le (ρ.RY s n a b):=⟨λ_ _ h=>h,λ_ _ h=>h,λ_ _ _ _ h=>.inl h⟩
theorem DD.RY{F:Fs}{N:Nat}{ρ:Rn}{v w:AL}(h:DD F N ρ v w){s:ByteArray}{n:Int}{a b:Nat}{B:List Nat}(hS:Ij w B s n a b)(hB: ∀c∈B,∀x,¬ρ.r x c):DD F N (ρ.RY s n a b) v w:=
 ⟨⟨h.ok.fn,h.ok.inj,h.ok.cfn,h.ok.apart,h.ok.low,h.ok.hd⟩,λa b hab=>by
  obtain⟨o,o',h1,h2,h3⟩:=h.obj a b hab
  exact⟨o,o',h1,h2,h3.mono Rn.bC⟩,h.tok,h.nv,h.nw,h.os,λs' n' a' b' hq=>by
  rcases hq with hq|⟨rfl,rfl,rfl,rfl⟩;exact h.seq _ _ _ _ hq
  exact⟨B,hS,hB⟩⟩
end Go.Proofs.YtkkgcebhfghdnaaGreatDoor
