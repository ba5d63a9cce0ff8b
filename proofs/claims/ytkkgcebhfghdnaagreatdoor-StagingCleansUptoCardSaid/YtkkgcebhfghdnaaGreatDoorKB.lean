/- Layer 28, StagingCleans: a clean-up takes the stage away, whatever is in it, and nothing else; where what comes in is together of bulk at most 1048576. -/
import Derived.Test.YtkkgcebhfghdnaaGreatDoorKA
set_option maxRecDepth 100000
set_option maxHeartbeats 8000000
namespace Go.Proofs.YtkkgcebhfghdnaaGreatDoor.Vw
open Go Go.RowKit
theorem Rk{α:Type}(k:ByteArray)(v:α)(t:List (ByteArray×α)):without (IJ k v t) k=without t k:=by
 induction t with
 |nil=>simp[IJ,without]|cons p r ih=>
  rw[IJ];split;rw[Ir,if_pos rfl];rw[Ir,Ir,ih]
theorem VF{α:Type}(k:ByteArray)(t:List (ByteArray×α)):without (without t k) k=without t k:=MG (Kq k)
def FH.AEd:FH->Prop
 | .Dn d=>d=CE| .create d _ _=>d=CE| .rename _ _=>False| .remove d _=>d=CE| .rmdir d=>d=CE
theorem FH.AJD{c:FH}{T:Tr}(h:c.AEd):without (c.on T) CE=without T CE:=by
 cases c with|rename a b=>exact h.elim|Dn d=>subst h;exact Rk _ _ _|create d n i=>subst h;exact (Rk _ _ _).trans (VF _ _)|remove d n=>subst h;exact (Rk _ _ _).trans (VF _ _)|rmdir d=>subst h;exact VF _ _
theorem dL: ∀{cs:List FH} {T:Tr},(∀c∈cs,c.AEd)->without (Je T cs) CE=without T CE
 | [],T,h=>rfl|c::r,T,h=>(dL (cs:=r) (T:=c.on T) λx hx=>h x (Aj _ hx)).trans (FH.AJD (h c (BZ ..)))
structure Kept (U:Tr) (M:Nat) (f0:Nat->List Int) (S:St):Prop where
 safe:without S.safe CE=U
 FQ: ∀c∈S.FQ,c.AEd
 run:Je S.safe S.FQ=S.seen
 len:M<=S.files.length
 ids: ∀p∈U,∀q∈p.2,q.2<M
 Iu: ∀i<M,S.files.getD i ([],[])=(f0 i,[])
variable {U:Tr} {M:Nat} {f0:Nat->List Int} {S:St}
theorem Kept.seen(h:Kept U M f0 S):without S.seen CE=U:=by rw[<- h.run,dL h.FQ,h.safe]
theorem aO(T:Tr)(g:Nat->List Int)(nm:ByteArray):Y8 nm (T.map λp=>(p.1,p.2.map λq=>(q.1,g q.2)))=(without T nm).map λp=>(p.1,p.2.map λq=>(q.1,g q.2)):=by
 unfold Y8 without;rw[Ju];congr 1;apply Jt;intro p _;simp
theorem uK{T:Tr}{g g':Nat->List Int}(h: ∀p∈T,∀q∈p.2,g q.2=g' q.2):(T.map λp=>(p.1,p.2.map λq=>(q.1,g q.2)))=T.map λp=>(p.1,p.2.map λq=>(q.1,g' q.2)):=by
 apply ES;intro p hp;congr 1;apply ES;intro q hq;exact congrArg _ (h p hp q hq)
theorem Kept.bytes(h:Kept U M f0 S){i:Nat}(hi:i<M):S.bytes i=f0 i:=by
 unfold St.bytes;rw[h.Iu i hi];simp[Hg.all]
theorem Kept.left(h:Kept U M f0 S)(ks:List Bool)(names:Int):Y8 CE (S.left ks names)=U.map λp=>(p.1,p.2.map λq=>(q.1,f0 q.2)):=by
 unfold St.left;rw[aO,dL (λc hc=>h.FQ c (VU hc)),h.safe];apply uK;intro p hp q hq;have hi:=h.ids p hp q hq;rw[xk (by rw[h.Iu _ hi]),h.bytes hi]
theorem Kept.view(h:Kept U M f0 S)(hd:S.down=false):Y8 CE S.view=U.map λp=>(p.1,p.2.map λq=>(q.1,f0 q.2)):=by
 rw[ABA hd,aO,h.seen];exact uK λp hp q hq=>h.bytes (h.ids p hp q hq)
theorem Kept.make(h:Kept U M f0 S){c:FH}(hc:c.AEd):Kept U M f0 (S.make c):=by
 refine⟨h.safe,λx hx=>?_,?_,h.len,h.ids,h.Iu⟩
 ·rcases AU.1 hx with hx|hx;exact h.FQ x hx;rw[Ad.1 hx];exact hc
 show Je S.safe (S.FQ++[c])=c.on S.seen;rw[Yx,h.run]
theorem Kept.remove(h:Kept U M f0 S)(n:ByteArray):Kept U M f0 (S.remove CE n).1:=by
 unfold St.remove;split;exact h;exact h.make rfl
theorem Kept.rmdir(h:Kept U M f0 S):Kept U M f0 (S.rmdir CE).1:=by
 unfold St.rmdir;split;exact h;split;exact h;exact h.make rfl
theorem Kept.names(h:Kept U M f0 S):Kept U M f0 S.names.1:=by
 unfold St.names;split;exact h;exact⟨h.seen,λc hc=>(AB hc).elim,rfl,h.len,h.ids,h.Iu⟩
theorem Kept.Ea(h:Kept U M f0 S): ∀l:List ByteArray,Kept U M f0 (St.Ea CE S l).1:=by
 intro l
 induction l generalizing S with
 |nil=>exact h|cons n r ih=>
  unfold St.Ea;split;exact ih (h.remove n);exact h.remove n
theorem Kept.clean(h:Kept U M f0 S):Kept U M f0 S.clean.1:=by
 unfold St.clean St.MQ;split
 ·split
  ·split
   ·split
    ·split;exact (h.Ea _).rmdir.names;exact (h.Ea _).rmdir
    exact h.Ea _
   exact h
  exact h
 exact h
structure F5 (S S':St):Prop where
 files:S'.files=S.files
 wr:S'.wr=S.wr
 BR:S'.BR=S.BR
 stop:S'.stop=S.stop
theorem F5.refl(S:St):F5 S S:=⟨rfl,rfl,rfl,rfl⟩
theorem F5.trans{S S1 S2:St}(h:F5 S S1)(k:F5 S1 S2):F5 S S2:=⟨k.1.trans h.1,k.2.trans h.2,k.3.trans h.3,k.4.trans h.4⟩
theorem F5.remove(S:St)(d n:ByteArray):F5 S (S.remove d n).1:=by
 unfold St.remove;split<;>exact⟨rfl,rfl,rfl,rfl⟩
theorem F5.rmdir(S:St)(d:ByteArray):F5 S (S.rmdir d).1:=by
 unfold St.rmdir;split;exact .refl S;split<;>exact⟨rfl,rfl,rfl,rfl⟩
theorem F5.names(S:St):F5 S S.names.1:=by
 unfold St.names;split<;>exact⟨rfl,rfl,rfl,rfl⟩
theorem F5.Ea(d:ByteArray): ∀(l:List ByteArray) (S:St),F5 S (St.Ea d S l).1
 | [],S=>.refl S
 |n::r,S=>by
  unfold St.Ea;split;exact (F5.remove S d n).trans (F5.Ea d r _);exact F5.remove S d n
theorem F5.clean(S:St):F5 S S.clean.1:=by
 unfold St.clean St.MQ;split
 ·split
  ·split
   ·split
    ·split;exact ((F5.Ea _ _ _).trans (F5.rmdir _ _)).trans (F5.names _);exact (F5.Ea _ _ _).trans (F5.rmdir _ _)
    exact F5.Ea _ _ _
   exact .refl S
  exact .refl S
 exact .refl S
theorem dN{s:ByteArray}{T:Tr}:(idx s (T.map Prod.fst)).isSome=(BJ T s).isSome:=by
 rw[ABF];by_cases h:s∈T.map Prod.fst;rw[Nw.2 h];simpa using h;rw[Fa.2 h];simpa using h
theorem ABd{S:St}{d:ByteArray}(h:(S.rmdir d).2=0):BJ (S.rmdir d).1.seen d=none:=by
 unfold St.rmdir at h⊢;split
 ·rename_i h0;rw[if_pos h0] at h;exact absurd h h0
 rename_i h0;rw[if_neg h0] at h;split
 ·rename_i h1;rw[if_pos h1] at h;cases h
 exact Fa.2 (Kq d)
theorem ABe{S:St}(h:S.clean.2=0):BJ S.clean.1.seen CE=none:=by
 unfold St.clean St.MQ at h⊢;split
 ·rename_i h0;rw[if_pos h0] at h;split
  ·rename_i h1;rw[if_pos h1] at h;split
   ·rename_i h2;rw[if_pos h2] at h;split
    ·rename_i h3;rw[if_pos h3] at h;split
     ·rename_i h4;rw[if_pos h4] at h;have:=ABd h4;unfold St.names;split<;>exact this
     rename_i h4;rw[if_neg h4] at h;exact absurd h h4
    rename_i h3;rw[if_neg h3] at h;exact absurd h h3
   rename_i h2;rw[if_neg h2] at h;exact absurd h h2
  rename_i h1;unfold St.Ld at h0 h1;split at h0;(cases h0);rename_i hd;rw[if_neg hd,dN] at h1;simpa using h1
 rename_i h0;rw[if_neg h0] at h;exact absurd h h0
def Quiet (S:St):Prop:=S.safe=S.seen/\S.FQ=[]
theorem yL{S:St}(h:S.names.2=0):Quiet S.names.1:=by
 unfold St.names at h⊢;split
 ·rename_i h0;rw[if_pos h0] at h;cases h
 exact⟨rfl,rfl⟩
theorem yM{S:St}(h:S.clean.2=0)(hq:Quiet S):Quiet S.clean.1:=by
 unfold St.clean St.MQ at h⊢;split
 ·rename_i h0;rw[if_pos h0] at h;split
  ·rename_i h1;rw[if_pos h1] at h;split
   ·rename_i h2;rw[if_pos h2] at h;split
    ·rename_i h3;rw[if_pos h3] at h;split
     ·rename_i h4;rw[if_pos h4] at h;exact yL h
     rename_i h4;rw[if_neg h4] at h;exact absurd h h4
    rename_i h3;rw[if_neg h3] at h;exact absurd h h3
   exact hq
  exact hq
 exact hq
theorem uM: ∀(l:List ByteArray) {S:St} {F:Qi},S.stop<0->BJ S.seen CE=some F->(F.map Prod.fst).Nodup->l.Nodup->(∀n,n∈l↔n∈F.map Prod.fst)->(∀q∈F,DR q.1=true)->
  (St.Ea CE S l).2=0/\BJ (St.Ea CE S l).1.seen CE=some []
 | [],S,F,hs,hF,h1,h2,h3,h4=>by
  cases F with|nil=>exact⟨rfl,hF⟩|cons q r=>exact absurd ((h3 q.1).2 AY) AY
 |n::r,S,F,hs,hF,h1,h2,h3,h4=>by
  obtain⟨hn,hr⟩:=DW.1 h2;have hm:=(h3 n).1 (BZ ..);obtain⟨q,hq,jo⟩:=Ag.1 hm;(have hg:DR n=true:=by rw[<- jo];exact h4 q hq);have hag:BJ F n=some q.2:=by rw[<- jo];exact KH h1 hq
  have hf:S.Qj CE n=(some q.2,0):=by
   unfold St.Qj;rw[xh (Ou hs) (by simp[hg,show DR CE=true by kernel_rfl]) hF,if_neg AY,GU hF,hag]
  have he:S.remove CE n=(S.make (.remove CE n),0):=by
   unfold St.remove;rw[hf]
  unfold St.Ea;rw[he,if_pos rfl];refine uM r (F:=without F n) (S:=S.make (.remove CE n)) hs ?_ ?_ hr ?_ ?_
  ·show BJ (IJ CE (without (GR S.seen CE) n) (without S.seen CE)) CE=_;rw[U5,if_pos rfl,GU hF]
  exact h1.sublist (List.filter_sublist.map _)
  ·intro m;constructor
   ·intro hm;obtain⟨p,hp,rfl⟩:=Ag.1 ((h3 m).1 (Aj _ hm));exact Ag.2 ⟨p,Gf.2 ⟨hp,λe=>hn (by rw[<- e];exact hm)⟩,rfl⟩
   intro hm;obtain⟨p,hp,rfl⟩:=Ag.1 hm;obtain⟨hp,hne⟩:=Gf.1 hp;rcases AA.1 ((h3 p.1).2 (Ag.2 ⟨p,hp,rfl⟩)) with h|h;exact absurd h hne;exact h
  exact λp hp=>h4 p (Gf.1 hp).1
theorem uN:DR CE=true:=by kernel_rfl
theorem ABf{B:Nat}{S:St}(hs:S.stop<0)(hi:Inv B S):S.clean.2=0:=by
 have hd:=Ou hs;(have hds:S.Ld=(S.seen.map Prod.fst,0):=by unfold St.Ld;rw[if_neg (by simp[hd])]);unfold St.clean;rw[hds,if_pos rfl,dN];split
 ·rename_i h1;obtain⟨F,hF⟩:=VK.1 h1
  have hl:S.list CE=(F.map Prod.fst,0):=by
   unfold St.list;rw[xh hd (by simp[uN]) hF,if_neg AY,GU hF]
  rw[hl,if_pos rfl];have hv:=hi.val.wU CE;rw[GU hF] at hv;obtain⟨k1,k2⟩:=uM (F.map Prod.fst) hs hF hv.1.nodup hv.1.nodup (λ_=>Ky) hv.2.2;unfold St.MQ;rw[if_pos k1];have hs1:(St.Ea CE S (F.map Prod.fst)).1.stop<0:=by rw[(F5.Ea CE _ S).stop];exact hs
  have hr:(St.rmdir (St.Ea CE S (F.map Prod.fst)).1 CE).2=0:=by
   unfold St.rmdir;rw[xh (Ou hs1) (by simp[uN]) k2,if_neg AY,GU k2,if_neg AY]
  rw[if_pos hr];unfold St.names;rw[if_neg];rw[Ou (by rw[(F5.rmdir _ _).stop];exact hs1)];simp
 rfl
theorem ABg{S:St}(hs:S.stop<0)(h:BJ S.seen CE=none):S.clean=(S,0):=by
 have hd:=Ou hs;(have hds:S.Ld=(S.seen.map Prod.fst,0):=by unfold St.Ld;rw[if_neg (by simp[hd])]);unfold St.clean;rw[hds,if_pos rfl,dN,h];rfl
theorem Kept.open_{D:He}{q s:Int}(h:ER D q=0):Kept (without (IW 0 D) CE) (Hy D) (λi=>(dat D).getD i []) (FT D q s):=by
 refine⟨rfl,λc hc=>(AB hc).elim,rfl,by simp[FT,UW],λp hp q hq=>?_,λi hi=>?_⟩
 ·have:=dB p (Gf.1 hp).1 q hq;omega
 have hl:i<(dat D).length:=by
  have:=UW D;rw[AA9,BH] at this;omega
 rw[open_bytes (Af hl)];simp[CW,hl]
theorem ABh(D:He)(q s:Int):Quiet (FT D q s):=⟨rfl,rfl⟩
theorem uO{D:He}{q:Int}(h:ER D q=0):((without (IW 0 D) CE).map λp=>(p.1,p.2.map λq=>(q.1,(λi=>(dat D).getD i []) q.2)))=Y8 CE D:=by
 refine (aO (IW 0 D) (λi=>(dat D).getD i []) CE).symm.trans ?_;congr 1;exact AFh (λi=>(dat D).getD i []) λk x hk=>by simp[CW,hk]
theorem ADc(nm:ByteArray)(D:He):Gp (Y8 nm D)<=Gp D:=by
 unfold Gp Y8
 induction D with
 |nil=>simp|cons d r ih=>
  rw[Io];split;simp only[AL,List.sum_cons] at ih⊢;omega;simp only[AL,List.sum_cons] at ih⊢;omega
theorem clean_nil{w:World}{G:Bg}{S:St}{B:Nat}(h:ED w G S)(hi:Inv B S)(hB:2*B+2<=1073741824)(h0:S.clean.2=0):
  Calls Ae 21 #[.pointer (some ⟨G.b,0,none⟩)] w λe w'=>e=.returned .nilIface/\DI w G S.clean.1 w':=by
 have hp:=Xl h hi hB;rw[h0] at hp;refine hp.mono ?_;rintro e w' ⟨v,G',L,rfl,hev,hf,hb,hall,hc,hL⟩;exact⟨by rw[JO.nil_ hev],G',hf,hb,hall,hc⟩
theorem qU{D:He}{q:Int}(h:ER D q=0)(hq:q<=9223372036854775807)(ks:List Bool)(names:Int):
  (FT D q (-1)).clean.2=0/\(FT D q (-1)).clean.1.view=Y8 CE D/\(FT D q (-1)).clean.1.left ks names=Y8 CE D/\(FT D q (-1)).clean.1.clean=((FT D q (-1)).clean.1,0):=by
 have hk:=(Kept.open_ (s:= -1) h).clean;have h0:(FT D q (-1)).clean.2=0:=ABf (S:=FT D q (-1)) (show (-1:Int)<0 by decide) (Xi h hq);have hg:=ABe h0;(have hs:(FT D q (-1)).clean.1.stop<0:=by rw[(F5.clean _).stop];exact (show (-1:Int)<0 by decide));obtain⟨q1,q2⟩:=yM h0 (ABh D q (-1));have e1:=hk.view (Ou hs);have e2:=hk.left ks names
 have w1: ∀{T:Tr} (g:Nat->List Int),BJ T CE=none->Y8 CE (T.map λp=>(p.1,p.2.map λq=>(q.1,g q.2)))=T.map λp=>(p.1,p.2.map λq=>(q.1,g q.2)):=by
  intro T g hT;rw[aO,MG (Fa.1 hT)]
 refine⟨h0,?_,?_,ABg hs hg⟩;rw[<- uO h,<- e1,ABA (Ou hs),w1 _ hg];rw[<- uO h,<- e2];unfold St.left;rw[q2,AEi];show _=Y8 CE ((Je _ []).map _);rw[w1];show BJ (FT D q (-1)).clean.1.safe CE=none;rw[q1];exact hg
theorem Gl.wo{w':World}{A A':Option Addr}{n c c':Nat}{ds L:List DM}(h:Gl w' A n c ds)(ho:Own w' 77 2 A' L.length c' (Iw (Ej L)))(hs: ∀d∈L,d∈ds):Gl w' A' L.length c' L:=⟨ho.rd,λd hd=>h.Iu d (hs d hd)⟩
theorem AF3(w:World)(hg:QM w)(A:Option Addr)(n c:Nat)(ds:List DM)(BR:Int)(K:Option Addr)(kn kc:Nat)(ks:List Bool)(names:Int)(h:Gl w A n c ds)(hn:n<=1073741824)(hb:Gp (BG ds)<=134217728)
  (hfn: ∀x∈ds,x.1.n<=1073741824/\∀f∈x.2,f.1.n<=1073741824) (hq:BR<=9223372036854775807) (hK:Rd w 1 K kn kc (kv ks)) (hkn:kn<=1073741824):
  Calls Ae 5 #[.agg #[.slice A n c,.int .i64 BR],.agg #[.slice K kn kc,.int .i64 names]] w λe w'=>e=.returned (.bool true)/\AZ [] w w':=by
 obtain⟨W,hW⟩: ∃W,(w.alloc (.cells #[.slice A n c,.int .i64 BR] 24)).alloc (.cells #[.slice K kn kc,.int .i64 names] 30)=W:=⟨_,rfl⟩;obtain⟨sb,hsb⟩: ∃sb,w.heap.size=sb:=⟨_,rfl⟩;(have hcW:AZ [] w W:=by rw[<- hW];exact ((AZ.refl [] w).alloc _).alloc _);have hbk:Bo W sb 24 #[.slice A n c,.int .i64 BR]:=by rw[<- hW,<- hsb];exact (Bo.new w _ _).Am ((AZ.refl [] _).alloc _) AY
 have hbf:Bo W (sb+1) 30 #[.slice K kn kc,.int .i64 names]:=by
  rw[<- hW,<- hsb];have:=Bo.new (w.alloc (.cells #[.slice A n c,.int .i64 BR] 24)) 30 #[.slice K kn kc,.int .i64 names];simpa using this
 (have hWs:W.heap.size=sb+2:=by rw[<- hW,<- hsb];simp);have HWS:=AQ hWs;have HG:=AQ (hcW.cell hg AY);have HD:=AQ (h.GK hcW);have TM:=AQ hbk;have HBF:=AQ hbf;have HC:=AQ hcW;have XD:=AQ hfn;have HB:=AQ hb;have HKR:=AQ (hK.Am hcW AY);have q8:= @VC8;have q13:= @APk;have q16:= @APn;have q19:= @APp;have q20:= @ALH;have q21:= @AD6;have q22:= @APq;have q23:= @APr;clear h hb hfn hcW hbk hbf hg hWs hK;go_enter VF5,Tryz.ntmps5;(go_wp2_with fail);refine (ABc W HG.out).mono ?_;rintro e w1 ⟨rfl,hc1⟩;have DC:=AQ hc1;have x0:=(TM.out.Am DC.out AY).cell 0;have x1:=(TM.out.Am DC.out AY).cell 1;clear hc1;(go_wp2_with fail);refine (ADY w1 A n c ds BR (-1) (HD.out.GK DC.out) ‹_› (by have:=HB.out;omega) XD.out).mono ?_;rintro e w2 (⟨he,rfl,hc2⟩|⟨he,G,rfl,hF,hN,hc2⟩)
 ·have HC2:Hid (AZ [] w w2):=AQ ((HC.out.Aq DC.out).Aq hc2);clear he hc2;go_wp2;go_ret;exact⟨rfl,HC2.out⟩
 have HC2:=AQ (DC.out.Aq hc2);have HF:=AQ hF;have hp:=qU he ‹_› ks names;have hi:=Xi (stop:= -1) he ‹_›
 generalize hS:FT (BG ds) BR (-1)=S at*
 have HI:=AQ hi;have HP:=AQ hp;(have Lh:Hid (∀x∈G.all,W.heap.size<=x):=AQ λx hx=>by have:=hN x hx;have:=DC.out.size;omega);clear hF he hN hc2 hp hi hS;(go_wp2_with fail);refine (clean_nil HF.out HI.out (by have:=HB.out;omega) HP.out.1).mono ?_;rintro e w3 ⟨rfl,G3,hf3,hb3,AJE,hc3⟩;have HF3:=AQ hf3;have HB3:=AQ hb3;have HI3:=AQ HI.out.clean
 have qF:Hid (∀x∈G3.all,W.heap.size<=x):=AQ λx hx=>by
  rcases AJE x hx with h|h;exact Lh.out x h;have:=HC2.out.size;omega
 have GV:Hid (AZ [] W w3):=AQ (HC2.out.trans hc3 λx hx=>.inr (Lh.out x hx));have x0:=(TM.out.Am GV.out AY).cell 0;have x1:=(TM.out.Am GV.out AY).cell 1;clear hf3 hb3 AJE hc3;(go_wp2_with fail);refine (yD A n c ds CE w3 (HD.out.GK GV.out) ‹_›).mono ?_;rintro e w4 ⟨A4,c4,rfl,TJ,hc4,hn4⟩;have MK:=AQ (GV.out.Aq hc4);have QJ:=AQ (HF3.out.CX hc4);have X5:Hid (Gl w4 A4 (P5 CE ds).length c4 (P5 CE ds)):=AQ ((HD.out.GK MK.out).wo TJ λd hd=>(I4.1 hd).1);have HO4:=AQ TJ
 have HA4:Hid (∀x∈bo A4,x∉G3.all):=AQ λx hx hm=>by
  have:=hn4 x hx;have:=HF3.out.lt x hm;omega
 clear TJ hc4 hn4;(go_wp2_with fail);have hst:=lU G3.b (S.clean.1.steps:Int) w4 (QJ.out.blk.cell 6);rw[HB3.out] at hst;refine hst.mono ?_;rintro e w4' ⟨rfl,rfl⟩;clear hst
 have hvw: ∀w',ED w' G3 S.clean.1->Calls Ae 20 #[.pointer (some ⟨G.b,0,none⟩)] w' (Xd w' (Y8 CE (BG ds))):=λw' hf=>by
  have:=Zz hf HI3.out (by have:=HB.out;omega);rwa[HB3.out,HP.out.2.1] at this
 have HVW:=AQ hvw;clear hvw;(go_wp2_with fail);refine (HVW.out _ QJ.out).mono ?_;rintro e w5 ⟨A5,n5,c5,ds5,rfl,hd5,hv5,hc5,_⟩;have X4:Hid (Gp (Y8 CE (BG ds))<=134217728):=AQ (Ah (ADc _ _) HB.out)
 have iP:Hid (n5<=1073741824/\∀x∈ds5,x.1.n<=1073741824):=AQ (by
  obtain⟨h1,_,_,h2⟩:=VA hd5.rd (B:=134217728) (by rw[hv5];exact X4.out)
  exact⟨Ac,λx hx=>by have:=(h2 x hx).1;omega⟩)
 have HD5:=AQ hd5.rd;have HV5:Hid (BG ds5=BG (P5 CE ds)):=AQ (hv5.trans (dK _ _).symm);have Ql:=AQ hc5;clear hd5 hv5 hc5;(go_wp2_with fail);refine (Y7 A5 n5 c5 ds5 A4 _ c4 (P5 CE ds) w5 HD5.out (X5.out.GK Ql.out) iP.out.1 iP.out.2).mono ?_;rintro e w6 ⟨b,rfl,hb6,hc6⟩;obtain rfl:=hb6 HV5.out;have Ij:=AQ (Ql.out.Aq hc6);clear hb6 hc6;have z0:=(HBF.out.Am (MK.out.Aq Ij.out) AY).cell 0;have z1:=(HBF.out.Am (MK.out.Aq Ij.out) AY).cell 1;(go_wp2_with fail);have hdu:=AAy (QJ.out.CX Ij.out) HI3.out (by have:=HB.out;omega) K kn kc ks names (HKR.out.Am (MK.out.Aq Ij.out) AY) ‹_›;rw[HB3.out,HP.out.2.2.1] at hdu;refine hdu.mono ?_;clear hdu;rintro e w7 ⟨A7,n7,c7,ds7,rfl,hd7,hv7,qI,_⟩
 have HB7:Hid (n7<=1073741824/\∀x∈ds7,x.1.n<=1073741824):=AQ (by
  obtain⟨h1,_,_,h2⟩:=VA hd7.rd (B:=134217728) (by rw[hv7];exact X4.out)
  exact⟨Ac,λx hx=>by have:=(h2 x hx).1;omega⟩)
 have HD7:=AQ hd7.rd;have HV7:Hid (BG ds7=BG (P5 CE ds)):=AQ (hv7.trans (dK _ _).symm);have Ot:=AQ (Ij.out.Aq qI);clear hd7 hv7 qI;(go_wp2_with fail);refine (Y7 A7 n7 c7 ds7 A4 _ c4 (P5 CE ds) w7 HD7.out (X5.out.GK Ot.out) HB7.out.1 HB7.out.2).mono ?_;rintro e w8 ⟨b,rfl,hb8,hc8⟩;obtain rfl:=hb8 HV7.out;have qR:=AQ (Ot.out.Aq hc8);clear hb8 hc8;(go_wp2_with fail);have hcl:=clean_nil (QJ.out.CX qR.out) HI3.out (by have:=HB.out;omega) (by rw[HP.out.2.2.2]);rw[HB3.out,HP.out.2.2.2] at hcl;refine hcl.mono ?_;clear hcl;rintro e w9 ⟨rfl,G9,hf9,hb9,ADb,U9⟩;have HF9:=AQ hf9;have HB9:Hid (G9.b=G.b):=AQ (hb9.trans HB3.out);have Z5:Hid (AZ G3.all w4' w9):=AQ ((qR.out.nil _).trans U9 λx hx=>.inl hx);clear hf9 hb9 ADb U9;(go_wp2_with fail);have hst:=lU G9.b (S.clean.1.steps:Int) w9 (HF9.out.blk.cell 6);rw[HB9.out] at hst;refine hst.mono ?_;rintro e w9' ⟨rfl,rfl⟩;clear hst;(go_wp2_with fail);have hvw:=Zz HF9.out HI3.out (by have:=HB.out;omega);rw[HB9.out,HP.out.2.1] at hvw;refine hvw.mono ?_;clear hvw;rintro e w10 ⟨A10,n10,c10,AJF,rfl,hd10,AJG,AMV,_⟩
 have oJ:Hid (n10<=1073741824/\∀x∈AJF,x.1.n<=1073741824):=AQ (by
  obtain⟨h1,_,_,h2⟩:=VA hd10.rd (B:=134217728) (by rw[AJG];exact X4.out)
  exact⟨Ac,λx hx=>by have:=(h2 x hx).1;omega⟩)
 have ARg:=AQ hd10.rd;have ARh:Hid (BG AJF=BG (P5 CE ds)):=AQ (AJG.trans (dK _ _).symm);have AMW:Hid (AZ G3.all w4' w10):=AQ (Z5.out.Aq AMV);have Td:Hid (AZ [] W w10):=AQ (MK.out.trans AMW.out λx hx=>.inr (qF.out x hx));clear hd10 AJG AMV;(go_wp2_with fail);refine (Y7 A10 n10 c10 AJF A4 _ c4 (P5 CE ds) w10 ARg.out ((HD.out.GK Td.out).wo (HO4.out.Am AMW.out HA4.out) λd hd=>(I4.1 hd).1) oJ.out.1 oJ.out.2).mono ?_;rintro e w11 ⟨b,rfl,AMX,AMY⟩;obtain rfl:=AMX ARh.out;have ARi:Hid (AZ [] w w11):=AQ ((HC.out.Aq Td.out).Aq AMY);clear AMX AMY;go_wp2;go_ret;exact⟨rfl,ARi.out⟩
end Go.Proofs.YtkkgcebhfghdnaaGreatDoor.Vw
namespace Go.Proofs.YtkkgcebhfghdnaaGreatDoor.lawCleans
open Go Go.RowKit Go.Conc Go.ChangeShapes Go.WideShapes Go.Deep Go.Proofs.YtkkgcebhfghdnaaGreatDoor.Vw
theorem runs(H:Type)(enc:TypeId×Value->H)(W:World)(base:Nat)(args:Array Value)(ds gs:List (DataW H))(before:List MemPlace)(hsh:W.ShapedOpen Tryz.prog)(hl:laidMetH Tryz.prog [("errors.errorType",Rows.laid_errors_errorType)] W)
  (hval: ∀(j:Nat) t v,Tryz.f5.params[j]? =some t->args[j]? =some v->Value.okWide Tryz.prog W .any base t v)
  (hW:DataW.Whole enc Tryz.prog Tryz.f5.params.toList Rows.stagingCleansSpec.vars false W args.toList ds gs before) (hk:Rows.uptoSmall H (ds++gs)=true):
  ∃M last o w' t',runNT Tryz.prog (M+1) (solo (G (Frame.enter Tryz.prog 5 args .normal) []) W) #[]=(.ended o w',t')/\runN Tryz.prog M (solo (G (Frame.enter Tryz.prog 5 args .normal) []) W)=.next last/\
   step Tryz.prog last=.ended o w'/\Conc.Good Tryz.prog (λv W'=>Rows.stagingCleansSpec.post enc Tryz.prog Tryz.f5 false true false false W args v W') last o w' t':=by
 have hW':=hW;obtain⟨p,q,hA0,hV,rfl,hfz,hnd⟩:=hW;have hA:DataW.TrodAll enc Tryz.prog W 0 (λ_=>true) true Tryz.f5.params.toList args.toList ds p:=hA0;rw[Tryz.params5] at hA hval;obtain⟨v0,v1,d0,d1,p0,p1,hargs,rfl,rfl,h0,h1⟩:=trodAll_two hA;obtain⟨rfl,rfl⟩:=trodVars_none hV;have hb:=AAW hk;simp only[EK,Rows.uptoBulkAll] at hb;subst hargs;obtain⟨A,n,c,dsk,BR,rfl,hD,hq,hD2⟩:=ABD (hval 0 _ _ rfl rfl) h0;obtain⟨K,kn,kc,ks,names,rfl,hK,hKr,hK2⟩:=ADE (hval 1 _ _ rfl rfl) h1;have hg:=AFz hl;have hr0:=cells_of_cell hg;have hr1:=AIs hsh
 have hN:2<=W.heap.size:=by
  obtain⟨_,_,_,h⟩:=hr1;exact (BK.1 h).1
 refine ACj (X:=5) (fn:=Tryz.f5) (r:=4) Az (by rfl) Tryz.func5 VF5 rfl Ap (Bs:=Iz W) hN (λb hb=>?_) (λb hb=>hb) ?_ ?_
 ·rcases b with _|_|b;exact hr0;exact hr1;omega
 ·intro w' hsz hbl ht ho hou
  exact AFK AFx hW' rfl rfl Tryz.underlying4 (by
   intro t ht;rw[Tryz.params5] at ht;simp at ht
   rcases ht with rfl|rfl<;>exact⟨Ap,of_decide_eq_true Ap⟩) rfl rfl rfl ⟨ho,ht,hou,hsz,hbl⟩
 intro H ts args' hH hrow hargs t;have hcar:=AOu hrow t;obtain⟨hz,ha⟩:=hargs;obtain⟨v0,v1,rfl⟩:=Go.Joins.array2 (hz.trans rfl);obtain⟨p0,rfl,hz0,ha0⟩:=(ha 0 _ _ rfl rfl).2.AD3;obtain⟨p1,rfl,hz1,ha1⟩:=(ha 1 _ _ rfl rfl).2.AD3;obtain⟨u0,u1,rfl⟩:=Go.Joins.array2 (hz0.trans rfl);obtain⟨u2,u3,rfl⟩:=Go.Joins.array2 (hz1.trans rfl);obtain rfl:=Ua (ha0 1 _ _ rfl rfl) rfl;obtain rfl:=Ua (ha1 1 _ _ rfl rfl) rfl;have hsz:W.heap.size<=(({W with heap:=H}:World).DL t).heap.size:=hH;obtain⟨A',ds',rfl,hD',jG⟩:=AFj hcar hsz hD (ha0 0 _ _ rfl rfl);obtain⟨K',rfl,hK'⟩:=ABE hcar hsz hK hKr (ha1 0 _ _ rfl rfl) (λx hx=>by obtain⟨z,_,rfl⟩:=Ag.1 hx;rfl)
 have hg':QM (({W with heap:=H}:World).DL t):=by
  obtain⟨v,h1,h2⟩:=hcar _ _ hg
  have:v=.iface 199 (.agg #[.pointer (some ⟨1,39,none⟩)]):=h2.wH (.iface (.agg λi x hx=>by
   rcases i with _|i
   ·(obtain rfl:Value.pointer (some ⟨1,39,none⟩)=x:=by simpa using hx);exact .ptr ⟨rfl,hr1⟩
   simp at hx))
  rw[this] at h1;exact h1
 (have hB:Gp (BG ds')<=1048576:=by rw[jG];omega);obtain⟨b1,_,_,b2⟩:=VA hD' hB;refine (AF3 _ hg' A' n c ds' BR K' kn kc ks names hD' Ac Ac (λx hx=>⟨by have:=(b2 x hx).1;omega,λf hf=>by have:=(b2 x hx).2 f hf;omega⟩) hq hK' Ac).mono ?_;rintro e w' ⟨rfl,hc⟩;exact⟨rfl,λa ha=>hc.block a ha AY⟩
theorem lifted(os:Os)(started:os.Started)(H:Type)(enc:TypeId×Value->H)(F:Stop.Interp):
  ReturnsInLeavingWide {} Tryz.checked os 5 .any ((Rows.OpenSpec.upto Rows.stagingCleansSpec).preRow enc Tryz.prog Tryz.f5 Rows.stagingCleansUptoRow.domain false [("errors.errorType",Rows.laid_errors_errorType)]) (((Rows.OpenSpec.upto Rows.stagingCleansSpec).at F).post enc Tryz.prog Tryz.f5 false true false false):=by
 refine iU (C:=Tryz.checked) (s:=Rows.OpenSpec.upto Rows.stagingCleansSpec) (k:=Rows.uptoSmall) rfl AOy started Tryz.func5
  (witness_row (enc:=enc) (C:=Tryz.checked) (os:=os) (s:=Rows.OpenSpec.upto Rows.stagingCleansSpec) (k:=Rows.uptoSmall) rfl (AIt os) #[.agg #[.slice none 0 0,.int .i64 0],.agg #[.slice none 0 0,.int .i64 0]] 8 rfl Ap Ap Ap
   (x:=([.agg [.nil,.lit (.int .i64 0)],.agg [.nil,.lit (.int .i64 0)]],[],[])) Ap rfl Ap Ap (ADO os _)) ?_
 intro W base args ds gs before hsh hl hval hW hk;exact runs H enc W base args ds gs before hsh hl hval hW hk
theorem row:Rows.StagingCleansUptoSaid:=
 Y6 5 Tryz.f5 rfl rfl rfl rfl rfl rfl rfl ⟨rfl,rfl,rfl,rfl,rfl⟩ rfl rfl rfl rfl rfl Ap Tryz.func5 Ap
  (of_decide_eq_true Ap) (by unfold Func.isWrapper;first|(rw[if_neg (of_decide_eq_false Ap)];exact⟨rfl,rfl⟩)|(rw[if_pos (of_decide_eq_true Ap)];kernel_rfl))
  (λos started H enc _ F=>lifted os started H enc F)
theorem proved:Rows.StagingCleansUptoCardSaid:=
 ADP .later [.handle] true (true, "503188990b06714f748bd170a98f75a159cee04e3487e84f51127a3c43b34e91") true row Ap stagingCleansUpto_row_tie rfl ⟨rfl,rfl⟩ Ap rfl
  (λf fn hf hfn=>by
   obtain rfl:f=5:=BQ ((show Tryz.prog.funcNamed "satchel/satchellaw28.StagingCleans" =some 5 by kernel_rfl).symm.trans hf) |>.symm;obtain rfl:fn=Tryz.f5:=(BQ (Tryz.func5.symm.trans hfn)).symm
   exact⟨Ap,λj t ht=>by
    rw[Tryz.params5] at ht;rcases j with _|_|j
    ·(obtain rfl:24=t:=by simpa using ht);kernel_rfl
    ·(obtain rfl:30=t:=by simpa using ht);kernel_rfl
    simp at ht⟩)
  Ap
end Go.Proofs.YtkkgcebhfghdnaaGreatDoor.lawCleans
