/- Part 28 of what that rests on; no condition. -/
import Derived.Test.YtkkgcebhfghdnaaGreatDoorJA
set_option maxRecDepth 100000
set_option maxHeartbeats 8000000
open List renaming flatten_cons→JK, cons_append→Dj, nil_append→Dy, sum_cons→Bo, range→FZ
open Prod renaming fst→Aa
open Option renaming none→AB, some→AA
namespace Go.Proofs.YtkkgcebhfghdnaaGreatDoor.Vw
open Go Go.RowKit
section
variable {D:GH}{q:Int}{S:St}{T:Tr}{α:Type}
theorem Oi(k:ByteArray)(v:α)(t:List (ByteArray×α)):without (Dx k v t) k=without t k:=by
 induction t with
 |nil=>simp[Dx,without]|cons p r ih=>
  rw[Dx];split;rw[FT,BZ rfl];rw[FT,FT,ih]
theorem RP(k:ByteArray)(t:List (ByteArray×α)):without (without t k) k=without t k:=Jv (Jk k)
def ED.AGO:ED->Prop
 | .CX d=>d=BO| .create d _ _=>d=BO| .rename _ _=>False| .remove d _=>d=BO| .rmdir d=>d=BO
theorem ED.AK9{c:ED}(h:c.AGO):without (c.on T) BO=without T BO:=by
 cases c with|rename a b=>exact h.elim|CX d=>subst h;exact Oi _ _ _|create d n i=>subst h;exact (Oi _ _ _).trans (RP _ _)|remove d n=>subst h;exact (Oi _ _ _).trans (RP _ _)|rmdir d=>subst h;exact RP _ _
theorem gU: ∀{cs:List ED} {T:Tr},(∀c∈cs,c.AGO)->without (II T cs) BO=without T BO
 | [],T,h=>rfl|c::r,T,h=>(gU (cs:=r) (T:=c.on T) λx hx=>h x (CO _ hx)).trans (ED.AK9 (h c (D9 ..)))
structure Kept (U:Tr) (M:Nat) (f0:Nat->List Int) (S:St):Prop where
 safe:without S.safe BO=U
 D6: ∀c∈S.D6,c.AGO
 run:II S.safe S.D6=S.seen
 len:M<=S.files.length
 ids: ∀p∈U,∀q∈p.2,q.2<M
 Ed: ∀i<M,S.files.getD i ([],[])=(f0 i,[])
variable {U:Tr} {M:Nat} {f0:Nat->List Int} {S:St}
theorem Kept.seen(h:Kept U M f0 S):without S.seen BO=U:=by rw[<- h.run,gU h.D6,h.safe]
theorem Xt(T:Tr)(g:Nat->List Int)(nm:ByteArray):Ox nm (T.map λp=>(p.1,p.2.map λq=>(q.1,g q.2)))=(without T nm).map λp=>(p.1,p.2.map λq=>(q.1,g q.2)):=by
 unfold Ox without;rw[xe];congr 1;apply kJ;intro p _;simp
theorem YV{g g':Nat->List Int}(h: ∀p∈T,∀q∈p.2,g q.2=g' q.2):(T.map λp=>(p.1,p.2.map λq=>(q.1,g q.2)))=T.map λp=>(p.1,p.2.map λq=>(q.1,g' q.2)):=by
 apply He;intro p hp;congr 1;apply He;intro q hq;exact congrArg _ (h p hp q hq)
theorem Kept.bytes(h:Kept U M f0 S){i:Nat}(hi:i<M):S.bytes i=f0 i:=by
 unfold St.bytes;rw[h.Ed i hi];simp[EX.all]
theorem Kept.left(h:Kept U M f0 S)(ks:List Bool)(names:Int):Ox BO (S.left ks names)=U.map λp=>(p.1,p.2.map λq=>(q.1,f0 q.2)):=by
 unfold St.left;rw[Xt,gU (λc hc=>h.D6 c (AFM hc)),h.safe];apply YV;intro p hp q hq;have hi:=h.ids p hp q hq;rw[bu (by rw[h.Ed _ hi]),h.bytes hi]
theorem Kept.view(h:Kept U M f0 S)(hd:S.down=false):Ox BO S.view=U.map λp=>(p.1,p.2.map λq=>(q.1,f0 q.2)):=by
 rw[bn hd,Xt,h.seen];exact YV λp hp q hq=>h.bytes (h.ids p hp q hq)
theorem Kept.make(h:Kept U M f0 S){c:ED}(hc:c.AGO):Kept U M f0 (S.make c):=by
 refine⟨h.safe,λx hx=>?_,?_,h.len,h.ids,h.Ed⟩
 ·rcases Be.1 hx with hx|hx;exact h.D6 x hx;rw[CG.1 hx];exact hc
 show II S.safe (S.D6++[c])=c.on S.seen;rw[SN,h.run]
theorem Kept.remove(h:Kept U M f0 S)(n:ByteArray):Kept U M f0 (S.remove BO n).1:=by
 unfold St.remove;split;exact h;exact h.make rfl
theorem Kept.rmdir(h:Kept U M f0 S):Kept U M f0 (S.rmdir BO).1:=by
 unfold St.rmdir;split;exact h;split;exact h;exact h.make rfl
theorem Kept.names(h:Kept U M f0 S):Kept U M f0 S.names.1:=by
 unfold St.names;split;exact h;exact⟨h.seen,λc hc=>(BC hc).elim,rfl,h.len,h.ids,h.Ed⟩
theorem Kept.EJ(h:Kept U M f0 S): ∀l:List ByteArray,Kept U M f0 (St.EJ BO S l).1:=by
 intro l
 induction l generalizing S with
 |nil=>exact h|cons n r ih=>
  unfold St.EJ;split;exact ih (h.remove n);exact h.remove n
theorem Kept.clean(h:Kept U M f0 S):Kept U M f0 S.clean.1:=by
 unfold St.clean St.Lj;split
 ·split
  ·split
   ·split
    ·split;exact (h.EJ _).rmdir.names;exact (h.EJ _).rmdir
    exact h.EJ _
   exact h
  exact h
 exact h
structure GL (S S':St):Prop where
 files:S'.files=S.files
 wr:S'.wr=S.wr
 BI:S'.BI=S.BI
 stop:S'.stop=S.stop
theorem GL.refl(S:St):GL S S:=⟨rfl,rfl,rfl,rfl⟩
theorem GL.trans{S S1 S2:St}(h:GL S S1)(k:GL S1 S2):GL S S2:=⟨k.1.trans h.1,k.2.trans h.2,k.3.trans h.3,k.4.trans h.4⟩
theorem GL.remove(S:St)(d n:ByteArray):GL S (S.remove d n).1:=by
 unfold St.remove;split<;>exact⟨rfl,rfl,rfl,rfl⟩
theorem GL.rmdir(S:St)(d:ByteArray):GL S (S.rmdir d).1:=by
 unfold St.rmdir;split;exact .refl S;split<;>exact⟨rfl,rfl,rfl,rfl⟩
theorem GL.names(S:St):GL S S.names.1:=by
 unfold St.names;split<;>exact⟨rfl,rfl,rfl,rfl⟩
theorem GL.EJ(d:ByteArray): ∀(l:List ByteArray) (S:St),GL S (St.EJ d S l).1
 | [],S=>.refl S
 |n::r,S=>by
  unfold St.EJ;split;exact (GL.remove S d n).trans (GL.EJ d r _);exact GL.remove S d n
theorem GL.clean(S:St):GL S S.clean.1:=by
 unfold St.clean St.Lj;split
 ·split
  ·split
   ·split
    ·split;exact ((GL.EJ _ _ _).trans (GL.rmdir _ _)).trans (GL.names _);exact (GL.EJ _ _ _).trans (GL.rmdir _ _)
    exact GL.EJ _ _ _
   exact .refl S
  exact .refl S
 exact .refl S
theorem gV{s:ByteArray}:(idx s (T.map Aa)).isSome=(BH T s).isSome:=by
 rw[ACc];by_cases h:s∈T.map Aa;rw[IC.2 h];simpa using h;rw[En.2 h];simpa using h
theorem AC0{d:ByteArray}(h:(S.rmdir d).2=0):BH (S.rmdir d).1.seen d=AB:=by
 unfold St.rmdir at h⊢;split
 ·rename_i h0;rw[BZ h0] at h;exact Ai h h0
 rename_i h0;rw[BM h0] at h;split
 ·rename_i h1;rw[BZ h1] at h;cases h
 exact En.2 (Jk d)
theorem Xu(h:S.clean.2=0):BH S.clean.1.seen BO=AB:=by
 unfold St.clean St.Lj at h⊢;split
 ·rename_i h0;rw[BZ h0] at h;split
  ·rename_i h1;rw[BZ h1] at h;split
   ·rename_i h2;rw[BZ h2] at h;split
    ·rename_i h3;rw[BZ h3] at h;split
     ·rename_i h4;rw[BZ h4] at h;have:=AC0 h4;unfold St.names;split<;>exact this
     rename_i h4;rw[BM h4] at h;exact Ai h h4
    rename_i h3;rw[BM h3] at h;exact Ai h h3
   rename_i h2;rw[BM h2] at h;exact Ai h h2
  rename_i h1;unfold St.MG at h0 h1;split at h0;(cases h0);rename_i hd;rw[BM hd,gV] at h1;simpa using h1
 rename_i h0;rw[BM h0] at h;exact Ai h h0
def Quiet (S:St):Prop:=S.safe=S.seen/\S.D6=[]
theorem AAY(h:S.names.2=0):Quiet S.names.1:=by
 unfold St.names at h⊢;split
 ·rename_i h0;rw[BZ h0] at h;cases h
 exact⟨rfl,rfl⟩
theorem wo: ∀(l:List ByteArray) {S:St} {F:Jl},S.stop<0->BH S.seen BO=AA F->(F.map Aa).Nodup->l.Nodup->(∀n,n∈l↔n∈F.map Aa)->(∀q∈F,CS q.1=true)->
  (St.EJ BO S l).2=0/\BH (St.EJ BO S l).1.seen BO=AA []
 | [],S,F,hs,hF,h1,h2,h3,h4=>by
  cases F with|nil=>exact⟨rfl,hF⟩|cons q r=>exact Ai ((h3 q.1).2 AV) AV
 |n::r,S,F,hs,hF,h1,h2,h3,h4=>by
  obtain⟨hn,hr⟩:=Ii.1 h2;have hm:=(h3 n).1 (D9 ..);obtain⟨q,hq,mg⟩:=Bz.1 hm;(have hg:CS n=true:=by rw[<- mg];exact h4 q hq);have hag:BH F n=AA q.2:=by rw[<- mg];exact LG h1 hq
  have hf:S.Oa BO n=(AA q.2,0):=by
   unfold St.Oa;rw[YQ (Ns hs) (by simp[hg,show CS BO=true by kernel_rfl]) hF,BM AV,Ez hF,hag]
  have he:S.remove BO n=(S.make (.remove BO n),0):=by
   unfold St.remove;rw[hf]
  unfold St.EJ;rw[he,BZ rfl];refine wo r (F:=without F n) (S:=S.make (.remove BO n)) hs ?_ ?_ hr ?_ ?_
  ·show BH (Dx BO (without (Ey S.seen BO) n) (without S.seen BO)) BO=_;rw[SS,BZ rfl,Ez hF]
  exact h1.sublist (List.filter_sublist.map _)
  ·intro m;constructor
   ·intro hm;obtain⟨p,hp,rfl⟩:=Bz.1 ((h3 m).1 (CO _ hm));exact Bz.2 ⟨p,Ff.2 ⟨hp,λe=>hn (by rw[<- e];exact hm)⟩,rfl⟩
   intro hm;obtain⟨p,hp,rfl⟩:=Bz.1 hm;obtain⟨hp,hne⟩:=Ff.1 hp;rcases BB.1 ((h3 p.1).2 (Bz.2 ⟨p,hp,rfl⟩)) with h|h;exact Ai h hne;exact h
  exact λp hp=>h4 p (Ff.1 hp).1
theorem Rj:CS BO=true:=by kernel_rfl
theorem jP{B:Nat}(hs:S.stop<0)(hi:Inv B S):S.clean.2=0:=by
 have hd:=Ns hs;(have hds:S.MG=(S.seen.map Aa,0):=by unfold St.MG;rw[BM (by simp[hd])]);unfold St.clean;rw[hds,BZ rfl,gV];split
 ·rename_i h1;obtain⟨F,hF⟩:=AFH.1 h1
  have hl:S.list BO=(F.map Aa,0):=by
   unfold St.list;rw[YQ hd (by simp[Rj]) hF,BM AV,Ez hF]
  rw[hl,BZ rfl];have hv:=hi.val.Xa BO;rw[Ez hF] at hv;obtain⟨k1,k2⟩:=wo (F.map Aa) hs hF hv.1.nodup hv.1.nodup (λ_=>lS) hv.2.2;unfold St.Lj;rw[BZ k1];have hs1:(St.EJ BO S (F.map Aa)).1.stop<0:=by rw[(GL.EJ BO _ S).stop];exact hs
  have hr:(St.rmdir (St.EJ BO S (F.map Aa)).1 BO).2=0:=by
   unfold St.rmdir;rw[YQ (Ns hs1) (by simp[Rj]) k2,BM AV,Ez k2,BM AV]
  rw[BZ hr];unfold St.names;rw[BM];rw[Ns (by rw[(GL.rmdir _ _).stop];exact hs1)];simp
 rfl
theorem Kept.open_{s:Int}(h:Dn D q=0):Kept (without (GV 0 D) BO) (Gm D) (λi=>(dat D).getD i []) (Ea D q s):=by
 refine⟨rfl,λc hc=>(BC hc).elim,rfl,by simp[Ea,SX],λp hp q hq=>?_,λi hi=>?_⟩
 ·have:=YM p (Ff.1 hp).1 q hq;omega
 have hl:i<(dat D).length:=by
  have:=SX D;rw[ACY,DZ] at this;omega
 rw[open_bytes (CQ hl)];simp[GY,hl]
theorem AHj(h:Dn D q=0):((without (GV 0 D) BO).map λp=>(p.1,p.2.map λq=>(q.1,(λi=>(dat D).getD i []) q.2)))=Ox BO D:=by
 refine (Xt (GV 0 D) (λi=>(dat D).getD i []) BO).symm.trans ?_;congr 1;exact AHQ (λi=>(dat D).getD i []) λk x hk=>by simp[GY,hk]
theorem rJ(nm:ByteArray)(D:GH):Eb (Ox nm D)<=Eb D:=by
 unfold Eb Ox
 induction D with
 |nil=>simp|cons d r ih=>
  rw[Wh];split;simp only[BK,Bo] at ih⊢;omega;simp only[BK,Bo] at ih⊢;omega
end
section
variable {F:Jl}{T:Tr}{α β:Type}
abbrev Nb:=List (ByteArray×List Int)
def Tn (fs:Nb):Nb:=fs.foldl (λa x=>Dx x.1 x.2 a) []
theorem AE7(fs:Nb)(x:ByteArray×List Int):Tn (fs++[x])=Dx x.1 x.2 (Tn fs):=by unfold Tn;rw[List.foldl_append];rfl
theorem rM(fs:Nb):(Tn fs).Perm fs:=by
 have h: ∀(fs a:Nb),(fs.foldl (λa x=>Dx x.1 x.2 a) a).Perm (a++fs):=by
  intro fs
  induction fs with
  |nil=>intro a;simp
  |cons x r ih=>
   intro a;refine (ih _).trans (((G8 x.1 x.2 a).append_right r).trans ?_);exact List.perm_middle.symm
 have:=h fs [];rw[Dy] at this;exact this
theorem Zp(g:α->β)(n:ByteArray)(i:α)(F:List (ByteArray×α)):(Dx n i F).map (λq=>(q.1,g q.2))=Dx n (g i) (F.map λq=>(q.1,g q.2)):=by
 induction F with
 |nil=>rfl|cons p r ih=>
  rw[Dx,BK,Dx];by_cases h:UN n p.1=true;rw[BZ h,BZ h];rfl;rw[BM h,BM h,BK,ih]
theorem AAZ(g:α->β)(n:ByteArray)(F:List (ByteArray×α)):(without F n).map (λq=>(q.1,g q.2))=without (F.map λq=>(q.1,g q.2)) n:=by
 induction F with
 |nil=>rfl|cons p r ih=>
  rw[FT,BK,FT];by_cases h:p.1=n;rw[BZ h,BZ h,ih];rw[BM h,BM h,BK,ih]
theorem Vo(nm:ByteArray)(D:GH):Ox nm D=without D nm:=by
 unfold Ox without;congr 1;funext d;simp
def Qu (D:GH) (dst:ByteArray) (fs:Nb):GH:=Dx dst (Tn fs) (Ox dst D)
theorem AHk(D:GH)(dst:ByteArray)(fs:Nb):Qu (Qu D dst fs) dst fs=Qu D dst fs:=by
 unfold Qu;rw[Vo dst (Dx _ _ _),Oi,Vo,RP]
section
variable (U:Tr) (M:Nat) (f0:Nat->List Int) (s q:Int)
structure Kq (S:St):Prop where
 kept:Kept U M f0 S
 stop:S.stop=s
 BI:S.BI=q
 nd:(S.seen.map Aa).Nodup
def Kx (S:St):Prop:=Kq U M f0 s q S/\(s<0->(BH S.seen BO).isSome=true)
structure Mid (pre:Nb) (S:St):Prop where
 kq:Kq U M f0 s q S
 nd:(pre.map Aa).Nodup
 Xa: ∃F,BH S.seen BO=AA F/\(∀x∈F,M<=x.2/\x.2<S.files.length)/\F.map (λx=>(x.1,S.files.getD x.2 ([],[])))=(Tn pre).map λx=>(x.1,(x.2,[]))
structure Tq (pre:Nb) (n:ByteArray) (Ed:EX) (S:St):Prop where
 kq:Kq U M f0 s q S
 good:CS n=true
 nd:(pre.map Aa).Nodup
 new:n∉pre.map Aa
 Xa: ∃F i,BH S.seen BO=AA (Dx n i F)/\n∉F.map Aa/\M<=i/\i<S.files.length/\S.files.getD i ([],[])=Ed/\(∀x∈F,M<=x.2/\x.2<i)/\F.map (λx=>(x.1,S.files.getD x.2 ([],[])))=(Tn pre).map λx=>(x.1,(x.2,[]))
end
section
variable {U:Tr} {M:Nat} {f0:Nat->List Int} {s q:Int} {S:St} {pre:Nb} {n:ByteArray} {Ed:EX}
theorem Kq.up(h:Kq U M f0 s q S)(hs:s<0):S.down=false:=Ns (by rw[h.stop];exact hs)
theorem Kq.modify(h:Kq U M f0 s q S){x:Nat}(hx:M<=x)(φ:EX->EX)(wr':List Nat)(st:Nat):Kq U M f0 s q {S with files:=S.files.modify x φ,wr:=wr',steps:=st}:=
 ⟨⟨h.kept.safe,h.kept.D6,h.kept.run,by simpa using h.kept.len,h.kept.ids,λi hi=>by
  show (S.files.modify x φ).getD i ([],[])=_
  rw[getD_modify,BM Ad];exact h.kept.Ed i hi⟩,h.stop,h.BI,h.nd⟩
def Oj (pre:Nb) (n:ByteArray):Int:=if CS n=false then 81 else if (BH pre n).isSome=true then 83 else 0
theorem ALA(h:(T.map Aa).Nodup)(d:ByteArray)(F:Jl):((Dx d F (without T d)).map Aa).Nodup:=by
 refine (((G8 d F (without T d)).map Aa).nodup_iff).2 ?_;exact Ii.2 ⟨Jk d,h.sublist (List.filter_sublist.map _)⟩
theorem rO(h:F.map (λx=>(x.1,S.files.getD x.2 ([],[])))=(Tn pre).map λx=>(x.1,(x.2,([]:List (List Int)))))(n:ByteArray):n∈F.map Aa↔n∈pre.map Aa:=by
 have h1:=congrArg (List.map Aa) h;rw[Eg,Eg] at h1;have h2:F.map Aa=(Tn pre).map Aa:=h1;rw[h2];exact ((rM pre).map _).mem_iff
theorem Mid.create(h:Mid U M f0 s q pre S)(n:ByteArray):
  (((S.create BO n).2=0/\Tq U M f0 s q pre n ([],[]) (S.create BO n).1)\/((S.create BO n).2≠0/\Kx U M f0 s q (S.create BO n).1))/\(s<0->(S.create BO n).2=Oj pre n):=by
 obtain⟨F,hF,hid,hm⟩:=h.Xa;unfold St.create
 cases hd:S.down with
 |true=>
  rw[YO hd,BZ Ar];exact⟨.inr ⟨AV,h.kq,λ_=>by rw[hF];rfl⟩,λhs=>by rw[h.kq.up hs] at hd;cases hd⟩
 |false=>
  cases hg:CS n with
  |false=>
   (have ha:S.ask true [BO,n]=81:=by unfold St.ask;rw[BM (by simp[hd]),BZ (by simp[hg])]);rw[ha,BZ Ar];exact⟨.inr ⟨AV,h.kq,λ_=>by rw[hF];rfl⟩,λ_=>by unfold Oj;rw[BZ hg]⟩
  |true=>
   rw[YQ hd (by simp[hg,Rj]) hF,BM AV,Ez hF];by_cases hn:n∈pre.map Aa
   ·rw[BZ (IC.2 ((rO hm n).2 hn))];exact⟨.inr ⟨AV,h.kq,λ_=>by rw[hF];rfl⟩,λ_=>by unfold Oj;rw[BM (by simp[hg]),BZ (IC.2 hn)]⟩
   have hnF:n∉F.map Aa:=λe=>hn ((rO hm n).1 e);rw[BM (λe=>hnF (IC.1 e))];refine⟨.inl ⟨rfl,?_,hg,h.nd,hn,F,S.files.length,?_,hnF,h.kq.kept.len,?_,?_,hid,?_⟩,λ_=>by unfold Oj;rw[BM (by simp[hg]),BM λe=>hn (IC.1 e)]⟩
   ·refine⟨Kept.make (S:={S with files:=S.files++[([],[])]}) ⟨h.kq.kept.safe,h.kq.kept.D6,h.kq.kept.run,?_,h.kq.kept.ids,λi hi=>?_⟩ rfl,h.kq.stop,h.kq.BI,ALA h.kq.nd _ _⟩
    ·show M<=(S.files++[([],[])]).length;rw[Ig];have:=h.kq.kept.len;omega
    show (S.files++[([],[])]).getD i ([],[])=_;rw[Zj];exact h.kq.kept.Ed i hi
   ·show BH (Dx BO (Dx n S.files.length (Ey S.seen BO)) (without S.seen BO)) BO=_;rw[SS,BZ rfl,Ez hF]
   ·show S.files.length<(S.files++[([],[])]).length;simp
   ·show (S.files++[([],[])]).getD S.files.length ([],[])=_;rw[Zj,GY,H8 (Ba _)];rfl
   rw[<- hm];apply He;intro x hx;show (x.1,(S.files++[([],[])]).getD x.2 ([],[]))=_;rw[Zj]
theorem Tq.Oa(h:Tq U M f0 s q pre n Ed S): ∃F i,BH S.seen BO=AA (Dx n i F)/\n∉F.map Aa/\M<=i/\i<S.files.length/\S.files.getD i ([],[])=Ed/\(∀x∈F,M<=x.2/\x.2<i)/\F.map (λx=>(x.1,S.files.getD x.2 ([],[])))=(Tn pre).map (λx=>(x.1,(x.2,[])))/\S.Oa BO n=if S.down=true then (AB,80) else (AA i,0):=by
 obtain⟨F,i,hF,hn,h1,h2,h3,h4,h5⟩:=h.Xa;refine⟨F,i,hF,hn,h1,h2,h3,h4,h5,?_⟩;unfold St.Oa
 cases hd:S.down with
 |true=>rw[YO hd,BZ Ar,BZ rfl]|false=>
  rw[YQ hd (by simp[h.good,Rj]) hF,BM AV,Ez hF,QS hn,BZ rfl,BM AV]
theorem jQ{i:Nat}(h4: ∀x∈F,M<=x.2/\x.2<i)(fs:List EX)(φ:EX->EX):F.map (λx=>(x.1,(fs.modify i φ).getD x.2 ([],[])))=F.map λx=>(x.1,fs.getD x.2 ([],[])):=by
 apply He;intro x hx;rw[getD_modify,BM (by have:=(h4 x hx).2;omega)]
def u0 (U:Tr) (f0:Nat->List Int):Nat:=bytesOf (U.map λp=>(p.1,p.2.map λx=>(x.1,f0 x.2)))
theorem AHl(f:Nat->Nat)(h:(T.map Aa).Nodup){d:ByteArray}(hF:BH T d=AA F):Wt f T=Wf f F+Wt f (without T d):=by
 induction T with
 |nil=>cases hF|cons p r ih=>
  obtain⟨h1,h2⟩:=Ii.1 h;rw[FC] at hF;rw[FT];by_cases he:p.1=d
  ·rw[BZ he] at hF;rw[BZ he,Jv (by rw[<- he];exact h1)];injection hF with hF;subst hF;rfl
  rw[BM he] at hF;rw[BM he];have:=ih h2 hF;simp only[Wt,BK,Bo] at this⊢;omega
theorem Kq.used(h:Kq U M f0 s q S)(hs:s<0){F:Jl}(hF:BH S.seen BO=AA F):S.used=u0 U f0+Wf (qF S) F:=by
 rw[AKX (h.up hs)];unfold St.tot;rw[AHl _ h.nd hF,h.kept.seen,lM];congr 1;unfold u0 bytesOf Wt Wf;rw[Eg];congr 1;apply He;intro p hp;simp only[Function.comp_apply,Eg];congr 1;apply He;intro x hx;exact congrArg List.length (h.kept.bytes (h.kept.ids p hp x hx))
theorem AC1(h:F.map (λx=>(x.1,S.files.getD x.2 ([],[])))=(Tn pre).map λx=>(x.1,(x.2,([]:List (List Int))))):Wf (qF S) F=FP pre:=by
 have h1:=congrArg (List.map λz:ByteArray×EX=>z.2.all.length) h;rw[Eg,Eg] at h1
 have h2:F.map (λx=>qF S x.2)=(Tn pre).map λx=>x.2.length:=by
  refine Eq.trans h1 (He λx _=>?_);simp[EX.all]
 unfold Wf;rw[h2];exact ((rM pre).map _).sum_nat
theorem Tq.used(h:Tq U M f0 s q pre n Ed S)(hs:s<0):S.used=u0 U f0+(FP pre+Ed.all.length):=by
 obtain⟨F,i,hF,hn,h1,h2,h3,h4,h5⟩:=h.Xa;rw[h.kq.used hs hF,wH,AC1 h5];(have:qF S i=Ed.all.length:=by unfold qF St.bytes;rw[h3]);omega
theorem Tq.write(h:Tq U M f0 s q pre n Ed S){xs:List Int}(hx:xs≠[]):
  (((S.write BO n xs).2=0/\Tq U M f0 s q pre n (Ed.1,Ed.2++[xs]) (S.write BO n xs).1)\/((S.write BO n xs).2≠0/\Kx U M f0 s q (S.write BO n xs).1))/\
   (s<0->(S.write BO n xs).2=if q<(u0 U f0+(FP pre+Ed.all.length):Nat)+xs.length then 85 else 0):=by
 obtain⟨F,i,hF,hn,h1,h2,h3,h4,h5,hf⟩:=h.Oa;unfold St.write
 cases hd:S.down with
 |true=>
  rw[hf,BZ hd];exact⟨.inr ⟨AV,h.kq,λ_=>by rw[hF];rfl⟩,λhs=>by rw[h.kq.up hs] at hd;cases hd⟩
 |false=>
  rw[hf,BM (by simp[hd])];simp only;rw[BM hx];refine⟨?_,λhs=>?_⟩
  ·split;exact .inr ⟨AV,h.kq,λ_=>by rw[hF];rfl⟩;refine .inl ⟨rfl,h.kq.modify h1 _ _ _,h.good,h.nd,h.new,F,i,hF,hn,h1,by simpa using h2,?_,h4,?_⟩
   ·show (S.files.modify i _).getD i ([],[])=_;rw[getD_modify,BZ ⟨rfl,h2⟩,h3]
   exact (jQ h4 _ _).trans h5
  rw[<- h.used hs,<- h.kq.BI];split<;>rfl
theorem Tq.puts: ∀(C:List (List Int)) {Ed:EX} {S:St},(∀p∈C,p≠[])->Tq U M f0 s q pre n Ed S->
  (((S.puts n C).2=0/\Tq U M f0 s q pre n (Ed.1,Ed.2++C) (S.puts n C).1)\/((S.puts n C).2≠0/\Kx U M f0 s q (S.puts n C).1))/\
   (s<0->(S.puts n C).2=if C≠[]/\q<(u0 U f0+(FP pre+Ed.all.length):Nat)+C.flatten.length then 85 else 0)
 | [],Ed,S,_,h=>⟨.inl ⟨rfl,by simpa[St.puts] using h⟩,λ_=>by simp[St.puts]⟩
 |x::r,Ed,S,hC,h=>by
  obtain⟨k1,k2⟩:=h.write (hC x (D9 ..));unfold St.puts;rcases k1 with ⟨e1,hm⟩|⟨e1,hk⟩
  ·obtain⟨j1,j2⟩:=Tq.puts r (λp hp=>hC p (CO _ hp)) hm;rw[BZ e1];rw[KC] at j1;refine⟨j1,λhs=>?_⟩;rw[j2 hs];have k3:=(k2 hs).symm.trans e1;(have hq: ¬q<(u0 U f0+(FP pre+Ed.all.length):Nat)+x.length:=λe=>by rw[BZ e] at k3;cases k3);(have hal:(EX.all (Ed.1,Ed.2++[x])).length=Ed.all.length+x.length:=by simp[EX.all];omega);rw[hal,JK,Ig];by_cases hr:r=[]
   ·subst hr;rw[BM AV,BM];simp only[List.flatten_nil,List.length_nil];omega
   by_cases hz:q<(u0 U f0+(FP pre+(Ed.all.length+x.length)):Nat)+r.flatten.length;rw[BZ ⟨hr,hz⟩,BZ ⟨AV,Ad⟩];rw[BM (λe=>hz e.2),BM (λe=>hz Ad)]
  rw[BM e1];refine⟨.inr ⟨e1,hk⟩,λhs=>?_⟩;have k3:=k2 hs;rw[k3] at e1⊢;by_cases hz:q<(u0 U f0+(FP pre+Ed.all.length):Nat)+x.length;rw[BZ hz,BZ ⟨AV,by rw[JK,Ig];omega⟩];rw[BM hz] at e1;exact Ai rfl e1
theorem Tq.sync(h:Tq U M f0 s q pre n Ed S):
  (((S.sync BO n).2=0/\Mid U M f0 s q (pre++[(n,Ed.all)]) (S.sync BO n).1)\/((S.sync BO n).2≠0/\Kx U M f0 s q (S.sync BO n).1))/\(s<0->(S.sync BO n).2=0):=by
 obtain⟨F,i,hF,hn,h1,h2,h3,h4,h5,hf⟩:=h.Oa;unfold St.sync
 cases hd:S.down with
 |true=>
  rw[hf,BZ hd];exact⟨.inr ⟨AV,h.kq,λ_=>by rw[hF];rfl⟩,λhs=>by rw[h.kq.up hs] at hd;cases hd⟩
 |false=>
  rw[hf,BM (by simp[hd])];refine⟨.inl ⟨rfl,h.kq.modify h1 _ _ _,?_,Dx n i F,hF,λx hx=>?_,?_⟩,λ_=>rfl⟩
  ·rw[Em];exact (List.perm_append_singleton n (pre.map Aa)).nodup_iff.2 (Ii.2 ⟨h.new,h.nd⟩)
  ·show M<=x.2/\x.2<(S.files.modify i _).length;rw[List.length_modify];rcases NU.1 hx with rfl|hx;exact⟨h1,h2⟩;have:=h4 x hx;omega
  show (Dx n i F).map (λx=>(x.1,(S.files.modify i (λf=>(EX.all f,[]))).getD x.2 ([],[])))=_;rw[Zp (λj=>(S.files.modify i (λf=>(EX.all f,[]))).getD j ([],[])),AE7,Zp (λd=>(d,[])),jQ h4,h5,getD_modify,BZ ⟨rfl,h2⟩,h3]
def Vp (q:Int) (u:Nat) (i:Nat) (pre:Nb):Nb->List J8
 | []=>[]|f::r=>if Oj pre f.1≠0 then [⟨{data:=#[99,114,101,97,116,101]},i,Oj pre f.1⟩] else if f.2≠[]/\q<(u:Int)+FP (pre++[f]) then [⟨{data:=#[119,114,105,116,101]},i,85⟩] else Vp q u (i+1) (pre++[f]) r
theorem Xv(q:Int)(u i:Nat)(pre:Nb)(f:ByteArray×List Int)(r:Nb):Vp q u i pre (f::r)=if Oj pre f.1≠0 then [⟨{data:=#[99,114,101,97,116,101]},i,Oj pre f.1⟩] else if f.2≠[]/\q<(u:Int)+FP (pre++[f]) then [⟨{data:=#[119,114,105,116,101]},i,85⟩] else Vp q u (i+1) (pre++[f]) r:=rfl
theorem ALB{xs:List Int}:Vg xs=[]↔xs=[]:=by
 constructor
 ·intro h;have:=Zl 511 _ xs rfl;rw[show KO 511 xs=[] from h] at this;exact this.symm
 rintro rfl;exact U3 511
theorem wu(xs:List Int):(Vg xs).flatten=xs:=Zl 511 _ xs rfl
theorem Mid.files: ∀(fs:Nb) (i:Nat) {pre:Nb} {S:St},Mid U M f0 s q pre S->
  (((S.runT (Gv i fs)).2=[]/\Mid U M f0 s q (pre++fs) (S.runT (Gv i fs)).1)\/((S.runT (Gv i fs)).2≠[]/\Kx U M f0 s q (S.runT (Gv i fs)).1))/\(s<0->(S.runT (Gv i fs)).2=Vp q (u0 U f0) i pre fs)
 | [],i,pre,S,h=>⟨.inl ⟨rfl,by rw[LM];exact h⟩,λ_=>rfl⟩
 |f::r,i,pre,S,h=>by
  have e0:Gv i (f::r)=⟨{data:=#[99,114,101,97,116,101]},i,.create f.1⟩::⟨{data:=#[119,114,105,116,101]},i,.write f.1 f.2⟩::⟨{data:=#[115,121,110,99]},i,.sync f.1⟩::Gv (i+1) r:=rfl;rw[e0];obtain⟨k1,k2⟩:=h.create f.1;have a1:S.act (.create f.1)=S.create BO f.1:=rfl;rcases k1 with ⟨e1,hm⟩|⟨e1,hk⟩
  ·rw[FX (by rw[a1];exact e1),a1];generalize (S.create BO f.1).1=S1 at hm;obtain⟨j1,j2⟩:=hm.puts (Vg f.2) (λp hp e=>by have:=(wK 511 _ f.2 rfl p hp).1;rw[e] at this;simp at this);have a2:S1.act (.write f.1 f.2)=S1.puts f.1 (Vg f.2):=rfl
   have hw:s<0->(S1.puts f.1 (Vg f.2)).2=if f.2≠[]/\q<(u0 U f0:Int)+FP (pre++[f]) then 85 else 0:=λhs=>by
    rw[j2 hs,wu,AAL];(have hz:(q<(u0 U f0+(FP pre+(EX.all ([],[])).length):Nat)+(f.2.length:Int))↔q<(u0 U f0:Int)+(FP pre+f.2.length:Nat):=by simp[EX.all];omega);simp only[ne_eq,ALB,hz]
   have hd0:s<0->Oj pre f.1=0:=λhs=>(k2 hs).symm.trans e1;rcases j1 with ⟨e2,hm2⟩|⟨e2,hk2⟩
   ·rw[FX (by rw[a2];exact e2),a2];generalize (S1.puts f.1 (Vg f.2)).1=S2 at hm2;obtain⟨l1,l2⟩:=hm2.sync;have a3:S2.act (.sync f.1)=S2.sync BO f.1:=rfl;rcases l1 with ⟨e3,hm3⟩|⟨e3,hk3⟩
    ·rw[FX (by rw[a3];exact e3),a3];(have hfa:(f.1,EX.all (([]:List Int),([]:List (List Int))++Vg f.2))=f:=by simp[EX.all,wu]);simp only[hfa] at hm3;obtain⟨m1,m2⟩:=Mid.files r (i+1) hm3;rw[KC] at m1;refine⟨m1,λhs=>?_⟩;rw[m2 hs];rw[Xv,BM (by rw[hd0 hs];simp),BM];intro e;have:=(hw hs).symm.trans e2;rw[BZ e] at this;cases this
    rw[MZ (by rw[a3]) e3,a3];exact⟨.inr ⟨AV,hk3⟩,λhs=>Ai (l2 hs) e3⟩
   rw[MZ (by rw[a2]) e2,a2];refine⟨.inr ⟨AV,hk2⟩,λhs=>?_⟩;rw[Xv,BM (by rw[hd0 hs];simp)];have h5:=hw hs;by_cases hz:f.2≠[]/\q<(u0 U f0:Int)+FP (pre++[f])
   ·rw[BZ hz] at h5;rw[BZ hz];simp only[h5]
   rw[BM hz] at h5;exact Ai h5 e2
  rw[MZ (by rw[a1]) e1,a1];refine⟨.inr ⟨AV,hk⟩,λhs=>?_⟩;have h5:=k2 hs;rw[Xv,BZ (by rw[<- h5];exact e1)];simp only[h5]
end
end
section
variable {U:Tr} {M:Nat} {f0:Nat->List Int} {s q:Int} {S:St} {pre fs:Nb} {dst:ByteArray}
def O0 (U:Tr) (f0:Nat->List Int):GH:=U.map λp=>(p.1,p.2.map λx=>(x.1,f0 x.2))
theorem xA: ∀(a b:List JF) (S:St),S.runT (a++b)=if (S.runT a).2=[] then (S.runT a).1.runT b else S.runT a
 | [],b,S=>by rw[Dy,BZ (by rfl)];rfl
 |t::r,b,S=>by
  by_cases h:(S.act t.d).2=0;rw[Dj,FX h,FX h];exact xA r b _;rw[Dj,MZ rfl h,MZ rfl h,BM AV]
theorem AC2(h:S.down=true):S.clean=(S,80):=by
 unfold St.clean St.MG;rw[BZ h,BM Ar]
structure Done (U:Tr) (M:Nat) (f0:Nat->List Int) (s q:Int) (fs:Nb) (dst:ByteArray) (S:St):Prop where
 mid: ∃S1,Mid U M f0 s q fs S1/\S1.safe=S1.seen/\S1.files=S.files/\S.seen=ED.on S1.seen (.rename BO dst)/\((S.safe=S1.seen/\S.D6=[.rename BO dst]/\S.down=true)\/(S.safe=S.seen/\S.D6=[]))
 stop:S.stop=s
theorem Done.tree{S1:St}(h:Mid U M f0 s q fs S1)(hd:dst≠BO){g:Nat->List Int}(hg: ∀i,i<M->g i=f0 i)(hg2: ∀i x,S1.files.getD i ([],[])=(x,[])->g i=x):
  (ED.on S1.seen (.rename BO dst)).map (λp=>(p.1,p.2.map λx=>(x.1,g x.2)))=Qu (O0 U f0) dst fs/\BH (ED.on S1.seen (.rename BO dst)) BO=AB:=by
 obtain⟨F,hF,hid,hm⟩:=h.Xa;refine⟨?_,?_⟩
 ·show (Dx dst (Ey S1.seen BO) (without (without S1.seen BO) dst)).map _=_;rw[Ez hF,h.kq.kept.seen,Zp (λF:Jl=>F.map λx=>(x.1,g x.2)),AAZ (λF:Jl=>F.map λx=>(x.1,g x.2))];unfold Qu O0;rw[Vo];congr 1
  ·have h1:=congrArg (List.map λz:ByteArray×EX=>(z.1,z.2.1)) hm;rw[Eg,Eg] at h1;rw[show Tn fs=List.map ((λz:ByteArray×EX=>(z.1,z.2.1))∘λx=>(x.1,(x.2,[]))) (Tn fs) from (List.map_id _).symm.trans (He λx _=>rfl),<- h1];apply He;intro x hx;have h2:(x.1,S1.files.getD x.2 ([],[]))∈F.map (λx=>(x.1,S1.files.getD x.2 ([],[]))):=Bz.2 ⟨x,hx,rfl⟩;rw[hm] at h2;obtain⟨z,_,hz⟩:=Bz.1 h2;injection hz with hz1 hz2;show (x.1,g x.2)=(x.1,(S1.files.getD x.2 ([],[])).1);rw[hg2 x.2 z.2 hz2.symm,<- hz2]
  congr 1;exact YV λp hp x hx=>hg _ (h.kq.kept.ids p hp x hx)
 rw[En];intro e;have h3:=(((G8 dst (Ey S1.seen BO) (without (without S1.seen BO) dst)).map Aa).mem_iff).1 e;rcases BB.1 h3 with h4|h4;exact hd h4.symm;obtain⟨p,hp,he⟩:=Bz.1 h4;exact (Ff.1 (Ff.1 hp).1).2 he
theorem Mid.bytes{S1:St}(h:Mid U M f0 s q fs S1){S:St}(hf:S1.files=S.files)(ks:List Bool):(∀i,i<M->S.after ks i=f0 i)/\(∀i x,S1.files.getD i ([],[])=(x,[])->S.after ks i=x)/\(∀i,i<M->S.bytes i=f0 i)/\(∀i x,S1.files.getD i ([],[])=(x,[])->S.bytes i=x):=by
 (have a: ∀i x,S1.files.getD i ([],[])=(x,[])->S.bytes i=x:=λi x e=>by unfold St.bytes;rw[<- hf,e];simp[EX.all]);(have b: ∀i x,S1.files.getD i ([],[])=(x,[])->S.after ks i=x:=λi x e=>by rw[bu (by rw[<- hf,e])];exact a i x e);exact⟨λi hi=>b i _ (h.kq.kept.Ed i hi),b,λi hi=>a i _ (h.kq.kept.Ed i hi),a⟩
theorem rQ{T:Tr}(g:Nat->List Int)(h:BH T BO=AB):Ox BO (T.map λp=>(p.1,p.2.map λx=>(x.1,g x.2)))=T.map λp=>(p.1,p.2.map λx=>(x.1,g x.2)):=by rw[Xt,Jv (En.1 h)]
theorem Done.left(h:Done U M f0 s q fs dst S)(hd:dst≠BO)(ks:List Bool)(names:Int):(S.D6≠[]/\Ox BO (S.left ks names)=O0 U f0)\/(Ox BO (S.left ks names)=Qu (O0 U f0) dst fs/\S.left ks names=Qu (O0 U f0) dst fs):=by
 obtain⟨S1,hm,hs1,hf,hse,h1⟩:=h.mid;obtain⟨b1,b2,_,_⟩:=hm.bytes hf ks;obtain⟨t1,t2⟩:=Done.tree hm hd b1 b2
 have hnew:II S.safe (S.D6.take names.toNat)=ED.on S1.seen (.rename BO dst)->Ox BO (S.left ks names)=Qu (O0 U f0) dst fs/\S.left ks names=Qu (O0 U f0) dst fs:=λe=>by
  (have:S.left ks names=Qu (O0 U f0) dst fs:=by unfold St.left;rw[e];exact t1);refine⟨?_,this⟩;unfold St.left;rw[e,rQ _ t2];exact t1
 rcases h1 with ⟨h2,h3,h4⟩|⟨h2,h3⟩
 ·cases hn:names.toNat with
  |zero=>
   refine .inl ⟨by rw[h3];simp,?_⟩;unfold St.left;rw[hn,List.take_zero,h2];show Ox BO (S1.seen.map _)=_;rw[Xt,hm.kq.kept.seen];exact YV λp hp x hx=>b1 _ (hm.kq.kept.ids p hp x hx)
  |succ k=>
   refine .inr (hnew ?_);rw[hn,h3,h2];simp[II]
 exact .inr (hnew (by rw[h3,kL,h2,hse];rfl))
theorem Done.nd(h:Done U M f0 s q fs dst S):(fs.map Aa).Nodup:=by obtain⟨S1,hm,_⟩:=h.mid;exact hm.nd
theorem Done.view(h:Done U M f0 s q fs dst S)(hd:dst≠BO)(hs:S.down=false):S.view=Qu (O0 U f0) dst fs/\S.D6=[]/\S.safe=S.seen/\BH S.seen BO=AB:=by
 obtain⟨S1,hm,hs1,hf,hse,h1⟩:=h.mid;obtain⟨_,_,b1,b2⟩:=hm.bytes hf [];obtain⟨t1,t2⟩:=Done.tree hm hd b1 b2;rcases h1 with ⟨h2,h3,h4⟩|⟨h2,h3⟩;rw[hs] at h4;cases h4;rw[bn hs,hse];exact⟨t1,h3,h2.trans hse,t2⟩
theorem Mid.last(h:Mid U M f0 s q fs S)(hg:CS dst=true):
  (((S.runT (Oe dst)).2=[]/\Done U M f0 s q fs dst (S.runT (Oe dst)).1/\(S.runT (Oe dst)).1.D6=[])\/
   ((S.runT (Oe dst)).2≠[]/\(Kx U M f0 s q (S.runT (Oe dst)).1\/(Done U M f0 s q fs dst (S.runT (Oe dst)).1/\(S.runT (Oe dst)).1.down=true))))/\(s<0->(S.runT (Oe dst)).2=[]):=by
 have e0:Oe dst=[⟨{data:=#[110,97,109,101,115]},0,.names⟩,⟨{data:=#[114,101,110,97,109,101]},0,.rename dst⟩,⟨{data:=#[115,97,102,101]},0,.names⟩]:=rfl;rw[e0];have a1:S.act .names=S.names:=rfl
 cases hd:S.down with
 |true=>
  (have e1:S.names=(S,80):=by unfold St.names;rw[BZ hd]);rw[MZ (c:=80) (by rw[a1,e1]) Ar,a1,e1];exact⟨.inr ⟨AV,.inl ⟨h.kq,λhs=>by rw[h.kq.up hs] at hd;cases hd⟩⟩,λhs=>by rw[h.kq.up hs] at hd;cases hd⟩
 |false=>
  obtain⟨S1,hS1⟩: ∃S1:St,({S with safe:=S.seen,D6:=[],steps:=S.steps+1}:St)=S1:=⟨_,rfl⟩;(have e1:S.names=(S1,0):=by unfold St.names;rw[BM (by simp[hd]),hS1]);rw[FX (by rw[a1,e1]),a1,e1]
  have hm:Mid U M f0 s q fs S1:=by
   subst hS1;obtain⟨F,hF,hid,hmm⟩:=h.Xa;exact⟨⟨⟨h.kq.kept.seen,λc hc=>(BC hc).elim,rfl,h.kq.kept.len,h.kq.kept.ids,h.kq.kept.Ed⟩,h.kq.stop,h.kq.BI,h.kq.nd⟩,h.nd,F,hF,hid,hmm⟩
  (have hsf:S1.safe=S1.seen/\S1.D6=[]:=by subst hS1;exact⟨rfl,rfl⟩);obtain⟨F,hF,_,_⟩:=hm.Xa;have a2:S1.act (.rename dst)=S1.rename BO dst:=rfl
  cases hd1:S1.down with
  |true=>
   (have e2:S1.rename BO dst=(S1,80):=by unfold St.rename;rw[YO hd1,BZ Ar]);rw[MZ (c:=80) (by rw[a2,e2]) Ar,a2,e2];exact⟨.inr ⟨AV,.inl ⟨hm.kq,λhs=>by rw[hm.kq.up hs] at hd1;cases hd1⟩⟩,λhs=>by rw[hm.kq.up hs] at hd1;cases hd1⟩
  |false=>
   (have e2:S1.rename BO dst=(S1.make (.rename BO dst),0):=by unfold St.rename;rw[YQ hd1 (by simp[hg,Rj]) hF,BM AV]);rw[FX (by rw[a2,e2]),a2,e2];have a3:(S1.make (.rename BO dst)).act .names=(S1.make (.rename BO dst)).names:=rfl;have hst:(S1.make (.rename BO dst)).stop=s:=hm.kq.stop
   cases hd2:(S1.make (.rename BO dst)).down with
   |true=>
    (have e3:(S1.make (.rename BO dst)).names=(S1.make (.rename BO dst),80):=by unfold St.names;rw[BZ hd2]);rw[MZ (c:=80) (by rw[a3,e3]) Ar,a3,e3];refine⟨.inr ⟨AV,.inr ⟨⟨⟨S1,hm,hsf.1,rfl,rfl,.inl ⟨hsf.1,?_,hd2⟩⟩,hst⟩,hd2⟩⟩,λhs=>by rw[Ns (by rw[hst];exact hs)] at hd2;cases hd2⟩;show S1.D6++[_]=_;rw[hsf.2];rfl
   |false=>
    (have e3:(S1.make (.rename BO dst)).names=({S1.make (.rename BO dst) with safe:=(S1.make (.rename BO dst)).seen,D6:=[],steps:=(S1.make (.rename BO dst)).steps+1},0):=by unfold St.names;rw[BM (by simp[hd2])]);rw[FX (by rw[a3,e3]),a3,e3];exact⟨.inl ⟨rfl,⟨⟨S1,hm,hsf.1,rfl,rfl,.inr ⟨rfl,rfl⟩⟩,hst⟩,rfl⟩,λ_=>rfl⟩
theorem Kq.AOn(h:Kq U M f0 s q S)(hn:BH S.seen BO=AB)(hg:CS dst=true)(fs:Nb):
  (((S.runT (EP dst fs)).2=[]/\Done U M f0 s q fs dst (S.runT (EP dst fs)).1/\(S.runT (EP dst fs)).1.D6=[])\/
   ((S.runT (EP dst fs)).2≠[]/\(Kx U M f0 s q (S.runT (EP dst fs)).1\/(Done U M f0 s q fs dst (S.runT (EP dst fs)).1/\(S.runT (EP dst fs)).1.down=true))))/\(s<0->(S.runT (EP dst fs)).2=Vp q (u0 U f0) 0 [] fs):=by
 have e0:EP dst fs=⟨{data:=#[109,107,100,105,114]},0,.CX⟩::(Gv 0 fs++Oe dst):=rfl;rw[e0];have a1:S.act .CX=S.CX BO:=rfl
 cases hd:S.down with
 |true=>
  (have e1:S.CX BO=(S,80):=by unfold St.CX;rw[YO hd,BZ Ar]);rw[MZ (c:=80) (by rw[a1,e1]) Ar,a1,e1];exact⟨.inr ⟨AV,.inl ⟨h,λhs=>by rw[h.up hs] at hd;cases hd⟩⟩,λhs=>by rw[h.up hs] at hd;cases hd⟩
 |false=>
  have e1:S.CX BO=(S.make (.CX BO),0):=by
   unfold St.CX;(have:S.ask false [BO]=0:=by unfold St.ask;rw[BM (by simp[hd]),BM (by simp[Rj]),BM AV]);rw[this,BM AV,BM (by simp[hn])]
  rw[FX (by rw[a1,e1]),a1,e1]
  have hm:Mid U M f0 s q [] (S.make (.CX BO)):=by
   refine⟨⟨h.kept.make rfl,h.stop,h.BI,?_⟩,AV,[],?_,AV,rfl⟩
   ·show ((Dx BO [] S.seen).map Aa).Nodup;exact (((G8 BO [] S.seen).map Aa).nodup_iff).2 (Ii.2 ⟨En.1 hn,h.nd⟩)
   show BH (Dx BO [] S.seen) BO=_;rw[QS (En.1 hn),BZ rfl]
  generalize S.make (.CX BO)=S1 at hm;obtain⟨k1,k2⟩:=hm.files fs 0;rw[xA];rcases k1 with ⟨e2,hm2⟩|⟨e2,hk⟩
  ·rw[BZ e2];obtain⟨l1,l2⟩:=hm2.last hg;exact⟨l1,λhs=>(l2 hs).trans (e2.symm.trans (k2 hs))⟩
  rw[BM e2];exact⟨.inr ⟨e2,.inl hk⟩,k2⟩
theorem Kq.clean{B:Nat}(h:Kq U M f0 s q S)(hi:Inv B S):Kq U M f0 s q S.clean.1:=
 ⟨h.kept.clean,(GL.clean S).stop.trans h.stop,(GL.clean S).BI.trans h.BI,hi.clean.val.UR.nodup⟩
theorem AHm{op:ByteArray}{pl cd:Int}(h:cd≠0):qH op pl cd≠[]:=by unfold qH;rw[BM h];simp
theorem ALC{B:Nat}(h:Kq U M f0 s q S)(hi:Inv B S)(hg:CS dst=true)(hd:dst≠BO)(fs:Nb)(ks:List Bool)(names:Int):
  (Ox BO ((S.F7 dst fs).1.left ks names)=Qu (O0 U f0) dst fs/\(fs.map Aa).Nodup)\/((S.F7 dst fs).2≠[]/\Ox BO ((S.F7 dst fs).1.left ks names)=O0 U f0):=by
 have hc:=h.clean hi;unfold St.F7;rw[BM (by simp[hg,hd])];by_cases h0:S.clean.2=0
 ·rw[BM (by simp[h0])];obtain⟨k1,_⟩:=hc.AOn (Xu h0) hg fs;have hi2:=hi.clean.runT (EP dst fs);rcases k1 with ⟨e1,hD,hch⟩|⟨e1,hk⟩
  ·rw[BZ e1];left;rcases hD.left hd ks names with ⟨hdn,_⟩|⟨h1,_⟩;exact Ai hch hdn;exact⟨h1,hD.nd⟩
  rw[BM e1];rcases hk with hk|⟨hD,hdn⟩;exact .inr ⟨by simp[e1],(hk.1.clean hi2).kept.left ks names⟩;rw[AC2 hdn];rcases hD.left hd ks names with ⟨_,h1⟩|⟨h1,_⟩;exact .inr ⟨by simp[e1],h1⟩;exact .inl ⟨h1,hD.nd⟩
 rw[BZ h0];exact .inr ⟨AHm h0,hc.kept.left ks names⟩
theorem AAa(h:S.clean.2=0)(hs:(BH S.seen BO).isSome=true):Quiet S.clean.1:=by
 unfold St.clean St.Lj at h⊢;split
 ·rename_i h0;rw[BZ h0] at h;split
  ·rename_i h1;rw[BZ h1] at h;split
   ·rename_i h2;rw[BZ h2] at h;split
    ·rename_i h3;rw[BZ h3] at h;split
     ·rename_i h4;rw[BZ h4] at h;exact AAY h
     rename_i h4;rw[BM h4] at h;exact Ai h h4
    rename_i h3;rw[BM h3] at h;exact Ai h h3
   rename_i h2;rw[BM h2] at h;exact Ai h h2
  rename_i h1;unfold St.MG at h0 h1;split at h0;(cases h0);rename_i hd;rw[BM hd,gV] at h1;exact Ai hs h1
 rename_i h0;rw[BM h0] at h;exact Ai h h0
theorem Kept.rest(h:Kept U M f0 S)(hq:Quiet S)(hn:BH S.seen BO=AB)(hd:S.down=false)(ks:List Bool)(names:Int):S.view=O0 U f0/\S.left ks names=O0 U f0:=by
 have e1:=h.view hd;have e2:=h.left ks names;obtain⟨q1,q2⟩:=hq;refine⟨?_,?_⟩
 ·rw[bn hd,rQ _ hn] at e1;rw[bn hd];exact e1
 unfold St.left at e2⊢;rw[q2,kL] at e2⊢;rw[rQ _ (by show BH S.safe BO=AB;rw[q1];exact hn)] at e2;exact e2
theorem AGP{B:Nat}(h:Kq U M f0 s q S)(hs:s<0)(hi:Inv B S)(hg:CS dst=true)(hd:dst≠BO)(fs:Nb)(ks:List Bool)(names:Int):
  (S.F7 dst fs).2=Vp q (u0 U f0) 0 [] fs/\((S.F7 dst fs).2=[]->(fs.map Aa).Nodup/\(S.F7 dst fs).1.view=Qu (O0 U f0) dst fs/\(S.F7 dst fs).1.left ks names=Qu (O0 U f0) dst fs)/\
   ((S.F7 dst fs).2≠[]->(S.F7 dst fs).1.view=O0 U f0/\(S.F7 dst fs).1.left ks names=O0 U f0):=by
 have hc:=h.clean hi;have h0:S.clean.2=0:=jP (by rw[h.stop];exact hs) hi;unfold St.F7;rw[BM (by simp[hg,hd]),BM (by simp[h0])];obtain⟨k1,k2⟩:=hc.AOn (Xu h0) hg fs;have hi2:=hi.clean.runT (EP dst fs);rcases k1 with ⟨e1,hD,hch⟩|⟨e1,hk⟩
 ·rw[BZ e1];refine⟨k2 hs,λ_=>⟨hD.nd,(hD.view hd (Ns (by rw[hD.stop];exact hs))).1,?_⟩,λe=>Ai e1 e⟩;rcases hD.left hd ks names with ⟨hdn,_⟩|⟨_,h1⟩;exact Ai hch hdn;exact h1
 rw[BM e1];rcases hk with ⟨hk,hst⟩|⟨hD,hdn⟩
 ·(have h1:(S.clean.1.runT (EP dst fs)).1.stop<0:=by rw[hk.stop];exact hs);have h2:=jP h1 hi2;have h3:Jm 0=[]:=rfl;rw[h2,h3,LM];exact⟨k2 hs,λe=>Ai e e1,λ_=>(hk.clean hi2).kept.rest (AAa h2 (hst hs)) (Xu h2) ((hk.clean hi2).up hs) ks names⟩
 rw[Ns (by rw[hD.stop];exact hs)] at hdn;cases hdn
theorem AC3(a b:Nb):FP (a++b)=FP a+FP b:=by unfold FP;rw[Em,U8]
theorem rU{q q':Int}{u u':Nat}: ∀(fs:Nb) (i:Nat) (pre:Nb),(u:Int)+FP (pre++fs)<=q->(u':Int)+FP (pre++fs)<=q'->Vp q u i pre fs=Vp q' u' i pre fs
 | [],_,_,_,_=>rfl
 |f::r,i,pre,h,h'=>by
  (have e:pre++f::r=(pre++[f])++r:=by simp);have e2:=AC3 (pre++[f]) r;rw[e] at h h';unfold Vp;rw[rU r (i+1) (pre++[f]) h h'];(have n1: ¬(f.2≠[]/\q<(u:Int)+FP (pre++[f])):=λk=>by have:=k.2;omega);(have n2: ¬(f.2≠[]/\q'<(u':Int)+FP (pre++[f])):=λk=>by have:=k.2;omega);rw[BM n1,BM n2]
theorem Kq.open_{D:GH}{q s:Int}(h:Dn D q=0)(hq:q<=9223372036854775807):Kq (without (GV 0 D) BO) (Gm D) (λi=>(dat D).getD i []) s q (Ea D q s)/\O0 (without (GV 0 D) BO) (λi=>(dat D).getD i [])=Ox BO D:=
 ⟨⟨Kept.open_ h,rfl,rfl,(Jy (stop:=s) h hq).val.UR.nodup⟩,AHj h⟩
end
section
variable {D:GH}{q:Int}{B:Nat}{S:St}{T:Tr}
theorem rV: ∀{l:Nb} {f:Bool} {last:ByteArray},RH l->(∀x∈l,CS x.1=true)->(f=false->∀x∈l,UN last x.1=true)->EN f last l=0
 | [],f,last,_,_,_=>rfl
 |x::r,f,last,h1,h2,h3=>by
  obtain⟨k1,k2⟩:=LK.1 h1;unfold EN;have h0:Gl f last x.1=0:=Vb.2 ⟨h2 x (D9 ..),λe=>h3 e x (D9 ..)⟩;rw[h0,BM AV];exact rV k2 (λy hy=>h2 y (CO _ hy)) λ_ y hy=>k1 _ (Bz.2 ⟨y,hy,rfl⟩)
theorem xB{m:Nat}(g:Nat->List Int): ∀{T:Tr} {f:Bool} {last:ByteArray},Val m T->(f=false->∀x∈T,UN last x.1=true)->GK f last (T.map λp=>(p.1,p.2.map λx=>(x.1,g x.2)))=0
 | [],f,last,_,_=>rfl
 |x::r,f,last,h,h3=>by
  obtain⟨k1,k2⟩:=LK.1 h.UR;rw[BK];unfold GK;have h0:Gl f last x.1=0:=Vb.2 ⟨h.nm x (D9 ..),λe=>h3 e x (D9 ..)⟩
  have h4:EN true noS (x.2.map λy=>(y.1,g y.2))=0:=rV (by
   have:=h.sub x (D9 ..);unfold RH at this⊢;rw[Eg]
   exact this) (λy hy=>by
    obtain⟨z,hz,rfl⟩:=Bz.1 hy
    exact h.zW x (D9 ..) z hz) λe=>by cases e
  rw[h0,BM AV,h4,BM AV]
  exact xB g ⟨k2,λp hp=>h.sub p (CO _ hp),λp hp=>h.ids p (CO _ hp),λp hp=>h.nm p (CO _ hp),λp hp=>h.zW p (CO _ hp)⟩
   λ_ y hy=>k1 _ (Bz.2 ⟨y,hy,rfl⟩)
theorem xC(hi:Inv B S)(k:Nat):Val S.files.length (II S.safe (S.D6.take k)):=hi.safe.run (Ux hi.D6 k)
theorem AC4(hi:Inv B S)(ks:List Bool)(names:Int)(hq:0<=q):Dn (S.left ks names) q=0:=by
 unfold Dn;rw[BM Ad];exact xB _ (xC hi _) λe=>by cases e
theorem AGQ{f:Nat->Nat}{p:ByteArray×Jl}(hp:p∈T){x:ByteArray×Nat}(hx:x∈p.2):f x.2<=Wt f T:=by
 have h1:f x.2<=Wf f p.2:=by
  unfold Wf;generalize p.2=F at hx
  induction F with
  |nil=>cases hx|cons y r ih=>
   simp only[BK,Bo];rcases BB.1 hx with rfl|hx;omega;have:=ih hx;omega
 unfold Wt
 induction T with
 |nil=>cases hp|cons y r ih=>
  simp only[BK,Bo];rcases BB.1 hp with rfl|hp;omega;have:=ih hp;omega
structure Uq (S:St):Prop where
 one: ∀k i,Wt (Hw i) (II S.safe (S.D6.take k))<=1
 run:II S.safe S.D6=S.seen
 ids: ∀p∈S.seen,∀x∈p.2,x.2<S.files.length
section
variable {S:St}
theorem Uq.seen(h:Uq S)(i:Nat):Wt (Hw i) S.seen<=1:=by
 have:=h.one S.D6.length i;rwa[xY,h.run] at this
theorem Uq.made(h:Uq S){c:ED}(fs:List EX)(h1: ∀i,Wt (Hw i) (c.on S.seen)<=1)(h2: ∀p∈c.on S.seen,∀x∈p.2,x.2<fs.length):Uq (St.make {S with files:=fs} c):=by
 refine⟨λk i=>?_,?_,h2⟩
 ·show Wt (Hw i) (II S.safe ((S.D6++[c]).take k))<=1;by_cases hk:k<=S.D6.length;rw[ALT hk];exact h.one k i;rw[FH (by simp;omega),SN,h.run];exact h1 i
 show II S.safe (S.D6++[c])=c.on S.seen;rw[SN,h.run]
theorem Uq.make(h:Uq S){c:ED}(hc: ∀f,c.made f=0):Uq (S.make c):=by
 refine Uq.made (S:=S) h S.files (λi=>?_) ?_
 ·have:=AAJ (Hw i) S.seen c;have:=hc (Hw i);have:=h.seen i;omega
 intro p hp x hx;have hz:Wt (λj=>if j<S.files.length then 0 else 1) S.seen=0:=bZ λp hp x hx=>BZ (h.ids p hp x hx);have h3:=AAJ (λj=>if j<S.files.length then 0 else 1) S.seen c;rw[hz,hc] at h3;have h4:=AGQ (f:=λj=>if j<S.files.length then 0 else 1) hp hx;by_cases hl:x.2<S.files.length;exact hl;simp only[BM hl] at h4;omega
theorem Uq.other{S':St}(h:Uq S)(h1:S'.safe=S.safe)(h2:S'.D6=S.D6)(h3:S'.seen=S.seen)(h4:S'.files.length=S.files.length):Uq S':=⟨by rw[h1,h2];exact h.one,by rw[h1,h2,h3];exact h.run,by rw[h3,h4];exact h.ids⟩
theorem Uq.names(h:Uq S):Uq S.names.1:=by
 unfold St.names;split;exact h;exact⟨λk i=>by rw[kL];exact h.seen i,rfl,h.ids⟩
theorem Uq.CX(h:Uq S)(d:ByteArray):Uq (S.CX d).1:=by
 unfold St.CX;split;exact h;split;exact h;exact h.make λ_=>rfl
theorem Uq.create(h:Uq S)(d n:ByteArray):Uq (S.create d n).1:=by
 unfold St.create;split;exact h;split;exact h;refine Uq.made h _ (λi=>?_) ?_
 ·have h4:=AAJ (Hw i) S.seen (.create d n S.files.length);simp only[ED.made] at h4;by_cases hin:i=S.files.length
  ·have h5:Wt (Hw i) S.seen=0:=bZ (λp hp q hq=>by
    have:=h.ids p hp q hq;unfold Hw
    rw[BM Ad])
   (have h6:Hw i S.files.length=1:=by unfold Hw;rw[BZ hin.symm]);omega
  (have h6:Hw i S.files.length=0:=by unfold Hw;rw[BM (λe=>hin e.symm)]);have:=h.seen i;omega
 intro p hp x hx;rw[Ig];show x.2<S.files.length+1;have hz:Wt (λj=>if j<S.files.length+1 then 0 else 1) S.seen=0:=bZ λp hp x hx=>BZ (kP (h.ids p hp x hx));have h3:=AAJ (λj=>if j<S.files.length+1 then 0 else 1) S.seen (.create d n S.files.length);rw[hz] at h3;have h4:=AGQ (f:=λj=>if j<S.files.length+1 then 0 else 1) hp hx;simp only[ED.made,Nat.lt_succ_self,if_true] at h3;by_cases hl:x.2<S.files.length+1;exact hl;simp only[BM hl] at h4;omega
theorem Uq.write(h:Uq S)(d n:ByteArray)(xs:List Int):Uq (S.write d n xs).1:=by
 unfold St.write;split;exact h;split;exact h.other rfl rfl rfl rfl;split;exact h;exact h.other rfl rfl rfl AV
theorem Uq.sync(h:Uq S)(d n:ByteArray):Uq (S.sync d n).1:=by
 unfold St.sync;split;exact h;exact h.other rfl rfl rfl AV
theorem Uq.rename(h:Uq S)(a b:ByteArray):Uq (S.rename a b).1:=by
 unfold St.rename;split;exact h;exact h.make λ_=>rfl
theorem Uq.remove(h:Uq S)(d n:ByteArray):Uq (S.remove d n).1:=by
 unfold St.remove;split;exact h;exact h.make λ_=>rfl
theorem Uq.rmdir(h:Uq S)(d:ByteArray):Uq (S.rmdir d).1:=by
 unfold St.rmdir;split;exact h;split;exact h;exact h.make λ_=>rfl
theorem Uq.EJ(h:Uq S)(d:ByteArray): ∀l:List ByteArray,Uq (St.EJ d S l).1:=by
 intro l
 induction l generalizing S with
 |nil=>exact h|cons n r ih=>
  unfold St.EJ;split;exact ih (h.remove d n);exact h.remove d n
theorem Uq.clean(h:Uq S):Uq S.clean.1:=by
 unfold St.clean St.Lj;split
 ·split
  ·split
   ·split
    ·split;exact ((h.EJ _ _).rmdir _).names;exact (h.EJ _ _).rmdir _
    exact h.EJ _ _
   exact h
  exact h
 exact h
theorem Uq.puts(n:ByteArray): ∀(C:List (List Int)) {S:St},Uq S->Uq (S.puts n C).1
 | [],S,h=>h
 |x::r,S,h=>by
  unfold St.puts;split;exact Uq.puts n r (h.write BO n x);exact h.write BO n x
theorem Uq.act(h:Uq S)(d:Do):Uq (S.act d).1:=by
 cases d with|CX=>exact h.CX BO|create n=>exact h.create BO n|write n xs=>exact Uq.puts n (Vg xs) h|sync n=>exact h.sync BO n|names=>exact h.names|rename d=>exact h.rename BO d
theorem Uq.runT: ∀(ts:List JF) {S:St},Uq S->Uq (S.runT ts).1
 | [],S,h=>h
 |t::r,S,h=>by
  unfold St.runT;split;exact Uq.runT r (h.act t.d);exact h.act t.d
theorem Uq.F7(h:Uq S)(dst:ByteArray)(fs:Nb):Uq (S.F7 dst fs).1:=by
 unfold St.F7;split;exact h;split;exact h.clean;split;exact h.clean.runT _;exact (h.clean.runT _).clean
theorem Uq.open_{s:Int}:Uq (Ea D q s):=by
 refine⟨λk i=>?_,rfl,λp hp x hx=>?_⟩
 ·show Wt (Hw i) (II (GV 0 D) (List.take k []))<=1;rw[kL];show Wt (Hw i) (GV 0 D)<=1;rw[AMI];exact (range_one i _ 0).1
 have:=YM p hp x hx;show x.2<(J7 D).length;rw[SX];omega
theorem ARY(f:Nat->Nat){n:Nat}(hu: ∀i,Wt (Hw i) T<=1)(hid: ∀p∈T,∀x∈p.2,x.2<n):Wt f T<=((FZ n).map f).sum:=by
 have h: ∀k,Wt (λi=>if i<k then f i else 0) T<=((FZ k).map f).sum:=by
  intro k
  induction k with
  |zero=>rw[bZ (λp _ x _=>BM (xk _))];exact D5 _|succ k ih=>
   have h1:=AMG (f:=λi=>if i<k+1 then f i else 0) (g:=λi=>if i<k then f i else 0) (k:=Hw k) (a:=f k) (λi=>by
    unfold Hw;by_cases h2:i=k;subst h2;simp;by_cases h3:i<k;rw[BZ Ad,BZ h3];omega
    rw[BM Ad];omega) T
   have h2:=ALS (f k) (hu k);rw[List.range_succ,Em,U8];simp only[BK,EG,Bo,List.sum_nil];omega
 refine Ci (Nat.le_of_eq ?_) (h n);unfold Wt Wf;congr 1;apply He;intro p hp;congr 1;apply He;intro x hx;exact (BZ (hid p hp x hx)).symm
theorem jy{α:Type}(g:α->Nat)(d:α)(l:List α):((FZ l.length).map λi=>g (l.getD i d)).sum=(l.map g).sum:=by
 congr 1;apply List.ext_getElem AV;intro i h1 h2;simp at h1 h2;simp[GY,h1]
theorem jR(hi:Inv B S)(hu: ∀i,Wt (Hw i) T<=1)(hid: ∀p∈T,∀x∈p.2,x.2<S.files.length)(hw:wd T<=B)(g:Nat->List Int)(hg: ∀i,(g i).length<=(S.files.getD i ([],[])).all.length):
  Eb (T.map λp=>(p.1,p.2.map λx=>(x.1,g x.2)))<=2*B:=by
 have h1:Eb (T.map λp=>(p.1,p.2.map λx=>(x.1,g x.2)))=Wt (λi=>(g i).length) T+wd T:=by
  unfold Eb Wt wd Wf;clear hu hid hw
  induction T with
  |nil=>rfl|cons p r ih=>
   simp only[BK,Bo,Eg,Function.comp_def] at ih⊢
   have h2: ∀F:Jl,(F.map λx=>(g x.2).length+1).sum=(F.map λx=>(g x.2).length).sum+F.length:=by
    intro F
    induction F with|nil=>rfl|cons y t ih2=>simp only[BK,Bo,List.length_cons];omega
   have h3:=h2 p.2;omega
 have h2:=ARY (λi=>(g i).length) hu hid
 have h3:((FZ S.files.length).map λi=>(g i).length).sum<=((FZ S.files.length).map λi=>(λf:EX=>f.all.length+f.2.length) (S.files.getD i ([],[]))).sum:=by
  generalize FZ S.files.length=l
  induction l with
  |nil=>simp|cons i r ih=>
   simp only[BK,Bo] at ih⊢;have h4:=hg i;omega
 rw[jy (λf:EX=>f.all.length+f.2.length)] at h3;have h4:(S.files.map λf:EX=>f.all.length+f.2.length).sum<=B:=hi.bulk;omega
theorem AC5(h:Uq S)(hi:Inv B S)(ks:List Bool)(names:Int):Eb (S.left ks names)<=2*B:=by
 have h5:=zg (Ux hi.D6 names.toNat);have h6:=hi.zh;have h7:(S.D6.take names.toNat).length<=S.D6.length:=by rw[Ie];omega
 exact jR hi (h.one names.toNat) (xC hi names.toNat).ids Ad _ λi=>by
  unfold St.after;simp only;refine Ci (AFq _ _ _ _ (Ba _)) ?_;simp[EX.all]
theorem AC6(h:Uq S)(hi:Inv B S):Eb S.view<=2*B:=by
 unfold St.view;split;simp[Eb];exact jR hi h.seen hi.val.ids hi.wd _ λi=>Ba _
end
def codeF:List J8->Int
 | []=>0|f::_=>f.cd
theorem jS(D:GH):bytesOf D<=Eb D:=by
 unfold bytesOf Eb
 induction D with
 |nil=>simp|cons d r ih=>
  simp only[BK,Bo]
  have h: ∀l:Nb,(l.map λx=>x.2.length).sum<=(l.map λx=>x.2.length+1).sum:=by
   intro l
   induction l with|nil=>simp|cons x t ih2=>simp only[BK,Bo];omega
  have:=h d.2;omega
theorem AC7(fs:Nb):FP fs<=Vh fs:=by
 unfold FP Vh
 induction fs with|nil=>simp|cons x r ih=>simp only[BK,Bo];omega
theorem AHn(fs:List FM):Vh (BD fs)<=6*(fs.map λx=>x.2.length+1).sum:=by
 unfold Vh BD;rw[Eg]
 induction fs with|nil=>simp|cons x r ih=>simp only[BK,Bo,Function.comp_apply] at ih⊢;omega
theorem AAb{q':Int}(h:Dn D q=0)(hq:0<=q'):Dn D q'=0:=by
 unfold Dn at h⊢;split at h;(cases h);rw[BM Ad];exact h
theorem AAc{BI at_:Int}{dst:ByteArray}{fs:Nb}(h:Dn D BI=0)(hq:BI<=9223372036854775807)(hb:Eb D<=1048576)(hl:Vh fs<=6291456)(ks:List Bool)(names:Int):
  Dn ((((Ea D BI at_).F7 dst fs).1).left ks names) 1099511627776=0/\Eb ((((Ea D BI at_).F7 dst fs).1).left ks names)<=33554632/\Dn D 1099511627776=0/\
   ((Ea ((((Ea D BI at_).F7 dst fs).1).left ks names) 1099511627776 (-1)).F7 dst fs).2=((Ea D 1099511627776 (-1)).F7 dst fs).2/\
   (((Ea D 1099511627776 (-1)).F7 dst fs).2=[]->((Ea ((((Ea D BI at_).F7 dst fs).1).left ks names) 1099511627776 (-1)).F7 dst fs).1.view=((Ea D 1099511627776 (-1)).F7 dst fs).1.view):=by
 have hi:=(Jy (stop:=at_) h hq).F7 dst fs;have e1:=AC4 hi ks names (q:=1099511627776) Ar;have e2:=AC5 ((Uq.open_ (D:=D) (q:=BI) (s:=at_)).F7 dst fs) hi ks names;have e3:=AAb h (q':=1099511627776) Ar;obtain⟨L,hL⟩: ∃L,(((Ea D BI at_).F7 dst fs).1).left ks names=L:=⟨_,rfl⟩;have e4:Eb L<=33554632:=by rw[<- hL];omega
 have e5:CS dst=true->dst≠BO->Ox BO L=Qu (Ox BO D) dst fs\/Ox BO L=Ox BO D:=λhg hd=>by
  obtain⟨k1,k2⟩:=Kq.open_ (s:=at_) h hq;rcases ALC k1 (Jy (stop:=at_) h hq) hg hd fs ks names with ⟨h1,_⟩|⟨_,h1⟩;rw[hL,k2] at h1;exact .inl h1;rw[hL,k2] at h1;exact .inr h1
 rw[hL] at e1⊢;refine⟨e1,e4,e3,?_⟩;by_cases hg:CS dst=false\/dst=BO
 ·unfold St.F7;rw[BZ hg,BZ hg];exact⟨rfl,λe=>by simp at e⟩
 have hg1:CS dst=true:=by
  cases hz:CS dst with|true=>rfl|false=>exact Ai (.inl hz) hg
 have hd:dst≠BO:=λe=>hg (.inr e);obtain⟨k1,k2⟩:=Kq.open_ (s:= -1) e1 Ar;obtain⟨m1,m2⟩:=Kq.open_ (s:= -1) e3 Ar;obtain⟨j1,j2,_⟩:=AGP k1 Ar (Jy (stop:= -1) e1 Ar) hg1 hd fs [] 0;obtain⟨l1,l2,_⟩:=AGP m1 Ar (Jy (stop:= -1) e3 Ar) hg1 hd fs [] 0;have f1:=AC7 fs;have b1:=jS (Ox BO L);have b2:=rJ BO L;have b3:=jS (Ox BO D);have b4:=rJ BO D;have d1:=rU (u:=bytesOf (Ox BO L)) (u':=bytesOf (Ox BO D)) (q:=1099511627776) (q':=1099511627776) fs 0 [] (by rw[Dy];omega) (by rw[Dy];omega);have u1:u0 (without (GV 0 L) BO) (λi=>(dat L).getD i [])=bytesOf (Ox BO L):=congrArg bytesOf k2;have u2:u0 (without (GV 0 D) BO) (λi=>(dat D).getD i [])=bytesOf (Ox BO D):=congrArg bytesOf m2;rw[u1] at j1;rw[u2] at l1;have hee:((Ea L 1099511627776 (-1)).F7 dst fs).2=((Ea D 1099511627776 (-1)).F7 dst fs).2:=j1.trans (d1.trans l1.symm);refine⟨hee,λe=>?_⟩;rw[(j2 (hee.trans e)).2.1,(l2 e).2.1,k2,m2];rcases e5 hg1 hd with h1|h1;rw[h1,AHk];rw[h1]
end
end Go.Proofs.YtkkgcebhfghdnaaGreatDoor.Vw
