/- Part 13 of what that rests on; no condition. -/
import Derived.Test.YtkkgcebhfghdnaaGreatDoorKl
import Derived.Conc.FxGenLone
import Derived.Conc.WalkWords
set_option maxRecDepth 100000
set_option maxHeartbeats 8000000
namespace Go.Proofs.YtkkgcebhfghdnaaGreatDoor
open Go Go.Conc Go.RowKit
def pc (s:ByteArray) (sz k:Nat):List UInt8:=(s.data.toList.drop (k*sz)).take sz
def Piece (SR:Nat->Prop) (s:ByteArray) (sz k:Nat) (xv:Value) (bk:Nat) (ob:Obj):Prop:=
 k*sz<s.size/\¬SR bk/\∃cap,(pc s sz k).length<=cap/\Ut (pc s sz k).length 5 cap/\xv=.slice (some ⟨bk,0,none⟩) (pc s sz k).length cap/\ob=.cells ((Jc (pc s sz k)).toArray++Array.replicate (cap - (pc s sz k).length) (.int .u8 0)) 5
theorem AFA{l:List UInt8}{n:Nat}: ∀x∈((Jc l).toArray++Array.replicate n (.int .u8 0)),flat x=true:=by
 intro x hx;rcases Ce.1 hx with h|h
 ·simp only[Jc,Bv,Ag] at h;obtain⟨b,_,rfl⟩:=h;rfl
 obtain⟨_,rfl⟩:=Array.mem_replicate.1 h;rfl
section
variable {P:Program} {mn:Bool} {fn:FuncId} {T:Array Value} {k:List Item} {D:List Deferred} {cs:List Frame} {w w':World} {ops:Array Oper} {i:Nat} {rest:List Nat} {o:Oper}
theorem AGk{x:Value}(ho:ops[i]? =some o)(hw:Region.wanted o (yielded ops T)=true)(hr:(execOp (ev T) o).run P w=.halt (.panic x) w'):
  ∃es,stepG P mn (G (fr fn T (.inRegion ops (i::rest)::k) D none) cs) w=.go (G ((fr fn T (.inRegion ops (i::rest)::k) D none).raise [{v:=x,recovered:=false}]) cs) w' es:=by
 rw[Qd ho hw (.inl rfl)];unfold stepG.apply;simp only[if_true,Sem.runT_eq,hr];exact⟨_,rfl⟩
theorem kV{h:Halt}(ho:ops[i]? =some o)(hw:Region.wanted o (yielded ops T)=true)(hr:(execOp (ev T) o).run P w=.halt h w')(hs:Halt.still h):
  ∃q u es,stepG P mn (G (fr fn T (.inRegion ops (i::rest)::k) D none) cs) w=.ended q u es:=by
 rw[Qd ho hw (.inl rfl)];unfold stepG.apply;simp only[if_true,Sem.runT_eq,hr]
 cases h with
 |unsupported u=>cases u<;>first|exact hs.elim|exact⟨_,_,_,rfl⟩
 |_=>first|exact hs.elim|exact⟨_,_,_,rfl⟩
end
theorem AFB{Kp:Frame->List Frame->World->Prop}(Bz: ∀f ts v,Kp f ts v->ts=[]){T:Array Value}{k:List Item}{c0:Frame}{cs:List Frame}{v:World}{x:Value}(hT:T.size=19)
  (h:Ev Ae Kp ((fr 46 T (.inRegion RN [0]:: .code UM::k) [] none).finish x) (c0::cs) v): ∃e,x=.int .i64 e:=by
 rw[EE (o:=_) rfl] at h;have s1:=Ob Bz h FX;have s2:=Ob Bz (c:=c0) (ts:=cs) s1 Jk;have s3:=Ob Bz (c:=c0) (ts:=cs) s2 rD;(have hx:(put T (some 15) x).getD 15 undef=x:=by simp[put,Eb,hT]);by_cases hi: ∃e,x=.int .i64 e;exact hi;exfalso
 have hst: ∃why,(execOp (ev (put T (some 15) x)) {dst:=some 16,op:=.binOp .mul 51 (.tmp 15) (.const (.int .i64 1)) 51,type:=51,pos:= "",after:=#[],guard:=none}).run Ae v=.halt why v/\Halt.still why:=by
  have e15:ev (put T (some 15) x) (.tmp 15)=x:=hx;unfold execOp;simp only[e15]
  cases x with
  |int kk n=>
   cases kk<;>first|exact absurd ⟨n,rfl⟩ hi|exact⟨_,rfl,trivial⟩
  |_=>first|exact⟨_,rfl,trivial⟩|(rename_i y;cases y<;>exact⟨_,rfl,trivial⟩)
 obtain⟨why,hst,hs⟩:=hst;obtain⟨q,u,es,hh⟩:=kV (P:=Ae) (mn:=true) (cs:=c0::cs++[door Ae]) (i:=0) (rest:=[1,2]) (ops:=#[_,_,_]) (k:=_::k) (D:=[]) (fn:=46) rfl rfl hst hs;exact Xb Bz s3 hh
section
variable {C:Cx} (hP:C.P=Tryz.prog) {R:RF C.SR} {s:ByteArray} {sz:Nat} (hCs: ∀k xv bk ob,C.Cs k xv bk ob->Piece C.SR s sz k xv bk ob) (hNN:s.size<=C.N*sz) (hsz:1<=sz) (hsz2:(sz:Int)<=9223372036854775807) (hs:s.size<=1073741824)
 {sb:Nat} (hsb:C.SR sb) (hrd: ∀w,R.R w->w.cell? ⟨sb,0,none⟩=some (.chan (some C.bs))) (hlive: ∃w,Live C w) {Kp:Frame->List Frame->World->Prop} (Bz: ∀f ts v,Kp f ts v->ts=[]/\f.mode=.returning)
 {c0:Frame} {cs:List Frame} {cs0:List Frame} (s0:VS) (ρ0:Rn)
def AGl (C:Cx) (R:RF C.SR) (sb:Nat) (Kp:Frame->List Frame->World->Prop) (c0:Frame) (cs cs0:List Frame) (s0:VS) (ρ0:Rn) (_:Nat) (g:Goroutine) (o:Own C.SR):Prop:=
 ∃(a0 a1 a2 a3 a6 a9 a10 a11 a12 KF Wh Oa a16 a17 Nq Nr a20 a21 a22 a23 a24 a27 a28:Value) (cnt e:Int) (ρ1:Rn) (v1:World) (h1:OG R ρ1),Ze Tryz.prog g (G (fr 46 #[a0,a1,a2,a3,.int .i64 cnt,.int .i64 e,a6,.pointer (some ⟨sb,0,none⟩),.pointer (some ⟨C.wg,0,none⟩),a9,a10,a11,a12,KF,Wh,Oa,a16,a17,Nq,Nr,a20,a21,a22,a23,a24,.chan (some C.bs),.tuple #[],a27,a28] [.inRegion Yp [],.code PE] [] none) cs0)/\o=og K2.F 2 R ρ1 v1 h1/\Jb Ae Kp ⟨c0.finish (.tuple #[.int .i64 cnt,.int .i64 e]),cs,v1⟩ s0/\ρ0.le ρ1
def vY (C:Cx) (R:RF C.SR) (s:ByteArray) (sz sb:Nat) (Kp:Frame->List Frame->World->Prop) (c0:Frame) (cs cs0:List Frame) (s0:VS) (ρ0:Rn) (st:VS):Prop:=
 ∀(k lo d blk bk cap:Nat) (cnt e:Int) (to to' xv NH r9 r10 r11 r13 Hm r16 Ho Nl:Value) (a0 a2 a3 a6 a10 a11 a12 KF a20 a21 a22 a23 a24 a25 a26 a27 a28:Value) (v:World) (ρ:Rn) (h:OG R ρ),st=⟨fr 46 (Ru (FD 79 s sz) to NH s cnt e sz lo r9 r10 r11 (.int .i64 ((lo:Int)+(d:Int))) r13 (.slice (some ⟨blk,0,none⟩) d cap) Hm r16 Ho Nl) [.inRegion RN [0],.code UM,.inLoop Ai.loop,.inBlock 0,.code .ret] [] none,c0::cs,v⟩->Jb Ae Kp st s0->ρ0.le ρ->lo=k*sz->lo<s.size->d=min sz (s.size - lo)->Au K2.F ρ to to'->ρ.r blk bk->xv=.slice (some ⟨bk,0,none⟩) d cap->
  PM C (AGl C R sb Kp c0 cs cs0 s0 ρ0) .work (k+1) (G (fr 46 #[a0,to',a2,a3,.int .i64 cnt,.int .i64 e,a6,.pointer (some ⟨sb,0,none⟩),.pointer (some ⟨C.wg,0,none⟩),xv,a10,a11,a12,KF,.chan (some C.bc),.tuple #[xv,.bool true],.bool true,xv,to',xv,a20,a21,a22,a23,a24,a25,a26,a27,a28] (.inRegion Ym [2,3]:: .code Yn:: .code Yo:: .inBlock 1:: .inLoop F7:: .inBlock 0::[.code PD]) [] none) cs0) (og K2.F 2 R ρ v h)
include hP hCs hNN hsz hsz2 hs hsb hrd hlive Bz
theorem kX{k lo:Nat}{cnt e:Int}{to to' NH r9 r10 r11 r12 r13 Jd Hm r16 Ho Nl:Value}{a0 a2 a3 a6 a9 a10 a11 a12 KF Oa a16 a17 Nq Nr a20 a21 a22 a23 a24 a25 a26 a27 a28:Value}{v:World}{ρ:Rn}(h:OG R ρ)(hM: ∀st,Jb Ae Kp st ⟨fr 46 (Ru (FD 79 s sz) to NH s cnt e sz lo r9 r10 r11 r12 r13 Jd Hm r16 Ho Nl) [.code Ai.loop,.inLoop Ai.loop,.inBlock 0,.code .ret] [] none,c0::cs,v⟩->vY C R s sz sb Kp c0 cs cs0 s0 ρ0 st)
  (hs0:Jb Ae Kp ⟨fr 46 (Ru (FD 79 s sz) to NH s cnt e sz lo r9 r10 r11 r12 r13 Jd Hm r16 Ho Nl) [.code Ai.loop,.inLoop Ai.loop,.inBlock 0,.code .ret] [] none,c0::cs,v⟩ s0) (hρ:ρ0.le ρ) (hlo:lo=min (k*sz) s.size) (hto:Au K2.F ρ to to'):
  PM C (AGl C R sb Kp c0 cs cs0 s0 ρ0) .work k (G (fr 46 #[a0,to',a2,a3,.int .i64 cnt,.int .i64 e,a6,.pointer (some ⟨sb,0,none⟩),.pointer (some ⟨C.wg,0,none⟩),a9,a10,a11,a12,KF,.chan (some C.bc),Oa,a16,a17,Nq,Nr,a20,a21,a22,a23,a24,a25,a26,a27,a28] (.code F7:: .inLoop F7:: .inBlock 0::[.code PD]) [] none) cs0) (og K2.F 2 R ρ v h):=by
 have Ns: ∀f ts v,Kp f ts v->ts=[]:=λf ts v x=>(Bz f ts v x).1
 classical
 refine AE6 hP (λxv bk ob=>if hc:C.Cs k xv bk ob then og K2.F 2 R (ρ.add v.heap.size bk) {v with heap:=v.heap.push ob} (h.chunk (hCs _ _ _ _ hc).2.1) else og K2.F 2 R ρ v h) (λxv bk ob hc x=>?_) (λxv bk ob hc w hI hO hw=>?_) (λxv bk ob hc=>?_) (λhk=>?_)
 ·simp only[hc,dif_pos];constructor
  ·rintro⟨a,ha|⟨_,rfl⟩⟩;exact .inl ⟨a,ha⟩;exact .inr rfl
  rintro (⟨a,ha⟩|rfl);exact⟨a,.inl ha⟩;exact⟨_,.inr ⟨rfl,rfl⟩⟩
 ·simp only[hc,dif_pos];obtain⟨_,hb,cap,_,_,_,rfl⟩:=hCs _ _ _ _ hc;exact AE9 AFA hb (h.chunk hb) hI hO hw
 ·simp only[hc,dif_pos];generalize h.chunk (hCs k xv bk ob hc).2.1=jD;obtain⟨hlt,hb,cap,hc1,hc2,rfl,rfl⟩:=hCs _ _ _ _ hc;(have AGm:lo=k*sz:=by rw[hlo];exact DK (FI hlt));obtain⟨d,hd⟩: ∃d,d=min sz (s.size - lo):=⟨_,rfl⟩;obtain⟨hp1,hp2⟩:=qA (s:=s) (lo:=lo) (sz:=sz) (d:=d) Ac hd;(have hp2':(pc s sz k).length=d:=by unfold pc;rw[<- AGm];exact hp2);(have hp1':Jc (pc s sz k)=Qe (s.extract lo (lo+d)):=by unfold pc;rw[<- AGm];exact hp1.symm);rw[hp2'] at hc1 hc2⊢;rw[hp1']
  obtain⟨s',⟨t,hs'⟩,hn⟩:=APH (Kp:=Kp) Ns (Good:=λs'=>∃t,s'=⟨fr 46 (Ru (FD 79 s sz) to NH s cnt e sz lo (.bool true) (.int .i64 ((s.size:Int) - lo)) (.int .i64 d) (.int .i64 ((lo:Int)+(d:Int))) (.string (s.extract lo (lo+d))) (.slice (some ⟨v.heap.size,0,none⟩) d cap) Hm r16 Ho Nl) [.inRegion RN [0],.code UM,.inLoop Ai.loop,.inBlock 0,.code .ret] [] none,c0::cs,{v with heap:=v.heap.push (.cells ((Qe (s.extract lo (lo+d))).toArray++Array.replicate (cap - d) (.int .u8 0)) 5),drawn:=v.drawn+1,tape:=t}⟩)
   (src:=FD 79 s sz) (to:=to) (NH:=NH) (s:=s) (cnt:=cnt) (e:=e) (n:=sz) (lo:=lo) (r9:=r9) (r10:=r10) (r11:=r11) (r12:=r12) (r13:=r13) (Jd:=Jd) (Hm:=Hm) (r16:=r16) (Ho:=Ho) (Nl:=Nl) (kt:=[.inLoop Ai.loop,.inBlock 0,.code .ret]) (cs:=cs) (c0:=c0) (v:=v)
   Ac hs Ac (d:=d) Ac hc2 (λt=>.fin ⟨t,rfl⟩)
  have hn':Jb Ae Kp s' ⟨fr 46 (Ru (FD 79 s sz) to NH s cnt e sz lo r9 r10 r11 r12 r13 Jd Hm r16 Ho Nl) [.code Ai.loop,.inLoop Ai.loop,.inBlock 0,.code .ret] [] none,c0::cs,v⟩:=by
   rcases hn with e1|hn
   ·exfalso;rw[hs'] at e1;have:=congrArg (λx:VS=>x.v.drawn) e1;simp at this
   exact hn
  have:=hM s' hn' k lo d v.heap.size bk cap cnt e to to' (.slice (some ⟨bk,0,none⟩) d cap) NH (.bool true) (.int .i64 ((s.size:Int) - lo)) (.int .i64 d) (.string (s.extract lo (lo+d))) Hm r16 Ho Nl a0 a2 a3 a6 a10 a11 a12 KF a20 a21 a22 a23 a24 a25 a26 a27 a28 _ _ (h.chunk hb) hs' (hn'.trans hs0) (hρ.trans (Rn.Uc _ _ _)) AGm Ac hd (hto.mono (Rn.Uc _ _ _)) (.inr ⟨rfl,rfl⟩) rfl;rw[AE8 (v':=s'.v) (by rw[hs']) (by rw[hs'])];rw[hs'];exact this
 have hge:s.size<=lo:=by
  (have:s.size<=k*sz:=by rw[hk];exact hNN);omega
 obtain⟨s',hs',hn⟩:=API (Kp:=Kp) Ns (Good:=λs'=>s'=⟨c0.finish (.tuple #[.int .i64 cnt,.int .i64 e]),cs,v⟩) (src:=FD 79 s sz) (to:=to) (NH:=NH) (s:=s) (cnt:=cnt) (e:=e) (n:=sz) (lo:=lo) (r9:=r9) (r10:=r10) (r11:=r11) (r12:=r12) (r13:=r13) (Jd:=Jd) (Hm:=Hm) (r16:=r16) (Ho:=Ho) (Nl:=Nl) (cs:=cs) (c0:=c0) (v:=v) hge (.fin rfl)
 have hn':Jb Ae Kp ⟨c0.finish (.tuple #[.int .i64 cnt,.int .i64 e]),cs,v⟩ s0:=by
  rw[<- hs'];rcases hn with e1|hn;rw[e1];exact hs0;exact hn.trans hs0
 exact AAG hP (o:=og K2.F 2 R ρ v h) hsb (λw hI=>hrd w hI.2) hlive (λg hg=>⟨a0,to',a2,a3,a6,a9,a10,a11,a12,KF,.chan (some C.bc),.tuple #[.slice none 0 0,.bool false],.bool false,a17,Nq,Nr,a20,a21,a22,a23,a24,a27,a28,cnt,e,ρ,v,h,hg,rfl,hn',hρ⟩)
end
theorem AJg{V:Program}{Kp:Frame->List Frame->World->Prop}(Bz: ∀f ts v,Kp f ts v->ts=[]){f c0:Frame}{cs:List Frame}{v:World}(hev:Ev V Kp f (c0::cs) v)(t:Nat->Question->Nat)(ht: ∀j,j<v.drawn->t j=v.tape j):
  ∃F S W es,stepG V true (G f (c0::cs++[door V])) (v.DL t)=.go (G F (S++[door V])) W es/\Nx V Kp ⟨F,S,W⟩ ⟨f,c0::cs,v⟩/\Ev V Kp F S W:=by
 cases hev with
 |stop h=>cases Bz _ _ _ h|step Fx Sx Wx h1 h2=>
  obtain⟨es,h⟩:=h1 t ht;exact⟨_,_,_,es,h,⟨λx=>(by cases Bz _ _ _ x),t,ht,es,h⟩,h2 t ht⟩
theorem ADu{V:Program}{f f':Frame}{ts ts':List Frame}{v v':World}{es es':Array Event}(h:GStep.go (G f (ts++[door V])) v es=.go (G f' (ts'++[door V])) v' es'):f=f'/\ts=ts'/\v=v':=by
 simp only[GStep.go.injEq,G,Goroutine.mk.injEq] at h;exact⟨h.1.1,Dw h.1.2.1,h.2.1⟩
section
variable {C:Cx} (hP:C.P=Tryz.prog) {R:RF C.SR} {s:ByteArray} {sz:Nat} (hCs: ∀k xv bk ob,C.Cs k xv bk ob->Piece C.SR s sz k xv bk ob) (hNN:s.size<=C.N*sz) (hsz:1<=sz) (hsz2:(sz:Int)<=9223372036854775807) (hs:s.size<=1073741824)
 {sb:Nat} (hsb:C.SR sb) (hrd: ∀w,R.R w->w.cell? ⟨sb,0,none⟩=some (.chan (some C.bs))) (hlive: ∃w,Live C w) {Kp:Frame->List Frame->World->Prop} (Bz: ∀f ts v,Kp f ts v->ts=[]/\f.mode=.returning)
 {c0:Frame} {cs:List Frame} {cs0:List Frame} (s0:VS) (ρ0:Rn)
include hP hCs hNN hsz hsz2 hs hsb hrd hlive Bz
theorem AFC{st:VS}(hev:Ev Ae Kp st.f st.ts st.v)(OX:ND Ae Kp st):vY C R s sz sb Kp c0 cs cs0 s0 ρ0 st:=by
 have Ns: ∀f ts v,Kp f ts v->ts=[]:=λf ts v x=>(Bz f ts v x).1;refine Ev.strong (M:=λst=>ND Ae Kp st->vY C R s sz sb Kp c0 cs cs0 s0 ρ0 st) (λst hev ih OX=>?_) hev OX;have ih:=λs' hn=>ih s' hn (λs'' h=>OX s'' (h.trans hn));intro k lo d blk bk cap cnt e to to' xv NH r9 r10 r11 r13 Hm r16 Ho Nl a0 a2 a3 a6 a10 a11 a12 KF a20 a21 a22 a23 a24 a25 a26 a27 a28 v ρ h hst hn hρ hlo hlt hd hto hbk hxv;subst hst hxv;simp only at hev;refine ADr rfl λw hw=>?_;obtain⟨hW,hR⟩:=hw;have hWd: ∀τ:Nat->Question->Nat,DD K2.F 2 ρ (v.DL τ) w:=λτ=>hW.pre ⟨rfl,rfl⟩ ⟨rfl,rfl⟩;(let τ:Nat->Question->Nat:=λj=>if j<v.drawn then v.tape j else w.tape (w.drawn+(j - v.drawn)));have hτ: ∀j,j<v.drawn->τ j=v.tape j:=λj hj=>by simp only[τ,hj,if_true]
 have hTp: ∀n,Tp (v.DL τ) w n:=λn i _ q=>by
  show τ (v.drawn+i) q=w.tape (w.drawn+i) q;(have h1: ¬v.drawn+i<v.drawn:=by omega);simp only[τ,h1,if_false];congr 2;omega
 obtain⟨F,S,W,es,hstep,hnx,AAF⟩:=AJg Ns hev τ hτ;obtain⟨ov,hov,APM,AGn⟩: ∃ov,RN[0]? =some ov/\ov.op=.call {callee:=.invoke (.tmp 1) "Take",args:=#[.tmp 14],argTypes:=#[62]}/\∀T,Region.wanted ov T=true:=⟨_,rfl,rfl,λ_=>rfl⟩;obtain⟨ot,hot,APN,APO⟩: ∃ot,Ym[2]? =some ot/\ot.op=.call {callee:=.invoke (.tmp 18) "Take",args:=#[.tmp 19],argTypes:=#[62]}/\∀T,Region.wanted ot T=true:=⟨_,rfl,rfl,λ_=>rfl⟩;obtain⟨TV,OB⟩: ∃TV,TV=Ru (FD 79 s sz) to NH s cnt e sz lo r9 r10 r11 (.int .i64 ((lo:Int)+(d:Int))) r13 (.slice (some ⟨blk,0,none⟩) d cap) Hm r16 Ho Nl:=⟨_,rfl⟩;have hxV:execOp (ev TV) ov=callMethod to "Take" #[.slice (some ⟨blk,0,none⟩) d cap]:=rU APM (by rw[OB];rfl) (by rw[OB];simp only[BX,AL,BC];rfl);obtain⟨TT,jE⟩: ∃TT,TT= #[a0,to',a2,a3,.int .i64 cnt,.int .i64 e,a6,.pointer (some ⟨sb,0,none⟩),.pointer (some ⟨C.wg,0,none⟩),.slice (some ⟨bk,0,none⟩) d cap,a10,a11,a12,KF,.chan (some C.bc),.tuple #[.slice (some ⟨bk,0,none⟩) d cap,.bool true],.bool true,.slice (some ⟨bk,0,none⟩) d cap,to',.slice (some ⟨bk,0,none⟩) d cap,a20,a21,a22,a23,a24,a25,a26,a27,a28]:=⟨_,rfl⟩;have hxT:execOp (ev TT) ot=callMethod to' "Take" #[.slice (some ⟨bk,0,none⟩) d cap]:=rU APN (by rw[jE];rfl) (by rw[jE];simp only[BX,AL,BC];rfl);have hrel:=(bQ (T:=T1) (N:=2) (F:=K2.F) ACX.bodies (fb:=K2.fb) (λf hf=>hf) (λf n h=>h) (λ_=>rfl) ANF hto (Ar.one (.slice (n:=d) (k:=cap) (show RelA ρ ⟨blk,0,none⟩ ⟨bk,0,none⟩ from ⟨hbk,rfl,rfl⟩)))).sound (hWd τ) (hTp _);rw[<- jE];rw[<- OB] at hev hstep hnx ih hn OX;(have hrun:(callMethod to "Take" #[.slice (some ⟨blk,0,none⟩) d cap]).run Ae (v.DL τ)=(execOp (ev TV) ov).run Ae (v.DL τ):=by rw[hxV]);change zL True K2.F 2 (QEn K2.F) ρ (v.DL τ) w ((callMethod to "Take" #[.slice (some ⟨blk,0,none⟩) d cap]).run Ae (v.DL τ)) _ at hrel
 cases hr:(callMethod to "Take" #[.slice (some ⟨blk,0,none⟩) d cap]).run Ae (v.DL τ) with
 |ok n v'=>
  rw[hr] at hrel hrun;obtain⟨ρ1,b,w1,u,hr',⟨f,p,p',rfl,rfl,hf,hfa,hp⟩,hst⟩:=hrel
  have hrT:(execOp (ev TT) ot).run Tryz.prog w=.ok (.enter f p') w1:=by
   rw[hxT];have:=congrArg Prod.fst hr';rw[Sem.runT_eq] at this;exact this
  have huT:(execOp (ev TT) ot).events Tryz.prog w #[]=u:=by
   rw[hxT];have:=congrArg Prod.snd hr';rw[Sem.runT_eq] at this;exact this
  have Xp:=s_call (kd:=false) (P:=Ae) (mn:=true) (fn:=46) (T:=TV) (k:=[.code UM,.inLoop Ai.loop,.inBlock 0,.code .ret]) (D:=[]) (ro:=none) (cs:=c0::cs++[door Ae]) (i:=0) (rest:=[]) hov (AGn _) (.inl rfl) hrun.symm;obtain⟨rfl,rfl,rfl⟩:=ADu (ts':=fr 46 TV [.inRegion RN [0],.code UM,.inLoop Ai.loop,.inBlock 0,.code .ret] [] none::c0::cs) (hstep.symm.trans Xp);have hsT:=s_call (kd:=false) (P:=Tryz.prog) (mn:=true) (fn:=46) (T:=TT) (k:=.code Yn:: .code Yo:: .inBlock 1:: .inLoop F7:: .inBlock 0::[.code PD]) (D:=[]) (ro:=none) (cs:=cs0) (i:=2) (rest:=[3]) hot (APO _) (.inl rfl) hrT;rw[huT] at hsT;have hst':Stp K2.F 2 ρ ρ1 (v.DL τ) w W w1 (seen Tryz.prog 46 u):=hst.sub λe he=>Du he;have h1:=h.next hR hst';refine⟨_,_,w1,_,by rw[hP];exact hsT,h.step h1 hR hst',?_⟩
  have hXf:K2.X f=false:=by
   cases e:K2.X f with
   |false=>rfl|true=>
    have h0:Jp K2.fb f 0=true:=hfa 0;rw[no2 f e 0] at h0;cases h0
  refine AGc (K:=K2) (T:=T1) (N:=2) (Kp:=Kp) Ns ACX no2 (by rw[hP]) (λp k f1 Dj v hp=>AAJ Ns p k f1 Dj v hp) (dr:=fr 46 TV [.inRegion RN [0],.code UM,.inLoop Ai.loop,.inBlock 0,.code .ret] [] none) (ds:=c0::cs) (ts:=[]) (ts':=[]) rfl rfl AAF (λs' h=>OX s' (.cons hnx h)) rfl (Na ACX hf hXf hp (.inl rfl)) .nil (λg hg=>hst'.rel.ok.hd g (MZ hg)) h1 (λv1 ρ2 x x' h2 hn1 hxx hle=>?_) (λv1 ρ2 h2 hn1 hle=>?_)
  ·have hnd:=Jb.cons hnx hn1;have hev2:=Ev.OU (s:=⟨_,_,_⟩) hev hnd;simp only at hev2;obtain⟨e2,rfl⟩:=AFB Ns (by rw[OB];rfl) hev2;obtain rfl:=BN hxx rfl;have APP:Au K2.F ρ2 to to':=hto.mono (hst.le.trans hle);rw[jE];rw[OB] at hnd;refine AE7 hP (λhe=>?_) (λhe=>?_)
   ·subst he
    obtain⟨s',hs',hn2⟩:=AM0 (Kp:=Kp) Ns (Good:=λs'=>s'=⟨fr 46 (Ru (FD 79 s sz) to NH s (IntKind.i64.wrap (cnt+1)) 0 sz (lo+d) r9 r10 r11 (.int .i64 ((lo:Int)+(d:Int))) r13 (.slice (some ⟨blk,0,none⟩) d cap) (.int .i64 0) (.int .i64 0) (.bool false) (.int .i64 (IntKind.i64.wrap (cnt+1)))) [.code Ai.loop,.inLoop Ai.loop,.inBlock 0,.code .ret] [] none,c0::cs,v1⟩)
     (src:=FD 79 s sz) (to:=to) (NH:=NH) (s:=s) (cnt:=cnt) (e0:=e) (n:=sz) (lo:=lo) (d:=d) (r9:=r9) (r10:=r10) (r11:=r11) (r13:=r13) (Jd:=.slice (some ⟨blk,0,none⟩) d cap) (Hm:=Hm) (r16:=r16) (Ho:=Ho) (Nl:=Nl) (cs:=cs) (c0:=c0) (v:=v1) rfl (.fin rfl)
    have hn3:Jb Ae Kp s' ⟨fr 46 (Ru (FD 79 s sz) to NH s cnt e sz lo r9 r10 r11 (.int .i64 ((lo:Int)+(d:Int))) r13 (.slice (some ⟨blk,0,none⟩) d cap) Hm r16 Ho Nl) [.inRegion RN [0],.code UM,.inLoop Ai.loop,.inBlock 0,.code .ret] [] none,c0::cs,v⟩:=by
     rcases hn2 with e1|hn2;rw[e1];exact hnd;exact hn2.trans hnd
    rw[hs'] at hn3;rw[OB] at ih hn
    have hlo2:lo+d=min ((k+1)*sz) s.size:=by
     have:(k+1)*sz=k*sz+sz:=Nat.succ_mul k sz;omega
    refine kX hP hCs hNN hsz hsz2 hs hsb hrd hlive Bz s0 ρ0 h2 (λst hst=>ih st (hst.trans hn3)) (hn3.trans hn) (hρ.trans (hst.le.trans hle)) hlo2 APP
   obtain⟨s',hs',hn2⟩:=AJZ (Kp:=Kp) Ns (Good:=λs'=>s'=⟨c0.finish (.tuple #[.int .i64 cnt,.int .i64 e2]),cs,v1⟩)
    (src:=FD 79 s sz) (to:=to) (NH:=NH) (s:=s) (cnt:=cnt) (e0:=e) (n:=sz) (lo:=lo) (r9:=r9) (r10:=r10) (r11:=r11) (r12:=.int .i64 ((lo:Int)+(d:Int))) (r13:=r13) (Jd:=.slice (some ⟨blk,0,none⟩) d cap) (Hm:=Hm) (r16:=r16) (Ho:=Ho) (Nl:=Nl) (cs:=cs) (c0:=c0) (v:=v1) he (.fin rfl)
   have hn3:Jb Ae Kp s' ⟨fr 46 (Ru (FD 79 s sz) to NH s cnt e sz lo r9 r10 r11 (.int .i64 ((lo:Int)+(d:Int))) r13 (.slice (some ⟨blk,0,none⟩) d cap) Hm r16 Ho Nl) [.inRegion RN [0],.code UM,.inLoop Ai.loop,.inBlock 0,.code .ret] [] none,c0::cs,v⟩:=by
    rcases hn2 with e1|hn2;rw[e1];exact hnd;exact hn2.trans hnd
   rw[hs'] at hn3;rw[OB] at hn;exact AAG hP (o:=og K2.F 2 R ρ2 v1 h2) hsb (λw hI=>hrd w hI.2) hlive (λg hg=>⟨a0,to',a2,a3,a6,.slice (some ⟨bk,0,none⟩) d cap,a10,a11,a12,KF,.chan (some C.bc),.tuple #[.slice (some ⟨bk,0,none⟩) d cap,.bool true],.bool true,.slice (some ⟨bk,0,none⟩) d cap,to',.slice (some ⟨bk,0,none⟩) d cap,.int .i64 e2,.int .i64 e2,.bool true,a23,a24,a27,a28,cnt,e2,ρ2,v1,h2,hg,rfl,hn3.trans hn,hρ.trans (hst.le.trans hle)⟩)
  have hnd:=Jb.cons hnx hn1;rw[OB] at hnd hn ih;rw[jE];exact ih _ hnd k lo d blk bk cap cnt e to to' (.slice (some ⟨bk,0,none⟩) d cap) NH r9 r10 r11 r13 Hm r16 Ho Nl a0 a2 a3 a6 a10 a11 a12 KF a20 a21 a22 a23 a24 a25 a26 a27 a28 v1 ρ2 h2 rfl (hnd.trans hn) (hρ.trans (hst.le.trans hle)) hlo hlt hd (hto.mono (hst.le.trans hle)) ((hst.le.trans hle).r _ _ hbk) rfl
 |halt x v'=>
  exfalso;rw[hr] at hrel hrun;by_cases hp: ∃y,x=.panic y
  ·obtain⟨y,rfl⟩:=hp;obtain⟨es2,Xp⟩:=AGk (P:=Ae) (mn:=true) (fn:=46) (T:=TV) (k:=[.code UM,.inLoop Ai.loop,.inBlock 0,.code .ret]) (D:=[]) (cs:=c0::cs++[door Ae]) (i:=0) (rest:=[]) hov (AGn _) hrun.symm;obtain⟨rfl,rfl,rfl⟩:=ADu (ts':=c0::cs) (hstep.symm.trans Xp);refine OX _ (.one hnx) ?_;exact iD.head (ch:=[{v:=y,recovered:=false}]) rfl (by intro e he;simp at he;subst he;rfl)
  have hst:Halt.still x:=by
   cases x with|panic y=>exact absurd ⟨_,rfl⟩ hp|_=>exact hrel
  obtain⟨q,u,es2,Xp⟩:=kV (P:=Ae) (mn:=true) (fn:=46) (T:=TV) (k:=[.code UM,.inLoop Ai.loop,.inBlock 0,.code .ret]) (D:=[]) (cs:=c0::cs++[door Ae]) (i:=0) (rest:=[]) hov (AGn _) hrun.symm hst;rw[hstep] at Xp;cases Xp
end
open Go.ConcN (sumTo upd sumTo_upd upd_ne upd_same)
structure Le (Shun:Loc->Prop) (B L:Nat) (t:Trace) (d:Nat):Prop where
 clean: ∀said,¬Race said t
 known: ∀i a,touchAt t i=some a->a.loc.isMemory=true->Knows t 0 i\/(Shun a.loc/\a.kind=.atomic)
 over:t.HandedOver
 deaf:Deaf t 0=d
 seen: ∀op∈t,op.act.low B
 nor: ∀op∈t,∀a,op.act=.mark (.release a)->a.block<L
def Qq (Shun:Loc->Prop) (B:Nat) (e:Event):Prop:=(∀x,(MemAct.ofEvent e).touch? =some x->Shun x.loc->x.kind≠ .plain)/\(MemAct.ofEvent e).low B/\∀a,MemAct.ofEvent e≠ .mark (.release a)
theorem Pq{g:Nat}{fn:FuncId}{pos:String}{es:Array Event}{op:MemOp}(h:op∈MemOp.ofEvents g fn pos es): ∃e∈es,op={g,fn,pos,act:=.ofEvent e}:=by
 rw[ofEvents_eq] at h;obtain⟨e,he,rfl⟩:=Array.mem_map.1 h;exact⟨e,he,rfl⟩
section
variable {Shun:Loc->Prop} {B B' L d:Nat} {t u:Trace}
theorem Le.past(h:Le Shun B L t 0):Past Shun B t:=⟨h.clean,h.known,h.over,h.deaf,h.seen⟩
theorem AFD(h:Past Shun B t):Le Shun B B t 0:=⟨h.clean,h.known,h.over,h.hears,h.seen,λop hop a ha=>by have:=h.seen op hop;rw[ha] at this;exact this⟩
theorem Le.mono(h:Le Shun B L t d)(hB:B<=B'):Le Shun B' L t d:=⟨h.clean,h.known,h.over,h.deaf,λop hop=>MemAct.low_mono hB (h.seen op hop),h.nor⟩
theorem Le.app0(h:Le Shun B L t d)(hu: ∀op∈u,op.g=0)(hs: ∀op∈u,∀b,op.act.touch? =some b->Shun b.loc->b.kind≠ .plain)(hl: ∀op∈u,op.act.low B)(hn: ∀op∈u,∀a,op.act≠ .mark (.release a)):Le Shun B L (t++u) (Deaf (t++u) 0):=by
 refine⟨λsaid=>noRace_append (h.clean said) hu λi a ha op hop b hb hc=>?_,λi a ha hm=>?_,handedOver_app h.over λop hop=>.inl (hu op hop),rfl,seen_app h.seen hl,λop hop a ha=>(Ce.1 hop).elim (λx=>h.nor op x a ha) λx=>absurd ha (hn op x a)⟩
 ·rcases h.known i a ha hc.2.1 with hk|⟨hsa,hka⟩;exact hk;have hkb:=hs op hop b hb (hc.1▸hsa);obtain⟨_,_,_,hcase⟩:=hc;rw[hka] at hcase;rcases hcase with x|x|⟨_,x,_⟩;(cases x);exact absurd x hkb;cases x
 obtain⟨x,hx,hxa⟩:=touch_of ha;rcases getElem?_append_cases hx with ⟨_,hx'⟩|⟨_,hxu⟩
 ·exact (h.known i a (by rw[touchAt_of hx'];exact hxa) hm).imp (·.app u) id
 have:=knows_own hx;rw[hu x hxu] at this;exact .inl this
theorem Le.own(h:Le Shun B L t d){fn:FuncId}{pos:String}{es:Array Event}(hes: ∀e∈es,Qq Shun B e):Le Shun B L (t++MemOp.ofEvents 0 fn pos es) (deafBehind d es):=by
 have:=h.app0 (u:=MemOp.ofEvents 0 fn pos es) (λop hop=>by obtain⟨e,_,rfl⟩:=Pq hop;rfl) (λop hop b hb=>by obtain⟨e,he,rfl⟩:=Pq hop;exact (hes e he).1 b hb)
  (λop hop=>by obtain⟨e,he,rfl⟩:=Pq hop;exact (hes e he).2.1) (λop hop=>by obtain⟨e,he,rfl⟩:=Pq hop;exact (hes e he).2.2)
 rw[Deaf_own,h.deaf] at this;exact this
theorem Le.mute(h:Le Shun B L t d){g:Nat}(hg:g≠0){fn:FuncId}{pos:String}{es:Array Event}(hm: ∀e∈es,e.mute=true):Le Shun B L (t++MemOp.ofEvents g fn pos es) d:=by
 (have hu: ∀op∈MemOp.ofEvents g fn pos es,op.g=g:=λop hop=>by obtain⟨e,_,rfl⟩:=Pq hop;rfl);have hn: ∀op∈MemOp.ofEvents g fn pos es,op.act.touch? =none:=λop hop=>by obtain⟨e,he,rfl⟩:=Pq hop;exact touch_mute (hm e he)
 refine⟨λsaid=>noRace_append (h.clean said) hu λi a _ op hop b hb _=>(by rw[hn op hop] at hb;cases hb),λi a ha hmm=>?_,handedOver_app h.over λop hop=>.inr (hn op hop),(Deaf_other t hg _ hu).trans h.deaf,
  seen_app h.seen λop hop=>(by obtain⟨e,he,rfl⟩:=Pq hop;exact low_mute (hm e he) B),λop hop a ha=>(Ce.1 hop).elim (λx=>h.nor op x a ha) λx=>by
   obtain⟨⟨l,wr,sy⟩,he,rfl⟩:=Pq x;have:=hm _ he;(cases l<;>simp[Event.mute] at this);rename_i m
   cases m<;>simp[MemAct.ofEvent] at this ha⟩
 obtain⟨x,hx,hxa⟩:=touch_of ha;rcases getElem?_append_cases hx with ⟨_,hx'⟩|⟨_,hxu⟩
 ·exact (h.known i a (by rw[touchAt_of hx'];exact hxa) hmm).imp (·.app _) id
 rw[hn x hxu] at hxa;cases hxa
end
structure Nu (P:Program) (Z:Nat->Prop) (B L:Nat) (gs:Array Goroutine) (t:Trace) (a:Goroutine) (q:Nat->Nat) (d:Nat):Prop where
 at0:gs[0]? =some a
 leavers:Leavers P t gs q
 past:Le (OV Z) B L t d
section
variable {P:Program} {Z:Nat->Prop} {B B' L d:Nat} {gs:Array Goroutine} {w w':World} {t:Trace} {a a' g:Goroutine} {q:Nat->Nat} {sl sl':Option (Nat×Nat)} {es:Array Event}
theorem Sit.AGo(h:Sit P Z gs w t a q):Nu P Z w.heap.size w.heap.size gs t a q 0:=⟨h.at0,h.leavers,AFD h.past⟩
theorem ACY(h:Nu P Z B L gs t a q d)(hs:stepG P true a w=.go a' w' es)(hB:B<=B')(he: ∀e∈es,Qq (OV Z) B' e):
  runT P (crowd gs w sl') 0=(.next (crowd ((gs.map (woken P a a' w')).setIfInBounds 0 a') w' sl'),MemOp.ofEvents 0 a.frame.fn a.frame.place es)/\
  ((gs.map (woken P a a' w')).setIfInBounds 0 a').size=gs.size/\Nu P Z B' L ((gs.map (woken P a a' w')).setIfInBounds 0 a') (t++MemOp.ofEvents 0 a.frame.fn a.frame.place es) a' q (deafBehind d es):=by
 refine⟨runT_crowd_go (P:=P) (sl:=sl') (i:=0) h.at0 (show stepG P (0==0) a w=_ from hs),AY,?_,?_,?_⟩
 ·have hlt:0<gs.size:=(BK.1 h.at0).1;simp[hlt]
 ·refine⟨λj x hj hx=>?_,λj hj=>?_⟩
  ·(have hne:0≠j:=by omega);rw[BO hne,Dl] at hx;obtain⟨y,hy,rfl⟩:=DV.1 hx;have hq:=h.leavers.old j y hj hy;rw[woken_quitsD hq,Deaf_other t Ac _ (λop hop=>ofEvents_g hop)];exact hq
  have hlt:0<gs.size:=(BK.1 h.at0).1;rw[Deaf_other t (g':=0) (by simp at hj;omega) _ (λop hop=>ofEvents_g hop)];exact h.leavers.above j (by simpa using hj)
 exact (h.past.mono hB).own he
theorem vZ{dd i:Nat}(h:Nu P Z B L gs t a q d)(ha:a.status=.running)(hpos:0<i)(hi:gs[i]? =some g)(hg:g.status=.running):
  ∃k g' es,q i=k+1/\runT P (crowd gs (w.at dd) sl') i=(.next (crowd ((gs.map (woken P g g' (w.at dd))).setIfInBounds i g') (w.at dd) sl'),MemOp.ofEvents i g.frame.fn g.frame.place es)/\
   ((gs.map (woken P g g' (w.at dd))).setIfInBounds i g').size=gs.size/\Nu P Z B L ((gs.map (woken P g g' (w.at dd))).setIfInBounds i g') (t++MemOp.ofEvents i g.frame.fn g.frame.place es) a (upd q i k) d/\
   sumTo gs.size (upd q i k)<sumTo gs.size q:=by
 have hq:=h.leavers.old i g hpos hi;(have hi0:(i==0)=false:=by simp;omega);have hlt:i<gs.size:=(BK.1 hi).1
 cases hqi:q i with
 |zero=>rw[hqi] at hq;rw[hq.1] at hg;cases hg|succ k=>
  rw[hqi] at hq;rcases hq with ⟨hf,_⟩|⟨_,g',es,hm,hstp,hq'⟩;rw[hf] at hg;cases hg;refine⟨k,g',es,rfl,runT_crowd_go (P:=P) (sl:=sl') (i:=i) hi (by rw[hi0];exact hstp (w.at dd)),AY,⟨?_,⟨λj x hj hx=>?_,λj hj=>?_⟩,h.past.mute Ac hm⟩,?_⟩
  ·(have hne:i≠0:=by omega);rw[BO hne,Dl,h.at0];simp[woken_run ha]
  ·by_cases hji:i=j
   ·subst hji;rw[F9 (by simpa using hlt)] at hx;obtain rfl:=BQ hx;rw[upd_same,Deaf_own];exact hq'
   rw[BO hji,Dl] at hx;obtain⟨y,hy,rfl⟩:=DV.1 hx;have hqj:=h.leavers.old j y hj hy;rw[woken_quitsD hqj,upd_ne q k (CJ hji),Deaf_other t hji _ (λop hop=>ofEvents_g hop)];exact hqj
  ·rw[Deaf_other t (g':=i) (by simp at hj;omega) _ (λop hop=>ofEvents_g hop)];exact h.leavers.above j (by simpa using hj)
  have hsum:sumTo gs.size (upd q i k)+(k+1)=sumTo gs.size q+k:=by
   have:=sumTo_upd q k id hlt;simpa[hqi] using this
  omega
theorem AGp(h:Nu P Z B L gs t a q d)(ha:a.status=.running):
  ∃N gs1 w1 sl1 t1 q1 dd sx,runNT P N (crowd gs w sl) t=(.next (crowd gs1 w1 sl1),t1)/\gs1.size=gs.size/\Nu P Z B L gs1 t1 a q1 d/\(∃d1,w1=w.at d1)/\stepT P (crowd gs1 w1 sl1)=runT P (crowd gs1 (w.at dd) sx) 0:=by
 obtain⟨M,hM⟩: ∃M,sumTo gs.size q=M:=⟨_,rfl⟩
 induction M using Nat.strongRecOn generalizing gs w sl t q with
 |_ M ih=>
  have haw: ∀g∈gs,awake g:=λg hg=>by
   obtain⟨i,hi,rfl⟩:=LJ.1 hg;rcases EM i with rfl|hpos
   ·have h0:=h.at0;(have:gs[0]=a:=by simpa[Ba hi] using h0);rw[this];exact awake_of (.inl ha)
   exact awake_of ((h.leavers.old i _ hpos (Ba hi)).status.elim .inl λx=>.inr (.inr x))
  obtain⟨i,g,dd,sx,hi,hg,hst⟩:=crowd_pick (P:=P) (w:=w) (sl:=sl) haw ⟨0,a,h.at0,ha⟩;rcases EM i with rfl|hpos;exact⟨0,gs,w,sl,t,q,dd,sx,rfl,rfl,h,⟨w.drawn,rfl⟩,hst⟩;obtain⟨k,g',es,hq,hr,hz,hS,hlt⟩:=vZ (w:=w) (dd:=dd) (sl':=sx) h ha hpos hi hg;obtain⟨N,gs1,w1,sl1,t1,q1,d2,sx2,h1,h2,h3,⟨d1,h4⟩,h5⟩:=ih _ (by rw[hz,<- hM];exact hlt) (w:=w.at dd) (sl:=sx) hS rfl;exact⟨N+1,gs1,w1,sl1,t1,q1,d2,sx2,by simp only[runNT,hst,hr];exact h1,h2.trans hz,h3,⟨d1,h4⟩,h5⟩
theorem EP{m m' m'':Machine}{t t' t'':Trace}{N K:Nat}(h:runNT P N m t=(.next m',t'))(hk:runNT P K m' t'=(.next m'',t'')):runNT P (N+K) m t=(.next m'',t''):=by
 rw[runNT_add,h];exact hk
theorem kY{m m' m'':Machine}{t t':Trace}{ops:Array MemOp}{N:Nat}(h:runNT P N m t=(.next m',t'))(hs:stepT P m'=(.next m'',ops)):runNT P (N+1) m t=(.next m'',t'++ops):=by
 rw[runNT_add,h];simp only[runNT,hs]
theorem ve{R:Goroutine->World->Array Event->Nat->Prop}(h:Nu P Z B L gs t a q d)(ha:a.status=.running)
  (hstep: ∀dd,∃a' w' es B',stepG P true a (w.at dd)=.go a' w' es/\B<=B'/\(∀e∈es,Qq (OV Z) B' e)/\R a' w' es B'):
  ∃N gs1 w' sl1 t1 q1 a' es B',runNT P N (crowd gs w sl) t=(.next (crowd gs1 w' sl1),t1)/\gs1.size=gs.size/\Nu P Z B' L gs1 t1 a' q1 (deafBehind d es)/\R a' w' es B':=by
 obtain⟨N,gs1,w1,sl1,t1,q1,dd,sx,h1,h2,h3,⟨d1,rfl⟩,h5⟩:=AGp (w:=w) (sl:=sl) h ha;obtain⟨a',w',es,B',k1,k2,k3,k4⟩:=hstep dd;obtain⟨r1,r2,r3⟩:=ACY (sl':=sx) h3 k1 k2 k3;exact⟨N+1,_,w',sx,_,q1,a',es,B',kY h1 (h5.trans r1),r2.trans h2,r3,k4⟩
theorem vg{D:World->World->Array Event->Prop}{Stop:Goroutine->World->Prop}(hD: ∀w w' es,D w w' es->∀e∈es,Qq (OV Z) B e/\e.loc≠ .mark .disable/\e.loc≠ .mark .enable):
  ∀{n:Nat} {gs:Array Goroutine} {a:Goroutine} {w:World} {sl:Option (Nat×Nat)} {t:Trace} {q:Nat->Nat},Nu P Z B L gs t a q d->Goes P true AtRel D Stop n a w->
   ∃N gs1 w1 sl1 t1 q1 a1,runNT P N (crowd gs w sl) t=(.next (crowd gs1 w1 sl1),t1)/\gs1.size=gs.size/\Nu P Z B L gs1 t1 a1 q1 d/\∀dd,Stop a1 (w1.at dd):=by
 intro n
 induction n with
 |zero=>intro gs a w sl t q h hG;exact⟨0,gs,w,sl,t,q,a,rfl,rfl,h,λdd=>hG _ ⟨dd,rfl⟩⟩
 |succ n ih=>
  intro gs a w sl t q h hG;rcases hG with hG|⟨ha,hG⟩;exact⟨0,gs,w,sl,t,q,a,rfl,rfl,h,λdd=>hG _ ⟨dd,rfl⟩⟩
  obtain⟨N,gs1,w1,sl1,t1,q1,a1,es,B1,h1,h2,h3,rfl,h4,h5⟩:=ve (w:=w) (sl:=sl) (R:=λa' w' es B'=>B'=B/\Goes P true AtRel D Stop n a' w'/\∀e∈es,e.loc≠ .mark .disable/\e.loc≠ .mark .enable) h ha (λdd=>by
   have hs:=hG (w.at dd) ⟨dd,rfl⟩
   cases hgo:stepG P true a (w.at dd) with
   |go a' w' es=>
    rw[hgo] at hs;exact⟨a',w',es,B,rfl,AP _,λe he=>(hD _ _ _ hs.1 e he).1,rfl,hs.2,λe he=>(hD _ _ _ hs.1 e he).2⟩
   |_=>rw[hgo] at hs;exact hs.elim)
  rw[deafBehind_still h5] at h3;obtain⟨N2,gs2,w2,sl2,t2,q2,a2,k1,k2,k3,k4⟩:=ih (sl:=sl1) h3 h4;exact⟨N+N2,gs2,w2,sl2,t2,q2,a2,EP h1 k1,k2.trans h2,k3,k4⟩
end
structure Since {SR:Nat->Prop} (Z:Nat->Prop) (o o':Own SR) (w w':World):Prop where
 own: ∀b,o'.O b->b<w'.heap.size/\¬Z b
 new: ∀b,o'.O b->o.O b\/w.heap.size<=b
 old: ∀b,o.O b->o'.O b
 keep: ∀b,b<w.heap.size->¬o.O b->w'.heap[b]? =w.heap[b]?
 sz:w.heap.size<=w'.heap.size
 same:w'.tape=w.tape/\w'.os=w.os/\w'.output=w.output
def Ps (P:Program) {SR:Nat->Prop} (Fin:Goroutine->Own SR->Prop) (a:Goroutine) (o:Own SR):Prop:=
 ∀{Z:Nat->Prop} {L:Nat} {gs:Array Goroutine} {w:World} {sl:Option (Nat×Nat)} {t:Trace} {q:Nat->Nat},Nu P Z w.heap.size L gs t a q 0->o.I w->(∀b,o.O b->b<w.heap.size/\¬Z b)->(∀b,SR b->b<w.heap.size/\¬Z b)->(∀b,Z b->b<w.heap.size)->
  ∃N gs' w' sl' t' q' a' o',runNT P N (crowd gs w sl) t=(.next (crowd gs' w' sl'),t')/\gs'.size=gs.size/\Nu P Z w'.heap.size L gs' t' a' q' 0/\Fin a' o'/\o'.I w'/\Since Z o o' w w'
section
variable {P:Program} {SR:Nat->Prop} {Fin:Goroutine->Own SR->Prop}
theorem Ps.fin{a:Goroutine}{o:Own SR}(h:Fin a o):Ps P Fin a o:=λ{_ _ gs w sl t q} h1 h2 h3 _ _=>
 ⟨0,gs,w,sl,t,q,a,o,rfl,rfl,h1,h,h2,h3,λ_ h=>.inl h,λ_ h=>h,λ_ _ _=>rfl,AP _,rfl,rfl,rfl⟩
theorem AJh{SR:Nat->Prop}{o o':Own SR}{w w':World}{es:Array Event}{Z:Nat->Prop}(h:NG o o' w w' es)(ho: ∀b,o'.O b->b<w'.heap.size/\¬Z b)(hS: ∀b,SR b->b<w'.heap.size/\¬Z b):(∀e∈es,Qq (OV Z) w'.heap.size e)/\∀d,deafBehind d es=d:=by
 refine⟨λe he=>?_,λd=>deafBehind_still (λe he=>?_) d⟩
 ·have hk:=h.evs e he;obtain⟨l,wr,sy⟩:=e
  cases l with
  |cell ad=>
   have hb:ad.block<w'.heap.size/\¬Z ad.block:=by
    rcases hk with hk|hk;exact ho _ hk;exact hS _ hk.1
   refine⟨λx hx hz=>?_,hb.1,λa h=>by rw[ofEvent_cell0] at h;cases h⟩;simp only[ofEvent_cell0,MemAct.touch?,BD] at hx;subst hx;exact absurd hz hb.2
  |obj c=>
   have hb:=ho _ hk.1;refine⟨λx hx hz=>?_,?_,λa h=>by cases wr<;>cases sy<;>cases h⟩
   ·have hl:x.loc=.obj c:=by
     cases wr<;>cases sy<;>simp[MemAct.ofEvent,MemAct.touch?] at hx<;>first|(subst hx;rfl)|exact absurd ⟨rfl,rfl⟩ hk.2
    rw[hl] at hz;exact absurd hz hb.2
   cases wr<;>cases sy<;>first|exact absurd ⟨rfl,rfl⟩ hk.2|exact hb.1
  |mark m=>
   cases m with|extern _=>exact⟨λx hx=>by simp[MemAct.ofEvent,MemAct.touch?] at hx,trivial,λa h=>by cases h⟩|noRoom=>exact⟨λx hx=>by simp[MemAct.ofEvent,MemAct.touch?] at hx,trivial,λa h=>by cases h⟩|_=>exact hk.elim
  |output=>exact⟨λx hx hz=>by
    have hl:x.loc=.output:=by
     cases wr<;>cases sy<;>simp[MemAct.ofEvent,MemAct.touch?] at hx<;>(subst hx;rfl)
    rw[hl] at hz;exact hz.elim,by cases wr<;>cases sy<;>trivial,λa h=>by cases wr<;>cases sy<;>cases h⟩
  |_=>exact hk.elim
 have hk:=h.evs e he;constructor;intro hl;rw[hl] at hk;exact hk.elim;intro hl;rw[hl] at hk;exact hk.elim
theorem MP:pq P true (Ps P Fin) where
 Ph:=λ{a o} nx no hr hstep hnext {Z L gs w sl t q} h1 h2 h3 h4 h5=>by
  obtain⟨N,gs1,w1,sl1,t1,q1,a1,es,B1,k1,k2,k3,⟨dd,ra,rB⟩,hp⟩:=ve (w:=w) (sl:=sl) (R:=λa' w' es B'=>(∃dd,a'=nx (w.at dd)/\B'=w'.heap.size/\NG o (no (w.at dd)) (w.at dd) w' es)/\∀d,deafBehind d es=d) h1 hr (λdd=>by
   obtain⟨w',es,e1,e2⟩:=hstep (w.at dd) (o.at h2 dd);have hsz:w.heap.size<=w'.heap.size:=e2.sz
   have ho': ∀b,(no (w.at dd)).O b->b<w'.heap.size/\¬Z b:=λb hb=>by
    rcases (e2.O' b).1 hb with x|x;exact⟨BU (h3 b x).1 hsz,(h3 b x).2⟩;exact⟨x.2,λhz=>by have:=h5 b hz;have:w.heap.size<=b:=x.1;omega⟩
   have hev:=AJh (Z:=Z) e2 ho' (λb hb=>⟨BU (h4 b hb).1 hsz,(h4 b hb).2⟩)
   exact⟨nx (w.at dd),w',es,w'.heap.size,e1,hsz,hev.1,⟨dd,rfl,rfl,e2⟩,hev.2⟩)
  obtain⟨rB,e2⟩:=rB;subst ra rB;rw[hp] at k3;have hsz:w.heap.size<=w1.heap.size:=e2.sz
  obtain⟨N2,gs2,w2,sl2,t2,q2,a2,o2,j1,j2,j3,j4,j5,j6⟩:=hnext (w.at dd) (o.at h2 dd) (sl:=sl1) k3 e2.I' (λb hb=>by
    rcases (e2.O' b).1 hb with x|x;exact⟨BU (h3 b x).1 hsz,(h3 b x).2⟩
    exact⟨x.2,λhz=>by have:=h5 b hz;have:w.heap.size<=b:=x.1;omega⟩) (λb hb=>⟨BU (h4 b hb).1 hsz,(h4 b hb).2⟩) (λb hb=>BU (h5 b hb) hsz)
  refine⟨N+N2,gs2,w2,sl2,t2,q2,a2,o2,EP k1 j1,j2.trans k2,j3,j4,j5,j6.own,λb hb=>?_,λb hb=>j6.old b ((e2.O' b).2 (.inl hb)),λb hb hn=>?_,Ah hsz j6.sz,j6.same.1.trans e2.same.1,j6.same.2.1.trans e2.same.2.1,j6.same.2.2.trans e2.same.2.2⟩
  ·rcases j6.new b hb with x|x
   ·rcases (e2.O' b).1 x with y|y;exact .inl y;exact .inr y.1
   exact .inr (Ah hsz x)
  rw[j6.keep b (BU hb hsz) (λhx=>by
   rcases (e2.O' b).1 hx with y|y;exact hn y
   have:w.heap.size<=b:=y.1;omega)]
  exact e2.keep b hb hn
end
section
variable {P:Program} {mn:Bool} {SR:Nat->Prop} {J:Goroutine->Own SR->Prop} (hJ:pq P mn J) {R:RF SR} {Gb:Nat->Prop} {L:List (Nat×Obj)}
 {fn:FuncId} {T:Array Value} {k:List Item} {D:List Deferred} {ro:Option Nat} {cs:List Frame} {ops:Array Oper} {i:Nat} {rest:List Nat} {op:Oper} {o:Own SR}
include hJ
theorem AJi(v:Nat->Value)(ob:Obj)(ho:ops[i]? =some op)(hw:Region.wanted op (yielded ops T)=true)(hd:ro=none\/∀c,op.op≠ .defer c)(hr: ∀w:World,(execOp (ev T) op).run P w=.ok (.value (v w.heap.size)) (w.alloc ob))(he: ∀w:World,(execOp (ev T) op).events P w #[]= #[])
  (next: ∀n,(∀y∈L.map Prod.fst,y<n)->¬SR n->J (G (fr fn (put T op.dst (v n)) (.inRegion ops rest::k) D ro) cs) (ow R Gb ((n,ob)::L))):
  J (G (fr fn T (.inRegion ops (i::rest)::k) D ro) cs) (ow R Gb L):=by
 refine Nk hJ v ob ho hw hd (λw _=>hr w) (λw _=>he w) λn hn=>next n (λy hy=>?_) λhs=>?_
 ·obtain⟨w,hw',rfl⟩:=hn;obtain⟨p,hp,rfl⟩:=Ag.1 hy;exact (BK.1 (hw'.1 p hp)).1
 obtain⟨w,hw',rfl⟩:=hn;exact Nat.lt_irrefl _ (R.lt w hw'.2 _ hs)
theorem Xq{l:List Oper}(v:Nat->Value)(ob:Obj){T':Nat->Array Value}(next: ∀n,(∀y∈L.map Prod.fst,y<n)->J (G (fr fn (T' n) (.inRegion l.toArray rest::k) D ro) cs) (ow R Gb ((n,ob)::L)))(ho:l[i]? =some op:=by exact rfl)(hw:Region.wanted op (yielded l.toArray T)=true:=by rfl)(hd:ro=none\/∀c,op.op≠ .defer c:=by first|exact .inl rfl|exact .inr (λc h=>by cases h))
  (hr: ∀w:World,(execOp (ev T) op).run P w=.ok (.value (v w.heap.size)) (w.alloc ob):=by intro w;unfold ev;go_simp;try exact rfl) (he: ∀w:World,(execOp (ev T) op).events P w #[]= #[]:=by intro w;unfold ev;first|(simp[go_sem];done)|(simp[go_sem,AJj];done)|simp[go_sem,AJk])
  (hT: ∀n,Nf (put T op.dst (v n)) (T' n):=by intro n;simp only[put];(try walk_nrm);exact rfl):J (G (fr fn T (.inRegion l.toArray (i::rest)::k) D ro) cs) (ow R Gb L):=
 AJi hJ v ob (by simpa using ho) hw hd hr he λn h _=>by have e:put T op.dst (v n)=T' n:=hT n;rw[e];exact next n h
theorem AGq{g g':Goroutine}{L':List (Nat×Obj)}{b:Nat}{ob ob':Obj}(hb:(b,ob)∈L)(hS: ¬SR b)(eY: ∀y,y∈L'.map Prod.fst↔y∈L.map Prod.fst)(hL: ∀p∈L',p=(b,ob')\/(p∈L/\p.1≠b))
  (h: ∀w:World,w.heap[b]? =some ob->∃es,stepG P mn g w=.go g' {w with heap:=w.heap.setIfInBounds b ob'} es/\∀e∈es,∃a x,e=⟨.cell a,x,false⟩/\a.block=b) (hr:g.status=.running)
  (next:J g' (ow R Gb L')):J g (ow R Gb L):=by
 refine hJ.Ph (λ_=>g') (λ_=>ow R Gb L') hr (λw hw=>?_) λ_ _=>next;have h1:w.heap[b]? =some ob:=hw.1 _ hb;obtain⟨es,h2,h3⟩:=h w h1;have hlt:b<w.heap.size:=(BK.1 h1).1;have hmem:b∈L.map Prod.fst:=Dz hb;refine⟨_,es,h2,⟨λp hp=>?_,?_⟩,AY,λc=>?_,λc hc hn=>?_,⟨rfl,rfl,rfl⟩,λe he=>?_⟩
 ·show (w.heap.setIfInBounds b ob')[p.1]? =_;rcases hL p hp with rfl|⟨hp,hne⟩;simp[hlt];rw[BO (λe=>hne e.symm)];exact hw.1 p hp
 exact R.st w _ hw.2 (λc hc=>BO (λe=>hS (by rw[e];exact hc))) AY
 ·simp only[ow,eY];constructor;exact .inl;rintro (x|⟨x1,x2⟩);exact x;have:c<(w.heap.setIfInBounds b ob').size:=x2;simp at this;omega
 exact BO (λe=>hn (.inr (by rw[<- e];exact hmem)));obtain⟨a,x,rfl,ha⟩:=h3 e he;exact .inl (.inr (by rw[ha];exact (eY b).2 hmem))
omit hJ in
theorem vk(w:World){b:Nat}{x v:Value}{t:TypeId}{fr:Nat×Nat}(h:w.heap[b]? =some (.cells #[x] t fr)):w.setCell ⟨b,0,none⟩ v={w with heap:=w.heap.setIfInBounds b (.cells #[v] t fr)}:=by
 have hlt:b<w.heap.size:=(BK.1 h).1
 have:(w.setCell ⟨b,0,none⟩ v).heap=w.heap.setIfInBounds b (.cells #[v] t fr):=by
  unfold World.setCell;apply G7;intro i;simp only[Jz];by_cases e:b=i
  ·subst e;rw[h];simp[hlt]
  rw[BO e,if_neg e]
 have e:w.setCell ⟨b,0,none⟩ v={w with heap:=(w.setCell ⟨b,0,none⟩ v).heap}:=rfl;rw[e,this]
theorem ACZ{L':List (Nat×Obj)}{b:Nat}{x v:Value}{t:TypeId}(hb:(b,.cells #[x] t)∈L)(hS: ¬SR b)(eY: ∀y,y∈L'.map Prod.fst↔y∈L.map Prod.fst)(hL: ∀p∈L',p=(b,.cells #[v] t)\/(p∈L/\p.1≠b))
  (ho:ops[i]? =some op) (hw:Region.wanted op (yielded ops T)=true) (hd:ro=none\/∀c,op.op≠ .defer c)
  (hr: ∀w:World,w.cell? ⟨b,0,none⟩=some x->w.frozen? ⟨b,0,none⟩=false->(execOp (ev T) op).run P w=.ok .skip (w.setCell ⟨b,0,none⟩ v)) (he: ∀w:World,w.cell? ⟨b,0,none⟩=some x->w.frozen? ⟨b,0,none⟩=false->∀e∈(execOp (ev T) op).events P w #[],e=⟨.cell ⟨b,0,none⟩,true,false⟩)
  (next:J (G (fr fn (put T op.dst undef) (.inRegion ops rest::k) D ro) cs) (ow R Gb L')):J (G (fr fn T (.inRegion ops (i::rest)::k) D ro) cs) (ow R Gb L):=by
 refine AGq hJ (ob':=.cells #[v] t) hb hS eY hL (λw h=>?_) rfl next;(have h1:w.cell? ⟨b,0,none⟩=some x:=by simp[World.cell?,h]);(have h2:w.frozen? ⟨b,0,none⟩=false:=by simp[World.frozen?,h]);refine⟨seen P fn ((execOp (ev T) op).events P w #[]),?_,λe hx=>⟨⟨b,0,none⟩,true,he w h1 h2 e (Du hx),rfl⟩⟩;rw[AJR ho hw hd (hr w h1 h2),vk w h]
theorem pjs{l:List Oper}(b:Nat){x v:Value}{t:TypeId}{T':Array Value}(next:J (G (fr fn T' (.inRegion l.toArray rest::k) D ro) cs) (ow R Gb (L.map λp=>if p.1=b then (b,.cells #[v] t) else p)))(hS: ¬SR b:=by exact λh=>h)(ho:l[i]? =some op:=by exact rfl)
  (hw:Region.wanted op (yielded l.toArray T)=true:=by rfl) (hd:ro=none\/∀c,op.op≠ .defer c:=by first|exact .inl rfl|exact .inr (λc h=>by cases h)) (hb:(b,.cells #[x] t)∈L:=by simp;done)
  (hr: ∀w:World,w.cell? ⟨b,0,none⟩=some x->w.frozen? ⟨b,0,none⟩=false->(execOp (ev T) op).run P w=.ok .skip (w.setCell ⟨b,0,none⟩ v):=by intro w f0 f1;unfold ev;go_simp;try exact rfl)
  (he: ∀w:World,w.cell? ⟨b,0,none⟩=some x->w.frozen? ⟨b,0,none⟩=false->∀e∈(execOp (ev T) op).events P w #[],e=⟨.cell ⟨b,0,none⟩,true,false⟩:=by intro w f0 f1;unfold ev;intro e he;simp[go_sem,f0,f1] at he;exact he)
  (hT:Nf (put T op.dst undef) T':=by simp only[put];(try walk_nrm);exact rfl):J (G (fr fn T (.inRegion l.toArray (i::rest)::k) D ro) cs) (ow R Gb L):=by
 refine ACZ hJ (L':=L.map λp=>if p.1=b then (b,.cells #[v] t) else p) hb hS (λy=>?_) (λp hp=>?_) (by simpa using ho) hw hd hr he (by have e:put T op.dst undef=T':=hT;rw[e];exact next)
 ·rw[Bq,ES (g:=Prod.fst) λp _=>?_];show (if p.1=b then (b,Obj.cells #[v] t) else p).1=p.1;split
  ·rename_i h;exact h.symm
  rfl
 obtain⟨q,hq,rfl⟩:=Ag.1 hp;split;exact .inl rfl;rename_i h;exact .inr ⟨hq,h⟩
omit hJ in
theorem ACa{x:Item}(h: ∀k',Go.RowKit.Hid (k'=k)->J (G (fr fn T (x::k') D ro) cs) o):J (G (fr fn T (x::k) D ro) cs) o:=h k rfl
end
theorem QF{p q:Prop}(n:p)(h:p->q:=by intro n;first|((with_reducible refine Cc hJ (λw=>Jk) ?_ n)<;>rfl)|((with_reducible refine Cc hJ (λw=>s_reg) ?_ n)<;>rfl)|((with_reducible refine Cc hJ (λw=>FX) ?_ n)<;>rfl)|((with_reducible refine Cc hJ (λw=>Pj) ?_ n)<;>rfl)|((with_reducible refine Cc hJ (λw=>KE) ?_ n)<;>rfl)|((with_reducible refine Cc hJ (λw=>NR) ?_ n)<;>rfl)|((with_reducible refine Cc hJ (λw=>Qc) ?_ n)<;>rfl)|((with_reducible refine Cc hJ (λw=>Pm ?_) ?_ n)<;>rfl)|((with_reducible refine Cc hJ (λw=>Pn ?_) ?_ n)<;>rfl)|exact D9 hJ n|exact Cc hJ (λw=>Jk) rfl n|exact Cc hJ (λw=>s_reg) rfl n|exact Cc hJ (λw=>FX) rfl n|exact Cc hJ (λw=>Pj) rfl n|exact Cc hJ (λw=>KE) rfl n|exact Cc hJ (λw=>NR) rfl n|exact Cc hJ (λw=>Qc) rfl n|exact Cc hJ (λw=>Pm rfl) rfl n|exact Cc hJ (λw=>Pn rfl) rfl n):q:=h n
theorem AJl{q:Prop}(H:Nat->Nat->Nat->Nat->Prop){p:Nat->Nat->Nat->Nat->Prop}(k:(∀a b c d,H a b c d->p a b c d)->q)(h: ∀a b c d,H a b c d->p a b c d):q:=k h
noncomputable def ADv:Code:=match EH Tryz.f46 with| .seq _ (.seq _ (.seq _ c))=>c|_=>.skip
noncomputable def ops3:Array Oper:=match ADv with| .seq (.region _ o _) _=>o|_=>#[]
noncomputable def Si:Code:=match ADv with| .seq _ c=>c|_=>.skip
theorem AJm{p:Array Value}{w:World}:(callFunc 74 p).events Tryz.prog w #[]= #[]:=by rfl
theorem AJj(w:World):(Instr.makeChan 157 (.int .i64 0)).events Tryz.prog w #[]= #[]:=by simp[Instr.makeChan,asInt,go_sem]
theorem AJk(w:World):(Instr.makeChan 158 (.int .i64 0)).events Tryz.prog w #[]= #[]:=by simp[Instr.makeChan,asInt,go_sem]
section
variable {J:Goroutine->Own (λ_:Nat=>False)->Prop} (hJ:pq Tryz.prog true J) {R:RF (λ_:Nat=>False)} {Gb:Nat->Prop} {fv:Fn} {ps qs:Array Value} {to:Value} {cs:List Frame}
include hJ
theorem AGr (next: ∀xb c1 c2 b1 b2 wg,[wg,b2,b1,c2,c1,xb].Nodup->J (G (Frame.enter Tryz.prog 74 #[.pointer (some ⟨wg,0,none⟩),.int .i64 1] .normal)
   (fr 46 #[.func fv ps qs,to,.pointer (some ⟨xb,0,none⟩),undef,.int .i64 0,.int .i64 0,.pointer (some ⟨b1,0,none⟩),.pointer (some ⟨b2,0,none⟩),.pointer (some ⟨wg,0,none⟩),undef,.chan (some c1),.chan (some c2),undef,undef,undef,undef,undef,undef,undef,undef,undef,undef,undef,undef,undef,undef,undef,undef,undef] [.inRegion ops3 [0],.code Si] [] none::cs))
   (ow R Gb [(wg,.cells #[.int .u64 0,.int .u32 0] 168),(b2,.cells #[.chan (some c2)] 158),(b1,.cells #[.chan (some c1)] 157),(c2,.chan 0 #[] false 0 0 false),(c1,.chan 0 #[] false 0 0 false),(xb,.cells #[.func fv ps qs] 106)])):
  J (G (Frame.enter Tryz.prog 46 #[.func fv ps qs,to] .normal) cs) (ow R Gb []):=by
 have Next:=AQ next;clear next;rw[H8 Tryz.func46 rfl];simp only[Tryz.f46,CG,List.length_cons,List.length_nil,Nat.reduceAdd,Nat.reduceSub,DY,Array.replicate_zero,DZ,Df,List.nil_append,List.cons_append];(iterate 2 refine QF ?_);refine Xq hJ (λn=>.pointer (some ⟨n,0,none⟩)) (.cells #[.func fv ps qs] 106) λxb hxb=>?_;(iterate 4 refine QF ?_);refine ACa λk1 hk1=>?_;apply AJl (λc1 c2 b1 b2=>[b2,b1,c2,c1,xb].Nodup)
 ·intro fin;refine kK hJ [[0,1,2,3,4,5],[0,1,3,2,4,5],[0,2,1,3,4,5],[0,2,3,1,4,5],[0,2,3,4,1,5],[0,3,1,2,4,5],[0,3,2,1,4,5],[0,3,2,4,1,5],[1,0,2,3,4,5],[1,0,3,2,4,5],[1,2,0,3,4,5],[1,2,3,0,4,5],[1,3,0,2,4,5],[1,3,2,0,4,5],[2,0,1,3,4,5],[2,0,3,1,4,5],[2,0,3,4,1,5],[2,1,0,3,4,5],[2,1,3,0,4,5],[2,3,0,1,4,5],[2,3,0,4,1,5],[2,3,1,0,4,5],[3,0,1,2,4,5],[3,0,2,1,4,5],[3,0,2,4,1,5],[3,1,0,2,4,5],[3,1,2,0,4,5],[3,2,0,1,4,5],[3,2,0,4,1,5],[3,2,1,0,4,5]] (.inr Ap) Ap λl hl=>?_;have Fin:=AQ fin;clear fin;simp only[AA,AB,or_false] at hl;rcases hl with rfl|rfl|rfl|rfl|rfl|rfl|rfl|rfl|rfl|rfl|rfl|rfl|rfl|rfl|rfl|rfl|rfl|rfl|rfl|rfl|rfl|rfl|rfl|rfl|rfl|rfl|rfl|rfl|rfl|rfl
  all_goals
   iterate 6 first
    |(refine Xq hJ (i:=0) (λn=>.chan (some n)) (.chan 0 #[] false 0 0 false) λc1 hc1=>?_;simp only[AL,BC,AA,AB,or_false,forall_eq_or_imp,forall_eq] at hc1)|(refine Xq hJ (i:=1) (λn=>.chan (some n)) (.chan 0 #[] false 0 0 false) λc2 hc2=>?_;simp only[AL,BC,AA,AB,or_false,forall_eq_or_imp,forall_eq] at hc2)|(refine Xq hJ (i:=2) (λn=>.pointer (some ⟨n,0,none⟩)) (.cells #[.chan none] 157) λb1 hb1=>?_;simp only[AL,BC,AA,AB,or_false,forall_eq_or_imp,forall_eq] at hb1)|(refine Xq hJ (i:=3) (λn=>.pointer (some ⟨n,0,none⟩)) (.cells #[.chan none] 158) λb2 hb2=>?_;simp only[AL,BC,AA,AB,or_false,forall_eq_or_imp,forall_eq] at hb2)|(refine pjs hJ (i:=4) b1 (x:=.chan none) (v:=.chan (some c1)) (t:=157) ?_;simp only[AL,BC,↓reduceIte];repeat rw[if_neg Ac])|(refine pjs hJ (i:=5) b2 (x:=.chan none) (v:=.chan (some c2)) (t:=158) ?_;simp only[AL,BC,↓reduceIte];repeat rw[if_neg Ac])
   rw[WZ (L':=[(b2,.cells #[.chan (some c2)] 158),(b1,.cells #[.chan (some c1)] 157),(c2,.chan 0 #[] false 0 0 false),(c1,.chan 0 #[] false 0 0 false),(xb,.cells #[.func fv ps qs] 106)]) (by intro p;simp only[AA,AB,or_false]<;>constructor<;>(rintro (h|h|h|h|h)<;>simp[h]))];exact Fin.out c1 c2 b1 b2 (by simp;omega)
 intro c1 c2 b1 b2 hd;have hk1:=hk1.out;subst hk1;(iterate 3 refine QF ?_);refine Xq hJ (λn=>.pointer (some ⟨n,0,none⟩)) (.cells #[.int .u64 0,.int .u32 0] 168) λwg hwg=>?_;(iterate 3 refine QF ?_);refine Qx hJ (f:=74) (args:=#[.pointer (some ⟨wg,0,none⟩),.int .i64 1]) rfl rfl (.inl rfl) (λw hw=>?_) (λw hw=>?_) ?_;rw[FY (op:=_) (f:=74) (vs:=#[.pointer (some ⟨wg,0,none⟩),.int .i64 1]) rfl (by simp only[BX,AL,BC];rfl)];rfl;rw[FY (op:=_) (f:=74) (vs:=#[.pointer (some ⟨wg,0,none⟩),.int .i64 1]) rfl (by simp only[BX,AL,BC];rfl)];exact GN AJm;simp only[AL,BC,AA,AB,or_false,forall_eq_or_imp,forall_eq] at hwg;exact Next.out xb c1 c2 b1 b2 wg (by simp at hd⊢;omega)
end
open Go.Conc.Lib Go.ConcX Go.ConcX.Gen
def ANH (wg:Nat) (act:MemAct):Prop:=(∀B,wg<B->act.low B)/\(∀a,act≠ .mark (.release a))/\∀x b,act.touch? =some x->x.loc.blk=some b->b=wg
abbrev AJn (wg:Nat):Shy wg wg where
 ok:=ANH wg
 atomicWg:=λa wr h=>⟨λB hB=>by show a.block<B;omega,λ_ h=>(by cases h),λx b hx hb=>by simp only[MemAct.touch?,BD] at hx;subst hx;simp only[Loc.blk,BD] at hb;omega⟩
 readWg:=λa h=>⟨λB hB=>by show a.block<B;omega,λ_ h=>(by cases h),λx b hx hb=>by simp only[MemAct.touch?,BD] at hx;subst hx;simp only[Loc.blk,BD] at hb;omega⟩
 writeWg:=λa h=>⟨λB hB=>by show a.block<B;omega,λ_ h=>(by cases h),λx b hx hb=>by simp only[MemAct.touch?,BD] at hx;subst hx;simp only[Loc.blk,BD] at hb;omega⟩
 theirs:=λa wr h=>⟨λB hB=>by show a.block<B;omega,λ_ h=>(by cases h),λx b hx hb=>by simp only[MemAct.touch?,BD] at hx;subst hx;simp only[Loc.blk,BD] at hb;omega⟩
 disable:=⟨λ_ _=>trivial,λ_ h=>(by cases h),λx b hx=>by simp[MemAct.touch?] at hx⟩
 enable:=⟨λ_ _=>trivial,λ_ h=>(by cases h),λx b hx=>by simp[MemAct.touch?] at hx⟩
 relMerge:=⟨λ_ h=>h,λ_ h=>(by cases h),λx b hx=>by simp[MemAct.touch?] at hx⟩
 acquire:=⟨λ_ h=>h,λ_ h=>(by cases h),λx b hx=>by simp[MemAct.touch?] at hx⟩
 go1:=⟨λ_ _=>trivial,λ_ h=>(by cases h),λx b hx=>by simp[MemAct.touch?] at hx⟩
 start:=⟨λ_ _=>trivial,λ_ h=>(by cases h),λx b hx=>by simp[MemAct.touch?] at hx⟩
 stop:=λ_ _=>True
theorem rV{Z:Nat->Prop}{l:Loc}(h:OV Z l): ∃b,l.blk=some b/\Z b:=by
 cases l<;>first|exact⟨_,rfl,h⟩|exact h.elim
section
variable {P:Program} {L:WgLink} (H:WgLib P L) {Z:Nat->Prop} {B Lr:Nat} {gs:Array Goroutine} {w:World} {sl:Option (Nat×Nat)} {t:Trace} {q:Nat->Nat}
 {b₀:Frame} {a₀:Act} {ops₀:Array Oper} {i₀:Nat} {rest₀:List Nat} {k₀:List Item} {cs:List Frame} {wg:Nat}
include H
theorem AGs{a:Goroutine}(hS:Nu P Z B Lr gs t a q 0)(hwg:w.heap[wg]? =some (.cells #[.int .u64 0,.int .u32 0] L.tWg))(hB:wg<B)(hZ: ¬Z wg)
  (ha:a=G ((base L.add).at ⟨#[.pointer (some ⟨wg,0,none⟩),.int .i64 1,undef,undef,undef,undef,undef,undef,undef,undef,undef,undef,undef,undef,undef,undef,undef,undef,undef,undef,undef,undef,undef,undef,undef,undef,undef,undef,undef,undef,undef,undef,undef,undef,undef,undef,undef,undef,undef,undef,undef,undef,undef,undef,undef,undef,undef,undef,undef,undef,undef,undef,undef,undef,undef,undef,undef,undef,undef,undef,undef,undef,undef,undef,undef,undef,undef,undef,undef,undef,undef,undef,undef,undef,undef,undef,undef,undef,undef,undef,undef,undef,undef,undef,undef,undef,undef,undef,undef,undef,undef,undef,undef,undef,undef,undef,undef,undef,undef,undef,undef,undef,undef,undef,undef,undef,undef,undef,undef,undef,undef,undef,undef,undef,undef,undef,undef],[]⟩ [.code (body_add L)]) (b₀.at a₀ (.inRegion ops₀ (i₀::rest₀)::k₀)::cs)):
  ∃N gs' sl' t' q' d,runNT P N (crowd gs w sl) t=(.next (crowd gs' ((w.setCell (FU wg) (.int .u64 KQ)).at d) sl'),t')/\gs'.size=gs.size/\Nu P Z B Lr gs' t' (G (b₀.at (a₀.put ((ops₀[i₀]?).bind (·.dst)) (.tuple #[])) (.inRegion ops₀ rest₀::k₀)) cs) q' 0:=by
 letI:=AJn wg
 have hD: ∀w w' es,DE (EvS wg wg) w w' es->∀e∈es,Qq (OV Z) B e/\e.loc≠ .mark .disable/\e.loc≠ .mark .enable:=by
  intro w w' es h e he;obtain⟨_,_,_,h4,h5,h6,h7,h8⟩:=h e he;refine⟨⟨λx hx hz=>?_,h6 B hB,h7⟩,λhl=>h4 ?_,λhl=>h5 ?_⟩
  ·obtain⟨b,h9,h10⟩:=rV hz;exact absurd (h8 x b hx h9▸h10) hZ
  obtain⟨l,wr,sy⟩:=e;simp only at hl;subst hl;rfl;obtain⟨l,wr,sy⟩:=e;simp only at hl;subst hl;rfl
 have evm: ∀m:Mark,(m=.disable\/m=.enable)->∀e∈(#[Go.ConcX.mk m]:Array Event),Qq (OV Z) B e:=by
  intro m hm e he;rw[Array.mem_singleton] at he;subst he;rcases hm with rfl|rfl<;>exact⟨λx hx=>by simp[Go.ConcX.mk,MemAct.ofEvent,MemAct.touch?] at hx,trivial,λa h=>by cases h⟩
 have hG:=addPos (Wg:=wg) (C:=wg) (b₀:=b₀) (a₀:=a₀) (ops₀:=ops₀) (i₀:=i₀) (rest₀:=rest₀) (k₀:=k₀) (cs:=cs) (mT:=0)
  (StopG:=λg w'=>g=G (b₀.at (a₀.put ((ops₀[i₀]?).bind (·.dst)) (.tuple #[])) (.inRegion ops₀ rest₀::k₀)) cs/\∃d,w'=(w.setCell (FU wg) (.int .u64 KQ)).at d) H w hwg
  (Goes.stop λw₁ h₁=>by obtain⟨d,rfl⟩:=h₁;exact⟨rfl,d,rfl⟩)
 rw[<- ha] at hG;obtain⟨N1,gs1,w1,sl1,t1,q1,a1,r1,z1,S1,st1⟩:=vg hD (sl:=sl) hS hG
 obtain⟨N2,gs2,w2,sl2,t2,q2,a2,es2,B2,r2,z2,S2,rfl,rfl,n2,G2⟩:=ve (w:=w1) (sl:=sl1) (R:=λa' w' es B'=>B'=B/\es= #[Go.ConcX.mk .disable]/\∃n,Goes P true AtRel (DE (EvS wg wg)) _ n a' w') S1 (st1 0).1 (λdd=>by
  obtain⟨_,a',h1,h2⟩:=st1 dd
  exact⟨a',_,_,B,h1,AP _,evm _ (.inl rfl),rfl,rfl,h2⟩)
 obtain⟨N3,gs3,w3,sl3,t3,q3,a3,r3,z3,S3,st3⟩:=vg hD (sl:=sl2) S2 G2
 obtain⟨N4,gs4,w4,sl4,t4,q4,a4,es4,B4,r4,z4,S4,rfl,rfl,n4,G4⟩:=ve (w:=w3) (sl:=sl3) (R:=λa' w' es B'=>B'=B2/\es= #[Go.ConcX.mk .enable]/\∃n,Goes P true AtRel (DE (EvS wg wg)) _ n a' w') S3 (st3 0).1 (λdd=>by
  obtain⟨_,a',h1,h2⟩:=st3 dd
  exact⟨a',_,_,B2,h1,AP _,evm _ (.inr rfl),rfl,rfl,h2⟩)
 obtain⟨N5,gs5,w5,sl5,t5,q5,a5,r5,z5,S5,st5⟩:=vg hD (sl:=sl4) S4 G4;obtain⟨h5,d5,e5⟩:=st5 w5.drawn;have e5:w5=(w.setCell (FU wg) (.int .u64 KQ)).at d5:=e5;subst e5 h5;refine⟨_,gs5,sl5,t5,q5,d5,EP (EP (EP (EP r1 r2) r3) r4) r5,Ac,?_⟩;exact S5
end
theorem ACb(wg:Nat):Frame.enter Tryz.prog 74 #[.pointer (some ⟨wg,0,none⟩),.int .i64 1] .normal=(base link.add).at ⟨#[.pointer (some ⟨wg,0,none⟩),.int .i64 1,undef,undef,undef,undef,undef,undef,undef,undef,undef,undef,undef,undef,undef,undef,undef,undef,undef,undef,undef,undef,undef,undef,undef,undef,undef,undef,undef,undef,undef,undef,undef,undef,undef,undef,undef,undef,undef,undef,undef,undef,undef,undef,undef,undef,undef,undef,undef,undef,undef,undef,undef,undef,undef,undef,undef,undef,undef,undef,undef,undef,undef,undef,undef,undef,undef,undef,undef,undef,undef,undef,undef,undef,undef,undef,undef,undef,undef,undef,undef,undef,undef,undef,undef,undef,undef,undef,undef,undef,undef,undef,undef,undef,undef,undef,undef,undef,undef,undef,undef,undef,undef,undef,undef,undef,undef,undef,undef,undef,undef,undef,undef,undef,undef,undef,undef],[]⟩ [.code (body_add link)]:=by kernel_rfl
noncomputable def ops4:Array Oper:=match Si with| .seq (.region _ o _) _=>o|_=>#[]
noncomputable def Vd:Code:=match Si with| .seq _ c=>c|_=>.skip
section
variable {SR:Nat->Prop} {J:Goroutine->Own SR->Prop} (hJ:pq Tryz.prog true J) {o:Own SR} {cs:List Frame} {a0 a1 a3 a9 Wh Oa a16 a17 Nq Nr a20 a21 a22 a23 a24 a25 a26 a27 a28:Value} {xb c1 c2 b1 b2 wg:Nat}
include hJ
theorem AGt(next:J (G (fr 46 #[a0,a1,.pointer (some ⟨xb,0,none⟩),a3,.int .i64 0,.int .i64 0,.pointer (some ⟨b1,0,none⟩),.pointer (some ⟨b2,0,none⟩),.pointer (some ⟨wg,0,none⟩),a9,.chan (some c1),.chan (some c2),.tuple #[],.func (.func 75) #[] #[.pointer (some ⟨wg,0,none⟩),.pointer (some ⟨b1,0,none⟩),.pointer (some ⟨xb,0,none⟩),.pointer (some ⟨b2,0,none⟩)],Wh,Oa,a16,a17,Nq,Nr,a20,a21,a22,a23,a24,a25,a26,a27,a28] [.inRegion ops4 [1],.code Vd] [] none) cs) o){KF:Value}:
  J (G (fr 46 #[a0,a1,.pointer (some ⟨xb,0,none⟩),a3,.int .i64 0,.int .i64 0,.pointer (some ⟨b1,0,none⟩),.pointer (some ⟨b2,0,none⟩),.pointer (some ⟨wg,0,none⟩),a9,.chan (some c1),.chan (some c2),.tuple #[],KF,Wh,Oa,a16,a17,Nq,Nr,a20,a21,a22,a23,a24,a25,a26,a27,a28] [.inRegion ops3 [],.code Si] [] none) cs) o:=by
 have Next:=AQ next;clear next;have el:Si=Si:=rfl
 conv at el=>lhs;simp only[Si,ADv,EH,Tryz.f46,Option.getD_some]
 rw[<- el];clear el;(iterate 3 refine QF ?_);refine D9 hJ ?_ (he:=by intro w hw;unfold ev;simp[go_sem,Instr.makeFunc]);exact Next.out
end
theorem APQ{cs:List Frame}{T:Array Value}{q:Array Value}{w:World}(hT:ev T (.tmp 13)=.func (.func 75) #[] q):stepG Tryz.prog true (G (fr 46 T [.inRegion ops4 [1],.code Vd] [] none) cs) w=.spawn (G (fr 46 T [.inRegion ops4 [],.code Vd] [] none) cs) (born Tryz.prog {target:=.fn (.func 75) q,args:=#[]}) w #[]:=by
 obtain⟨og,hog,APR,APS,APT⟩: ∃og,ops4[1]? =some og/\og.op=.go {callee:=.value (.tmp 13),args:=#[],argTypes:=#[]}/\(∀T,Region.wanted og T=true)/\og.dst=none:=⟨_,rfl,rfl,λ_=>rfl,rfl⟩
 have hx:execOp (ev T) og=pure (.spawn {target:=.fn (.func 75) q,args:=#[]}):=by
  unfold execOp;simp[APR,resolve,Deferred.ofValue,hT]
 rw[Qd (kd:=false) hog (APS _) (.inl rfl),hx];(have hf:(fr 46 T [.inRegion ops4 [1],.code Vd] [] none).finish undef=fr 46 T [.inRegion ops4 [],.code Vd] [] none:=by rw[EE hog,APT];rfl);rw[<- hf];rfl
section
variable {C:Cx} (hP:C.P=Tryz.prog) {R:RF C.SR} {s:ByteArray} {sz:Nat} (hCs: ∀k xv bk ob,C.Cs k xv bk ob->Piece C.SR s sz k xv bk ob) (hNN:s.size<=C.N*sz) (hsz:1<=sz) (hsz2:(sz:Int)<=9223372036854775807) (hs:s.size<=1073741824)
 {sb:Nat} (hsb:C.SR sb) (hrd: ∀w,R.R w->w.cell? ⟨sb,0,none⟩=some (.chan (some C.bs))) (hlive: ∃w,Live C w) {Kp:Frame->List Frame->World->Prop} (Bz: ∀f ts v,Kp f ts v->ts=[]/\f.mode=.returning)
 {c0:Frame} {cs:List Frame} {cs0:List Frame}
 {b1:Nat} (hb1:C.SR b1) (AGu: ∀w,R.R w->w.cell? ⟨b1,0,none⟩=some (.chan (some C.bc)))
include hP hCs hNN hsz hsz2 hs hsb hrd hlive Bz hb1 AGu
theorem ACc{to to':Value}{v:World}{ρ:Rn}(h:OG R ρ)(hev:Ev Ae Kp (Frame.enter Ae 46 #[FD 79 s sz,to] .normal) (c0::cs) v)(OX:ND Ae Kp ⟨Frame.enter Ae 46 #[FD 79 s sz,to] .normal,c0::cs,v⟩)(hto:Au K2.F ρ to to')
  {a0 a2 a3 a9 a10 a11 a12 KF Wh Oa a16 a17 Nq Nr a20 a21 a22 a23 a24 a25 a26 a27 a28:Value}:
  PM C (AGl C R sb Kp c0 cs cs0 ⟨Frame.enter Ae 46 #[FD 79 s sz,to] .normal,c0::cs,v⟩ ρ) .work 0 (G (fr 46 #[a0,to',a2,a3,.int .i64 0,.int .i64 0,.pointer (some ⟨b1,0,none⟩),.pointer (some ⟨sb,0,none⟩),.pointer (some ⟨C.wg,0,none⟩),a9,a10,a11,a12,KF,Wh,Oa,a16,a17,Nq,Nr,a20,a21,a22,a23,a24,a25,a26,a27,a28] [.inRegion ops4 [],.code Vd] [] none) cs0) (og K2.F 2 R ρ v h):=by
 have Ns: ∀f ts v,Kp f ts v->ts=[]:=λf ts v x=>(Bz f ts v x).1;obtain⟨s',hs',hn⟩:=AJa (Kp:=Kp) Ns (Good:=λs'=>s'=⟨fr 46 (Ru (FD 79 s sz) to (.tuple #[.string s,.int .i64 sz]) s 0 0 sz 0 undef undef undef undef undef undef undef undef undef undef) [.code Ai.loop,.inLoop Ai.loop,.inBlock 0,.code .ret] [] none,c0::cs,v⟩) (to:=to) (s:=s) (n:=sz) (cs:=cs) (c0:=c0) (v:=v) (.fin rfl);subst hs'
 have head:=kX (cs0:=cs0) (NH:=.tuple #[.string s,.int .i64 sz]) (r9:=undef) (r10:=undef) (r11:=undef) (r12:=undef) (r13:=undef) (Jd:=undef) (Hm:=undef) (r16:=undef) (Ho:=undef) (Nl:=undef) (cnt:=0) (e:=0) (k:=0) (lo:=0) (to:=to) (to':=to') (v:=v) (a0:=a0) (a2:=a2) (a3:=a3) (a6:=.pointer (some ⟨b1,0,none⟩)) (a9:=a9) (a10:=a10) (a11:=a11) (a12:=a12) (KF:=KF) (Oa:=Oa) (a16:=a16) (a17:=a17) (Nq:=Nq) (Nr:=Nr) (a20:=a20) (a21:=a21) (a22:=a22) (a23:=a23) (a24:=a24) (a25:=a25) (a26:=a26) (a27:=a27) (a28:=a28)
  hP hCs hNN hsz hsz2 hs hsb hrd hlive Bz ⟨Frame.enter Ae 46 #[FD 79 s sz,to] .normal,c0::cs,v⟩ ρ h (λst hst=>AFC hP hCs hNN hsz hsz2 hs hsb hrd hlive Bz _ ρ (Ev.OU (s:=⟨_,_,_⟩) hev (hst.trans hn)) (λs'' h=>OX s'' (h.trans (hst.trans hn)))) hn (.refl _) AY hto
 have Head:=AQ head;have fB: ∀w,(og K2.F 2 R ρ v h).I w->w.cell? ⟨b1,0,none⟩=some (.chan (some C.bc)):=λw hw=>AGu w hw.2;clear head hn hev OX Ns hto AGu hrd Bz hNN hCs hsz hsz2 hs;have el:Vd=Vd:=rfl
 conv at el=>lhs;simp only[Vd,Si,ADv,EH,Tryz.f46,Option.getD_some]
 rw[<- el];clear el;(iterate 4 refine pz ?_);refine D9 (OH hP) ?_ (hr:=by intro w hw;have f0:=fB w hw;unfold ev;go_simp;exact rfl) (he:=by intro w hw;have f0:=fB w hw;unfold ev;simp[go_sem,f0];exact⟨.inr hb1,rfl⟩);(iterate 2 refine pz ?_);refine Cc (OH hP) (λw=>iY) rfl ?_;exact Head.out
end
end Go.Proofs.YtkkgcebhfghdnaaGreatDoor
