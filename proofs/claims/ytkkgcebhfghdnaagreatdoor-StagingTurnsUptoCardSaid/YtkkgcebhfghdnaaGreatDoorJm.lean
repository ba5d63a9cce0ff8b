/- Part 13 of what that rests on; no condition. -/
import Derived.Test.YtkkgcebhfghdnaaGreatDoorJl
import Derived.Conc.CrowdTrace
import Derived.Conc.FxGenLone
import Derived.Conc.WalkWords
set_option maxRecDepth 100000
set_option maxHeartbeats 8000000
open Go.Conc renaming getElem?_append_cases→Ya, deafBehind_still→KT, ofEvent_cell0→NH, runT_crowd_go→YZ, Deaf_other→Ll, touchAt→Il
open Go.Goroutine.mk renaming injEq→Gf
open Option renaming getD_some→Dt, none→AB, some→AA
open Go.MemAct renaming ofEvent→Cb, touch?→DK
open Go.MemOp renaming ofEvents→DX
open Go.Region renaming wanted→DV
open Go.World renaming cell?→PU
open Go.Frame renaming enter→BV
open Go.Sem renaming runT_eq→Ik
open Go renaming callMethod→PZ, deafBehind→Ee, Goroutine→Ac, Question→Fj, Program→BL, execOp→BG, Value→AP, undef→AU, World→AL, Event→Bc, Frame→AX, stepG→Ae, Trace→CB, runNT→D8
open Prod renaming fst→Aa
open Go.ConcN renaming sumTo→Dz
namespace Go.Proofs.YtkkgcebhfghdnaaGreatDoor
open Go Go.Conc Go.RowKit
theorem ALt{V:BL}{Kp:AX->List AX->AL->Prop}(Bv: ∀f ts v,Kp f ts v->ts=[]){f c0:AX}{cs:List AX}{v:AL}(hev:Ev V Kp f (c0::cs) v)(t:Nat->Fj->Nat)(ht: ∀j,j<v.drawn->t j=v.tape j):
  ∃F S W es,Ae V true (G f (c0::cs++[door V])) (v.DL t)=.go (G F (S++[door V])) W es/\Nx V Kp ⟨F,S,W⟩ ⟨f,c0::cs,v⟩/\Ev V Kp F S W:=by
 cases hev with
 |stop h=>cases Bv _ _ _ h|step Fx Sx Wx h1 h2=>
  obtain⟨es,h⟩:=h1 t ht;exact⟨_,_,_,es,h,⟨λx=>(by cases Bv _ _ _ x),t,ht,es,h⟩,h2 t ht⟩
theorem AFf{V:BL}{f f':AX}{ts ts':List AX}{v v':AL}{es es':Array Bc}(h:GStep.go (G f (ts++[door V])) v es=.go (G f' (ts'++[door V])) v' es'):f=f'/\ts=ts'/\v=v':=by
 simp only[GStep.go.injEq,G,Gf] at h;exact⟨h.1.1,NL h.1.2.1,h.2.1⟩
section
variable {C:Cx} (hP:C.P=Tryz.prog) {R:RF C.SR} {s:ByteArray} {sz:Nat} (hCs: ∀k xv bk ob,C.Cs k xv bk ob->Piece C.SR s sz k xv bk ob) (hNN:s.size<=C.N*sz) (hsz:1<=sz) (hsz2:(sz:Int)<=9223372036854775807) (hs:s.size<=1073741824)
 {sb:Nat} (hsb:C.SR sb) (hrd: ∀w,R.R w->w.cell? ⟨sb,0,AB⟩=AA (.chan (AA C.bs))) (hlive: ∃w,Live C w) {Kp:AX->List AX->AL->Prop} (Bv: ∀f ts v,Kp f ts v->ts=[]/\f.mode=.returning)
 {c0:AX} {cs:List AX} {cs0:List AX} (s0:VS) (ρ0:Rn)
include hP hCs hNN hsz hsz2 hs hsb hrd hlive Bv
theorem AGv{st:VS}(hev:Ev Af Kp st.f st.ts st.v)(O8:NQ Af Kp st):yw C R s sz sb Kp c0 cs cs0 s0 ρ0 st:=by
 have OX: ∀f ts v,Kp f ts v->ts=[]:=λf ts v x=>(Bv f ts v x).1;refine Ev.strong (M:=λst=>NQ Af Kp st->yw C R s sz sb Kp c0 cs cs0 s0 ρ0 st) (λst hev ih O8=>?_) hev O8;have ih:=λs' hn=>ih s' hn (λs'' h=>O8 s'' (h.trans hn));intro k lo d blk bk cap cnt e to to' xv NT r9 r10 r11 r13 IA r16 IB OQ a0 a2 a3 a6 a10 a11 a12 LD a20 a21 a22 a23 a24 a25 a26 a27 a28 v ρ h hst hn hρ hlo hlt hd hto hbk hxv;subst hst hxv;simp only at hev;refine AFc rfl λw hw=>?_;obtain⟨hW,hR⟩:=hw;have hWd: ∀τ:Nat->Fj->Nat,DD K2.F 2 ρ (v.DL τ) w:=λτ=>hW.pre ⟨rfl,rfl⟩ ⟨rfl,rfl⟩;(let τ:Nat->Fj->Nat:=λj=>if j<v.drawn then v.tape j else w.tape (w.drawn+(j - v.drawn)));have hτ: ∀j,j<v.drawn->τ j=v.tape j:=λj hj=>by simp only[τ,hj,if_true]
 have hTp: ∀n,Tp (v.DL τ) w n:=λn i _ q=>by
  show τ (v.drawn+i) q=w.tape (w.drawn+i) q;(have h1: ¬v.drawn+i<v.drawn:=by omega);simp only[τ,h1,if_false];congr 2;omega
 obtain⟨F,S,W,es,hstep,hnx,ABb⟩:=ALt OX hev τ hτ;obtain⟨ov,hov,ARr,AIk⟩: ∃ov,Ry[0]? =AA ov/\ov.op=.call {callee:=.invoke (.tmp 1) "Take",args:=#[.tmp 14],argTypes:=#[62]}/\∀T,DV ov T=true:=⟨_,rfl,rfl,λ_=>rfl⟩;obtain⟨ot,hot,ARs,ARt⟩: ∃ot,ZR[2]? =AA ot/\ot.op=.call {callee:=.invoke (.tmp 18) "Take",args:=#[.tmp 19],argTypes:=#[62]}/\∀T,DV ot T=true:=⟨_,rfl,rfl,λ_=>rfl⟩;obtain⟨TV,hTV⟩: ∃TV,TV=TA (Fg 79 s sz) to NT s cnt e sz lo r9 r10 r11 (.int .i64 ((lo:Int)+(d:Int))) r13 (.slice (AA ⟨blk,0,AB⟩) d cap) IA r16 IB OQ:=⟨_,rfl⟩;have hxV:BG (ev TV) ov=PZ to "Take" #[.slice (AA ⟨blk,0,AB⟩) d cap]:=uz ARr (by rw[hTV];rfl) (by rw[hTV];simp only[J3,BK,EG];rfl);obtain⟨TT,hTT⟩: ∃TT,TT= #[a0,to',a2,a3,.int .i64 cnt,.int .i64 e,a6,.pointer (AA ⟨sb,0,AB⟩),.pointer (AA ⟨C.wg,0,AB⟩),.slice (AA ⟨bk,0,AB⟩) d cap,a10,a11,a12,LD,.chan (AA C.bc),.tuple #[.slice (AA ⟨bk,0,AB⟩) d cap,.bool true],.bool true,.slice (AA ⟨bk,0,AB⟩) d cap,to',.slice (AA ⟨bk,0,AB⟩) d cap,a20,a21,a22,a23,a24,a25,a26,a27,a28]:=⟨_,rfl⟩;have hxT:BG (ev TT) ot=PZ to' "Take" #[.slice (AA ⟨bk,0,AB⟩) d cap]:=uz ARs (by rw[hTT];rfl) (by rw[hTT];simp only[J3,BK,EG];rfl);have hrel:=(eY (T:=T1) (N:=2) (F:=K2.F) AD7.bodies (fb:=K2.fb) (λf hf=>hf) (λf n h=>h) (λ_=>rfl) APi hto (Au.one (.slice (n:=d) (k:=cap) (show RelA ρ ⟨blk,0,AB⟩ ⟨bk,0,AB⟩ from ⟨hbk,rfl,rfl⟩)))).sound (hWd τ) (hTp _);rw[<- hTT];rw[<- hTV] at hev hstep hnx ih hn O8;(have hrun:(PZ to "Take" #[.slice (AA ⟨blk,0,AB⟩) d cap]).run Af (v.DL τ)=(BG (ev TV) ov).run Af (v.DL τ):=by rw[hxV]);change Res True K2.F 2 (QEn K2.F) ρ (v.DL τ) w ((PZ to "Take" #[.slice (AA ⟨blk,0,AB⟩) d cap]).run Af (v.DL τ)) _ at hrel
 cases hr:(PZ to "Take" #[.slice (AA ⟨blk,0,AB⟩) d cap]).run Af (v.DL τ) with
 |ok n v'=>
  rw[hr] at hrel hrun;obtain⟨ρ1,b,w1,u,hr',⟨f,p,p',rfl,rfl,hf,hfa,hp⟩,hst⟩:=hrel
  have hrT:(BG (ev TT) ot).run Tryz.prog w=.ok (.enter f p') w1:=by
   rw[hxT];have:=congrArg Aa hr';rw[Ik] at this;exact this
  have huT:(BG (ev TT) ot).events Tryz.prog w #[]=u:=by
   rw[hxT];have:=congrArg Prod.snd hr';rw[Ik] at this;exact this
  have hsV:=s_call (kd:=false) (P:=Af) (mn:=true) (fn:=46) (T:=TV) (k:=[.code Us,.inLoop Ah.loop,.inBlock 0,.code .ret]) (D:=[]) (ro:=AB) (cs:=c0::cs++[door Af]) (i:=0) (rest:=[]) hov (AIk _) (.inl rfl) hrun.symm;obtain⟨rfl,rfl,rfl⟩:=AFf (ts':=fr 46 TV [.inRegion Ry [0],.code Us,.inLoop Ah.loop,.inBlock 0,.code .ret] [] AB::c0::cs) (hstep.symm.trans hsV);have hsT:=s_call (kd:=false) (P:=Tryz.prog) (mn:=true) (fn:=46) (T:=TT) (k:=.code ZT:: .code ZU:: .inBlock 1:: .inLoop GZ:: .inBlock 0::[.code Pv]) (D:=[]) (ro:=AB) (cs:=cs0) (i:=2) (rest:=[3]) hot (ARt _) (.inl rfl) hrT;rw[huT] at hsT;have hst':Stp K2.F 2 ρ ρ1 (v.DL τ) w W w1 (seen Tryz.prog 46 u):=hst.sub λe he=>Du he;have h1:=h.next hR hst';refine⟨_,_,w1,_,by rw[hP];exact hsT,h.step h1 hR hst',?_⟩
  have hXf:K2.X f=false:=by
   cases e:K2.X f with
   |false=>rfl|true=>
    have h0:KL K2.fb f 0=true:=hfa 0;rw[no2 f e 0] at h0;cases h0
  refine AIZ (K:=K2) (T:=T1) (N:=2) (Kp:=Kp) OX AD7 no2 (by rw[hP]) (λp k f1 Di v hp=>ABf OX p k f1 Di v hp) (dr:=fr 46 TV [.inRegion Ry [0],.code Us,.inLoop Ah.loop,.inBlock 0,.code .ret] [] AB) (ds:=c0::cs) (ts:=[]) (ts':=[]) rfl rfl ABb (λs' h=>O8 s' (.cons hnx h)) rfl (OH AD7 hf hXf hp (.inl rfl)) .nil (λg hg=>hst'.rel.ok.hd g (kP hg)) h1 (λv1 ρ2 x x' h2 hn1 hxx hle=>?_) (λv1 ρ2 h2 hn1 hle=>?_)
  ·have hnd:=Jq.cons hnx hn1;have hev2:=Ev.O6 (s:=⟨_,_,_⟩) hev hnd;simp only at hev2;obtain⟨e2,rfl⟩:=AGu OX (by rw[hTV];rfl) hev2;obtain rfl:=BP hxx rfl;have ARu:Az K2.F ρ2 to to':=hto.mono (hst.le.trans hle);rw[hTT];rw[hTV] at hnd;refine AGq hP (λhe=>?_) (λhe=>?_)
   ·subst he
    obtain⟨s',hs',hn2⟩:=APU (Kp:=Kp) OX (Good:=λs'=>s'=⟨fr 46 (TA (Fg 79 s sz) to NT s (IntKind.i64.wrap (cnt+1)) 0 sz (lo+d) r9 r10 r11 (.int .i64 ((lo:Int)+(d:Int))) r13 (.slice (AA ⟨blk,0,AB⟩) d cap) (.int .i64 0) (.int .i64 0) (.bool false) (.int .i64 (IntKind.i64.wrap (cnt+1)))) [.code Ah.loop,.inLoop Ah.loop,.inBlock 0,.code .ret] [] AB,c0::cs,v1⟩)
     (src:=Fg 79 s sz) (to:=to) (NT:=NT) (s:=s) (cnt:=cnt) (e0:=e) (n:=sz) (lo:=lo) (d:=d) (r9:=r9) (r10:=r10) (r11:=r11) (r13:=r13) (Js:=.slice (AA ⟨blk,0,AB⟩) d cap) (IA:=IA) (r16:=r16) (IB:=IB) (OQ:=OQ) (cs:=cs) (c0:=c0) (v:=v1) rfl (.fin rfl)
    have hn3:Jq Af Kp s' ⟨fr 46 (TA (Fg 79 s sz) to NT s cnt e sz lo r9 r10 r11 (.int .i64 ((lo:Int)+(d:Int))) r13 (.slice (AA ⟨blk,0,AB⟩) d cap) IA r16 IB OQ) [.inRegion Ry [0],.code Us,.inLoop Ah.loop,.inBlock 0,.code .ret] [] AB,c0::cs,v⟩:=by
     rcases hn2 with e1|hn2;rw[e1];exact hnd;exact hn2.trans hnd
    rw[hs'] at hn3;rw[hTV] at ih hn
    have hlo2:lo+d=min ((k+1)*sz) s.size:=by
     have:(k+1)*sz=k*sz+sz:=Nat.succ_mul k sz;omega
    refine nz hP hCs hNN hsz hsz2 hs hsb hrd hlive Bv s0 ρ0 h2 (λst hst=>ih st (hst.trans hn3)) (hn3.trans hn) (hρ.trans (hst.le.trans hle)) hlo2 ARu
   obtain⟨s',hs',hn2⟩:=ALm (Kp:=Kp) OX (Good:=λs'=>s'=⟨c0.finish (.tuple #[.int .i64 cnt,.int .i64 e2]),cs,v1⟩)
    (src:=Fg 79 s sz) (to:=to) (NT:=NT) (s:=s) (cnt:=cnt) (e0:=e) (n:=sz) (lo:=lo) (r9:=r9) (r10:=r10) (r11:=r11) (r12:=.int .i64 ((lo:Int)+(d:Int))) (r13:=r13) (Js:=.slice (AA ⟨blk,0,AB⟩) d cap) (IA:=IA) (r16:=r16) (IB:=IB) (OQ:=OQ) (cs:=cs) (c0:=c0) (v:=v1) he (.fin rfl)
   have hn3:Jq Af Kp s' ⟨fr 46 (TA (Fg 79 s sz) to NT s cnt e sz lo r9 r10 r11 (.int .i64 ((lo:Int)+(d:Int))) r13 (.slice (AA ⟨blk,0,AB⟩) d cap) IA r16 IB OQ) [.inRegion Ry [0],.code Us,.inLoop Ah.loop,.inBlock 0,.code .ret] [] AB,c0::cs,v⟩:=by
    rcases hn2 with e1|hn2;rw[e1];exact hnd;exact hn2.trans hnd
   rw[hs'] at hn3;rw[hTV] at hn;exact ABc hP (o:=og K2.F 2 R ρ2 v1 h2) hsb (λw hI=>hrd w hI.2) hlive (λg hg=>⟨a0,to',a2,a3,a6,.slice (AA ⟨bk,0,AB⟩) d cap,a10,a11,a12,LD,.chan (AA C.bc),.tuple #[.slice (AA ⟨bk,0,AB⟩) d cap,.bool true],.bool true,.slice (AA ⟨bk,0,AB⟩) d cap,to',.slice (AA ⟨bk,0,AB⟩) d cap,.int .i64 e2,.int .i64 e2,.bool true,a23,a24,a27,a28,cnt,e2,ρ2,v1,h2,hg,rfl,hn3.trans hn,hρ.trans (hst.le.trans hle)⟩)
  have hnd:=Jq.cons hnx hn1;rw[hTV] at hnd hn ih;rw[hTT];exact ih _ hnd k lo d blk bk cap cnt e to to' (.slice (AA ⟨bk,0,AB⟩) d cap) NT r9 r10 r11 r13 IA r16 IB OQ a0 a2 a3 a6 a10 a11 a12 LD a20 a21 a22 a23 a24 a25 a26 a27 a28 v1 ρ2 h2 rfl (hnd.trans hn) (hρ.trans (hst.le.trans hle)) hlo hlt hd (hto.mono (hst.le.trans hle)) ((hst.le.trans hle).r _ _ hbk) rfl
 |halt x v'=>
  exfalso;rw[hr] at hrel hrun;by_cases hp: ∃y,x=.panic y
  ·obtain⟨y,rfl⟩:=hp;obtain⟨es2,hsV⟩:=AIh (P:=Af) (mn:=true) (fn:=46) (T:=TV) (k:=[.code Us,.inLoop Ah.loop,.inBlock 0,.code .ret]) (D:=[]) (cs:=c0::cs++[door Af]) (i:=0) (rest:=[]) hov (AIk _) hrun.symm;obtain⟨rfl,rfl,rfl⟩:=AFf (ts':=c0::cs) (hstep.symm.trans hsV);refine O8 _ (.one hnx) ?_;exact ja.head (ch:=[{v:=y,recovered:=false}]) rfl (by intro e he;simp at he;subst he;rfl)
  have hst:Halt.still x:=by
   cases x with|panic y=>exact Ai ⟨_,rfl⟩ hp|_=>exact hrel
  obtain⟨q,u,es2,hsV⟩:=ny (P:=Af) (mn:=true) (fn:=46) (T:=TV) (k:=[.code Us,.inLoop Ah.loop,.inBlock 0,.code .ret]) (D:=[]) (cs:=c0::cs++[door Af]) (i:=0) (rest:=[]) hov (AIk _) hrun.symm hst;rw[hstep] at hsV;cases hsV
end
open Go.ConcN (sumTo upd sumTo_upd upd_ne upd_same)
section
variable {es:Array Bc}{fn:FuncId}{m m' m'':Machine}{N:Nat}{pos:String}{t t':CB}
structure MH (Shun:Loc->Prop) (B L:Nat) (t:CB) (d:Nat):Prop where
 clean: ∀said,¬Race said t
 known: ∀i a,Il t i=AA a->a.loc.isMemory=true->Knows t 0 i\/(Shun a.loc/\a.kind=.atomic)
 over:t.HandedOver
 deaf:Deaf t 0=d
 seen: ∀op∈t,op.act.low B
 nor: ∀op∈t,∀a,op.act=.mark (.release a)->a.block<L
def EvG (Shun:Loc->Prop) (B:Nat) (e:Bc):Prop:=(∀x,(Cb e).touch? =AA x->Shun x.loc->x.kind≠ .plain)/\(Cb e).low B/\∀a,Cb e≠ .mark (.release a)
theorem QM{g:Nat}{op:MemOp}(h:op∈DX g fn pos es): ∃e∈es,op={g,fn,pos,act:=.ofEvent e}:=by
 rw[ofEvents_eq] at h;obtain⟨e,he,rfl⟩:=Array.mem_map.1 h;exact⟨e,he,rfl⟩
section
variable {Shun:Loc->Prop} {B B' L d:Nat} {t u:CB}
theorem MH.past(h:MH Shun B L t 0):Past Shun B t:=⟨h.clean,h.known,h.over,h.deaf,h.seen⟩
theorem AGw(h:Past Shun B t):MH Shun B B t 0:=⟨h.clean,h.known,h.over,h.hears,h.seen,λop hop a ha=>by have:=h.seen op hop;rw[ha] at this;exact this⟩
theorem MH.mono(h:MH Shun B L t d)(hB:B<=B'):MH Shun B' L t d:=⟨h.clean,h.known,h.over,h.deaf,λop hop=>MemAct.low_mono hB (h.seen op hop),h.nor⟩
theorem MH.app0(h:MH Shun B L t d)(hu: ∀op∈u,op.g=0)(hs: ∀op∈u,∀b,op.act.touch? =AA b->Shun b.loc->b.kind≠ .plain)(hl: ∀op∈u,op.act.low B)(hn: ∀op∈u,∀a,op.act≠ .mark (.release a)):MH Shun B L (t++u) (Deaf (t++u) 0):=by
 refine⟨λsaid=>noRace_append (h.clean said) hu λi a ha op hop b hb hc=>?_,λi a ha hm=>?_,handedOver_app h.over λop hop=>.inl (hu op hop),rfl,seen_app h.seen hl,λop hop a ha=>(JL.1 hop).elim (λx=>h.nor op x a ha) λx=>Ai ha (hn op x a)⟩
 ·rcases h.known i a ha hc.2.1 with hk|⟨hsa,hka⟩;exact hk;have hkb:=hs op hop b hb (hc.1▸hsa);obtain⟨_,_,_,hcase⟩:=hc;rw[hka] at hcase;rcases hcase with x|x|⟨_,x,_⟩;(cases x);exact Ai x hkb;cases x
 obtain⟨x,hx,hxa⟩:=touch_of ha;rcases Ya hx with ⟨_,hx'⟩|⟨_,hxu⟩
 ·exact (h.known i a (by rw[touchAt_of hx'];exact hxa) hm).imp (·.app u) id
 have:=knows_own hx;rw[hu x hxu] at this;exact .inl this
theorem MH.own(h:MH Shun B L t d)(hes: ∀e∈es,EvG Shun B e):MH Shun B L (t++DX 0 fn pos es) (Ee d es):=by
 have:=h.app0 (u:=DX 0 fn pos es) (λop hop=>by obtain⟨e,_,rfl⟩:=QM hop;rfl) (λop hop b hb=>by obtain⟨e,he,rfl⟩:=QM hop;exact (hes e he).1 b hb)
  (λop hop=>by obtain⟨e,he,rfl⟩:=QM hop;exact (hes e he).2.1) (λop hop=>by obtain⟨e,he,rfl⟩:=QM hop;exact (hes e he).2.2)
 rw[Deaf_own,h.deaf] at this;exact this
theorem MH.mute(h:MH Shun B L t d){g:Nat}(hg:g≠0){fn:FuncId}{pos:String}{es:Array Bc}(hm: ∀e∈es,e.mute=true):MH Shun B L (t++DX g fn pos es) d:=by
 (have hu: ∀op∈DX g fn pos es,op.g=g:=λop hop=>by obtain⟨e,_,rfl⟩:=QM hop;rfl);have hn: ∀op∈DX g fn pos es,op.act.touch? =AB:=λop hop=>by obtain⟨e,he,rfl⟩:=QM hop;exact touch_mute (hm e he)
 refine⟨λsaid=>noRace_append (h.clean said) hu λi a _ op hop b hb _=>(by rw[hn op hop] at hb;cases hb),λi a ha hmm=>?_,handedOver_app h.over λop hop=>.inr (hn op hop),(Ll t hg _ hu).trans h.deaf,
  seen_app h.seen λop hop=>(by obtain⟨e,he,rfl⟩:=QM hop;exact low_mute (hm e he) B),λop hop a ha=>(JL.1 hop).elim (λx=>h.nor op x a ha) λx=>by
   obtain⟨⟨l,wr,sy⟩,he,rfl⟩:=QM x;have:=hm _ he;(cases l<;>simp[Event.mute] at this);rename_i m
   cases m<;>simp[Cb] at this ha⟩
 obtain⟨x,hx,hxa⟩:=touch_of ha;rcases Ya hx with ⟨_,hx'⟩|⟨_,hxu⟩
 ·exact (h.known i a (by rw[touchAt_of hx'];exact hxa) hmm).imp (·.app _) id
 rw[hn x hxu] at hxa;cases hxa
end
structure OY (P:BL) (Z:Nat->Prop) (B L:Nat) (gs:Array Ac) (t:CB) (a:Ac) (q:Nat->Nat) (d:Nat):Prop where
 at0:gs[0]? =AA a
 leavers:Leavers P t gs q
 past:MH (O7 Z) B L t d
section
variable {P:BL} {Z:Nat->Prop} {B B' L d:Nat} {gs:Array Ac} {w w':AL} {t:CB} {a a' g:Ac} {q:Nat->Nat} {sl sl':Option (Nat×Nat)} {es:Array Bc}
theorem Sit.AIl(h:Sit P Z gs w t a q):OY P Z w.heap.size w.heap.size gs t a q 0:=⟨h.at0,h.leavers,AGw h.past⟩
theorem AD8(h:OY P Z B L gs t a q d)(hs:Ae P true a w=.go a' w' es)(hB:B<=B')(he: ∀e∈es,EvG (O7 Z) B' e):
  runT P (crowd gs w sl') 0=(.next (crowd ((gs.map (woken P a a' w')).setIfInBounds 0 a') w' sl'),DX 0 a.frame.fn a.frame.place es)/\
  ((gs.map (woken P a a' w')).setIfInBounds 0 a').size=gs.size/\OY P Z B' L ((gs.map (woken P a a' w')).setIfInBounds 0 a') (t++DX 0 a.frame.fn a.frame.place es) a' q (Ee d es):=by
 refine⟨YZ (P:=P) (sl:=sl') (i:=0) h.at0 (show Ae P (0==0) a w=_ from hs),AV,?_,?_,?_⟩
 ·have hlt:0<gs.size:=(Df.1 h.at0).1;simp[hlt]
 ·refine⟨λj x hj hx=>?_,λj hj=>?_⟩
  ·(have hne:0≠j:=by omega);rw[Dw hne,Kr] at hx;obtain⟨y,hy,rfl⟩:=Jz.1 hx;have hq:=h.leavers.old j y hj hy;rw[woken_quitsD hq,Ll t Ad _ (λop hop=>ofEvents_g hop)];exact hq
  have hlt:0<gs.size:=(Df.1 h.at0).1;rw[Ll t (g':=0) (by simp at hj;omega) _ (λop hop=>ofEvents_g hop)];exact h.leavers.above j (by simpa using hj)
 exact (h.past.mono hB).own he
theorem yx{dd i:Nat}(h:OY P Z B L gs t a q d)(ha:a.status=.running)(hpos:0<i)(hi:gs[i]? =AA g)(hg:g.status=.running):
  ∃k g' es,q i=k+1/\runT P (crowd gs (w.at dd) sl') i=(.next (crowd ((gs.map (woken P g g' (w.at dd))).setIfInBounds i g') (w.at dd) sl'),DX i g.frame.fn g.frame.place es)/\
   ((gs.map (woken P g g' (w.at dd))).setIfInBounds i g').size=gs.size/\OY P Z B L ((gs.map (woken P g g' (w.at dd))).setIfInBounds i g') (t++DX i g.frame.fn g.frame.place es) a (upd q i k) d/\
   Dz gs.size (upd q i k)<Dz gs.size q:=by
 have hq:=h.leavers.old i g hpos hi;(have hi0:(i==0)=false:=by simp;omega);have hlt:i<gs.size:=(Df.1 hi).1
 cases hqi:q i with
 |zero=>rw[hqi] at hq;rw[hq.1] at hg;cases hg|succ k=>
  rw[hqi] at hq;rcases hq with ⟨hf,_⟩|⟨_,g',es,hm,hstp,hq'⟩;rw[hf] at hg;cases hg;refine⟨k,g',es,rfl,YZ (P:=P) (sl:=sl') (i:=i) hi (by rw[hi0];exact hstp (w.at dd)),AV,⟨?_,⟨λj x hj hx=>?_,λj hj=>?_⟩,h.past.mute Ad hm⟩,?_⟩
  ·(have hne:i≠0:=by omega);rw[Dw hne,Kr,h.at0];simp[woken_run ha]
  ·by_cases hji:i=j
   ·subst hji;rw[WY (by simpa using hlt)] at hx;obtain rfl:=EF hx;rw[upd_same,Deaf_own];exact hq'
   rw[Dw hji,Kr] at hx;obtain⟨y,hy,rfl⟩:=Jz.1 hx;have hqj:=h.leavers.old j y hj hy;rw[woken_quitsD hqj,upd_ne q k (Ir hji),Ll t hji _ (λop hop=>ofEvents_g hop)];exact hqj
  ·rw[Ll t (g':=i) (by simp at hj;omega) _ (λop hop=>ofEvents_g hop)];exact h.leavers.above j (by simpa using hj)
  have hsum:Dz gs.size (upd q i k)+(k+1)=Dz gs.size q+k:=by
   have:=sumTo_upd q k id hlt;simpa[hqi] using this
  omega
theorem AIm(h:OY P Z B L gs t a q d)(ha:a.status=.running):
  ∃N gs1 w1 sl1 t1 q1 dd sx,D8 P N (crowd gs w sl) t=(.next (crowd gs1 w1 sl1),t1)/\gs1.size=gs.size/\OY P Z B L gs1 t1 a q1 d/\(∃d1,w1=w.at d1)/\stepT P (crowd gs1 w1 sl1)=runT P (crowd gs1 (w.at dd) sx) 0:=by
 obtain⟨M,hM⟩: ∃M,Dz gs.size q=M:=⟨_,rfl⟩
 induction M using Nat.strongRecOn generalizing gs w sl t q with
 |_ M ih=>
  have haw: ∀g∈gs,awake g:=λg hg=>by
   obtain⟨i,hi,rfl⟩:=lY.1 hg;rcases O1 i with rfl|hpos
   ·have h0:=h.at0;(have:gs[0]=a:=by simpa[FD hi] using h0);rw[this];exact awake_of (.inl ha)
   exact awake_of ((h.leavers.old i _ hpos (FD hi)).status.elim .inl λx=>.inr (.inr x))
  obtain⟨i,g,dd,sx,hi,hg,hst⟩:=crowd_pick (P:=P) (w:=w) (sl:=sl) haw ⟨0,a,h.at0,ha⟩;rcases O1 i with rfl|hpos;exact⟨0,gs,w,sl,t,q,dd,sx,rfl,rfl,h,⟨w.drawn,rfl⟩,hst⟩;obtain⟨k,g',es,hq,hr,hz,hS,hlt⟩:=yx (w:=w) (dd:=dd) (sl':=sx) h ha hpos hi hg;obtain⟨N,gs1,w1,sl1,t1,q1,d2,sx2,h1,h2,h3,⟨d1,h4⟩,h5⟩:=ih _ (by rw[hz,<- hM];exact hlt) (w:=w.at dd) (sl:=sx) hS rfl;exact⟨N+1,gs1,w1,sl1,t1,q1,d2,sx2,by simp only[D8,hst,hr];exact h1,h2.trans hz,h3,⟨d1,h4⟩,h5⟩
theorem EZ{t'':CB}{K:Nat}(h:D8 P N m t=(.next m',t'))(hk:D8 P K m' t'=(.next m'',t'')):D8 P (N+K) m t=(.next m'',t''):=by
 rw[runNT_add,h];exact hk
theorem oC{ops:Array MemOp}(h:D8 P N m t=(.next m',t'))(hs:stepT P m'=(.next m'',ops)):D8 P (N+1) m t=(.next m'',t'++ops):=by
 rw[runNT_add,h];simp only[D8,hs]
theorem yz{R:Ac->AL->Array Bc->Nat->Prop}(h:OY P Z B L gs t a q d)(ha:a.status=.running)
  (hstep: ∀dd,∃a' w' es B',Ae P true a (w.at dd)=.go a' w' es/\B<=B'/\(∀e∈es,EvG (O7 Z) B' e)/\R a' w' es B'):
  ∃N gs1 w' sl1 t1 q1 a' es B',D8 P N (crowd gs w sl) t=(.next (crowd gs1 w' sl1),t1)/\gs1.size=gs.size/\OY P Z B' L gs1 t1 a' q1 (Ee d es)/\R a' w' es B':=by
 obtain⟨N,gs1,w1,sl1,t1,q1,dd,sx,h1,h2,h3,⟨d1,rfl⟩,h5⟩:=AIm (w:=w) (sl:=sl) h ha;obtain⟨a',w',es,B',k1,k2,k3,k4⟩:=hstep dd;obtain⟨r1,r2,r3⟩:=AD8 (sl':=sx) h3 k1 k2 k3;exact⟨N+1,_,w',sx,_,q1,a',es,B',oC h1 (h5.trans r1),r2.trans h2,r3,k4⟩
theorem y5{D:AL->AL->Array Bc->Prop}{Stop:Ac->AL->Prop}(hD: ∀w w' es,D w w' es->∀e∈es,EvG (O7 Z) B e/\e.loc≠ .mark .disable/\e.loc≠ .mark .enable):
  ∀{n:Nat} {gs:Array Ac} {a:Ac} {w:AL} {sl:Option (Nat×Nat)} {t:CB} {q:Nat->Nat},OY P Z B L gs t a q d->Goes P true AtRel D Stop n a w->
   ∃N gs1 w1 sl1 t1 q1 a1,D8 P N (crowd gs w sl) t=(.next (crowd gs1 w1 sl1),t1)/\gs1.size=gs.size/\OY P Z B L gs1 t1 a1 q1 d/\∀dd,Stop a1 (w1.at dd):=by
 intro n
 induction n with
 |zero=>intro gs a w sl t q h hG;exact⟨0,gs,w,sl,t,q,a,rfl,rfl,h,λdd=>hG _ ⟨dd,rfl⟩⟩
 |succ n ih=>
  intro gs a w sl t q h hG;rcases hG with hG|⟨ha,hG⟩;exact⟨0,gs,w,sl,t,q,a,rfl,rfl,h,λdd=>hG _ ⟨dd,rfl⟩⟩
  obtain⟨N,gs1,w1,sl1,t1,q1,a1,es,B1,h1,h2,h3,rfl,h4,h5⟩:=yz (w:=w) (sl:=sl) (R:=λa' w' es B'=>B'=B/\Goes P true AtRel D Stop n a' w'/\∀e∈es,e.loc≠ .mark .disable/\e.loc≠ .mark .enable) h ha (λdd=>by
   have hs:=hG (w.at dd) ⟨dd,rfl⟩
   cases hgo:Ae P true a (w.at dd) with
   |go a' w' es=>
    rw[hgo] at hs;exact⟨a',w',es,B,rfl,Ba _,λe he=>(hD _ _ _ hs.1 e he).1,rfl,hs.2,λe he=>(hD _ _ _ hs.1 e he).2⟩
   |_=>rw[hgo] at hs;exact hs.elim)
  rw[KT h5] at h3;obtain⟨N2,gs2,w2,sl2,t2,q2,a2,k1,k2,k3,k4⟩:=ih (sl:=sl1) h3 h4;exact⟨N+N2,gs2,w2,sl2,t2,q2,a2,EZ h1 k1,k2.trans h2,k3,k4⟩
end
structure Since {SR:Nat->Prop} (Z:Nat->Prop) (o o':Own SR) (w w':AL):Prop where
 own: ∀b,o'.O b->b<w'.heap.size/\¬Z b
 new: ∀b,o'.O b->o.O b\/w.heap.size<=b
 old: ∀b,o.O b->o'.O b
 keep: ∀b,b<w.heap.size->¬o.O b->w'.heap[b]? =w.heap[b]?
 sz:w.heap.size<=w'.heap.size
 same:w'.tape=w.tape/\w'.os=w.os/\w'.output=w.output
def Ps (P:BL) {SR:Nat->Prop} (Fin:Ac->Own SR->Prop) (a:Ac) (o:Own SR):Prop:=
 ∀{Z:Nat->Prop} {L:Nat} {gs:Array Ac} {w:AL} {sl:Option (Nat×Nat)} {t:CB} {q:Nat->Nat},OY P Z w.heap.size L gs t a q 0->o.I w->(∀b,o.O b->b<w.heap.size/\¬Z b)->(∀b,SR b->b<w.heap.size/\¬Z b)->(∀b,Z b->b<w.heap.size)->
  ∃N gs' w' sl' t' q' a' o',D8 P N (crowd gs w sl) t=(.next (crowd gs' w' sl'),t')/\gs'.size=gs.size/\OY P Z w'.heap.size L gs' t' a' q' 0/\Fin a' o'/\o'.I w'/\Since Z o o' w w'
section
variable {P:BL} {SR:Nat->Prop} {Fin:Ac->Own SR->Prop}
theorem Ps.fin{a:Ac}{o:Own SR}(h:Fin a o):Ps P Fin a o:=λ{_ _ gs w sl t q} h1 h2 h3 _ _=>
 ⟨0,gs,w,sl,t,q,a,o,rfl,rfl,h1,h,h2,h3,λ_ h=>.inl h,λ_ h=>h,λ_ _ _=>rfl,Ba _,rfl,rfl,rfl⟩
theorem ALu{SR:Nat->Prop}{o o':Own SR}{w w':AL}{Z:Nat->Prop}(h:NS o o' w w' es)(ho: ∀b,o'.O b->b<w'.heap.size/\¬Z b)(hS: ∀b,SR b->b<w'.heap.size/\¬Z b):(∀e∈es,EvG (O7 Z) w'.heap.size e)/\∀d,Ee d es=d:=by
 refine⟨λe he=>?_,λd=>KT (λe he=>?_) d⟩
 ·have hk:=h.evs e he;obtain⟨l,wr,sy⟩:=e
  cases l with
  |cell ad=>
   have hb:ad.block<w'.heap.size/\¬Z ad.block:=by
    rcases hk with hk|hk;exact ho _ hk;exact hS _ hk.1
   refine⟨λx hx hz=>?_,hb.1,λa h=>by rw[NH] at h;cases h⟩;simp only[NH,DK,DN] at hx;subst hx;exact Ai hz hb.2
  |obj c=>
   have hb:=ho _ hk.1;refine⟨λx hx hz=>?_,?_,λa h=>by cases wr<;>cases sy<;>cases h⟩
   ·have hl:x.loc=.obj c:=by
     cases wr<;>cases sy<;>simp[Cb,DK] at hx<;>first|(subst hx;rfl)|exact Ai ⟨rfl,rfl⟩ hk.2
    rw[hl] at hz;exact Ai hz hb.2
   cases wr<;>cases sy<;>first|exact Ai ⟨rfl,rfl⟩ hk.2|exact hb.1
  |mark m=>
   cases m with|extern _=>exact⟨λx hx=>by simp[Cb,DK] at hx,Am,λa h=>by cases h⟩|noRoom=>exact⟨λx hx=>by simp[Cb,DK] at hx,Am,λa h=>by cases h⟩|_=>exact hk.elim
  |output=>exact⟨λx hx hz=>by
    have hl:x.loc=.output:=by
     cases wr<;>cases sy<;>simp[Cb,DK] at hx<;>(subst hx;rfl)
    rw[hl] at hz;exact hz.elim,by cases wr<;>cases sy<;>trivial,λa h=>by cases wr<;>cases sy<;>cases h⟩
  |_=>exact hk.elim
 have hk:=h.evs e he;constructor;intro hl;rw[hl] at hk;exact hk.elim;intro hl;rw[hl] at hk;exact hk.elim
theorem NF:tH P true (Ps P Fin) where
 QG:=λ{a o} nx no hr hstep hnext {Z L gs w sl t q} h1 h2 h3 h4 h5=>by
  obtain⟨N,gs1,w1,sl1,t1,q1,a1,es,B1,k1,k2,k3,⟨dd,ra,rB⟩,hp⟩:=yz (w:=w) (sl:=sl) (R:=λa' w' es B'=>(∃dd,a'=nx (w.at dd)/\B'=w'.heap.size/\NS o (no (w.at dd)) (w.at dd) w' es)/\∀d,Ee d es=d) h1 hr (λdd=>by
   obtain⟨w',es,e1,e2⟩:=hstep (w.at dd) (o.at h2 dd);have hsz:w.heap.size<=w'.heap.size:=e2.sz
   have ho': ∀b,(no (w.at dd)).O b->b<w'.heap.size/\¬Z b:=λb hb=>by
    rcases (e2.O' b).1 hb with x|x;exact⟨ER (h3 b x).1 hsz,(h3 b x).2⟩;exact⟨x.2,λhz=>by have:=h5 b hz;have:w.heap.size<=b:=x.1;omega⟩
   have hev:=ALu (Z:=Z) e2 ho' (λb hb=>⟨ER (h4 b hb).1 hsz,(h4 b hb).2⟩)
   exact⟨nx (w.at dd),w',es,w'.heap.size,e1,hsz,hev.1,⟨dd,rfl,rfl,e2⟩,hev.2⟩)
  obtain⟨rB,e2⟩:=rB;subst ra rB;rw[hp] at k3;have hsz:w.heap.size<=w1.heap.size:=e2.sz
  obtain⟨N2,gs2,w2,sl2,t2,q2,a2,o2,j1,j2,j3,j4,j5,j6⟩:=hnext (w.at dd) (o.at h2 dd) (sl:=sl1) k3 e2.I' (λb hb=>by
    rcases (e2.O' b).1 hb with x|x;exact⟨ER (h3 b x).1 hsz,(h3 b x).2⟩
    exact⟨x.2,λhz=>by have:=h5 b hz;have:w.heap.size<=b:=x.1;omega⟩) (λb hb=>⟨ER (h4 b hb).1 hsz,(h4 b hb).2⟩) (λb hb=>ER (h5 b hb) hsz)
  refine⟨N+N2,gs2,w2,sl2,t2,q2,a2,o2,EZ k1 j1,j2.trans k2,j3,j4,j5,j6.own,λb hb=>?_,λb hb=>j6.old b ((e2.O' b).2 (.inl hb)),λb hb hn=>?_,Ci hsz j6.sz,j6.same.1.trans e2.same.1,j6.same.2.1.trans e2.same.2.1,j6.same.2.2.trans e2.same.2.2⟩
  ·rcases j6.new b hb with x|x
   ·rcases (e2.O' b).1 x with y|y;exact .inl y;exact .inr y.1
   exact .inr (Ci hsz x)
  rw[j6.keep b (ER hb hsz) (λhx=>by
   rcases (e2.O' b).1 hx with y|y;exact hn y
   have:w.heap.size<=b:=y.1;omega)]
  exact e2.keep b hb hn
end
end
section
variable {L':List (Nat×Obj)}{l:List Oper}{b:Nat}{t:TypeId}{v x:AP}
section
variable {P:BL} {mn:Bool} {SR:Nat->Prop} {J:Ac->Own SR->Prop} (hJ:tH P mn J) {R:RF SR} {Gb:Nat->Prop} {L:List (Nat×Obj)}
 {fn:FuncId} {T:Array AP} {k:List Item} {D:List Deferred} {ro:Option Nat} {cs:List AX} {ops:Array Oper} {i:Nat} {rest:List Nat} {op:Oper} {o:Own SR}
include hJ
theorem ALv(v:Nat->AP)(ob:Obj)(ho:ops[i]? =AA op)(hw:DV op (yielded ops T)=true)(hd:ro=AB\/∀c,op.op≠ .defer c)(hr: ∀w:AL,(BG (ev T) op).run P w=.ok (.value (v w.heap.size)) (w.alloc ob))(he: ∀w:AL,(BG (ev T) op).events P w #[]= #[])
  (next: ∀n,(∀y∈L.map Aa,y<n)->¬SR n->J (G (fr fn (put T op.dst (v n)) (.inRegion ops rest::k) D ro) cs) (ow R Gb ((n,ob)::L))):
  J (G (fr fn T (.inRegion ops (i::rest)::k) D ro) cs) (ow R Gb L):=by
 refine OO hJ v ob ho hw hd (λw _=>hr w) (λw _=>he w) λn hn=>next n (λy hy=>?_) λhs=>?_
 ·obtain⟨w,hw',rfl⟩:=hn;obtain⟨p,hp,rfl⟩:=Bz.1 hy;exact (Df.1 (hw'.1 p hp)).1
 obtain⟨w,hw',rfl⟩:=hn;exact Nat.lt_irrefl _ (R.lt w hw'.2 _ hs)
theorem pjn(v:Nat->Value)(ob:Obj){T':Nat->Array Value}(next: ∀n,(∀y∈L.map Prod.fst,y<n)->J (G (fr fn (T' n) (.inRegion l.toArray rest::k) D ro) cs) (ow R Gb ((n,ob)::L)))(ho:l[i]? =some op:=by exact rfl)(hw:Region.wanted op (yielded l.toArray T)=true:=by rfl)(hd:ro=none\/∀c,op.op≠ .defer c:=by first|exact .inl rfl|exact .inr (λc h=>by cases h))
  (hr: ∀w:World,(execOp (ev T) op).run P w=.ok (.value (v w.heap.size)) (w.alloc ob):=by intro w;unfold ev;go_simp;try exact rfl) (he: ∀w:World,(execOp (ev T) op).events P w #[]= #[]:=by intro w;unfold ev;first|(simp[go_sem];done)|(simp[go_sem,ALw];done)|simp[go_sem,ALx])
  (hT: ∀n,Nf (put T op.dst (v n)) (T' n):=by intro n;simp only[put];(try walk_nrm);exact rfl):J (G (fr fn T (.inRegion l.toArray (i::rest)::k) D ro) cs) (ow R Gb L):=
 ALv hJ v ob (by simpa using ho) hw hd hr he λn h _=>by have e:put T op.dst (v n)=T' n:=hT n;rw[e];exact next n h
theorem AIn{g g':Ac}{ob ob':Obj}(hb:(b,ob)∈L)(hS: ¬SR b)(iM: ∀y,y∈L'.map Aa↔y∈L.map Aa)(hL: ∀p∈L',p=(b,ob')\/(p∈L/\p.1≠b))
  (h: ∀w:AL,w.heap[b]? =AA ob->∃es,Ae P mn g w=.go g' {w with heap:=w.heap.setIfInBounds b ob'} es/\∀e∈es,∃a x,e=⟨.cell a,x,false⟩/\a.block=b) (hr:g.status=.running)
  (next:J g' (ow R Gb L')):J g (ow R Gb L):=by
 refine hJ.QG (λ_=>g') (λ_=>ow R Gb L') hr (λw hw=>?_) λ_ _=>next;have h1:w.heap[b]? =AA ob:=hw.1 _ hb;obtain⟨es,h2,h3⟩:=h w h1;have hlt:b<w.heap.size:=(Df.1 h1).1;have hmem:b∈L.map Aa:=Nz hb;refine⟨_,es,h2,⟨λp hp=>?_,?_⟩,AV,λc=>?_,λc hc hn=>?_,⟨rfl,rfl,rfl⟩,λe he=>?_⟩
 ·show (w.heap.setIfInBounds b ob')[p.1]? =_;rcases hL p hp with rfl|⟨hp,hne⟩;simp[hlt];rw[Dw (λe=>hne e.symm)];exact hw.1 p hp
 exact R.st w _ hw.2 (λc hc=>Dw (λe=>hS (by rw[e];exact hc))) AV
 ·simp only[ow,iM];constructor;exact .inl;rintro (x|⟨x1,x2⟩);exact x;have:c<(w.heap.setIfInBounds b ob').size:=x2;simp at this;omega
 exact Dw (λe=>hn (.inr (by rw[<- e];exact hmem)));obtain⟨a,x,rfl,ha⟩:=h3 e he;exact .inl (.inr (by rw[ha];exact (iM b).2 hmem))
omit hJ in
theorem y7(w:AL){fr:Nat×Nat}(h:w.heap[b]? =AA (.cells #[x] t fr)):w.setCell ⟨b,0,AB⟩ v={w with heap:=w.heap.setIfInBounds b (.cells #[v] t fr)}:=by
 have hlt:b<w.heap.size:=(Df.1 h).1
 have:(w.setCell ⟨b,0,AB⟩ v).heap=w.heap.setIfInBounds b (.cells #[v] t fr):=by
  unfold World.setCell;apply Y4;intro i;simp only[lL];by_cases e:b=i
  ·subst e;rw[h];simp[hlt]
  rw[Dw e,BM e]
 have e:w.setCell ⟨b,0,AB⟩ v={w with heap:=(w.setCell ⟨b,0,AB⟩ v).heap}:=rfl;rw[e,this]
theorem AD9(hb:(b,.cells #[x] t)∈L)(hS: ¬SR b)(iM: ∀y,y∈L'.map Aa↔y∈L.map Aa)(hL: ∀p∈L',p=(b,.cells #[v] t)\/(p∈L/\p.1≠b))
  (ho:ops[i]? =AA op) (hw:DV op (yielded ops T)=true) (hd:ro=AB\/∀c,op.op≠ .defer c)
  (hr: ∀w:AL,w.cell? ⟨b,0,AB⟩=AA x->w.frozen? ⟨b,0,AB⟩=false->(BG (ev T) op).run P w=.ok .skip (w.setCell ⟨b,0,AB⟩ v)) (he: ∀w:AL,w.cell? ⟨b,0,AB⟩=AA x->w.frozen? ⟨b,0,AB⟩=false->∀e∈(BG (ev T) op).events P w #[],e=⟨.cell ⟨b,0,AB⟩,true,false⟩)
  (next:J (G (fr fn (put T op.dst AU) (.inRegion ops rest::k) D ro) cs) (ow R Gb L')):J (G (fr fn T (.inRegion ops (i::rest)::k) D ro) cs) (ow R Gb L):=by
 refine AIn hJ (ob':=.cells #[v] t) hb hS iM hL (λw h=>?_) rfl next;(have h1:w.cell? ⟨b,0,AB⟩=AA x:=by simp[PU,h]);(have h2:w.frozen? ⟨b,0,AB⟩=false:=by simp[World.frozen?,h]);refine⟨seen P fn ((BG (ev T) op).events P w #[]),?_,λe hx=>⟨⟨b,0,AB⟩,true,he w h1 h2 e (Du hx),rfl⟩⟩;rw[ALe ho hw hd (hr w h1 h2),y7 w h]
theorem pjs(b:Nat){T':Array Value}(next:J (G (fr fn T' (.inRegion l.toArray rest::k) D ro) cs) (ow R Gb (L.map λp=>if p.1=b then (b,.cells #[v] t) else p)))(hS: ¬SR b:=by exact λh=>h)(ho:l[i]? =some op:=by exact rfl)
  (hw:Region.wanted op (yielded l.toArray T)=true:=by rfl) (hd:ro=none\/∀c,op.op≠ .defer c:=by first|exact .inl rfl|exact .inr (λc h=>by cases h)) (hb:(b,.cells #[x] t)∈L:=by simp;done)
  (hr: ∀w:World,w.cell? ⟨b,0,none⟩=some x->w.frozen? ⟨b,0,none⟩=false->(execOp (ev T) op).run P w=.ok .skip (w.setCell ⟨b,0,none⟩ v):=by intro w f0 f1;unfold ev;go_simp;try exact rfl)
  (he: ∀w:World,w.cell? ⟨b,0,none⟩=some x->w.frozen? ⟨b,0,none⟩=false->∀e∈(execOp (ev T) op).events P w #[],e=⟨.cell ⟨b,0,none⟩,true,false⟩:=by intro w f0 f1;unfold ev;intro e he;simp[go_sem,f0,f1] at he;exact he)
  (hT:Nf (put T op.dst undef) T':=by simp only[put];(try walk_nrm);exact rfl):J (G (fr fn T (.inRegion l.toArray (i::rest)::k) D ro) cs) (ow R Gb L):=by
 refine AD9 hJ (L':=L.map λp=>if p.1=b then (b,.cells #[v] t) else p) hb hS (λy=>?_) (λp hp=>?_) (by simpa using ho) hw hd hr he (by have e:put T op.dst AU=T':=hT;rw[e];exact next)
 ·rw[Eg,He (g:=Aa) λp _=>?_];show (if p.1=b then (b,Obj.cells #[v] t) else p).1=p.1;split
  ·rename_i h;exact h.symm
  rfl
 obtain⟨q,hq,rfl⟩:=Bz.1 hp;split;exact .inl rfl;rename_i h;exact .inr ⟨hq,h⟩
omit hJ in
theorem AEA{x:Item}(h: ∀k',Go.RowKit.Hid (k'=k)->J (G (fr fn T (x::k') D ro) cs) o):J (G (fr fn T (x::k) D ro) cs) o:=h k rfl
end
theorem Qd{p q:Prop}(n:p)(h:p->q:=by intro n;first|((with_reducible refine CZ hJ (λw=>J5) ?_ n)<;>rfl)|((with_reducible refine CZ hJ (λw=>s_reg) ?_ n)<;>rfl)|((with_reducible refine CZ hJ (λw=>F8) ?_ n)<;>rfl)|((with_reducible refine CZ hJ (λw=>QH) ?_ n)<;>rfl)|((with_reducible refine CZ hJ (λw=>LC) ?_ n)<;>rfl)|((with_reducible refine CZ hJ (λw=>Np) ?_ n)<;>rfl)|((with_reducible refine CZ hJ (λw=>Q5) ?_ n)<;>rfl)|((with_reducible refine CZ hJ (λw=>QI ?_) ?_ n)<;>rfl)|((with_reducible refine CZ hJ (λw=>QJ ?_) ?_ n)<;>rfl)|exact EC hJ n|exact CZ hJ (λw=>J5) rfl n|exact CZ hJ (λw=>s_reg) rfl n|exact CZ hJ (λw=>F8) rfl n|exact CZ hJ (λw=>QH) rfl n|exact CZ hJ (λw=>LC) rfl n|exact CZ hJ (λw=>Np) rfl n|exact CZ hJ (λw=>Q5) rfl n|exact CZ hJ (λw=>QI rfl) rfl n|exact CZ hJ (λw=>QJ rfl) rfl n):q:=h n
end
theorem ALy{q:Prop}(H:Nat->Nat->Nat->Nat->Prop){p:Nat->Nat->Nat->Nat->Prop}(k:(∀a b c d,H a b c d->p a b c d)->q)(h: ∀a b c d,H a b c d->p a b c d):q:=k h
noncomputable def AFg:Code:=match EM Tryz.f46 with| .seq _ (.seq _ (.seq _ c))=>c|_=>.skip
noncomputable def ops3:Array Oper:=match AFg with| .seq (.region _ o _) _=>o|_=>#[]
noncomputable def Td:Code:=match AFg with| .seq _ c=>c|_=>.skip
theorem ALz{p:Array AP}{w:AL}:(callFunc 74 p).events Tryz.prog w #[]= #[]:=by rfl
theorem ALw(w:AL):(Instr.makeChan 157 (.int .i64 0)).events Tryz.prog w #[]= #[]:=by simp[Instr.makeChan,asInt,go_sem]
theorem ALx(w:AL):(Instr.makeChan 158 (.int .i64 0)).events Tryz.prog w #[]= #[]:=by simp[Instr.makeChan,asInt,go_sem]
section
variable {J:Ac->Own (λ_:Nat=>False)->Prop} (hJ:tH Tryz.prog true J) {R:RF (λ_:Nat=>False)} {Gb:Nat->Prop} {fv:Fn} {ps qs:Array AP} {to:AP} {cs:List AX}
include hJ
theorem AIo (next: ∀xb c1 c2 b1 b2 wg,[wg,b2,b1,c2,c1,xb].Nodup->J (G (BV Tryz.prog 74 #[.pointer (AA ⟨wg,0,AB⟩),.int .i64 1] .normal)
   (fr 46 #[.func fv ps qs,to,.pointer (AA ⟨xb,0,AB⟩),AU,.int .i64 0,.int .i64 0,.pointer (AA ⟨b1,0,AB⟩),.pointer (AA ⟨b2,0,AB⟩),.pointer (AA ⟨wg,0,AB⟩),AU,.chan (AA c1),.chan (AA c2),AU,AU,AU,AU,AU,AU,AU,AU,AU,AU,AU,AU,AU,AU,AU,AU,AU] [.inRegion ops3 [0],.code Td] [] AB::cs))
   (ow R Gb [(wg,.cells #[.int .u64 0,.int .u32 0] 168),(b2,.cells #[.chan (AA c2)] 158),(b1,.cells #[.chan (AA c1)] 157),(c2,.chan 0 #[] false 0 0 false),(c1,.chan 0 #[] false 0 0 false),(xb,.cells #[.func fv ps qs] 106)])):
  J (G (BV Tryz.prog 46 #[.func fv ps qs,to] .normal) cs) (ow R Gb []):=by
 have Next:=AQ next;clear next;rw[IM Tryz.func46 rfl];simp only[Tryz.f46,Iq,List.length_cons,List.length_nil,Nat.reduceAdd,Nat.reduceSub,KE,Array.replicate_zero,KF,KH,List.nil_append,List.cons_append];(iterate 2 refine Qd ?_);refine pjn hJ (λn=>.pointer (AA ⟨n,0,AB⟩)) (.cells #[.func fv ps qs] 106) λxb hxb=>?_;(iterate 4 refine Qd ?_);refine AEA λk1 hk1=>?_;apply ALy (λc1 c2 b1 b2=>[b2,b1,c2,c1,xb].Nodup)
 ·intro fin;refine nS hJ [[0,1,2,3,4,5],[0,1,3,2,4,5],[0,2,1,3,4,5],[0,2,3,1,4,5],[0,2,3,4,1,5],[0,3,1,2,4,5],[0,3,2,1,4,5],[0,3,2,4,1,5],[1,0,2,3,4,5],[1,0,3,2,4,5],[1,2,0,3,4,5],[1,2,3,0,4,5],[1,3,0,2,4,5],[1,3,2,0,4,5],[2,0,1,3,4,5],[2,0,3,1,4,5],[2,0,3,4,1,5],[2,1,0,3,4,5],[2,1,3,0,4,5],[2,3,0,1,4,5],[2,3,0,4,1,5],[2,3,1,0,4,5],[3,0,1,2,4,5],[3,0,2,1,4,5],[3,0,2,4,1,5],[3,1,0,2,4,5],[3,1,2,0,4,5],[3,2,0,1,4,5],[3,2,0,4,1,5],[3,2,1,0,4,5]] (.inr Aq) Aq λl hl=>?_;have Fin:=AQ fin;clear fin;simp only[BB,BC,or_false] at hl;rcases hl with rfl|rfl|rfl|rfl|rfl|rfl|rfl|rfl|rfl|rfl|rfl|rfl|rfl|rfl|rfl|rfl|rfl|rfl|rfl|rfl|rfl|rfl|rfl|rfl|rfl|rfl|rfl|rfl|rfl|rfl
  all_goals
   iterate 6 first
    |(refine pjn hJ (i:=0) (λn=>.chan (AA n)) (.chan 0 #[] false 0 0 false) λc1 hc1=>?_;simp only[BK,EG,BB,BC,or_false,forall_eq_or_imp,forall_eq] at hc1)|(refine pjn hJ (i:=1) (λn=>.chan (AA n)) (.chan 0 #[] false 0 0 false) λc2 hc2=>?_;simp only[BK,EG,BB,BC,or_false,forall_eq_or_imp,forall_eq] at hc2)|(refine pjn hJ (i:=2) (λn=>.pointer (AA ⟨n,0,AB⟩)) (.cells #[.chan AB] 157) λb1 hb1=>?_;simp only[BK,EG,BB,BC,or_false,forall_eq_or_imp,forall_eq] at hb1)|(refine pjn hJ (i:=3) (λn=>.pointer (AA ⟨n,0,AB⟩)) (.cells #[.chan AB] 158) λb2 hb2=>?_;simp only[BK,EG,BB,BC,or_false,forall_eq_or_imp,forall_eq] at hb2)|(refine pjs hJ (i:=4) b1 (x:=.chan AB) (v:=.chan (AA c1)) (t:=157) ?_;simp only[BK,EG,↓reduceIte];repeat rw[BM Ad])|(refine pjs hJ (i:=5) b2 (x:=.chan AB) (v:=.chan (AA c2)) (t:=158) ?_;simp only[BK,EG,↓reduceIte];repeat rw[BM Ad])
   rw[XQ (L':=[(b2,.cells #[.chan (AA c2)] 158),(b1,.cells #[.chan (AA c1)] 157),(c2,.chan 0 #[] false 0 0 false),(c1,.chan 0 #[] false 0 0 false),(xb,.cells #[.func fv ps qs] 106)]) (by intro p;simp only[BB,BC,or_false]<;>constructor<;>(rintro (h|h|h|h|h)<;>simp[h]))];exact Fin.out c1 c2 b1 b2 (by simp;omega)
 intro c1 c2 b1 b2 hd;have hk1:=hk1.out;subst hk1;(iterate 3 refine Qd ?_);refine pjn hJ (λn=>.pointer (AA ⟨n,0,AB⟩)) (.cells #[.int .u64 0,.int .u32 0] 168) λwg hwg=>?_;(iterate 3 refine Qd ?_);refine RX hJ (f:=74) (args:=#[.pointer (AA ⟨wg,0,AB⟩),.int .i64 1]) rfl rfl (.inl rfl) (λw hw=>?_) (λw hw=>?_) ?_;rw[F9 (op:=_) (f:=74) (vs:=#[.pointer (AA ⟨wg,0,AB⟩),.int .i64 1]) rfl WX];rfl;rw[F9 (op:=_) (f:=74) (vs:=#[.pointer (AA ⟨wg,0,AB⟩),.int .i64 1]) rfl WX];exact Gq ALz;simp only[BK,EG,BB,BC,or_false,forall_eq_or_imp,forall_eq] at hwg;exact Next.out xb c1 c2 b1 b2 wg (by simp at hd⊢;omega)
end
open Go.Conc.Lib Go.ConcX Go.ConcX.Gen
def APk (wg:Nat) (act:MemAct):Prop:=(∀B,wg<B->act.low B)/\(∀a,act≠ .mark (.release a))/\∀x b,act.touch? =AA x->x.loc.blk=AA b->b=wg
abbrev AL0 (wg:Nat):Shy wg wg where
 ok:=APk wg
 atomicWg:=λa wr h=>⟨λB hB=>by show a.block<B;omega,λ_ h=>(by cases h),λx b hx hb=>by simp only[DK,DN] at hx;subst hx;simp only[Loc.blk,DN] at hb;omega⟩
 readWg:=λa h=>⟨λB hB=>by show a.block<B;omega,λ_ h=>(by cases h),λx b hx hb=>by simp only[DK,DN] at hx;subst hx;simp only[Loc.blk,DN] at hb;omega⟩
 writeWg:=λa h=>⟨λB hB=>by show a.block<B;omega,λ_ h=>(by cases h),λx b hx hb=>by simp only[DK,DN] at hx;subst hx;simp only[Loc.blk,DN] at hb;omega⟩
 theirs:=λa wr h=>⟨λB hB=>by show a.block<B;omega,λ_ h=>(by cases h),λx b hx hb=>by simp only[DK,DN] at hx;subst hx;simp only[Loc.blk,DN] at hb;omega⟩
 disable:=⟨λ_ _=>Am,λ_ h=>(by cases h),λx b hx=>by simp[DK] at hx⟩
 enable:=⟨λ_ _=>Am,λ_ h=>(by cases h),λx b hx=>by simp[DK] at hx⟩
 relMerge:=⟨λ_ h=>h,λ_ h=>(by cases h),λx b hx=>by simp[DK] at hx⟩
 acquire:=⟨λ_ h=>h,λ_ h=>(by cases h),λx b hx=>by simp[DK] at hx⟩
 go1:=⟨λ_ _=>Am,λ_ h=>(by cases h),λx b hx=>by simp[DK] at hx⟩
 start:=⟨λ_ _=>Am,λ_ h=>(by cases h),λx b hx=>by simp[DK] at hx⟩
 stop:=λ_ _=>True
theorem vC{Z:Nat->Prop}{l:Loc}(h:O7 Z l): ∃b,l.blk=AA b/\Z b:=by
 cases l<;>first|exact⟨_,rfl,h⟩|exact h.elim
section
variable {P:BL} {L:WgLink} (H:WgLib P L) {Z:Nat->Prop} {B Lr:Nat} {gs:Array Ac} {w:AL} {sl:Option (Nat×Nat)} {t:CB} {q:Nat->Nat}
 {b₀:AX} {a₀:Act} {ops₀:Array Oper} {i₀:Nat} {rest₀:List Nat} {k₀:List Item} {cs:List AX} {wg:Nat}
include H
theorem AIp{a:Ac}(hS:OY P Z B Lr gs t a q 0)(hwg:w.heap[wg]? =AA (.cells #[.int .u64 0,.int .u32 0] L.tWg))(hB:wg<B)(hZ: ¬Z wg)
  (ha:a=G ((base L.add).at ⟨#[.pointer (AA ⟨wg,0,AB⟩),.int .i64 1,AU,AU,AU,AU,AU,AU,AU,AU,AU,AU,AU,AU,AU,AU,AU,AU,AU,AU,AU,AU,AU,AU,AU,AU,AU,AU,AU,AU,AU,AU,AU,AU,AU,AU,AU,AU,AU,AU,AU,AU,AU,AU,AU,AU,AU,AU,AU,AU,AU,AU,AU,AU,AU,AU,AU,AU,AU,AU,AU,AU,AU,AU,AU,AU,AU,AU,AU,AU,AU,AU,AU,AU,AU,AU,AU,AU,AU,AU,AU,AU,AU,AU,AU,AU,AU,AU,AU,AU,AU,AU,AU,AU,AU,AU,AU,AU,AU,AU,AU,AU,AU,AU,AU,AU,AU,AU,AU,AU,AU,AU,AU,AU,AU,AU,AU],[]⟩ [.code (body_add L)]) (b₀.at a₀ (.inRegion ops₀ (i₀::rest₀)::k₀)::cs)):
  ∃N gs' sl' t' q' d,D8 P N (crowd gs w sl) t=(.next (crowd gs' ((w.setCell (F6 wg) (.int .u64 KQ)).at d) sl'),t')/\gs'.size=gs.size/\OY P Z B Lr gs' t' (G (b₀.at (a₀.put ((ops₀[i₀]?).bind (·.dst)) (.tuple #[])) (.inRegion ops₀ rest₀::k₀)) cs) q' 0:=by
 letI:=AL0 wg
 have hD: ∀w w' es,DE (EvS wg wg) w w' es->∀e∈es,EvG (O7 Z) B e/\e.loc≠ .mark .disable/\e.loc≠ .mark .enable:=by
  intro w w' es h e he;obtain⟨_,_,_,h4,h5,h6,h7,h8⟩:=h e he;refine⟨⟨λx hx hz=>?_,h6 B hB,h7⟩,λhl=>h4 ?_,λhl=>h5 ?_⟩
  ·obtain⟨b,h9,h10⟩:=vC hz;exact Ai (h8 x b hx h9▸h10) hZ
  obtain⟨l,wr,sy⟩:=e;simp only at hl;subst hl;rfl;obtain⟨l,wr,sy⟩:=e;simp only at hl;subst hl;rfl
 have evm: ∀m:Mark,(m=.disable\/m=.enable)->∀e∈(#[Go.ConcX.mk m]:Array Bc),EvG (O7 Z) B e:=by
  intro m hm e he;rw[Array.mem_singleton] at he;subst he;rcases hm with rfl|rfl<;>exact⟨λx hx=>by simp[Go.ConcX.mk,Cb,DK] at hx,Am,λa h=>by cases h⟩
 have hG:=addPos (Wg:=wg) (C:=wg) (b₀:=b₀) (a₀:=a₀) (ops₀:=ops₀) (i₀:=i₀) (rest₀:=rest₀) (k₀:=k₀) (cs:=cs) (mT:=0)
  (StopG:=λg w'=>g=G (b₀.at (a₀.put ((ops₀[i₀]?).bind (·.dst)) (.tuple #[])) (.inRegion ops₀ rest₀::k₀)) cs/\∃d,w'=(w.setCell (F6 wg) (.int .u64 KQ)).at d) H w hwg
  (Goes.stop λw₁ h₁=>by obtain⟨d,rfl⟩:=h₁;exact⟨rfl,d,rfl⟩)
 rw[<- ha] at hG;obtain⟨N1,gs1,w1,sl1,t1,q1,a1,r1,z1,S1,st1⟩:=y5 hD (sl:=sl) hS hG
 obtain⟨N2,gs2,w2,sl2,t2,q2,a2,es2,B2,r2,z2,S2,rfl,rfl,n2,G2⟩:=yz (w:=w1) (sl:=sl1) (R:=λa' w' es B'=>B'=B/\es= #[Go.ConcX.mk .disable]/\∃n,Goes P true AtRel (DE (EvS wg wg)) _ n a' w') S1 (st1 0).1 (λdd=>by
  obtain⟨_,a',h1,h2⟩:=st1 dd
  exact⟨a',_,_,B,h1,Ba _,evm _ (.inl rfl),rfl,rfl,h2⟩)
 obtain⟨N3,gs3,w3,sl3,t3,q3,a3,r3,z3,S3,st3⟩:=y5 hD (sl:=sl2) S2 G2
 obtain⟨N4,gs4,w4,sl4,t4,q4,a4,es4,B4,r4,z4,S4,rfl,rfl,n4,G4⟩:=yz (w:=w3) (sl:=sl3) (R:=λa' w' es B'=>B'=B2/\es= #[Go.ConcX.mk .enable]/\∃n,Goes P true AtRel (DE (EvS wg wg)) _ n a' w') S3 (st3 0).1 (λdd=>by
  obtain⟨_,a',h1,h2⟩:=st3 dd
  exact⟨a',_,_,B2,h1,Ba _,evm _ (.inr rfl),rfl,rfl,h2⟩)
 obtain⟨N5,gs5,w5,sl5,t5,q5,a5,r5,z5,S5,st5⟩:=y5 hD (sl:=sl4) S4 G4;obtain⟨h5,d5,e5⟩:=st5 w5.drawn;have e5:w5=(w.setCell (F6 wg) (.int .u64 KQ)).at d5:=e5;subst e5 h5;refine⟨_,gs5,sl5,t5,q5,d5,EZ (EZ (EZ (EZ r1 r2) r3) r4) r5,Ad,?_⟩;exact S5
end
theorem AEB(wg:Nat):BV Tryz.prog 74 #[.pointer (AA ⟨wg,0,AB⟩),.int .i64 1] .normal=(base link.add).at ⟨#[.pointer (AA ⟨wg,0,AB⟩),.int .i64 1,AU,AU,AU,AU,AU,AU,AU,AU,AU,AU,AU,AU,AU,AU,AU,AU,AU,AU,AU,AU,AU,AU,AU,AU,AU,AU,AU,AU,AU,AU,AU,AU,AU,AU,AU,AU,AU,AU,AU,AU,AU,AU,AU,AU,AU,AU,AU,AU,AU,AU,AU,AU,AU,AU,AU,AU,AU,AU,AU,AU,AU,AU,AU,AU,AU,AU,AU,AU,AU,AU,AU,AU,AU,AU,AU,AU,AU,AU,AU,AU,AU,AU,AU,AU,AU,AU,AU,AU,AU,AU,AU,AU,AU,AU,AU,AU,AU,AU,AU,AU,AU,AU,AU,AU,AU,AU,AU,AU,AU,AU,AU,AU,AU,AU,AU],[]⟩ [.code (body_add link)]:=by kernel_rfl
noncomputable def ops4:Array Oper:=match Td with| .seq (.region _ o _) _=>o|_=>#[]
noncomputable def V8:Code:=match Td with| .seq _ c=>c|_=>.skip
section
variable {SR:Nat->Prop} {J:Ac->Own SR->Prop} (hJ:tH Tryz.prog true J) {o:Own SR} {cs:List AX} {a0 a1 a3 a9 XT PE a16 a17 OU OV a20 a21 a22 a23 a24 a25 a26 a27 a28:AP} {xb c1 c2 b1 b2 wg:Nat}
include hJ
theorem AIq(next:J (G (fr 46 #[a0,a1,.pointer (AA ⟨xb,0,AB⟩),a3,.int .i64 0,.int .i64 0,.pointer (AA ⟨b1,0,AB⟩),.pointer (AA ⟨b2,0,AB⟩),.pointer (AA ⟨wg,0,AB⟩),a9,.chan (AA c1),.chan (AA c2),.tuple #[],.func (.func 75) #[] #[.pointer (AA ⟨wg,0,AB⟩),.pointer (AA ⟨b1,0,AB⟩),.pointer (AA ⟨xb,0,AB⟩),.pointer (AA ⟨b2,0,AB⟩)],XT,PE,a16,a17,OU,OV,a20,a21,a22,a23,a24,a25,a26,a27,a28] [.inRegion ops4 [1],.code V8] [] AB) cs) o){LD:AP}:
  J (G (fr 46 #[a0,a1,.pointer (AA ⟨xb,0,AB⟩),a3,.int .i64 0,.int .i64 0,.pointer (AA ⟨b1,0,AB⟩),.pointer (AA ⟨b2,0,AB⟩),.pointer (AA ⟨wg,0,AB⟩),a9,.chan (AA c1),.chan (AA c2),.tuple #[],LD,XT,PE,a16,a17,OU,OV,a20,a21,a22,a23,a24,a25,a26,a27,a28] [.inRegion ops3 [],.code Td] [] AB) cs) o:=by
 have Next:=AQ next;clear next;have el:Td=Td:=rfl
 conv at el=>lhs;simp only[Td,AFg,EM,Tryz.f46,Dt]
 rw[<- el];clear el;(iterate 3 refine Qd ?_);refine EC hJ ?_ (he:=by intro w hw;unfold ev;simp[go_sem,Instr.makeFunc]);exact Next.out
end
theorem ARv{cs:List AX}{T:Array AP}{q:Array AP}{w:AL}(hT:ev T (.tmp 13)=.func (.func 75) #[] q):Ae Tryz.prog true (G (fr 46 T [.inRegion ops4 [1],.code V8] [] AB) cs) w=.spawn (G (fr 46 T [.inRegion ops4 [],.code V8] [] AB) cs) (born Tryz.prog {target:=.fn (.func 75) q,args:=#[]}) w #[]:=by
 obtain⟨og,hog,ARw,ARx,ARy⟩: ∃og,ops4[1]? =AA og/\og.op=.go {callee:=.value (.tmp 13),args:=#[],argTypes:=#[]}/\(∀T,DV og T=true)/\og.dst=AB:=⟨_,rfl,rfl,λ_=>rfl,rfl⟩
 have hx:BG (ev T) og=pure (.spawn {target:=.fn (.func 75) q,args:=#[]}):=by
  unfold BG;simp[ARw,resolve,Deferred.ofValue,hT]
 rw[Q7 (kd:=false) hog (ARx _) (.inl rfl),hx];(have hf:(fr 46 T [.inRegion ops4 [1],.code V8] [] AB).finish AU=fr 46 T [.inRegion ops4 [],.code V8] [] AB:=by rw[EH hog,ARy];rfl);rw[<- hf];rfl
section
variable {C:Cx} (hP:C.P=Tryz.prog) {R:RF C.SR} {s:ByteArray} {sz:Nat} (hCs: ∀k xv bk ob,C.Cs k xv bk ob->Piece C.SR s sz k xv bk ob) (hNN:s.size<=C.N*sz) (hsz:1<=sz) (hsz2:(sz:Int)<=9223372036854775807) (hs:s.size<=1073741824)
 {sb:Nat} (hsb:C.SR sb) (hrd: ∀w,R.R w->w.cell? ⟨sb,0,AB⟩=AA (.chan (AA C.bs))) (hlive: ∃w,Live C w) {Kp:AX->List AX->AL->Prop} (Bv: ∀f ts v,Kp f ts v->ts=[]/\f.mode=.returning)
 {c0:AX} {cs:List AX} {cs0:List AX}
 {b1:Nat} (hb1:C.SR b1) (AIr: ∀w,R.R w->w.cell? ⟨b1,0,AB⟩=AA (.chan (AA C.bc)))
include hP hCs hNN hsz hsz2 hs hsb hrd hlive Bv hb1 AIr
theorem AEC{to to':AP}{v:AL}{ρ:Rn}(h:OG R ρ)(hev:Ev Af Kp (BV Af 46 #[Fg 79 s sz,to] .normal) (c0::cs) v)(O8:NQ Af Kp ⟨BV Af 46 #[Fg 79 s sz,to] .normal,c0::cs,v⟩)(hto:Az K2.F ρ to to')
  {a0 a2 a3 a9 a10 a11 a12 LD XT PE a16 a17 OU OV a20 a21 a22 a23 a24 a25 a26 a27 a28:AP}:
  PM C (AIi C R sb Kp c0 cs cs0 ⟨BV Af 46 #[Fg 79 s sz,to] .normal,c0::cs,v⟩ ρ) .work 0 (G (fr 46 #[a0,to',a2,a3,.int .i64 0,.int .i64 0,.pointer (AA ⟨b1,0,AB⟩),.pointer (AA ⟨sb,0,AB⟩),.pointer (AA ⟨C.wg,0,AB⟩),a9,a10,a11,a12,LD,XT,PE,a16,a17,OU,OV,a20,a21,a22,a23,a24,a25,a26,a27,a28] [.inRegion ops4 [],.code V8] [] AB) cs0) (og K2.F 2 R ρ v h):=by
 have OX: ∀f ts v,Kp f ts v->ts=[]:=λf ts v x=>(Bv f ts v x).1;obtain⟨s',hs',hn⟩:=ALn (Kp:=Kp) OX (Good:=λs'=>s'=⟨fr 46 (TA (Fg 79 s sz) to (.tuple #[.string s,.int .i64 sz]) s 0 0 sz 0 AU AU AU AU AU AU AU AU AU AU) [.code Ah.loop,.inLoop Ah.loop,.inBlock 0,.code .ret] [] AB,c0::cs,v⟩) (to:=to) (s:=s) (n:=sz) (cs:=cs) (c0:=c0) (v:=v) (.fin rfl);subst hs'
 have head:=nz (cs0:=cs0) (NT:=.tuple #[.string s,.int .i64 sz]) (r9:=AU) (r10:=AU) (r11:=AU) (r12:=AU) (r13:=AU) (Js:=AU) (IA:=AU) (r16:=AU) (IB:=AU) (OQ:=AU) (cnt:=0) (e:=0) (k:=0) (lo:=0) (to:=to) (to':=to') (v:=v) (a0:=a0) (a2:=a2) (a3:=a3) (a6:=.pointer (AA ⟨b1,0,AB⟩)) (a9:=a9) (a10:=a10) (a11:=a11) (a12:=a12) (LD:=LD) (PE:=PE) (a16:=a16) (a17:=a17) (OU:=OU) (OV:=OV) (a20:=a20) (a21:=a21) (a22:=a22) (a23:=a23) (a24:=a24) (a25:=a25) (a26:=a26) (a27:=a27) (a28:=a28)
  hP hCs hNN hsz hsz2 hs hsb hrd hlive Bv ⟨BV Af 46 #[Fg 79 s sz,to] .normal,c0::cs,v⟩ ρ h (λst hst=>AGv hP hCs hNN hsz hsz2 hs hsb hrd hlive Bv _ ρ (Ev.O6 (s:=⟨_,_,_⟩) hev (hst.trans hn)) (λs'' h=>O8 s'' (h.trans (hst.trans hn)))) hn (.refl _) AV hto
 have Head:=AQ head;have fB: ∀w,(og K2.F 2 R ρ v h).I w->w.cell? ⟨b1,0,AB⟩=AA (.chan (AA C.bc)):=λw hw=>AIr w hw.2;clear head hn hev O8 OX hto AIr hrd Bv hNN hCs hsz hsz2 hs;have el:V8=V8:=rfl
 conv at el=>lhs;simp only[V8,Td,AFg,EM,Tryz.f46,Dt]
 rw[<- el];clear el;(iterate 4 refine tK ?_);refine EC (Ot hP) ?_ (hr:=by intro w hw;have f0:=fB w hw;unfold ev;go_simp;exact rfl) (he:=by intro w hw;have f0:=fB w hw;unfold ev;simp[go_sem,f0];exact⟨.inr hb1,rfl⟩);(iterate 2 refine tK ?_);refine CZ (Ot hP) (λw=>kS) rfl ?_;exact Head.out
end
section
variable {P:BL} {Z:Nat->Prop} {B L:Nat} {gs:Array Ac} {w:AL} {t:CB} {a a' child:Ac} {q:Nat->Nat} {sl:Option (Nat×Nat)}
theorem AED(h:OY P Z B L gs t a q 0)(ha:a.status=.running)(hs: ∀dd,Ae P true a (w.at dd)=.spawn a' child (w.at dd) #[]):
  ∃N gs1 sl1 t1 q1 d1 x y,D8 P N (crowd gs w sl) t=(.next (crowd ((gs1.setIfInBounds 0 a').push child) (w.at d1) sl1),t1++ #[x,y])/\gs1.size=gs.size/\OY P Z B L gs1 t1 a q1 0/\(x.g=0/\x.act=.go gs.size)/\(y.g=gs.size/\y.act=.start):=by
 obtain⟨N,gs1,w1,sl1,t1,q1,dd,sx,h1,h2,h3,⟨d1,rfl⟩,h5⟩:=AIm (w:=w) (sl:=sl) h ha;have hr:=runT_crowd_spawn (P:=P) (w:=w.at dd) (w':=w.at dd) (sl:=sx) (i:=0) h3.at0 (show Ae P (0==0) a (w.at dd)=_ from hs dd);rw[h2] at hr;refine⟨N+1,gs1,sx,t1,q1,dd,{g:=0,fn:=a.frame.fn,pos:=a.frame.place,act:=.go gs.size},{g:=gs.size,fn:=child.frame.fn,pos:=a.frame.place,act:=.start},?_,h2,h3,⟨rfl,rfl⟩,rfl,rfl⟩;rw[oC h1 (h5.trans hr)];congr 1
end
theorem AIs{C:Cx}{B L:Nat}{gs:Array Ac}{w:AL}{t:CB}{a a' child:Ac}{q:Nat->Nat}{x y:MemOp}{oM:Own C.SR}(h:OY C.P C.Z B L gs t a q 0)(hj:C.j=gs.size)(hx:x.g=0/\x.act=.go gs.size)(hy:y.g=gs.size/\y.act=.start)
  (hB:B<=w.heap.size) (hL:L<=C.wg) (om: ∀b,oM.O b->b<w.heap.size/\¬C.SR b/\¬C.SY b/\¬C.Z b) (sr: ∀b,C.SR b->b<w.heap.size/\¬C.SY b/\¬C.Z b) (sy: ∀b,C.SY b->b<w.heap.size/\¬C.Z b) (z: ∀b,C.Z b->b<w.heap.size) (im:oM.I w)
  (keep:(∀b,b<C.w0.heap.size->¬C.T0 b->w.heap[b]? =C.w0.heap[b]?)/\(∀b,(oM.O b\/C.SY b)->b<C.w0.heap.size->C.T0 b)) (sz:C.w0.heap.size<=w.heap.size) (same:w.tape=C.w0.tape/\w.os=C.w0.os/\w.output=C.w0.output):
  Cf C ((gs.setIfInBounds 0 a').push child) w (t++ #[x,y]) q a' child 0 0 oM (λ_=>False):=by
 have h0:0<gs.size:=(Df.1 h.at0).1;have hmem: ∀op∈(#[x,y]:Array MemOp),op=x\/op=y:=λop hop=>by simpa using hop
 have hnt: ∀op∈(#[x,y]:Array MemOp),op.act.touch? =AB:=λop hop=>by
  rcases hmem op hop with rfl|rfl;rw[hx.2];rfl;rw[hy.2];rfl
 have hdf: ∀g,Deaf (t++ #[x,y]) g=Deaf t g:=λg=>Go.ConcX.Deaf_keep t g #[x,y] λop hop=>by
  rcases hmem op hop with rfl|rfl;rw[hx.2];exact⟨AV,AV⟩;rw[hy.2];exact⟨AV,AV⟩
 have hd0:Deaf t 0=0:=h.past.deaf;have hdj:Deaf t gs.size=0:=h.leavers.above _ (Ba _)
 have told: ∀i a,Il (t++ #[x,y]) i=AA a->Il t i=AA a:=λi a ha=>by
  obtain⟨op,hop,hoa⟩:=touch_of ha;rcases Ya hop with ⟨_,hop'⟩|⟨_,hou⟩
  ·rw[touchAt_of hop'];exact hoa
  rw[hnt op hou] at hoa;cases hoa
 have both: ∀i a,Il (t++ #[x,y]) i=AA a->(∃b,a.loc.blk=AA b/\¬C.Z b)->Knows (t++ #[x,y]) 0 i/\Knows (t++ #[x,y]) C.j i:=λi a ha ⟨b,hb,hz⟩=>by
  have hm:a.loc.isMemory=true:=by
   generalize a.loc=l at hb;cases l<;>first|rfl|cases hb
  rcases h.past.known i a (told i a ha) hm with hk|⟨hs,_⟩;exact⟨hk.app _,by rw[hj];exact Go.ConcN.fork_knows hx hy hd0 hdj hk⟩;obtain⟨b',hb',hz'⟩:=vC hs;rw[hb] at hb';(cases hb');exact Ai hz' hz
 refine⟨by rw[hj];exact h0,?_,?_,λi g hi hij hg=>?_,λi hi=>?_,by rw[hdf,hd0],by rw[hdf,hj,hdj],?_,?_,?_,λb hb=>?_,λb hb=>hb.elim,sr,sy,z,im,⟨keep.1,λb hb hl=>keep.2 b (hb.imp id λx=>x.elim (λy=>y.elim) id) hl⟩,sz,same,?_⟩
 ·rw[Rk (by simpa using h0)];simp[h0]
 ·rw[hj];(have:(gs.setIfInBounds 0 a').size=gs.size:=by simp);rw[<- this,Array.getElem?_push_size]
 ·have hlt:i<gs.size:=by
   have:=(Df.1 hg).1;simp at this;rw[hj] at hij;omega
  rw[Rk (by simpa using hlt),<- FD,Dw Ad] at hg;rw[hdf];exact h.leavers.old i g hi hg
 ·rw[hdf];refine h.leavers.above i ?_;simp at hi;omega
 ·refine⟨λsaid=>?_,λi x b _ _ hb=>hb.elim,λi a b ha hb hs _=>both i a ha ⟨b,hb,(sr b hs).2.2⟩,λi a b ha hb hs=>.inr (both i a ha ⟨b,hb,(sy b hs).2⟩),λi a b ha hb _ _ _ hz=>(both i a ha ⟨b,hb,hz⟩).1,λi a ha hm=>?_⟩
  ·rintro⟨i,k,hik,⟨a,b,ha,hb,hc⟩,n1,n2⟩;refine h.past.clean said ⟨i,k,hik,⟨a,b,told i a ha,told k b hb,hc⟩,λhh=>n1 (hb_app _ hh),λhh=>n2 (hb_app _ hh)⟩
  rcases h.past.known i a (told i a ha) hm with hk|hk;exact .inl (hk.app _);exact .inr (.inr hk)
 ·intro op hop;rcases JL.1 hop with hop|hop;exact MemAct.low_mono hB (h.past.seen op hop);rcases hmem op hop with rfl|rfl;rw[hx.2];trivial;rw[hy.2];trivial
 ·refine NR (λi hi=>?_) λop hop=>?_
  ·obtain⟨op,ho,hoa⟩:=Jz.1 hi;have:=h.past.nor op (lK ho) _ hoa;simp only[F6] at this;omega
  rcases hmem op hop with rfl|rfl;rw[hx.2];simp;rw[hy.2];simp
 ·obtain⟨h1,h2,h3⟩:=om b hb;exact⟨h1,λx=>x,h2,h3⟩
 exact O9 (λi g hg h0 _ hc=>h.past.over i g hg h0 hc) λop hop=>.inr (.inr (hnt op hop))
section
variable {s:ByteArray}{n:Int}{B:List Nat}{a b sz:Nat}{t:TypeId}{w:AL}
def frz (SR:Nat->Prop) (W:AL) (h: ∀b,SR b->b<W.heap.size):RF SR where
 R:=λw=>∀b,SR b->w.heap[b]? =W.heap[b]?
 st:=λw w1 hw k _ b hb=>(k b hb).trans (hw b hb)
 lt:=λw hw b hb=>by
  have h1:=hw b hb;rw[FD (h b hb)] at h1;exact (Df.1 h1).1
theorem zA(h:Ij w B s n a b): ∃B',Ij w B' s n a b/\∀c∈B',c∈B/\∃o,w.heap[c]? =AA o/\isCells o:=by
 obtain⟨D,cap,ta,h1,h2⟩:=h.box;obtain⟨tb,h3⟩:=h.size;rcases h2 with h2|⟨d,o,cells,td,e,hd,h4,h5,h6,h7⟩
 ·refine⟨[a,b],⟨λc hc=>?_,AV,AV,h.pos,h.hi,h.few,⟨D,cap,ta,h1,.inl h2⟩,tb,h3⟩,λc hc=>?_⟩
  ·simp only[BB,BC,or_false] at hc;rcases hc with rfl|rfl;exact h.lt _ h.rZ;exact h.lt _ h.inb
  simp only[BB,BC,or_false] at hc;rcases hc with rfl|rfl;exact⟨h.rZ,_,h1,_,_,_,rfl⟩;exact⟨h.inb,_,h3,_,_,_,rfl⟩
 refine⟨[a,b,d],⟨λc hc=>?_,AV,AV,h.pos,h.hi,h.few,⟨D,cap,ta,h1,.inr ⟨d,o,cells,td,e,AV,h4,h5,h6,h7⟩⟩,tb,h3⟩,λc hc=>?_⟩
 ·simp only[BB,BC,or_false] at hc;rcases hc with rfl|rfl|rfl;exact h.lt _ h.rZ;exact h.lt _ h.inb;exact h.lt _ hd
 simp only[BB,BC,or_false] at hc;rcases hc with rfl|rfl|rfl;exact⟨h.rZ,_,h1,_,_,_,rfl⟩;exact⟨h.inb,_,h3,_,_,_,rfl⟩;exact⟨hd,_,h4,_,_,_,rfl⟩
theorem Ij.oD{w':AL}(h:Ij w B s n a b)(hk: ∀c∈B,w'.heap[c]? =w.heap[c]?):Ij w' B s n a b:=by
 obtain⟨D,cap,ta,h1,h2⟩:=h.box;obtain⟨tb,h3⟩:=h.size;refine⟨λc hc=>?_,h.rZ,h.inb,h.pos,h.hi,h.few,⟨D,cap,ta,by rw[hk a h.rZ];exact h1,?_⟩,tb,by rw[hk b h.inb];exact h3⟩
 ·have h4:=hk c hc;rw[FD (h.lt c hc)] at h4;exact (Df.1 h4).1
 rcases h2 with h2|⟨d,o,cells,td,e,hd,h4,h5⟩;exact .inl h2;exact .inr ⟨d,o,cells,td,e,hd,by rw[hk d hd];exact h4,h5⟩
theorem I8{o:Nat}{c:Array AP}{f:Nat×Nat}(h:w.heap[b]? =AA (.cells c t f)):w.cell? ⟨b,o,AB⟩=c[o]? :=by
 unfold PU;rw[h];rfl
theorem AIt{C:Cx}{W:AL}{hlt: ∀b,C.SR b->b<W.heap.size}{p1 p2 xb:Nat}(hS:Ij W B s sz p1 p2)(hB: ∀c∈B,C.SR c)(hxb:C.SR xb)
  (hx:W.heap[xb]? =AA (.cells #[.func (.func 79) #[] #[.pointer (AA ⟨p1,0,AB⟩),.pointer (AA ⟨p2,0,AB⟩)]] t (0,0))):
  ∃D c,AD4 C (frz C.SR W hlt) xb p1 p2 D s.data.toList.length c sz/\s.data.toList.length<=c/\(D=AB->s.data.toList=[])/\
   (0<s.data.toList.length->∀d,D=AA d->C.SR d.block/\∀w,(frz C.SR W hlt).R w->∀j v,(Jr s.data.toList)[j]? =AA v->w.cell? (d.add j)=AA v):=by
 obtain⟨D,cap,ta,h1,h2⟩:=hS.box;obtain⟨tb,h3⟩:=hS.size;(have hl:s.data.toList.length=s.size:=by rw[Array.length_toList];rfl);refine⟨D,cap,⟨hxb,hB _ hS.rZ,hB _ hS.inb,λw hw=>?_,λw hw=>?_,λw hw=>?_⟩,?_,λhn=>?_,λhpos d hd=>?_⟩;rw[I8 ((hw xb hxb).trans hx)];rfl;rw[I8 ((hw p1 (hB _ hS.rZ)).trans h1),hl];rfl;rw[I8 ((hw p2 (hB _ hS.inb)).trans h3)];rfl
 ·rw[hl];rcases h2 with h2|⟨_,_,_,_,_,_,_,_,h6,_⟩;omega;exact h6
 ·rcases h2 with h2|⟨_,_,_,_,e,_⟩;exact dN.1 (hl.trans h2);rw[hn] at e;cases e
 rcases h2 with h2|⟨d',o,cells,td,e,hd',h4,h5,h6,h7⟩;omega;rw[hd] at e;obtain rfl:=EF e;refine⟨hB _ hd',λw hw j v hv=>?_⟩
 have hj:j<s.size:=by
  have:=(DC.1 hv).1;simp only[Jr,DZ,hl] at this;exact this
 have hvv:v=.int .u8 (s[j].toNat:Int):=by
  simp only[Jr,Bg] at hv
  have e2:s.data.toList[j]? =AA s[j]:=by
   rw[Y5];exact FD _
  rw[e2] at hv;exact (EF hv).symm
 have hc:=I8 (o:=o+j) ((hw d' (hB _ hd')).trans h4);rw[h7 j hj,<- hvv] at hc;(have ea:(⟨d',o,AB⟩:Addr).add j=⟨d',o+j,AB⟩:=by simp[Addr.add]);rw[ea];exact hc
theorem AFh{l:Nat}(hsz:1<=sz):l<=((l+sz - 1)/sz)*sz/\∀k,l<=k*sz->(∀j,j<k->j*sz<l)->k=(l+sz - 1)/sz:=by
 have h1:=Nat.div_add_mod (l+sz - 1) sz;have h2:=Z8 (l+sz - 1) (show sz>0 by omega);have h3:sz*((l+sz - 1)/sz)=((l+sz - 1)/sz)*sz:=Nat.mul_comm _ _;refine⟨Ad,λk hk hj=>?_⟩
 generalize hN:(l+sz - 1)/sz=N at*
 rcases Nat.lt_trichotomy k N with h|h|h
 ·have:(k+1)*sz<=N*sz:=TE _ h;have e:(k+1)*sz=k*sz+sz:=Nat.succ_mul k sz;omega
 exact h;have:=hj N h;omega
end
end Go.Proofs.YtkkgcebhfghdnaaGreatDoor
