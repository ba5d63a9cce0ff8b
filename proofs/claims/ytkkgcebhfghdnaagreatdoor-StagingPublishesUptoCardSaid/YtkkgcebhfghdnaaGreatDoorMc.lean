/- Part 3 of what that rests on; no condition. -/
import Derived.Test.YtkkgcebhfghdnaaGreatDoorMb
import Derived.Conc.AppendWalk
import Derived.Conc.DeferLaws
import Derived.Conc.FxGenLone
import Derived.Conc.WalkWords
import Derived.Lib.Hide
import Derived.Test.YtkkgcebhfghdnaaGreatDoorChecked
set_option maxRecDepth 100000
set_option maxHeartbeats 8000000
open Go.Extern.Rtype renaming directlyAssignable→AHF, directlyAssignable→ABG, implements→mQ
open Go.Extern.ReflectliteType renaming assignableTo→UN, implements_→mP, abiMethod→mV, relation→QH, ofRtype→ABF, toType→mJ, typeOf→WH, method→mM, elem→mO
open Go.Extern.ReflectliteValue renaming valueError→Ox, methodAny→ABH, partsAny→UQ, flagAddr→ABJ, unpack→UO, method→UR, parts→WI, isNil→Yp, elem→Yq, set→eY
open Go.Conc renaming getElem?_append_cases→Yl, deafBehind_still→Kt, ofEvent_cell0→NV, runT_crowd_go→Yk, Deaf_other→MF
open Go.Builtin renaming nextslicecap→tY, zeroCells→Nw
open Array renaming replicate_zero→MI, replicate→IM
open Go.Region.linearise renaming go→Yj
open Go.Goroutine.mk renaming injEq→Gm
open Option renaming toList_some→fC, getD_some→Dx, map_none→YC, map_some→Fj, none→AB, some→AA
open Go.Instr renaming sliceBounds→Qx, buildSlice→aQ, sliceBound→Pm, beginRound→Yh, enterLoop→WE, endRound→UM, sliceAt→LY, getLoop→aV, slice→WC, yield→aW, fill→MO, box→TR
open Go.Result renaming andThen_ok→Oy
open Go.Deferred renaming ofValue→Pv
open List renaming length_cons→EY, cons_append→Dn, length_nil→Hg, nil_append→EE, range→Fp
open Go.IntKind renaming wrap_i64→NY
open Go.MemAct renaming ofEvent→CY, touch?→DL
open Go.MemOp renaming ofEvents→Dc
open Nat renaming reduceAdd→Jp, reduceSub→MH
open Go.Region renaming wanted→DX, binds→Yi
open Go renaming runtimePanic→Qw, callMethod→Pq, deafBehind→Ei, zeroValue→GY, Goroutine→Ad, Deferred→EL, typeInfo→I4, Question→F7, callFunc→E8, doReturn→Gz, Program→BM, Operand→DU, FuncId→Bl, TypeId→Am, setObj→I5, execOp→BI, maxLen→ER, Value→AQ, undef→AU, World→AL, Event→Be, Frame→AX, stepG→Af, Trace→CJ, runNT→D7, Addr→Ag, Oper→BX
open Go.Sem renaming run_bind→Eu, run_pure→Yr, runT_eq→Ik, runT→Gi
open Go.World renaming cell?→Pj
open Go.Value renaming cells→Nv, int→Jq
open Go.GStep renaming after→DZ
open Go.Frame renaming enter→Bc
open Go.stepG renaming apply→Hw, exec→JB
open Go.Obj renaming cells→QI
open Go.Addr renaming add→Q9
open Prod renaming fst→Ac
open Go.ConcN renaming sumTo→D5
namespace Go.Proofs.YtkkgcebhfghdnaaGreatDoor
open Go Go.Conc
section
variable {ops:Array BX}{c x y:Code}{f:Bl}{rest:List Nat}{r:Loop}{i l:Nat}{o:BX}{α:Type}
def fr (fn:Bl) (T:Array AQ) (k:List Item) (D:List EL) (ro:Option Nat) (kd:Bool:=false):AX:={fn,tmps:=T,todo:=k,defers:=D,mode:=.run,kind:=bif kd then .deferred else .normal,roundOf:=ro}
def ev (T:Array AQ):DU->AQ:=Act.eval ⟨T,[]⟩
def put (T:Array AQ) (d:Option Tmp) (v:AQ):Array AQ:=match d with|some d=>T.setIfInBounds d v|none=>T
def Nf {α:Type} (a b:α):Prop:=a=b
section
variable {P:BM} {mn:Bool} {fn:Bl} {T:Array AQ} {k:List Item} {D:List EL} {ro:Option Nat} {cs:List AX} {w w':AL} {kd:Bool}
theorem AB2(x:DU):(fr fn T k D ro kd).eval x=ev T x:=by cases x<;>rfl
theorem wB:(fr fn T k D ro kd).eval=ev T:=funext AB2
theorem KD:Af P mn (G (fr fn T (.code (.seq x y)::k) D ro kd) cs) w=.go (G (fr fn T (.code x:: .code y::k) D ro kd) cs) w:=rfl
theorem RQ:Af P mn (G (fr fn T (.code .skip::k) D ro kd) cs) w=.go (G (fr fn T k D ro kd) cs) w:=rfl
theorem LK{id:Nat}:Af P mn (G (fr fn T (.inBlock id::k) D ro kd) cs) w=.go (G (fr fn T k D ro kd) cs) w:=rfl
theorem QT{id:Nat}:Af P mn (G (fr fn T (.code (.block id c)::k) D ro kd) cs) w=.go (G (fr fn T (.code c:: .inBlock id::k) D ro kd) cs) w:=rfl
theorem lY:Af P mn (G (fr fn T (.code (.loop c)::k) D ro kd) cs) w=.go (G (fr fn T (.code c:: .inLoop c::k) D ro kd) cs) w:=rfl
theorem N8:Af P mn (G (fr fn T (.inLoop c::k) D ro kd) cs) w=.go (G (fr fn T (.code c:: .inLoop c::k) D ro kd) cs) w:=rfl
theorem wC{id:Nat}:Af P mn (G (fr fn T (.code (.region id ops false)::k) D ro kd) cs) w=.go (G (fr fn T (.inRegion ops (Fp ops.size)::k) D ro kd) cs) w:=rfl
theorem s_reg{id:Nat}{l:List Nat}(h:Nf (List.range ops.size) l:=by simp only[Iq,List.length_cons,List.length_nil,Nat.reduceAdd,Ky,List.range,List.range.loop];exact rfl):stepG P mn (G (fr fn T (.code (.region id ops false)::k) D ro kd) cs) w=.go (G (fr fn T (.inRegion ops l::k) D ro kd) cs) w:=by
 have e:Fp ops.size=l:=h;rw[<- e];rfl
theorem GL:Af P mn (G (fr fn T (.inRegion ops []::k) D ro kd) cs) w=.go (G (fr fn T k D ro kd) cs) w:=rfl
theorem s_cond{c:DU}{b:Bool}(h:ev T c=.bool b):Af P mn (G (fr fn T (.code (.cond c x y)::k) D ro kd) cs) w=.go (G (fr fn T (.code (if b then x else y)::k) D ro kd) cs) w:=by
 (have h':(fr fn T (.code (.cond c x y)::k) D ro kd).eval c=.bool b:=by rw[AB2];exact h);show JB P mn true (fr fn T (.code (.cond c x y)::k) D ro kd) cs AB w=_;unfold JB;simp only[show (fr fn T (.code (.cond c x y)::k) D ro kd).todo=.code (.cond c x y)::k from rfl,h'];rfl
theorem QU{c:DU}(h:ev T c=.bool true):Af P mn (G (fr fn T (.code (.cond c x y)::k) D ro kd) cs) w=.go (G (fr fn T (.code x::k) D ro kd) cs) w:=s_cond h
theorem QW{c:DU}(h:ev T c=.bool false):Af P mn (G (fr fn T (.code (.cond c x y)::k) D ro kd) cs) w=.go (G (fr fn T (.code y::k) D ro kd) cs) w:=s_cond h
theorem s_exit{id:Nat}{k':List Item}(h:exitTo id k=AA k'):Af P mn (G (fr fn T (.code (.exit id)::k) D ro kd) cs) w=.go (G (fr fn T k' D ro kd) cs) w:=by
 show JB P mn true (fr fn T (.code (.exit id)::k) D ro kd) cs AB w=_;unfold JB;simp only[show (fr fn T (.code (.exit id)::k) D ro kd).todo=.code (.exit id)::k from rfl,h];rfl
theorem AEa:Af P mn (G (fr fn T [] D AB kd) cs) w=.go (G {fr fn T [] D AB kd with mode:=.returning} cs) w:=rfl
theorem OZ:Af P mn (G (fr fn T (.code .ret::k) D AB kd) cs) w=.go (G {fr fn T (.code .ret::k) D AB kd with mode:=.returning} cs) w:=rfl
theorem RS(ho:ops[i]? =AA o)(hw:DX o (yielded ops T)=true)(hd:ro=AB\/∀c,o.op≠ .defer c):
  Af P mn (G (fr fn T (.inRegion ops (i::rest)::k) D ro kd) cs) w=Hw P true (fr fn T (.inRegion ops (i::rest)::k) D ro kd) cs AB (BI (ev T) o) w:=by
 show JB P mn true (fr fn T (.inRegion ops (i::rest)::k) D ro kd) cs AB w=_;unfold JB;(have h1:(((ops[i]?).map (DX · (yielded ops T))).getD false)=true:=by rw[ho];exact hw);simp only[show (fr fn T (.inRegion ops (i::rest)::k) D ro kd).todo=.inRegion ops (i::rest)::k from rfl,show (fr fn T (.inRegion ops (i::rest)::k) D ro kd).tmps=T from rfl,h1,if_true];unfold stepG.oper;have h2:(fr fn T (.inRegion ops (i::rest)::k) D ro kd).oper? =AA o:=ho;rw[h2,wB];rcases hd with rfl|hd;rfl
 cases ro with
 |none=>rfl|some l=>
  simp only[show (fr fn T (.inRegion ops (i::rest)::k) D (AA l) kd).roundOf=AA l from rfl];split
  ·rename_i h1 h2;exact Ak h2 (hd _)
  rfl
theorem EH(ho:ops[i]? =AA o)(v:AQ):(fr fn T (.inRegion ops (i::rest)::k) D ro kd).finish v=fr fn (put T o.dst v) (.inRegion ops rest::k) D ro kd:=by
 unfold Frame.finish fr put;simp only[ho,Option.bind_some];cases o.dst<;>rfl
variable {ops:Array BX} {i:Nat} {rest:List Nat} {o:BX}
theorem Xb{v:AQ}(ho:ops[i]? =AA o)(hw:DX o (yielded ops T)=true)(hd:ro=AB\/∀c,o.op≠ .defer c)(hr:(BI (ev T) o).run P w=.ok (.value v) w'):
  Af P mn (G (fr fn T (.inRegion ops (i::rest)::k) D ro kd) cs) w=.go (G (fr fn (put T o.dst v) (.inRegion ops rest::k) D ro kd) cs) w' (seen P fn ((BI (ev T) o).events P w #[])):=by
 rw[RS ho hw hd,<- EH ho];cases kd<;>simp[Hw,hr,G,DZ,fr]
theorem AMd(ho:ops[i]? =AA o)(hw:DX o (yielded ops T)=true)(hd:ro=AB\/∀c,o.op≠ .defer c)(hr:(BI (ev T) o).run P w=.ok .skip w'):
  Af P mn (G (fr fn T (.inRegion ops (i::rest)::k) D ro kd) cs) w=.go (G (fr fn (put T o.dst AU) (.inRegion ops rest::k) D ro kd) cs) w' (seen P fn ((BI (ev T) o).events P w #[])):=by
 rw[RS ho hw hd,<- EH ho];cases kd<;>simp[Hw,hr,G,DZ,fr]
theorem s_call{args:Array AQ}(ho:ops[i]? =AA o)(hw:DX o (yielded ops T)=true)(hd:ro=AB\/∀c,o.op≠ .defer c)(hr:(BI (ev T) o).run P w=.ok (.enter f args) w'):
  Af P mn (G (fr fn T (.inRegion ops (i::rest)::k) D ro kd) cs) w=.go (G (Bc P f args .normal) (fr fn T (.inRegion ops (i::rest)::k) D ro kd::cs)) w' (seen P fn ((BI (ev T) o).events P w #[])):=by
 rw[RS ho hw hd];cases kd<;>simp[Hw,hr,G,DZ,fr]
theorem AJC{tm:Array AQ}{a b:Code}(ho:ops[i]? =AA o)(hw:DX o (yielded ops T)=true)(hd:ro=AB\/∀c,o.op≠ .defer c)(hr:(BI (ev T) o).run P w=.ok (.round l f tm a b) w'):
  Af P mn (G (fr fn T (.inRegion ops (i::rest)::k) D ro kd) cs) w=.go (G (fr f tm [.code a,.beginRound,.code b] [] (AA l)) (fr fn T (.inRegion ops (i::rest)::k) D ro kd::cs)) w' (seen P fn ((BI (ev T) o).events P w #[])):=by
 rw[RS ho hw hd];cases kd<;>simp[Hw,hr,G,DZ,fr,Frame.round]
theorem AJD{d:EL}(ho:ops[i]? =AA o)(hw:DX o (yielded ops T)=true)(hr:(BI (ev T) o).run P w=.ok (.defer d) w'):
  Af P mn (G (fr fn T (.inRegion ops (i::rest)::k) D AB kd) cs) w=.go (G (fr fn (put T o.dst AU) (.inRegion ops rest::k) (d::D) AB kd) cs) w' (seen P fn ((BI (ev T) o).events P w #[])):=by
 rw[RS ho hw (.inl rfl)];have e:({fr fn T (.inRegion ops (i::rest)::k) D AB kd with defers:=d::(fr fn T (.inRegion ops (i::rest)::k) D AB kd).defers}:AX)=fr fn T (.inRegion ops (i::rest)::k) (d::D) AB kd:=rfl;simp only[Hw,if_true];rw[Ik];simp only[hr,DZ,e,EH ho];cases kd<;>simp[G,fr]
theorem AGF{cases:Array CommCase}{bl:Bool}{sh:CommShape}(ho:ops[i]? =AA o)(hw:DX o (yielded ops T)=true)(hd:ro=AB\/∀c,o.op≠ .defer c)(hr:(BI (ev T) o).run P w=.ok (.comm cases bl sh) w'):
  Af P mn (G (fr fn T (.inRegion ops (i::rest)::k) D ro kd) cs) w=.comm (G (fr fn T (.inRegion ops (i::rest)::k) D ro kd) cs) cases bl sh w' (seen P fn ((BI (ev T) o).events P w #[])):=by
 rw[RS ho hw hd];cases kd<;>simp[Hw,hr,G,DZ,fr]
theorem Ve(hl:w.heap[l]? =AA (.loop r))(f:Loop->Sem α)(es:Array Be):(aV l>>=f).runT P w es=(f r).runT P w (es.push ⟨.obj l,false,false⟩):=by
 show Gi P (Sem.getObj l _) w es=_;simp only[Gi,hl];rfl
theorem Zg{r':Loop}(hl:w.heap[l]? =AA (.loop r))(f:Unit->Sem α)(es:Array Be):(I5 l (.loop r')>>=f).runT P w es=(f ()).runT P {w with heap:=w.heap.setIfInBounds l (.loop r')} (es.push ⟨.obj l,true,false⟩):=by
 show Gi P (Sem.setObj l _ _) w es=_;simp only[Gi,hl];rfl
theorem AB3(hl:w.heap[l]? =AA (.loop r))(hs:r.state=.ready):Af P mn (G (fr fn T (.beginRound::k) D (AA l)) cs) w=
  .go (G (fr fn T k D (AA l)) cs) {w with heap:=w.heap.setIfInBounds l (.loop {r with state:=.busy})} (seen P fn #[⟨.obj l,false,false⟩,⟨.obj l,true,false⟩]):=by
 have h2:(do Yh l;pure .skip:Sem Next).runT P w #[]=(.ok .skip {w with heap:=w.heap.setIfInBounds l (.loop {r with state:=.busy})},#[⟨.obj l,false,false⟩,⟨.obj l,true,false⟩]):=by
  have e:(do Yh l;pure .skip:Sem Next)=(aV l>>=λr=>I5 l (.loop {r with state:=.busy})>>=λ_=>(match r.state with
   | .ready=>pure ()| .done=>Qw (.error "range function continued iteration after function for loop body returned false")| .busy=>Qw (.error "range function continued iteration after loop body panic")
   | .exhausted=>Qw (.error "range function continued iteration after whole loop exit"):Sem Unit)>>=λ_=>pure .skip):=by
   unfold Yh;simp only[bind_assoc];refine congrArg (aV l>>= ·) (funext λr=>congrArg (I5 l _>>= ·) (funext λ_=>?_));cases r.state<;>rfl
  rw[e,Ve hl,Zg hl,hs];rfl
 show Hw P true (fr fn T (.beginRound::k) D (AA l)) cs AB (do Yh l;pure .skip) w=_;simp only[Hw,if_true,h2];rfl
theorem lZ{j:Option Code}{k:List Item}(hk:(k=[]/\j=AB)\/(∃k',k=.code .ret::k'/\j=AA .ret)){c:AX}(hl:w.heap[l]? =AA (.loop r)):Af P mn (G (fr fn T k D (AA l)) (c::cs)) w=
  .go (G (c.finish (.bool j.isNone)) cs) {w with heap:=w.heap.setIfInBounds l (.loop {r with state:=if j.isNone then .ready else .done,pending:=j})} (seen P fn #[⟨.obj l,false,false⟩,⟨.obj l,true,false⟩]):=by
 have h2:(UM l j).runT P w #[]=(.ok (.bool j.isNone) {w with heap:=w.heap.setIfInBounds l (.loop {r with state:=if j.isNone then .ready else .done,pending:=j})},#[⟨.obj l,false,false⟩,⟨.obj l,true,false⟩]):=by
  have e:UM l j=(aV l>>=λr=>I5 l (.loop {r with state:=if j.isNone then .ready else .done,pending:=j})>>=λ_=>pure (.bool j.isNone)):=rfl;rw[e,Ve hl,Zg hl];rfl
 rcases hk with ⟨rfl,rfl⟩|⟨k',rfl,rfl⟩
 ·show JB P mn true (fr fn T [] D (AA l)) (c::cs) AB w=_;unfold JB;simp only[show (fr fn T [] D (AA l)).todo=[] from rfl,show (fr fn T [] D (AA l)).roundOf=AA l from rfl,h2];simp only[Gz,DZ,fr,G];simp
 show JB P mn true (fr fn T (.code .ret::k') D (AA l)) (c::cs) AB w=_;unfold JB;simp only[show (fr fn T (.code .ret::k') D (AA l)).todo=.code .ret::k' from rfl,show (fr fn T (.code .ret::k') D (AA l)).roundOf=AA l from rfl,h2];simp only[Gz,DZ,fr,G];simp
end
end
section
variable {f:Bl}{g g':Ad}{l:List BX}
structure RF (SR:Nat->Prop) where
 R:AL->Prop
 st: ∀w w1:AL,R w->(∀b,SR b->w1.heap[b]? =w.heap[b]?)->w.heap.size<=w1.heap.size->R w1
 lt: ∀w,R w->∀b,SR b->b<w.heap.size
def ow {SR:Nat->Prop} (R:RF SR) (Gb:Nat->Prop) (L:List (Nat×Obj)):Own SR where
 O:=λb=>Gb b\/b∈L.map Ac
 I:=λw=>(∀p∈L,w.heap[p.1]? =AA p.2)/\R.R w
 st:=λw w1 h k hz _ _=>⟨λp hp=>by rw[k p.1 (.inl (.inr (OD hp)))];exact h.1 p hp,R.st w w1 h.2 (λb hb=>k b (.inr hb)) hz⟩
def bz {SR:Nat->Prop} (o:Own SR) (e:Be):Prop:=
 match e.loc with| .cell a=>(o.O a.block\/SR a.block)/\e.write=false| .mark m=>lW m| .obj c=>o.O c/\e.write=false|_=>False
structure uX (P:BM) (mn:Bool) {SR:Nat->Prop} (J:Ad->Own SR->Prop):Prop where
 QS: ∀{a:Ad} {o:Own SR} (nx:AL->Ad) (no:AL->Own SR),a.status=.running->(∀w,o.I w->∃w' es,Af P mn a w=.go (nx w) w' es/\Np o (no w) w w' es)->(∀w,o.I w->J (nx w) (no w))->J a o
section
variable {P:BM} {mn:Bool} {SR:Nat->Prop} {J:Ad->Own SR->Prop} (hJ:uX P mn J) {R:RF SR} {Gb:Nat->Prop} {L:List (Nat×Obj)}
 {fn:Bl} {T:Array AQ} {k:List Item} {D:List EL} {ro:Option Nat} {cs:List AX} {kd:Bool} {ops:Array BX} {i:Nat} {rest:List Nat} {op:BX} {o:Own SR}
include hJ
theorem CX(h: ∀w,Af P mn g w=.go g' w #[])(hr:g.status=.running)(next:J g' o):J g o:=by
 exact hJ.QS (λ_=>g') (λ_=>o) hr (λw hw=>⟨w,#[],h w,⟨hw,Bd _,λb=>⟨.inl,λx=>x.elim id λy=>by omega⟩,λ_ _ _=>rfl,⟨rfl,rfl,rfl⟩,AV⟩⟩) λ_ _=>next
theorem zh(h: ∀w,o.I w->∃es,Af P mn g w=.go g' w es/\∀e∈es,bz o e)(hr:g.status=.running)(next:J g' o):J g o:=by
 refine hJ.QS (λ_=>g') (λ_=>o) hr (λw hw=>?_) λ_ _=>next;obtain⟨es,h1,h2⟩:=h w hw;refine⟨w,es,h1,⟨hw,Bd _,λb=>⟨.inl,λx=>x.elim id λy=>by omega⟩,λ_ _ _=>rfl,⟨rfl,rfl,rfl⟩,λe he=>?_⟩⟩;have:=h2 e he;unfold bz at this
 cases hl:e.loc with|cell a=>rw[hl] at this;exact this.1.imp id λx=>⟨x,this.2⟩|mark m=>rw[hl] at this;exact this|obj c=>rw[hl] at this;exact⟨this.1,λx=>by rw[this.2] at x;cases x.1⟩|_=>rw[hl] at this;exact this.elim
theorem AMe(v:AQ)(ho:ops[i]? =AA op)(hw:DX op (yielded ops T)=true)(hd:ro=AB\/∀c,op.op≠ .defer c)(hr: ∀w,o.I w->(BI (ev T) op).run P w=.ok (.value v) w)
  (he: ∀w,o.I w->∀e∈(BI (ev T) op).events P w #[],bz o e) (next:J (G (fr fn (put T op.dst v) (.inRegion ops rest::k) D ro kd) cs) o):
  J (G (fr fn T (.inRegion ops (i::rest)::k) D ro kd) cs) o:=
 zh hJ (λw hw'=>⟨_,Xb ho hw hd (hr w hw'),λe h=>he w hw' e (Dy h)⟩) rfl next
theorem Ro{args:Array AQ}(ho:ops[i]? =AA op)(hw:DX op (yielded ops T)=true)(hd:ro=AB\/∀c,op.op≠ .defer c)(hr: ∀w,o.I w->(BI (ev T) op).run P w=.ok (.enter f args) w)
  (he: ∀w,o.I w->∀e∈(BI (ev T) op).events P w #[],bz o e) (next:J (G (Bc P f args .normal) (fr fn T (.inRegion ops (i::rest)::k) D ro kd::cs)) o):
  J (G (fr fn T (.inRegion ops (i::rest)::k) D ro kd) cs) o:=
 zh hJ (λw hw'=>⟨_,s_call ho hw hd (hr w hw'),λe h=>he w hw' e (Dy h)⟩) rfl next
theorem wE{l:Nat}{tm:Array AQ}{a b:Code}(ho:ops[i]? =AA op)(hw:DX op (yielded ops T)=true)(hd:ro=AB\/∀c,op.op≠ .defer c)(hr: ∀w,o.I w->(BI (ev T) op).run P w=.ok (.round l f tm a b) w)
  (he: ∀w,o.I w->∀e∈(BI (ev T) op).events P w #[],bz o e) (next:J (G (fr f tm [.code a,.beginRound,.code b] [] (AA l)) (fr fn T (.inRegion ops (i::rest)::k) D ro kd::cs)) o):
  J (G (fr fn T (.inRegion ops (i::rest)::k) D ro kd) cs) o:=
 zh hJ (λw hw'=>⟨_,AJC ho hw hd (hr w hw'),λe h=>he w hw' e (Dy h)⟩) rfl next
theorem wF{d:EL}(ho:ops[i]? =AA op)(hw:DX op (yielded ops T)=true)(hr: ∀w,o.I w->(BI (ev T) op).run P w=.ok (.defer d) w)
  (he: ∀w,o.I w->∀e∈(BI (ev T) op).events P w #[],bz o e) (next:J (G (fr fn (put T op.dst AU) (.inRegion ops rest::k) (d::D) AB kd) cs) o):
  J (G (fr fn T (.inRegion ops (i::rest)::k) D AB kd) cs) o:=
 zh hJ (λw hw'=>⟨_,AJD ho hw (hr w hw'),λe h=>he w hw' e (Dy h)⟩) rfl next
theorem AQU(v:AQ)(ho:l[i]? =AA op)(hw:DX op (yielded l.toArray T)=true)(hd:ro=AB\/∀c,op.op≠ .defer c)(hr: ∀w,o.I w->(BI (ev T) op).run P w=.ok (.value v) w)
  (he: ∀w,o.I w->∀e∈(BI (ev T) op).events P w #[],bz o e) (next:J (G (fr fn (put T op.dst v) (.inRegion l.toArray rest::k) D ro kd) cs) o):
  J (G (fr fn T (.inRegion l.toArray (i::rest)::k) D ro kd) cs) o:=AMe hJ v (by simpa using ho) hw hd hr he next
theorem EC{v:Value}{T':Array Value}(next:J (G (fr fn T' (.inRegion l.toArray rest::k) D ro kd) cs) o)(ho:l[i]? =some op:=by exact rfl)(hw:Region.wanted op (yielded l.toArray T)=true:=by rfl)(hd:ro=none\/∀c,op.op≠ .defer c:=by first|exact .inl rfl|exact .inr (λc h=>by cases h))
  (hr: ∀w,o.I w->(execOp (ev T) op).run P w=.ok (.value v) w:=by intro w hw;unfold ev;go_simp;try exact rfl) (he: ∀w,o.I w->∀e∈(execOp (ev T) op).events P w #[],bz o e:=by intro w hw;unfold ev;simp[go_sem]) (hT:Nf (put T op.dst v) T':=by simp only[put];(try walk_nrm);exact rfl):
  J (G (fr fn T (.inRegion l.toArray (i::rest)::k) D ro kd) cs) o:=AQU hJ v ho hw hd hr he (by have e:put T op.dst v=T':=hT;rw[e];exact next)
theorem AB4(kS:Nat->List Obj)(_: ∀n m,(kS n).length=(kS m).length)(g':Nat->Ad)(h: ∀w,(ow R Gb L).I w->Af P mn g w=.go (g' w.heap.size) {w with heap:=w.heap++(kS w.heap.size).toArray} #[])(hr:g.status=.running)
  (next: ∀n,(∃w,(ow R Gb L).I w/\w.heap.size=n)->J (g' n) (ow R Gb ((Fp (kS n).length).map (λj=>(n+j,(kS n)[j]?.getD default))++L))):J g (ow R Gb L):=by
 refine hJ.QS (λw=>g' w.heap.size) (λw=>ow R Gb ((Fp (kS w.heap.size).length).map (λj=>(w.heap.size+j,(kS w.heap.size)[j]?.getD default))++L)) hr (λw hw=>⟨_,_,h w hw,?_⟩) λw hw=>next _ ⟨w,hw,rfl⟩;have hold: ∀b,b<w.heap.size->(w.heap++(kS w.heap.size).toArray)[b]? =w.heap[b]? :=λb hb=>nI hb;refine⟨⟨λp hp=>?_,?_⟩,AV,λb=>?_,λb hb _=>hold b hb,⟨rfl,rfl,rfl⟩,AV⟩
 ·rcases Bj.1 hp with hp|hp
  ·obtain⟨j,hj,rfl⟩:=CG.1 hp;have hj:=XA.1 hj;show (w.heap++(kS w.heap.size).toArray)[w.heap.size+j]? =_;rw[ZP Aa,show w.heap.size+j - w.heap.size=j by omega,Wy,Bo hj];rfl
  have h1:=hw.1 p hp;show (w.heap++(kS w.heap.size).toArray)[p.1]? =_;rw[hold _ (Dj.1 h1).1];exact h1
 exact R.st w _ hw.2 (λb hb=>hold b (R.lt w hw.2 b hb)) AV;simp only[ow,FK,En,Bj,CG,XA,Function.comp];constructor
 ·rintro (x|⟨j,hj,rfl⟩|x);exact .inl (.inl x)
  ·refine .inr ⟨Aa,?_⟩;show w.heap.size+j<(w.heap++(kS w.heap.size).toArray).size;simp;exact hj
  exact .inl (.inr x)
 rintro ((x|x)|⟨x1,x2⟩);exact .inl x;exact .inr (.inr x);refine .inr (.inl ⟨b - w.heap.size,?_,Aa⟩);have x2:b<(w.heap++(kS w.heap.size).toArray).size:=x2;simp at x2;omega
end
section
variable {C:Cx} {P:BM} (hP:C.P=P) {s:Bool} {kk:Nat} {R:RF C.SR} {Gb:Nat->Prop} {L:List (Nat×Obj)}
 {fn:Bl} {T:Array AQ} {k:List Item} {D:List EL} {ro:Option Nat} {cs:List AX} {kd:Bool} {ops:Array BX} {i:Nat} {rest:List Nat} {op:BX} {o:Own C.SR}
include hP
theorem Ci:uX P false (PW C (.work s) kk):=⟨λnx no hr h hn=>by subst hP;exact .QS nx no hr h hn⟩
theorem O1{Fin:Nat->Ad->Own C.SR->Prop}:uX P true (PM C Fin .work kk):=⟨λnx no hr h hn=>by subst hP;exact .QS nx no hr h hn⟩
theorem AMf{xv z1 z2:AQ}{bk:Nat}{ob:Obj}{o':Own C.SR}(ho:ops[i]? =AA op)(hw:DX op (yielded ops T)=true)(hd:ro=AB\/∀c,op.op≠ .defer c)
  (hr: ∀w,o.I w->(BI (ev T) op).run P w=.ok (.comm (EO C.bc C.bs xv z1 z2) true .select) w) (he: ∀w,o.I w->(BI (ev T) op).events P w #[]= #[])
  (hcs:C.Cs kk xv bk ob) (hO:o.O bk) (hob: ∀w,o.I w->w.heap[bk]? =AA ob) (hO': ∀x,o'.O x->o.O x/\x≠bk) (hI': ∀w,o.I w->o'.I w)
  (n0:PW C (.work false) (kk+1) (G (fr fn (put T op.dst (.tuple #[.int .i64 0,.bool false,z2])) (.inRegion ops rest::k) D ro kd) cs) o')
  (n1:PW C (.work true) kk (G (fr fn (put T op.dst (.tuple #[.int .i64 1,.bool false,z2])) (.inRegion ops rest::k) D ro kd) cs) o):
  PW C (.work false) kk (G (fr fn T (.inRegion ops (i::rest)::k) D ro kd) cs) o:=by
 subst hP
 have e: ∀q v,((G (fr fn T (.inRegion ops (i::rest)::k) D ro kd) cs).finishComm C.P (EO C.bc C.bs xv z1 z2) .select q v false)=G (fr fn (put T op.dst (commResult (EO C.bc C.bs xv z1 z2) .select q v false)) (.inRegion ops rest::k) D ro kd) cs:=λq v=>by
  unfold Goroutine.finishComm;rw[show (G (fr fn T (.inRegion ops (i::rest)::k) D ro kd) cs).frame=fr fn T (.inRegion ops (i::rest)::k) D ro kd from rfl,EH ho];rfl
 (have r0:commResult (EO C.bc C.bs xv z1 z2) .select 0 AU false=.tuple #[.int .i64 0,.bool false,z2]:=by simp[commResult,EO,scase,rcase,goInt,Array.zipIdx]);(have r1:commResult (EO C.bc C.bs xv z1 z2) .select 1 z2 false=.tuple #[.int .i64 1,.bool false,z2]:=by simp[commResult,EO,scase,rcase,goInt,Array.zipIdx]);refine .sel (z1:=z1) (z2:=z2) rfl rfl hcs hO hob (λw hw'=>?_) hO' hI' ?_ ?_
 ·rw[AGF ho hw hd (hr w hw'),he w hw'];rfl
 rw[e,r0];exact n0;rw[e,r1];exact n1
end
theorem Fq{p q:Prop}(n:p)(h:p->q:=by intro n;first|((with_reducible refine CX (Ci hP) (λw=>KD) ?_ n)<;>rfl)|((with_reducible refine CX (Ci hP) (λw=>s_reg) ?_ n)<;>rfl)|((with_reducible refine CX (Ci hP) (λw=>GL) ?_ n)<;>rfl)|((with_reducible refine CX (Ci hP) (λw=>QT) ?_ n)<;>rfl)|((with_reducible refine CX (Ci hP) (λw=>LK) ?_ n)<;>rfl)|((with_reducible refine CX (Ci hP) (λw=>N8) ?_ n)<;>rfl)|((with_reducible refine CX (Ci hP) (λw=>RQ) ?_ n)<;>rfl)|((with_reducible refine CX (Ci hP) (λw=>QU ?_) ?_ n)<;>rfl)|((with_reducible refine CX (Ci hP) (λw=>QW ?_) ?_ n)<;>rfl)|exact EC (Ci hP) n|exact CX (Ci hP) (λw=>KD) rfl n|exact CX (Ci hP) (λw=>s_reg) rfl n|exact CX (Ci hP) (λw=>GL) rfl n|exact CX (Ci hP) (λw=>QT) rfl n|exact CX (Ci hP) (λw=>LK) rfl n|exact CX (Ci hP) (λw=>N8) rfl n|exact CX (Ci hP) (λw=>RQ) rfl n|exact CX (Ci hP) (λw=>QU rfl) rfl n|exact CX (Ci hP) (λw=>QW rfl) rfl n):q:=h n
end
section
variable {fn:Bl}{x:List (Nat×Obj)}{p:Nat×Obj}
def Mc:Code->Option (Array Tmp×Code×Code)
 | .rangeFunc _ ps a b=>AA (ps,a,b)| .seq a b=>(Mc a).or (Mc b)| .block _ c| .loop c| .scope c=>Mc c|_=>AB
noncomputable def EP (f:Func):Code:=f.body.getD .skip
noncomputable def rA (f:Func):Code:=((Mc (EP f)).map (·.2.1)).getD .skip
noncomputable def rB (f:Func):Code:=((Mc (EP f)).map (·.2.2)).getD .skip
noncomputable def rP (f:Func):Array Tmp:=((Mc (EP f)).map (·.1)).getD #[]
structure LS where
 st:LoopState
 pd:Option Code
def LS.ready:LS:=⟨.ready,AB⟩
def LS.busy:LS:=⟨.busy,AB⟩
def LS.left:LS:=⟨.done,AA .ret⟩
noncomputable def lp (fn:Bl) (f:Func) (tm:Array AQ) (d:Nat) (s:LS):Obj:=.loop {state:=s.st,pending:=s.pd,fn:=fn,tmps:=tm,params:=rP f,assign:=rA f,body:=rB f,defers:=d}
structure WB where
 l1:Nat
 l2:Nat
 d1:Nat
 d2:Nat
 T1:Array AQ
 T2:Array AQ
 bx:List (Nat×Obj)
noncomputable def Lw (W:WB) (x:List (Nat×Obj)) (s1 s2:LS):List (Nat×Obj):=
 (W.l1,lp 75 Tryz.f75 W.T1 W.d1 s1)::(W.l2,lp 79 Tryz.f79 W.T2 W.d2 s2)::(W.d1,.deferred (AA []))::(W.d2,.deferred (AA []))::(W.bx++x)
theorem AEb{W:WB}{s1 s2:LS}:(W.l1,lp 75 Tryz.f75 W.T1 W.d1 s1)∈Lw W x s1 s2:=Ee ..
theorem AEc{W:WB}{s1 s2:LS}:(W.l2,lp 79 Tryz.f79 W.T2 W.d2 s2)∈Lw W x s1 s2:=DD _ (Ee ..)
theorem gK{W:WB}{s1 s2:LS}(h:p∈W.bx):p∈Lw W x s1 s2:=DD _ (DD _ (DD _ (DD _ (F5 _ h))))
theorem ANT{W:WB}{s1 s2:LS}(h:p∈x):p∈Lw W x s1 s2:=DD _ (DD _ (DD _ (DD _ (GN _ h))))
def isCells (o:Obj):Prop:=∃c t f,o=.cells c t f
structure WB.Ok (W:WB):Prop where
 bx: ∀p∈W.bx,isCells p.2
 dd:W.d1≠W.d2
structure RF.Ok {SR:Nat->Prop} (R:RF SR):Prop where
 cl: ∀w,R.R w->∀b,SR b->∃o,w.heap[b]? =AA o/\isCells o
section
variable {C:Cx} {P:BM} (hP:C.P=P) {s:Bool} {kk:Nat} {R:RF C.SR} (hR:R.Ok) {Gb:Nat->Prop} {W:WB} (hW:W.Ok) {x:List (Nat×Obj)} (hx: ∀p∈x,isCells p.2) {g g':Ad} {s1 s2:LS}
theorem FC{f:Func}{tm:Array AQ}{d:Nat}{s:LS}: ¬isCells (lp fn f tm d s):=by rintro⟨c,t,f,e⟩;cases e
theorem JQ{d:Option (List EL)}: ¬isCells (.deferred d):=by rintro⟨c,t,f,e⟩;cases e
theorem U5(hP:C.P=P)(hR:R.Ok){L L':List (Nat×Obj)}{b:Nat}{ob ob':Obj}(hb:(b,ob)∈L)(hnc: ¬isCells ob)(jT: ∀y,y∈L'.map Ac↔y∈L.map Ac)(hL: ∀p∈L',p=(b,ob')\/(p∈L/\(p.2=ob->p.1≠b))){es:Array Be}
  (hev: ∀e∈es,e=⟨.obj b,false,false⟩\/e=⟨.obj b,true,false⟩)
  (h: ∀w:AL,w.heap[b]? =AA ob->∃es',Af P false g w=.go g' {w with heap:=w.heap.setIfInBounds b ob'} es'/\∀e∈es',e∈es) (hr:g.status=.running)
  (next:PW C (.work s) kk g' (ow R Gb L')):PW C (.work s) kk g (ow R Gb L):=by
 subst hP;refine .QS (λ_=>g') (λ_=>ow R Gb L') hr (λw hw=>?_) λ_ _=>next;have h0:=hw.1 _ hb;obtain⟨es',h1,h2⟩:=h w h0;have hlt:b<w.heap.size:=(Dj.1 h0).1;have hne: ∀y,y≠b->(w.heap.setIfInBounds b ob')[y]? =w.heap[y]? :=λy hy=>Dz (H8 hy);refine⟨_,_,h1,⟨⟨λp hp=>?_,?_⟩,AV,λy=>?_,λy _ hy=>hne y λe=>hy (.inr (by rw[e];exact OD hb)),⟨rfl,rfl,rfl⟩,λe he=>?_⟩⟩
 ·show (w.heap.setIfInBounds b ob')[p.1]? =_;rcases hL p hp with rfl|⟨hp,hn⟩;rw[Wv hlt];have h3:=hw.1 p hp;rw[hne p.1 λe=>hn (by rw[e,h0] at h3;exact (EF h3).symm) e];exact h3
 ·refine R.st w _ hw.2 (λy hy=>hne y λe=>?_) AV;obtain⟨o,ho,hc⟩:=hR.cl w hw.2 y hy;rw[e,h0] at ho;(cases ho);exact hnc hc
 ·show (Gb y\/y∈L'.map Ac)↔(Gb y\/y∈L.map Ac)\/_;rw[jT];constructor;exact .inl;rintro (x|x);exact x;(have:({w with heap:=w.heap.setIfInBounds b ob'}:AL).heap.size=w.heap.size:=by simp);omega
 rcases hev e (h2 e he) with rfl|rfl;exact⟨.inr ((jT _).2 (OD hb)),AV⟩;exact⟨.inr ((jT _).2 (OD hb)),AV⟩
include hP hR hW hx
theorem AEd{s1':LS}(h: ∀w:AL,w.heap[W.l1]? =AA (lp 75 Tryz.f75 W.T1 W.d1 s1)->Af P false g w=.go g' {w with heap:=w.heap.setIfInBounds W.l1 (lp 75 Tryz.f75 W.T1 W.d1 s1')} (seen P fn #[⟨.obj W.l1,false,false⟩,⟨.obj W.l1,true,false⟩]))
  (hr:g.status=.running) (next:PW C (.work s) kk g' (ow R Gb (Lw W x s1' s2))):PW C (.work s) kk g (ow R Gb (Lw W x s1 s2)):=by
 refine U5 hP hR (b:=W.l1) (Ee ..) FC (λy=>by simp[Lw]) (λp hp=>?_) (es:=#[⟨.obj W.l1,false,false⟩,⟨.obj W.l1,true,false⟩]) AV (λw hw=>⟨_,h w hw,λe he=>Dy he⟩) hr next;simp only[Lw,BF,Bj] at hp;rcases hp with rfl|rfl|rfl|rfl|hp|hp;exact .inl rfl
 ·refine .inr ⟨by simp[Lw],λe=>?_⟩;simp[lp] at e
 exact .inr ⟨by simp[Lw],λe=>by cases e⟩;exact .inr ⟨by simp[Lw],λe=>by cases e⟩;exact .inr ⟨by simp[Lw,hp],λe=>Ak (e▸hW.bx p hp) FC⟩;exact .inr ⟨by simp[Lw,hp],λe=>Ak (e▸hx p hp) FC⟩
theorem AEe{s2':LS}(h: ∀w:AL,w.heap[W.l2]? =AA (lp 79 Tryz.f79 W.T2 W.d2 s2)->Af P false g w=.go g' {w with heap:=w.heap.setIfInBounds W.l2 (lp 79 Tryz.f79 W.T2 W.d2 s2')} (seen P fn #[⟨.obj W.l2,false,false⟩,⟨.obj W.l2,true,false⟩]))
  (hr:g.status=.running) (next:PW C (.work s) kk g' (ow R Gb (Lw W x s1 s2'))):PW C (.work s) kk g (ow R Gb (Lw W x s1 s2)):=by
 refine U5 hP hR (b:=W.l2) (DD _ (Ee ..)) FC (λy=>by simp[Lw]) (λp hp=>?_) (es:=#[⟨.obj W.l2,false,false⟩,⟨.obj W.l2,true,false⟩]) AV (λw hw=>⟨_,h w hw,λe he=>Dy he⟩) hr next;simp only[Lw,BF,Bj] at hp;rcases hp with rfl|rfl|rfl|rfl|hp|hp
 ·refine .inr ⟨by simp[Lw],λe=>?_⟩;simp[lp] at e
 exact .inl rfl;exact .inr ⟨by simp[Lw],λe=>by cases e⟩;exact .inr ⟨by simp[Lw],λe=>by cases e⟩;exact .inr ⟨by simp[Lw,hp],λe=>Ak (e▸hW.bx p hp) FC⟩;exact .inr ⟨by simp[Lw,hp],λe=>Ak (e▸hx p hp) FC⟩
end
end
section
variable {T:Twin} {F:Fs} {N:Nat} {ρ:Rn} {α β γ:Type}
theorem YN{s:String}{c c':Bool}(h:c=c'):AY T F N Ef (if c=true then unsupported (.noEntry s) else pure ():Sem Unit) ρ (if c'=true then unsupported (.noEntry s) else pure ()):=by
 subst h;(cases c);exact λ_=>rfl;exact λ_=>Ar
theorem oQ{P:BM}(h:P.bearsPack=false)(t:Am):P.packed t=false:=by
 unfold Program.packed Program.packedAs;rw[List.filter_eq_nil_iff.2];rfl;intro c hc;unfold Program.bearsPack at h;have:=Array.any_eq_false'.1 h c (ADz.2 hc);simp only[fG,Bool.not_eq_false'] at this;simp[this]
theorem AJE(T:Twin):T.v.bearsPack=T.P.bearsPack:=rfl
theorem YO(hb:T.P.bearsPack=false)(t:Am):T.v.packed t=T.P.packed t:=by
 rw[oQ hb,oQ (P:=T.v) (by rw[AJE];exact hb)]
theorem Xc(hb:T.P.bearsPack=false): ∀(d:Nat),T.v.holdsPacked d=T.P.holdsPacked d
 |0=>rfl
 |d+1=>by
  funext t;unfold Program.holdsPacked;rw[YO hb,Xc hb d];rfl
theorem Xd(hb:T.P.bearsPack=false): ∀(d:Nat),T.v.namesPacked d=T.P.namesPacked d
 |0=>rfl
 |d+1=>by
  funext t;unfold Program.namesPacked;rw[YO hb,Xd hb d];rfl
theorem UA(hb:T.P.bearsPack=false): ∀(d:Nat),T.v.methodsOfAPack d=T.P.methodsOfAPack d
 |0=>rfl
 |d+1=>by
  funext t;unfold Program.methodsOfAPack;rw[YO hb,UA hb d];rfl
theorem oU(T:Twin):T.v.depth=T.P.depth:=rfl
theorem UB(hb:T.P.bearsPack=false)(s:String)(t:Am):AY T F N Ef (Extern.Rtype.noPack s t) ρ (Extern.Rtype.noPack s t):=
 CU.bind λ_ p p' _ e=>by obtain⟨rfl,rfl⟩:=e;exact YN (YO hb t)
theorem kT(hb:T.P.bearsPack=false)(s:String)(t:Am):AY T F N Ef (Extern.Rtype.noPackHeld s t) ρ (Extern.Rtype.noPackHeld s t):=
 CU.bind λ_ p p' _ e=>by obtain⟨rfl,rfl⟩:=e;exact CU.bind λ_ q q' _ e=>by obtain⟨rfl,rfl⟩:=e;exact YN (by rw[Xc hb,oU])
theorem gQ(hb:T.P.bearsPack=false)(s:String)(t:Am):AY T F N Ef (Extern.Rtype.noPackNamed s t) ρ (Extern.Rtype.noPackNamed s t):=
 CU.bind λ_ p p' _ e=>by obtain⟨rfl,rfl⟩:=e;exact CU.bind λ_ q q' _ e=>by obtain⟨rfl,rfl⟩:=e;exact YN (by rw[Xd hb,oU])
theorem IZ(hb:T.P.bearsPack=false)(s:String)(t:Am):AY T F N Ef (Extern.Rtype.noPackMethods s t) ρ (Extern.Rtype.noPackMethods s t):=
 CU.bind λ_ p p' _ e=>by obtain⟨rfl,rfl⟩:=e;exact CU.bind λ_ q q' _ e=>by obtain⟨rfl,rfl⟩:=e;exact YN (by rw[UA hb,oU])
theorem zi(t:Am):AY T F N Ef (typeStr t) ρ (typeStr t):=
 (C9 t).bind λ_ i i' _ e=>by
  obtain⟨rfl,_⟩:=e;show AY T F N Ef (if i.str.isEmpty=true then unsupported (.noEntry "a type whose name as gc spells it is not known") else pure i.str:Sem String) _ (if i.str.isEmpty=true then unsupported (.noEntry "a type whose name as gc spells it is not known") else pure i.str);split;exact λ_=>Ar;exact λ_=>rfl
theorem Zh(hb:T.P.bearsPack=false)(t:Am):AY T F N Ef (Extern.Rtype.spelt t) ρ (Extern.Rtype.spelt t):=
 (gQ hb _ t).bind λ_ _ _ _ _=>zi t
theorem PK(t:Am):AY T F N Ef (Extern.Rtype.under t) ρ (Extern.Rtype.under t):=
 (C9 t).bind λ_ i i' _ e=>by
  obtain⟨rfl,_⟩:=e;obtain⟨d,_⟩:=i;cases d<;>first|exact λ_=>rfl|exact (C9 _).bind λ_ j j' _ e=>by obtain⟨rfl,_⟩:=e;exact λ_=>rfl
theorem YP(t:Am):AY T F N Ef (Extern.Rtype.kind t) ρ (Extern.Rtype.kind t):=by
 refine (PK t).bind λ_ p p' _ e=>?_;obtain rfl:p=p':=e;obtain⟨u,i⟩:=p;obtain⟨d,_⟩:=i;cases d<;>first|exact λ_=>rfl|exact λ_=>Ar|(rename_i k;cases k<;>exact λ_=>rfl)
theorem cO(t:Am):AY T F N Ef (Extern.Rtype.hasName t) ρ (Extern.Rtype.hasName t):=
 (C9 t).bind λ_ i i' _ e=>by
  obtain⟨rfl,_⟩:=e;obtain⟨d,_⟩:=i;cases d<;>exact λ_=>rfl
theorem oV(t:Am):AY T F N Ef (Extern.Rtype.elem? t) ρ (Extern.Rtype.elem? t):=
 (PK t).bind λ_ p p' _ e=>by
  obtain rfl:p=p':=e;obtain⟨u,i⟩:=p;obtain⟨d,_⟩:=i;cases d<;>exact λ_=>rfl
theorem Qm(hb:T.P.bearsPack=false)(t u:Am):AY T F N Ef (Extern.Rtype.implements t u) ρ (Extern.Rtype.implements t u):=by
 refine (IZ hb _ u).bind λ_ _ _ _ _=>(IZ hb _ t).bind λ_ _ _ _ _=>?_;refine (PK t).bind λ_ p p' _ e=>?_;obtain rfl:p=p':=e;refine (PK u).bind λ_ q q' _ e=>?_;obtain rfl:q=q':=e;obtain⟨a,i⟩:=p;obtain⟨d,_⟩:=i;obtain⟨b,j⟩:=q;obtain⟨e,_⟩:=j;(cases d<;>first|exact λ_=>rfl|skip);cases e<;>first|exact λ_=>rfl|exact (C9 u).bind λ_ j j' _ e=>by obtain⟨rfl,_⟩:=e;exact λ_=>rfl
theorem WQ(t u:Am):AY T F N Ef (AHF t u) ρ (AHF t u):=by
 unfold AHF;by_cases h:(t==u)=true;simp only[h,if_true];exact λ_=>rfl;simp only[h,if_false,DC];refine (cO t).bind λ_ x x' _ e=>?_;obtain rfl:x=x':=e;refine (cO u).bind λ_ y y' _ e=>?_;obtain rfl:y=y':=e;by_cases h:(x && y)=true;simp only[h,if_true];exact λ_=>rfl;simp only[h,if_false,DC];refine (PK t).bind λ_ p p' _ e=>?_;obtain rfl:p=p':=e;refine (PK u).bind λ_ q q' _ e=>?_;obtain rfl:q=q':=e;obtain⟨a,i⟩:=p;obtain⟨d,_⟩:=i;obtain⟨b,j⟩:=q;obtain⟨e,_⟩:=j;(cases d<;>first|exact λ_=>rfl|skip);cases e<;>first|exact λ_=>rfl|(rename_i k _;cases k<;>exact λ_=>rfl)
theorem AB5(hN:T.P.globals.size<N)(t:Am):AY T F N (QV F) (Extern.Rtype.handle t) ρ (Extern.Rtype.handle t):=by
 intro hok;exact (CU.bind λρ₁ p p' l1 e=>by obtain⟨rfl,rfl⟩:=e;exact λhok=>jL hN hok t) hok
theorem Ub(hN:T.P.globals.size<N){x x':AQ}(h:BC F ρ x x'):AY T F N Ef (Extern.Rtype.ofHandle x) ρ (Extern.Rtype.ofHandle x'):=by
 intro hok;refine (AY.bind CU λρ₁ p p' l1 e=>?_) hok;obtain⟨rfl,rfl⟩:=e;by_cases hx: ∃a,x=.pointer (AA a)
 ·obtain⟨a,rfl⟩:=hx;obtain⟨p',rfl,hp⟩:=Dk h
  cases p' with
  |none=>exact hp.elim|some a'=>
   have ha:RelA ρ a a':=hp;have e1:(a.block==T.P.globals.size)=(a'.block==T.P.globals.size):=RelA.beq (N:=N) (b:=⟨T.P.globals.size,0,AB⟩) (b':=⟨T.P.globals.size,0,AB⟩) hok ha ⟨hok.hd _ hN,rfl,rfl⟩
   have e2:handleType T.v (.pointer (AA a))=handleType T.P (.pointer (AA a')):=by
    (show (if (a.block==T.P.globals.size)=true then AA a.off else AB)=if (a'.block==T.P.globals.size)=true then AA a'.off else AB);rw[e1,ha.2.1]
   rw[e2]
   cases handleType T.P (.pointer (AA a')) with|none=>exact λ_=>Ar|some t=>exact λ_=>rfl
 have:handleType T.v x=AB:=by
  unfold handleType;split;exact Ak ⟨_,rfl⟩ hx;rfl
 rw[this];exact λ_=>Ar
end
open Go.Extern
section
variable {f:Array AQ->Sem AQ}
section
variable {T:Twin} {F:Fs} {N:Nat} {ρ:Rn} {α β γ:Type}
theorem wG(h1: ∀{ρ:Rn} {x x':AQ},BC F ρ x x'->AY T F N (QV F) (f #[x]) ρ (f #[x']))(h2: ∀p:Array AQ,(∀x,p≠ #[x])->∃s,f p=stuck s):KP T F N f:=by
 intro ρ p p' hp;by_cases h: ∃x,p= #[x]
 ·obtain⟨x,rfl⟩:=h;obtain⟨l⟩:=p';obtain⟨e,h3⟩:=hp;rcases l with _|⟨x',_|⟨_,_⟩⟩;simp at e
  ·exact h1 (h3 0 x x' rfl rfl)
  simp at e
 obtain⟨s,hs⟩:=h2 p λx e=>h ⟨x,e⟩;rw[hs];exact λ_=>Ar
theorem ANU(h1: ∀{ρ:Rn} {x x' y y':AQ},BC F ρ x x'->BC F ρ y y'->AY T F N (QV F) (f #[x,y]) ρ (f #[x',y']))(h2: ∀p:Array AQ,(∀x y,p≠ #[x,y])->∃s,f p=stuck s):KP T F N f:=by
 intro ρ p p' hp;by_cases h: ∃x y,p= #[x,y]
 ·obtain⟨x,y,rfl⟩:=h;obtain⟨l⟩:=p';obtain⟨e,h3⟩:=hp;rcases l with _|⟨x',_|⟨y',_|⟨_,_⟩⟩⟩;simp at e;simp at e
  ·exact h1 (h3 0 x x' rfl rfl) (h3 1 y y' rfl rfl)
  simp at e
 obtain⟨s,hs⟩:=h2 p λx y e=>h ⟨x,y,e⟩;rw[hs];exact λ_=>Ar
theorem AEf:KP T F N MapsClone.clone:=by
 refine wG (λ{ρ x x'} h=>?_) λp hp=>?_
 ·unfold MapsClone.clone
  cases h with
  |flat hf=>cases x<;>first|exact Ak (show false=true from hf) AV|exact λ_=>Ar
  | @iface t v v' hv=>
   cases hv with
   |flat hf=>
    (cases v<;>first|exact λ_=>Ar|exact Ak (show false=true from hf) AV|skip);rename_i a;cases a<;>first|exact Ak (show false=true from hf) AV|exact λ_=>Ar
   |map hb=>
    intro hok;refine⟨hb,λo o' ho=>?_⟩
    cases ho with
    | @map es es' c hs he=>
     have fin:AY T F N (QV F) (newObj (.map es c)>>=λb=>pure (.iface t (.map (AA b))):Sem AQ) ρ (newObj (.map es' c)>>=λb=>pure (.iface t (.map (AA b)))):=
      (XP (.map hs he)).bind λ_ _ _ _ hb=>λ_=>.iface (.map hb)
     exact fin hok
    |_=>exact Ar
   |_=>exact λ_=>Ar
  |_=>exact λ_=>Ar
 obtain⟨l⟩:=p;rcases l with _|⟨x,_|⟨y,l⟩⟩;exact⟨_,rfl⟩;exact Ak rfl (hp x);exact⟨_,rfl⟩
theorem cZ(s:String):AY T F N Ef (cutType s) ρ (cutType s):=by
 refine CU.bind λρ₁ p p' l1 e=>?_;obtain⟨rfl,rfl⟩:=e;show AY T F N Ef (match T.P.cutTypes.find? (·.1==s) with|some (_,t)=>pure t|none=>stuck ("the program has no row for the type " ++s):Sem Am) ρ₁ (match T.P.cutTypes.find? (·.1==s) with|some (_,t)=>pure t|none=>stuck ("the program has no row for the type " ++s))
 cases T.P.cutTypes.find? (·.1==s) with|none=>exact λ_=>Ar|some q=>exact λ_=>rfl
theorem Xe(hN:T.P.globals.size<N)(t:Am):AY T F N (QV F) (mJ t) ρ (mJ t):=by
 refine (cZ _).bind λρ₁ u u' l1 e=>?_;obtain rfl:u=u':=e;refine (AB5 hN t).bind λρ₂ h h' l2 hh=>λ_=>.iface ?_;have:=BB.one hh;exact .agg this.1 this.2
theorem Vf(hN:T.P.globals.size<N)(hb:T.P.bearsPack=false){x x':AQ}(h:BC F ρ x x'):AY T F N Ef (ABF x) ρ (ABF x'):=by
 have key: ∀{p p':Array AQ},BB F ρ p p'->AY T F N Ef (ABF (.agg p)) ρ (ABF (.agg p')):=by
  intro p p' hp;obtain⟨l⟩:=p;obtain⟨l'⟩:=p';obtain⟨e,h3⟩:=hp;(rcases l with _|⟨y,_|⟨_,_⟩⟩<;>rcases l' with _|⟨y',_|⟨_,_⟩⟩<;>first|exact λ_=>Ar|(simp at e;done)|skip);refine (Ub hN (h3 0 y y' rfl rfl)).bind λρ₁ t t' l1 e=>?_;obtain rfl:t=t':=e;exact (UB hb _ t).bind λ_ _ _ _ _=>λ_=>rfl
 cases h with
 |flat hf=>cases x<;>first|exact λ_=>Ar|exact Ak (show false=true from hf) AV
 |agg h1 h2=>exact key ⟨h1,h2⟩|_=>exact λ_=>Ar
theorem AB6(hN:T.P.globals.size<N):KP T F N WH:=by
 refine wG (λ{ρ x x'} h=>?_) λp hp=>?_
 ·unfold WH
  cases h with
  |flat hf=>cases x<;>first|exact Ak (show false=true from hf) AV|exact λ_=>Ar|exact λ_=>.flat rfl
  |iface=>exact Xe hN _|_=>exact λ_=>Ar
 obtain⟨l⟩:=p;rcases l with _|⟨x,_|⟨y,l⟩⟩;exact⟨_,rfl⟩;exact Ak rfl (hp x);exact⟨_,rfl⟩
theorem jU(hN:T.P.globals.size<N)(hb:T.P.bearsPack=false){f:Am->Sem AQ}(hf: ∀{ρ:Rn} (t:Am),AY T F N (QV F) (f t) ρ (f t)):KP T F N (mM f):=by
 refine wG (λ{ρ x x'} h=>?_) λp hp=>?_
 ·exact (Vf hN hb h).bind λρ₁ t t' l1 e=>by obtain rfl:t=t':=e;exact hf t
 obtain⟨l⟩:=p;rcases l with _|⟨x,_|⟨y,l⟩⟩;exact⟨_,rfl⟩;exact Ak rfl (hp x);exact⟨_,rfl⟩
theorem Ll{Q:Rn->α->β->Prop}(m:String):AY T F N Q (panicString m:Sem α) ρ (panicString m:Sem β):=
 CU.bind λρ₁ p p' l1 e=>by obtain⟨rfl,rfl⟩:=e;exact RJ (.iface (.flat rfl))
theorem AEg(hN:T.P.globals.size<N)(hb:T.P.bearsPack=false)(t:Am):AY T F N (QV F) (mO t) ρ (mO t):=by
 refine (oV t).bind λρ₁ q q' l1 e=>?_;obtain rfl:q=q':=e
 cases q with
 |none=>exact (Zh hb t).bind λ_ s s' _ e=>by obtain rfl:s=s':=e;exact Ll _
 |some u=>exact Xe hN u
theorem AEh(hb:T.P.bearsPack=false)(u t:Am):AY T F N Ef (mP u t) ρ (mP u t):=by
 refine (YP u).bind λρ₁ k k' l1 e=>?_;obtain rfl:k=k':=e
 have rest:AY T F N Ef (do Rtype.noPackMethods "Implements" t;Rtype.noPack "Implements" u;mQ u t:Sem Bool) ρ₁ (do Rtype.noPackMethods "Implements" t;Rtype.noPack "Implements" u;mQ u t):=
  (IZ hb _ t).bind λ_ _ _ _ _=>(UB hb _ u).bind λ_ _ _ _ _=>Qm hb u t
 by_cases h:(k !=20)=true
 ·simp only[h,if_true];exact AY.bind (Q:=λ_ _ _=>False) (Ll _) λ_ _ _ _ e=>e.elim
 simp only[h,if_false,DC];exact rest
theorem zl(hb:T.P.bearsPack=false)(u t:Am):AY T F N Ef (UN u t) ρ (UN u t):=by
 have rest: ∀{ρ:Rn},AY T F N Ef (do pure ((<- ABG u t) || (<- mQ u t)):Sem Bool) ρ (do pure ((<- ABG u t) || (<- mQ u t))):=by
  intro ρ;refine (WQ u t).bind λρ₁ x x' l1 e=>?_;obtain rfl:x=x':=e;exact (Qm hb u t).bind λ_ y y' _ e=>by obtain rfl:y=y':=e;exact λ_=>rfl
 unfold UN;by_cases h:(u !=t)=true
 ·simp only[h,if_true];exact (IZ hb _ t).bind λ_ _ _ _ _=>(IZ hb _ u).bind λ_ _ _ _ _=>rest
 simp only[h,if_false,DC];exact rest
theorem Y6(hN:T.P.globals.size<N)(hb:T.P.bearsPack=false)(w:String){f:Am->Am->Sem Bool}(hf: ∀{ρ:Rn} (u t:Am),AY T F N Ef (f u t) ρ (f u t)):KP T F N (QH w f):=by
 refine ANU (λ{ρ x x' y y'} h k=>?_) λp hp=>?_
 ·unfold QH
  cases k with
  |flat hf=>cases y<;>first|exact Ak (show false=true from hf) AV|exact λ_=>Ar|exact Ll _
  | @iface t v v' hv=>
   refine (Vf hN hb hv).bind λρ₁ u u' l1 e=>?_;obtain rfl:u=u':=e;refine (Vf hN hb (h.mono l1)).bind λρ₂ t t' l2 e=>?_;obtain rfl:t=t':=e;exact (hf u t).bind λ_ x x' _ e=>by obtain rfl:x=x':=e;exact λ_=>.flat rfl
  |_=>exact λ_=>Ar
 obtain⟨l⟩:=p;rcases l with _|⟨x,_|⟨y,_|⟨z,l⟩⟩⟩;exact⟨_,rfl⟩;exact⟨_,rfl⟩;exact Ak rfl (hp x y);exact⟨_,rfl⟩
theorem AJF(hN:T.P.globals.size<N)(hb:T.P.bearsPack=false){f:Am->Sem AQ}(hf: ∀{ρ:Rn} (t:Am),AY T F N (QV F) (f t) ρ (f t)):KP T F N (mV f):=by
 refine wG (λ{ρ x x'} h=>?_) λp hp=>?_
 ·refine (Ub hN h).bind λρ₁ t t' l1 e=>?_;obtain rfl:t=t':=e;exact (UB hb _ t).bind λ_ _ _ _ _=>hf t
 obtain⟨l⟩:=p;rcases l with _|⟨x,_|⟨y,l⟩⟩;exact⟨_,rfl⟩;exact Ak rfl (hp x);exact⟨_,rfl⟩
theorem AEi(t:Am):AY T F N (QV F) (do pure (.int .u8 (<- Rtype.kind t)):Sem AQ) ρ (do pure (.int .u8 (<- Rtype.kind t))):=
 (YP t).bind λ_ k k' _ e=>by obtain rfl:k=k':=e;exact λ_=>.flat rfl
theorem kU(hb:T.P.bearsPack=false)(t:Am):AY T F N (QV F) (do Rtype.noPackHeld "Comparable" t;pure (.bool (<- I4 t).comparable):Sem AQ) ρ (do Rtype.noPackHeld "Comparable" t;pure (.bool (<- I4 t).comparable)):=
 (kT hb _ t).bind λ_ _ _ _ _=>(C9 t).bind λ_ i i' _ e=>by obtain⟨rfl,_⟩:=e;exact λ_=>.flat rfl
end
end
section
variable {a a':Ag}{z:Sem AQ}{f:Am->Ag->Nat->Nat->Sem AQ}{x x':AQ}
section
variable {T:Twin} {F:Fs} {N:Nat} {ρ:Rn} {α β γ:Type}
theorem AGG(hN:T.P.globals.size<N)(t:Am)(h:RelA ρ a a')(fl:Nat):AY T F N (QV F) (ReflectliteValue.mk t a fl) ρ (ReflectliteValue.mk t a' fl):=by
 refine (AB5 hN t).bind λρ₁ x x' l1 hx=>?_;refine (YP t).bind λρ₂ k k' l2 e=>?_;obtain rfl:k=k':=e;have:=((BB.one (hx.mono l2)).push (BC.ptr ((h.mono l1).mono l2))).push (BC.flat (F:=F) (ρ:=ρ₂) (v:=.int .u64 (Int.ofNat (k+ReflectliteValue.flagIndir+fl))) rfl);exact λ_=>.agg this.1 this.2
theorem oZ:BC F ρ ReflectliteValue.zeroV ReflectliteValue.zeroV:=by
 have:=BB.VR (F:=F) (ρ:=ρ) (p:=#[.pointer AB,.pointer AB,.int .u64 0]) (by intro z hz;simp at hz;rcases hz with rfl|rfl<;>rfl);exact .agg this.1 this.2
theorem jV(hN:T.P.globals.size<N)(h:BC F ρ x x'):AY T F N (QV F) (UO x) ρ (UO x'):=by
 unfold UO
 cases h with
 |flat hf=>cases x<;>first|exact Ak (show false=true from hf) AV|exact λ_=>Ar|exact λ_=>oZ
 | @iface t v v' hv=>exact (Ny t hv).bind λρ₁ a a' l1 ha=>AGG hN t ha 0|_=>exact λ_=>Ar
theorem zn(hN:T.P.globals.size<N):KP T F N (λargs=>UO (args.getD 0 (.tuple #[]))):=λhp=>jV hN (hp.getD 0)
theorem FD{Q:Rn->α->β->Prop}(m:String)(k:Nat):AY T F N Q (Ox m k:Sem α) ρ (Ox m k:Sem β):=by
 refine (cZ _).bind λρ₁ t t' l1 e=>?_;obtain rfl:t=t':=e;refine (XH t).bind λρ₂ u u' l2 e=>?_;obtain rfl:u=u':=e;have:=BB.VR (F:=F) (ρ:=ρ₂) (p:=#[strVal m,.int .u8 (Int.ofNat k)]) (by intro z hz;simp at hz;rcases hz with rfl|rfl<;>rfl);exact (Ny u (.agg this.1 this.2)).bind λρ₃ a a' l3 ha=>RJ (.iface (.ptr ha))
def QPa (ρ:Rn) (x y:Option (Am×Ag×Nat)):Prop:=match x,y with
 |some p,AA q=>p.1=q.1/\RelA ρ p.2.1 q.2.1/\p.2.2=q.2.2|none,AB=>True|_,_=>False
theorem Y7(hN:T.P.globals.size<N)(h:BC F ρ x x'):AY T F N QPa (UQ x) ρ (UQ x'):=by
 have key: ∀{p p':Array AQ},BB F ρ p p'->AY T F N QPa (UQ (.agg p)) ρ (UQ (.agg p')):=by
  intro p p' hp;obtain⟨l⟩:=p;obtain⟨l'⟩:=p';obtain⟨e,h3⟩:=hp;(rcases l with _|⟨a,_|⟨b,_|⟨c,_|⟨_,_⟩⟩⟩⟩<;>first|exact λ_=>Ar|skip);(rcases l' with _|⟨a',_|⟨b',_|⟨c',_|⟨_,_⟩⟩⟩⟩<;>first|(simp at e;done)|skip);have ha:=h3 0 a a' rfl rfl;have hb:=h3 1 b b' rfl rfl;have hc:=h3 2 c c' rfl rfl;clear e h3;(cases c<;>first|exact λ_=>Ar|skip);rename_i kd n;rw[BR hc rfl];cases kd<;>first|exact λ_=>Ar|skip
  have go: ∀m:Int,(∀(y:AQ) (r:Ag),UQ (.agg #[y,.pointer (AA r),.int .u64 m])=(Rtype.ofHandle y>>=λt=>pure (AA (t,r,m.toNat))))->
    (∀y z:AQ,(∀r,z≠ .pointer (AA r))->UQ (.agg #[y,z,.int .u64 m])=stuck "reflectlite: a Value expected")->
    AY T F N QPa (UQ (.agg #[a,b,.int .u64 m])) ρ (UQ (.agg #[a',b',.int .u64 m])):=by
   intro m e1 e2;by_cases hbp: ∃q,b=.pointer (AA q)
   ·obtain⟨q,rfl⟩:=hbp;obtain⟨q',rfl,hq⟩:=Dk hb
    cases q' with
    |none=>exact hq.elim|some q'=>
     rw[e1,e1];exact (Ub hN ha).bind λρ₁ t t' l1 e=>by obtain rfl:t=t':=e;exact λ_=>⟨rfl,RelA.mono l1 hq,rfl⟩
   rw[e2 a b λr e=>hbp ⟨r,e⟩];exact λ_=>Ar
  have no: ∀(m:Int) (z:AQ),(∀r,z≠ .pointer (AA r))->∀y,m≠0->UQ (.agg #[y,z,.int .u64 m])=stuck "reflectlite: a Value expected" :=by
   intro m z hz y hm
   cases m with
   |ofNat k=>cases k with
    |zero=>exact Ak rfl hm|succ k=>cases z<;>first|rfl|(rename_i r;cases r<;>first|rfl|exact Ak rfl (hz _))
   |negSucc k=>cases z<;>first|rfl|(rename_i r;cases r<;>first|rfl|exact Ak rfl (hz _))
  cases n with
  |ofNat k=>cases k with
   |zero=>exact λ_=>Ar|succ k=>exact go _ (λ_ _=>rfl) λy z hz=>no _ z hz y (λe=>by cases e)
  |negSucc k=>exact go _ (λ_ _=>rfl) λy z hz=>no _ z hz y AV
 cases h with
 |flat hf=>cases x<;>first|exact λ_=>Ar|exact Ak (show false=true from hf) AV
 |agg h1 h2=>exact key ⟨h1,h2⟩|_=>exact λ_=>Ar
theorem QPa.mono{ρ':Rn}(h:ρ.le ρ'){x y:Option (Am×Ag×Nat)}(k:QPa ρ x y):QPa ρ' x y:=by
 rcases x with _|p<;>rcases y with _|q<;>first|exact k.elim|trivial|exact⟨k.1,RelA.mono h k.2.1,k.2.2⟩
theorem Zi(hN:T.P.globals.size<N)(hb:T.P.bearsPack=false)(h:BC F ρ x x'):AY T F N QPa (WI x) ρ (WI x'):=by
 refine (Y7 hN h).bind λρ₁ q q' l1 hq=>?_;(rcases q with _|⟨t,a,fl⟩<;>rcases q' with _|⟨t',a',fl'⟩<;>first|exact hq.elim|exact λ_=>Ar|skip);obtain⟨e1,ha,e2⟩:=hq;simp only at e1 ha e2;subst e1 e2;exact (UB hb _ t).bind λρ₂ _ _ l2 _=>λ_=>⟨rfl,RelA.mono l2 ha,rfl⟩
theorem Vg(hN:T.P.globals.size<N)(hb:T.P.bearsPack=false)(hz: ∀{ρ:Rn},AY T F N (QV F) z ρ z)
  (hf: ∀{ρ:Rn} (t:Am) (a a':Ag) (fl k:Nat),RelA ρ a a'->AY T F N (QV F) (f t a fl k) ρ (f t a' fl k)):KP T F N (UR z f):=by
 refine wG (λ{ρ x x'} h=>?_) λp hp=>?_
 ·refine (Zi hN hb h).bind λρ₁ q q' l1 hq=>?_;(rcases q with _|⟨t,a,fl⟩<;>rcases q' with _|⟨t',a',fl'⟩<;>first|exact hq.elim|exact hz|skip);obtain⟨e1,ha,e2⟩:=hq;simp only at e1 ha e2;subst e1 e2;exact hf t a a' fl _ ha
 obtain⟨l⟩:=p;rcases l with _|⟨x,_|⟨y,l⟩⟩;exact⟨_,rfl⟩;exact Ak rfl (hp x);exact⟨_,rfl⟩
theorem kV(hN:T.P.globals.size<N)(hz: ∀{ρ:Rn},AY T F N (QV F) z ρ z)
  (hf: ∀{ρ:Rn} (t:Am) (a a':Ag) (fl k:Nat),RelA ρ a a'->AY T F N (QV F) (f t a fl k) ρ (f t a' fl k)):KP T F N (ABH z f):=by
 refine wG (λ{ρ x x'} h=>?_) λp hp=>?_
 ·refine (Y7 hN h).bind λρ₁ q q' l1 hq=>?_;(rcases q with _|⟨t,a,fl⟩<;>rcases q' with _|⟨t',a',fl'⟩<;>first|exact hq.elim|exact hz|skip);obtain⟨e1,ha,e2⟩:=hq;simp only at e1 ha e2;subst e1 e2;exact hf t a a' fl _ ha
 obtain⟨l⟩:=p;rcases l with _|⟨x,_|⟨y,l⟩⟩;exact⟨_,rfl⟩;exact Ak rfl (hp x);exact⟨_,rfl⟩
def U6:AQ->Bool
 | .chan AB| .nilFunc| .nilIface| .map AB| .pointer AB| .slice AB _ _=>true|_=>false
theorem zo(h:BC F ρ x x'):U6 x=U6 x':=by
 have nf: ∀z:AQ,flat z=false->U6 z=false:=by
  intro z hz;unfold U6;split<;>first|rfl|cases hz
 by_cases hx:flat x=true;rw[BR h hx];rw[nf x (by simpa using hx),nf x' (by cases e:flat x' with|false=>rfl|true=>exact Ak (P7 h e) hx)]
theorem AEj(t:Am)(fl k:Nat)(h:RelA ρ a a'):AY T F N (QV F) (Yp t a fl k) ρ (Yp t a' fl k):=by
 have rest: ∀{ρ:Rn},RelA ρ a a'->AY T F N (QV F) (loadVar t a>>=λv=>match v with
   | .chan AB| .nilFunc| .nilIface| .map AB| .pointer AB| .slice AB _ _=>pure (.bool true)
   |_=>pure (.bool false):Sem AQ) ρ (loadVar t a'>>=λv=>match v with
   | .chan AB| .nilFunc| .nilIface| .map AB| .pointer AB| .slice AB _ _=>pure (.bool true)
   |_=>pure (.bool false)):=by
  intro ρ h;refine (OO t h).bind λρ₁ v v' l1 hv=>?_
  have e1: ∀z:AQ,(match z with
   | .chan AB| .nilFunc| .nilIface| .map AB| .pointer AB| .slice AB _ _=>pure (.bool true)
   |_=>pure (.bool false):Sem AQ)=pure (.bool (U6 z)):=by
   intro z;unfold U6;cases z<;>first|rfl|(rename_i a;cases a<;>rfl)|(rename_i a _ _;cases a<;>rfl)
  rw[e1,e1,zo hv];exact λ_=>.flat rfl
 unfold Yp;by_cases hk:(!([18,19,20,21,22,23,26].contains k))=true
 ·simp only[hk,if_true];exact AY.bind (Q:=λ_ _ _=>False) (FD _ _) λ_ _ _ _ e=>e.elim
 simp only[hk,if_false,DC];exact rest h
def Calm {α:Type} (T:Twin):Sem α->Prop
 | .pure _=>True| .halt h=>Halt.dead T.p h| .new _ k=>T.p/\∀n,Calm T (k n)| .program k=>Calm T (k T.v)|_=>False
theorem Calm.dead{s:Sem α}{f:α->Sem β}:Calm T s->(∀a,CW T (f a))->CW T (s.bind f):=by
 intro hs hf
 induction s with|pure a=>exact hf a|halt h=>exact hs|new o k ih=>exact⟨hs.1,λn=>ih n (hs.2 n)⟩|program k ih=>exact ih _ hs|_=>exact hs.elim
theorem Calm.bind{s:Sem α}{f:α->Sem β}:Calm T s->(∀a,Calm T (f a))->Calm T (s.bind f):=by
 intro hs hf
 induction s with|pure a=>exact hf a|halt h=>exact hs|new o k ih=>exact⟨hs.1,λn=>ih n (hs.2 n)⟩|program k ih=>exact ih _ hs|_=>exact hs.elim
theorem gU(hp:T.p)(m:String)(k:Nat):CW T (Ox m k:Sem α):=by
 refine Calm.dead (s:=cutType _) ?_ λt=>?_
 ·show Calm T (match T.P.cutTypes.find? _ with|some (_,t)=>pure t|none=>stuck _:Sem Am);cases T.P.cutTypes.find? (·.1== "*internal/reflectlite.ValueError")<;>exact Ar
 refine Calm.dead (s:=elemOf t) ?_ λu=>?_
 ·show Calm T ((match T.P.underlying t with|some d=>pure d|none=>stuck "no such type" :Sem TypeDesc).bind _);refine Calm.bind ?_ λd=>?_
  ·cases T.P.underlying t<;>exact Ar
  cases d<;>exact Ar
 exact⟨hp,λn=>hp⟩
theorem AEk(hp:F.p->T.p)(hN:T.P.globals.size<N)(t:Am)(fl k:Nat)(h:RelA ρ a a'):AY T F N (QV F) (Yq t a fl k) ρ (Yq t a' fl k):=by
 unfold Yq;by_cases hk:(k !=20 && k !=22)=true
 ·simp only[hk,if_true];exact AY.bind (Q:=λ_ _ _=>False) (FD _ _) λ_ _ _ _ e=>e.elim
 simp only[hk,if_false,DC];refine (OO t h).bind λρ₁ v v' l1 hv=>?_;refine (oV t).bind λρ₂ q q' l2 e=>?_;obtain rfl:q=q':=e;have hv:=hv.mono l2
 have hk2:k=20\/k=22:=by
  simp only[DV,bne_iff_ne,ne_eq,not_and,yH] at hk;exact (Classical.em (k=20)).imp id hk
 rcases hk2 with rfl|rfl;exact jV hN hv
 cases hv with
 |flat hf=>
  (cases v<;>first|exact FD _ _|skip);rename_i r
  cases r with|none=>exact λ_=>oZ|some _=>exact Ak (show false=true from hf) AV
 |ptr ha=>
  cases q with|none=>exact FD _ _|some e=>exact AGG hN e ha _
 |tok hc ht hq=>
  rcases hq with hq|rfl;exact Rk (gU (hp hq) _ _) _;exact FD _ _
 |mf hx hm=>cases v'<;>first|exact Ak (show false=true from hm) AV|exact FD _ _
 |_=>exact FD _ _
theorem AJG(hN:T.P.globals.size<N)(hb:T.P.bearsPack=false):KP T F N eY:=by
 refine ANU (λ{ρ x x' y y'} h k=>?_) λp hp=>?_
 ·unfold eY;refine (Zi hN hb h).bind λρ₁ q q' l1 hq=>?_;refine (Zi hN hb (k.mono l1)).bind λρ₂ r r' l2 hr=>?_;have hq:=hq.mono l2;(rcases q with _|⟨t,a,fl⟩<;>rcases q' with _|⟨t',a',fl'⟩<;>first|exact hq.elim|exact λ_=>Ar|skip);(rcases r with _|⟨u,b,gl⟩<;>rcases r' with _|⟨u',b',gl'⟩<;>first|exact hr.elim|exact λ_=>Ar|skip);obtain⟨e1,ha,e2⟩:=hq;obtain⟨e3,hb',e4⟩:=hr;simp only at e1 ha e2 e3 hb' e4;subst e1 e2 e3 e4;have over: ∀{ρ:Rn},AY T F N (QV F) (pure (.tuple #[]):Sem AQ) ρ (pure (.tuple #[])):=λ_=>.undef;by_cases hfl:(fl/ABJ % 2==0)=true
  ·simp only[hfl,if_true];exact λ_=>Ar
  simp only[hfl,if_false,DC];refine (OO u hb').bind λρ₃ v v' l3 hv=>?_;refine (WQ t u).bind λρ₄ c c' l4 e=>?_;obtain rfl:c=c':=e;have ha4:=(RelA.mono l3 ha).mono l4;have hv4:=hv.mono l4;cases c
  ·simp only[if_false,DC];refine (Qm hb t u).bind λρ₅ d d' l5 e=>?_;obtain rfl:d=d':=e;cases d
   ·simp only[if_false,DC];refine (Zh hb u).bind λρ₆ s s' l6 e=>?_;obtain rfl:s=s':=e;refine (Zh hb t).bind λρ₇ s2 s2' l7 e=>?_;obtain rfl:s2=s2':=e;exact AY.bind (Q:=λ_ _ _=>False) (Ll _) λ_ _ _ _ e=>e.elim
   simp only[if_true];refine (YP u).bind λρ₆ kd kd' l6 e=>?_;obtain rfl:kd=kd':=e;have ha6:=(RelA.mono l5 ha4).mono l6;have hv6:=(hv4.mono l5).mono l6;by_cases hk:(kd==20)=true
   ·simp only[hk,if_true];have st:AY T F N (QV F) (storeVar t a v>>=λ_=>pure (.tuple #[]):Sem AQ) ρ₆ (storeVar t a' v'>>=λ_=>pure (.tuple #[])):=(P5 t ha6 hv6).bind λ_ _ _ _ _=>over;by_cases hn:v=.nilIface
    ·subst hn;rw[BR hv6 rfl];exact λ_=>Ar
    have hn':v'≠ .nilIface:=λe=>hn ((VU hv6).2 e);split;exact Ak rfl hn;cases v'<;>first|exact Ak rfl hn'|exact st
   simp only[hk,if_false,DC];exact (P5 t ha6 (.iface hv6)).bind λ_ _ _ _ _=>over
  simp only[if_true];exact (P5 t ha4 hv4).bind λ_ _ _ _ _=>over
 obtain⟨l⟩:=p;rcases l with _|⟨x,_|⟨y,_|⟨z,l⟩⟩⟩;exact⟨_,rfl⟩;exact⟨_,rfl⟩;exact Ak rfl (hp x y);exact⟨_,rfl⟩
end
end
section
variable {f:Nat}{P:BM}
abbrev SS:Array BX:=#[{dst:=AA 15,op:=.call {callee:=.invoke (.tmp 1) "Take",args:=#[(.tmp 14)],argTypes:=#[62]},type:=51,pos:= "",after:=#[],guard:=AB}]
abbrev U7:Code:=(.seq (.region 4 #[{dst:=AA 16,op:=.binOp .mul 51 (.tmp 15) (.const (.int .i64 1)) 51,type:=51,pos:= "",after:=#[],guard:=AB},{dst:=AA 5,op:=.assign (.tmp 15),type:=51,pos:= "",after:=#[],guard:=AB},{dst:=AA 17,op:=.binOp .neq 51 (.tmp 15) (.const (.int .i64 0)) 51,type:=4,pos:= "",after:=#[],guard:=AB}] false) (.seq (.cond (.tmp 17) (.exit 0) .skip) (.region 5 #[{dst:=AA 18,op:=.binOp .add 3 (.tmp 4) (.const (.int .i64 1)) 3,type:=3,pos:= "",after:=#[],guard:=AB},{dst:=AA 4,op:=.assign (.tmp 18),type:=3,pos:= "",after:=#[],guard:=AB},{dst:=AA 8,op:=.assign (.tmp 12),type:=3,pos:= "",after:=#[],guard:=AB}] false)))
abbrev Aj.loop:Code:=(.seq (.region 1 #[{dst:=AA 9,op:=.binOp .lss 3 (.tmp 8) (.tmp 7) 3,type:=4,pos:= "",after:=#[],guard:=AB}] false) (.seq (.cond (.tmp 9) .skip (.exit 0)) (.seq (.region 2 #[{dst:=AA 10,op:=.binOp .sub 3 (.tmp 7) (.tmp 8) 3,type:=3,pos:= "",after:=#[],guard:=AB},{dst:=AA 11,op:=.call {callee:=.builtin .min,args:=#[(.tmp 6),(.tmp 10)],argTypes:=#[3,3]},type:=3,pos:= "",after:=#[],guard:=AB},{dst:=AA 12,op:=.binOp .add 3 (.tmp 8) (.tmp 11) 3,type:=3,pos:= "",after:=#[],guard:=AB},{dst:=AA 13,op:=.slice 9 (.tmp 3) (AA (.tmp 8)) (AA (.tmp 12)) AB,type:=9,pos:= "",after:=#[],guard:=AB},{dst:=AA 14,op:=.call {callee:=.builtin .append,args:=#[(.const (.slice AB 0 0)),(.tmp 13)],argTypes:=#[62,9]},type:=62,pos:= "",after:=#[],guard:=AB}] false) (.seq (.region 3 #[{dst:=AA 15,op:=.call {callee:=.invoke (.tmp 1) "Take",args:=#[(.tmp 14)],argTypes:=#[62]},type:=51,pos:= "",after:=#[],guard:=AB}] false) (.seq (.region 4 #[{dst:=AA 16,op:=.binOp .mul 51 (.tmp 15) (.const (.int .i64 1)) 51,type:=51,pos:= "",after:=#[],guard:=AB},{dst:=AA 5,op:=.assign (.tmp 15),type:=51,pos:= "",after:=#[],guard:=AB},{dst:=AA 17,op:=.binOp .neq 51 (.tmp 15) (.const (.int .i64 0)) 51,type:=4,pos:= "",after:=#[],guard:=AB}] false) (.seq (.cond (.tmp 17) (.exit 0) .skip) (.region 5 #[{dst:=AA 18,op:=.binOp .add 3 (.tmp 4) (.const (.int .i64 1)) 3,type:=3,pos:= "",after:=#[],guard:=AB},{dst:=AA 4,op:=.assign (.tmp 18),type:=3,pos:= "",after:=#[],guard:=AB},{dst:=AA 8,op:=.assign (.tmp 12),type:=3,pos:= "",after:=#[],guard:=AB}] false)))))))
abbrev Aj.JR:Code:=(.seq (.region 6 #[{dst:=AA 12,op:=.binOp .lss 3 (.tmp 11) (.tmp 3) 3,type:=4,pos:= "",after:=#[],guard:=AB}] false) (.seq (.cond (.tmp 12) .skip (.exit 0)) (.seq (.region 7 #[{dst:=AA 13,op:=.indexAddr 62 (.tmp 0) (.tmp 11),type:=0,pos:= "",after:=#[],guard:=AB},{dst:=AA 14,op:=.load 5 (.tmp 13),type:=5,pos:= "",after:=#[],guard:=AB},{dst:=AA 15,op:=.binOp .leq 5 (.const (.int .u8 0)) (.tmp 14) 5,type:=4,pos:= "",after:=#[],guard:=AB},{dst:=AA 16,op:=.binOp .leq 5 (.tmp 14) (.const (.int .u8 255)) 5,type:=4,pos:= "",after:=#[],guard:=AB},{dst:=AA 17,op:=.binOp .add 3 (.tmp 11) (.const (.int .i64 1)) 3,type:=3,pos:= "",after:=#[],guard:=AB},{dst:=AA 11,op:=.assign (.tmp 17),type:=3,pos:= "",after:=#[],guard:=AB}] false) (.seq (.cond (.tmp 15) .skip (.refuse "")) (.cond (.tmp 16) .skip (.refuse ""))))))
abbrev Aj.Ia:Code:=(.seq (.region 1 #[{dst:=AA 6,op:=.binOp .lss 3 (.tmp 1) (.const (.int .i64 1)) 3,type:=4,pos:= "",after:=#[],guard:=AB},{dst:=AA 7,op:=.call {callee:=.builtin .max,args:=#[(.const (.int .i64 1)),(.tmp 3)],argTypes:=#[3,3]},type:=3,pos:= "",after:=#[],guard:=AB}] false) (.seq (.cond (.tmp 6) (.region 2 #[{dst:=AA 8,op:=.move (.tmp 7),type:=3,pos:= "",after:=#[],guard:=AB}] false) (.region 3 #[{dst:=AA 8,op:=.move (.tmp 1),type:=3,pos:= "",after:=#[],guard:=AB}] false)) (.seq (.region 4 #[{dst:=AA 9,op:=.binOp .leq 3 (.tmp 8) (.const (.int .i64 9223372036854775807)) 3,type:=4,pos:= "",after:=#[],guard:=AB}] false) (.seq (.cond (.tmp 9) .skip (.refuse "")) (.seq (.region 5 #[{dst:=AA 10,op:=.makeFunc (.func 79) #[] #[(.tmp 2),(.tmp 8)],type:=106,pos:= "",after:=#[],guard:=AB},{dst:=AA 4,op:=.assign (.tmp 10),type:=106,pos:= "",after:=#[],guard:=AB}] false) .ret)))))
abbrev Aj.f47:Func:={name:= "Chunks",origin:= "",params:=#[62,3],resultTypes:=#[106],nfree:=0,ntmps:=20,results:=#[.tmp 4],body:=AA (.seq (.region 0 #[{dst:=AA 3,op:=.call {callee:=.builtin .len,args:=#[(.tmp 0)],argTypes:=#[62]},type:=3,pos:= "",after:=#[],guard:=AB},{dst:=AA 2,op:=.convert 62 9 (.tmp 0),type:=9,pos:= "",after:=#[],guard:=AB},{dst:=AA 18,op:=.call {callee:=.builtin .len,args:=#[(.tmp 2)],argTypes:=#[9]},type:=3,pos:= "",after:=#[],guard:=AB},{dst:=AA 19,op:=.binOp .eql 3 (.tmp 18) (.tmp 3) 3,type:=4,pos:= "",after:=#[],guard:=AB},{dst:=AA 5,op:=.binOp .leq 3 (.tmp 3) (.const (.int .i64 1073741824)) 3,type:=4,pos:= "",after:=#[],guard:=AB},{dst:=AA 11,op:=.move (.const (.int .i64 0)),type:=3,pos:= "",after:=#[],guard:=AB}] false) (.seq (.cond (.tmp 19) .skip (.refuse "")) (.seq (.cond (.tmp 5) .skip (.refuse "")) (.seq (.block 0 (.loop Aj.JR)) Aj.Ia)))),norace:=false,tmpNames:=#[]}
abbrev Aj.f46:Func:={name:= "Copy",origin:= "",params:=#[106,156],resultTypes:=#[3,51],nfree:=0,ntmps:=19,results:=#[.tmp 4,.tmp 5],body:=AA (.seq (.region 0 #[{dst:=AA 2,op:=.call {callee:=.value (.tmp 0),args:=#[(.const (.int .i64 0)),(.const (.int .i64 0)),(.const (.int .i64 0)),(.const (.int .i64 0)),(.const (.int .i64 0))],argTypes:=#[3,3,3,3,3]},type:=0,pos:= "",after:=#[],guard:=AB},{dst:=AA 3,op:=.extract (.tmp 2) 0,type:=9,pos:= "",after:=#[],guard:=AB},{dst:=AA 6,op:=.extract (.tmp 2) 1,type:=3,pos:= "",after:=#[],guard:=AB},{dst:=AA 7,op:=.call {callee:=.builtin .len,args:=#[(.tmp 3)],argTypes:=#[9]},type:=3,pos:= "",after:=#[],guard:=AB},{dst:=AA 8,op:=.move (.const (.int .i64 0)),type:=3,pos:= "",after:=#[],guard:=AB},{dst:=AA 4,op:=.assign (.const (.int .i64 0)),type:=3,pos:= "",after:=#[],guard:=AB},{dst:=AA 5,op:=.assign (.const (.int .i64 0)),type:=51,pos:= "",after:=#[],guard:=AB}] false) (.seq (.block 0 (.loop Aj.loop)) .ret)),norace:=false,tmpNames:=#[]}
abbrev Aj.f79:Func:={name:= "Chunks$1",origin:= "",params:=#[3,3,3,3,3],resultTypes:=#[9,3],nfree:=2,ntmps:=8,results:=#[.tmp 5,.tmp 6],body:=AA (.seq (.region 0 #[{dst:=AA 7,op:=.binOp .add 3 (.tmp 6) (.const (.int .i64 0)) 3,type:=3,pos:= "",after:=#[],guard:=AB}] false) .ret),norace:=false,tmpNames:=#[]}
noncomputable def Aj.funcs:Array Func:=((Tryz.prog.funcs.setIfInBounds 47 Aj.f47).setIfInBounds 46 Aj.f46).setIfInBounds 79 Aj.f79
noncomputable def Ae:BM:={Tryz.prog with funcs:=Aj.funcs}
theorem AB7:Ae.funcs[(47:Nat)]? =AA Aj.f47:=by kernel_rfl
theorem wH:Ae.funcs[(46:Nat)]? =AA Aj.f46:=by kernel_rfl
theorem oh:Ae.funcs[(79:Nat)]? =AA Aj.f79:=by kernel_rfl
@[simp] theorem Aj.tab:Ae.toTables=Tryz.prog.toTables:=rfl
@[simp] theorem Aj.und(t:Am):Ae.underlying t=Tryz.prog.underlying t:=rfl
@[simp] theorem Aj.info(t:Am):Ae.info? t=Tryz.prog.info? t:=rfl
theorem oq(P:BM)(F:Array Func)(t:Am)(w:AL):(I4 t).run {P with funcs:=F} w=(I4 t).run P w:=by
 have h: ∀Q:BM,(I4 t).run Q w=(match Q.toTables.info? t with|some d=>pure d|none=>stuck "no such type" :Sem TypeInfo).run Q w:=λQ=>rfl;rw[h,h];have e:({P with funcs:=F}:BM).toTables.info? t=P.toTables.info? t:=rfl;rw[e];cases P.toTables.info? t<;>simp[Sem.run,stuck]
@[simp] theorem Aj.AVK(t:Am)(w:AL):(I4 t).run Ae w=(I4 t).run Tryz.prog w:=oq Tryz.prog Aj.funcs t w
theorem AGH(P:BM)(F:Array Func)(t:Am)(w:AL):(underlying t).run {P with funcs:=F} w=(underlying t).run P w:=by
 have h: ∀Q:BM,(underlying t).run Q w=(match Q.underlying t with|some d=>pure d|none=>stuck "no such type" :Sem TypeDesc).run Q w:=λQ=>rfl;rw[h,h];have e:Program.underlying {P with funcs:=F} t=P.underlying t:=rfl;rw[e];cases P.underlying t<;>simp[Sem.run,stuck]
@[simp] theorem Aj.AVO(t:Am)(w:AL):(underlying t).run Ae w=(underlying t).run Tryz.prog w:=AGH Tryz.prog Aj.funcs t w
theorem AJH(P:BM)(F:Array Func)(t:Am)(w:AL):(sizeOf t).run {P with funcs:=F} w=(sizeOf t).run P w:=by
 unfold sizeOf;simp only[Eu,oq];(have h: ∀{α β:Type} (r:Result α) (f g:α->AL->Result β),(∀a v,f a v=g a v)->r.andThen f=r.andThen g:=λr f g e=>by cases r with|ok a v=>exact e a v|halt h v=>rfl);refine h _ _ _ λa v=>?_;first|rfl|(cases a<;>rfl)|(cases a.zero<;>simp[unsupported])|simp
@[simp] theorem Aj.Iu(t:Am)(w:AL):(sizeOf t).run Ae w=(sizeOf t).run Tryz.prog w:=AJH Tryz.prog Aj.funcs t w
theorem AMg(P:BM)(F:Array Func)(t:Am)(w:AL):(isAgg t).run {P with funcs:=F} w=(isAgg t).run P w:=by
 unfold isAgg;simp only[Eu,AGH];(have h: ∀{α β:Type} (r:Result α) (f g:α->AL->Result β),(∀a v,f a v=g a v)->r.andThen f=r.andThen g:=λr f g e=>by cases r with|ok a v=>exact e a v|halt h v=>rfl);refine h _ _ _ λa v=>?_;first|rfl|(cases a<;>rfl)|(cases a.zero<;>simp[unsupported])|simp
@[simp] theorem Aj.ML(t:Am)(w:AL):(isAgg t).run Ae w=(isAgg t).run Tryz.prog w:=AMg Tryz.prog Aj.funcs t w
theorem AJI(P:BM)(F:Array Func)(t:Am)(w:AL):(GY t).run {P with funcs:=F} w=(GY t).run P w:=by
 unfold GY;simp only[Eu,oq];(have h: ∀{α β:Type} (r:Result α) (f g:α->AL->Result β),(∀a v,f a v=g a v)->r.andThen f=r.andThen g:=λr f g e=>by cases r with|ok a v=>exact e a v|halt h v=>rfl);refine h _ _ _ λa v=>?_;first|rfl|(cases a<;>rfl)|(cases a.zero<;>simp[unsupported])|simp
@[simp] theorem Aj.Iw(t:Am)(w:AL):(GY t).run Ae w=(GY t).run Tryz.prog w:=AJI Tryz.prog Aj.funcs t w
def S1:List Nat:=[3,4,5,6,8,9,10,11,12,13,14,15,16,17,18,19,20,21,22,23,24,25,26,27,28,29,31,32,33,34,35,36,37,38,39,40,41,42,43,44,45,46,47,48,49,50,51,52,53,54,55,56,57,58,59,60,61,62,63,64,65,66,67,70,71,72,73,78,81,82,83,84,85,86,87,88,89,90,94,95,96,97,98,99,100,120,122,123,124,125,128,129,130,136,137,138,139,140,141,142,143,144,145,146,147,148,149,150,151,152,153,154,155,156,177,178,179,180,181,183,185]
def SV:List Nat:=[39,41,43,45,48,50,51,56,62,72,73,84,85,124,125,129,130]
def SE:List Nat:=[68,91,92,93,121,126,127,170,171,187,190,191,192,193]
def SL:List Nat:=[136]
def S2:List Nat:=[36,61,70,81,177,178,179,180,181]
abbrev fb1:Fb:={c:=λf=>S1.contains f,v:=λf=>SV.contains f,l:=true,d:=true,m:=2,a:=λf=>if f==47 || f==46 then AA 2 else AB,lr:=λf=>SL.contains f,e:=λf=>SE.contains f,ch:=AA 47,cp:=AA 46}
abbrev fbV:Fb:={fb1 with ch:=AB,cp:=AB,c:=λf=>S1.contains f || f==79,v:=λf=>SV.contains f || f==79,m:=5,a:=λ_=>AB}
abbrev fb2:Fb:={c:=λf=>S2.contains f || SV.contains f,v:=λf=>SV.contains f,l:=true,d:=false,m:=2,a:=λf=>if SV.contains f then AA 1000 else AB,lr:=λf=>SL.contains f,e:=λ_=>false,h:=false}
noncomputable abbrev T1:Twin:={P:=Tryz.prog,F:=Aj.funcs,p:=True}
noncomputable abbrev K1:Kit:={P:=Tryz.prog,fb:=fb1,G:=1,X:=λf=>f==47 || f==46,z:=79,p:=True}
noncomputable abbrev TV:Twin:={P:=Ae,F:=Aj.funcs}
noncomputable abbrev KV:Kit:={P:=Ae,fb:=fbV,G:=1,X:=λ_=>false,z:=79}
noncomputable abbrev K2:Kit:={P:=Tryz.prog,fb:=fb2,G:=1,X:=λf=>SV.contains f,z:=79,p:=True}
theorem m0: ∀i,Tryz.prog.info? 0=AA i->i.methods.find? (·.name== "")=AB:=by
 intro i h;(have:(Tryz.prog.info? 0).map (λi=>(i.methods.find? (·.name== "")).isNone)=AA true:=by kernel_rfl);rw[h] at this;simpa using this
def JS (P:BM) (f:Nat):Bool:=match P.funcs[f]? with|some fn=> !fn.body.isNone && !(fn.name== "runtime.NumGoroutine")|none=>false
theorem Fv(h:JS P f=true): ∃fn,P.funcs[f]? =AA fn/\fn.body.isNone=false/\(fn.name== "runtime.NumGoroutine")=false:=by
 unfold JS at h;split at h
 ·rename_i fn e;simp only[DV,ZQ] at h;exact⟨fn,e,h.1,h.2⟩
 cases h
def YQ (P:BM) (fb:Fb) (G:Nat) (f:Nat):Bool:=match P.funcs[f]? with|some fn=>(match fn.body with|some c=>Ja P fb G true (fb.lr f) c|none=>true)|none=>true
theorem UC{fb:Fb}{G:Nat}(h:YQ P fb G f=true){fn:Func}(e:P.funcs[f]? =AA fn){c:Code}(k:fn.body=AA c):Ja P fb G true (fb.lr f) c=true:=by
 unfold YQ at h;rw[e] at h;simp only[k] at h;exact h
theorem Aj.same(h:f≠47/\f≠46/\f≠79):Ae.funcs[f]? =Tryz.prog.funcs[f]? :=by
 show Aj.funcs[f]? =_;unfold Aj.funcs;rw[Dz h.2.2.symm,Dz h.2.1.symm,Dz h.1.symm]
theorem text1:(S1.all λf=>JS Tryz.prog f)=true:=by kernel_rfl
theorem ok1:(S1.all λf=>f==47 || (f==46 || YQ Tryz.prog fb1 1 f))=true:=by kernel_rfl
end
open Go.RowKit
noncomputable def jW (wg cb xb sb bc:Nat) (src c:AQ):Array AQ:=
 #[.pointer (AA ⟨wg,0,AB⟩),.pointer (AA ⟨cb,0,AB⟩),.pointer (AA ⟨xb,0,AB⟩),.pointer (AA ⟨sb,0,AB⟩),AU,.chan (AA bc),src,c,AU,AU,AU,AU,AU,AU,AU]
structure lg (C:Cx) (R:RF C.SR) (cb sb:Nat):Prop where
 cbS:C.SR cb
 sbS:C.SR sb
 cb: ∀w,R.R w->w.cell? ⟨cb,0,AB⟩=AA (.chan (AA C.bc))
 sb: ∀w,R.R w->w.cell? ⟨sb,0,AB⟩=AA (.chan (AA C.bs))
section
variable {C:Cx} (hP:C.P=Tryz.prog) {k:Nat} {R:RF C.SR} (hR:R.Ok) {Gb:Nat->Prop} {W:WB} (hW:W.Ok) {x:List (Nat×Obj)} (hx: ∀p∈x,isCells p.2) {s2:LS} {wg cb xb sb:Nat} (hS:lg C R cb sb) {src:AQ}
 (hT:W.T1=jW wg cb xb sb C.bc src AU) {Wi:AX} {cs:List AX}
include hP hR hW hx hS
theorem w25{xv:AQ}{bk:Nat}{ob:Obj}(hob:isCells ob)(hcs:C.Cs k xv bk ob)(hbk:bk∉(Lw W x LS.ready s2).map Ac/\¬Gb bk)
  (hgo:PW C (.work false) (k+1) (G (Wi.finish (.bool true)) cs) (ow R Gb (Lw W x LS.ready s2)))
  (hstop:PW C (.work true) k (G (Wi.finish (.bool false)) cs) (ow R Gb (Lw W ((bk,ob)::x) LS.left s2))):
  PW C (.work false) k (G (fr 75 (jW wg cb xb sb C.bc src xv) [.code (rA Tryz.f75),.beginRound,.code (rB Tryz.f75)] [] (AA W.l1)) (Wi::cs)) (ow R Gb (Lw W ((bk,ob)::x) LS.ready s2)):=by
 (have hx': ∀p∈(bk,ob)::x,isCells p.2:=λp hp=>by rcases BF.1 hp with rfl|hp<;>first|exact hob|exact hx p hp);have fc: ∀{s1:LS} {y:List (Nat×Obj)} (w:AL),(ow R Gb (Lw W y s1 s2)).I w->w.cell? ⟨cb,0,AB⟩=AA (.chan (AA C.bc)):=λw hw=>hS.cb w hw.2;have fs: ∀{s1:LS} {y:List (Nat×Obj)} (w:AL),(ow R Gb (Lw W y s1 s2)).I w->w.cell? ⟨sb,0,AB⟩=AA (.chan (AA C.bs)):=λw hw=>hS.sb w hw.2;simp only[jW];have ea:rA Tryz.f75=rA Tryz.f75:=rfl
 conv at ea=>lhs;simp only[rA,EP,Mc,Tryz.f75,Dx,Option.or,Fj]
 have eb:rB Tryz.f75=rB Tryz.f75:=rfl
 conv at eb=>lhs;simp only[rB,EP,Mc,Tryz.f75,Dx,Option.or,Fj]
 rw[<- ea,<- eb];clear ea eb;(iterate 3 refine Fq ?_);refine AEd (fn:=75) (s1:=LS.ready) (s1':=LS.busy) hP hR hW hx' (λw h=>AB3 h rfl) rfl ?_;(iterate 5 refine Fq ?_);refine EC (Ci hP) ?_ (hr:=by intro w hw;have f0:=fc w hw;have f1:=fs w hw;unfold ev;go_simp;exact rfl) (he:=by intro w hw;have f0:=fc w hw;have f1:=fs w hw;unfold ev;simp[go_sem,f0];exact⟨.inr hS.cbS,rfl⟩);(iterate 5 refine Fq ?_);refine EC (Ci hP) ?_ (hr:=by intro w hw;have f0:=fc w hw;have f1:=fs w hw;unfold ev;go_simp;exact rfl) (he:=by intro w hw;have f0:=fc w hw;have f1:=fs w hw;unfold ev;simp[go_sem,f1];exact⟨.inr hS.sbS,rfl⟩);(iterate 3 refine Fq ?_);refine AMf hP (xv:=xv) (z1:=.slice AB 0 0) (z2:=.agg #[]) (bk:=bk) (ob:=ob) (o':=ow R Gb (Lw W x LS.busy s2)) rfl rfl (.inr (λc h=>by cases h)) (λw hw=>?_) (λw hw=>?_) hcs (.inr (OD (ANT (p:=(bk,ob)) (Ee ..)))) (λw hw=>hw.1 (bk,ob) (ANT (Ee ..))) (λy hy=>?_) (λw hw=>⟨λp hp=>hw.1 p ?_,hw.2⟩) ?_ ?_
 ·unfold ev;simp[go_sem,BI,EO,scase,rcase]
 ·unfold ev;simp[go_sem]
 ·rcases hy with hy|hy;exact⟨.inl hy,λe=>hbk.2 (e▸hy)⟩;refine⟨.inr ?_,λe=>hbk.1 (by rw[<- e];exact hy)⟩;simp only[Lw,BN,FK,BF,Bj] at hy⊢;rcases hy with h|h|h|h|h|h<;>simp[h]
 ·simp only[Lw,BF,Bj] at hp⊢;rcases hp with h|h|h|h|h|h<;>simp[h]
 ·simp only[put];walk_nrm;(iterate 5 refine Fq ?_);refine CX (Ci hP) (λw=>s_cond (b:=true) rfl) rfl ?_;simp only[if_true,DC,↓reduceIte];(iterate 3 refine Fq ?_);exact AEd (fn:=75) (s1:=LS.busy) (s1':=LS.ready) hP hR hW hx (λw h=>lZ (.inl ⟨rfl,rfl⟩) h) rfl hgo
 simp only[put];walk_nrm;(iterate 5 refine Fq ?_);refine CX (Ci hP) (λw=>s_cond (b:=false) rfl) rfl ?_;simp only[if_false,DC,↓reduceIte];refine CX (Ci hP) (λw=>s_cond (b:=true) rfl) rfl ?_;simp only[if_true,if_false,↓reduceIte];exact AEd (fn:=75) (s1:=LS.busy) (s1':=LS.left) hP hR hW hx' (λw h=>lZ (.inr ⟨_,rfl,rfl⟩) h) rfl hstop
end
section
variable {T:Array AQ}{mn:Bool}{c:AX}{f:Func}{P:BM}{q:Prop}{v:AQ}{w:AL}
def cu (m:Region.Mode) (ops:Array BX):Nat->Array Bool->List Nat->List (List Nat)
 |0,_,acc=>[acc.reverse]|f+1,listed,acc=>
  let rs:=(Fp ops.size).filter λi=> !listed.getD i true && ((ops[i]?).map (·.after.all λe=> !Yi m e || listed.getD e.on false)).getD false
  if rs.isEmpty then [acc.reverse] else rs.flatMap λi=>cu m ops f (listed.setIfInBounds i true) (i::acc)
theorem go_mem{m:Region.Mode}{ops:Array BX}: ∀(f t:Nat) (listed:Array Bool) (acc:List Nat),Yj m ops f t listed acc∈cu m ops f listed acc:=by
 intro f
 induction f with
 |zero=>intro t listed acc;simp[Yj,cu]
 |succ f ih=>
  intro t listed acc;unfold Yj cu;simp only;generalize (Fp ops.size).filter (λi=> !listed.getD i true && ((ops[i]?).map (·.after.all λe=> !Yi m e || listed.getD e.on false)).getD false)=rs
  cases rs with
  |nil=>simp|cons r rs=>
   simp only[List.isEmpty_cons,DC,if_false];have hlt:t % (r::rs).length<(r::rs).length:=ah _ AV;rw[Bo hlt];exact GG.2 ⟨_,List.getElem_mem hlt,ih _ _ _⟩
theorem AHa{C:Cx}{ws:WS}{kk:Nat}{fn:Bl}{x:Item}{k:List Item}{D:List EL}{ro:Option Nat}{cs:List AX}{o:Own C.SR}(h: ∀k',Go.RowKit.Hid (k'=k)->PW C ws kk (G (fr fn T (x::k') D ro) cs) o):PW C ws kk (G (fr fn T (x::k) D ro) cs) o:=h k rfl
theorem AMh(H:Nat->Nat->Nat->Prop){p:Nat->Nat->Nat->Prop}(k:(∀a b c,H a b c->p a b c)->q)(h: ∀a b c,H a b c->p a b c):q:=k h
theorem AMi{p:Prop}(k:p->q)(h:p):q:=k h
section
variable {P:BM} {fn:Bl} {T:Array AQ} {k:List Item} {D:List EL} {ro:Option Nat} {cs:List AX} {ops:Array BX}
theorem AMj{id:Nat}:Af P mn (G (fr fn T (.code (.region id ops true)::k) D ro) cs) w=
  .go (G (fr fn T (.inRegion ops (Region.schedule (P.follows .mixedOrders) ops ((Question.order fn id).cut (w.tape w.drawn (.order fn id))))::k) D ro) cs) {w with drawn:=w.drawn+1}:=rfl
theorem Md{t:Tmp}(h:f.results= #[.tmp t])(w:AL):(results f T).runT P w #[]=(.ok (T.getD t AU) w,#[]):=by
 rw[Ik];simp[results,h]
theorem YR(h:f.results= #[])(w:AL):(results f T).runT P w #[]=(.ok (.tuple #[]) w,#[]):=by
 rw[Ik];simp[results,h]
theorem ou(hf:P.funcs[fn]? =AA f)(hr:(results f T).runT P w #[]=(.ok v w,#[])):
  Af P mn (G {fr fn T k [] AB with mode:=.returning} (c::cs)) w=.go (G (c.finish v) cs) w #[]:=by
 show unwind P mn {fr fn T k [] AB with mode:=.returning} (c::cs) AB w=_;unfold unwind;simp only[fr,hf,hr,Gz,DZ,G];rfl
end
def Vh (n:Nat) (e:Am) (cap:Nat):Prop:=cap<=ER/\∃x,cap=(Question.appendCap n 0 e).cut x
section
variable {P:BM} {mn:Bool} {SR:Nat->Prop} {J:Ad->Own SR->Prop} (hJ:uX P mn J) {R:RF SR} {Gb:Nat->Prop} {L:List (Nat×Obj)}
 {fn:Bl} {T:Array AQ} {k:List Item} {D:List EL} {ro:Option Nat} {cs:List AX} {ops:Array BX} {i:Nat} {rest:List Nat} {op:BX} {o:Own SR}
include hJ
theorem oz{O3:Nat}(orders:List (List Nat))(h1:Region.departs ops=false\/P.follows .mixedOrders=true)(h2:cu .any ops ops.size (IM ops.size false) []=orders)(next: ∀l∈orders,J (G (fr fn T (.inRegion ops l::k) D ro) cs) o):
  J (G (fr fn T (.code (.region O3 ops true)::k) D ro) cs) o:=by
 refine hJ.QS (λw=>G (fr fn T (.inRegion ops (Region.schedule (P.follows .mixedOrders) ops ((Question.order fn O3).cut (w.tape w.drawn (.order fn O3))))::k) D ro) cs) (λ_=>o) rfl (λw hw=>⟨_,_,AMj,⟨?_,Bd _,λb=>⟨.inl,λx=>x.elim id λy=>?_⟩,λ_ _ _=>rfl,⟨rfl,rfl,rfl⟩,AV⟩⟩) λw _=>next _ ?_;exact o.st w _ hw (λ_ _=>rfl) (Bd _) rfl rfl
 ·have:w.heap.size<=b/\b<w.heap.size:=y;omega
 rw[<- h2];unfold Region.schedule;(have h3:(P.follows .mixedOrders || !Region.departs ops)=true:=by rcases h1 with h|h<;>rw[h]<;>simp);rw[BU h3];exact go_mem _ _ _ _
theorem JU(hf:P.funcs[fn]? =AA f)(hr: ∀w,(results f T).runT P w #[]=(.ok v w,#[]))(next:J (G (c.finish v) cs) o):J (G {fr fn T k [] AB with mode:=.returning} (c::cs)) o:=
 CX hJ (λw=>ou hf (hr w)) rfl next
theorem Oa(v:Nat->AQ)(ob:Obj)(ho:ops[i]? =AA op)(hw:DX op (yielded ops T)=true)(hd:ro=AB\/∀c,op.op≠ .defer c)(hr: ∀w,(ow R Gb L).I w->(BI (ev T) op).run P w=.ok (.value (v w.heap.size)) (w.alloc ob))(he: ∀w,(ow R Gb L).I w->(BI (ev T) op).events P w #[]= #[])
  (next: ∀n,(∃w,(ow R Gb L).I w/\w.heap.size=n)->J (G (fr fn (put T op.dst (v n)) (.inRegion ops rest::k) D ro) cs) (ow R Gb ((n,ob)::L))):
  J (G (fr fn T (.inRegion ops (i::rest)::k) D ro) cs) (ow R Gb L):=by
 refine AB4 hJ (λ_=>[ob]) (λ_ _=>rfl) (λn=>G (fr fn (put T op.dst (v n)) (.inRegion ops rest::k) D ro) cs) (λw hw'=>?_) rfl λn hn=>?_
 ·rw[Xb ho hw hd (hr w hw'),he w hw']
  have:w.alloc ob={w with heap:=w.heap++[ob].toArray}:=by
   show ({w with heap:=w.heap.push ob}:AL)=_;congr 1
  rw[this];rfl
 simpa using next n hn
theorem AGI{t e:Am}{ie:TypeInfo}{z:AQ}(si xi:DU)(hop:op.op=.call {callee:=.builtin .append,args:=#[si,xi],argTypes:=#[t,t]})(ht:P.underlying t=AA (.slice e))(hi:P.info? e=AA ie)(hz:ie.zero=AA z)(hsz:ie.size=1)(hby:ie.bytes=1)(hzc:z.cells= #[.int .u8 0])
  {b0:Nat} (hs:ev T si=.slice (AA ⟨b0,0,AB⟩) 0 0) (hb0:(b0,.cells #[] e)∈L) {a:Ag} {n c:Nat} (hx:ev T xi=.slice (AA a) n c) {news:List AQ} (hl:news.length=n) (hn:0<n) (hle:n<=1073741824) (AQV: ∀u∈news,u.oneCell'=true)
  (hnews: ∀w,R.R w->∀j v,news[j]? =AA v->w.cell? (a.add j)=AA v) (zq:SR a.block)
  (ho:ops[i]? =AA op) (hw:DX op (yielded ops T)=true) (hd:ro=AB)
  (next: ∀m cap,n<=cap->Vh n e cap->(∃w,(ow R Gb L).I w/\w.heap.size=m)->J (G (fr fn (put T op.dst (.slice (AA ⟨m,0,AB⟩) n cap)) (.inRegion ops rest::k) D ro) cs) (ow R Gb ((m,.cells (news.toArray++IM (cap - n) (.int .u8 0)) e)::L))):
  J (G (fr fn T (.inRegion ops (i::rest)::k) D ro) cs) (ow R Gb L):=by
 subst hd
 have hrun: ∀w,(ow R Gb L).I w->(BI (ev T) op).run P w=.ok (.value (.slice (AA ⟨w.heap.size,0,AB⟩) n (grownCap w n 0 e))) {w with heap:=w.heap.push (.cells (news.toArray++IM (grownCap w n 0 e - n) (.int .u8 0)) e),drawn:=w.drawn+1}:=by
  intro w hw'
  have h1:=run_append_grow (P:=P) w t op.type e ie z ht hi hz ⟨b0,0,AB⟩ 0 0 [] AV AV a n c news (by rw[hl,hsz,OI]) (hnews w hw'.2) Aa (by simp;omega) (by
   rw[hby];have:tY (0+n) 0=n:=by unfold tY;simp;omega
   omega)
  unfold BI;simp only[hop,resolve,invoke,builtin,Eu,Yr,Oy,J9,BN,EG,hs,hx,h1]
  have hzz: ∀m,Nw z.cells m=IM m (.int .u8 0):=by
   intro m;unfold Nw;rw[hzc];apply ak;simp;intro j h1 h2;simp[yQ]
  rw[hzz];simp only[Array.empty_append,Ky];rfl
 have hcap: ∀w:AL,n<=grownCap w n 0 e/\grownCap w n 0 e<=ER:=λw=>⟨grownCap_ge w n 0 e,grownCap_le_maxLen w n 0 e (by simp only[ER];omega)⟩;refine hJ.QS (λw=>G (fr fn (put T op.dst (.slice (AA ⟨w.heap.size,0,AB⟩) n (grownCap w n 0 e))) (.inRegion ops rest::k) D AB) cs) (λw=>ow R Gb ((w.heap.size,.cells (news.toArray++IM (grownCap w n 0 e - n) (.int .u8 0)) e)::L)) rfl (λw hw'=>⟨_,_,Xb ho hw (.inl rfl) (hrun w hw'),?_⟩) λw hw'=>next _ _ (hcap w).1 ⟨(hcap w).2,_,rfl⟩ ⟨w,hw',rfl⟩;(have hold: ∀b,b<w.heap.size->(w.heap.push (.cells (news.toArray++IM (grownCap w n 0 e - n) (.int .u8 0)) e))[b]? =w.heap[b]? :=λb hb=>by rw[SA hb,FZ hb]);refine⟨⟨λp hp=>?_,?_⟩,AV,λb=>?_,λb hb _=>hold b hb,⟨rfl,rfl,rfl⟩,λx hx'=>?_⟩
 ·rcases BF.1 hp with rfl|hp;simp;show (w.heap.push _)[p.1]? =_;have h1:=hw'.1 p hp;rw[hold _ (Dj.1 h1).1];exact h1
 ·exact R.st w _ hw'.2 (λb hb=>hold b (R.lt w hw'.2 b hb)) AV
 ·simp only[ow,BN,BF,ADu];constructor
  ·rintro (x|x|x);exact .inl (.inl x);exact .inr Aa;exact .inl (.inr x)
  rintro ((x|x)|x);exact .inl x;exact .inr (.inr x);exact .inr (.inl Aa)
 have hx':=Dy hx';rw[show (BI (ev T) op).events P w #[]=(Builtin.append_ #[t,t] op.type #[.slice (AA ⟨b0,0,AB⟩) 0 0,.slice (AA a) n c]).events P w #[] from events_append_op (a:=⟨T,[]⟩) si xi t hop hs hx #[]] at hx';have hown:w.ownsRow 0 e 1 (.slice (AA ⟨b0,0,AB⟩) 0 0) 0 []:=⟨AV,.inr ⟨b0,0,#[],rfl,DW _,hw'.1 _ hb0,Bd _,DW _,AV,AV⟩⟩;rcases events_append_where (P:=P) w 0 t op.type e ie z 1 1 ht hi hz hsz hby _ 0 [] hown a n c news (by rw[hl,OI]) (hnews w hw'.2) AQV (by simp only[ER];omega) Aa x hx' with ⟨ad,h1,h2⟩|⟨m,rfl,h2⟩
 ·rw[h1];rcases h2 with ⟨h2,h3⟩|h2;exact .inr ⟨by rw[h3];exact zq,h2⟩;refine .inl (.inr ?_);simp only[Value.ownBlock,DR] at h2;rw[h2];simp only[BN,BF];exact .inr (OD hb0)
 unfold Neutral at h2;subst h2;trivial
end
end
section
variable {V:BM} {Kp:AX->List AX->AL->Prop}
def Vr (V:BM) (Kp:AX->List AX->AL->Prop) (Good:VS->Prop) (s:VS):Prop:=∃s',Good s'/\(s'=s\/Jv V Kp s' s)
def o5 (V:BM) (Kp:AX->List AX->AL->Prop) (Good:VS->Prop) (s:VS):Prop:=∃s',Good s'/\Jv V Kp s' s
variable {Good:VS->Prop} {f f1:AX} {ts Dl:List AX} {v v1:AL} {es:Array Be}
theorem Vr.fin{s:VS}(h:Good s):Vr V Kp Good s:=⟨s,h,.inl rfl⟩
theorem o5.vr{s:VS}(h:o5 V Kp Good s):Vr V Kp Good s:=h.imp λ_ x=>⟨x.1,.inr x.2⟩
theorem wI(hk: ¬Kp f ts v)(t:Nat->F7->Nat)(ht: ∀j,j<v.drawn->t j=v.tape j)(h:Af V true (G f (ts++[door V])) (v.DN t)=.go (G f1 (Dl++[door V])) v1 es)(next:Vr V Kp Good ⟨f1,Dl,v1⟩):o5 V Kp Good ⟨f,ts,v⟩:=by
 have hn:Nx V Kp ⟨f1,Dl,v1⟩ ⟨f,ts,v⟩:=⟨hk,t,ht,es,h⟩;obtain⟨s',hg,e|hp⟩:=next;subst e;exact⟨_,hg,.one hn⟩;exact⟨s',hg,.cons hn hp⟩
theorem NS(hk: ¬Kp f ts v)(h:Af V true (G f (ts++[door V])) v=.go (G f1 (Dl++[door V])) v1 es)(next:Vr V Kp Good ⟨f1,Dl,v1⟩):o5 V Kp Good ⟨f,ts,v⟩:=wI hk v.tape (λ_ _=>rfl) h next
end
section
variable {V:BM} {Kp:AX->List AX->AL->Prop} (CE: ∀f ts v,Kp f ts v->ts=[]) {Good:VS->Prop} {fn:Bl} {T:Array AQ} {k:List Item} {D:List EL} {cs:List AX} {c0:AX} {v v1:AL}
 {ops:Array BX} {i:Nat} {rest:List Nat} {op:BX}
include CE
theorem Ib{f1:AX}{f:AX}(h: ∀w,Af V true (G f (c0::cs++[door V])) w=.go (G f1 (c0::cs++[door V])) w #[])(next:Vr V Kp Good ⟨f1,c0::cs,v⟩):Vr V Kp Good ⟨f,c0::cs,v⟩:=
 (NS (λx=>by cases CE _ _ _ x) (h v) next).vr
theorem AGJ(x:AQ)(ho:ops[i]? =AA op)(hw:DX op (yielded ops T)=true)(hr: ∀w,(BI (ev T) op).run V w=.ok (.value x) w)
  (next:Vr V Kp Good ⟨fr fn (put T op.dst x) (.inRegion ops rest::k) D AB,c0::cs,v⟩):Vr V Kp Good ⟨fr fn T (.inRegion ops (i::rest)::k) D AB,c0::cs,v⟩:=
 (NS (λx=>by cases CE _ _ _ x) (Xb ho hw (.inl rfl) (hr v)) next).vr
theorem vrv{x:Value}{T':Array Value}(next:Vr V Kp Good ⟨fr fn T' (.inRegion ops rest::k) D none,c0::cs,v⟩)(ho:ops[i]? =some op:=by exact rfl)(hw:Region.wanted op (yielded ops T)=true:=by rfl)
  (hr: ∀w,(execOp (ev T) op).run V w=.ok (.value x) w:=by intro w;unfold ev;go_simp;try exact rfl) (hT:Nf (put T op.dst x) T':=by simp only[put];walk_nrm;exact rfl):Vr V Kp Good ⟨fr fn T (.inRegion ops (i::rest)::k) D none,c0::cs,v⟩:=
 AGJ CE x ho hw hr (by have e:put T op.dst x=T':=hT;rw[e];exact next)
theorem AJJ{f:Bl}{args:Array AQ}(ho:ops[i]? =AA op)(hw:DX op (yielded ops T)=true)(hr: ∀w,(BI (ev T) op).run V w=.ok (.enter f args) w)
  (next:Vr V Kp Good ⟨Bc V f args .normal,fr fn T (.inRegion ops (i::rest)::k) D AB::c0::cs,v⟩):Vr V Kp Good ⟨fr fn T (.inRegion ops (i::rest)::k) D AB,c0::cs,v⟩:=
 (NS (λx=>by cases CE _ _ _ x) (Dl:=fr fn T (.inRegion ops (i::rest)::k) D AB::c0::cs) (s_call ho hw (.inl rfl) (hr v)) next).vr
theorem wJ{f:Func}{x:AQ}(hf:V.funcs[fn]? =AA f)(hr: ∀w,(results f T).runT V w #[]=(.ok x w,#[]))(next:Vr V Kp Good ⟨c0.finish x,cs,v⟩):Vr V Kp Good ⟨{fr fn T k [] AB with mode:=.returning},c0::cs,v⟩:=
 (NS (λx=>by cases CE _ _ _ x) (ou hf (hr v)) next).vr
end
theorem QX{p q:Prop}(n:p)(h:p->q:=by intro n;first|with_reducible exact Ib CE (λw=>KD) n|with_reducible exact Ib CE (λw=>s_reg) n|with_reducible exact Ib CE (λw=>GL) n|with_reducible exact Ib CE (λw=>QT) n|with_reducible exact Ib CE (λw=>LK) n|with_reducible exact Ib CE (λw=>N8) n|with_reducible exact Ib CE (λw=>RQ) n|((with_reducible refine Ib CE (λw=>QU ?_) n)<;>rfl)|((with_reducible refine Ib CE (λw=>QW ?_) n)<;>rfl)|exact vrv CE n|exact Ib CE (λw=>KD) n|exact Ib CE (λw=>s_reg) n|exact Ib CE (λw=>GL) n|exact Ib CE (λw=>QT) n|exact Ib CE (λw=>LK) n|exact Ib CE (λw=>N8) n|exact Ib CE (λw=>RQ) n|exact Ib CE (λw=>QU rfl) n|exact Ib CE (λw=>QW rfl) n):q:=h n
section
variable {a:Ag}{fl:Array Bool}{xs:Array DU}{ats:Array Am}{T p:Array AQ}{fn:Func}{f:Bl}{l:List UInt8}{c n:Nat}{SR:Nat->Prop}{op:BX}{P:BM}{ty:Am}{v:AQ}{w:AL}
theorem IQ{c:Code}(hf:P.funcs[f]? =AA fn)(hb:fn.body=AA c):Bc P f p .normal=fr f (p++IM (fn.ntmps - p.size) AU) [.code c] [] AB:=by
 unfold Bc;simp[hf,hb,fr]
theorem AEl{c:Code}(hf:P.funcs[f]? =AA fn)(hb:fn.body=AA c):Bc P f p .deferred=fr f (p++IM (fn.ntmps - p.size) AU) [.code c] [] AB true:=by
 unfold Bc;simp[hf,hb,fr]
def Jw (l:List UInt8):List AQ:=l.map λb=>.int .u8 b.toNat
theorem AB8: ∀u∈Jw l,u.oneCell'=true:=by
 intro u hu;obtain⟨b,_,rfl⟩:=CG.1 hu;rfl
theorem Xf{R:RF SR}{Gb:Nat->Prop}{L L':List (Nat×Obj)}(h: ∀p,p∈L↔p∈L'):ow R Gb L=ow R Gb L':=by
 have h1: ∀b,b∈L.map Ac↔b∈L'.map Ac:=λb=>by
  simp only[CG,h]
 have e1:(ow R Gb L).O=(ow R Gb L').O:=funext λb=>propext (or_congr_right (h1 b));have e2:(ow R Gb L).I=(ow R Gb L').I:=funext λw=>propext (and_congr_left' (forall_congr' λp=>by rw[h]));generalize ow R Gb L=o at e1 e2;generalize ow R Gb L'=o' at e1 e2;obtain⟨O,I,st⟩:=o;obtain⟨O',I',st'⟩:=o';simp only at e1 e2;subst e1 e2;rfl
theorem o7{W:WB}{x:List (Nat×Obj)}{s1 s2:LS}{q r:Nat×Obj}: ∀p,p∈q::r::Lw W x s1 s2↔p∈Lw W (q::r::x) s1 s2:=by
 intro p;simp only[Lw,BF,Bj];constructor
 ·rintro (h|h|h|h|h|h|h|h)<;>simp[h]
 rintro (h|h|h|h|h|h|h|h)<;>simp[h]
theorem dB{l:Nat}{r:Loop}{t:Tmp}(hl:w.heap[l]? =AA (.loop r))(hp:r.params= #[t]):
  (aW l #[v]).run P w=.ok (.round l r.fn (r.tmps.setIfInBounds t v) r.assign r.body) w/\(aW l #[v]).events P w #[]= #[⟨.obj l,false,false⟩]:=by
 have e:(aW l #[v]).runT P w #[]=(.ok (.round l r.fn (r.tmps.setIfInBounds t v) r.assign r.body) w,#[⟨.obj l,false,false⟩]):=by
  unfold aW;rw[Ve hl,hp];have e1:(#[v]:Array AQ).size=(#[t]:Array Tmp).size:=rfl;simp only[e1,ne_eq,not_true_eq_false,if_false];(have e2:(#[t]:Array Tmp).zip #[v]= #[(t,v)]:=by simp);rw[e2];simp[pure]
 rw[Ik] at e;exact⟨(Prod.mk.inj e).1,(Prod.mk.inj e).2⟩
theorem UD{f x:DU}{l:Nat}(hop:op.op=.call {callee:=.value f,args:=#[x],argTypes:=ats})(hf:ev T f=.func (.yield l) #[] #[])(hx:ev T x=v):BI (ev T) op=aW l #[v]:=by
 unfold BI;simp only[hop,resolve,hf,J9,BN,EG,hx];rfl
theorem Gu{o:Own SR}{es:Array Be}(h:es= #[]): ∀e∈es,bz o e:=by
 subst h;intro e he;simp at he
theorem U8{b:Builtin}(hop:op.op=.call {callee:=.builtin b,args:=xs,argTypes:=ats}):BI (ev T) op=builtin b ats op.type (xs.map fun| .const _=>true|_=>false) (xs.map (ev T)):=by
 unfold BI;simp only[hop,resolve,invoke];rfl
theorem GH{a:Option Ag}:
  (builtin .len #[62] ty fl #[.slice a n c]).run Tryz.prog w=.ok (.value (.int .i64 (n:Int))) w/\(builtin .len #[62] ty fl #[.slice a n c]).events Tryz.prog w #[]= #[]:=⟨rfl,rfl⟩
theorem IU{p q:Prop}(h:q)(k:q->p:=by intro h;rw[U8 (op:=_) rfl];simp only[J9,BN,EG];exact h):p:=k h
theorem Hr{a b:Nat}:
  (builtin .min #[3,3] ty fl #[.int .i64 (a:Int),.int .i64 (b:Int)]).run Tryz.prog w=.ok (.value (.int .i64 ((min a b:Nat):Int))) w/\(builtin .min #[3,3] ty fl #[.int .i64 (a:Int),.int .i64 (b:Int)]).events Tryz.prog w #[]= #[]:=by
 constructor
 ·(have h:(if (b:Int)<(a:Int) then (b:Int) else (a:Int))=((min a b:Nat):Int):=by split<;>omega);(have h2:(builtin .min #[3,3] ty fl #[.int .i64 (a:Int),.int .i64 (b:Int)]).run Tryz.prog w=.ok (.value (.int .i64 (if (b:Int)<(a:Int) then (b:Int) else (a:Int)))) w:=by rfl);rw[h2,h]
 rfl
theorem GR{vs:Array AQ}(hop:op.op=.call {callee:=.value (.func f),args:=xs,argTypes:=ats})(hx:xs.map (ev T)=vs):BI (ev T) op=E8 f vs:=by
 unfold BI;simp only[hop,resolve,hx];show E8 f (#[]++vs++ #[])=_;simp
theorem wK:rP Tryz.f75= #[7]:=rfl
theorem jX:rP Tryz.f79= #[8]:=rfl
theorem YS:(E8 78 p).events Tryz.prog w #[]= #[]:=by rfl
theorem gV:(binOp .eql 62 (.slice (AA a) n c) (.slice AB 0 0)).events Tryz.prog w #[]= #[]:=by rfl
section
variable {C:Cx} (hP:C.P=Tryz.prog) {k:Nat} {s:Bool} {R:RF C.SR} {Gb:Nat->Prop} {L:List (Nat×Obj)} {cs:List AX}
include hP
theorem w21(hl:l.length=n)(hn:0<n)(hle:n<=1073741824)(hnews: ∀w,R.R w->∀j v,(Jw l)[j]? =AA v->w.cell? (a.add j)=AA v)(zq:C.SR a.block){Wi:AX}
  (next: ∀m0 m cap,n<=cap->Vh n 5 cap->(∃w,(ow R Gb L).I w/\w.heap.size=m0)->m0<m->PW C (.work s) k (G (Wi.finish (.slice (AA ⟨m,0,AB⟩) n cap)) cs) (ow R Gb ((m,.cells ((Jw l).toArray++IM (cap - n) (.int .u8 0)) 5)::(m0,.cells #[] 5)::L))):
  PW C (.work s) k (G (Bc Tryz.prog 78 #[.slice (AA a) n c] .normal) (Wi::cs)) (ow R Gb L):=by
 rw[IQ Tryz.func78 rfl];simp only[Tryz.f78,Iq,EY,Hg,Jp,MH,KL,MI,KN,KO,EE,Dn];(iterate 8 refine Fq ?_);refine EC (Ci hP) ?_ (he:=by intro w hw;unfold ev;simp[go_sem,gV]);refine Fq ?_;refine CX (Ci hP) (λw=>s_cond (b:=false) rfl) rfl ?_;simp only[if_true,DC,↓reduceIte];(iterate 3 refine Fq ?_);refine Oa (Ci hP) (λm=>.slice (AA ⟨m,0,AB⟩) 0 0) (.cells #[] 5) rfl rfl (.inl rfl) (λw hw=>?_) (λw hw=>?_) λm0 hm0=>?_
 ·unfold ev;simp[go_sem,BI,aQ,newRow,MO]
 ·unfold ev;simp[go_sem,BI,aQ,newRow,MO]
 simp only[put];walk_nrm;refine Fq ?_;refine AGI (Ci hP) (.tmp 5) (.tmp 6) rfl (t:=62) (e:=5) (z:=.int .u8 0) Tryz.underlying62 rfl rfl rfl rfl rfl (b0:=m0) rfl (Ee ..) (a:=a) (n:=n) (c:=c) rfl (news:=Jw l) (by simp[Jw,hl]) hn hle AB8 hnews zq rfl rfl rfl λm cap h1 h2 h3=>?_;simp only[put];walk_nrm;(iterate 2 refine Fq ?_);refine CX (Ci hP) (λw=>OZ) rfl ?_;refine JU (Ci hP) Tryz.func78 (λw=>Md rfl w) ?_;refine next m0 m cap h1 h2 hm0 ?_;obtain⟨w,hw,e⟩:=h3;have:=(Dj.1 (hw.1 (m0,.cells #[] 5) (Ee ..))).1;omega
end
end
section
variable {T:Array AQ}{d i:Nat}
def TY (src to Nq:AQ) (s:ByteArray) (cnt e n:Int) (lo:Nat) (r9 r10 r11 r12 r13 Jy IE r16 IG Ob:AQ):Array AQ:=
 #[src,to,Nq,.string s,.int .i64 cnt,.int .i64 e,.int .i64 n,.int .i64 (s.size:Int),.int .i64 (lo:Int),r9,r10,r11,r12,r13,Jy,IE,r16,IG,Ob]
theorem AJK{s:ByteArray}{g:Nat}{w:AL}(b1:i<=g)(b2:g<=s.size):(LY 9 (.string s) (AA (.int .i64 (i:Int))) (AA (.int .i64 (g:Int))) AB).run Ae w=.ok (.string (s.extract i g)) w:=by
 simp[LY,WC,Qx,Pm,asIntOf,b1,b2]
def RU (s:ByteArray):List AQ:=s.data.toList.map λb=>.int .u8 b.toNat
section
variable {Kp:AX->List AX->AL->Prop} (CE: ∀f ts v,Kp f ts v->ts=[]) {Good:VS->Prop} {cs:List AX} {c0:AX} {v:AL}
 {src to Nq:AQ} {s:ByteArray} {cnt e n:Int} {lo:Nat} {r9 r10 r11 r12 r13 Jy IE r16 IG Ob:AQ} {kt:List Item}
include CE
theorem AMk{fn:Bl}{k:List Item}{ops:Array BX}{rest:List Nat}{op:BX}(xi:DU)(hop:op.op=.call {callee:=.builtin .append,args:=#[.const (.slice AB 0 0),xi],argTypes:=#[62,9]})
  {p:ByteArray} (hx:ev T xi=.string p) (h0:0<p.size) (h1:p.size<=1073741824) {cap:Nat} (hcap:Vh p.size 5 cap) (ho:ops[i]? =AA op) (hw:DX op (yielded ops T)=true)
  (next: ∀t,Vr Ae Kp Good ⟨fr fn (put T op.dst (.slice (AA ⟨v.heap.size,0,AB⟩) p.size cap)) (.inRegion ops rest::k) [] AB,c0::cs,{v with heap:=v.heap.push (.cells ((RU p).toArray++IM (cap - p.size) (.int .u8 0)) 5),drawn:=v.drawn+1,tape:=t}⟩):
  Vr Ae Kp Good ⟨fr fn T (.inRegion ops (i::rest)::k) [] AB,c0::cs,v⟩:=by
 obtain⟨_,x,hx'⟩:=hcap;let t:Nat->F7->Nat:=λj q=>if j=v.drawn then x else v.tape j q
 have hg:grownCap (v.DN t) p.size 0 5=cap:=by
  show (Question.appendCap p.size 0 5).cut (t v.drawn _)=cap;simp only[t,if_true];exact hx'.symm
 have hi: ∃ie,Ae.info? 5=AA ie/\ie.zero=AA (.int .u8 0)/\ie.bytes=1:=by
  have h:(Ae.info? 5).map (λi=>(i.zero,i.bytes))=AA (AA (.int .u8 0),1):=by kernel_rfl
  cases hq:Ae.info? 5 with
  |none=>rw[hq] at h;cases h|some ie=>
   rw[hq] at h;simp only[Fj,DR,O5] at h;exact⟨ie,rfl,h.1,h.2⟩
 obtain⟨ie,hi1,hi2,hi3⟩:=hi;have hr:=run_append_nil_string (P:=Ae) (w:=v.DN t) 62 9 op.type 5 ie (.int .u8 0) ((Aj.und _).trans Tryz.underlying62) ((Aj.und _).trans Tryz.underlying9) hi1 hi2 p h0 Aa (by rw[hi3];omega);rw[hg] at hr
 have hzz: ∀m,Nw (Jq .u8 0).cells m=IM m (.int .u8 0):=by
  intro m;unfold Nw;apply ak;simp[Nv];intro j h1 h2;simp[Nv,yQ]
 rw[hzz] at hr
 have hd:p.data.map (λb=>Jq .u8 b.toNat)=(RU p).toArray:=by
  unfold RU;rw[<- ZO,Array.toArray_toList]
 rw[hd] at hr
 have hrun:(BI (ev T) op).run Ae (v.DN t)=.ok (.value (.slice (AA ⟨v.heap.size,0,AB⟩) p.size cap)) {v with heap:=v.heap.push (.cells ((RU p).toArray++IM (cap - p.size) (.int .u8 0)) 5),drawn:=v.drawn+1,tape:=t}:=by
  rw[U8 hop];simp only[J9,BN,EG];rw[show ev T (.const (.slice AB 0 0))=.slice AB 0 0 from rfl,hx];simp only[builtin,Eu,hr,Oy,Yr];rfl
 refine (wI (λx=>by cases CE _ _ _ x) t (λj hj=>?_) (Xb ho hw (.inl rfl) hrun) (next t)).vr;(have: ¬j=v.drawn:=by omega);funext q;simp only[t,this,if_false]
theorem ASn(hlt:lo<s.size)(hs:s.size<=1073741824)(hn:1<=n)(hd:(d:Int)=min n ((s.size:Int) - lo)){cap:Nat}(hcap:Vh d 5 cap)
  (next: ∀t,Vr Ae Kp Good ⟨fr 46 (TY src to Nq s cnt e n lo (.bool true) (.int .i64 ((s.size:Int) - lo)) (.int .i64 d) (.int .i64 ((lo:Int)+(d:Int))) (.string (s.extract lo (lo+d))) (.slice (AA ⟨v.heap.size,0,AB⟩) d cap) IE r16 IG Ob) (.inRegion SS [0]:: .code U7::kt) [] AB,c0::cs,
   {v with heap:=v.heap.push (.cells ((RU (s.extract lo (lo+d))).toArray++IM (cap - d) (.int .u8 0)) 5),drawn:=v.drawn+1,tape:=t}⟩):
  Vr Ae Kp Good ⟨fr 46 (TY src to Nq s cnt e n lo r9 r10 r11 r12 r13 Jy IE r16 IG Ob) (.code Aj.loop::kt) [] AB,c0::cs,v⟩:=by
 have Next:=AO next;clear next;unfold TY at Next⊢;(have hw1:IntKind.i64.wrap ((s.size:Int) - (lo:Int))=(s.size:Int) - lo:=by rw[NY];omega);(have hd1:1<=d:=by omega);(have hd2:lo+d<=s.size:=by omega);(have hw2:IntKind.i64.wrap ((lo:Int)+(d:Int))=(lo:Int)+(d:Int):=by rw[NY];omega);have hps:(s.extract lo (lo+d)).size=d:=by rw[ByteArray.size_extract];omega
 have hsl: ∀w,(LY 9 (.string s) (AA (.int .i64 (lo:Int))) (AA (.int .i64 ((lo:Int)+(d:Int)))) AB).run Ae w=.ok (.string (s.extract lo (lo+d))) w:=λw=>by
  have:=AJK (s:=s) (i:=lo) (g:=lo+d) (w:=w) Aa hd2;rwa[show ((lo+d:Nat):Int)=(lo:Int)+(d:Int) by omega] at this
 (have hif:(if (s.size:Int) - (lo:Int)<n then (s.size:Int) - (lo:Int) else n)=(d:Int):=by split<;>omega);clear hd hn;(iterate 5 refine QX ?_);refine Ib CE (λw=>s_cond (b:=true) rfl) ?_;simp only[if_false,DC,↓reduceIte];(iterate 7 refine QX ?_);rw[<- hps] at hcap;refine AMk CE (op:=_) (.tmp 13) rfl (p:=s.extract lo (lo+d)) rfl Aa Aa hcap rfl rfl λt=>?_;simp only[put];walk_nrm;rw[hps];(iterate 3 refine QX ?_);rw[hif];exact Next.out t
omit CE in
theorem o8{P:BM}{f:Func}{a b:Tmp}(h:f.results= #[.tmp a,.tmp b])(w:AL):(results f T).runT P w #[]=(.ok (.tuple #[T.getD a AU,T.getD b AU]) w,#[]):=by
 rw[Ik];simp[results,h]
theorem AGK(next:Vr Ae Kp Good ⟨c0.finish (.tuple #[T.getD 4 AU,T.getD 5 AU]),cs,v⟩):Vr Ae Kp Good ⟨fr 46 T [.code .ret] [] AB,c0::cs,v⟩:=by
 refine Ib CE (λw=>OZ) ?_;exact (NS (λx=>by cases CE _ _ _ x) (ou (mn:=true) wH (o8 rfl v)) next).vr
theorem ASo(hlt:s.size<=lo)(next:Vr Ae Kp Good ⟨c0.finish (.tuple #[.int .i64 cnt,.int .i64 e]),cs,v⟩):
  Vr Ae Kp Good ⟨fr 46 (TY src to Nq s cnt e n lo r9 r10 r11 r12 r13 Jy IE r16 IG Ob) [.code Aj.loop,.inLoop Aj.loop,.inBlock 0,.code .ret] [] AB,c0::cs,v⟩:=by
 have Next:=AO next;clear next;unfold TY;(have hd0:decide (lo<s.size)=false:=by simp;omega);(have hlt': ¬lo<s.size:=by omega);(iterate 5 refine QX ?_);refine Ib CE (λw=>s_cond (b:=false) rfl) ?_;simp only[if_true,DC,↓reduceIte];refine Ib CE (λw=>s_exit rfl) ?_;exact AGK CE Next.out
theorem AMl(he:e≠0){e0:Int}(next:Vr Ae Kp Good ⟨c0.finish (.tuple #[.int .i64 cnt,.int .i64 e]),cs,v⟩):
  Vr Ae Kp Good ⟨(fr 46 (TY src to Nq s cnt e0 n lo r9 r10 r11 r12 r13 Jy IE r16 IG Ob) [.inRegion SS [0],.code U7,.inLoop Aj.loop,.inBlock 0,.code .ret] [] AB).finish (.int .i64 e),c0::cs,v⟩:=by
 have Next:=AO next;clear next;unfold TY;rw[EH (o:=_) rfl];simp only[put];walk_nrm;(have hne:(e !=0)=true:=by simpa using he);(iterate 8 refine QX ?_);refine Ib CE (λw=>s_cond (b:=true) rfl) ?_;simp only[if_true,if_false,↓reduceIte];refine Ib CE (λw=>s_exit rfl) ?_;exact AGK CE Next.out
theorem AQW{e0 c2:Int}(hc2:IntKind.i64.wrap (cnt+1)=c2)(next:Vr Ae Kp Good ⟨fr 46 (TY src to Nq s c2 0 n (lo+d) r9 r10 r11 (.int .i64 ((lo:Int)+(d:Int))) r13 Jy (.int .i64 0) (.int .i64 0) (.bool false) (.int .i64 c2)) [.code Aj.loop,.inLoop Aj.loop,.inBlock 0,.code .ret] [] AB,c0::cs,v⟩):
  Vr Ae Kp Good ⟨(fr 46 (TY src to Nq s cnt e0 n lo r9 r10 r11 (.int .i64 ((lo:Int)+(d:Int))) r13 Jy IE r16 IG Ob) [.inRegion SS [0],.code U7,.inLoop Aj.loop,.inBlock 0,.code .ret] [] AB).finish (.int .i64 0),c0::cs,v⟩:=by
 have Next:=AO next;clear next;unfold TY at Next⊢;rw[EH (o:=_) rfl];simp only[put];walk_nrm;(have hw0:IntKind.i64.wrap 0=0:=by decide);(iterate 8 refine QX ?_);refine Ib CE (λw=>s_cond (b:=false) rfl) ?_;simp only[if_true,DC,↓reduceIte];(iterate 7 refine QX ?_);(have hc:((lo+d:Nat):Int)=(lo:Int)+(d:Int):=by omega);rw[<- hc];rw[<- hc] at Next;exact Next.out
end
end
theorem AB9{T:Array AQ}{op:BX}{f:DU}{xs:Array DU}{ats:Array Am}{g:Bl}{q vs:Array AQ}(hop:op.op=.call {callee:=.value f,args:=xs,argTypes:=ats})(hf:ev T f=.func (.func g) #[] q)(hx:xs.map (ev T)=vs):BI (ev T) op=E8 g (vs++q):=by
 unfold BI;simp only[hop,resolve,Pv,hf,hx];show invoke (.fn (.func g) q) (#[]++vs)=_;simp[invoke]
theorem AQX{w:AL}{p:Array AQ}:(E8 79 p).run Ae w=.ok (.enter 79 p) w:=by
 unfold E8;simp only[Eu];have:(program).run Ae w=.ok Ae w:=rfl;rw[this];simp only[Oy,oh];rfl
section
variable {Kp:AX->List AX->AL->Prop} (CE: ∀f ts v,Kp f ts v->ts=[]) {Good:VS->Prop} {cs:List AX} {c0:AX} {v:AL}
 {to:AQ} {s:ByteArray} {n:Int}
include CE
theorem AMm(next:Vr Ae Kp Good ⟨fr 46 (TY (Fz 79 s n) to (.tuple #[.string s,.int .i64 n]) s 0 0 n 0 AU AU AU AU AU AU AU AU AU AU) [.code Aj.loop,.inLoop Aj.loop,.inBlock 0,.code .ret] [] AB,c0::cs,v⟩):
  o5 Ae Kp Good ⟨Bc Ae 46 #[Fz 79 s n,to] .normal,c0::cs,v⟩:=by
 have Next:=AO next;clear next;unfold TY at Next;rw[IQ wH rfl];simp only[Aj.f46,Iq,EY,Hg,Jp,MH,KL,MI,KN,KO,EE,Dn];refine NS (λx=>by cases CE _ _ _ x) KD ?_;refine QX ?_;refine AJJ CE (f:=79) (args:=#[.int .i64 0,.int .i64 0,.int .i64 0,.int .i64 0,.int .i64 0,.string s,.int .i64 n]) rfl rfl (λw=>?_) ?_
 ·rw[AB9 (op:=_) (f:=.tmp 0) (g:=79) (q:=#[.string s,.int .i64 n]) (vs:=#[.int .i64 0,.int .i64 0,.int .i64 0,.int .i64 0,.int .i64 0]) rfl rfl Wu,AQX];rfl
 rw[IQ oh rfl];simp only[Aj.f79,Iq,EY,Hg,Jp,MH,KL,MI,KN,KO,EE,Dn];(iterate 4 refine QX ?_);refine Ib CE (λw=>OZ) ?_;refine wJ CE oh (λw=>o8 rfl w) ?_;rw[EH (o:=_) rfl];simp only[put];walk_nrm;(iterate 9 refine QX ?_);refine Ib CE (λw=>lY) ?_;exact Next.out
end
noncomputable def jY (y v1 v2:AQ) (yb:Nat) (v5 v6 v7 c:AQ):Array AQ:=
 #[y,v1,v2,.pointer (AA ⟨yb,0,AB⟩),AU,v5,v6,v7,c,AU,AU,AU,AU,AU]
section
variable {C:Cx} (hP:C.P=Tryz.prog) {k:Nat} {R:RF C.SR} (hR:R.Ok) {W:WB} (hW:W.Ok) {x:List (Nat×Obj)} (hx: ∀p∈x,isCells p.2) {wg cb xb sb yb:Nat} (hS:lg C R cb sb) {src v1 v2 v5 v6 v7:AQ}
 (hT1:W.T1=jW wg cb xb sb C.bc src AU) (hyb:(yb,.cells #[.func (.yield W.l1) #[] #[]] 171)∈W.bx) {c29:AX} {cs:List AX}
include hP hR hW hx hS hT1 hyb
theorem w22{a:Ag}{n c:Nat}{l:List UInt8}(hl:l.length=n)(hn:0<n)(hle:n<=1073741824)(hnews: ∀w,R.R w->∀j v,(Jw l)[j]? =AA v->w.cell? (a.add j)=AA v)(zq:C.SR a.block)
  (hcs: ∀m cap,¬C.SR m->n<=cap->Vh n 5 cap->C.Cs k (.slice (AA ⟨m,0,AB⟩) n cap) m (.cells ((Jw l).toArray++IM (cap - n) (.int .u8 0)) 5))
  (hgo: ∀x',(∀p∈x',isCells p.2)->PW C (.work false) (k+1) (G (c29.finish (.bool true)) cs) (ow R (λ_=>False) (Lw W x' LS.ready LS.ready)))
  (hstop: ∀x',(∀p∈x',isCells p.2)->PW C (.work true) k (G (c29.finish (.bool false)) cs) (ow R (λ_=>False) (Lw W x' LS.left LS.left))):
  PW C (.work false) k (G (fr 79 (jY (.func (.yield W.l1) #[] #[]) v1 v2 yb v5 v6 v7 (.slice (AA a) n c)) [.code (rA Tryz.f79),.beginRound,.code (rB Tryz.f79)] [] (AA W.l2)) (c29::cs)) (ow R (λ_=>False) (Lw W x LS.ready LS.ready)):=by
 have fy: ∀{s1 s2:LS} {y:List (Nat×Obj)} (w:AL),(ow R (λ_=>False) (Lw W y s1 s2)).I w->w.cell? ⟨yb,0,AB⟩=AA (.func (.yield W.l1) #[] #[]):=λw hw=>by
  have h:=hw.1 (yb,.cells #[.func (.yield W.l1) #[] #[]] 171) (gK hyb);unfold Pj;rw[h];rfl
 have ry: ∀{s1 s2:LS} {y:List (Nat×Obj)},(ow R (λ_=>False) (Lw W y s1 s2)).O yb:=λ{s1 s2 y}=>.inr (OD (gK hyb));simp only[jY];have ea:rA Tryz.f79=rA Tryz.f79:=rfl
 conv at ea=>lhs;simp only[rA,EP,Mc,Tryz.f79,Dx,Option.or,Fj]
 have eb:rB Tryz.f79=rB Tryz.f79:=rfl
 conv at eb=>lhs;simp only[rB,EP,Mc,Tryz.f79,Dx,Option.or,Fj]
 rw[<- ea,<- eb];clear ea eb;(iterate 3 refine Fq ?_);refine AEe (fn:=79) (s2:=LS.ready) (s2':=LS.busy) hP hR hW hx (λw h=>AB3 h rfl) rfl ?_;iterate 2 refine Fq ?_
 have hz: ∀w,(ow R (λ_=>False) (Lw W x LS.ready LS.busy)).I w->∀y∈(Lw W x LS.ready LS.busy).map Ac,y<w.heap.size:=λw hw y hy=>by
  obtain⟨p,hp,rfl⟩:=CG.1 hy;exact (Dj.1 (hw.1 p hp)).1
 apply AMh (λm0 m cap=>n<=cap/\(Vh n 5 cap/\¬C.SR m)/\m0<m/\∀y∈(Lw W x LS.ready LS.busy).map Ac,y<m0)
 ·intro fin;refine oz (Ci hP) [[0,1,2,3,4],[1,0,2,3,4],[1,2,0,3,4]] (.inl Az) Az λl hl=>?_;simp only[BF,BH,or_false] at hl;rcases hl with rfl|rfl|rfl
  ·skip;refine EC (Ci hP) ?_ (hr:=by intro w hw;have f0:=fy w hw;unfold ev;go_simp;exact rfl) (he:=by intro w hw;have f0:=fy w hw;unfold ev;simp[go_sem,f0];exact⟨.inl ry,rfl⟩);refine Fq ?_;refine Ro (Ci hP) (f:=78) (args:=#[.slice (AA a) n c]) rfl rfl (.inr (λc h=>by cases h)) (λw hw=>?_) (λw hw=>?_) ?_;rw[GR (op:=_) (f:=78) (vs:=#[.slice (AA a) n c]) rfl Wu];rfl;rw[GR (op:=_) (f:=78) (vs:=#[.slice (AA a) n c]) rfl Wu,YS];intro e he;simp at he;refine w21 hP hl hn hle hnews zq λm0 m cap h1 h2 ⟨w0,hw0,e0⟩ h4=>?_;rw[EH (o:=_) rfl,Xf o7];simp only[put];walk_nrm;exact fin m0 m cap ⟨h1,⟨h2,λhs=>by have:=R.lt w0 hw0.2 m hs;omega⟩,h4,λy hy=>by rw[<- e0];exact hz w0 hw0 y hy⟩
  ·skip;refine Fq ?_;refine EC (Ci hP) ?_ (hr:=by intro w hw;have f0:=fy w hw;unfold ev;go_simp;exact rfl) (he:=by intro w hw;have f0:=fy w hw;unfold ev;simp[go_sem,f0];exact⟨.inl ry,rfl⟩);refine Ro (Ci hP) (f:=78) (args:=#[.slice (AA a) n c]) rfl rfl (.inr (λc h=>by cases h)) (λw hw=>?_) (λw hw=>?_) ?_;rw[GR (op:=_) (f:=78) (vs:=#[.slice (AA a) n c]) rfl Wu];rfl;rw[GR (op:=_) (f:=78) (vs:=#[.slice (AA a) n c]) rfl Wu,YS];intro e he;simp at he;refine w21 hP hl hn hle hnews zq λm0 m cap h1 h2 ⟨w0,hw0,e0⟩ h4=>?_;rw[EH (o:=_) rfl,Xf o7];simp only[put];walk_nrm;exact fin m0 m cap ⟨h1,⟨h2,λhs=>by have:=R.lt w0 hw0.2 m hs;omega⟩,h4,λy hy=>by rw[<- e0];exact hz w0 hw0 y hy⟩
  skip;refine Fq ?_;refine Ro (Ci hP) (f:=78) (args:=#[.slice (AA a) n c]) rfl rfl (.inr (λc h=>by cases h)) (λw hw=>?_) (λw hw=>?_) ?_;rw[GR (op:=_) (f:=78) (vs:=#[.slice (AA a) n c]) rfl Wu];rfl;rw[GR (op:=_) (f:=78) (vs:=#[.slice (AA a) n c]) rfl Wu,YS];intro e he;simp at he;refine w21 hP hl hn hle hnews zq λm0 m cap h1 h2 ⟨w0,hw0,e0⟩ h4=>?_;rw[EH (o:=_) rfl,Xf o7];simp only[put];walk_nrm;refine EC (Ci hP) ?_ (hr:=by intro w hw;have f0:=fy w hw;unfold ev;go_simp;exact rfl) (he:=by intro w hw;have f0:=fy w hw;unfold ev;simp[go_sem,f0];exact⟨.inl ry,rfl⟩);exact fin m0 m cap ⟨h1,⟨h2,λhs=>by have:=R.lt w0 hw0.2 m hs;omega⟩,h4,λy hy=>by rw[<- e0];exact hz w0 hw0 y hy⟩
 rintro m0 m cap ⟨h1,h2,h3,h4⟩;(have hx1: ∀p∈(m0,QI #[] 5)::x,isCells p.2:=λp hp=>by rcases BF.1 hp with rfl|hp<;>first|exact⟨_,_,_,rfl⟩|exact hx p hp);(have hx2: ∀p∈(m,QI ((Jw l).toArray++IM (cap - n) (.int .u8 0)) 5)::(m0,QI #[] 5)::x,isCells p.2:=λp hp=>by rcases BF.1 hp with rfl|hp<;>first|exact⟨_,_,_,rfl⟩|exact hx1 p hp);refine wE (Ci hP) (l:=W.l1) (f:=75) (tm:=jW wg cb xb sb C.bc src (.slice (AA ⟨m,0,AB⟩) n cap)) (a:=rA Tryz.f75) (b:=rB Tryz.f75) rfl rfl (.inr (λc h=>by cases h)) (λw hw=>?_) (λw hw=>?_) ?_
 ·have hl:w.heap[W.l1]? =AA (lp 75 Tryz.f75 W.T1 W.d1 LS.ready):=hw.1 (W.l1,lp 75 Tryz.f75 W.T1 W.d1 LS.ready) AEb;obtain⟨h1,_⟩:=dB (P:=Tryz.prog) (l:=W.l1) (v:=.slice (AA ⟨m,0,AB⟩) n cap) hl wK;rw[UD (op:=_) (v:=.slice (AA ⟨m,0,AB⟩) n cap) (f:=.tmp 9) (x:=.tmp 11) rfl rfl rfl,h1];simp only[hT1];rfl
 ·have hl:w.heap[W.l1]? =AA (lp 75 Tryz.f75 W.T1 W.d1 LS.ready):=hw.1 (W.l1,lp 75 Tryz.f75 W.T1 W.d1 LS.ready) AEb;obtain⟨h1,h2⟩:=dB (P:=Tryz.prog) (l:=W.l1) (v:=.slice (AA ⟨m,0,AB⟩) n cap) hl wK;rw[UD (op:=_) (v:=.slice (AA ⟨m,0,AB⟩) n cap) (f:=.tmp 9) (x:=.tmp 11) rfl rfl rfl,h2];intro e he;simp only[IW,CB] at he;subst he;exact⟨.inr (OD AEb),rfl⟩
 refine w25 hP hR hW hx1 hS ⟨_,_,_,rfl⟩ (hcs m cap h2.2 h1 h2.1) ?_ ?_ ?_
 ·refine⟨λhm=>?_,λh=>h⟩
  have:m∈(Lw W x LS.ready LS.busy).map Ac\/m=m0:=by
   simp only[Lw,BN,FK,BF,Bj] at hm⊢;rcases hm with h|h|h|h|h|h|h<;>simp[h]
  rcases this with h|h;have:=h4 m h;omega;omega
 ·rw[EH (o:=_) rfl];simp only[put];walk_nrm;(iterate 5 refine Fq ?_);exact AEe (fn:=79) (s2:=LS.busy) (s2':=LS.ready) hP hR hW hx1 (λw h=>lZ (.inl ⟨rfl,rfl⟩) h) rfl (hgo _ hx1)
 rw[EH (o:=_) rfl];simp only[put];walk_nrm;(iterate 3 refine Fq ?_);exact AEe (fn:=79) (s2:=LS.busy) (s2':=LS.left) hP hR hW hx2 (λw h=>lZ (.inr ⟨_,rfl,rfl⟩) h) rfl (hstop _ hx2)
end
section
variable {d:Ag}{c g i n:Nat}{p:Prop}{w':AL}
theorem lf1(h:p:=by intro w hw;have f0:=FA.out _ _ _ w hw;have f1:=FB.out _ _ _ w hw;unfold ev;go_simp;exact rfl):p:=h
theorem lf2(h:p:=by intro w hw;have f0:=FA.out _ _ _ w hw;have f1:=FB.out _ _ _ w hw;unfold ev;simp[go_sem,f0,f1];first|exact⟨.inl (RA.out _ _ _),rfl⟩|exact⟨.inl (RB.out _ _ _),rfl⟩):p:=h
noncomputable def UE:Code:=match EP Tryz.f119 with| .seq _ (.block _ (.loop c))=>c|_=>.skip
theorem AJL{w:AL}{es:Array Be}:(sizeOf 5).events Tryz.prog w es=es:=rfl
theorem AJM(b1:i<=n)(b2:i<c)(hc:n<=c):(LY 62 (.slice (AA d) n c) (AA (.int .i64 (i:Int))) AB AB).run Tryz.prog w'=.ok (.slice (AA (d.add i)) (n - i) (c - i)) w':=by
 (have b3: ¬(c=i):=by omega);simp[LY,WC,Qx,Pm,asIntOf,b1,b3,hc]
theorem AMn(b1:i<=n)(b2:i<c)(hc:n<=c):(LY 62 (.slice (AA d) n c) (AA (.int .i64 (i:Int))) AB AB).events Tryz.prog w' #[]= #[]:=by
 (have b3: ¬(c=i):=by omega);simp[LY,WC,Qx,Pm,asIntOf,b1,b3,hc,AJL]
theorem AJN(b1:i<g)(b2:g<=n)(hc:n<=c):(LY 62 (.slice (AA d) n c) (AA (.int .i64 (i:Int))) (AA (.int .i64 (g:Int))) (AA (.int .i64 (g:Int)))).run Tryz.prog w'=.ok (.slice (AA (d.add i)) (g - i) (g - i)) w':=by
 (have b3: ¬(g=i):=by omega);(have b4:i<=g:=by omega);(have b5:g<=c:=by omega);simp[LY,WC,Qx,Pm,asIntOf,b3,b4,b5]
theorem AMo(b1:i<g)(b2:g<=n)(hc:n<=c):(LY 62 (.slice (AA d) n c) (AA (.int .i64 (i:Int))) (AA (.int .i64 (g:Int))) (AA (.int .i64 (g:Int)))).events Tryz.prog w' #[]= #[]:=by
 (have b3: ¬(g=i):=by omega);(have b4:i<=g:=by omega);(have b5:g<=c:=by omega);simp[LY,WC,Qx,Pm,asIntOf,b3,b4,b5,AJL]
section
variable {C:Cx} (hP:C.P=Tryz.prog) {R:RF C.SR} (hR:R.Ok) {W:WB} (hW:W.Ok) {wg cb xb sb yb:Nat} (hS:lg C R cb sb) {src v1 v2 u5 u6 u7:AQ}
 (hT1:W.T1=jW wg cb xb sb C.bc src AU) (hT2:W.T2=jY (.func (.yield W.l1) #[] #[]) v1 v2 yb u5 u6 u7 AU) (hyb:(yb,.cells #[.func (.yield W.l1) #[] #[]] 171)∈W.bx) {cF:AX} {cs:List AX}
 {l:List UInt8} {sz c:Nat} {D:Option Ag} {A2 B2:Nat} (hA:(A2,.cells #[.slice D l.length c] 62)∈W.bx) (hB:(B2,.cells #[.int .i64 (sz:Int)] 3)∈W.bx)
 (hsz:1<=sz) (hle:l.length<=1073741824) (o9:sz<=9223372036854775807) (hc:l.length<=c) (hDn:D=AB->l=[]) (hD:0<l.length->∀d,D=AA d->C.SR d.block/\∀w,R.R w->∀j v,(Jw l)[j]? =AA v->w.cell? (d.add j)=AA v)
 (hcs: ∀k,k*sz<l.length->∀m cap,¬C.SR m->((l.drop (k*sz)).take sz).length<=cap->Vh ((l.drop (k*sz)).take sz).length 5 cap->C.Cs k (.slice (AA ⟨m,0,AB⟩) ((l.drop (k*sz)).take sz).length cap) m (.cells ((Jw ((l.drop (k*sz)).take sz)).toArray++IM (cap - ((l.drop (k*sz)).take sz).length) (.int .u8 0)) 5))
include hP hR hW hS hT1 hT2 hyb hA hB hsz hle o9 hc hDn hD hcs
theorem w29(hN: ∀k,l.length<=k*sz->(∀j,j<k->j*sz<l.length)->k=C.N)
  (hend: ∀x,(∀p∈x,isCells p.2)->PW C (.work false) C.N (G (cF.finish (.tuple #[])) cs) (ow R (λ_=>False) (Lw W x LS.ready LS.ready)))
  (hstop: ∀k x,(∀p∈x,isCells p.2)->PW C (.work true) k (G (cF.finish (.tuple #[])) cs) (ow R (λ_=>False) (Lw W x LS.left LS.left))):
  ∀(M k i:Nat),k*sz=i->l.length - i<M->(∀j,j<k->j*sz<l.length)->∀(x:List (Nat×Obj)),(∀p∈x,isCells p.2)->∀v3 v5 v6 v7 v8 v9 v10 v11 v12 v13 v14 v15 v16 v17 v18 v19 v20 v21 v22 v23 v24 v25 v26 v27 v28 v29 v30:AQ,
   PW C (.work false) k (G (fr 119 #[.func (.yield W.l2) #[] #[],.pointer (AA ⟨A2,0,AB⟩),.pointer (AA ⟨B2,0,AB⟩),v3,.int .i64 (i:Int),v5,v6,v7,v8,v9,v10,v11,v12,v13,v14,v15,v16,v17,v18,v19,v20,v21,v22,v23,v24,v25,v26,v27,v28,v29,v30] [.code UE,.inLoop UE,.inBlock 0] [] AB) (cF::cs)) (ow R (λ_=>False) (Lw W x LS.ready LS.ready)):=by
 intro M
 induction M with
 |zero=>intro k i hi hM;omega
 |succ M ih=>
 intro k i hi hM hk x hx v3 v5 v6 v7 v8 v9 v10 v11 v12 v13 v14 v15 v16 v17 v18 v19 v20 v21 v22 v23 v24 v25 v26 v27 v28 v29 v30
 have fA: ∀(s1 s2:LS) (y:List (Nat×Obj)) (w:AL),(ow R (λ_=>False) (Lw W y s1 s2)).I w->w.cell? ⟨A2,0,AB⟩=AA (.slice D l.length c):=λ_ _ _ w hw=>by
  have h:=hw.1 (A2,.cells #[.slice D l.length c] 62) (gK hA);unfold Pj;rw[h];rfl
 have fB: ∀(s1 s2:LS) (y:List (Nat×Obj)) (w:AL),(ow R (λ_=>False) (Lw W y s1 s2)).I w->w.cell? ⟨B2,0,AB⟩=AA (.int .i64 (sz:Int)):=λ_ _ _ w hw=>by
  have h:=hw.1 (B2,.cells #[.int .i64 (sz:Int)] 3) (gK hB);unfold Pj;rw[h];rfl
 have rA: ∀(s1 s2:LS) (y:List (Nat×Obj)),(ow R (λ_=>False) (Lw W y s1 s2)).O A2:=λs1 s2 y=>.inr (OD (gK hA));have rB: ∀(s1 s2:LS) (y:List (Nat×Obj)),(ow R (λ_=>False) (Lw W y s1 s2)).O B2:=λs1 s2 y=>.inr (OD (gK hB));have FA:=AO fA;have FB:=AO fB;have RA:=AO rA;have RB:=AO rB;have HA:=AO hA;have HB:=AO hB;have Hcs:=AO hcs;have HD:=AO hD;have HDn:=AO hDn;have HT1:=AO hT1;have HT2:=AO hT2;have Hyb:=AO hyb;have HN:=AO hN;have ASp:=AO hend;have AQY:=AO hstop;have Ih:=AO ih;have HR:=AO hR;have HW:=AO hW;have HS:=AO hS;have Hx:=AO hx;have Hk:=AO hk;have Hsz:=AO hsz;have Hle:=AO hle;have AJO:=AO o9;have HM:=AO hM;clear fA fB rA rB hA hB hM o9 hle hsz hk hx hS hW hR ih hstop hend hN hyb hT2 hT1 hDn hD hcs;have el:UE=UE:=rfl
 conv at el=>lhs;simp only[UE,EP,Tryz.f119,Dx]
 obtain⟨L0,hL0⟩: ∃L0,Item.inLoop UE=Item.inLoop L0/\Go.RowKit.Hid (L0=UE):=⟨UE,rfl,rfl⟩;rw[hL0.1,<- el]
 replace hL0:=hL0.2
 clear el;(iterate 4 refine Fq ?_);refine EC (Ci hP) ?_ (hr:=by intro w hw;have f0:=FA.out _ _ _ w hw;unfold ev;go_simp;exact rfl) (he:=by intro w hw;have f0:=FA.out _ _ _ w hw;unfold ev;simp[go_sem,f0];exact⟨.inl (RA.out _ _ _),rfl⟩);refine EC (Ci hP) ?_ (hr:=λw _=>IU GH.1) (he:=λw _=>IU (Gu GH.2));(iterate 2 refine Fq ?_);by_cases hlt:i<l.length
 ·(have hd1:decide (i<l.length)=true:=by simp;omega);rw[hd1];(obtain⟨d,rfl⟩: ∃d,D=AA d:=by cases D with|none=>rw[HDn.out rfl] at hlt;simp at hlt|some d=>exact⟨d,rfl⟩);(have b2:i<c:=by omega);have hs1: ∀w',(LY 62 (.slice (AA d) l.length c) (AA (.int .i64 (i:Int))) AB AB).run Tryz.prog w'=.ok (.slice (AA (d.add i)) (l.length - i) (c - i)) w':=λw'=>AJM (Ti hlt) b2 hc;have Xg: ∀w',(LY 62 (.slice (AA d) l.length c) (AA (.int .i64 (i:Int))) AB AB).events Tryz.prog w' #[]= #[]:=λw'=>AMn (Ti hlt) b2 hc;(iterate 5 refine Fq ?_);refine AHa λk1 hk1=>?_;apply AMi
  ·intro fin;refine oz (Ci hP) [[0,1,2,3,4,5,6],[0,2,1,3,4,5,6],[1,0,2,3,4,5,6],[1,2,0,3,4,5,6],[1,2,3,0,4,5,6],[1,2,3,4,0,5,6],[2,0,1,3,4,5,6],[2,1,0,3,4,5,6],[2,1,3,0,4,5,6],[2,1,3,4,0,5,6]] (.inl Az) Az λl hl=>?_;simp only[BF,BH,or_false] at hl;rcases hl with rfl|rfl|rfl|rfl|rfl|rfl|rfl|rfl|rfl|rfl
   ·skip;refine EC (Ci hP) ?_ (hr:=lf1) (he:=lf2);refine EC (Ci hP) ?_ (hr:=lf1) (he:=lf2);refine Fq ?_;refine EC (Ci hP) ?_ (he:=by intro w hw;unfold ev;simp[go_sem,Xg]);refine EC (Ci hP) ?_ (hr:=λw _=>IU GH.1) (he:=λw _=>IU (Gu GH.2));refine EC (Ci hP) ?_ (hr:=λw _=>IU Hr.1) (he:=λw _=>IU (Gu Hr.2));(iterate 2 refine Fq ?_);exact fin
   ·skip;refine EC (Ci hP) ?_ (hr:=lf1) (he:=lf2);refine Fq ?_;refine EC (Ci hP) ?_ (hr:=lf1) (he:=lf2);refine EC (Ci hP) ?_ (he:=by intro w hw;unfold ev;simp[go_sem,Xg]);refine EC (Ci hP) ?_ (hr:=λw _=>IU GH.1) (he:=λw _=>IU (Gu GH.2));refine EC (Ci hP) ?_ (hr:=λw _=>IU Hr.1) (he:=λw _=>IU (Gu Hr.2));(iterate 2 refine Fq ?_);exact fin
   ·skip;refine EC (Ci hP) ?_ (hr:=lf1) (he:=lf2);refine EC (Ci hP) ?_ (hr:=lf1) (he:=lf2);refine Fq ?_;refine EC (Ci hP) ?_ (he:=by intro w hw;unfold ev;simp[go_sem,Xg]);refine EC (Ci hP) ?_ (hr:=λw _=>IU GH.1) (he:=λw _=>IU (Gu GH.2));refine EC (Ci hP) ?_ (hr:=λw _=>IU Hr.1) (he:=λw _=>IU (Gu Hr.2));(iterate 2 refine Fq ?_);exact fin
   ·skip;refine EC (Ci hP) ?_ (hr:=lf1) (he:=lf2);refine Fq ?_;refine EC (Ci hP) ?_ (hr:=lf1) (he:=lf2);refine EC (Ci hP) ?_ (he:=by intro w hw;unfold ev;simp[go_sem,Xg]);refine EC (Ci hP) ?_ (hr:=λw _=>IU GH.1) (he:=λw _=>IU (Gu GH.2));refine EC (Ci hP) ?_ (hr:=λw _=>IU Hr.1) (he:=λw _=>IU (Gu Hr.2));(iterate 2 refine Fq ?_);exact fin
   ·skip;refine EC (Ci hP) ?_ (hr:=lf1) (he:=lf2);refine Fq ?_;refine EC (Ci hP) ?_ (he:=by intro w hw;unfold ev;simp[go_sem,Xg]);refine EC (Ci hP) ?_ (hr:=lf1) (he:=lf2);refine EC (Ci hP) ?_ (hr:=λw _=>IU GH.1) (he:=λw _=>IU (Gu GH.2));refine EC (Ci hP) ?_ (hr:=λw _=>IU Hr.1) (he:=λw _=>IU (Gu Hr.2));(iterate 2 refine Fq ?_);exact fin
   ·skip;refine EC (Ci hP) ?_ (hr:=lf1) (he:=lf2);refine Fq ?_;refine EC (Ci hP) ?_ (he:=by intro w hw;unfold ev;simp[go_sem,Xg]);refine EC (Ci hP) ?_ (hr:=λw _=>IU GH.1) (he:=λw _=>IU (Gu GH.2));refine EC (Ci hP) ?_ (hr:=lf1) (he:=lf2);refine EC (Ci hP) ?_ (hr:=λw _=>IU Hr.1) (he:=λw _=>IU (Gu Hr.2));(iterate 2 refine Fq ?_);exact fin
   ·skip;refine Fq ?_;refine EC (Ci hP) ?_ (hr:=lf1) (he:=lf2);refine EC (Ci hP) ?_ (hr:=lf1) (he:=lf2);refine EC (Ci hP) ?_ (he:=by intro w hw;unfold ev;simp[go_sem,Xg]);refine EC (Ci hP) ?_ (hr:=λw _=>IU GH.1) (he:=λw _=>IU (Gu GH.2));refine EC (Ci hP) ?_ (hr:=λw _=>IU Hr.1) (he:=λw _=>IU (Gu Hr.2));(iterate 2 refine Fq ?_);exact fin
   ·skip;refine Fq ?_;refine EC (Ci hP) ?_ (hr:=lf1) (he:=lf2);refine EC (Ci hP) ?_ (hr:=lf1) (he:=lf2);refine EC (Ci hP) ?_ (he:=by intro w hw;unfold ev;simp[go_sem,Xg]);refine EC (Ci hP) ?_ (hr:=λw _=>IU GH.1) (he:=λw _=>IU (Gu GH.2));refine EC (Ci hP) ?_ (hr:=λw _=>IU Hr.1) (he:=λw _=>IU (Gu Hr.2));(iterate 2 refine Fq ?_);exact fin
   ·skip;refine Fq ?_;refine EC (Ci hP) ?_ (hr:=lf1) (he:=lf2);refine EC (Ci hP) ?_ (he:=by intro w hw;unfold ev;simp[go_sem,Xg]);refine EC (Ci hP) ?_ (hr:=lf1) (he:=lf2);refine EC (Ci hP) ?_ (hr:=λw _=>IU GH.1) (he:=λw _=>IU (Gu GH.2));refine EC (Ci hP) ?_ (hr:=λw _=>IU Hr.1) (he:=λw _=>IU (Gu Hr.2));(iterate 2 refine Fq ?_);exact fin
   skip;refine Fq ?_;refine EC (Ci hP) ?_ (hr:=lf1) (he:=lf2);refine EC (Ci hP) ?_ (he:=by intro w hw;unfold ev;simp[go_sem,Xg]);refine EC (Ci hP) ?_ (hr:=λw _=>IU GH.1) (he:=λw _=>IU (Gu GH.2));refine EC (Ci hP) ?_ (hr:=lf1) (he:=lf2);refine EC (Ci hP) ?_ (hr:=λw _=>IU Hr.1) (he:=λw _=>IU (Gu Hr.2));(iterate 2 refine Fq ?_);exact fin
  have hk1:=hk1.out;subst hk1;obtain⟨e,he⟩: ∃e,min sz (l.length - i)=e:=⟨_,rfl⟩;rw[he];(have e1:1<=e:=by have:=Hsz.out;omega);(have e2:i+e<=l.length:=by omega);(have hb1:IntKind.i64.wrap ((i:Int)+(e:Int))=((i+e:Nat):Int):=by rw[NY];have:=Hle.out;omega);have hct:((i+e:Nat):Int)=(i:Int)+(e:Int):=by omega
  have hs2: ∀w',(LY 62 (.slice (AA d) l.length c) (AA (.int .i64 (i:Int))) (AA (.int .i64 ((i:Int)+(e:Int)))) (AA (.int .i64 ((i:Int)+(e:Int))))).run Tryz.prog w'=.ok (.slice (AA (d.add i)) e e) w':=λw'=>by
   have:=AJN (d:=d) (n:=l.length) (c:=c) (i:=i) (g:=i+e) (w':=w') Aa Aa hc;rwa[show i+e - i=e by omega,hct] at this
  have ANV: ∀w',(LY 62 (.slice (AA d) l.length c) (AA (.int .i64 (i:Int))) (AA (.int .i64 ((i:Int)+(e:Int)))) (AA (.int .i64 ((i:Int)+(e:Int))))).events Tryz.prog w' #[]= #[]:=λw'=>by
   have:=AMo (d:=d) (n:=l.length) (c:=c) (i:=i) (g:=i+e) (w':=w') Aa Aa hc;rwa[hct] at this
  clear hct;(iterate 3 refine Fq ?_);refine EC (Ci hP) ?_ (hr:=by intro w hw;have f0:=FA.out _ _ _ w hw;unfold ev;go_simp;exact rfl) (he:=by intro w hw;have f0:=FA.out _ _ _ w hw;unfold ev;simp[go_sem,f0];exact⟨.inl (RA.out _ _ _),rfl⟩);(iterate 7 refine Fq ?_);refine EC (Ci hP) ?_ (he:=by intro w hw;unfold ev;simp[go_sem,ANV]);have Hs1:=AO hs1;have Hs2:=AO hs2;clear hs1 hs2 Xg ANV;refine wE (Ci hP) (l:=W.l2) (f:=79) (tm:=jY (.func (.yield W.l1) #[] #[]) v1 v2 yb u5 u6 u7 (.slice (AA (d.add i)) e e)) (a:=Go.Proofs.YtkkgcebhfghdnaaGreatDoor.rA Tryz.f79) (b:=Go.Proofs.YtkkgcebhfghdnaaGreatDoor.rB Tryz.f79) rfl rfl (.inl rfl) (λw hw=>?_) (λw hw=>?_) ?_
  ·have hl:w.heap[W.l2]? =AA (lp 79 Tryz.f79 W.T2 W.d2 LS.ready):=hw.1 (W.l2,lp 79 Tryz.f79 W.T2 W.d2 LS.ready) AEc;obtain⟨h1,_⟩:=dB (P:=Tryz.prog) (l:=W.l2) (v:=.slice (AA (d.add i)) e e) hl jX;rw[UD (op:=_) (v:=.slice (AA (d.add i)) e e) (f:=.tmp 19) (x:=.tmp 28) rfl rfl rfl,h1];simp only[HT2.out];rfl
  ·have hl:w.heap[W.l2]? =AA (lp 79 Tryz.f79 W.T2 W.d2 LS.ready):=hw.1 (W.l2,lp 79 Tryz.f79 W.T2 W.d2 LS.ready) AEc;obtain⟨h1,h2⟩:=dB (P:=Tryz.prog) (l:=W.l2) (v:=.slice (AA (d.add i)) e e) hl jX;rw[UD (op:=_) (v:=.slice (AA (d.add i)) e e) (f:=.tmp 19) (x:=.tmp 28) rfl rfl rfl,h2];intro e he;simp only[IW,CB] at he;subst he;exact⟨.inr (OD AEc),rfl⟩
  (have hpl:((l.drop i).take sz).length=e:=by simp;omega);refine w22 hP HR.out HW.out Hx.out HS.out HT1.out Hyb.out (l:=(l.drop i).take sz) hpl e1 (by have:=Hle.out;omega) (λw hw j v hj=>?_) ?_ ?_ ?_ ?_
  ·
   have hj':(Jw l)[i+j]? =AA v:=by
    have hj2:j<sz:=by
     have:=(CP.1 hj).1;simp[Jw] at this;omega
    simp only[Jw,Ba,lI,yN,hj2,if_true] at hj⊢;exact hj
   have:=(HD.out Aa d rfl).2 w hw (i+j) v hj'
   have ea:(d.add i).add j=d.add (i+j):=by
    obtain⟨b0,o0,s0⟩:=d;by_cases hi0:i=0;subst hi0;simp[Q9];by_cases hj0:j=0;subst hj0;simp[Q9];(have h0: ¬(i+j=0):=by omega);simp[Q9,hi0,hj0,SB]
   rw[ea];exact this
  ·have:=(HD.out Aa d rfl).1;unfold Q9;split<;>exact this
  ·have:=Hcs.out k (by rw[hi];exact hlt);rw[hi,hpl] at this;exact this
  ·intro x' hx';rw[EH (o:=_) rfl];simp only[put];walk_nrm
   have hb2:IntKind.i64.wrap ((i:Int)+(sz:Int))=(i:Int)+(sz:Int):=by
    rw[NY];have h1:=Hle.out;have h2:=AJO.out
    have h3:i=0\/sz<=i:=by
     rcases O7 k with h|h;exact .inl (by rw[<- hi,h,mr]);exact .inr (by rw[<- hi];exact Nat.le_mul_of_pos_left sz h)
    omega
   (iterate 7 refine Fq ?_);refine EC (Ci hP) ?_ (hr:=by intro w hw;have f0:=FB.out _ _ _ w hw;unfold ev;go_simp;exact rfl) (he:=by intro w hw;have f0:=FB.out _ _ _ w hw;unfold ev;simp[go_sem,f0];exact⟨.inl (RB.out _ _ _),rfl⟩);(iterate 4 refine Fq ?_);have hL:=hL0.out;subst hL;have hi':(k+1)*sz=i+sz:=by rw[lK,hi];omega
   have h5:=Ih.out (k+1) (i+sz) hi' (by have h1:=HM.out;have h2:=Hsz.out;omega) (λj hj=>by
    rcases Nat.lt_succ_iff_lt_or_eq.1 hj with h|h;exact Hk.out j h
    rw[h,hi];exact hlt) x' hx'
   rw[show ((i+sz:Nat):Int)=(i:Int)+(sz:Int) by omega] at h5;exact h5 ..
  intro x' hx';rw[EH (o:=_) rfl];simp only[put];walk_nrm;(iterate 3 refine Fq ?_);refine CX (Ci hP) (λw=>OZ) rfl ?_;exact JU (Ci hP) Tryz.func119 (λw=>YR rfl w) (AQY.out k x' hx')
 (have hd1:decide (i<l.length)=false:=by simp;omega);rw[hd1];refine Fq ?_;refine CX (Ci hP) (λw=>s_exit rfl) rfl ?_;refine CX (Ci hP) (λw=>AEa) rfl ?_;refine JU (Ci hP) Tryz.func119 (λw=>YR rfl w) ?_;have hkN:=HN.out k (by rw[hi];omega) Hk.out;rw[hkN];exact ASp.out x Hx.out
end
end
section
variable {P:BM} {mn:Bool} {fn:Bl} {T:Array AQ} {k:List Item} {D:List EL} {cs:List AX} {w w':AL} {kd:Bool}
theorem AJP{f:DU}{g:Bl}{q:Array AQ}{ps:Array Tmp}{a b:Code}{gf:Func}(hf:ev T f=.func (.func g) #[] q)(hg:P.funcs[g]? =AA gf)(hb:gf.body.isNone=false)(hn:(gf.name== "runtime.NumGoroutine")=false):
  Af P mn (G (fr fn T (.code (.rangeFunc f ps a b)::k) D AB kd) cs) w=
   .go (G (Bc P g (#[.func (.yield (w.heap.size+1)) #[] #[]]++q) .normal) (fr fn T (.inRangeFunc (w.heap.size+1)::k) ({target:=.collected w.heap.size,args:=#[]}::D) AB kd::cs))
    {w with heap:=(w.heap.push (.deferred (AA []))).push (.loop {state:=.ready,pending:=AB,fn:=fn,tmps:=T,params:=ps,assign:=a,body:=b,defers:=w.heap.size})} #[]:=by
 have h1:(WE fn T ps a b AB).runT P w #[]=(.ok (w.heap.size+1,[{target:=.collected w.heap.size,args:=#[]}]) {w with heap:=(w.heap.push (.deferred (AA []))).push (.loop {state:=.ready,pending:=AB,fn:=fn,tmps:=T,params:=ps,assign:=a,body:=b,defers:=w.heap.size})},#[]):=by
  simp only[WE,newObj,bind,Sem.bind,pure,Gi,ADu]
 show JB P mn true (fr fn T (.code (.rangeFunc f ps a b)::k) D AB kd) cs AB w=_;unfold JB
 simp only[show (fr fn T (.code (.rangeFunc f ps a b)::k) D AB kd).todo=.code (.rangeFunc f ps a b)::k from rfl,show (fr fn T (.code (.rangeFunc f ps a b)::k) D AB kd).fn=fn from rfl,show (fr fn T (.code (.rangeFunc f ps a b)::k) D AB kd).tmps=T from rfl,
  show (fr fn T (.code (.rangeFunc f ps a b)::k) D AB kd).roundOf=AB from rfl,h1]
 generalize ({w with heap:=(w.heap.push (.deferred (AA []))).push (.loop {state:=.ready,pending:=AB,fn:=fn,tmps:=T,params:=ps,assign:=a,body:=b,defers:=w.heap.size})}:AL)=w1;show DZ (seen P fn #[]) (Hw P true (fr fn T (.inRangeFunc (w.heap.size+1)::k) ({target:=.collected w.heap.size,args:=#[]}::D) AB kd) cs AB (do let d <- resolve (fr fn T (.inRangeFunc (w.heap.size+1)::k) ({target:=.collected w.heap.size,args:=#[]}::D) AB kd).eval {callee:=.value f,args:=#[.const (.func (.yield (w.heap.size+1)) #[] #[])],argTypes:=#[]} 0;invoke d.target d.args:Sem Next) w1)=_
 have h2:(do let d <- resolve (fr fn T (.inRangeFunc (w.heap.size+1)::k) ({target:=.collected w.heap.size,args:=#[]}::D) AB kd).eval {callee:=.value f,args:=#[.const (.func (.yield (w.heap.size+1)) #[] #[])],argTypes:=#[]} 0;invoke d.target d.args:Sem Next)=E8 g (#[.func (.yield (w.heap.size+1)) #[] #[]]++q):=by
  rw[wB];simp only[resolve,hf,J9,BN,EG];rfl
 rw[h2]
 have h3:(E8 g (#[.func (.yield (w.heap.size+1)) #[] #[]]++q)).runT P w1 #[]=(.ok (.enter g (#[.func (.yield (w.heap.size+1)) #[] #[]]++q)) w1,#[]):=by
  unfold E8;show Gi P (Sem.program _) w1 #[]=_;simp only[Gi,Sem.bind];rw[hg];simp only[hb,hn,DC,if_false];rfl
 simp only[Hw,if_true,h3];cases kd<;>rfl
theorem AGL{l:Nat}{r:Loop}(hl:w.heap[l]? =AA (.loop r))(hs:(r.state== .busy)=false):Af P mn (G (fr fn T (.endRangeFunc l::k) D AB kd) cs) w=
  .go (G (fr fn T ((r.pending.map Item.code).toList++k) D AB kd) cs) {w with heap:=w.heap.setIfInBounds l (.loop {r with state:=.exhausted})} (seen P fn #[⟨.obj l,false,false⟩,⟨.obj l,true,false⟩]):=by
 have h2:(Instr.endLoop l).runT P w #[]=(.ok r.pending {w with heap:=w.heap.setIfInBounds l (.loop {r with state:=.exhausted})},#[⟨.obj l,false,false⟩,⟨.obj l,true,false⟩]):=by
  unfold Instr.endLoop;rw[Ve hl];simp only[hs,DC,if_false];show Gi P (I5 l _>>=_) w _=_;rw[Zg hl];rfl
 show JB P mn true (fr fn T (.endRangeFunc l::k) D AB kd) cs AB w=_;unfold JB;simp only[show (fr fn T (.endRangeFunc l::k) D AB kd).todo=.endRangeFunc l::k from rfl,h2];rfl
theorem AGM{d:Nat}(hl:w.heap[d]? =AA (.deferred (AA []))):Af P mn (G {fr fn T k ({target:=.collected d,args:=#[]}::D) AB kd with mode:=.returning} cs) w=
  .go (G {fr fn T k D AB kd with mode:=.returning} cs) {w with heap:=w.heap.setIfInBounds d (.deferred AB)} (seen P fn #[⟨.obj d,false,false⟩,⟨.obj d,true,false⟩]):=by
 have h2:(Instr.takeDeferred d).runT P w #[]=(.ok [] {w with heap:=w.heap.setIfInBounds d (.deferred AB)},#[⟨.obj d,false,false⟩,⟨.obj d,true,false⟩]):=by
  show Gi P (Sem.getObj d _) w #[]=_;simp only[Gi,hl];show Gi P (Sem.setObj d _ _) w _=_;simp only[Gi,hl];rfl
 show unwind P mn {fr fn T k ({target:=.collected d,args:=#[]}::D) AB kd with mode:=.returning} cs AB w=_;unfold unwind;simp only[fr,h2];rfl
end
open Go.ConcX Go.ConcX.Gen
section
variable {T:Array AQ}{fn:Bl}{k:List Item}
noncomputable def Lv (W:WB) (x:List (Nat×Obj)) (s1 s2:LS) (e1 e2:Option (List EL)):List (Nat×Obj):=
 (W.l1,lp 75 Tryz.f75 W.T1 W.d1 s1)::(W.l2,lp 79 Tryz.f79 W.T2 W.d2 s2)::(W.d1,.deferred e1)::(W.d2,.deferred e2)::(W.bx++x)
theorem AQZ{W:WB}{x:List (Nat×Obj)}{s1 s2:LS}:Lw W x s1 s2=Lv W x s1 s2 (AA []) (AA []):=rfl
def LS.gone (s:LS):LS:=⟨.exhausted,s.pd⟩
section
variable {C:Cx} (hP:C.P=Tryz.prog) {s:Bool} {kk:Nat} {R:RF C.SR} (hR:R.Ok) {Gb:Nat->Prop} {W:WB} (hW:W.Ok) {x:List (Nat×Obj)} (hx: ∀p∈x,isCells p.2) {g g':Ad} {s1 s2:LS} {e1 e2:Option (List EL)}
include hP hR hW hx
theorem AQa{s1':LS}(h: ∀w:AL,w.heap[W.l1]? =AA (lp 75 Tryz.f75 W.T1 W.d1 s1)->Af Tryz.prog false g w=.go g' {w with heap:=w.heap.setIfInBounds W.l1 (lp 75 Tryz.f75 W.T1 W.d1 s1')} (seen Tryz.prog fn #[⟨.obj W.l1,false,false⟩,⟨.obj W.l1,true,false⟩]))
  (hr:g.status=.running) (next:PW C (.work s) kk g' (ow R Gb (Lv W x s1' s2 e1 e2))):PW C (.work s) kk g (ow R Gb (Lv W x s1 s2 e1 e2)):=by
 refine U5 hP hR (b:=W.l1) (Ee ..) FC (λy=>by simp[Lv]) (λp hp=>?_) (es:=#[⟨.obj W.l1,false,false⟩,⟨.obj W.l1,true,false⟩]) AV (λw hw=>⟨_,h w hw,λe he=>Dy he⟩) hr next;simp only[Lv,BF,Bj] at hp;rcases hp with rfl|rfl|rfl|rfl|hp|hp;exact .inl rfl
 ·refine .inr ⟨by simp[Lv],λe=>?_⟩;simp[lp] at e
 exact .inr ⟨by simp[Lv],λe=>by cases e⟩;exact .inr ⟨by simp[Lv],λe=>by cases e⟩;exact .inr ⟨by simp[Lv,hp],λe=>Ak (e▸hW.bx p hp) FC⟩;exact .inr ⟨by simp[Lv,hp],λe=>Ak (e▸hx p hp) FC⟩
theorem AQb{s2':LS}(h: ∀w:AL,w.heap[W.l2]? =AA (lp 79 Tryz.f79 W.T2 W.d2 s2)->Af Tryz.prog false g w=.go g' {w with heap:=w.heap.setIfInBounds W.l2 (lp 79 Tryz.f79 W.T2 W.d2 s2')} (seen Tryz.prog fn #[⟨.obj W.l2,false,false⟩,⟨.obj W.l2,true,false⟩]))
  (hr:g.status=.running) (next:PW C (.work s) kk g' (ow R Gb (Lv W x s1 s2' e1 e2))):PW C (.work s) kk g (ow R Gb (Lv W x s1 s2 e1 e2)):=by
 refine U5 hP hR (b:=W.l2) (DD _ (Ee ..)) FC (λy=>by simp[Lv]) (λp hp=>?_) (es:=#[⟨.obj W.l2,false,false⟩,⟨.obj W.l2,true,false⟩]) AV (λw hw=>⟨_,h w hw,λe he=>Dy he⟩) hr next;simp only[Lv,BF,Bj] at hp;rcases hp with rfl|rfl|rfl|rfl|hp|hp
 ·refine .inr ⟨by simp[Lv],λe=>?_⟩;simp[lp] at e
 exact .inl rfl;exact .inr ⟨by simp[Lv],λe=>by cases e⟩;exact .inr ⟨by simp[Lv],λe=>by cases e⟩;exact .inr ⟨by simp[Lv,hp],λe=>Ak (e▸hW.bx p hp) FC⟩;exact .inr ⟨by simp[Lv,hp],λe=>Ak (e▸hx p hp) FC⟩
theorem AQc(h: ∀w:AL,w.heap[W.d1]? =AA (.deferred (AA []))->Af Tryz.prog false g w=.go g' {w with heap:=w.heap.setIfInBounds W.d1 (.deferred AB)} (seen Tryz.prog fn #[⟨.obj W.d1,false,false⟩,⟨.obj W.d1,true,false⟩]))
  (hr:g.status=.running) (next:PW C (.work s) kk g' (ow R Gb (Lv W x s1 s2 AB e2))):PW C (.work s) kk g (ow R Gb (Lv W x s1 s2 (AA []) e2)):=by
 refine U5 hP hR (b:=W.d1) (ob:=.deferred (AA [])) (ob':=.deferred AB) (by simp[Lv]) JQ (λy=>by simp[Lv]) (λp hp=>?_) (es:=#[⟨.obj W.d1,false,false⟩,⟨.obj W.d1,true,false⟩]) AV (λw hw=>⟨_,h w hw,λe he=>Dy he⟩) hr next;simp only[Lv,BF,Bj] at hp;rcases hp with rfl|rfl|rfl|rfl|hp|hp;exact .inr ⟨by simp[Lv],λe=>by cases e⟩;exact .inr ⟨by simp[Lv],λe=>by cases e⟩;exact .inl rfl;exact .inr ⟨by simp[Lv],λ_=>H8 hW.dd⟩;exact .inr ⟨by simp[Lv,hp],λe=>Ak (e▸hW.bx p hp) JQ⟩;exact .inr ⟨by simp[Lv,hp],λe=>Ak (e▸hx p hp) JQ⟩
theorem AQd(h: ∀w:AL,w.heap[W.d2]? =AA (.deferred (AA []))->Af Tryz.prog false g w=.go g' {w with heap:=w.heap.setIfInBounds W.d2 (.deferred AB)} (seen Tryz.prog fn #[⟨.obj W.d2,false,false⟩,⟨.obj W.d2,true,false⟩]))
  (hr:g.status=.running) (next:PW C (.work s) kk g' (ow R Gb (Lv W x s1 s2 e1 AB))):PW C (.work s) kk g (ow R Gb (Lv W x s1 s2 e1 (AA []))):=by
 refine U5 hP hR (b:=W.d2) (ob:=.deferred (AA [])) (ob':=.deferred AB) (by simp[Lv]) JQ (λy=>by simp[Lv]) (λp hp=>?_) (es:=#[⟨.obj W.d2,false,false⟩,⟨.obj W.d2,true,false⟩]) AV (λw hw=>⟨_,h w hw,λe he=>Dy he⟩) hr next;simp only[Lv,BF,Bj] at hp;rcases hp with rfl|rfl|rfl|rfl|hp|hp;exact .inr ⟨by simp[Lv],λe=>by cases e⟩;exact .inr ⟨by simp[Lv],λe=>by cases e⟩;exact .inr ⟨by simp[Lv],λ_=>hW.dd⟩;exact .inl rfl;exact .inr ⟨by simp[Lv,hp],λe=>Ak (e▸hW.bx p hp) JQ⟩;exact .inr ⟨by simp[Lv,hp],λe=>Ak (e▸hx p hp) JQ⟩
end
noncomputable def gx:AX:={(default:AX) with fn:=Tryz.prog.funcs.size,mode:=.panicking [goexitEntry]}
theorem AQe:QuitsD Tryz.prog 2 0 (G {fr 75 T k [] AB true with mode:=.returning} [gx]):=by
 refine .inr ⟨rfl,G gx [],#[],AV,λw=>?_,.inr ⟨rfl,{G gx [] with status:=.finished},#[],AV,λw=>?_,⟨rfl,rfl⟩⟩⟩
 ·show unwind Tryz.prog false {fr 75 T k [] AB true with mode:=.returning} [gx] AB w=_;unfold unwind;simp only[fr,Tryz.func75,YR (f:=Tryz.f75) rfl w,Gz,DZ,G];rfl
 show unwind Tryz.prog false gx [] AB w=_;rfl
def Oc (bc:Nat):EL:={target:=.builtin .close #[157] 0 #[false],args:=#[.chan (AA bc)]}
theorem AJQ{D:List EL}{bc:Nat}{w w':AL}(h:QR w bc w'):
  Af Tryz.prog false (G {fr 75 T k (Oc bc::D) AB true with mode:=.returning} [gx]) w=.go (G {fr 75 T k D AB true with mode:=.returning} [gx]) w' #[⟨.obj bc,false,true⟩,⟨.obj bc,true,true⟩]:=by
 obtain⟨s,hs,rfl⟩:=h;have hr:=run_close_open (P:=Tryz.prog) #[157] 0 hs;have he:=events_close_open (P:=Tryz.prog) (es:=#[]) #[157] 0 hs;show unwind Tryz.prog false {fr 75 T k (Oc bc::D) AB true with mode:=.returning} [gx] AB w=_;unfold unwind;simp[fr,Oc,callDeferred,invoke,go_sem,hr,he,DZ,seen,G]
end
open Go.Conc.Lib
section
variable {C:Cx} (hP:C.P=Tryz.prog) {s:Bool} {kk:Nat} {R:RF C.SR} (hR:R.Ok) {Gb:Nat->Prop} {W:WB} (hW:W.Ok) {x:List (Nat×Obj)} (hx: ∀p∈x,isCells p.2) {s1 s2:LS} {e1 e2:Option (List EL)}
 {L:WgLink} (H:WgLib Tryz.prog L)
include hP H
theorem AMp{T:Array AQ}{k:List Item}{o:Own C.SR}(hfw:C.FW o)(hs:s=true\/kk=C.N)(hlive: ∃w,Live C w):
  PW C (.work s) kk (G {fr 75 T k [Oc C.bc,dcall L.done #[.pointer (AA ⟨C.wg,0,AB⟩)]] AB true with mode:=.returning} [gx]) o:=by
 refine .clo (b':=G {fr 75 T k [dcall L.done #[.pointer (AA ⟨C.wg,0,AB⟩)]] AB true with mode:=.returning} [gx]) (es:=#[⟨.obj C.bc,false,true⟩,⟨.obj C.bc,true,true⟩]) rfl rfl rfl hs (λe he=>by simpa using he) (λw w' _ h=>by rw[hP];exact AJQ h) ?_;obtain⟨w0,h0⟩:=hlive;refine .free (λ_=>G ((baseD L.done).at ⟨#[.pointer (AA ⟨C.wg,0,AB⟩),AU,AU,AU],[]⟩ [.code (body_done L)]) [{fr 75 T k [] AB true with mode:=.returning},gx]) rfl rfl (λw _=>⟨rfl,?_⟩) λw _=>?_
 ·rw[hP];exact stepG_unwind_enter (b:=fr 75 T k [] AB true) (a:=⟨T,[dcall L.done #[.pointer (AA ⟨C.wg,0,AB⟩)]]⟩) (todo:=k) rfl H.f_done rfl rfl
 exact AHY H hP hfw h0 rfl AQe
include hR hW hx
theorem AJR{T:Array AQ}(hs:s=true\/kk=C.N)(hlive: ∃w,Live C w)(hst:(s1.st== .busy)=false)(Qj:s1.pd=AB\/s1.pd=AA .ret)
  (hfw:C.FW (ow R Gb (Lv W x s1.gone s2 AB AB))):
  PW C (.work s) kk (G (fr 75 T [.endRangeFunc W.l1,.inBlock 0] [{target:=.collected W.d1,args:=#[]},Oc C.bc,dcall L.done #[.pointer (AA ⟨C.wg,0,AB⟩)]] AB true) [gx]) (ow R Gb (Lv W x s1 s2 (AA []) AB)):=by
 refine AQa (fn:=75) (s1':=s1.gone) hP hR hW hx (λw h=>AGL h hst) rfl ?_
 have fin: ∀k,PW C (.work s) kk (G {fr 75 T k [{target:=.collected W.d1,args:=#[]},Oc C.bc,dcall L.done #[.pointer (AA ⟨C.wg,0,AB⟩)]] AB true with mode:=.returning} [gx]) (ow R Gb (Lv W x s1.gone s2 (AA []) AB)):=λk=>by
  refine AQc (fn:=75) hP hR hW hx (λw h=>AGM h) rfl ?_;exact AMp hP H hfw hs hlive
 rcases Qj with h|h
 ·simp only[h,YC,Option.toList_none,EE];refine Fq ?_;refine CX (Ci hP) (λw=>AEa) rfl ?_;exact fin _
 simp only[h,Fj,fC,Dn,EE];refine CX (Ci hP) (λw=>OZ) rfl ?_;exact fin _
theorem ACA{T T':Array AQ}(hs:s=true\/kk=C.N)(hlive: ∃w,Live C w)(hst:(s1.st== .busy)=false)(Qj:s1.pd=AB\/s1.pd=AA .ret)(hst2:(s2.st== .busy)=false)(ASq:s2.pd=AB\/s2.pd=AA .ret)
  (hfw:C.FW (ow R Gb (Lv W x s1.gone s2.gone AB AB))):
  PW C (.work s) kk (G (fr 79 T [.endRangeFunc W.l2,.inBlock 0] [{target:=.collected W.d2,args:=#[]}] AB)
   [fr 75 T' [.inRangeFunc W.l1,.inBlock 0] [{target:=.collected W.d1,args:=#[]},Oc C.bc,dcall L.done #[.pointer (AA ⟨C.wg,0,AB⟩)]] AB true,gx]) (ow R Gb (Lw W x s1 s2)):=by
 rw[AQZ];refine AQb (fn:=79) (s2':=s2.gone) hP hR hW hx (λw h=>AGL h hst2) rfl ?_
 have fin: ∀k,PW C (.work s) kk (G {fr 79 T k [{target:=.collected W.d2,args:=#[]}] AB with mode:=.returning}
   [fr 75 T' [.inRangeFunc W.l1,.inBlock 0] [{target:=.collected W.d1,args:=#[]},Oc C.bc,dcall L.done #[.pointer (AA ⟨C.wg,0,AB⟩)]] AB true,gx]) (ow R Gb (Lv W x s1 s2.gone (AA []) (AA []))):=λk=>by
  refine AQd (fn:=79) hP hR hW hx (λw h=>AGM h) rfl ?_;refine JU (Ci hP) Tryz.func79 (λw=>YR rfl w) ?_;exact AJR hP hR hW hx H hs hlive hst Qj hfw
 rcases ASq with h|h
 ·simp only[h,YC,Option.toList_none,EE];refine Fq ?_;refine CX (Ci hP) (λw=>AEa) rfl ?_;exact fin _
 simp only[h,Fj,fC,Dn,EE];refine CX (Ci hP) (λw=>OZ) rfl ?_;exact fin _
end
section
variable {C:Cx} {P:BM} (hP:C.P=P) {s:Bool} {kk:Nat} {R:RF C.SR} {Gb:Nat->Prop} {L:List (Nat×Obj)}
 {fn:Bl} {T:Array AQ} {k:List Item} {D:List EL} {cs:List AX} {kd:Bool}
include hP
theorem wL{f:DU}{g:Bl}{q:Array AQ}{ps:Array Tmp}{a b:Code}{gf:Func}(hf:ev T f=.func (.func g) #[] q)(hg:P.funcs[g]? =AA gf)(hb:gf.body.isNone=false)(hn:(gf.name== "runtime.NumGoroutine")=false)
  (next: ∀d,(∃w,(ow R Gb L).I w/\w.heap.size=d)->PW C (.work s) kk (G (Bc P g (#[.func (.yield (d+1)) #[] #[]]++q) .normal) (fr fn T (.inRangeFunc (d+1)::k) ({target:=.collected d,args:=#[]}::D) AB kd::cs))
   (ow R Gb ((d,.deferred (AA []))::(d+1,.loop {state:=.ready,pending:=AB,fn:=fn,tmps:=T,params:=ps,assign:=a,body:=b,defers:=d})::L))):
  PW C (.work s) kk (G (fr fn T (.code (.rangeFunc f ps a b)::k) D AB kd) cs) (ow R Gb L):=by
 refine AB4 (Ci hP) (λn=>[.deferred (AA []),.loop {state:=.ready,pending:=AB,fn:=fn,tmps:=T,params:=ps,assign:=a,body:=b,defers:=n}]) (λ_ _=>rfl)
  (λd=>G (Bc P g (#[.func (.yield (d+1)) #[] #[]]++q) .normal) (fr fn T (.inRangeFunc (d+1)::k) ({target:=.collected d,args:=#[]}::D) AB kd::cs)) (λw hw'=>?_) rfl λn hn=>?_
 ·rw[AJP hf hg hb hn];congr 1
 have h:=next n hn;simp only[EY,Hg,Ky,Jp,Fp,List.range.loop,BN,EG,Dn,EE];exact h
end
section
variable {C:Cx} (hP:C.P=Tryz.prog) {s:Bool} {kk:Nat} {R:RF C.SR} {Gb:Nat->Prop} {L:List (Nat×Obj)} {cs:List AX}
include hP
theorem w23{D:Option Ag}{n c:Nat}{sz:Nat}(hsz:1<=sz){Wi:AX}
  (next: ∀A2 B2,PW C (.work s) kk (G (Wi.finish (.func (.func 119) #[] #[.pointer (AA ⟨A2,0,AB⟩),.pointer (AA ⟨B2,0,AB⟩)])) cs) (ow R Gb ((B2,.cells #[.int .i64 (sz:Int)] 3)::(A2,.cells #[.slice D n c] 62)::L))):
  PW C (.work s) kk (G (Bc Tryz.prog 80 #[.slice D n c,.int .i64 (sz:Int)] .normal) (Wi::cs)) (ow R Gb L):=by
 rw[IQ Tryz.func80 rfl];simp only[Tryz.f80,Iq,EY,Hg,Jp,MH,KL,MI,KN,KO,EE,Dn];(iterate 2 refine Fq ?_);refine Oa (Ci hP) (λm=>.pointer (AA ⟨m,0,AB⟩)) (.cells #[.slice D n c] 62) rfl rfl (.inl rfl) (λw hw=>?_) (λw hw=>?_) λA2 hA=>?_
 ·unfold ev;simp[go_sem,BI,TR]
 ·unfold ev;simp[go_sem,BI,TR]
 simp only[put];walk_nrm;refine Oa (Ci hP) (λm=>.pointer (AA ⟨m,0,AB⟩)) (.cells #[.int .i64 (sz:Int)] 3) rfl rfl (.inl rfl) (λw hw=>?_) (λw hw=>?_) λB2 hB=>?_
 ·unfold ev;simp[go_sem,BI,TR]
 ·unfold ev;simp[go_sem,BI,TR]
 simp only[put];walk_nrm
 have fB: ∀(w:AL),(ow R Gb ((B2,.cells #[.int .i64 (sz:Int)] 3)::(A2,.cells #[.slice D n c] 62)::L)).I w->w.cell? ⟨B2,0,AB⟩=AA (.int .i64 (sz:Int)):=λw hw=>by
  have h:=hw.1 (B2,.cells #[.int .i64 (sz:Int)] 3) (Ee ..);unfold Pj;rw[h];rfl
 have rB:(ow R Gb ((B2,.cells #[.int .i64 (sz:Int)] 3)::(A2,.cells #[.slice D n c] 62)::L)).O B2:=.inr (OD (Ee ..));(iterate 5 refine Fq ?_);refine EC (Ci hP) ?_ (hr:=by intro w hw;have f0:=fB w hw;unfold ev;go_simp;exact rfl) (he:=by intro w hw;have f0:=fB w hw;unfold ev;simp[go_sem,f0];exact⟨.inl rB,rfl⟩);refine Fq ?_;(have hlt:decide ((sz:Int)<1)=false:=by simp;omega);simp only[hlt];refine Fq ?_;refine CX (Ci hP) (λw=>s_cond (b:=false) rfl) rfl ?_;simp only[if_true,DC,↓reduceIte];(iterate 3 refine Fq ?_);refine EC (Ci hP) ?_ (he:=by intro w hw;unfold ev;simp[go_sem,Instr.makeFunc]);(iterate 2 refine Fq ?_);refine CX (Ci hP) (λw=>OZ) rfl ?_;exact JU (Ci hP) Tryz.func80 (λw=>Md (t:=4) rfl w) (next A2 B2)
end
structure AEm (C:Cx) (R:RF C.SR) (xb p1 p2:Nat) (D:Option Ag) (n c sz:Nat):Prop where
 xS:C.SR xb
 s1:C.SR p1
 s2:C.SR p2
 x: ∀w,R.R w->w.cell? ⟨xb,0,AB⟩=AA (.func (.func 79) #[] #[.pointer (AA ⟨p1,0,AB⟩),.pointer (AA ⟨p2,0,AB⟩)])
 c1: ∀w,R.R w->w.cell? ⟨p1,0,AB⟩=AA (.slice D n c)
 c2: ∀w,R.R w->w.cell? ⟨p2,0,AB⟩=AA (.int .i64 (sz:Int))
theorem AHb{p:Array AQ}{w:AL}:(E8 80 p).events Tryz.prog w #[]= #[]:=by rfl
section
variable {C:Cx} (hP:C.P=Tryz.prog) {s:Bool} {kk:Nat} {R:RF C.SR} {Gb:Nat->Prop} {L:List (Nat×Obj)} {cs:List AX}
include hP
theorem ASr{xb p1 p2:Nat}{D:Option Ag}{n c sz:Nat}(hS:AEm C R xb p1 p2 D n c sz)(hsz:1<=sz){l1:Nat}{c25:AX}
  (next: ∀yb A2 B2 d2,(∀z∈L.map Ac,z<d2)->PW C (.work s) kk
   (G (Bc Tryz.prog 119 (#[.func (.yield (d2+1)) #[] #[]]++ #[.pointer (AA ⟨A2,0,AB⟩),.pointer (AA ⟨B2,0,AB⟩)]) .normal)
    (fr 79 (jY (.func (.yield l1) #[] #[]) (.pointer (AA ⟨p1,0,AB⟩)) (.pointer (AA ⟨p2,0,AB⟩)) yb (.slice D n c) (.int .i64 (sz:Int)) (.func (.func 119) #[] #[.pointer (AA ⟨A2,0,AB⟩),.pointer (AA ⟨B2,0,AB⟩)]) AU) [.inRangeFunc (d2+1),.inBlock 0] [{target:=.collected d2,args:=#[]}] AB::c25::cs))
   (ow R Gb ((d2,.deferred (AA []))::(d2+1,lp 79 Tryz.f79 (jY (.func (.yield l1) #[] #[]) (.pointer (AA ⟨p1,0,AB⟩)) (.pointer (AA ⟨p2,0,AB⟩)) yb (.slice D n c) (.int .i64 (sz:Int)) (.func (.func 119) #[] #[.pointer (AA ⟨A2,0,AB⟩),.pointer (AA ⟨B2,0,AB⟩)]) AU) d2 LS.ready)
    ::(B2,.cells #[.int .i64 (sz:Int)] 3)::(A2,.cells #[.slice D n c] 62)::(yb,.cells #[.func (.yield l1) #[] #[]] 171)::L))):
  PW C (.work s) kk (G (Bc Tryz.prog 79 (#[.func (.yield l1) #[] #[]]++ #[.pointer (AA ⟨p1,0,AB⟩),.pointer (AA ⟨p2,0,AB⟩)]) .normal) (c25::cs)) (ow R Gb L):=by
 rw[IQ Tryz.func79 rfl];simp only[Tryz.f79,Iq,EY,Hg,Jp,MH,KL,MI,KN,KO,EE,Dn];(iterate 2 refine Fq ?_);refine Oa (Ci hP) (λm=>.pointer (AA ⟨m,0,AB⟩)) (.cells #[.func (.yield l1) #[] #[]] 171) rfl rfl (.inl rfl) (λw hw=>?_) (λw hw=>?_) λyb hyb=>?_
 ·unfold ev;simp[go_sem,BI,TR]
 ·unfold ev;simp[go_sem,BI,TR]
 simp only[put];walk_nrm;have f1: ∀(w:AL),(ow R Gb ((yb,.cells #[.func (.yield l1) #[] #[]] 171)::L)).I w->w.cell? ⟨p1,0,AB⟩=AA (.slice D n c):=λw hw=>hS.c1 w hw.2;have f2: ∀(w:AL),(ow R Gb ((yb,.cells #[.func (.yield l1) #[] #[]] 171)::L)).I w->w.cell? ⟨p2,0,AB⟩=AA (.int .i64 (sz:Int)):=λw hw=>hS.c2 w hw.2;have r1:=hS.s1;have r2:=hS.s2;(iterate 3 refine Fq ?_);refine EC (Ci hP) ?_ (hr:=by intro w hw;have f0:=f1 w hw;have f1:=f2 w hw;unfold ev;go_simp;exact rfl) (he:=by intro w hw;have f0:=f1 w hw;have f1:=f2 w hw;unfold ev;simp[go_sem,f0];exact⟨.inr r1,rfl⟩);refine EC (Ci hP) ?_ (hr:=by intro w hw;have f0:=f1 w hw;have f1:=f2 w hw;unfold ev;go_simp;exact rfl) (he:=by intro w hw;have f0:=f1 w hw;have f1:=f2 w hw;unfold ev;simp[go_sem,f1];exact⟨.inr r2,rfl⟩);refine Ro (Ci hP) (f:=80) (args:=#[.slice D n c,.int .i64 (sz:Int)]) rfl rfl (.inl rfl) (λw hw=>?_) (λw hw=>?_) ?_;rw[GR (op:=_) (f:=80) (vs:=#[.slice D n c,.int .i64 (sz:Int)]) rfl Wu];rfl;rw[GR (op:=_) (f:=80) (vs:=#[.slice D n c,.int .i64 (sz:Int)]) rfl Wu,AHb];intro e he;simp at he;refine w23 hP hsz λA2 B2=>?_;rw[EH (o:=_) rfl];simp only[put];walk_nrm;(iterate 2 refine Fq ?_);refine wL hP (g:=119) (q:=#[.pointer (AA ⟨A2,0,AB⟩),.pointer (AA ⟨B2,0,AB⟩)]) rfl Tryz.func119 rfl rfl λd2 ⟨w0,hw0,e0⟩=>?_;refine next yb A2 B2 d2 λz hz=>?_;obtain⟨p,hp,rfl⟩:=CG.1 hz;rw[<- e0];exact (Dj.1 (hw0.1 p (DD _ (DD _ (DD _ hp))))).1
end
section
variable {xs:Array DU}{ats:Array Am}{T:Array AQ}{op:BX}{P:BM}{w:AL}
theorem AQf{α:Type}{a b c d e f g:α}: ∀p,p∈[a,b,c,d,e,f,g]↔p∈[g,b,f,a,c,d,e]:=by
 intro p;simp only[BF,BH,or_false];constructor<;>rintro (h|h|h|h|h|h|h)<;>simp[h]
theorem dC{g:Bl}(hop:op.op=.defer {callee:=.value (.func g),args:=xs,argTypes:=ats}):(BI (ev T) op).run P w=.ok (.defer (dcall g (xs.map (ev T)))) w/\(BI (ev T) op).events P w #[]= #[]:=by
 have ef:ev T (.func g)=.func (.func g) #[] #[]:=rfl;unfold BI;constructor<;>simp[hop,resolve,Pv,ef,dcall]
theorem dD{b:Builtin}(hop:op.op=.defer {callee:=.builtin b,args:=xs,argTypes:=ats}):(BI (ev T) op).run P w=.ok (.defer {target:=.builtin b ats op.type (xs.map fun| .const _=>true|_=>false),args:=xs.map (ev T)}) w/\(BI (ev T) op).events P w #[]= #[]:=by
 unfold BI;rw[hop];exact⟨rfl,rfl⟩
theorem pF{fn:Bl}{l:Nat}{k:List Item}{D:List EL}{v:AQ}{kd:Bool}:(fr fn T (.inRangeFunc l::k) D AB kd).finish v=fr fn T (.endRangeFunc l::k) D AB kd:=rfl
theorem AMq{p:Array AQ}:Af Tryz.prog false (born Tryz.prog {target:=.fn (.func 75) p,args:=#[]}) w=.go (G (Bc Tryz.prog 75 p .deferred) [gx]) w #[]:=by
 (have h1:(E8 75 p).runT Tryz.prog w #[]=(.ok (.enter 75 p) w,#[]):=by rfl);(have h2:(E8 75 p).events Tryz.prog w #[]= #[]:=by rfl);simp[born,Af,unwind,callDeferred,invoke,h2,DZ,seen_none,gx,G];rfl
section
variable {C:Cx} (hP:C.P=Tryz.prog) {R:RF C.SR} (hR:R.Ok) {wg cb xb sb p1 p2:Nat} (hS:lg C R cb sb)
 {l:List UInt8} {sz c:Nat} {D:Option Ag} (hX:AEm C R xb p1 p2 D l.length c sz)
 (hsz:1<=sz) (hle:l.length<=1073741824) (o9:sz<=9223372036854775807) (hc:l.length<=c) (hDn:D=AB->l=[]) (hD:0<l.length->∀d,D=AA d->C.SR d.block/\∀w,R.R w->∀j v,(Jw l)[j]? =AA v->w.cell? (d.add j)=AA v)
 (hcs: ∀k,k*sz<l.length->∀m cap,¬C.SR m->((l.drop (k*sz)).take sz).length<=cap->Vh ((l.drop (k*sz)).take sz).length 5 cap->C.Cs k (.slice (AA ⟨m,0,AB⟩) ((l.drop (k*sz)).take sz).length cap) m (.cells ((Jw ((l.drop (k*sz)).take sz)).toArray++IM (cap - ((l.drop (k*sz)).take sz).length) (.int .u8 0)) 5))
 (hN: ∀k,l.length<=k*sz->(∀j,j<k->j*sz<l.length)->k=C.N) (hlive: ∃w,Live C w) (hfw: ∀L,C.FW (ow R (λ_=>False) L)) (hwg:C.wg=wg)
include hP hR hS hX hsz hle o9 hc hDn hD hcs hN hlive hfw hwg
theorem w_all:PW C (.work false) 0 (born Tryz.prog {target:=.fn (.func 75) #[.pointer (AA ⟨wg,0,AB⟩),.pointer (AA ⟨cb,0,AB⟩),.pointer (AA ⟨xb,0,AB⟩),.pointer (AA ⟨sb,0,AB⟩)],args:=#[]}) (ow R (λ_=>False) []):=by
 have HS:=AO hS;have HX:=AO hX;have Hle:=AO hle;have AJO:=AO o9;have Hc:=AO hc;have HDn:=AO hDn;have HD:=AO hD;have Hcs:=AO hcs;have HN:=AO hN;have Hfw:=AO hfw;have Hsz:=AO hsz;have fc: ∀(w:AL),(ow R (λ_=>False) []).I w->w.cell? ⟨cb,0,AB⟩=AA (.chan (AA C.bc)):=λw hw=>hS.cb w hw.2;have fx: ∀(w:AL),(ow R (λ_=>False) []).I w->w.cell? ⟨xb,0,AB⟩=AA (.func (.func 79) #[] #[.pointer (AA ⟨p1,0,AB⟩),.pointer (AA ⟨p2,0,AB⟩)]):=λw hw=>hX.x w hw.2;have rc:=hS.cbS;have rx:=hX.xS;clear hS hX hle o9 hc hDn hD hcs hN hfw hsz;subst hwg;refine CX (Ci hP) (g':=G (Bc Tryz.prog 75 #[.pointer (AA ⟨C.wg,0,AB⟩),.pointer (AA ⟨cb,0,AB⟩),.pointer (AA ⟨xb,0,AB⟩),.pointer (AA ⟨sb,0,AB⟩)] .deferred) [gx]) (λw=>AMq) rfl ?_;rw[AEl Tryz.func75 rfl];simp only[Tryz.f75,Iq,EY,Hg,Jp,MH,KL,MI,KN,KO,EE,Dn];(iterate 2 refine Fq ?_);refine wF (Ci hP) (d:=dcall link.done #[.pointer (AA ⟨C.wg,0,AB⟩)]) rfl rfl (λw hw=>(dC (op:=_) rfl).1.trans Wu) (λw hw=>Gu (dC (op:=_) rfl).2) ?_;simp only[put];walk_nrm;(iterate 3 refine Fq ?_);refine EC (Ci hP) ?_ (hr:=by intro w hw;have f0:=fc w hw;unfold ev;go_simp;exact rfl) (he:=by intro w hw;have f0:=fc w hw;unfold ev;simp[go_sem,f0];exact⟨.inr rc,rfl⟩);refine wF (Ci hP) (d:=Oc C.bc) rfl rfl (λw hw=>(dD (op:=_) rfl).1.trans Wu) (λw hw=>Gu (dD (op:=_) rfl).2) ?_;simp only[put];walk_nrm;(iterate 3 refine Fq ?_);refine EC (Ci hP) ?_ (hr:=by intro w hw;have f0:=fx w hw;unfold ev;go_simp;exact rfl) (he:=by intro w hw;have f0:=fx w hw;unfold ev;simp[go_sem,f0];exact⟨.inr rx,rfl⟩);(iterate 2 refine Fq ?_);refine wL hP (g:=79) (q:=#[.pointer (AA ⟨p1,0,AB⟩),.pointer (AA ⟨p2,0,AB⟩)]) rfl Tryz.func79 rfl rfl λd1 _=>?_;refine ASr hP HX.out Hsz.out λyb A2 B2 d2 hd2=>?_;have hdd:d1≠d2:=au (hd2 d1 (Ee ..));obtain⟨W,hW⟩: ∃W:WB,W={l1:=d1+1,l2:=d2+1,d1:=d1,d2:=d2,T1:=jW C.wg cb xb sb C.bc (.func (.func 79) #[] #[.pointer (AA ⟨p1,0,AB⟩),.pointer (AA ⟨p2,0,AB⟩)]) AU,T2:=jY (.func (.yield (d1+1)) #[] #[]) (.pointer (AA ⟨p1,0,AB⟩)) (.pointer (AA ⟨p2,0,AB⟩)) yb (.slice D l.length c) (.int .i64 (sz:Int)) (.func (.func 119) #[] #[.pointer (AA ⟨A2,0,AB⟩),.pointer (AA ⟨B2,0,AB⟩)]) AU,bx:=[(B2,.cells #[.int .i64 (sz:Int)] 3),(A2,.cells #[.slice D l.length c] 62),(yb,.cells #[.func (.yield (d1+1)) #[] #[]] 171)]}:=⟨_,rfl⟩
 have ANW:W.Ok:=by
  refine⟨λp hp=>?_,by rw[hW];exact hdd⟩;rw[hW] at hp;simp only[BF,BH,or_false] at hp;rcases hp with rfl|rfl|rfl<;>exact⟨_,_,_,rfl⟩
 have key:PW C (.work false) 0
   (G (Bc Tryz.prog 119 (#[.func (.yield W.l2) #[] #[]]++ #[.pointer (AA ⟨A2,0,AB⟩),.pointer (AA ⟨B2,0,AB⟩)]) .normal)
    [fr 79 W.T2 [.inRangeFunc W.l2,.inBlock 0] [{target:=.collected W.d2,args:=#[]}] AB,
     fr 75 W.T1 [.inRangeFunc W.l1,.inBlock 0] [{target:=.collected W.d1,args:=#[]},Oc C.bc,dcall link.done #[.pointer (AA ⟨C.wg,0,AB⟩)]] AB true,gx])
   (ow R (λ_=>False) (Lw W [] LS.ready LS.ready)):=by
  (have hA:(A2,QI #[.slice D l.length c] 62)∈W.bx:=by rw[hW];exact DD _ (Ee ..));(have hB:(B2,QI #[.int .i64 (sz:Int)] 3)∈W.bx:=by rw[hW];exact Ee ..);(have hY:(yb,QI #[.func (.yield W.l1) #[] #[]] 171)∈W.bx:=by rw[hW];exact DD _ (DD _ (Ee ..)));(have hT1:W.T1=jW C.wg cb xb sb C.bc (.func (.func 79) #[] #[.pointer (AA ⟨p1,0,AB⟩),.pointer (AA ⟨p2,0,AB⟩)]) AU:=by rw[hW]);(have hT2:W.T2=jY (.func (.yield W.l1) #[] #[]) (.pointer (AA ⟨p1,0,AB⟩)) (.pointer (AA ⟨p2,0,AB⟩)) yb (.slice D l.length c) (.int .i64 (sz:Int)) (.func (.func 119) #[] #[.pointer (AA ⟨A2,0,AB⟩),.pointer (AA ⟨B2,0,AB⟩)]) AU:=by rw[hW]);clear hW;have KA:=AO hA;have KB:=AO hB;have KY:=AO hY;have K1:=AO hT1;have K2:=AO hT2;have KW:=AO ANW;have KR:=AO hR;clear hA hB hY hT1 hT2 ANW hdd hd2 fc fx
  have go:=w29 hP KR.out KW.out HS.out K1.out K2.out KY.out (cF:=fr 79 W.T2 [.inRangeFunc W.l2,.inBlock 0] [{target:=.collected W.d2,args:=#[]}] AB) (cs:=[fr 75 W.T1 [.inRangeFunc W.l1,.inBlock 0] [{target:=.collected W.d1,args:=#[]},Oc C.bc,dcall link.done #[.pointer (AA ⟨C.wg,0,AB⟩)]] AB true,gx]) KA.out KB.out Hsz.out Hle.out AJO.out Hc.out HDn.out HD.out Hcs.out HN.out
   (λx hx=>by
    rw[pF]
    exact ACA hP KR.out KW.out hx wgLib (.inr rfl) hlive rfl (.inl rfl) rfl (.inl rfl) (Hfw.out _))
   (λk x hx=>by
    rw[pF]
    exact ACA hP KR.out KW.out hx wgLib (.inl rfl) hlive rfl (.inr rfl) rfl (.inr rfl) (Hfw.out _))
   (l.length+1) 0 0 (mr _) Aa (λj hj=>Ak hj (yg _)) [] (λp hp=>by cases hp)
  have Go:=AO go;clear go;rw[IQ Tryz.func119 rfl];simp only[Tryz.f119,Iq,EY,Hg,Jp,MH,KL,MI,KN,KO,EE,Dn];(iterate 5 refine Fq ?_);refine CX (Ci hP) (λw=>lY) rfl ?_;exact Go.out ..
 rw[hW] at key;rw[Xf AQf];exact key
end
end
section
variable {C:Cx} {P:BM} (hP:C.P=P) {Fin:Nat->Ad->Own C.SR->Prop} {kk:Nat} {R:RF C.SR} {Gb:Nat->Prop} {L:List (Nat×Obj)}
 {fn:Bl} {T:Array AQ} {k:List Item} {D:List EL} {ro:Option Nat} {cs:List AX} {ops:Array BX} {i:Nat} {rest:List Nat} {op:BX} {o:Own C.SR}
include hP
theorem AJS{z:AQ}(go:AQ->Nat->Obj->Own C.SR)(ho:ops[i]? =AA op)(hw:DX op (yielded ops T)=true)(hd:ro=AB\/∀c,op.op≠ .defer c)
  (hr: ∀w,o.I w->(BI (ev T) op).run P w=.ok (.comm #[rcase C.bc z] true (.recv true)) w) (he: ∀w,o.I w->(BI (ev T) op).events P w #[]= #[])
  (hO: ∀xv bk ob,C.Cs kk xv bk ob->∀x,(go xv bk ob).O x↔o.O x\/x=bk) (hI: ∀xv bk ob,C.Cs kk xv bk ob->∀w,o.I w->¬o.O bk->w.heap[bk]? =AA ob->(go xv bk ob).I w)
  (n1: ∀xv bk ob,C.Cs kk xv bk ob->PM C Fin .work (kk+1) (G (fr fn (put T op.dst (.tuple #[xv,.bool true])) (.inRegion ops rest::k) D ro) cs) (go xv bk ob))
  (n0:kk=C.N->PM C Fin .work kk (G (fr fn (put T op.dst (.tuple #[z,.bool false])) (.inRegion ops rest::k) D ro) cs) o):
  PM C Fin .work kk (G (fr fn T (.inRegion ops (i::rest)::k) D ro) cs) o:=by
 subst hP
 have e: ∀q v b,((G (fr fn T (.inRegion ops (i::rest)::k) D ro) cs).finishComm C.P #[rcase C.bc z] (.recv true) q v b)=G (fr fn (put T op.dst (commResult #[rcase C.bc z] (.recv true) q v b)) (.inRegion ops rest::k) D ro) cs:=λq v b=>by
  unfold Goroutine.finishComm;rw[show (G (fr fn T (.inRegion ops (i::rest)::k) D ro) cs).frame=fr fn T (.inRegion ops (i::rest)::k) D ro from rfl,EH ho];rfl
 (have r1: ∀v b,commResult #[rcase C.bc z] (.recv true) 0 v b=.tuple #[v,.bool b]:=λv b=>by simp[commResult]);refine .recv (z:=z) go rfl rfl (λw hw'=>?_) hO hI (λxv bk ob h=>?_) λh=>?_
 ·rw[AGF ho hw hd (hr w hw'),he w hw'];rfl
 rw[e,r1];exact n1 xv bk ob h;rw[e,r1];exact n0 h
theorem AHc{es:Array Be}(hes:U1 C.bs es)(hmw:mayWake P (G (fr fn T (.inRegion ops (i::rest)::k) D ro) cs)=true)(ho:ops[i]? =AA op)(hw:DX op (yielded ops T)=true)(hd:ro=AB\/∀c,op.op≠ .defer c)
  (hr: ∀w w',o.I w->QR w C.bs w'->(BI (ev T) op).run P w=.ok (.value (.tuple #[])) w'/\seen P fn ((BI (ev T) op).events P w #[])=es)
  (next:PM C Fin .fV kk (G (fr fn (put T op.dst (.tuple #[])) (.inRegion ops rest::k) D ro) cs) o):
  PM C Fin .work kk (G (fr fn T (.inRegion ops (i::rest)::k) D ro) cs) o:=by
 subst hP;refine .clo rfl rfl hmw hes (λw w' hI hc=>?_) next;rw[Xb ho hw hd (hr w w' hI hc).1,(hr w w' hI hc).2]
end
theorem uY{p q:Prop}(n:p)(h:p->q:=by intro n;first|((with_reducible refine CX (O1 hP) (λw=>KD) ?_ n)<;>rfl)|((with_reducible refine CX (O1 hP) (λw=>s_reg) ?_ n)<;>rfl)|((with_reducible refine CX (O1 hP) (λw=>GL) ?_ n)<;>rfl)|((with_reducible refine CX (O1 hP) (λw=>QT) ?_ n)<;>rfl)|((with_reducible refine CX (O1 hP) (λw=>LK) ?_ n)<;>rfl)|((with_reducible refine CX (O1 hP) (λw=>N8) ?_ n)<;>rfl)|((with_reducible refine CX (O1 hP) (λw=>RQ) ?_ n)<;>rfl)|((with_reducible refine CX (O1 hP) (λw=>QU ?_) ?_ n)<;>rfl)|((with_reducible refine CX (O1 hP) (λw=>QW ?_) ?_ n)<;>rfl)|exact EC (O1 hP) n|exact CX (O1 hP) (λw=>KD) rfl n|exact CX (O1 hP) (λw=>s_reg) rfl n|exact CX (O1 hP) (λw=>GL) rfl n|exact CX (O1 hP) (λw=>QT) rfl n|exact CX (O1 hP) (λw=>LK) rfl n|exact CX (O1 hP) (λw=>N8) rfl n|exact CX (O1 hP) (λw=>RQ) rfl n|exact CX (O1 hP) (λw=>QU rfl) rfl n|exact CX (O1 hP) (λw=>QW rfl) rfl n):q:=h n
structure Fs.Alike (F F':Fs):Prop where
 v: ∀x,F x->F.v x->F' x/\F'.v x
 c: ∀x,F.c x->F'.c x
 r: ∀x,F.r x->F'.r x
 p:F.p->F'.p
 z:F'.z=F.z
section
variable {F F':Fs} {ρ:Rn} {N:Nat}
theorem BC.alike(h:F.Alike F'){v v':AQ}(k:BC F ρ v v'):BC F' ρ v v':=by
 induction k with|flat hf=>exact .flat hf|ptr ha=>exact .ptr ha|slice ha=>exact .slice ha|emp hc=>exact .emp hc|map hb=>exact .map hb|chan hb=>exact .chan hb|tok hc ht hp=>exact .tok hc ht (hp.imp h.p id)|mf hx hm=>exact .mf hx hm|func hf hv h1 _ h2 _ i1 i2=>exact .func (h.v _ hf hv).1 (h.v _ hf hv).2 h1 i1 h2 i2|yield hl=>exact .yield hl|seq hq=>rw[<- h.z];exact .seq hq|iface _ i=>exact .iface i|agg h1 _ i=>exact .agg h1 i|tuple h1 _ i=>exact .tuple h1 i
theorem BB.alike(h:F.Alike F'){p p':Array AQ}(k:BB F ρ p p'):BB F' ρ p p':=⟨k.1,λi v v' h1 h2=>(k.2 i v v' h1 h2).alike h⟩
theorem F8.alike(h:F.Alike F'){e e':MapEntry}(k:F8 F ρ e e'):F8 F' ρ e e':=by
 obtain⟨a1,a2,a3⟩:=k;exact⟨a1.alike h,a2.alike h,a3⟩
theorem Gx.alike(h:F.Alike F'){o o':Obj}(k:Gx F ρ o o'):Gx F' ρ o o':=by
 cases k with|cells hp=>exact .cells (hp.alike h)|map hs he=>exact .map hs λi e e' h1 h2=>(he i e e' h1 h2).alike h|mapIter hb=>exact .mapIter hb|La=>exact .La|stringIter=>exact .stringIter|loop k=>exact .loop ⟨k.state,k.pending,k.fn,k.tmps.alike h,k.params,k.few,k.assign,k.body,h.r _ k.okF,h.c _ k.okA,h.c _ k.okB,λj hj=>h.c _ (k.okJ j hj),k.defers⟩|deferred=>exact .deferred|Kz=>exact .Kz|number ha=>exact .number ha|chan=>exact .chan
theorem DF.alike(h:F.Alike F'){v w:AL}(k:DF F N ρ v w):DF F' N ρ v w:=
 ⟨k.ok,λa b hab=>let ⟨o,o',h1,h2,h3⟩:=k.obj a b hab;⟨o,o',h1,h2,h3.alike h⟩,k.tok,k.nv,k.nw,k.os,k.seq⟩
end
structure OG {SR:Nat->Prop} (R:RF SR) (ρ:Rn):Prop where
 dis: ∀a b,ρ.r a b->¬SR b
 sl: ∀w,R.R w->∀s n a b,ρ.q s n a b->∃B,Ij w B s n a b/\∀c∈B,SR c
def og {SR:Nat->Prop} (F:Fs) (N:Nat) (R:RF SR) (ρ:Rn) (v:AL) (h:OG R ρ):Own SR where
 O:=λb=>∃a,ρ.r a b
 I:=λw=>DF F N ρ v w/\R.R w
 st:=λw w1 hI k hz _ ho=>by
  have hR:=R.st w w1 hI.2 (λb hb=>k b (.inr hb)) hz;refine⟨⟨hI.1.ok,λa b hab=>?_,hI.1.tok,hI.1.nv,Cj hI.1.nw hz,by rw[ho];exact hI.1.os,λs n a b hq=>?_⟩,hR⟩
  ·obtain⟨o,o',h1,h2,h3⟩:=hI.1.obj a b hab;exact⟨o,o',h1,by rw[k b (.inl ⟨a,hab⟩)];exact h2,h3⟩
  obtain⟨B,hB,hc⟩:=h.sl w1 hR s n a b hq;exact⟨B,hB,λc hcB x hx=>h.dis x c hx (hc c hcB)⟩
section
variable {SR:Nat->Prop} {R:RF SR} {F:Fs} {N:Nat} {ρ ρ1:Rn} {v v0 v1 w w1:AL} {es:Array Be}
theorem OG.next(h:OG R ρ)(hR:R.R w)(k:Stp F N ρ ρ1 v w v1 w1 es):OG R ρ1:=by
 refine⟨λa b hab hb=>?_,λw' hw'=>by rw[k.tok.2];exact h.sl w' hw'⟩;rcases (k.new a b).1 hab with x|x;exact h.dis a b x hb;have:=R.lt w hR b hb;omega
theorem OG.step(h:OG R ρ)(h1:OG R ρ1)(hR:R.R w)(k:Stp F N ρ ρ1 v w v1 w1 es):Np (og F N R ρ v0 h) (og F N R ρ1 v1 h1) w w1 es:=by
 (have hz:w.heap.size<=w1.heap.size:=by have:=k.sv;have:=k.sw;omega);refine⟨⟨k.rel,R.st w w1 hR (λb hb=>k.SC b (R.lt w hR b hb) λa hab=>h.dis a b hab hb) hz⟩,hz,λb=>?_,λb hb hn=>k.SC b hb λa hab=>hn ⟨a,hab⟩,k.tw,λe he=>?_⟩
 ·constructor
  ·rintro⟨a,hab⟩;rcases (k.new a b).1 hab with x|x;exact .inl ⟨a,x⟩;have:=k.sw;exact .inr Aa
  rintro (⟨a,hab⟩|x);exact⟨a,k.le.r _ _ hab⟩;have:=k.sw;exact⟨b+v.heap.size - w.heap.size,(k.new _ b).2 (.inr Aa)⟩
 have:=k.evs e he;unfold bC at this
 cases hl:e.loc with|cell a=>rw[hl] at this;exact .inl this|obj c=>rw[hl] at this;exact this|mark m=>rw[hl] at this;exact this|output=>trivial|_=>rw[hl] at this;exact this.elim
end
section
variable {C:Cx} {Fin:Nat->Ad->Own C.SR->Prop} {k:Nat}
theorem AGN{a:Ad}{o:Own C.SR}(hr:a.status=.running)(h: ∀w,o.I w->∃g' o' w' es,Af C.P true a w=.go g' w' es/\Np o o' w w' es/\PM C Fin .work k g' o'):PM C Fin .work k a o:=by
 have h': ∀w:AL,∃q:Ad×Own C.SR,o.I w->(∃w' es,Af C.P true a w=.go q.1 w' es/\Np o q.2 w w' es)/\PM C Fin .work k q.1 q.2:=λw=>by
  by_cases hw:o.I w
  ·obtain⟨g',o',w',es,h1,h2,h3⟩:=h w hw;exact⟨(g',o'),λ_=>⟨⟨w',es,h1,h2⟩,h3⟩⟩
  exact⟨(a,o),λx=>Ak x hw⟩
 obtain⟨q,hq⟩:=fF h';exact .QS (λw=>(q w).1) (λw=>(q w).2) hr (λw hw=>(hq w hw).1) λw hw=>(hq w hw).2
theorem AJT{K:Kit}{T:Twin}{N:Nat}{Kp:AX->List AX->AL->Prop}(CE: ∀f ts v,Kp f ts v->ts=[])(hK:Fits K T N)(hX: ∀f,K.X f=true->∀n,KT K.fb f n=false)(hCP:C.P=T.P)
  (hzz: ∀p k f1 Dl v,p.size<=K.fb.m+2->¬Ev T.v Kp (Bc T.v K.z p k) (f1::Dl) v) {R:RF C.SR} {dr:AX} {ds:List AX} {c0:AX} {cs0:List AX} (hdr:dr.mode=.run) (hc0:c0.mode=.run) {f:AX} {ZY:List AX} {v:AL} (hev:Ev T.v Kp f ZY v):
  Nk T.v Kp ⟨f,ZY,v⟩->∀{ρ:Rn} {f':AX} {ts ts':List AX},ZY=ts++dr::ds->DI K T ρ f f'->Ce (IX K T ρ) ts ts'->(∀g,g<K.G->ρ.r g g)->∀(h:OG R ρ),
   (∀v1 ρ1 x x' (h1:OG R ρ1),Jv T.v Kp ⟨dr.finish x,ds,v1⟩ ⟨f,ZY,v⟩->BC K.F ρ1 x x'->ρ.le ρ1->PM C Fin .work k (G (c0.finish x') cs0) (og K.F N R ρ1 v1 h1))->
   (∀v1 ρ1 (h1:OG R ρ1),Jv T.v Kp ⟨dr,ds,v1⟩ ⟨f,ZY,v⟩->ρ.le ρ1->PM C Fin .work k (G c0 cs0) (og K.F N R ρ1 v1 h1))->
   PM C Fin .work k (G f' (ts'++c0::cs0)) (og K.F N R ρ v h):=by
 induction hev with
 | @stop f ZY v hk=>
  intro _ ρ f' ts ts' e;have:=CE _ _ _ hk;rw[e] at this;simp at this
 | @step f ZY v Fx Sx Wx hstep hev ih=>
  intro PH ρ f' ts ts' e hf hts hG h cont AJU;subst e;(have hkp: ¬Kp f (ts++dr::ds) v:=λx=>by have:=CE _ _ _ x;simp at this);refine AGN rfl λw hw=>?_;obtain⟨hW,hR⟩:=hw;have hWd: ∀τ:Nat->F7->Nat,DF K.F N ρ (v.DN τ) w:=λτ=>hW.pre ⟨rfl,rfl⟩ ⟨rfl,rfl⟩;(let τ:Nat->F7->Nat:=λj=>if j<v.drawn then v.tape j else w.tape (w.drawn+(j - v.drawn)));(have hτ: ∀j,j<v.drawn->τ j=v.tape j:=λj hj=>by simp only[τ,hj,if_true]);obtain⟨es,hs⟩:=hstep τ hτ;have hs0:=hs;rw[KJ,Dn] at hs
  have ABo:=Ux (mn:=true) (dr:=dr) (ds:=ds++[door T.v]) (cs':=c0::cs0) hK (hWd τ) hG hf hts (λg1 v1 es _ i _ q=>by
   show τ (v.drawn+i) q=w.tape (w.drawn+i) q;(have h1: ¬v.drawn+i<v.drawn:=by omega);simp only[τ,h1,if_false]
   congr 2;omega)
  rw[hs] at ABo;have hnx:Nx T.v Kp ⟨Fx τ,Sx τ,Wx τ⟩ ⟨f,ts++dr::ds,v⟩:=⟨hkp,τ,hτ,_,hs0⟩;have ACB:=hev τ hτ;rcases ABo with ⟨f1,Dl,f1',G7,ρ1,w1,es',h1,h2,h3,h4,h5⟩|⟨X,p,p',k,f1,Dl,f1',G7,ρ1,w1,es',hX1,hX',_⟩|⟨c,h1,_,hp,_⟩|⟨_,_,f1,Dl,h1,ch,hm1,hu1⟩|⟨p,k,f1,Dl,_,hp,_,h1⟩
  ·simp only[G,Gm] at h1;obtain⟨r1,r2,_⟩:=h1;(have r2:Sx τ++[door T.v]=(Dl++dr::ds)++[door T.v]:=by rw[r2];simp);have r2:=Nc r2;have hn:=h.next hR h5;refine⟨_,_,w1,es',by rw[hCP];exact h2,h.step hn hR h5,?_⟩;exact ih τ hτ (PH.next hnx) r2 (by rw[r1];exact h3) h4 (λg hg=>h5.le.r _ _ (hG g hg)) hn (λv1 ρ2 x x' h1 n1 n2 n3=>cont v1 ρ2 x x' h1 (.cons hnx n1) n2 (h5.le.trans n3)) (λv1 ρ2 h1 n1 n3=>AJU v1 ρ2 h1 (.cons hnx n1) (h5.le.trans n3))
  ·rw[hX _ hX'.1] at hX';cases hX'.2.1
  ·simp only[G,Gm] at h1;obtain⟨r1,r2,_⟩:=h1;have r2:=Nc r2;rw[r1,r2] at hnx ACB;rcases hp c0 cs0 rfl hdr hc0 with ⟨x,x',ρ1,w1,es',e1,e2,e3,e4⟩|⟨ρ1,w1,es',e1,e2,e4⟩|⟨ch,e1,e2⟩
   ·have hn:=h.next hR e4;rw[e1] at hnx;exact⟨_,_,w1,es',by rw[hCP];exact e2,h.step hn hR e4,cont _ _ _ _ hn (.one hnx) e3 e4.le⟩
   ·have hn:=h.next hR e4;rw[e1] at hnx;exact⟨_,_,w1,es',by rw[hCP];exact e2,h.step hn hR e4,AJU _ _ hn (.one hnx) e4.le⟩
   refine Ak ?_ (PH _ (.one hnx));refine .head (ch:=ch) ?_ e2;show c.mode=_;rw[e1];unfold Frame.raise;rw[hdr]
  ·exfalso;simp only[G,Gm] at h1;obtain⟨r1,r2,_⟩:=h1;subst r1;exact PH _ (.one hnx) (.head hm1 hu1)
  exfalso;simp only[G,Gm] at h1;obtain⟨r1,r2,_⟩:=h1;(have r2:Sx τ++[door T.v]=(f1::(Dl++dr::ds))++[door T.v]:=by rw[r2];simp);have r2:=Nc r2;rw[r1,r2] at ACB;exact hzz _ _ _ _ _ hp ACB
end
noncomputable def Gl:Code:=match EP Tryz.f46 with| .seq _ (.seq _ (.seq _ (.seq _ (.seq _ (.seq (.seq _ (.block _ (.loop c))) _)))))=>c|_=>.skip
noncomputable def P9:Code:=match EP Tryz.f46 with| .seq _ (.seq _ (.seq _ (.seq _ (.seq _ (.seq _ c)))))=>c|_=>.skip
noncomputable def Zj:Array BX:=match Gl with| .seq _ (.seq _ (.block _ (.seq _ (.seq (.seq (.region _ o _) _) _))))=>o|_=>#[]
noncomputable def Zk:Code:=match Gl with| .seq _ (.seq _ (.block _ (.seq _ (.seq (.seq _ c) _))))=>c|_=>.skip
noncomputable def Zl:Code:=match Gl with| .seq _ (.seq _ (.block _ (.seq _ (.seq _ c))))=>c|_=>.skip
section
variable {C:Cx} (hP:C.P=Tryz.prog) {Fin:Nat->Ad->Own C.SR->Prop} {k:Nat} {o:Own C.SR} {cs:List AX}
include hP
theorem AHd(go:AQ->Nat->Obj->Own C.SR)(hO: ∀xv bk ob,C.Cs k xv bk ob->∀x,(go xv bk ob).O x↔o.O x\/x=bk)(hI: ∀xv bk ob,C.Cs k xv bk ob->∀w,o.I w->¬o.O bk->w.heap[bk]? =AA ob->(go xv bk ob).I w)
  {a0 a1 a2 a3 a4 a5 a6 a7 a8 a9 a10 a11 a12 LM PL a16 a17 Oe Og a20 a21 a22 a23 a24 a25 a26 a27 a28:AQ} {kt:List Item}
  (n1: ∀xv bk ob,C.Cs k xv bk ob->PM C Fin .work (k+1) (G (fr 46 #[a0,a1,a2,a3,a4,a5,a6,a7,a8,xv,a10,a11,a12,LM,.chan (AA C.bc),.tuple #[xv,.bool true],.bool true,xv,a1,xv,a20,a21,a22,a23,a24,a25,a26,a27,a28]
    (.inRegion Zj [2,3]:: .code Zk:: .code Zl:: .inBlock 1:: .inLoop Gl:: .inBlock 0::kt) [] AB) cs) (go xv bk ob))
  (n0:k=C.N->PM C Fin .work k (G (fr 46 #[a0,a1,a2,a3,a4,a5,a6,a7,a8,a9,a10,a11,a12,LM,.chan (AA C.bc),.tuple #[.slice AB 0 0,.bool false],.bool false,a17,Oe,Og,a20,a21,a22,a23,a24,a25,a26,a27,a28] kt [] AB) cs) o):
  PM C Fin .work k (G (fr 46 #[a0,a1,a2,a3,a4,a5,a6,a7,a8,a9,a10,a11,a12,LM,.chan (AA C.bc),PL,a16,a17,Oe,Og,a20,a21,a22,a23,a24,a25,a26,a27,a28] (.code Gl:: .inLoop Gl:: .inBlock 0::kt) [] AB) cs) o:=by
 have N1:=AO n1;have N0:=AO n0;have HO:=AO hO;have HI:=AO hI;clear n1 n0 hO hI;have el:Gl=Gl:=rfl
 conv at el=>lhs;simp only[Gl,EP,Tryz.f46,Dx]
 obtain⟨L0,hL0⟩: ∃L0,Item.inLoop Gl=Item.inLoop L0/\Go.RowKit.Hid (L0=Gl):=⟨Gl,rfl,rfl⟩;rw[hL0.1,<- el]
 replace hL0:=hL0.2
 clear el;(iterate 2 refine uY ?_);refine AJS hP (z:=.slice AB 0 0) go rfl rfl (.inl rfl) (λw hw=>?_) (λw hw=>?_) HO.out HI.out (λxv bk ob hc=>?_) λhk=>?_
 ·unfold ev;go_simp;try exact rfl
 ·unfold ev;simp[go_sem]
 ·have HC:=AO hc;clear hc;simp only[put];walk_nrm;(iterate 3 refine uY ?_);refine CX (O1 hP) (λw=>s_cond (b:=true) rfl) rfl ?_;simp only[if_false,DC,↓reduceIte];(iterate 12 refine uY ?_);have hL:=hL0.out;subst hL;exact N1.out xv bk ob HC.out
 simp only[put];walk_nrm;(iterate 3 refine uY ?_);refine CX (O1 hP) (λw=>s_cond (b:=false) rfl) rfl ?_;simp only[if_true,DC,↓reduceIte];refine CX (O1 hP) (λw=>s_exit rfl) rfl ?_;exact N0.out hk
end
section
variable {C:Cx} (hP:C.P=Tryz.prog) {Fin:Nat->Ad->Own C.SR->Prop} {k:Nat} {o:Own C.SR} {cs:List AX}
include hP
theorem AHe{e n:Int}{a0 a1 a2 a3 a5 a6 a7 a8 a9 a10 a11 a12 LM PL a16 a17 Oe Og a20 a21 a22 a23 a24 a25 a26 a27 a28:AQ}{kt:List Item}
  (n1:e=0->PM C Fin .work k (G (fr 46 #[a0,a1,a2,a3,.int .i64 (IntKind.i64.wrap (n+1)),.int .i64 0,a6,a7,a8,a9,a10,a11,a12,LM,.chan (AA C.bc),PL,a16,a17,Oe,Og,.int .i64 0,.int .i64 0,.bool false,.int .i64 n,.int .i64 (IntKind.i64.wrap (n+1)),a25,a26,a27,a28]
    (.code Gl:: .inLoop Gl:: .inBlock 0::kt) [] AB) cs) o)
  (n0:e≠0->PM C Fin .work k (G (fr 46 #[a0,a1,a2,a3,.int .i64 n,.int .i64 e,a6,a7,a8,a9,a10,a11,a12,LM,.chan (AA C.bc),PL,a16,a17,Oe,Og,.int .i64 e,.int .i64 e,.bool true,a23,a24,a25,a26,a27,a28] kt [] AB) cs) o):
  PM C Fin .work k (G ((fr 46 #[a0,a1,a2,a3,.int .i64 n,a5,a6,a7,a8,a9,a10,a11,a12,LM,.chan (AA C.bc),PL,a16,a17,Oe,Og,a20,a21,a22,a23,a24,a25,a26,a27,a28]
    (.inRegion Zj [2,3]:: .code Zk:: .code Zl:: .inBlock 1:: .inLoop Gl:: .inBlock 0::kt) [] AB).finish (.int .i64 e)) cs) o:=by
 have N1:=AO n1;have N0:=AO n0;clear n1 n0;have e1:Zj=Zj:=rfl
 conv at e1=>lhs;simp only[Zj,Gl,EP,Tryz.f46,Dx]
 have e2:Zk=Zk:=rfl
 conv at e2=>lhs;simp only[Zk,Gl,EP,Tryz.f46,Dx]
 have e3:Zl=Zl:=rfl
 conv at e3=>lhs;simp only[Zl,Gl,EP,Tryz.f46,Dx]
 rw[<- e1,<- e2,<- e3,EH (o:=_) rfl];clear e1 e2 e3;simp only[put];walk_nrm;by_cases he:e=0
 ·have HN:=N1.out he;subst he;have HN:=AO HN;clear N1 N0;(iterate 7 refine uY ?_);refine CX (O1 hP) (λw=>s_cond (b:=false) rfl) rfl ?_;simp only[if_true,DC,↓reduceIte];(iterate 8 refine uY ?_);exact HN.out
 have HN:=AO (N0.out he);clear N1 N0;(have hb:(e !=0)=true:=by simpa using he);(iterate 7 refine uY ?_);refine CX (O1 hP) (λw=>s_cond (b:=true) rfl) rfl ?_;simp only[if_true,if_false,↓reduceIte];refine CX (O1 hP) (λw=>s_exit rfl) rfl ?_;exact HN.out
end
section
variable {C:Cx} (hP:C.P=Tryz.prog) {Fin:Nat->Ad->Own C.SR->Prop} {k:Nat} {o:Own C.SR} {cs:List AX}
include hP
theorem zt{s:MS}{g g':Ad}(hs:s.free=true)(hr:g.status=.running)(hr':g'.status=.running)(h: ∀w,Af Tryz.prog true g w=.go g' w #[])(next:PM C Fin s k g' o):PM C Fin s k g o:=
 .free (λ_=>g') (λ_=>#[]) hs hr (λw _=>⟨hr',by rw[hP];exact h w,AV⟩) λ_ _=>next
omit hP in
theorem AJV{p:Array AQ}{w:AL}:(E8 77 p).events Tryz.prog w #[]= #[]:=by rfl
noncomputable def Zm:Array BX:=match P9 with| .seq _ (.seq (.region _ o _) _)=>o|_=>#[]
noncomputable def QC:Code:=match P9 with| .seq _ (.seq _ c)=>c|_=>.skip
theorem ACC{sb:Nat}(hsb:C.SR sb)(hrd: ∀w,o.I w->w.cell? ⟨sb,0,AB⟩=AA (.chan (AA C.bs)))(hlive: ∃w,Live C w)
  {a0 a1 a2 a3 a4 a5 a6 a9 a10 a11 a12 LM Xh PL a16 a17 Oe Og a20 a21 a22 a23 a24 a25 a26 a27 a28:AQ}
  (hfin: ∀g,bu Tryz.prog g (G (fr 46 #[a0,a1,a2,a3,a4,a5,a6,.pointer (AA ⟨sb,0,AB⟩),.pointer (AA ⟨C.wg,0,AB⟩),a9,a10,a11,a12,LM,Xh,PL,a16,a17,Oe,Og,a20,a21,a22,a23,a24,.chan (AA C.bs),.tuple #[],a27,a28] [.inRegion Zm [],.code QC] [] AB) cs)->Fin k g o):
  PM C Fin .work k (G (fr 46 #[a0,a1,a2,a3,a4,a5,a6,.pointer (AA ⟨sb,0,AB⟩),.pointer (AA ⟨C.wg,0,AB⟩),a9,a10,a11,a12,LM,Xh,PL,a16,a17,Oe,Og,a20,a21,a22,a23,a24,a25,a26,a27,a28] [.code P9] [] AB) cs) o:=by
 have Hf:=AO hfin;have Rd:=AO hrd;clear hfin hrd;have el:P9=P9:=rfl
 conv at el=>lhs;simp only[P9,EP,Tryz.f46,Dx]
 rw[<- el];clear el;(iterate 2 refine uY ?_);refine EC (O1 hP) ?_ (hr:=by intro w hw;have f0:=Rd.out w hw;unfold ev;go_simp;exact rfl) (he:=by intro w hw;have f0:=Rd.out w hw;unfold ev;simp[go_sem,f0];exact⟨.inr hsb,rfl⟩);refine AHc hP (es:=#[⟨.obj C.bs,false,true⟩,⟨.obj C.bs,true,true⟩]) (λe he=>by simpa using he) rfl rfl rfl (.inl rfl) (λw w' _ hc=>?_) ?_
 ·obtain⟨s,hs,rfl⟩:=hc;have hr:=run_close_open (P:=Tryz.prog) #[158] 0 hs;have he:=events_close_open (P:=Tryz.prog) (es:=#[]) #[158] 0 hs;rw[U8 (op:=_) rfl];simp only[J9,BN,EG];unfold ev;constructor
  ·simp[go_sem,hr]
  simp[go_sem,he,seen]
 simp only[put];walk_nrm;refine zt hP rfl rfl rfl (λw=>GL) ?_;refine zt hP rfl rfl rfl (λw=>KD) ?_;refine zt hP rfl rfl rfl (λw=>s_reg) ?_;obtain⟨w0,h0⟩:=hlive;refine zt hP (g':=G ((base link.wait).at ⟨#[.pointer (AA ⟨C.wg,0,AB⟩)]++IM ((waitFn link).ntmps - 1) AU,[]⟩ [.code (body_wait link)]) (fr 46 #[a0,a1,a2,a3,a4,a5,a6,.pointer (AA ⟨sb,0,AB⟩),.pointer (AA ⟨C.wg,0,AB⟩),a9,a10,a11,a12,LM,Xh,PL,a16,a17,Oe,Og,a20,a21,a22,a23,a24,.chan (AA C.bs),a26,a27,a28] [.inRegion Zm [0],.code QC] [] AB::cs)) rfl rfl rfl (λw=>?_) ?_
 ·refine Eq.trans (b:=.go (G (Bc Tryz.prog 77 #[.pointer (AA ⟨C.wg,0,AB⟩)] .normal) (fr 46 #[a0,a1,a2,a3,a4,a5,a6,.pointer (AA ⟨sb,0,AB⟩),.pointer (AA ⟨C.wg,0,AB⟩),a9,a10,a11,a12,LM,Xh,PL,a16,a17,Oe,Og,a20,a21,a22,a23,a24,.chan (AA C.bs),a26,a27,a28] [.inRegion Zm [0],.code QC] [] AB::cs)) w #[]) ?_ rfl;rw[s_call (f:=77) (args:=#[.pointer (AA ⟨C.wg,0,AB⟩)]) rfl rfl (.inl rfl) (w':=w) (by rw[GR (op:=_) (f:=77) (vs:=#[.pointer (AA ⟨C.wg,0,AB⟩)]) rfl Wu];rfl)];rw[GR (op:=_) (f:=77) (vs:=#[.pointer (AA ⟨C.wg,0,AB⟩)]) rfl Wu,AJV];rfl
 exact AEZ wgLib hP h0 (b₀:=fr 46 #[] [] [] AB) (a₀:=⟨#[a0,a1,a2,a3,a4,a5,a6,.pointer (AA ⟨sb,0,AB⟩),.pointer (AA ⟨C.wg,0,AB⟩),a9,a10,a11,a12,LM,Xh,PL,a16,a17,Oe,Og,a20,a21,a22,a23,a24,.chan (AA C.bs),a26,a27,a28],[]⟩) (ops₀:=Zm) (i₀:=0) (rest₀:=[]) (k₀:=[.code QC]) (cs:=cs) (λg hg=>Hf.out g hg)
end
section
variable {fn:Func}{f:Nat}
section
variable {T:Twin} {F:Fs} {N:Nat}
def AEn (T:Twin) (F:Fs) (N:Nat) (f:Bl):Prop:=∃fn,T.v.funcs[f]? =AA fn/\T.P.funcs[f]? =AA fn/\fn.body.isNone=true/\(fn.name== "runtime.NumGoroutine")=false/\(Extern.findNext fn).isNone=true/\
  match Extern.find fn with|some e=>KP T F N e|none=>(fn.name.endsWith ".init" && !fn.name.startsWith "(" && !fn.name.startsWith "gosem.")=false
theorem rowIs{f:Bl}(h:T.v.funcs[f]? =Tryz.prog.funcs[f]? /\T.P.funcs[f]? =Tryz.prog.funcs[f]?)(k:Tryz.prog.funcs[f]? =AA fn)(k2:(fn.body.isNone && !(fn.name== "runtime.NumGoroutine") && (Extern.findNext fn).isNone)=true){e:Array AQ->Sem AQ}(k3:Extern.find fn=AA e)(k4:KP T F N e):AEn T F N f:=by
 simp only[DV,ZQ] at k2;exact⟨fn,h.1.trans k,h.2.trans k,k2.1.1,k2.1.2,k2.2,by rw[k3];exact k4⟩
theorem AQg{f:Bl}(h:T.v.funcs[f]? =Tryz.prog.funcs[f]? /\T.P.funcs[f]? =Tryz.prog.funcs[f]?)(k:Tryz.prog.funcs[f]? =AA fn) (k2:(fn.body.isNone && !(fn.name== "runtime.NumGoroutine") && (Extern.findNext fn).isNone && (Extern.find fn).isNone && !(fn.name.endsWith ".init" && !fn.name.startsWith "(" && !fn.name.startsWith "gosem."))=true):AEn T F N f:=by
 rw[DV,DV] at k2;obtain⟨⟨k2,k3⟩,k4⟩:=k2;simp only[DV,ZQ] at k2;refine⟨fn,h.1.trans k,h.2.trans k,k2.1.1,k2.1.2,k2.2,?_⟩;(have k3:Extern.find fn=AB:=by simpa using k3);rw[k3];rw[ZQ] at k4;exact k4
theorem ACD(hv: ∀f,SE.contains f=true->T.v.funcs[f]? =Tryz.prog.funcs[f]? /\T.P.funcs[f]? =Tryz.prog.funcs[f]?)(hN:T.P.globals.size<N)(hb:T.P.bearsPack=false)(hp:F.p->T.p): ∀f,SE.contains f=true->AEn T F N f:=by
 intro f hf;have hm:f∈SE:=LZ.1 hf;have hv:=hv f hf;simp only[SE,BF,BH,or_false] at hm;rcases hm with rfl|rfl|rfl|rfl|rfl|rfl|rfl|rfl|rfl|rfl|rfl|rfl|rfl|rfl;exact rowIs (e:=WH) hv Tryz.func68 Az Az (AB6 hN);exact rowIs (e:=(λargs=>UO (args.getD 0 (.tuple #[])))) hv Tryz.func91 Az Az (zn hN);exact rowIs (e:=(ABH (Ox "reflectlite.Value.Type" 0) λt _ _ _=>mJ t)) hv Tryz.func92 Az Az (kV hN (λ{ρ}=>FD _ _) λt _ _ _ _ _=>Xe hN t);exact rowIs (e:=(UR (Ox "reflectlite.Value.IsNil" 0) Yp)) hv Tryz.func93 Az Az (Vg hN hb (λ{ρ}=>FD _ _) λt _ _ fl k h=>AEj t fl k h);exact rowIs (e:=MapsClone.clone) hv Tryz.func121 Az Az (AEf);exact rowIs (e:=(UR (Ox "reflectlite.Value.Elem" 0) Yq)) hv Tryz.func126 Az Az (Vg hN hb (λ{ρ}=>FD _ _) λt _ _ fl k h=>AEk hp hN t fl k h);exact rowIs (e:=eY) hv Tryz.func127 Az Az (AJG hN hb);exact AQg hv Tryz.func170 Az;exact rowIs (e:=(mV λt=>do pure (.int .u8 (<- Rtype.kind t)))) hv Tryz.func171 Az Az (AJF hN hb λt=>AEi t);exact rowIs (e:=(UR (pure (.int .u8 0)) λ_ _ _ k=>pure (.int .u8 (Int.ofNat k)))) hv Tryz.func187 Az Az (Vg (z:=pure (.int .u8 0)) (f:=λ_ _ _ k=>pure (.int .u8 (Int.ofNat k))) hN hb (λ{ρ}=>λ_=>BC.flat rfl) λt _ _ fl k h=>λ_=>BC.flat rfl);exact rowIs (e:=(QH "AssignableTo" UN)) hv Tryz.func190 Az Az (Y6 hN hb _ λu t=>zl hb u t);exact rowIs (e:=(mM λt=>do Rtype.noPackHeld "Comparable" t;pure (.bool (<- I4 t).comparable))) hv Tryz.func191 Az Az (jU hN hb λt=>kU hb t);exact rowIs (e:=(mM mO)) hv Tryz.func192 Az Az (jU hN hb λt=>AEg hN hb t);exact rowIs (e:=(QH "Implements" mP)) hv Tryz.func193 Az Az (Y6 hN hb _ λu t=>AEh hb u t)
end
theorem pG: ∀f,SE.contains f=true->Ae.funcs[f]? =Tryz.prog.funcs[f]? :=λf hf=>Aj.same (by
 refine⟨?_,?_,?_⟩<;>(rintro rfl;revert hf;decide))
theorem AJW: ∀f,S1.contains f=true->(f==47 || f==46)=false->Ae.funcs[f]? =Tryz.prog.funcs[f]? :=λf hf hx=>Aj.same (by
 simp only[yY,beq_eq_false_iff_ne] at hx
 exact⟨hx.1,hx.2,by rintro rfl;revert hf;decide⟩)
theorem Xi(h:JS Tryz.prog f=true):JS Ae f=true:=by
 by_cases h1:f=47;subst h1;unfold JS;rw[AB7];rfl;by_cases h2:f=46;subst h2;unfold JS;rw[wH];rfl;by_cases h3:f=79;subst h3;unfold JS;rw[oh];rfl;unfold JS at h⊢;rw[Aj.same ⟨h1,h2,h3⟩];exact h
theorem noPack:Tryz.prog.bearsPack=false:=by kernel_rfl
theorem AJX:Ae.bearsPack=false:=noPack
theorem pI:Tryz.prog.globals.size<2:=by
 (have:Tryz.prog.globals.size=1:=by kernel_rfl);omega
theorem Vj:JS Tryz.prog 79=true:=by kernel_rfl
theorem AJY:Fits K1 T1 2 where
 ops:=λ_=>rfl
 same:=λf hf hx=>AJW f hf hx
 N:=pI
 bodies:={
  z:=⟨Fv (Xi Vj),Fv Vj⟩
  v:=λf hf=>Fv (Xi (JD.1 text1 f (LZ.1 hf)))
  a:=λf hf=>Fv (JD.1 text1 f (LZ.1 hf))
  va:=λ_ f hf n=>by
   (have h:(SV.all λf=>(fb1.a f).isNone)=true:=by decide);have h2:=JD.1 h f (LZ.1 hf);show KT fb1 f n=true;unfold KT;rw[Option.isNone_iff_eq_none.1 h2]
  za:=λn=>rfl
  dk:=λf h p hc=>by
   have hc:AA 46=AA f:=hc;(cases hc);have h0:KT fb1 46 0=true:=h 0;exact Ak h0 Aq
  e:=ACD (λf hf=>⟨pG f hf,rfl⟩) pI noPack (λ_=>Ar)
  m0:=m0}
 body:=λf fn hf hx h c hc=>by
  have h2:=JD.1 ok1 f (LZ.1 hf);have hx:(f==47 || f==46)=false:=hx;rw[<- Bool.or_assoc,hx,Bool.false_or] at h2;exact UC h2 h hc
 lr:=λ_ f hf=>by
  have hm:f∈SL:=LZ.1 hf;simp only[SL,BF,BH,or_false] at hm;subst hm;exact⟨Aq,Aq⟩
 xa:=λf hf h=>by
  have:=h 0;change KT fb1 f 0=true at this;unfold KT at this;have hf:(f==47 || f==46)=true:=hf;simp[fb1,hf] at this
 ch:=λf h=>by
  have h:AA 47=AA f:=h;(cases h);exact⟨Aq,Aq⟩
theorem okV:(S1.all λf=>YQ Ae fbV 1 f)=true:=by kernel_rfl
theorem AQh:YQ Ae fbV 1 79=true:=by kernel_rfl
theorem AJZ(h:fbV f=true):S1.contains f=true\/f=79:=by
 have h:(S1.contains f || f==79)=true:=h;simpa only[XB,beq_iff_eq] using h
theorem ANX(h:fbV f=true):JS Ae f=true:=by
 rcases AJZ h with h|rfl;exact Xi (JD.1 text1 f (LZ.1 h));exact Xi Vj
theorem fitsV:Fits KV TV 2 where
 ops:=λ_=>rfl
 same:=λf hf hx=>rfl
 N:=pI
 bodies:={
  z:=⟨Fv (Xi Vj),Fv (Xi Vj)⟩
  v:=λf hf=>Fv (ANX hf)
  a:=λf hf=>Fv (ANX hf)
  va:=λ_ f hf n=>rfl
  za:=λn=>rfl
  dk:=λf h p hc=>by cases hc
  e:=ACD (λf hf=>⟨pG f hf,pG f hf⟩) pI AJX (λh=>h.elim)
  m0:=m0}
 body:=λf fn hf hx h c hc=>by
  rcases AJZ hf with h2|rfl;exact UC (JD.1 okV f (LZ.1 h2)) h hc;exact UC AQh h hc
 lr:=λ_ f hf=>by
  have hm:f∈SL:=LZ.1 hf;simp only[SL,BF,BH,or_false] at hm;subst hm;exact⟨Aq,Aq⟩
 xa:=λf hf h=>by cases hf
 ch:=λf h=>by cases h
theorem ok2:(S2.all λf=>YQ Tryz.prog fb2 1 f)=true:=by kernel_rfl
theorem AQi:((S2++SV).all λf=>JS Tryz.prog f && (S2.contains f== !SV.contains f) && !(f==47 || f==46 || f==79))=true:=by kernel_rfl
theorem AQj(h:fb2 f=true):f∈S2++SV:=by
 have h:(S2.contains f || SV.contains f)=true:=h;rw[Bj];exact (Bool.or_eq_true_iff.1 h).imp LZ.1 LZ.1
theorem AEo(h:fb2 f=true):JS Tryz.prog f=true/\(f≠47/\f≠46/\f≠79):=by
 have h2:=JD.1 AQi f (AQj h);simp only[DV,ZQ,yY,beq_eq_false_iff_ne] at h2;exact⟨h2.1.1,h2.2.1.1,h2.2.1.2,h2.2.2⟩
theorem AGO(hf:SV.contains f=true)(n:Nat):KT fb2 f n=false:=by
 have e:fb2.a f=AA 1000:=by
  show (if SV.contains f=true then AA 1000 else AB)=AA 1000;rw[BU hf]
 unfold KT;rw[e];simp
theorem AEp:Fits K2 T1 2 where
 ops:=λ_=>rfl
 same:=λf hf hx=>Aj.same (AEo hf).2
 N:=pI
 bodies:={
  z:=⟨Fv (Xi Vj),Fv Vj⟩
  v:=λf hf=>Fv (Xi (AEo hf).1)
  a:=λf hf=>Fv (AEo hf).1
  va:=λh=>by cases h
  za:=λn=>rfl
  dk:=λf h p hc=>by cases hc
  e:=λf hf=>by cases hf
  m0:=m0}
 body:=λf fn hf hx h c hc=>by
  have hx:SV.contains f=false:=hx;have h2:(S2.contains f || SV.contains f)=true:=hf;rw[hx,Bool.or_false] at h2;exact UC (JD.1 ok2 f (LZ.1 h2)) h hc
 lr:=λh=>by cases h
 xa:=λf hf h=>by
  have:=h 0;change KT fb2 f 0=true at this;rw[AGO hf] at this;cases this
 ch:=λf h=>by cases h
theorem no2: ∀f,K2.X f=true->∀n,KT K2.fb f n=false:=λf hf n=>AGO hf n
theorem AQk:RP Tryz.prog K2.fb "Take" =true:=by kernel_rfl
theorem ACE:K1.F.Alike K2.F:=⟨λf _ h=>⟨by show (S2.contains f || SV.contains f)=true;rw[show SV.contains f=true from h];exact Bool.or_true _,h⟩,λ_ h=>h,λ_ h=>h,λh=>h,rfl⟩
theorem AJa:K2.F.Alike K1.F:=⟨λf _ h=>⟨by
 have h2:(SV.all λf=>S1.contains f)=true:=by decide
 exact JD.1 h2 f (LZ.1 h),h⟩,λ_ h=>h,λ_ h=>h,λh=>h,rfl⟩
theorem AMr(fb:Fb)(G:Nat)(op:Op):WO Ae fb G op=WO Tryz.prog fb G op:=rfl
theorem AQl{G:Nat}: ∀{c:Code} {fb:Fb} {d r:Bool},Ja Ae fb G d r c=Ja Tryz.prog fb G d r c:=by
 intro c
 induction c with
 |region n ops dr=>intro fb d r;simp only[Ja,AMr]
 |seq a b ia ib=>intro fb d r;simp only[Ja,ia,ib]
 |cond c a b ia ib=>intro fb d r;simp only[Ja,ia,ib]
 |block n c ih=>exact ih|loop c ih=>exact ih|scope c ih=>exact ih|rangeFunc f ps a b ia ib=>intro fb d r;simp only[Ja,ia,ib]
 |_=>intro _ _ _;rfl
theorem AGP:K1.F.le0 KV.F where
 f:=λx hx=>by show (S1.contains x || x==79)=true;rw[show S1.contains x=true from hx];rfl
 v:=λx hx=>by show (SV.contains x || x==79)=true;rw[show SV.contains x=true from hx];rfl
 c:=λx hx=>⟨AQl.trans hx.1,hx.2⟩
 r:=λx hx=>hx
 z:=rfl
 m:=by decide
 a:=λf n h=>rfl
 d:=λh=>h
 e:=λf h=>h
 h:=λh=>h
end
section
variable {p p':Array AQ}{F:Fs}{N bk:Nat}{SR:Nat->Prop}{ρ:Rn}{name:String}{x:AQ}{v:AL}
section
variable {T:Twin} {F:Fs} {N:Nat} {ρ:Rn}
def QEn (F:Fs):Rn->Next->Next->Prop:=λρ a b=>∃f p p',a=.enter f p/\b=.enter f p'/\F f/\(∀n,F.a f n)/\BB F ρ p p'
theorem pJ(hB:Gt T F N){f:Bl}(hf:F f)(ha: ∀n,F.a f n)(hp:BB F ρ p p'):AY T F N (QEn F) (E8 f p) ρ (E8 f p'):=by
 obtain⟨fn,h1,h2,h3⟩:=hB.v f hf;obtain⟨fn',h1',h2',h3'⟩:=hB.a f hf;unfold E8;refine CU.bind λρ₁ a b l1 e=>?_;obtain⟨rfl,rfl⟩:=e;simp only[h1,h1',h2,h2',h3,h3',DC,if_false];exact λ_=>⟨f,p,p',rfl,rfl,hf,ha,hp.mono l1⟩
theorem gW(hB:Gt T F N){fb:Fb}(hfb: ∀f,fb f=true->F f)(hfa: ∀f n,KT fb f n=true->F.a f n)(hfe: ∀f,fb.e f=false)(hm:RP T.P fb name=true){x':AQ}(h:BC F ρ x x')(hp:BB F ρ p p'):
  AY T F N (QEn F) (Pq x name p) ρ (Pq x' name p'):=by
 unfold Pq
 cases h with
 |flat hf=>cases x<;>first|exact λ_=>Ar|exact Bq (e:=.nilDeref) trivial|exact Ak (show false=true from hf) AV
 |iface hv=>
  simp only;refine CU.bind λρ₁ a b l1 e=>?_;obtain⟨rfl,rfl⟩:=e;refine (jK hm _ _ (hv.mono l1)).bind λρ₂ q q' l2 hq=>?_;obtain⟨f,r⟩:=q;obtain⟨f',r'⟩:=q';obtain⟨e1,h1,h2⟩:=hq;simp only at e1 h1 h2;subst e1;rcases h1 with h1|h1;exact pJ hB (hfb _ h1.1) (λn=>hfa _ _ (by unfold KT;rw[h1.2])) ((BB.one h2).append ((hp.mono l1).mono l2));rw[hfe] at h1;cases h1
 |_=>exact λ_=>Ar
end
theorem wM{T:Array AQ}{op:BX}{r:DU}{xs:Array DU}{ats:Array Am}{vs:Array AQ}(hop:op.op=.call {callee:=.invoke r name,args:=xs,argTypes:=ats})(hr:ev T r=x)(hx:xs.map (ev T)=vs):BI (ev T) op=Pq x name vs:=by
 unfold BI;simp only[hop,resolve,hr,hx];show invoke (.fn (.method name) #[]) (#[x]++vs)=_;have e:(#[x]++vs)[0]? =AA x:=by rw[nI AV];rfl
 have e2:(#[x]++vs).extract 1 (#[x]++vs).size=vs:=by
  rw[Array.extract_append];simp
 unfold invoke;simp only[e,e2]
theorem AHf{R:RF SR}{v':AL}{h:OG R ρ}(h1:v'.heap=v.heap)(h2:v'.os=v.os):og F N R ρ v h=og F N R ρ v' h:=by
 have e: ∀w,DF F N ρ v w↔DF F N ρ v' w:=λw=>⟨λk=>k.pre ⟨h1.symm,h2.symm⟩ ⟨rfl,rfl⟩,λk=>k.pre ⟨h1,h2⟩ ⟨rfl,rfl⟩⟩;unfold og;congr 1;funext w;rw[e w]
theorem AHg{R:RF SR}{h:OG R ρ}{t:Am}(hp: ∀x∈p,flat x=true)(hb: ¬SR bk)(h':OG R (ρ.add v.heap.size bk)){w:AL}(hI:(og F N R ρ v h).I w)(hO: ¬(og F N R ρ v h).O bk)(hw:w.heap[bk]? =AA (.cells p t)):
  (og F N R (ρ.add v.heap.size bk) {v with heap:=v.heap.push (.cells p t)} h').I w:=by
 obtain⟨hW,hR⟩:=hI;have hO: ∀a,¬ρ.r a bk:=λa hr=>hO ⟨a,hr⟩;have hnb:N<=bk:=Nat.le_of_not_lt λh=>hO _ (hW.ok.hd _ h);have hfr:ρ.nR N v.heap.size bk:=⟨λb hr=>by have:=(hW.dom hr).1;omega,hO,λx hx=>by have:=hW.AF9 hx;omega,hW.nv,hnb⟩;refine⟨⟨hW.ok.add hfr,λa b hab=>?_,λa x hx=>?_,(by have:=hW.nv;simp;omega),hW.nw,hW.os,λs n a b hq=>?_⟩,hR⟩
 ·rcases hab with hab|⟨rfl,rfl⟩
  ·obtain⟨o,o',h1,h2,h3⟩:=hW.obj a b hab;refine⟨o,o',?_,h2,h3.mono (Rn.VQ _ _ _)⟩;show (v.heap.push _)[a]? =_;rw[SA (hW.dom hab).1,<- h1,FZ (hW.dom hab).1]
  exact⟨_,_,by show (v.heap.push _)[v.heap.size]? =_;simp,hw,.cells (BB.VR hp)⟩
 ·show (v.heap.push _)[a]? =_;have hlt:=hW.AF9 hx;rw[SA hlt,<- hW.tok a x hx,FZ hlt]
 obtain⟨B,hB,hc⟩:=h.sl w hR s n a b hq;refine⟨B,hB,λc hcB x hx=>?_⟩;rcases hx with hx|⟨_,rfl⟩;exact h.dis x c hx (hc c hcB);exact hb (hc _ hcB)
theorem OG.chunk{R:RF SR}(h:OG R ρ){n:Nat}(hb: ¬SR bk):OG R (ρ.add n bk):=
 ⟨λa b hab=>by
  rcases hab with hab|⟨_,rfl⟩;exact h.dis a b hab
  exact hb,h.sl⟩
theorem uZ{s:ByteArray}{lo sz d:Nat}(hlo:lo<=s.size)(hd:d=min sz (s.size - lo)):RU (s.extract lo (lo+d))=Jw ((s.data.toList.drop lo).take sz)/\((s.data.toList.drop lo).take sz).length=d:=by
 have hl:s.data.toList.length=s.size:=by rw[Array.length_toList];rfl
 have e:(s.extract lo (lo+d)).data.toList=(s.data.toList.drop lo).take sz:=by
  rw[AF4,AF5,List.extract_eq_take_drop];rw[show lo+d - lo=d by omega,hd];rcases AD1 sz (s.size - lo) with h|h;rw[Jf h];rw[Nat.min_eq_right h,Ea (by rw[Tf];omega),Ea (by rw[Tf];omega)]
 refine⟨by unfold RU Jw;rw[e],by rw[I7,Tf];omega⟩
end
section
variable {es:Array Be}{c f:AX}{ts:List AX}{v:AL}
section
variable {V:BM} {Kp:AX->List AX->AL->Prop}
theorem PN{f1:AX}{Dl:List AX}{v1:AL}(CE: ∀f ts v,Kp f ts v->ts=[])(h:Ev V Kp f (c::ts) v)(hs:Af V true (G f (c::ts++[door V])) v=.go (G f1 (Dl++[door V])) v1 es):Ev V Kp f1 Dl v1:=
 Ev.next (s:=⟨f,c::ts,v⟩) (s':=⟨f1,Dl,v1⟩) h ⟨λx=>(by cases CE _ _ _ x),v.tape,λ_ _=>rfl,es,hs⟩
theorem YT{u:AL}{o:Outcome}(CE: ∀f ts v,Kp f ts v->ts=[])(h:Ev V Kp f (c::ts) v)(hs:Af V true (G f (c::ts++[door V])) v=.ended o u es):False:=by
 cases h with
 |stop h=>cases CE _ _ _ h|step Fx Sx Wx h1 h2=>
  obtain⟨e,h3⟩:=h1 v.tape (λ_ _=>rfl);have:Af V true (G f (c::ts++[door V])) v=.go (G (Fx v.tape) (Sx v.tape++[door V])) (Wx v.tape) e:=h3;rw[hs] at this;cases this
end
theorem ACF{Kp:AX->List AX->AL->Prop}(CE: ∀f ts v,Kp f ts v->ts=[]): ∀(p:Array AQ) (k:CallKind) (f1:AX) (Dl:List AX) (v:AL),p.size<=4->¬Ev Ae Kp (Bc Ae 79 p k) (f1::Dl) v:=by
 intro p k f1 Dl v hp hev
 have e:Bc Ae 79 p k={fn:=79,tmps:=p++IM (8 - p.size) AU,todo:=[.code ((Aj.f79).body.getD .skip)],defers:=[],mode:=.run,kind:=k}:=by
  unfold Bc;simp[oh]
 rw[e] at hev;clear e;generalize hT:p++IM (8 - p.size) AU=T at hev
 have h6:T.getD 6 AU=AU:=by
  rw[<- hT,Qz,ZP Aa,AIn];split<;>rfl
 have s1:=PN CE hev (by rfl);have s2:=PN CE (c:=f1) (ts:=Dl) s1 (by rfl)
 have h7: ∃o u es,Af Ae true (G {fn:=79,tmps:=T,todo:=[.inRegion #[{dst:=AA 7,op:=.binOp .add 3 (.tmp 6) (.const (.int .i64 0)) 3,type:=3,pos:= "",after:=#[],guard:=AB}] [0],.code .ret],defers:=[],mode:=.run,kind:=k} (f1::Dl++[door Ae])) v=.ended o u es:=by
  have hx: ∀f:AX,f.tmps=T->∃why es,(BI f.eval {dst:=AA 7,op:=.binOp .add 3 (.tmp 6) (.const (.int .i64 0)) 3,type:=3,pos:= "",after:=#[],guard:=AB}).runT Ae v #[]=(.halt (.stuck why) v,es):=by
   intro f hf;(have e6:f.eval (.tmp 6)=AU:=by show f.tmps.getD 6 AU=AU;rw[hf];exact h6);refine⟨"BinOp: no such operator on these operands",#[],?_⟩;unfold BI;simp only[e6];rfl
  obtain⟨why,es,hx⟩:=hx {fn:=79,tmps:=T,todo:=[.inRegion #[{dst:=AA 7,op:=.binOp .add 3 (.tmp 6) (.const (.int .i64 0)) 3,type:=3,pos:= "",after:=#[],guard:=AB}] [0],.code .ret],defers:=[],mode:=.run,kind:=k} rfl;change ∃o u es,Hw Ae true _ _ AB (BI (Frame.eval _) {dst:=AA 7,op:=.binOp .add 3 (.tmp 6) (.const (.int .i64 0)) 3,type:=3,pos:= "",after:=#[],guard:=AB}) v=.ended o u es;unfold Hw;simp only[if_true,hx];exact⟨_,_,_,rfl⟩
 obtain⟨o,u,es,h7⟩:=h7;exact YT CE (c:=f1) (ts:=Dl) s2 h7
end
def pc (s:ByteArray) (sz k:Nat):List UInt8:=(s.data.toList.drop (k*sz)).take sz
def Piece (SR:Nat->Prop) (s:ByteArray) (sz k:Nat) (xv:AQ) (bk:Nat) (ob:Obj):Prop:=
 k*sz<s.size/\¬SR bk/\∃cap,(pc s sz k).length<=cap/\Vh (pc s sz k).length 5 cap/\xv=.slice (AA ⟨bk,0,AB⟩) (pc s sz k).length cap/\ob=.cells ((Jw (pc s sz k)).toArray++IM (cap - (pc s sz k).length) (.int .u8 0)) 5
theorem AHh{l:List UInt8}{n:Nat}: ∀x∈((Jw l).toArray++IM n (.int .u8 0)),flat x=true:=by
 intro x hx;rcases JM.1 hx with h|h
 ·simp only[Jw,IW,CG] at h;obtain⟨b,_,rfl⟩:=h;rfl
 obtain⟨_,rfl⟩:=Array.mem_replicate.1 h;rfl
section
variable {P:BM} {mn:Bool} {fn:Bl} {T:Array AQ} {k:List Item} {D:List EL} {cs:List AX} {w w':AL} {ops:Array BX} {i:Nat} {rest:List Nat} {o:BX}
theorem AJb{x:AQ}(ho:ops[i]? =AA o)(hw:DX o (yielded ops T)=true)(hr:(BI (ev T) o).run P w=.halt (.panic x) w'):
  ∃es,Af P mn (G (fr fn T (.inRegion ops (i::rest)::k) D AB) cs) w=.go (G ((fr fn T (.inRegion ops (i::rest)::k) D AB).raise [{v:=x,recovered:=false}]) cs) w' es:=by
 rw[RS ho hw (.inl rfl)];unfold Hw;simp only[if_true,Ik,hr];exact⟨_,rfl⟩
theorem pK{h:Halt}(ho:ops[i]? =AA o)(hw:DX o (yielded ops T)=true)(hr:(BI (ev T) o).run P w=.halt h w')(hs:Halt.still h):
  ∃q u es,Af P mn (G (fr fn T (.inRegion ops (i::rest)::k) D AB) cs) w=.ended q u es:=by
 rw[RS ho hw (.inl rfl)];unfold Hw;simp only[if_true,Ik,hr]
 cases h with
 |unsupported u=>cases u<;>first|exact hs.elim|exact⟨_,_,_,rfl⟩
 |_=>first|exact hs.elim|exact⟨_,_,_,rfl⟩
end
theorem AHi{Kp:AX->List AX->AL->Prop}(CE: ∀f ts v,Kp f ts v->ts=[]){T:Array AQ}{k:List Item}{c0:AX}{cs:List AX}{v:AL}{x:AQ}(hT:T.size=19)
  (h:Ev Ae Kp ((fr 46 T (.inRegion SS [0]:: .code U7::k) [] AB).finish x) (c0::cs) v): ∃e,x=.int .i64 e:=by
 rw[EH (o:=_) rfl] at h;have s1:=PN CE h GL;have s2:=PN CE (c:=c0) (ts:=cs) s1 KD;have s3:=PN CE (c:=c0) (ts:=cs) s2 wC;(have hx:(put T (AA 15) x).getD 15 AU=x:=by simp[put,Qz,hT]);by_cases hi: ∃e,x=.int .i64 e;exact hi;exfalso
 have hst: ∃why,(BI (ev (put T (AA 15) x)) {dst:=AA 16,op:=.binOp .mul 51 (.tmp 15) (.const (.int .i64 1)) 51,type:=51,pos:= "",after:=#[],guard:=AB}).run Ae v=.halt why v/\Halt.still why:=by
  have e15:ev (put T (AA 15) x) (.tmp 15)=x:=hx;unfold BI;simp only[e15]
  cases x with
  |int kk n=>
   cases kk<;>first|exact Ak ⟨n,rfl⟩ hi|exact⟨_,rfl,Ar⟩
  |_=>first|exact⟨_,rfl,Ar⟩|(rename_i y;cases y<;>exact⟨_,rfl,Ar⟩)
 obtain⟨why,hst,hs⟩:=hst;obtain⟨q,u,es,hh⟩:=pK (P:=Ae) (mn:=true) (cs:=c0::cs++[door Ae]) (i:=0) (rest:=[1,2]) (ops:=#[_,_,_]) (k:=_::k) (D:=[]) (fn:=46) rfl rfl hst hs;exact YT CE s3 hh
section
variable {C:Cx} (hP:C.P=Tryz.prog) {R:RF C.SR} {s:ByteArray} {sz:Nat} (hCs: ∀k xv bk ob,C.Cs k xv bk ob->Piece C.SR s sz k xv bk ob) (hNN:s.size<=C.N*sz) (hsz:1<=sz) (hsz2:(sz:Int)<=9223372036854775807) (hs:s.size<=1073741824)
 {sb:Nat} (hsb:C.SR sb) (hrd: ∀w,R.R w->w.cell? ⟨sb,0,AB⟩=AA (.chan (AA C.bs))) (hlive: ∃w,Live C w) {Kp:AX->List AX->AL->Prop} (CE: ∀f ts v,Kp f ts v->ts=[]/\f.mode=.returning)
 {c0:AX} {cs:List AX} {cs0:List AX} (s0:VS) (ρ0:Rn)
def AJc (C:Cx) (R:RF C.SR) (sb:Nat) (Kp:AX->List AX->AL->Prop) (c0:AX) (cs cs0:List AX) (s0:VS) (ρ0:Rn) (_:Nat) (g:Ad) (o:Own C.SR):Prop:=
 ∃(a0 a1 a2 a3 a6 a9 a10 a11 a12 LM Xh PL a16 a17 Oe Og a20 a21 a22 a23 a24 a27 a28:AQ) (cnt e:Int) (ρ1:Rn) (v1:AL) (h1:OG R ρ1),bu Tryz.prog g (G (fr 46 #[a0,a1,a2,a3,.int .i64 cnt,.int .i64 e,a6,.pointer (AA ⟨sb,0,AB⟩),.pointer (AA ⟨C.wg,0,AB⟩),a9,a10,a11,a12,LM,Xh,PL,a16,a17,Oe,Og,a20,a21,a22,a23,a24,.chan (AA C.bs),.tuple #[],a27,a28] [.inRegion Zm [],.code QC] [] AB) cs0)/\o=og K2.F 2 R ρ1 v1 h1/\Jv Ae Kp ⟨c0.finish (.tuple #[.int .i64 cnt,.int .i64 e]),cs,v1⟩ s0/\ρ0.le ρ1
def zu (C:Cx) (R:RF C.SR) (s:ByteArray) (sz sb:Nat) (Kp:AX->List AX->AL->Prop) (c0:AX) (cs cs0:List AX) (s0:VS) (ρ0:Rn) (st:VS):Prop:=
 ∀(k lo d blk bk cap:Nat) (cnt e:Int) (to to' xv Nq r9 r10 r11 r13 IE r16 IG Ob:AQ) (a0 a2 a3 a6 a10 a11 a12 LM a20 a21 a22 a23 a24 a25 a26 a27 a28:AQ) (v:AL) (ρ:Rn) (h:OG R ρ),st=⟨fr 46 (TY (Fz 79 s sz) to Nq s cnt e sz lo r9 r10 r11 (.int .i64 ((lo:Int)+(d:Int))) r13 (.slice (AA ⟨blk,0,AB⟩) d cap) IE r16 IG Ob) [.inRegion SS [0],.code U7,.inLoop Aj.loop,.inBlock 0,.code .ret] [] AB,c0::cs,v⟩->Jv Ae Kp st s0->ρ0.le ρ->lo=k*sz->lo<s.size->d=min sz (s.size - lo)->BC K2.F ρ to to'->ρ.r blk bk->xv=.slice (AA ⟨bk,0,AB⟩) d cap->
  PM C (AJc C R sb Kp c0 cs cs0 s0 ρ0) .work (k+1) (G (fr 46 #[a0,to',a2,a3,.int .i64 cnt,.int .i64 e,a6,.pointer (AA ⟨sb,0,AB⟩),.pointer (AA ⟨C.wg,0,AB⟩),xv,a10,a11,a12,LM,.chan (AA C.bc),.tuple #[xv,.bool true],.bool true,xv,to',xv,a20,a21,a22,a23,a24,a25,a26,a27,a28] (.inRegion Zj [2,3]:: .code Zk:: .code Zl:: .inBlock 1:: .inLoop Gl:: .inBlock 0::[.code P9]) [] AB) cs0) (og K2.F 2 R ρ v h)
include hP hCs hNN hsz hsz2 hs hsb hrd hlive CE
theorem pM{k lo:Nat}{cnt e:Int}{to to' Nq r9 r10 r11 r12 r13 Jy IE r16 IG Ob:AQ}{a0 a2 a3 a6 a9 a10 a11 a12 LM PL a16 a17 Oe Og a20 a21 a22 a23 a24 a25 a26 a27 a28:AQ}{v:AL}{ρ:Rn}(h:OG R ρ)(hM: ∀st,Jv Ae Kp st ⟨fr 46 (TY (Fz 79 s sz) to Nq s cnt e sz lo r9 r10 r11 r12 r13 Jy IE r16 IG Ob) [.code Aj.loop,.inLoop Aj.loop,.inBlock 0,.code .ret] [] AB,c0::cs,v⟩->zu C R s sz sb Kp c0 cs cs0 s0 ρ0 st)
  (hs0:Jv Ae Kp ⟨fr 46 (TY (Fz 79 s sz) to Nq s cnt e sz lo r9 r10 r11 r12 r13 Jy IE r16 IG Ob) [.code Aj.loop,.inLoop Aj.loop,.inBlock 0,.code .ret] [] AB,c0::cs,v⟩ s0) (hρ:ρ0.le ρ) (hlo:lo=min (k*sz) s.size) (hto:BC K2.F ρ to to'):
  PM C (AJc C R sb Kp c0 cs cs0 s0 ρ0) .work k (G (fr 46 #[a0,to',a2,a3,.int .i64 cnt,.int .i64 e,a6,.pointer (AA ⟨sb,0,AB⟩),.pointer (AA ⟨C.wg,0,AB⟩),a9,a10,a11,a12,LM,.chan (AA C.bc),PL,a16,a17,Oe,Og,a20,a21,a22,a23,a24,a25,a26,a27,a28] (.code Gl:: .inLoop Gl:: .inBlock 0::[.code P9]) [] AB) cs0) (og K2.F 2 R ρ v h):=by
 have Oh: ∀f ts v,Kp f ts v->ts=[]:=λf ts v x=>(CE f ts v x).1
 classical
 refine AHd hP (λxv bk ob=>if hc:C.Cs k xv bk ob then og K2.F 2 R (ρ.add v.heap.size bk) {v with heap:=v.heap.push ob} (h.chunk (hCs _ _ _ _ hc).2.1) else og K2.F 2 R ρ v h) (λxv bk ob hc x=>?_) (λxv bk ob hc w hI hO hw=>?_) (λxv bk ob hc=>?_) (λhk=>?_)
 ·simp only[hc,dif_pos];constructor
  ·rintro⟨a,ha|⟨_,rfl⟩⟩;exact .inl ⟨a,ha⟩;exact .inr rfl
  rintro (⟨a,ha⟩|rfl);exact⟨a,.inl ha⟩;exact⟨_,.inr ⟨rfl,rfl⟩⟩
 ·simp only[hc,dif_pos];obtain⟨_,hb,cap,_,_,_,rfl⟩:=hCs _ _ _ _ hc;exact AHg AHh hb (h.chunk hb) hI hO hw
 ·simp only[hc,dif_pos];generalize h.chunk (hCs k xv bk ob hc).2.1=hOG;obtain⟨hlt,hb,cap,hc1,hc2,rfl,rfl⟩:=hCs _ _ _ _ hc;(have AJd:lo=k*sz:=by rw[hlo];exact Jf (Ti hlt));obtain⟨d,hd⟩: ∃d,d=min sz (s.size - lo):=⟨_,rfl⟩;obtain⟨hp1,hp2⟩:=uZ (s:=s) (lo:=lo) (sz:=sz) (d:=d) Aa hd;(have hp2':(pc s sz k).length=d:=by unfold pc;rw[<- AJd];exact hp2);(have hp1':Jw (pc s sz k)=RU (s.extract lo (lo+d)):=by unfold pc;rw[<- AJd];exact hp1.symm);rw[hp2'] at hc1 hc2⊢;rw[hp1']
  obtain⟨s',⟨t,hs'⟩,hn⟩:=ASn (Kp:=Kp) Oh (Good:=λs'=>∃t,s'=⟨fr 46 (TY (Fz 79 s sz) to Nq s cnt e sz lo (.bool true) (.int .i64 ((s.size:Int) - lo)) (.int .i64 d) (.int .i64 ((lo:Int)+(d:Int))) (.string (s.extract lo (lo+d))) (.slice (AA ⟨v.heap.size,0,AB⟩) d cap) IE r16 IG Ob) [.inRegion SS [0],.code U7,.inLoop Aj.loop,.inBlock 0,.code .ret] [] AB,c0::cs,{v with heap:=v.heap.push (.cells ((RU (s.extract lo (lo+d))).toArray++IM (cap - d) (.int .u8 0)) 5),drawn:=v.drawn+1,tape:=t}⟩)
   (src:=Fz 79 s sz) (to:=to) (Nq:=Nq) (s:=s) (cnt:=cnt) (e:=e) (n:=sz) (lo:=lo) (r9:=r9) (r10:=r10) (r11:=r11) (r12:=r12) (r13:=r13) (Jy:=Jy) (IE:=IE) (r16:=r16) (IG:=IG) (Ob:=Ob) (kt:=[.inLoop Aj.loop,.inBlock 0,.code .ret]) (cs:=cs) (c0:=c0) (v:=v)
   Aa hs Aa (d:=d) Aa hc2 (λt=>.fin ⟨t,rfl⟩)
  have hn':Jv Ae Kp s' ⟨fr 46 (TY (Fz 79 s sz) to Nq s cnt e sz lo r9 r10 r11 r12 r13 Jy IE r16 IG Ob) [.code Aj.loop,.inLoop Aj.loop,.inBlock 0,.code .ret] [] AB,c0::cs,v⟩:=by
   rcases hn with e1|hn
   ·exfalso;rw[hs'] at e1;have:=congrArg (λx:VS=>x.v.drawn) e1;simp at this
   exact hn
  have:=hM s' hn' k lo d v.heap.size bk cap cnt e to to' (.slice (AA ⟨bk,0,AB⟩) d cap) Nq (.bool true) (.int .i64 ((s.size:Int) - lo)) (.int .i64 d) (.string (s.extract lo (lo+d))) IE r16 IG Ob a0 a2 a3 a6 a10 a11 a12 LM a20 a21 a22 a23 a24 a25 a26 a27 a28 _ _ (h.chunk hb) hs' (hn'.trans hs0) (hρ.trans (Rn.VQ _ _ _)) AJd Aa hd (hto.mono (Rn.VQ _ _ _)) (.inr ⟨rfl,rfl⟩) rfl;rw[AHf (v':=s'.v) (by rw[hs']) (by rw[hs'])];rw[hs'];exact this
 have hge:s.size<=lo:=by
  (have:s.size<=k*sz:=by rw[hk];exact hNN);omega
 obtain⟨s',hs',hn⟩:=ASo (Kp:=Kp) Oh (Good:=λs'=>s'=⟨c0.finish (.tuple #[.int .i64 cnt,.int .i64 e]),cs,v⟩) (src:=Fz 79 s sz) (to:=to) (Nq:=Nq) (s:=s) (cnt:=cnt) (e:=e) (n:=sz) (lo:=lo) (r9:=r9) (r10:=r10) (r11:=r11) (r12:=r12) (r13:=r13) (Jy:=Jy) (IE:=IE) (r16:=r16) (IG:=IG) (Ob:=Ob) (cs:=cs) (c0:=c0) (v:=v) hge (.fin rfl)
 have hn':Jv Ae Kp ⟨c0.finish (.tuple #[.int .i64 cnt,.int .i64 e]),cs,v⟩ s0:=by
  rw[<- hs'];rcases hn with e1|hn;rw[e1];exact hs0;exact hn.trans hs0
 exact ACC hP (o:=og K2.F 2 R ρ v h) hsb (λw hI=>hrd w hI.2) hlive (λg hg=>⟨a0,to',a2,a3,a6,a9,a10,a11,a12,LM,.chan (AA C.bc),.tuple #[.slice AB 0 0,.bool false],.bool false,a17,Oe,Og,a20,a21,a22,a23,a24,a27,a28,cnt,e,ρ,v,h,hg,rfl,hn',hρ⟩)
end
theorem AMs{V:BM}{Kp:AX->List AX->AL->Prop}(CE: ∀f ts v,Kp f ts v->ts=[]){f c0:AX}{cs:List AX}{v:AL}(hev:Ev V Kp f (c0::cs) v)(t:Nat->F7->Nat)(ht: ∀j,j<v.drawn->t j=v.tape j):
  ∃F S W es,Af V true (G f (c0::cs++[door V])) (v.DN t)=.go (G F (S++[door V])) W es/\Nx V Kp ⟨F,S,W⟩ ⟨f,c0::cs,v⟩/\Ev V Kp F S W:=by
 cases hev with
 |stop h=>cases CE _ _ _ h|step Fx Sx Wx h1 h2=>
  obtain⟨es,h⟩:=h1 t ht;exact⟨_,_,_,es,h,⟨λx=>(by cases CE _ _ _ x),t,ht,es,h⟩,h2 t ht⟩
theorem AGQ{V:BM}{f f':AX}{ts ts':List AX}{v v':AL}{es es':Array Be}(h:GStep.go (G f (ts++[door V])) v es=.go (G f' (ts'++[door V])) v' es'):f=f'/\ts=ts'/\v=v':=by
 simp only[GStep.go.injEq,G,Gm] at h;exact⟨h.1.1,Nc h.1.2.1,h.2.1⟩
section
variable {C:Cx} (hP:C.P=Tryz.prog) {R:RF C.SR} {s:ByteArray} {sz:Nat} (hCs: ∀k xv bk ob,C.Cs k xv bk ob->Piece C.SR s sz k xv bk ob) (hNN:s.size<=C.N*sz) (hsz:1<=sz) (hsz2:(sz:Int)<=9223372036854775807) (hs:s.size<=1073741824)
 {sb:Nat} (hsb:C.SR sb) (hrd: ∀w,R.R w->w.cell? ⟨sb,0,AB⟩=AA (.chan (AA C.bs))) (hlive: ∃w,Live C w) {Kp:AX->List AX->AL->Prop} (CE: ∀f ts v,Kp f ts v->ts=[]/\f.mode=.returning)
 {c0:AX} {cs:List AX} {cs0:List AX} (s0:VS) (ρ0:Rn)
include hP hCs hNN hsz hsz2 hs hsb hrd hlive CE
theorem AHj{st:VS}(hev:Ev Ae Kp st.f st.ts st.v)(PH:Nk Ae Kp st):zu C R s sz sb Kp c0 cs cs0 s0 ρ0 st:=by
 have Oh: ∀f ts v,Kp f ts v->ts=[]:=λf ts v x=>(CE f ts v x).1;refine Ev.strong (M:=λst=>Nk Ae Kp st->zu C R s sz sb Kp c0 cs cs0 s0 ρ0 st) (λst hev ih PH=>?_) hev PH;have ih:=λs' hn=>ih s' hn (λs'' h=>PH s'' (h.trans hn));intro k lo d blk bk cap cnt e to to' xv Nq r9 r10 r11 r13 IE r16 IG Ob a0 a2 a3 a6 a10 a11 a12 LM a20 a21 a22 a23 a24 a25 a26 a27 a28 v ρ h hst hn hρ hlo hlt hd hto hbk hxv;subst hst hxv;simp only at hev;refine AGN rfl λw hw=>?_;obtain⟨hW,hR⟩:=hw;have hWd: ∀τ:Nat->F7->Nat,DF K2.F 2 ρ (v.DN τ) w:=λτ=>hW.pre ⟨rfl,rfl⟩ ⟨rfl,rfl⟩;(let τ:Nat->F7->Nat:=λj=>if j<v.drawn then v.tape j else w.tape (w.drawn+(j - v.drawn)));have hτ: ∀j,j<v.drawn->τ j=v.tape j:=λj hj=>by simp only[τ,hj,if_true]
 have hTp: ∀n,Tp (v.DN τ) w n:=λn i _ q=>by
  show τ (v.drawn+i) q=w.tape (w.drawn+i) q;(have h1: ¬v.drawn+i<v.drawn:=by omega);simp only[τ,h1,if_false];congr 2;omega
 obtain⟨F,S,W,es,hstep,hnx,ACB⟩:=AMs Oh hev τ hτ;obtain⟨ov,hov,ASs,AJe⟩: ∃ov,SS[0]? =AA ov/\ov.op=.call {callee:=.invoke (.tmp 1) "Take",args:=#[.tmp 14],argTypes:=#[62]}/\∀T,DX ov T=true:=⟨_,rfl,rfl,λ_=>rfl⟩;obtain⟨ot,hot,ASt,ASu⟩: ∃ot,Zj[2]? =AA ot/\ot.op=.call {callee:=.invoke (.tmp 18) "Take",args:=#[.tmp 19],argTypes:=#[62]}/\∀T,DX ot T=true:=⟨_,rfl,rfl,λ_=>rfl⟩;obtain⟨TV,hTV⟩: ∃TV,TV=TY (Fz 79 s sz) to Nq s cnt e sz lo r9 r10 r11 (.int .i64 ((lo:Int)+(d:Int))) r13 (.slice (AA ⟨blk,0,AB⟩) d cap) IE r16 IG Ob:=⟨_,rfl⟩;have hxV:BI (ev TV) ov=Pq to "Take" #[.slice (AA ⟨blk,0,AB⟩) d cap]:=wM ASs (by rw[hTV];rfl) (by rw[hTV];simp only[J9,BN,EG];rfl);obtain⟨TT,hTT⟩: ∃TT,TT= #[a0,to',a2,a3,.int .i64 cnt,.int .i64 e,a6,.pointer (AA ⟨sb,0,AB⟩),.pointer (AA ⟨C.wg,0,AB⟩),.slice (AA ⟨bk,0,AB⟩) d cap,a10,a11,a12,LM,.chan (AA C.bc),.tuple #[.slice (AA ⟨bk,0,AB⟩) d cap,.bool true],.bool true,.slice (AA ⟨bk,0,AB⟩) d cap,to',.slice (AA ⟨bk,0,AB⟩) d cap,a20,a21,a22,a23,a24,a25,a26,a27,a28]:=⟨_,rfl⟩;have hxT:BI (ev TT) ot=Pq to' "Take" #[.slice (AA ⟨bk,0,AB⟩) d cap]:=wM ASt (by rw[hTT];rfl) (by rw[hTT];simp only[J9,BN,EG];rfl);have hrel:=(gW (T:=T1) (N:=2) (F:=K2.F) AEp.bodies (fb:=K2.fb) (λf hf=>hf) (λf n h=>h) (λ_=>rfl) AQk hto (BB.one (.slice (n:=d) (k:=cap) (show RelA ρ ⟨blk,0,AB⟩ ⟨bk,0,AB⟩ from ⟨hbk,rfl,rfl⟩)))).sound (hWd τ) (hTp _);rw[<- hTT];rw[<- hTV] at hev hstep hnx ih hn PH;(have hrun:(Pq to "Take" #[.slice (AA ⟨blk,0,AB⟩) d cap]).run Ae (v.DN τ)=(BI (ev TV) ov).run Ae (v.DN τ):=by rw[hxV]);change Res True K2.F 2 (QEn K2.F) ρ (v.DN τ) w ((Pq to "Take" #[.slice (AA ⟨blk,0,AB⟩) d cap]).run Ae (v.DN τ)) _ at hrel
 cases hr:(Pq to "Take" #[.slice (AA ⟨blk,0,AB⟩) d cap]).run Ae (v.DN τ) with
 |ok n v'=>
  rw[hr] at hrel hrun;obtain⟨ρ1,b,w1,u,hr',⟨f,p,p',rfl,rfl,hf,hfa,hp⟩,hst⟩:=hrel
  have hrT:(BI (ev TT) ot).run Tryz.prog w=.ok (.enter f p') w1:=by
   rw[hxT];have:=congrArg Ac hr';rw[Ik] at this;exact this
  have huT:(BI (ev TT) ot).events Tryz.prog w #[]=u:=by
   rw[hxT];have:=congrArg Prod.snd hr';rw[Ik] at this;exact this
  have hsV:=s_call (kd:=false) (P:=Ae) (mn:=true) (fn:=46) (T:=TV) (k:=[.code U7,.inLoop Aj.loop,.inBlock 0,.code .ret]) (D:=[]) (ro:=AB) (cs:=c0::cs++[door Ae]) (i:=0) (rest:=[]) hov (AJe _) (.inl rfl) hrun.symm;obtain⟨rfl,rfl,rfl⟩:=AGQ (ts':=fr 46 TV [.inRegion SS [0],.code U7,.inLoop Aj.loop,.inBlock 0,.code .ret] [] AB::c0::cs) (hstep.symm.trans hsV);have hsT:=s_call (kd:=false) (P:=Tryz.prog) (mn:=true) (fn:=46) (T:=TT) (k:=.code Zk:: .code Zl:: .inBlock 1:: .inLoop Gl:: .inBlock 0::[.code P9]) (D:=[]) (ro:=AB) (cs:=cs0) (i:=2) (rest:=[3]) hot (ASu _) (.inl rfl) hrT;rw[huT] at hsT;have hst':Stp K2.F 2 ρ ρ1 (v.DN τ) w W w1 (seen Tryz.prog 46 u):=hst.sub λe he=>Dy he;have h1:=h.next hR hst';refine⟨_,_,w1,_,by rw[hP];exact hsT,h.step h1 hR hst',?_⟩
  have hXf:K2.X f=false:=by
   cases e:K2.X f with
   |false=>rfl|true=>
    have h0:KT K2.fb f 0=true:=hfa 0;rw[no2 f e 0] at h0;cases h0
  refine AJT (K:=K2) (T:=T1) (N:=2) (Kp:=Kp) Oh AEp no2 (by rw[hP]) (λp k f1 Dl v hp=>ACF Oh p k f1 Dl v hp) (dr:=fr 46 TV [.inRegion SS [0],.code U7,.inLoop Aj.loop,.inBlock 0,.code .ret] [] AB) (ds:=c0::cs) (ts:=[]) (ts':=[]) rfl rfl ACB (λs' h=>PH s' (.cons hnx h)) rfl (OU AEp hf hXf hp (.inl rfl)) .nil (λg hg=>hst'.rel.ok.hd g (lV hg)) h1 (λv1 ρ2 x x' h2 hn1 hxx hle=>?_) (λv1 ρ2 h2 hn1 hle=>?_)
  ·have hnd:=Jv.cons hnx hn1;have hev2:=Ev.PE (s:=⟨_,_,_⟩) hev hnd;simp only at hev2;obtain⟨e2,rfl⟩:=AHi Oh (by rw[hTV];rfl) hev2;obtain rfl:=BR hxx rfl;have ASv:BC K2.F ρ2 to to':=hto.mono (hst.le.trans hle);rw[hTT];rw[hTV] at hnd;refine AHe hP (λhe=>?_) (λhe=>?_)
   ·subst he
    obtain⟨s',hs',hn2⟩:=AQW (Kp:=Kp) Oh (Good:=λs'=>s'=⟨fr 46 (TY (Fz 79 s sz) to Nq s (IntKind.i64.wrap (cnt+1)) 0 sz (lo+d) r9 r10 r11 (.int .i64 ((lo:Int)+(d:Int))) r13 (.slice (AA ⟨blk,0,AB⟩) d cap) (.int .i64 0) (.int .i64 0) (.bool false) (.int .i64 (IntKind.i64.wrap (cnt+1)))) [.code Aj.loop,.inLoop Aj.loop,.inBlock 0,.code .ret] [] AB,c0::cs,v1⟩)
     (src:=Fz 79 s sz) (to:=to) (Nq:=Nq) (s:=s) (cnt:=cnt) (e0:=e) (n:=sz) (lo:=lo) (d:=d) (r9:=r9) (r10:=r10) (r11:=r11) (r13:=r13) (Jy:=.slice (AA ⟨blk,0,AB⟩) d cap) (IE:=IE) (r16:=r16) (IG:=IG) (Ob:=Ob) (cs:=cs) (c0:=c0) (v:=v1) rfl (.fin rfl)
    have hn3:Jv Ae Kp s' ⟨fr 46 (TY (Fz 79 s sz) to Nq s cnt e sz lo r9 r10 r11 (.int .i64 ((lo:Int)+(d:Int))) r13 (.slice (AA ⟨blk,0,AB⟩) d cap) IE r16 IG Ob) [.inRegion SS [0],.code U7,.inLoop Aj.loop,.inBlock 0,.code .ret] [] AB,c0::cs,v⟩:=by
     rcases hn2 with e1|hn2;rw[e1];exact hnd;exact hn2.trans hnd
    rw[hs'] at hn3;rw[hTV] at ih hn
    have hlo2:lo+d=min ((k+1)*sz) s.size:=by
     have:(k+1)*sz=k*sz+sz:=Nat.succ_mul k sz;omega
    refine pM hP hCs hNN hsz hsz2 hs hsb hrd hlive CE s0 ρ0 h2 (λst hst=>ih st (hst.trans hn3)) (hn3.trans hn) (hρ.trans (hst.le.trans hle)) hlo2 ASv
   obtain⟨s',hs',hn2⟩:=AMl (Kp:=Kp) Oh (Good:=λs'=>s'=⟨c0.finish (.tuple #[.int .i64 cnt,.int .i64 e2]),cs,v1⟩)
    (src:=Fz 79 s sz) (to:=to) (Nq:=Nq) (s:=s) (cnt:=cnt) (e0:=e) (n:=sz) (lo:=lo) (r9:=r9) (r10:=r10) (r11:=r11) (r12:=.int .i64 ((lo:Int)+(d:Int))) (r13:=r13) (Jy:=.slice (AA ⟨blk,0,AB⟩) d cap) (IE:=IE) (r16:=r16) (IG:=IG) (Ob:=Ob) (cs:=cs) (c0:=c0) (v:=v1) he (.fin rfl)
   have hn3:Jv Ae Kp s' ⟨fr 46 (TY (Fz 79 s sz) to Nq s cnt e sz lo r9 r10 r11 (.int .i64 ((lo:Int)+(d:Int))) r13 (.slice (AA ⟨blk,0,AB⟩) d cap) IE r16 IG Ob) [.inRegion SS [0],.code U7,.inLoop Aj.loop,.inBlock 0,.code .ret] [] AB,c0::cs,v⟩:=by
    rcases hn2 with e1|hn2;rw[e1];exact hnd;exact hn2.trans hnd
   rw[hs'] at hn3;rw[hTV] at hn;exact ACC hP (o:=og K2.F 2 R ρ2 v1 h2) hsb (λw hI=>hrd w hI.2) hlive (λg hg=>⟨a0,to',a2,a3,a6,.slice (AA ⟨bk,0,AB⟩) d cap,a10,a11,a12,LM,.chan (AA C.bc),.tuple #[.slice (AA ⟨bk,0,AB⟩) d cap,.bool true],.bool true,.slice (AA ⟨bk,0,AB⟩) d cap,to',.slice (AA ⟨bk,0,AB⟩) d cap,.int .i64 e2,.int .i64 e2,.bool true,a23,a24,a27,a28,cnt,e2,ρ2,v1,h2,hg,rfl,hn3.trans hn,hρ.trans (hst.le.trans hle)⟩)
  have hnd:=Jv.cons hnx hn1;rw[hTV] at hnd hn ih;rw[hTT];exact ih _ hnd k lo d blk bk cap cnt e to to' (.slice (AA ⟨bk,0,AB⟩) d cap) Nq r9 r10 r11 r13 IE r16 IG Ob a0 a2 a3 a6 a10 a11 a12 LM a20 a21 a22 a23 a24 a25 a26 a27 a28 v1 ρ2 h2 rfl (hnd.trans hn) (hρ.trans (hst.le.trans hle)) hlo hlt hd (hto.mono (hst.le.trans hle)) ((hst.le.trans hle).r _ _ hbk) rfl
 |halt x v'=>
  exfalso;rw[hr] at hrel hrun;by_cases hp: ∃y,x=.panic y
  ·obtain⟨y,rfl⟩:=hp;obtain⟨es2,hsV⟩:=AJb (P:=Ae) (mn:=true) (fn:=46) (T:=TV) (k:=[.code U7,.inLoop Aj.loop,.inBlock 0,.code .ret]) (D:=[]) (cs:=c0::cs++[door Ae]) (i:=0) (rest:=[]) hov (AJe _) hrun.symm;obtain⟨rfl,rfl,rfl⟩:=AGQ (ts':=c0::cs) (hstep.symm.trans hsV);refine PH _ (.one hnx) ?_;exact kM.head (ch:=[{v:=y,recovered:=false}]) rfl (by intro e he;simp at he;subst he;rfl)
  have hst:Halt.still x:=by
   cases x with|panic y=>exact Ak ⟨_,rfl⟩ hp|_=>exact hrel
  obtain⟨q,u,es2,hsV⟩:=pK (P:=Ae) (mn:=true) (fn:=46) (T:=TV) (k:=[.code U7,.inLoop Aj.loop,.inBlock 0,.code .ret]) (D:=[]) (cs:=c0::cs++[door Ae]) (i:=0) (rest:=[]) hov (AJe _) hrun.symm hst;rw[hstep] at hsV;cases hsV
end
open Go.ConcN (sumTo upd sumTo_upd upd_ne upd_same)
section
variable {es:Array Be}{fn:Bl}{m m' m'':Machine}{N:Nat}{pos:String}{t t':CJ}
structure MM (Shun:Loc->Prop) (B L:Nat) (t:CJ) (d:Nat):Prop where
 clean: ∀said,¬Race said t
 known: ∀i a,touchAt t i=AA a->a.loc.isMemory=true->Knows t 0 i\/(Shun a.loc/\a.kind=.atomic)
 over:t.HandedOver
 deaf:Deaf t 0=d
 seen: ∀op∈t,op.act.low B
 nor: ∀op∈t,∀a,op.act=.mark (.release a)->a.block<L
def EvG (Shun:Loc->Prop) (B:Nat) (e:Be):Prop:=(∀x,(CY e).touch? =AA x->Shun x.loc->x.kind≠ .plain)/\(CY e).low B/\∀a,CY e≠ .mark (.release a)
theorem QY{g:Nat}{op:MemOp}(h:op∈Dc g fn pos es): ∃e∈es,op={g,fn,pos,act:=.ofEvent e}:=by
 rw[ofEvents_eq] at h;obtain⟨e,he,rfl⟩:=Array.mem_map.1 h;exact⟨e,he,rfl⟩
section
variable {Shun:Loc->Prop} {B B' L d:Nat} {t u:CJ}
theorem MM.past(h:MM Shun B L t 0):Past Shun B t:=⟨h.clean,h.known,h.over,h.deaf,h.seen⟩
theorem AHk(h:Past Shun B t):MM Shun B B t 0:=⟨h.clean,h.known,h.over,h.hears,h.seen,λop hop a ha=>by have:=h.seen op hop;rw[ha] at this;exact this⟩
theorem MM.mono(h:MM Shun B L t d)(hB:B<=B'):MM Shun B' L t d:=⟨h.clean,h.known,h.over,h.deaf,λop hop=>MemAct.low_mono hB (h.seen op hop),h.nor⟩
theorem MM.app0(h:MM Shun B L t d)(hu: ∀op∈u,op.g=0)(hs: ∀op∈u,∀b,op.act.touch? =AA b->Shun b.loc->b.kind≠ .plain)(hl: ∀op∈u,op.act.low B)(hn: ∀op∈u,∀a,op.act≠ .mark (.release a)):MM Shun B L (t++u) (Deaf (t++u) 0):=by
 refine⟨λsaid=>noRace_append (h.clean said) hu λi a ha op hop b hb hc=>?_,λi a ha hm=>?_,handedOver_app h.over λop hop=>.inl (hu op hop),rfl,seen_app h.seen hl,λop hop a ha=>(JM.1 hop).elim (λx=>h.nor op x a ha) λx=>Ak ha (hn op x a)⟩
 ·rcases h.known i a ha hc.2.1 with hk|⟨hsa,hka⟩;exact hk;have hkb:=hs op hop b hb (hc.1▸hsa);obtain⟨_,_,_,hcase⟩:=hc;rw[hka] at hcase;rcases hcase with x|x|⟨_,x,_⟩;(cases x);exact Ak x hkb;cases x
 obtain⟨x,hx,hxa⟩:=touch_of ha;rcases Yl hx with ⟨_,hx'⟩|⟨_,hxu⟩
 ·exact (h.known i a (by rw[touchAt_of hx'];exact hxa) hm).imp (·.app u) id
 have:=knows_own hx;rw[hu x hxu] at this;exact .inl this
theorem MM.own(h:MM Shun B L t d)(hes: ∀e∈es,EvG Shun B e):MM Shun B L (t++Dc 0 fn pos es) (Ei d es):=by
 have:=h.app0 (u:=Dc 0 fn pos es) (λop hop=>by obtain⟨e,_,rfl⟩:=QY hop;rfl) (λop hop b hb=>by obtain⟨e,he,rfl⟩:=QY hop;exact (hes e he).1 b hb)
  (λop hop=>by obtain⟨e,he,rfl⟩:=QY hop;exact (hes e he).2.1) (λop hop=>by obtain⟨e,he,rfl⟩:=QY hop;exact (hes e he).2.2)
 rw[Deaf_own,h.deaf] at this;exact this
theorem MM.mute(h:MM Shun B L t d){g:Nat}(hg:g≠0){fn:Bl}{pos:String}{es:Array Be}(hm: ∀e∈es,e.mute=true):MM Shun B L (t++Dc g fn pos es) d:=by
 (have hu: ∀op∈Dc g fn pos es,op.g=g:=λop hop=>by obtain⟨e,_,rfl⟩:=QY hop;rfl);have hn: ∀op∈Dc g fn pos es,op.act.touch? =AB:=λop hop=>by obtain⟨e,he,rfl⟩:=QY hop;exact touch_mute (hm e he)
 refine⟨λsaid=>noRace_append (h.clean said) hu λi a _ op hop b hb _=>(by rw[hn op hop] at hb;cases hb),λi a ha hmm=>?_,handedOver_app h.over λop hop=>.inr (hn op hop),(MF t hg _ hu).trans h.deaf,
  seen_app h.seen λop hop=>(by obtain⟨e,he,rfl⟩:=QY hop;exact low_mute (hm e he) B),λop hop a ha=>(JM.1 hop).elim (λx=>h.nor op x a ha) λx=>by
   obtain⟨⟨l,wr,sy⟩,he,rfl⟩:=QY x;have:=hm _ he;(cases l<;>simp[Event.mute] at this);rename_i m
   cases m<;>simp[CY] at this ha⟩
 obtain⟨x,hx,hxa⟩:=touch_of ha;rcases Yl hx with ⟨_,hx'⟩|⟨_,hxu⟩
 ·exact (h.known i a (by rw[touchAt_of hx'];exact hxa) hmm).imp (·.app _) id
 rw[hn x hxu] at hxa;cases hxa
end
structure Oi (P:BM) (Z:Nat->Prop) (B L:Nat) (gs:Array Ad) (t:CJ) (a:Ad) (q:Nat->Nat) (d:Nat):Prop where
 at0:gs[0]? =AA a
 leavers:Leavers P t gs q
 past:MM (PG Z) B L t d
section
variable {P:BM} {Z:Nat->Prop} {B B' L d:Nat} {gs:Array Ad} {w w':AL} {t:CJ} {a a' g:Ad} {q:Nat->Nat} {sl sl':Option (Nat×Nat)} {es:Array Be}
theorem Sit.AJf(h:Sit P Z gs w t a q):Oi P Z w.heap.size w.heap.size gs t a q 0:=⟨h.at0,h.leavers,AHk h.past⟩
theorem AEq(h:Oi P Z B L gs t a q d)(hs:Af P true a w=.go a' w' es)(hB:B<=B')(he: ∀e∈es,EvG (PG Z) B' e):
  runT P (crowd gs w sl') 0=(.next (crowd ((gs.map (woken P a a' w')).setIfInBounds 0 a') w' sl'),Dc 0 a.frame.fn a.frame.place es)/\
  ((gs.map (woken P a a' w')).setIfInBounds 0 a').size=gs.size/\Oi P Z B' L ((gs.map (woken P a a' w')).setIfInBounds 0 a') (t++Dc 0 a.frame.fn a.frame.place es) a' q (Ei d es):=by
 refine⟨Yk (P:=P) (sl:=sl') (i:=0) h.at0 (show Af P (0==0) a w=_ from hs),AV,?_,?_,?_⟩
 ·have hlt:0<gs.size:=(Dj.1 h.at0).1;simp[hlt]
 ·refine⟨λj x hj hx=>?_,λj hj=>?_⟩
  ·(have hne:0≠j:=by omega);rw[Dz hne,Kw] at hx;obtain⟨y,hy,rfl⟩:=J8.1 hx;have hq:=h.leavers.old j y hj hy;rw[woken_quitsD hq,MF t Aa _ (λop hop=>ofEvents_g hop)];exact hq
  have hlt:0<gs.size:=(Dj.1 h.at0).1;rw[MF t (g':=0) (by simp at hj;omega) _ (λop hop=>ofEvents_g hop)];exact h.leavers.above j (by simpa using hj)
 exact (h.past.mono hB).own he
theorem zx{dd i:Nat}(h:Oi P Z B L gs t a q d)(ha:a.status=.running)(hpos:0<i)(hi:gs[i]? =AA g)(hg:g.status=.running):
  ∃k g' es,q i=k+1/\runT P (crowd gs (w.at dd) sl') i=(.next (crowd ((gs.map (woken P g g' (w.at dd))).setIfInBounds i g') (w.at dd) sl'),Dc i g.frame.fn g.frame.place es)/\
   ((gs.map (woken P g g' (w.at dd))).setIfInBounds i g').size=gs.size/\Oi P Z B L ((gs.map (woken P g g' (w.at dd))).setIfInBounds i g') (t++Dc i g.frame.fn g.frame.place es) a (upd q i k) d/\
   D5 gs.size (upd q i k)<D5 gs.size q:=by
 have hq:=h.leavers.old i g hpos hi;(have hi0:(i==0)=false:=by simp;omega);have hlt:i<gs.size:=(Dj.1 hi).1
 cases hqi:q i with
 |zero=>rw[hqi] at hq;rw[hq.1] at hg;cases hg|succ k=>
  rw[hqi] at hq;rcases hq with ⟨hf,_⟩|⟨_,g',es,hm,hstp,hq'⟩;rw[hf] at hg;cases hg;refine⟨k,g',es,rfl,Yk (P:=P) (sl:=sl') (i:=i) hi (by rw[hi0];exact hstp (w.at dd)),AV,⟨?_,⟨λj x hj hx=>?_,λj hj=>?_⟩,h.past.mute Aa hm⟩,?_⟩
  ·(have hne:i≠0:=by omega);rw[Dz hne,Kw,h.at0];simp[woken_run ha]
  ·by_cases hji:i=j
   ·subst hji;rw[Wv (by simpa using hlt)] at hx;obtain rfl:=EF hx;rw[upd_same,Deaf_own];exact hq'
   rw[Dz hji,Kw] at hx;obtain⟨y,hy,rfl⟩:=J8.1 hx;have hqj:=h.leavers.old j y hj hy;rw[woken_quitsD hqj,upd_ne q k (H8 hji),MF t hji _ (λop hop=>ofEvents_g hop)];exact hqj
  ·rw[MF t (g':=i) (by simp at hj;omega) _ (λop hop=>ofEvents_g hop)];exact h.leavers.above j (by simpa using hj)
  have hsum:D5 gs.size (upd q i k)+(k+1)=D5 gs.size q+k:=by
   have:=sumTo_upd q k id hlt;simpa[hqi] using this
  omega
theorem AJg(h:Oi P Z B L gs t a q d)(ha:a.status=.running):
  ∃N gs1 w1 sl1 t1 q1 dd sx,D7 P N (crowd gs w sl) t=(.next (crowd gs1 w1 sl1),t1)/\gs1.size=gs.size/\Oi P Z B L gs1 t1 a q1 d/\(∃d1,w1=w.at d1)/\stepT P (crowd gs1 w1 sl1)=runT P (crowd gs1 (w.at dd) sx) 0:=by
 obtain⟨M,hM⟩: ∃M,D5 gs.size q=M:=⟨_,rfl⟩
 induction M using Nat.strongRecOn generalizing gs w sl t q with
 |_ M ih=>
  have haw: ∀g∈gs,awake g:=λg hg=>by
   obtain⟨i,hi,rfl⟩:=nN.1 hg;rcases O7 i with rfl|hpos
   ·have h0:=h.at0;(have:gs[0]=a:=by simpa[FZ hi] using h0);rw[this];exact awake_of (.inl ha)
   exact awake_of ((h.leavers.old i _ hpos (FZ hi)).status.elim .inl λx=>.inr (.inr x))
  obtain⟨i,g,dd,sx,hi,hg,hst⟩:=crowd_pick (P:=P) (w:=w) (sl:=sl) haw ⟨0,a,h.at0,ha⟩;rcases O7 i with rfl|hpos;exact⟨0,gs,w,sl,t,q,dd,sx,rfl,rfl,h,⟨w.drawn,rfl⟩,hst⟩;obtain⟨k,g',es,hq,hr,hz,hS,hlt⟩:=zx (w:=w) (dd:=dd) (sl':=sx) h ha hpos hi hg;obtain⟨N,gs1,w1,sl1,t1,q1,d2,sx2,h1,h2,h3,⟨d1,h4⟩,h5⟩:=ih _ (by rw[hz,<- hM];exact hlt) (w:=w.at dd) (sl:=sx) hS rfl;exact⟨N+1,gs1,w1,sl1,t1,q1,d2,sx2,by simp only[D7,hst,hr];exact h1,h2.trans hz,h3,⟨d1,h4⟩,h5⟩
theorem Ed{t'':CJ}{K:Nat}(h:D7 P N m t=(.next m',t'))(hk:D7 P K m' t'=(.next m'',t'')):D7 P (N+K) m t=(.next m'',t''):=by
 rw[runNT_add,h];exact hk
theorem pO{ops:Array MemOp}(h:D7 P N m t=(.next m',t'))(hs:stepT P m'=(.next m'',ops)):D7 P (N+1) m t=(.next m'',t'++ops):=by
 rw[runNT_add,h];simp only[D7,hs]
theorem zy{R:Ad->AL->Array Be->Nat->Prop}(h:Oi P Z B L gs t a q d)(ha:a.status=.running)
  (hstep: ∀dd,∃a' w' es B',Af P true a (w.at dd)=.go a' w' es/\B<=B'/\(∀e∈es,EvG (PG Z) B' e)/\R a' w' es B'):
  ∃N gs1 w' sl1 t1 q1 a' es B',D7 P N (crowd gs w sl) t=(.next (crowd gs1 w' sl1),t1)/\gs1.size=gs.size/\Oi P Z B' L gs1 t1 a' q1 (Ei d es)/\R a' w' es B':=by
 obtain⟨N,gs1,w1,sl1,t1,q1,dd,sx,h1,h2,h3,⟨d1,rfl⟩,h5⟩:=AJg (w:=w) (sl:=sl) h ha;obtain⟨a',w',es,B',k1,k2,k3,k4⟩:=hstep dd;obtain⟨r1,r2,r3⟩:=AEq (sl':=sx) h3 k1 k2 k3;exact⟨N+1,_,w',sx,_,q1,a',es,B',pO h1 (h5.trans r1),r2.trans h2,r3,k4⟩
theorem AAA{D:AL->AL->Array Be->Prop}{Stop:Ad->AL->Prop}(hD: ∀w w' es,D w w' es->∀e∈es,EvG (PG Z) B e/\e.loc≠ .mark .disable/\e.loc≠ .mark .enable):
  ∀{n:Nat} {gs:Array Ad} {a:Ad} {w:AL} {sl:Option (Nat×Nat)} {t:CJ} {q:Nat->Nat},Oi P Z B L gs t a q d->Goes P true AtRel D Stop n a w->
   ∃N gs1 w1 sl1 t1 q1 a1,D7 P N (crowd gs w sl) t=(.next (crowd gs1 w1 sl1),t1)/\gs1.size=gs.size/\Oi P Z B L gs1 t1 a1 q1 d/\∀dd,Stop a1 (w1.at dd):=by
 intro n
 induction n with
 |zero=>intro gs a w sl t q h hG;exact⟨0,gs,w,sl,t,q,a,rfl,rfl,h,λdd=>hG _ ⟨dd,rfl⟩⟩
 |succ n ih=>
  intro gs a w sl t q h hG;rcases hG with hG|⟨ha,hG⟩;exact⟨0,gs,w,sl,t,q,a,rfl,rfl,h,λdd=>hG _ ⟨dd,rfl⟩⟩
  obtain⟨N,gs1,w1,sl1,t1,q1,a1,es,B1,h1,h2,h3,rfl,h4,h5⟩:=zy (w:=w) (sl:=sl) (R:=λa' w' es B'=>B'=B/\Goes P true AtRel D Stop n a' w'/\∀e∈es,e.loc≠ .mark .disable/\e.loc≠ .mark .enable) h ha (λdd=>by
   have hs:=hG (w.at dd) ⟨dd,rfl⟩
   cases hgo:Af P true a (w.at dd) with
   |go a' w' es=>
    rw[hgo] at hs;exact⟨a',w',es,B,rfl,Bd _,λe he=>(hD _ _ _ hs.1 e he).1,rfl,hs.2,λe he=>(hD _ _ _ hs.1 e he).2⟩
   |_=>rw[hgo] at hs;exact hs.elim)
  rw[Kt h5] at h3;obtain⟨N2,gs2,w2,sl2,t2,q2,a2,k1,k2,k3,k4⟩:=ih (sl:=sl1) h3 h4;exact⟨N+N2,gs2,w2,sl2,t2,q2,a2,Ed h1 k1,k2.trans h2,k3,k4⟩
end
structure Since {SR:Nat->Prop} (Z:Nat->Prop) (o o':Own SR) (w w':AL):Prop where
 own: ∀b,o'.O b->b<w'.heap.size/\¬Z b
 new: ∀b,o'.O b->o.O b\/w.heap.size<=b
 old: ∀b,o.O b->o'.O b
 keep: ∀b,b<w.heap.size->¬o.O b->w'.heap[b]? =w.heap[b]?
 sz:w.heap.size<=w'.heap.size
 same:w'.tape=w.tape/\w'.os=w.os/\w'.output=w.output
def Ps (P:BM) {SR:Nat->Prop} (Fin:Ad->Own SR->Prop) (a:Ad) (o:Own SR):Prop:=
 ∀{Z:Nat->Prop} {L:Nat} {gs:Array Ad} {w:AL} {sl:Option (Nat×Nat)} {t:CJ} {q:Nat->Nat},Oi P Z w.heap.size L gs t a q 0->o.I w->(∀b,o.O b->b<w.heap.size/\¬Z b)->(∀b,SR b->b<w.heap.size/\¬Z b)->(∀b,Z b->b<w.heap.size)->
  ∃N gs' w' sl' t' q' a' o',D7 P N (crowd gs w sl) t=(.next (crowd gs' w' sl'),t')/\gs'.size=gs.size/\Oi P Z w'.heap.size L gs' t' a' q' 0/\Fin a' o'/\o'.I w'/\Since Z o o' w w'
section
variable {P:BM} {SR:Nat->Prop} {Fin:Ad->Own SR->Prop}
theorem Ps.fin{a:Ad}{o:Own SR}(h:Fin a o):Ps P Fin a o:=λ{_ _ gs w sl t q} h1 h2 h3 _ _=>
 ⟨0,gs,w,sl,t,q,a,o,rfl,rfl,h1,h,h2,h3,λ_ h=>.inl h,λ_ h=>h,λ_ _ _=>rfl,Bd _,rfl,rfl,rfl⟩
theorem AMt{SR:Nat->Prop}{o o':Own SR}{w w':AL}{Z:Nat->Prop}(h:Np o o' w w' es)(ho: ∀b,o'.O b->b<w'.heap.size/\¬Z b)(hS: ∀b,SR b->b<w'.heap.size/\¬Z b):(∀e∈es,EvG (PG Z) w'.heap.size e)/\∀d,Ei d es=d:=by
 refine⟨λe he=>?_,λd=>Kt (λe he=>?_) d⟩
 ·have hk:=h.evs e he;obtain⟨l,wr,sy⟩:=e
  cases l with
  |cell ad=>
   have hb:ad.block<w'.heap.size/\¬Z ad.block:=by
    rcases hk with hk|hk;exact ho _ hk;exact hS _ hk.1
   refine⟨λx hx hz=>?_,hb.1,λa h=>by rw[NV] at h;cases h⟩;simp only[NV,DL,DR] at hx;subst hx;exact Ak hz hb.2
  |obj c=>
   have hb:=ho _ hk.1;refine⟨λx hx hz=>?_,?_,λa h=>by cases wr<;>cases sy<;>cases h⟩
   ·have hl:x.loc=.obj c:=by
     cases wr<;>cases sy<;>simp[CY,DL] at hx<;>first|(subst hx;rfl)|exact Ak ⟨rfl,rfl⟩ hk.2
    rw[hl] at hz;exact Ak hz hb.2
   cases wr<;>cases sy<;>first|exact Ak ⟨rfl,rfl⟩ hk.2|exact hb.1
  |mark m=>
   cases m with|extern _=>exact⟨λx hx=>by simp[CY,DL] at hx,Ar,λa h=>by cases h⟩|noRoom=>exact⟨λx hx=>by simp[CY,DL] at hx,Ar,λa h=>by cases h⟩|_=>exact hk.elim
  |output=>exact⟨λx hx hz=>by
    have hl:x.loc=.output:=by
     cases wr<;>cases sy<;>simp[CY,DL] at hx<;>(subst hx;rfl)
    rw[hl] at hz;exact hz.elim,by cases wr<;>cases sy<;>trivial,λa h=>by cases wr<;>cases sy<;>cases h⟩
  |_=>exact hk.elim
 have hk:=h.evs e he;constructor;intro hl;rw[hl] at hk;exact hk.elim;intro hl;rw[hl] at hk;exact hk.elim
theorem NT:uX P true (Ps P Fin) where
 QS:=λ{a o} nx no hr hstep hnext {Z L gs w sl t q} h1 h2 h3 h4 h5=>by
  obtain⟨N,gs1,w1,sl1,t1,q1,a1,es,B1,k1,k2,k3,⟨dd,ra,rB⟩,hp⟩:=zy (w:=w) (sl:=sl) (R:=λa' w' es B'=>(∃dd,a'=nx (w.at dd)/\B'=w'.heap.size/\Np o (no (w.at dd)) (w.at dd) w' es)/\∀d,Ei d es=d) h1 hr (λdd=>by
   obtain⟨w',es,e1,e2⟩:=hstep (w.at dd) (o.at h2 dd);have hsz:w.heap.size<=w'.heap.size:=e2.sz
   have ho': ∀b,(no (w.at dd)).O b->b<w'.heap.size/\¬Z b:=λb hb=>by
    rcases (e2.O' b).1 hb with x|x;exact⟨Em (h3 b x).1 hsz,(h3 b x).2⟩;exact⟨x.2,λhz=>by have:=h5 b hz;have:w.heap.size<=b:=x.1;omega⟩
   have hev:=AMt (Z:=Z) e2 ho' (λb hb=>⟨Em (h4 b hb).1 hsz,(h4 b hb).2⟩)
   exact⟨nx (w.at dd),w',es,w'.heap.size,e1,hsz,hev.1,⟨dd,rfl,rfl,e2⟩,hev.2⟩)
  obtain⟨rB,e2⟩:=rB;subst ra rB;rw[hp] at k3;have hsz:w.heap.size<=w1.heap.size:=e2.sz
  obtain⟨N2,gs2,w2,sl2,t2,q2,a2,o2,j1,j2,j3,j4,j5,j6⟩:=hnext (w.at dd) (o.at h2 dd) (sl:=sl1) k3 e2.I' (λb hb=>by
    rcases (e2.O' b).1 hb with x|x;exact⟨Em (h3 b x).1 hsz,(h3 b x).2⟩
    exact⟨x.2,λhz=>by have:=h5 b hz;have:w.heap.size<=b:=x.1;omega⟩) (λb hb=>⟨Em (h4 b hb).1 hsz,(h4 b hb).2⟩) (λb hb=>Em (h5 b hb) hsz)
  refine⟨N+N2,gs2,w2,sl2,t2,q2,a2,o2,Ed k1 j1,j2.trans k2,j3,j4,j5,j6.own,λb hb=>?_,λb hb=>j6.old b ((e2.O' b).2 (.inl hb)),λb hb hn=>?_,Cj hsz j6.sz,j6.same.1.trans e2.same.1,j6.same.2.1.trans e2.same.2.1,j6.same.2.2.trans e2.same.2.2⟩
  ·rcases j6.new b hb with x|x
   ·rcases (e2.O' b).1 x with y|y;exact .inl y;exact .inr y.1
   exact .inr (Cj hsz x)
  rw[j6.keep b (Em hb hsz) (λhx=>by
   rcases (e2.O' b).1 hx with y|y;exact hn y
   have:w.heap.size<=b:=y.1;omega)]
  exact e2.keep b hb hn
end
end
section
variable {L':List (Nat×Obj)}{l:List BX}{b:Nat}{t:Am}{v x:AQ}
section
variable {P:BM} {mn:Bool} {SR:Nat->Prop} {J:Ad->Own SR->Prop} (hJ:uX P mn J) {R:RF SR} {Gb:Nat->Prop} {L:List (Nat×Obj)}
 {fn:Bl} {T:Array AQ} {k:List Item} {D:List EL} {ro:Option Nat} {cs:List AX} {ops:Array BX} {i:Nat} {rest:List Nat} {op:BX} {o:Own SR}
include hJ
theorem AMu(v:Nat->AQ)(ob:Obj)(ho:ops[i]? =AA op)(hw:DX op (yielded ops T)=true)(hd:ro=AB\/∀c,op.op≠ .defer c)(hr: ∀w:AL,(BI (ev T) op).run P w=.ok (.value (v w.heap.size)) (w.alloc ob))(he: ∀w:AL,(BI (ev T) op).events P w #[]= #[])
  (next: ∀n,(∀y∈L.map Ac,y<n)->¬SR n->J (G (fr fn (put T op.dst (v n)) (.inRegion ops rest::k) D ro) cs) (ow R Gb ((n,ob)::L))):
  J (G (fr fn T (.inRegion ops (i::rest)::k) D ro) cs) (ow R Gb L):=by
 refine Oa hJ v ob ho hw hd (λw _=>hr w) (λw _=>he w) λn hn=>next n (λy hy=>?_) λhs=>?_
 ·obtain⟨w,hw',rfl⟩:=hn;obtain⟨p,hp,rfl⟩:=CG.1 hy;exact (Dj.1 (hw'.1 p hp)).1
 obtain⟨w,hw',rfl⟩:=hn;exact Nat.lt_irrefl _ (R.lt w hw'.2 _ hs)
theorem pjn(v:Nat->Value)(ob:Obj){T':Nat->Array Value}(next: ∀n,(∀y∈L.map Prod.fst,y<n)->J (G (fr fn (T' n) (.inRegion l.toArray rest::k) D ro) cs) (ow R Gb ((n,ob)::L)))(ho:l[i]? =some op:=by exact rfl)(hw:Region.wanted op (yielded l.toArray T)=true:=by rfl)(hd:ro=none\/∀c,op.op≠ .defer c:=by first|exact .inl rfl|exact .inr (λc h=>by cases h))
  (hr: ∀w:World,(execOp (ev T) op).run P w=.ok (.value (v w.heap.size)) (w.alloc ob):=by intro w;unfold ev;go_simp;try exact rfl) (he: ∀w:World,(execOp (ev T) op).events P w #[]= #[]:=by intro w;unfold ev;first|(simp[go_sem];done)|(simp[go_sem,AMv];done)|simp[go_sem,AMw])
  (hT: ∀n,Nf (put T op.dst (v n)) (T' n):=by intro n;simp only[put];(try walk_nrm);exact rfl):J (G (fr fn T (.inRegion l.toArray (i::rest)::k) D ro) cs) (ow R Gb L):=
 AMu hJ v ob (by simpa using ho) hw hd hr he λn h _=>by have e:put T op.dst (v n)=T' n:=hT n;rw[e];exact next n h
theorem AJh{g g':Ad}{ob ob':Obj}(hb:(b,ob)∈L)(hS: ¬SR b)(jT: ∀y,y∈L'.map Ac↔y∈L.map Ac)(hL: ∀p∈L',p=(b,ob')\/(p∈L/\p.1≠b))
  (h: ∀w:AL,w.heap[b]? =AA ob->∃es,Af P mn g w=.go g' {w with heap:=w.heap.setIfInBounds b ob'} es/\∀e∈es,∃a x,e=⟨.cell a,x,false⟩/\a.block=b) (hr:g.status=.running)
  (next:J g' (ow R Gb L')):J g (ow R Gb L):=by
 refine hJ.QS (λ_=>g') (λ_=>ow R Gb L') hr (λw hw=>?_) λ_ _=>next;have h1:w.heap[b]? =AA ob:=hw.1 _ hb;obtain⟨es,h2,h3⟩:=h w h1;have hlt:b<w.heap.size:=(Dj.1 h1).1;have hmem:b∈L.map Ac:=OD hb;refine⟨_,es,h2,⟨λp hp=>?_,?_⟩,AV,λc=>?_,λc hc hn=>?_,⟨rfl,rfl,rfl⟩,λe he=>?_⟩
 ·show (w.heap.setIfInBounds b ob')[p.1]? =_;rcases hL p hp with rfl|⟨hp,hne⟩;simp[hlt];rw[Dz (λe=>hne e.symm)];exact hw.1 p hp
 exact R.st w _ hw.2 (λc hc=>Dz (λe=>hS (by rw[e];exact hc))) AV
 ·simp only[ow,jT];constructor;exact .inl;rintro (x|⟨x1,x2⟩);exact x;have:c<(w.heap.setIfInBounds b ob').size:=x2;simp at this;omega
 exact Dz (λe=>hn (.inr (by rw[<- e];exact hmem)));obtain⟨a,x,rfl,ha⟩:=h3 e he;exact .inl (.inr (by rw[ha];exact (jT b).2 hmem))
omit hJ in
theorem AAB(w:AL){fr:Nat×Nat}(h:w.heap[b]? =AA (.cells #[x] t fr)):w.setCell ⟨b,0,AB⟩ v={w with heap:=w.heap.setIfInBounds b (.cells #[v] t fr)}:=by
 have hlt:b<w.heap.size:=(Dj.1 h).1
 have:(w.setCell ⟨b,0,AB⟩ v).heap=w.heap.setIfInBounds b (.cells #[v] t fr):=by
  unfold World.setCell;apply ZM;intro i;simp only[mZ];by_cases e:b=i
  ·subst e;rw[h];simp[hlt]
  rw[Dz e,BL e]
 have e:w.setCell ⟨b,0,AB⟩ v={w with heap:=(w.setCell ⟨b,0,AB⟩ v).heap}:=rfl;rw[e,this]
theorem AEr(hb:(b,.cells #[x] t)∈L)(hS: ¬SR b)(jT: ∀y,y∈L'.map Ac↔y∈L.map Ac)(hL: ∀p∈L',p=(b,.cells #[v] t)\/(p∈L/\p.1≠b))
  (ho:ops[i]? =AA op) (hw:DX op (yielded ops T)=true) (hd:ro=AB\/∀c,op.op≠ .defer c)
  (hr: ∀w:AL,w.cell? ⟨b,0,AB⟩=AA x->w.frozen? ⟨b,0,AB⟩=false->(BI (ev T) op).run P w=.ok .skip (w.setCell ⟨b,0,AB⟩ v)) (he: ∀w:AL,w.cell? ⟨b,0,AB⟩=AA x->w.frozen? ⟨b,0,AB⟩=false->∀e∈(BI (ev T) op).events P w #[],e=⟨.cell ⟨b,0,AB⟩,true,false⟩)
  (next:J (G (fr fn (put T op.dst AU) (.inRegion ops rest::k) D ro) cs) (ow R Gb L')):J (G (fr fn T (.inRegion ops (i::rest)::k) D ro) cs) (ow R Gb L):=by
 refine AJh hJ (ob':=.cells #[v] t) hb hS jT hL (λw h=>?_) rfl next;(have h1:w.cell? ⟨b,0,AB⟩=AA x:=by simp[Pj,h]);(have h2:w.frozen? ⟨b,0,AB⟩=false:=by simp[World.frozen?,h]);refine⟨seen P fn ((BI (ev T) op).events P w #[]),?_,λe hx=>⟨⟨b,0,AB⟩,true,he w h1 h2 e (Dy hx),rfl⟩⟩;rw[AMd ho hw hd (hr w h1 h2),AAB w h]
theorem pjs(b:Nat){T':Array Value}(next:J (G (fr fn T' (.inRegion l.toArray rest::k) D ro) cs) (ow R Gb (L.map λp=>if p.1=b then (b,.cells #[v] t) else p)))(hS: ¬SR b:=by exact λh=>h)(ho:l[i]? =some op:=by exact rfl)
  (hw:Region.wanted op (yielded l.toArray T)=true:=by rfl) (hd:ro=none\/∀c,op.op≠ .defer c:=by first|exact .inl rfl|exact .inr (λc h=>by cases h)) (hb:(b,.cells #[x] t)∈L:=by simp;done)
  (hr: ∀w:World,w.cell? ⟨b,0,none⟩=some x->w.frozen? ⟨b,0,none⟩=false->(execOp (ev T) op).run P w=.ok .skip (w.setCell ⟨b,0,none⟩ v):=by intro w f0 f1;unfold ev;go_simp;try exact rfl)
  (he: ∀w:World,w.cell? ⟨b,0,none⟩=some x->w.frozen? ⟨b,0,none⟩=false->∀e∈(execOp (ev T) op).events P w #[],e=⟨.cell ⟨b,0,none⟩,true,false⟩:=by intro w f0 f1;unfold ev;intro e he;simp[go_sem,f0,f1] at he;exact he)
  (hT:Nf (put T op.dst undef) T':=by simp only[put];(try walk_nrm);exact rfl):J (G (fr fn T (.inRegion l.toArray (i::rest)::k) D ro) cs) (ow R Gb L):=by
 refine AEr hJ (L':=L.map λp=>if p.1=b then (b,.cells #[v] t) else p) hb hS (λy=>?_) (λp hp=>?_) (by simpa using ho) hw hd hr he (by have e:put T op.dst AU=T':=hT;rw[e];exact next)
 ·rw[En,Hm (g:=Ac) λp _=>?_];show (if p.1=b then (b,QI #[v] t) else p).1=p.1;split
  ·rename_i h;exact h.symm
  rfl
 obtain⟨q,hq,rfl⟩:=CG.1 hp;split;exact .inl rfl;rename_i h;exact .inr ⟨hq,h⟩
omit hJ in
theorem AEs{x:Item}(h: ∀k',Go.RowKit.Hid (k'=k)->J (G (fr fn T (x::k') D ro) cs) o):J (G (fr fn T (x::k) D ro) cs) o:=h k rfl
end
theorem Qn{p q:Prop}(n:p)(h:p->q:=by intro n;first|((with_reducible refine CX hJ (λw=>KD) ?_ n)<;>rfl)|((with_reducible refine CX hJ (λw=>s_reg) ?_ n)<;>rfl)|((with_reducible refine CX hJ (λw=>GL) ?_ n)<;>rfl)|((with_reducible refine CX hJ (λw=>QT) ?_ n)<;>rfl)|((with_reducible refine CX hJ (λw=>LK) ?_ n)<;>rfl)|((with_reducible refine CX hJ (λw=>N8) ?_ n)<;>rfl)|((with_reducible refine CX hJ (λw=>RQ) ?_ n)<;>rfl)|((with_reducible refine CX hJ (λw=>QU ?_) ?_ n)<;>rfl)|((with_reducible refine CX hJ (λw=>QW ?_) ?_ n)<;>rfl)|exact EC hJ n|exact CX hJ (λw=>KD) rfl n|exact CX hJ (λw=>s_reg) rfl n|exact CX hJ (λw=>GL) rfl n|exact CX hJ (λw=>QT) rfl n|exact CX hJ (λw=>LK) rfl n|exact CX hJ (λw=>N8) rfl n|exact CX hJ (λw=>RQ) rfl n|exact CX hJ (λw=>QU rfl) rfl n|exact CX hJ (λw=>QW rfl) rfl n):q:=h n
end
theorem AMx{q:Prop}(H:Nat->Nat->Nat->Nat->Prop){p:Nat->Nat->Nat->Nat->Prop}(k:(∀a b c d,H a b c d->p a b c d)->q)(h: ∀a b c d,H a b c d->p a b c d):q:=k h
noncomputable def AGR:Code:=match EP Tryz.f46 with| .seq _ (.seq _ (.seq _ c))=>c|_=>.skip
noncomputable def ops3:Array BX:=match AGR with| .seq (.region _ o _) _=>o|_=>#[]
noncomputable def UF:Code:=match AGR with| .seq _ c=>c|_=>.skip
theorem AMy{p:Array AQ}{w:AL}:(E8 74 p).events Tryz.prog w #[]= #[]:=by rfl
theorem AMv(w:AL):(Instr.makeChan 157 (.int .i64 0)).events Tryz.prog w #[]= #[]:=by simp[Instr.makeChan,asInt,go_sem]
theorem AMw(w:AL):(Instr.makeChan 158 (.int .i64 0)).events Tryz.prog w #[]= #[]:=by simp[Instr.makeChan,asInt,go_sem]
section
variable {J:Ad->Own (λ_:Nat=>False)->Prop} (hJ:uX Tryz.prog true J) {R:RF (λ_:Nat=>False)} {Gb:Nat->Prop} {fv:Fn} {ps qs:Array AQ} {to:AQ} {cs:List AX}
include hJ
theorem AJi (next: ∀xb c1 c2 b1 b2 wg,[wg,b2,b1,c2,c1,xb].Nodup->J (G (Bc Tryz.prog 74 #[.pointer (AA ⟨wg,0,AB⟩),.int .i64 1] .normal)
   (fr 46 #[.func fv ps qs,to,.pointer (AA ⟨xb,0,AB⟩),AU,.int .i64 0,.int .i64 0,.pointer (AA ⟨b1,0,AB⟩),.pointer (AA ⟨b2,0,AB⟩),.pointer (AA ⟨wg,0,AB⟩),AU,.chan (AA c1),.chan (AA c2),AU,AU,AU,AU,AU,AU,AU,AU,AU,AU,AU,AU,AU,AU,AU,AU,AU] [.inRegion ops3 [0],.code UF] [] AB::cs))
   (ow R Gb [(wg,.cells #[.int .u64 0,.int .u32 0] 168),(b2,.cells #[.chan (AA c2)] 158),(b1,.cells #[.chan (AA c1)] 157),(c2,.chan 0 #[] false 0 0 false),(c1,.chan 0 #[] false 0 0 false),(xb,.cells #[.func fv ps qs] 106)])):
  J (G (Bc Tryz.prog 46 #[.func fv ps qs,to] .normal) cs) (ow R Gb []):=by
 have Next:=AO next;clear next;rw[IQ Tryz.func46 rfl];simp only[Tryz.f46,Iq,EY,Hg,Jp,MH,KL,MI,KN,KO,EE,Dn];(iterate 2 refine Qn ?_);refine pjn hJ (λn=>.pointer (AA ⟨n,0,AB⟩)) (.cells #[.func fv ps qs] 106) λxb hxb=>?_;(iterate 4 refine Qn ?_);refine AEs λk1 hk1=>?_;apply AMx (λc1 c2 b1 b2=>[b2,b1,c2,c1,xb].Nodup)
 ·intro fin;refine oz hJ [[0,1,2,3,4,5],[0,1,3,2,4,5],[0,2,1,3,4,5],[0,2,3,1,4,5],[0,2,3,4,1,5],[0,3,1,2,4,5],[0,3,2,1,4,5],[0,3,2,4,1,5],[1,0,2,3,4,5],[1,0,3,2,4,5],[1,2,0,3,4,5],[1,2,3,0,4,5],[1,3,0,2,4,5],[1,3,2,0,4,5],[2,0,1,3,4,5],[2,0,3,1,4,5],[2,0,3,4,1,5],[2,1,0,3,4,5],[2,1,3,0,4,5],[2,3,0,1,4,5],[2,3,0,4,1,5],[2,3,1,0,4,5],[3,0,1,2,4,5],[3,0,2,1,4,5],[3,0,2,4,1,5],[3,1,0,2,4,5],[3,1,2,0,4,5],[3,2,0,1,4,5],[3,2,0,4,1,5],[3,2,1,0,4,5]] (.inr Az) Az λl hl=>?_;have Fin:=AO fin;clear fin;simp only[BF,BH,or_false] at hl;rcases hl with rfl|rfl|rfl|rfl|rfl|rfl|rfl|rfl|rfl|rfl|rfl|rfl|rfl|rfl|rfl|rfl|rfl|rfl|rfl|rfl|rfl|rfl|rfl|rfl|rfl|rfl|rfl|rfl|rfl|rfl
  all_goals
   iterate 6 first
    |(refine pjn hJ (i:=0) (λn=>.chan (AA n)) (.chan 0 #[] false 0 0 false) λc1 hc1=>?_;simp only[BN,EG,BF,BH,or_false,forall_eq_or_imp,forall_eq] at hc1)|(refine pjn hJ (i:=1) (λn=>.chan (AA n)) (.chan 0 #[] false 0 0 false) λc2 hc2=>?_;simp only[BN,EG,BF,BH,or_false,forall_eq_or_imp,forall_eq] at hc2)|(refine pjn hJ (i:=2) (λn=>.pointer (AA ⟨n,0,AB⟩)) (.cells #[.chan AB] 157) λb1 hb1=>?_;simp only[BN,EG,BF,BH,or_false,forall_eq_or_imp,forall_eq] at hb1)|(refine pjn hJ (i:=3) (λn=>.pointer (AA ⟨n,0,AB⟩)) (.cells #[.chan AB] 158) λb2 hb2=>?_;simp only[BN,EG,BF,BH,or_false,forall_eq_or_imp,forall_eq] at hb2)|(refine pjs hJ (i:=4) b1 (x:=.chan AB) (v:=.chan (AA c1)) (t:=157) ?_;simp only[BN,EG,↓reduceIte];repeat rw[BL Aa])|(refine pjs hJ (i:=5) b2 (x:=.chan AB) (v:=.chan (AA c2)) (t:=158) ?_;simp only[BN,EG,↓reduceIte];repeat rw[BL Aa])
   rw[Xf (L':=[(b2,.cells #[.chan (AA c2)] 158),(b1,.cells #[.chan (AA c1)] 157),(c2,.chan 0 #[] false 0 0 false),(c1,.chan 0 #[] false 0 0 false),(xb,.cells #[.func fv ps qs] 106)]) (by intro p;simp only[BF,BH,or_false]<;>constructor<;>(rintro (h|h|h|h|h)<;>simp[h]))];exact Fin.out c1 c2 b1 b2 (by simp;omega)
 intro c1 c2 b1 b2 hd;have hk1:=hk1.out;subst hk1;(iterate 3 refine Qn ?_);refine pjn hJ (λn=>.pointer (AA ⟨n,0,AB⟩)) (.cells #[.int .u64 0,.int .u32 0] 168) λwg hwg=>?_;(iterate 3 refine Qn ?_);refine Ro hJ (f:=74) (args:=#[.pointer (AA ⟨wg,0,AB⟩),.int .i64 1]) rfl rfl (.inl rfl) (λw hw=>?_) (λw hw=>?_) ?_;rw[GR (op:=_) (f:=74) (vs:=#[.pointer (AA ⟨wg,0,AB⟩),.int .i64 1]) rfl Wu];rfl;rw[GR (op:=_) (f:=74) (vs:=#[.pointer (AA ⟨wg,0,AB⟩),.int .i64 1]) rfl Wu];exact Gu AMy;simp only[BN,EG,BF,BH,or_false,forall_eq_or_imp,forall_eq] at hwg;exact Next.out xb c1 c2 b1 b2 wg (by simp at hd⊢;omega)
end
end Go.Proofs.YtkkgcebhfghdnaaGreatDoor
