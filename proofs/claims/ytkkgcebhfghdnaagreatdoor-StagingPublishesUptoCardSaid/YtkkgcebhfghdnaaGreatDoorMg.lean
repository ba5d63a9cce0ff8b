/- Layer 28, StagingPublishes: while the power is on a publishing ends exactly as the document says: what is seen, the error with step and place; and all of it is safe; where what comes in is together of bulk at most 1048576. -/
import Derived.Test.YtkkgcebhfghdnaaGreatDoorMf
import Derived.Deep.Cut
import Derived.Deep.CutRange
import Derived.Deep.DeepCutAuto
import Derived.Deep.RegionHeld3
import Derived.Deep.RegionLaw
import Derived.LaidEql
import Derived.LaidHandle
import Derived.LaidLaws
import Derived.RowKitTokens
import Derived.SevenTiedAt
import Derived.Stop.Asserts
import Derived.Test.YtkkgcebhfghdnaaGreatDoorCards
import Derived.Test.YtkkgcebhfghdnaaGreatDoorTie
set_option maxRecDepth 100000
set_option maxHeartbeats 8000000
open Go.Extern.ReflectliteType renaming assignableTo→UN, implements_→mP, abiMethod→mV, relation→QH, toType→mJ, typeOf→WH, method→mM, elem→mO
open Go.Extern.ReflectliteValue renaming valueError→Ox, methodAny→ABH, flagAddr→ABJ, unpack→UO, method→UR, parts→WI, isNil→Yp, elem→Yq, set→eY
open Go.Extern.Rtype renaming directlyAssignable→ABG
open Go.World renaming block_lt_of_cell?→UT, cell?→Pj
open Go renaming wp_region_held_drew→Ew, wp_loop_rounds→WM, wpAnyH_ready→Oz, wpAnyH_done→Ej, rounds_succ→Na, MemPlace→GZ, TypeId→Am, Ending→Fe, Value→AQ, World→AL, Calls→Au, DataW→Dt, Addr→Ag
open List renaming take_succ_cons→ABK, flatten_cons→Js, length_cons→EY, cons_append→Dn, foldl_cons→V9, nil_append→EE, sum_cons→Bz, length→NZ, range→Fp
open Option renaming toList_some→fC, map_some→Fj, none→AB, some→AA
open List.Pairwise renaming nil→mW
open Go.Instr renaming typeAssert→KI
open Go.IntKind renaming wrap_i64→NY
open ByteArray renaming empty→Ku
open Go.Result renaming andThen→QJ
open Go.Value renaming oneCell'→Jr, cells→Nv, int→Jq
open Go.AllReadyH renaming cons→Gp, nil→O0
open Go.Sem renaming run_bind→Eu
open Go.Frame renaming enter→Bc
open Go.Addr renaming add→Q9
open Prod renaming fst→Ac
open Go.Act renaming put→BG
namespace Go.Proofs.YtkkgcebhfghdnaaGreatDoor.Vw
open Go Go.RowKit Go.Extern.Stop Go.Stop Go.Extern
theorem rf(t:Ag)(w:AL):(UO (.iface 133 (.pointer (AA t)))).run Ae w
  =.ok (.agg #[.pointer (AA ⟨1,133,AB⟩),.pointer (AA ⟨w.heap.size,0,AB⟩),.int .u64 150]) (w.alloc (.cells #[.pointer (AA t)] 133)):=by kernel_rfl
theorem ADQ(a:Ag)(w:AL):(ABH (Ox "reflectlite.Value.Type" 0) (λt _ _ _=>mJ t) #[.agg #[.pointer (AA ⟨1,133,AB⟩),.pointer (AA a),.int .u64 150]]).run Ae w
  =.ok (.iface 199 (.agg #[.pointer (AA ⟨1,133,AB⟩)])) w:=by kernel_rfl
theorem rq(h:AQ)(w:AL):(Go.method 392 199 (.agg #[h]) "Kind").run Ae w=.ok (171,h) w:=by kernel_rfl
theorem ADR(w:AL):((mV λt=>(λa:Nat=>Jq IntKind.u8 (a:Int))<$>Rtype.kind t) #[.pointer (AA ⟨1,133,AB⟩)]).run Ae w=.ok (.int .u8 22) w:=by kernel_rfl
theorem AFe(w:AL):((mV λt=>(λa:Nat=>Jq IntKind.u8 (a:Int))<$>Rtype.kind t) #[.pointer (AA ⟨1,51,AB⟩)]).run Ae w=.ok (.int .u8 2) w:=by kernel_rfl
theorem rlm(z:Sem AQ)(f:Am->Ag->Nat->Nat->Sem AQ)(v:AQ):
  UR z f #[v]=(do match <- WI v with|none=>z|some (t,a,fl)=>f t a fl (fl % 32)):=rfl
theorem eP(a:Ag)(w:AL):(WI (.agg #[.pointer (AA ⟨1,133,AB⟩),.pointer (AA a),.int .u64 150])).run Ae w=.ok (AA (133,a,150)) w:=by kernel_rfl
theorem AAr(a p:Ag)(W:AL)(ha:W.cell? a=AA (.pointer (AA p))):
  (UR (Ox "reflectlite.Value.IsNil" 0) Yp #[.agg #[.pointer (AA ⟨1,133,AB⟩),.pointer (AA a),.int .u64 150]]).run Ae W=.ok (.bool false) W:=by
 rw[rlm];simp only[Eu,eP,QJ];simp[Yp,loadVar,isAgg,underlying,AKp,ha,QJ]
theorem ru(h:AQ)(w:AL):(Go.method 392 199 (.agg #[h]) "Elem").run Ae w=.ok (192,.agg #[h]) w:=by kernel_rfl
theorem X6(h:AQ)(w:AL):(Go.method 392 199 (.agg #[h]) "Implements").run Ae w=.ok (193,.agg #[h]) w:=by kernel_rfl
theorem Ot(h:AQ)(w:AL):(Go.method 392 199 (.agg #[h]) "AssignableTo").run Ae w=.ok (190,.agg #[h]) w:=by kernel_rfl
theorem ADS(w:AL):(mM mO #[.agg #[.pointer (AA ⟨1,133,AB⟩)]]).run Ae w=.ok (.iface 199 (.agg #[.pointer (AA ⟨1,51,AB⟩)])) w:=by kernel_rfl
theorem iP(w:AL):(QH "Implements" mP #[.agg #[.pointer (AA ⟨1,51,AB⟩)],.iface 199 (.agg #[.pointer (AA ⟨1,39,AB⟩)])]).run Ae w=.ok (.bool true) w:=by kernel_rfl
theorem AAs(v:AQ)(w:AL):(WH #[.iface 51 v]).run Ae w=.ok (.iface 199 (.agg #[.pointer (AA ⟨1,51,AB⟩)])) w:=by kernel_rfl
theorem vC(v:AQ)(w:AL):(WH #[.iface 140 v]).run Ae w=.ok (.iface 199 (.agg #[.pointer (AA ⟨1,140,AB⟩)])) w:=by kernel_rfl
theorem vF(v:AQ)(w:AL):(WH #[.iface 150 v]).run Ae w=.ok (.iface 199 (.agg #[.pointer (AA ⟨1,150,AB⟩)])) w:=by kernel_rfl
theorem iQ(w:AL):(QH "AssignableTo" UN #[.agg #[.pointer (AA ⟨1,51,AB⟩)],.iface 199 (.agg #[.pointer (AA ⟨1,51,AB⟩)])]).run Ae w=.ok (.bool true) w:=by kernel_rfl
theorem eQ(w:AL):(QH "AssignableTo" UN #[.agg #[.pointer (AA ⟨1,140,AB⟩)],.iface 199 (.agg #[.pointer (AA ⟨1,51,AB⟩)])]).run Ae w=.ok (.bool false) w:=by kernel_rfl
theorem eU(w:AL):(QH "AssignableTo" UN #[.agg #[.pointer (AA ⟨1,150,AB⟩)],.iface 199 (.agg #[.pointer (AA ⟨1,51,AB⟩)])]).run Ae w=.ok (.bool false) w:=by kernel_rfl
theorem vG(e:Int)(w:AL):(UO (.iface 51 (.int .i64 e))).run Ae w
  =.ok (.agg #[.pointer (AA ⟨1,51,AB⟩),.pointer (AA ⟨w.heap.size,0,AB⟩),.int .u64 130]) (w.alloc (.cells #[.int .i64 e] 51)):=by kernel_rfl
theorem vH(w:AL):(Rtype.elem? 133).run Ae w=.ok (AA 51) w:=by kernel_rfl
theorem ALi(p:Ag)(w:AL):(ReflectliteValue.mk 51 p ABJ).run Ae w=.ok (.agg #[.pointer (AA ⟨1,51,AB⟩),.pointer (AA p),.int .u64 386]) w:=by kernel_rfl
theorem ADT(a p:Ag)(W:AL)(ha:W.cell? a=AA (.pointer (AA p))):
  (UR (Ox "reflectlite.Value.Elem" 0) Yq #[.agg #[.pointer (AA ⟨1,133,AB⟩),.pointer (AA a),.int .u64 150]]).run Ae W
   =.ok (.agg #[.pointer (AA ⟨1,51,AB⟩),.pointer (AA p),.int .u64 386]) W:=by
 rw[rlm];simp only[Eu,eP,QJ];simp[Yq,loadVar,isAgg,underlying,AKp,ha,QJ,vH,ALi]
theorem rls(v x:AQ):eY #[v,x]=(do
  let (AA (dst,a,fl),AA (src,b,_)):=(<- WI v,<- WI x)
   |unsupported (.noEntry "extern/(internal/reflectlite.Value).Set.zeroValue")
  if fl/ABJ % 2==0 then unsupported (.noEntry "extern/(internal/reflectlite.Value).Set.unaddressable")
  let val <- loadVar src b
  if <- ABG dst src then storeVar dst a val
  else if <- Rtype.implements dst src then
   if (<- Rtype.kind src)==20 then
    match val with| .nilIface=>unsupported (.noEntry "extern/reflectlite: a nil value of one interface type handed on as a value of another")|_=>storeVar dst a val
   else storeVar dst a (.iface src val)
  else panicString ("reflectlite.Set: value of type " ++(<- Rtype.spelt src)++ " is not assignable to type " ++(<- Rtype.spelt dst))
  pure (.tuple #[])):=rfl
theorem AAt(a:Ag)(w:AL):(WI (.agg #[.pointer (AA ⟨1,51,AB⟩),.pointer (AA a),.int .u64 386])).run Ae w=.ok (AA (51,a,386)) w:=by kernel_rfl
theorem ADU(a:Ag)(w:AL):(WI (.agg #[.pointer (AA ⟨1,51,AB⟩),.pointer (AA a),.int .u64 130])).run Ae w=.ok (AA (51,a,130)) w:=by kernel_rfl
theorem AAu(w:AL):(ABG 51 51).run Ae w=.ok true w:=by kernel_rfl
theorem AIT(ta b:Ag)(e:Int)(old:AQ)(W:AL)(hb:W.cell? b=AA (.int .i64 e))(ht:W.cell? ta=AA old)(hf:W.frozen? ta=false):
  (eY #[.agg #[.pointer (AA ⟨1,51,AB⟩),.pointer (AA ta),.int .u64 386],.agg #[.pointer (AA ⟨1,51,AB⟩),.pointer (AA b),.int .u64 130]]).run Ae W
   =.ok (.tuple #[]) (W.setCell ta (.int .i64 e)):=by
 rw[rls];simp only[Eu,AAt,ADU,QJ];simp[ABJ,loadVar,isAgg,underlying,AT5,hb,QJ,AAu,storeVar,Nv,storeCells,Q9];rw[run_store Ae W ta _ _ (by rfl)];simp[ht,hf]
section
variable {t:Ag}{f:JG}{b c d:Nat}{o o':Obj}{v x y:AQ}{w:AL}
abbrev rvl (a:Ag):AQ:=.agg #[.pointer (AA ⟨1,133,AB⟩),.pointer (AA a),.int .u64 150]
theorem ALj(v:AQ)(xT:Am)(w:AL):(KI (.iface 140 v) xT 228 true).run Ae w=.ok (.tuple #[.nilIface,.bool false]) w:=run_typeAssert_lacksB AKv Az Az v xT w
theorem ALk(v:AQ)(xT:Am)(w:AL):(KI (.iface 150 v) xT 228 true).run Ae w=.ok (.tuple #[.nilIface,.bool false]) w:=run_typeAssert_lacksB AKv Az Az v xT w
theorem ASS(v:AQ)(xT:Am)(w:AL):(KI (.iface 140 v) xT 203 true).run Ae w=.ok (.tuple #[.iface 140 v,.bool true]) w:=run_typeAssert_hasB AKu Az v xT w
theorem ALl(v:AQ)(xT:Am)(w:AL):(KI (.iface 150 v) xT 203 true).run Ae w=.ok (.tuple #[.nilIface,.bool false]) w:=run_typeAssert_lacksB AKu Az Az v xT w
theorem AST(v:AQ)(xT:Am)(w:AL):(KI (.iface 150 v) xT 205 true).run Ae w=.ok (.tuple #[.iface 150 v,.bool true]) w:=run_typeAssert_hasB ARj Az v xT w
theorem ANK(v:AQ)(w:AL):(Go.method 392 140 v "Unwrap").run Ae w=.ok (183,v) w:=by kernel_rfl
theorem ANL(v:AQ)(w:AL):(Go.method 392 150 v "Unwrap").run Ae w=.ok (185,v) w:=by kernel_rfl
def xh (w:AL) (t:Ag) (c:Int) (ev:Fe) (w':AL):Prop:=ev=.returned (.bool true)/\w'.cell? t=AA (.int .i64 c)/\AZ [t.block] w w'
theorem jr(h:w.cell? t=AA v):((w.alloc o).alloc o').cell? t=AA v:=
 (((AZ.refl [] w).alloc o).alloc o').cell h AV
theorem sD(h:w.cell? t=AA v)(hf:w.frozen? t=false):((w.alloc o).alloc o').frozen? t=false:=by
 have htl:t.block<w.heap.size:=by
  rcases XF t.block w.heap.size with h'|h'
  ·exact h'
  simp[Pj,XD h'] at h
 rw[World.frozen?_alloc_old _ _ t (by simp;omega),World.frozen?_alloc_old _ _ t (au htl)];exact hf
theorem ALm{c:Int}{ev:Fe}{old:AQ}(he:ev=.returned (.bool true))(h:((w.alloc o).alloc o').cell? t=AA old):xh w t c ev (((w.alloc o).alloc o').setCell t (.int .i64 c)):=by
 refine⟨he,?_,?_⟩;exact World.cell?_setCell_same _ _ _ h;exact (((AZ.refl [t.block] w).alloc o).alloc o').setCell (.inl AV) _
theorem vI(h:w.cell? ⟨b,2,AB⟩=AA x):Au Ae 183 #[.pointer (AA ⟨b,0,AB⟩)] w λe w'=>e=.returned x/\w'=w:=by
 go_enter AKV,Tryz.ntmps183;go_wp2;go_ret;exact⟨rfl,rfl⟩
theorem AAv(hx:x=.iface 140 (.pointer (AA ⟨c,0,AB⟩)))(hy:y=.iface 140 (.pointer (AA ⟨d,0,AB⟩)))(h:Bv w b 152 #[x,y]):Au Ae 185 #[.pointer (AA ⟨b,0,AB⟩)] w λe w'=>∃A,e=.returned (.slice (AA A) 2 2)/\Rd w' 1 (AA A) 2 2 [x,y]/\AZ [] w w':=by
 subst hx;subst hy;have H0:Hid (∀w',AZ [] w w'->w'.cell? ⟨b,0,AB⟩=AA (.iface 140 (.pointer (AA ⟨c,0,AB⟩)))):=AO λw' hc=>(h.Ap hc AV).cell 0;have H1:Hid (∀w',AZ [] w w'->w'.cell? ⟨b,1,AB⟩=AA (.iface 140 (.pointer (AA ⟨d,0,AB⟩)))):=AO λw' hc=>(h.Ap hc AV).cell 1;go_enter AKW,Tryz.ntmps185;(go_wp2_with fail);refine Ew (S:=λw'=>AZ [] w w') Az ((AZ.refl _ _).drew) (λhHeld=>?_);refine tk 0 ?_;refine tk 1 ?_;refine tk 2 ?_;refine F9 3 (λw' hSw=>H0.out _ hSw) ?_;refine tk 4 ?_;refine tk 5 ?_;refine tk 6 ?_;refine F9 7 (λw' hSw=>H1.out _ hSw) ?_;refine EM 8 λK hK=>?_;go_simp;refine hK.out _ _ (hHeld.alloc _) (λhHeld=>?_);(try simp only[BG,Bg]);clear hK K;refine tk 9 ?_;refine Ej Az ?_ _;(try simp only[BG,Bg]);go_wp2;go_ret;exact⟨_,rfl,Own.rd (Own.TM _ 39 1 #[.iface 140 (.pointer (AA ⟨c,0,AB⟩)),.iface 140 (.pointer (AA ⟨d,0,AB⟩))] 2 _ _ rfl rfl Aq rfl),(AZ.refl [] w).drew.alloc _⟩
theorem jv(t a:Ag)(old:AQ)(w:AL)(hv:Q5 w b v f)(ha:w.cell? a=AA (.pointer (AA t)))(ht:w.cell? t=AA old)(hf:w.frozen? t=false):
  Au Ae 94 #[v,.iface 133 (.pointer (AA t)),rvl a,.iface 199 (.agg #[.pointer (AA ⟨1,51,AB⟩)])] w (xh w t f.cd):=by
 obtain⟨rfl,hb,_⟩:=hv;have hb2:=(hb.alloc (.cells #[.pointer (AA ⟨1,133,AB⟩),.pointer (AA a),.int .u64 150] 187)).cell 2;simp only[FV] at hb2;have h68:= @run_callFunc_extern Ae 68 _ WH AOb Az Az Az Az;have AUp:= @run_callFunc_extern Ae 190 _ (QH "AssignableTo" UN) AKX Az Az Az Az;have AVo:= @run_callFunc_extern Ae 126 _ (UR (Ox "reflectlite.Value.Elem" 0) Yq) ARB Az Az Az Az;have h91:= @run_callFunc_extern Ae 91 _ (λargs=>UO (args.getD 0 (.tuple #[]))) AOc Az Az Az Az;have h127:= @run_callFunc_extern Ae 127 _ eY ARC Az Az Az Az;have AVp:= @ART;have tO:=AAs;have tF:=vC;have mA:=Ot;have a51:=iQ;have AVq:=eQ;have n1:=ALj;have n2:=ASS;have mU:=ANK;have v51:=vG;have hal:(w.alloc (.cells #[.pointer (AA ⟨1,133,AB⟩),.pointer (AA a),.int .u64 150] 187)).cell? a=AA (.pointer (AA t)):=((AZ.refl [] w).alloc _).cell ha AV;have el:=ADT a t (w.alloc (.cells #[.pointer (AA ⟨1,133,AB⟩),.pointer (AA a),.int .u64 150] 187)) hal;have st:=AIT t ⟨w.heap.size+1,0,AB⟩ f.cd old ((w.alloc (.cells #[.pointer (AA ⟨1,133,AB⟩),.pointer (AA a),.int .u64 150] 187)).alloc (.cells #[.int .i64 f.cd] 51)) (by rw[World.cell?_alloc_at _ _ _ _ AV];rfl) (jr ht) (sD ht hf);have HT:=AO ht;clear hb ha ht hf;go_enter AKI,Tryz.ntmps94;go_wp2;refine WM 2 ?_;rw[Na];(go_wp2_with (go_at_call 183;refine (vI hb2).mono ?_;rintro e w1 ⟨rfl,rfl⟩));rw[Na];go_wp2;go_ret;exact ALm rfl (jr HT.out)
theorem AZ.sF{w':AL}{L:List Nat}(h:AZ L w w')(ht:w.cell? t=AA v)(hn:t.block∉L)(hf:w.frozen? t=false):w'.frozen? t=false:=by
 have htl:t.block<w.heap.size:=by
  rcases XF t.block w.heap.size with h'|h'
  ·exact h'
  simp[Pj,XD h'] at ht
 have:=h.block t.block htl hn
 unfold World.frozen? at*
 rw[this];exact hf
theorem AFf{g:JG}(t a:Ag)(old:AQ)(w:AL)(hb:Bv w b 152 #[x,y])(hx:Q5 w c x f)(hy:Q5 w d y g)(ha:w.cell? a=AA (.pointer (AA t)))(ht:w.cell? t=AA old)(hf:w.frozen? t=false):
  Au Ae 94 #[.iface 150 (.pointer (AA ⟨b,0,AB⟩)),.iface 133 (.pointer (AA t)),rvl a,.iface 199 (.agg #[.pointer (AA ⟨1,51,AB⟩)])] w (xh w t f.cd):=by
 have h68:= @run_callFunc_extern Ae 68 _ WH AOb Az Az Az Az;have AUp:= @run_callFunc_extern Ae 190 _ (QH "AssignableTo" UN) AKX Az Az Az Az;have AVr:= @ARU;have q94:= @AOt;have tF:=vF;have mA:=Ot;have AVs:=eU;have n1:=ALk;have n2:=ALl;have n3:=AST;have mU:=ANL;have hx1:=hx.1;have hy1:=hy.1;have hw1:AZ [] w (w.alloc (.cells #[.pointer (AA ⟨1,133,AB⟩),.pointer (AA a),.int .u64 150] 187)):=(AZ.refl [] w).alloc _;have hk:=Bv.new w 187 #[.pointer (AA ⟨1,133,AB⟩),.pointer (AA a),.int .u64 150];have HU:=AO (AAv hx1 hy1 (hb.Ap hw1 AV));have HX:=AO hx;have HA:=AO ha;have HT:=AO ht;have HF:=AO hf;have HW1:=AO hw1;have HK:=AO hk;have HX1:=AO hx1;clear hb hx hy ha ht hf hw1 hk hx1 hy1;go_enter AKI,Tryz.ntmps94;go_wp2;refine WM 1 ?_;rw[Na];(go_wp2_with fail);refine HU.out.mono ?_;rintro e w2 ⟨A,rfl,hrd,hc2⟩;have hk2:=HK.out.Ap hc2 AV;have k0:=hk2.cell 0;have k1:=hk2.cell 1;have k2:=hk2.cell 2;simp only[FV] at k0 k1 k2;obtain⟨ad,u,hA,hu,hcell⟩:=hrd.Yu (k:=0) Aq;injection hA with hA;subst hA;simp at hu;subst hu;have HC2:=AO (HW1.out.Ah hc2);rw[HX1.out] at hcell;(have hcell0:w2.cell? A=AA (.iface 140 (.pointer (AA ⟨c,0,AB⟩))):=by simpa[Q9] using hcell);clear hrd hc2 hk2 hcell;go_wp2;refine WM 1 ?_;rw[Na];(go_wp2_with fail);have hcall:=jv t a old w2 (HX.out.Ap HC2.out AV) (HC2.out.cell HA.out AV) (HC2.out.cell HT.out AV) (HC2.out.sF HT.out AV HF.out);rw[HX1.out] at hcall;refine hcall.mono ?_;rintro e w3 ⟨rfl,h1,h2⟩;go_wp2;go_ret;exact⟨rfl,h1,(HC2.out.nil _).trans h2 (λx hx=>.inl hx)⟩
end
section
variable {f:JG}{gs:List JG}{L:List Nat}{v:AQ}{w:AL}
def MN (w:AL):Prop:=w.cell? ⟨0,0,AB⟩=AA (.iface 199 (.agg #[.pointer (AA ⟨1,39,AB⟩)]))
theorem xk{T:Am}{x:AQ}{c:Int}(t:Ag)(old:AQ)(w:AL)(hg:MN w)(ht:w.cell? t=AA old)(hf:w.frozen? t=false)
  (h94: ∀(a:Ag) (w':AL),AZ [] w w'->w'.cell? a=AA (.pointer (AA t))->Au Ae 94 #[.iface T x,.iface 133 (.pointer (AA t)),rvl a,.iface 199 (.agg #[.pointer (AA ⟨1,51,AB⟩)])] w' (xh w' t c)):
  Au Ae 60 #[.iface T x,.iface 133 (.pointer (AA t))] w (xh w t c):=by
 have h91:= @run_callFunc_extern Ae 91 _ (λargs=>UO (args.getD 0 (.tuple #[]))) AOc Az Az Az Az;have h92:= @run_callFunc_extern Ae 92 _ (ABH (Ox "reflectlite.Value.Type" 0) (λt _ _ _=>mJ t)) ATD Az Az Az Az;have h93:= @run_callFunc_extern Ae 93 _ (UR (Ox "reflectlite.Value.IsNil" 0) Yp) ATE Az Az Az Az;have AVt:= @run_callFunc_extern Ae 171 _ (mV λt=>do pure (.int .u8 (<- Rtype.kind t))) ARD Az Az Az Az;have AVu:= @run_callFunc_extern Ae 192 _ (mM mO) ARF Az Az Az Az;have AVv:= @run_callFunc_extern Ae 193 _ (QH "Implements" mP) ARH Az Az Az Az;have q94:= @AOt;have f6:=rf;have f7:=ADQ;have mK:=rq;have mE:=ru;have mI:=X6;have AVw:=ADR;have k51:=AFe;have AVx:=ADS;have i51:=iP;obtain⟨W,hW⟩: ∃W,(w.alloc (.cells #[.pointer (AA t)] 133)).alloc (.cells #[.pointer (AA ⟨1,133,AB⟩),.pointer (AA ⟨w.heap.size,0,AB⟩),.int .u64 150] 187)=W:=⟨_,rfl⟩;have hcW:AZ [] w W:=by rw[<- hW];exact ((AZ.refl [] w).alloc _).alloc _
 have hk:Bv W (w.heap.size+1) 187 #[.pointer (AA ⟨1,133,AB⟩),.pointer (AA ⟨w.heap.size,0,AB⟩),.int .u64 150]:=by
  rw[<- hW];have:=Bv.new (w.alloc (.cells #[.pointer (AA t)] 133)) 187 #[.pointer (AA ⟨1,133,AB⟩),.pointer (AA ⟨w.heap.size,0,AB⟩),.int .u64 150];simpa using this
 (have hka:Bv W w.heap.size 133 #[.pointer (AA t)]:=by rw[<- hW];exact (Bv.new w 133 #[.pointer (AA t)]).alloc _);have n8:=AAr ⟨w.heap.size,0,AB⟩ t W (hka.cell 0);have k0:=hk.cell 0;have k1:=hk.cell 1;have k2:=hk.cell 2;simp only[FV] at k0 k1 k2;have hg2:W.cell? ⟨0,0,AB⟩=AA (.iface 199 (.agg #[.pointer (AA ⟨1,39,AB⟩)])):=hcW.cell hg AV;have H94:=AO (h94 ⟨w.heap.size,0,AB⟩ W hcW (hka.cell 0));have NI:=AO hcW;clear hg ht hf h94 hcW hk hka;go_enter AOD,Tryz.ntmps60;(go_wp2_with fail);refine H94.out.mono ?_;rintro e w2 ⟨rfl,h1,h2⟩;go_wp2;go_ret;exact⟨rfl,h1,(NI.out.nil _).trans h2 (λx hx=>.inl hx)⟩
theorem JX.as_(h:JX w v L (f::gs)): ∃(T:Am) (x:AQ),v=.iface T x/\∀(t:Ag) (old:AQ) (w0:AL),AZ [] w w0->MN w0->w0.cell? t=AA old->w0.frozen? t=false->Au Ae 60 #[v,.iface 133 (.pointer (AA t))] w0 (xh w0 t f.cd):=by
 unfold JX at h;split at h
 ·rename_i h0;cases h0
 ·rename_i b f' h0;(cases h0);have h1:=h.1;subst h1;refine⟨140,_,rfl,λt old w0 hc hg ht hf=>xk t old w0 hg ht hf λa w' hc' ha=>?_⟩;exact jv t a old w' (h.Ap (hc.Ah hc') AV) ha (hc'.cell ht AV) (hc'.sF ht AV hf)
 ·rename_i b c d f' g h0;(cases h0);obtain⟨x,y,rfl,hb,hx,hy⟩:=h;refine⟨150,_,rfl,λt old w0 hc hg ht hf=>xk t old w0 hg ht hf λa w' hc' ha=>?_⟩;have hcc:=hc.Ah hc';exact AFf t a old w' (hb.Ap hcc AV) (hx.Ap hcc AV) (hy.Ap hcc AV) ha (hc'.cell ht AV) (hc'.sF ht AV hf)
 exact h.elim
theorem code_nil(w:AL):Au Ae 18 #[.nilIface] w λe w'=>e=.returned (.int .i64 0)/\w'=w:=by
 go_enter AJ9,Tryz.ntmps18;go_wp2;go_ret;exact⟨rfl,rfl⟩
theorem xm(h:JX w v L (f::gs))(hg:MN w):Au Ae 18 #[v] w λe w'=>e=.returned (.int .i64 f.cd)/\AZ [] w w':=by
 obtain⟨T,x,rfl,ha⟩:=h.as_;obtain⟨W,hW⟩: ∃W,w.alloc (.cells #[.int .i64 0] 51)=W:=⟨_,rfl⟩;(have hcW:AZ [] w W:=by rw[<- hW];exact (AZ.refl [] w).alloc _);(have hk:Bv W w.heap.size 51 #[.int .i64 0]:=by rw[<- hW];exact .new _ _ _);have HA:=AO (ha ⟨w.heap.size,0,AB⟩ (.int .i64 0) W hcW (hcW.cell hg AV) (hk.cell 0) (hk.frozen 0));have NI:=AO hcW;have q60:= @AOq;clear h ha hg hcW hk;go_enter AJ9,Tryz.ntmps18;(go_wp2_with fail);refine HA.out.mono ?_;rintro e w2 ⟨rfl,h1,h2⟩;go_wp2;go_ret;exact⟨rfl,(NI.out.trans h2 (λx hx=>by simp at hx;subst hx;exact .inr (Bd _)))⟩
theorem ADV(h:JX w v L (f::gs))(hg:MN w):Au Ae 100 #[v] w λe w'=>e=.returned (.bool true)/\AZ [] w w':=by
 obtain⟨T,x,rfl,ha⟩:=h.as_;obtain⟨W,hW⟩: ∃W,w.alloc (.cells #[.int .i64 0] 51)=W:=⟨_,rfl⟩;(have hcW:AZ [] w W:=by rw[<- hW];exact (AZ.refl [] w).alloc _);(have hk:Bv W w.heap.size 51 #[.int .i64 0]:=by rw[<- hW];exact .new _ _ _);have HA:=AO (ha ⟨w.heap.size,0,AB⟩ (.int .i64 0) W hcW (hcW.cell hg AV) (hk.cell 0) (hk.frozen 0));have NI:=AO hcW;have q60:= @AOq;clear h ha hg hcW hk;go_enter AKJ,Tryz.ntmps100;(go_wp2_with fail);refine HA.out.mono ?_;rintro e w2 ⟨rfl,h1,h2⟩;go_wp2;go_ret;exact⟨rfl,(NI.out.trans h2 (λx hx=>by simp at hx;subst hx;exact .inr (Bd _)))⟩
end
open Go.Conc Go.ChangeShapes Go.WideShapes Go.Deep Go.Joins
section
variable {apart:Bool}{C:Checked}{fn:Func}{f:FuncId}{laid:List (String×Dt Unit)}{conds:List PathCond}{c:OpenClaim}{s:OpenSpec}{os:Os}{p:Pinned}{W:AL}
theorem AIU:laidOutB Tryz.prog=true:=by kernel_rfl
theorem ASU:ownKnob Tryz.prog.godebug=AB:=by kernel_rfl
theorem AUq:Tryz.prog.globalNamed "errors.errorType" =AA 0:=by kernel_rfl
theorem AUr:(Tryz.prog.cutTypes.find? (·.1== "internal/reflectlite.rtype")).map (·.2)=AA 199:=by kernel_rfl
theorem AIV:((Fp Tryz.prog.types.size).filter λt=>Tryz.prog.rowNamed t [101,114,114,111,114])=[39]:=by kernel_rfl
theorem AIW(h:laidMetH Tryz.prog [("errors.errorType",Rows.laid_errors_errorType)] W):MN W:=by
 have h':laidMet Tryz.prog [] W/\handlesMet Tryz.prog [("errors.errorType",Rows.laid_errors_errorType)] W:=h;obtain⟨name,u,ty,e1,e2,e3,e4,e5⟩:=h'.2 _ (CB.2 rfl);have en:name=[101,114,114,111,114]:=(EF e1).symm;subst en;obtain rfl:=EF (AUr.symm.trans e2);have hm:ty∈(Fp Tryz.prog.types.size).filter λt=>Tryz.prog.rowNamed t [101,114,114,111,114]:=XE.2 ⟨XA.2 e3,e4⟩;rw[AIV] at hm;obtain rfl:=CB.1 hm;(have hh:typeHandle Tryz.prog 39=.pointer (AA ⟨1,39,AB⟩):=by kernel_rfl);rw[hh] at e5;exact (by simpa using World.var?_cell AUq e5 0:W.cell? ⟨0,0,AB⟩=AA (.iface 199 (.agg #[.pointer (AA ⟨1,39,AB⟩)])))
theorem ALn(h:W.ShapedOpen Tryz.prog):JJ W 1:=by
 obtain⟨o,o0,h1,h2,h3⟩:=h.2 1 (by decide+kernel) (by decide+kernel);have h4:o=o0:=h3;subst h4;(have h5:(match (begin Tryz.prog (λ_ _=>0) default).world.heap[1]? with|some (.cells _ _ _)=>true|_=>false)=true:=by kernel_rfl);rw[h2] at h5
 cases o with|cells p t f=>exact⟨p,t,f,h1⟩|_=>cases h5
section
variable {H:Type} {enc:Am×AQ->H}
theorem witness_row{k:(H:Type)->List (Dt H)->Bool}(hk:s.cond=AA k)(w0:AL)(args:Array AQ)(fuel:Nat)(hos:w0.os=os)
  (hv:(w0.forCall (λ_ _=>0) ⟨#[],args,[]⟩).variablesB C.prog=true)
  (hr:((w0.forCall (λ_ _=>0) ⟨#[],args,[]⟩).heap.toList.drop C.prog.globals.size).take ((begin C.prog (λ_ _=>0) default).world.heap.size - C.prog.globals.size)=
   (begin C.prog (λ_ _=>0) default).world.heap.toList.drop C.prog.globals.size)
  (hok:Input.okWideB C.prog (w0.forCall (λ_ _=>0) ⟨#[],args,[]⟩) f ⟨#[],args,[]⟩=true)
  {x:List (Dt H)×List (Dt H)×List GZ} (hx:DataW.whole enc C.prog (w0.forCall (λ_ _=>0) ⟨#[],args,[]⟩).memory fn.params.toList s.vars apart args.toList fuel=AA x)
  (hconds:conds.all (PathCond.test C.prog ⟨fn.params.toList,x.1,s.bare.plain.varTypes C.prog,x.2.1⟩)=true) (hkk:k H (x.1++x.2.1)=true)
  (hsz:s.bare.sizedB enc C.prog fn apart (w0.forCall (λ_ _=>0) ⟨#[],args,[]⟩).memory args fuel=true)
  (hl:laidMetH C.prog laid (w0.forCall (λ_ _=>0) ⟨#[],args,[]⟩).memory):
  ∃(w:AL) (tape:Tape) (i:Input),w.os=os/\(w.forCall tape i).Shaped C.prog/\i.vars=[]/\Input.okWide C.prog (w.forCall tape i) .any w.heap.size f i/\
   s.preRow enc C.prog fn conds apart laid (w.forCall tape i).memory i.args/\({}:Assume).holds C.prog (lone (Bc C.prog f i.args .normal) [] (w.forCall tape i)):=
 ⟨w0,λ_ _=>0,⟨#[],args,[]⟩,hos,World.shaped_of_B hv hr,(Input.okWide_of_okWideB (base:=0) hok).1,(Input.okWide_of_okWideB hok).2,
  ⟨⟨(OpenSpec.pre_some hk conds apart _ _).2 ⟨x.1,x.2.1,x.2.2,DataW.Whole_of_whole hx,hconds,hkk⟩,hl⟩,sizedMet_of_sizedB hsz⟩,by
  have:({}:Assume)={modest:=false}:=rfl;rw[this];simp only[Assume.holds]
  exact⟨AV,AV,λ_=>Modest.zero,AV,AV⟩⟩
theorem lF{a:Assume}{k:(H:Type)->List (Dt H)->Bool}(hk:s.cond=AA k){F:Stop.Interp}{fresh handsOn again:Bool}
  (own:ownKnob C.prog.godebug=AB) (started:os.Started) (hfn:C.prog.funcs[f]? =AA fn)
  (witness: ∃(w:AL) (tape:Tape) (i:Input),w.os=os/\(w.forCall tape i).Shaped C.prog/\i.vars=[]/\Input.okWide C.prog (w.forCall tape i) .any w.heap.size f i/\
   s.preRow enc C.prog fn conds apart laid (w.forCall tape i).memory i.args/\a.holds C.prog (lone (Bc C.prog f i.args .normal) [] (w.forCall tape i)))
  (runs: ∀(W:AL) (base:Nat) (args:Array AQ) (ds gs:List (Dt H)) (before:List GZ),W.ShapedOpen C.prog->laidMetH C.prog laid W->
   (∀(j:Nat) t v,fn.params[j]? =AA t->args[j]? =AA v->Value.okWide C.prog W .any base t v)->
   DataW.Whole enc C.prog fn.params.toList s.vars apart W args.toList ds gs before->k H (ds++gs)=true->
   ∃M last o w' t',runNT C.prog (M+1) (solo (G (Bc C.prog f args .normal) []) W) #[]=(.ended o w',t')/\runN C.prog M (solo (G (Bc C.prog f args .normal) []) W)=.next last/\
    step C.prog last=.ended o w'/\Conc.Good C.prog (λv W'=>(s.at F).post enc C.prog fn apart fresh handsOn again W args v W') last o w' t'):
  ReturnsInLeavingWide a C os f .any (s.preRow enc C.prog fn conds apart laid) ((s.at F).post enc C.prog fn apart fresh handsOn again):=by
 refine returnsInLeavingWide_of_good own started witness ?_;intro w tape i _ hshape _ hok hpre _;obtain⟨_,_,_,fn',hfn',_,_,_,_,hval⟩:=hok;have e:fn'=fn:=EF (hfn'.symm.trans hfn);subst e;obtain⟨⟨hp1,hl⟩,_⟩:=hpre;obtain⟨ds,gs,before,hw,_,hkk⟩:=(OpenSpec.pre_some hk conds apart _ _).1 hp1;have hw':=DataW.Whole.of_heap (w':=w.forCall tape i) (by rfl) hw;obtain⟨M,last,o,w',t',h1,h2,h3,h4⟩:=runs (w.forCall tape i) w.heap.size i.args ds gs before hshape (hl.of_heap (by rfl)) hval hw' hkk;exact⟨M,last,o,w',t',h1,h2,h3,h4.mono λv hp=>ChangeSpec.post_blind hp⟩
end
noncomputable def ALo (os:Os):AL:=
 let w0:=World.holding Tryz.prog os ⟨#[],#[],[]⟩
 {w0 with heap:=w0.heap.modify 0 fun
   | .cells _ t frozen=>.cells #[.iface 199 (.agg #[.pointer (AA ⟨1,39,AB⟩)])] t frozen
   |o=>o}
theorem AFg(os:Os)(args:Array AQ):laidMetH Tryz.prog [("errors.errorType",Rows.laid_errors_errorType)] ((ALo os).forCall (λ_ _=>0) ⟨#[],args,[]⟩).memory:=
 laidMetH_of_parts (laidMet_nil _ _) Az
theorem aA(f:FuncId)(fn:Func)
  (hn:c.program=p.name) (hs:c.sum=p.sum) (hsp:c.spec=s.name)
  (hstart:c.start=.entering) (hout:c.outside=[]) (hin:c.inits=[]) (hun:c.under=AB) (hi4:c.initsInPlace=[]/\c.initsUnfollowed=false/\c.initsRecurse=false/\c.initsNamed=[]/\c.initsPassed=[]) (hnb:c.noBlocks=false) (hlv:c.leaving=true) (hfo:c.followed=AB) (hnar:c.narrowed=s.cond.isSome) (hstill:c.still=false)
  (hfn:p.checked.prog.funcNamed c.func=AA f) (hf:p.checked.prog.funcs[f]? =AA fn)
  (closed:joinedFacts p.checked.prog f fn s.bare c=true)
  (hinst:fn.isInstance p.checked.prog c.origin c.targs) (hwrap:fn.isWrapper p.checked.prog c.wrapper c.mainSum)
  (h: ∀os:Os,os.Started->∀(H:Type) (enc:Am×AQ->H),(∀a b,enc a=enc b->a=b)->∀F:Stop.Interp,
   ReturnsInLeavingWide c.assume p.checked os f .any (s.preRow enc p.checked.prog fn c.domain c.apart c.laid) ((s.at F).post enc p.checked.prog fn c.apart c.fresh c.handsOn c.again)):c.holds p s:=by
 simp only[joinedFacts,DV,beq_iff_eq,Array.all_eq_true_iff_forall_mem,JD,decide_eq_true_eq] at closed;obtain⟨⟨⟨⟨⟨⟨⟨⟨⟨⟨⟨⟨⟨⟨⟨⟨⟨⟨⟨⟨⟨⟨⟨⟨⟨⟨⟨⟨⟨⟨⟨a1,a2⟩,a3⟩,a4⟩,a5⟩,a6⟩,a7⟩,a8⟩,a9⟩,b1⟩,b2⟩,b3⟩,b4⟩,b5⟩,b6⟩,b7⟩,b8⟩,b8'⟩,b9⟩,d1⟩,d2⟩,d3⟩,d4⟩,d5⟩,d5'⟩,d6⟩,d6'⟩,AUs⟩,d7⟩,d8⟩,d9⟩,d10⟩:=closed;(have quiet: ∀os:Os,Stop.quiet p.checked.prog os:=λos k hk=>by rw[a9] at hk;cases hk);(have fits:c.startFits p.checked.prog:=by unfold OpenClaim.startFits;rw[hstart];exact d6);(have told:c.startTold p.checked.prog:=by unfold OpenClaim.startTold;rw[hstart];exact⟨hin,hun,hi4⟩);(have tie:namedTie p.checked.prog c.namedList s.vars=true:=by unfold OpenClaim.namedList;rw[hfo];exact a5);have worded:p.checked.prog.envWorded=true:=by unfold Program.envWorded;rw[a9];rfl
 refine⟨a1,hn,hs,hsp,a2,a3,fits,told,f,fn,hfn,hf,⟨a4,d1⟩,(λhb=>by rw[hnb] at hb;cases hb),tie,hinst,hwrap,
  a6.trans a7.symm,⟨a8.trans a9.symm,worded,d5'⟩,b1,b2,b3,b4,b5,⟨b6,d9,d10⟩,⟨b7,d2⟩,⟨b8,d3,d7,d8⟩,⟨d4,d6',AUs,b8'⟩,?_,λn hn'=>varReadable_some (b9 n hn'),
  ⟨_,by unfold OpenClaim.world;rw[hout,hstart];exact WideRow.started_initial,quiet _⟩,[],by unfold OpenClaim.lists;rw[hfo],λos st _ H enc inj=>?_⟩
 ·rw[hout,hnar]
  cases hsh:c.shortTexts with|none=>simp|some _=>rw[hsh] at d5;cases d5
 (have st':os.Started:=by unfold OpenClaim.world at st;rw[hout,hstart] at st;exact st);rw[OpenClaim.post_not_still hstill];unfold OpenClaim.form;rw[hstart,a6];intro F;(have e1:c.okInput=Input.okWide:=by unfold OpenClaim.okInput;rw[hnb]);(have e2:c.atReturn p.checked.prog=leavingAtReturn p.checked.prog:=by unfold OpenClaim.atReturn;rw[hlv]);(have e3:c.always p.checked.prog []=nothingAlways:=by unfold OpenClaim.always;rw[hfo]);(have e4:s.post enc p.checked.prog fn F c.outside c.apart c.fresh c.handsOn c.again=(s.at F).post enc p.checked.prog fn c.apart c.fresh c.handsOn c.again:=by rw[hout];rfl);rw[e1,e2,e3];show ReturnsInOpen _ _ _ _ _ _ _ _ (s.post enc p.checked.prog fn F c.outside c.apart c.fresh c.handsOn c.again) _ _;rw[e4,OpenClaim.pre_eq_preRow];exact h os st' H enc inj F d6
theorem AFh(Lk:Looks)(kinds:List LaidKind)(tests:Bool)(har:Bool×String)(lk:Bool)
  (hc:c.holds p s) (hw:c.wfByText s=true) (htie:c.laidByTextAt Lk p kinds tests)
  (hst:c.start=.entering) (hnb:c.noBlocks=false/\c.again=false) (hm:p.checked.prog.mainIs=AA (har.1,har.2.toList)) (hn:(!har.1 && har.2.isEmpty && !lk)=false)
  (hl: ∀f fn,p.checked.prog.funcNamed c.func=AA f->p.checked.prog.funcs[f]? =AA fn->lk=p.checked.prog.looks []/\∀(j:Nat) t,fn.params[j]? =AA t->p.checked.prog.wantsStandIn t=false)
  (hg:true=c.goesBy p.checked.prog):
  Claim7.holds p (.plain s) {stood:={row:=c,standIns:=[],harness:=har,looks:=lk},kinds:=[],alts:=[],goes:=true,laidByText:=true,laidKinds:=kinds,laidTests:=tests,laidLooks:=Lk}:=by
 (have h6: ∀r:OpenClaim,Claim7.isSixth {stood:={row:=r,standIns:=[],harness:=har,looks:=lk},kinds:=[]}=false:=λr=>by simpa[Claim7.isSixth] using hn);exact⟨Claim7.tied_new_at Lk kinds tests (Claim7.new_of_sixth hc har lk hst hnb hm (h6 c) hl) hw,(λD hD=>by cases hD),htie,(λh=>by cases h),hg⟩
end
theorem AAw(fs:List FM)(x:FM):Ai (fs++[x])=Ai fs++[(x.1.nm,x.2)]:=by simp[Ai]
theorem AAx(ds:List DM)(x:DM):BD (ds++[x])=BD ds++[(x.1.nm,Ai x.2)]:=by simp[BD]
theorem sG(A:Option Ag)(n c:Nat)(xs:List FM)(B:Option Ag)(m d:Nat)(ys:List FM)(w:AL)(ha:EU w A n c xs)(hb:EU w B m d ys)(hn:n<=1073741824):
  Au Ae 24 #[.slice A n c,.slice B m d] w (dJ (Ai xs=Ai ys) w):=by
 (have hlx:xs.length=n:=by have:=ha.row.KF;simpa[Dq] using this);(have hly:ys.length=m:=by have:=hb.row.KF;simpa[Dq] using this);have HA:=AO ha;have HB:=AO hb;have Ug:=AO hlx;have HLY:=AO hly;clear ha hb hlx hly;have k65:= @ATk;go_enter ANo,Tryz.ntmps24;by_cases hnm:n=m
 ·subst hnm;go_wp2;go_loopw [5] (λq wr=>∃i:Nat,i<=n/\q=.int .i64 i/\AZ [] w wr) (λq _=>n - (intOf q).toNat)
  case atStart=>exact⟨0,DW _,rfl,AZ.refl _ _⟩
  obtain⟨i,hi,rfl,hch⟩:=hrel;have DJ:=AO hch;clear hch;by_cases hlt:i<n
  ·(have hlt':(i:Int)<n:=by omega);obtain⟨x,hx⟩: ∃x,xs[i]? =AA x:=⟨_,Bo (by have:=Ug.out;omega)⟩;obtain⟨y,hy⟩: ∃y,ys[i]? =AA y:=⟨_,Bo (by have:=HLY.out;omega)⟩;obtain⟨ad,rfl,hat⟩:=(HA.out.Es DJ.out).row.ns (j:=i) (x:=x.1) (by unfold Dq;rw[Ba,hx];rfl);obtain⟨bd,rfl,hbt⟩:=(HB.out.Es DJ.out).row.ns (j:=i) (x:=y.1) (by unfold Dq;rw[Ba,hy];rfl);have x0:=hat.c0;have x1:=hat.c1;have y0:=hbt.c0;have y1:=hbt.c1;have HX:=AO hx;have HY:=AO hy;obtain⟨cb,hneq⟩: ∃cb,(x.1.nm.toList==y.1.nm.toList)=cb:=⟨_,rfl⟩;have HCB:Hid (cb=false->x.1.nm≠y.1.nm):=AO (λh e=>by rw[e] at hneq;rw[h] at hneq;simp at hneq);have Uf:Hid (∀w',AZ [] wr w'->Au Ae 65 #[.slice x.1.A x.1.n x.1.c,.slice y.1.A y.1.n y.1.c] w' (dJ (x.2=y.2) w')):=AO (λw' hc=>AFG _ _ _ _ _ _ _ _ w' (((HA.out.Es DJ.out).dat x (Bi HX.out)).Ap hc GM) (((HB.out.Es DJ.out).dat y (Bi HY.out)).Ap hc GM))
   have rC:Hid (cb=false->Ai xs≠Ai ys):=AO (λh e=>HCB.out h (by
    have:=congrArg (λl=>l[i]?.map Ac) e;simp only[Ai,Ba,HX.out,HY.out,Fj,DR] at this
    exact this))
   have HEQ:Hid (Ai xs=Ai ys->x.2=y.2):=AO (λe=>by
    have:=congrArg (λl=>l[i]?.map Prod.snd) e;simp only[Ai,Ba,HX.out,HY.out,Fj,DR] at this
    exact this)
   clear hx hy hat hbt
   cases cb with
   |false=>
    go_wp2;refine Ew (S:=λw'=>AZ [] wr w') Az ((AZ.refl _ _).drew) (λhHeld=>?_);refine tk 0 ?_;refine tk 1 ?_;refine tk 2 ?_;refine tk 3 ?_;refine F9 4 (λw' hSw=>hSw.cell x0 BH) ?_;refine tk 5 ?_;refine tk 6 ?_;refine tk 7 ?_;refine tk 8 ?_;refine F9 9 (λw' hSw=>hSw.cell y0 BH) ?_;refine tk 10 ?_;refine tk 11 ?_;refine tk 12 ?_;refine tk 13 ?_;refine tk 14 ?_;refine tk 15 ?_;refine tk 16 ?_;refine tk 17 ?_;refine tk 18 ?_;refine tk 19 ?_;refine tk 20 ?_;refine tk 21 ?_;refine EM 22 λK hK=>?_;go_simp;refine hK.out _ _ (hHeld) (λhHeld=>?_);(try simp only[BG,Bg]);clear hK K;refine tk 23 ?_;refine tk 24 ?_;refine Ej Az ?_ _;(try simp only[BG,Bg]);clear hHeld x0 x1 y0 y1 hneq;go_wp2;go_ret;exact⟨false,rfl,λe=>Ak e (rC.out (by first|rfl|trivial)),DJ.out.drew⟩
   |true=>
    go_wp2;refine Ew (S:=λw'=>AZ [] wr w') Az ((AZ.refl _ _).drew) (λhHeld=>?_);refine tk 0 ?_;refine tk 1 ?_;refine tk 2 ?_;refine tk 3 ?_;refine F9 4 (λw' hSw=>hSw.cell x0 BH) ?_;refine tk 5 ?_;refine tk 6 ?_;refine tk 7 ?_;refine tk 8 ?_;refine F9 9 (λw' hSw=>hSw.cell y0 BH) ?_;refine tk 10 ?_;refine tk 11 ?_;refine tk 12 ?_;refine tk 13 ?_;refine tk 14 ?_;refine tk 15 ?_;refine F9 16 (λw' hSw=>hSw.cell x1 BH) ?_;refine tk 17 ?_;refine tk 18 ?_;refine tk 19 ?_;refine tk 20 ?_;refine F9 21 (λw' hSw=>hSw.cell y1 BH) ?_;refine EM 22 λK hK=>?_;go_simp;refine (Uf.out _ hHeld).mono ?_;rintro e w3 ⟨bb,rfl,hbb,hc3⟩;have ALp:=hHeld.Ah hc3;have HBB:=AO hbb;refine hK.out _ _ (hHeld.Ah hc3) (λhHeld=>?_);(try simp only[BG,Bg]);clear hK K;refine tk 23 ?_;refine tk 24 ?_;refine Ej Az ?_ _;(try simp only[BG,Bg]);have Gg:=AO hHeld;clear hHeld ALp hbb hc3 x0 x1 y0 y1 hneq
    cases bb with
    |true=>
     go_wp2;go_roundw
     case rel=>exact⟨i+1,Aa,by go_num,DJ.out.Ah Gg.out⟩
     simp[intOf];omega
    |false=>
     go_wp2;go_ret;exact⟨false,rfl,λe=>HBB.out (HEQ.out e),DJ.out.Ah Gg.out⟩
  go_wp2;go_ret;exact⟨true,rfl,λ_=>rfl,DJ.out⟩
 have h1:((n:Int)==m)=false:=beq_eq_false_iff_ne.2 Aa;(have h2:((n:Int) !=m)=true:=by rw[bne,h1];rfl);have HN:=AO hnm;clear hnm;go_wp2;go_ret;refine⟨false,rfl,λe=>?_,AZ.refl _ _⟩;have:=congrArg NZ e;simp only[Ai,DY] at this;have h3:=Ug.out;have h4:=HLY.out;exact Ak Aa HN.out
theorem sH(A:Option Ag)(n c:Nat)(xs:List DM)(B:Option Ag)(m d:Nat)(ys:List DM)(w:AL)(ha:F6 w A n c xs)(hb:F6 w B m d ys)(hn:n<=1073741824)(hfn: ∀x∈xs,x.1.n<=1073741824):
  Au Ae 19 #[.slice A n c,.slice B m d] w (dJ (BD xs=BD ys) w):=by
 (have hlx:xs.length=n:=by have:=ha.row.KF;simpa[D9] using this);(have hly:ys.length=m:=by have:=hb.row.KF;simpa[D9] using this);have HA:=AO ha;have HB:=AO hb;have Yx:=AO hfn;have Ug:=AO hlx;have HLY:=AO hly;clear ha hb hlx hly hfn;have k24:= @AOi;go_enter ANk,Tryz.ntmps19;by_cases hnm:n=m
 ·subst hnm;go_wp2;go_loopw [5] (λq wr=>∃i:Nat,i<=n/\q=.int .i64 i/\AZ [] w wr) (λq _=>n - (intOf q).toNat)
  case atStart=>exact⟨0,DW _,rfl,AZ.refl _ _⟩
  obtain⟨i,hi,rfl,hch⟩:=hrel;have DJ:=AO hch;clear hch;by_cases hlt:i<n
  ·(have hlt':(i:Int)<n:=by omega);obtain⟨x,hx⟩: ∃x,xs[i]? =AA x:=⟨_,Bo (by have:=Ug.out;omega)⟩;obtain⟨y,hy⟩: ∃y,ys[i]? =AA y:=⟨_,Bo (by have:=HLY.out;omega)⟩;obtain⟨ad,rfl,hat⟩:=(HA.out.Es DJ.out).row.ns (j:=i) (x:=x.1) (by unfold D9;rw[Ba,hx];rfl);obtain⟨bd,rfl,hbt⟩:=(HB.out.Es DJ.out).row.ns (j:=i) (x:=y.1) (by unfold D9;rw[Ba,hy];rfl);have x0:=hat.c0;have x1:=hat.c1;have y0:=hbt.c0;have y1:=hbt.c1;have HX:=AO hx;have HY:=AO hy;obtain⟨cb,hneq⟩: ∃cb,(x.1.nm.toList==y.1.nm.toList)=cb:=⟨_,rfl⟩;have HCB:Hid (cb=false->x.1.nm≠y.1.nm):=AO (λh e=>by rw[e] at hneq;rw[h] at hneq;simp at hneq);have Uf:Hid (∀w',AZ [] wr w'->Au Ae 24 #[.slice x.1.A x.1.n x.1.c,.slice y.1.A y.1.n y.1.c] w' (dJ (Ai x.2=Ai y.2) w')):=AO (λw' hc=>sG _ _ _ _ _ _ _ _ w' (((HA.out.Es DJ.out).ET x (Bi HX.out)).Es hc) (((HB.out.Es DJ.out).ET y (Bi HY.out)).Es hc) (Yx.out x (Bi HX.out)))
   have rC:Hid (cb=false->BD xs≠BD ys):=AO (λh e=>HCB.out h (by
    have:=congrArg (λl=>l[i]?.map Ac) e;simp only[BD,Ba,HX.out,HY.out,Fj,DR] at this
    exact this))
   have HEQ:Hid (BD xs=BD ys->Ai x.2=Ai y.2):=AO (λe=>by
    have:=congrArg (λl=>l[i]?.map Prod.snd) e;simp only[BD,Ba,HX.out,HY.out,Fj,DR] at this
    exact this)
   clear hx hy hat hbt
   cases cb with
   |false=>
    go_wp2;refine Ew (S:=λw'=>AZ [] wr w') Az ((AZ.refl _ _).drew) (λhHeld=>?_);refine tk 0 ?_;refine tk 1 ?_;refine tk 2 ?_;refine tk 3 ?_;refine F9 4 (λw' hSw=>hSw.cell x0 BH) ?_;refine tk 5 ?_;refine tk 6 ?_;refine tk 7 ?_;refine tk 8 ?_;refine F9 9 (λw' hSw=>hSw.cell y0 BH) ?_;refine tk 10 ?_;refine tk 11 ?_;refine tk 12 ?_;refine tk 13 ?_;refine tk 14 ?_;refine tk 15 ?_;refine tk 16 ?_;refine tk 17 ?_;refine tk 18 ?_;refine tk 19 ?_;refine tk 20 ?_;refine tk 21 ?_;refine EM 22 λK hK=>?_;go_simp;refine hK.out _ _ (hHeld) (λhHeld=>?_);(try simp only[BG,Bg]);clear hK K;refine tk 23 ?_;refine tk 24 ?_;refine Ej Az ?_ _;(try simp only[BG,Bg]);clear hHeld x0 x1 y0 y1 hneq;go_wp2;go_ret;exact⟨false,rfl,λe=>Ak e (rC.out (by first|rfl|trivial)),DJ.out.drew⟩
   |true=>
    go_wp2;refine Ew (S:=λw'=>AZ [] wr w') Az ((AZ.refl _ _).drew) (λhHeld=>?_);refine tk 0 ?_;refine tk 1 ?_;refine tk 2 ?_;refine tk 3 ?_;refine F9 4 (λw' hSw=>hSw.cell x0 BH) ?_;refine tk 5 ?_;refine tk 6 ?_;refine tk 7 ?_;refine tk 8 ?_;refine F9 9 (λw' hSw=>hSw.cell y0 BH) ?_;refine tk 10 ?_;refine tk 11 ?_;refine tk 12 ?_;refine tk 13 ?_;refine tk 14 ?_;refine tk 15 ?_;refine F9 16 (λw' hSw=>hSw.cell x1 BH) ?_;refine tk 17 ?_;refine tk 18 ?_;refine tk 19 ?_;refine tk 20 ?_;refine F9 21 (λw' hSw=>hSw.cell y1 BH) ?_;refine EM 22 λK hK=>?_;go_simp;refine (Uf.out _ hHeld).mono ?_;rintro e w3 ⟨bb,rfl,hbb,hc3⟩;have ALp:=hHeld.Ah hc3;have HBB:=AO hbb;refine hK.out _ _ (hHeld.Ah hc3) (λhHeld=>?_);(try simp only[BG,Bg]);clear hK K;refine tk 23 ?_;refine tk 24 ?_;refine Ej Az ?_ _;(try simp only[BG,Bg]);have Gg:=AO hHeld;clear hHeld ALp hbb hc3 x0 x1 y0 y1 hneq
    cases bb with
    |true=>
     go_wp2;go_roundw
     case rel=>exact⟨i+1,Aa,by go_num,DJ.out.Ah Gg.out⟩
     simp[intOf];omega
    |false=>
     go_wp2;go_ret;exact⟨false,rfl,λe=>HBB.out (HEQ.out e),DJ.out.Ah Gg.out⟩
  go_wp2;go_ret;exact⟨true,rfl,λ_=>rfl,DJ.out⟩
 have h1:((n:Int)==m)=false:=beq_eq_false_iff_ne.2 Aa;(have h2:((n:Int) !=m)=true:=by rw[bne,h1];rfl);have HN:=AO hnm;clear hnm;go_wp2;go_ret;refine⟨false,rfl,λe=>?_,AZ.refl _ _⟩;have:=congrArg NZ e;simp only[BD,DY] at this;have h3:=Ug.out;have h4:=HLY.out;exact Ak Aa HN.out
def xq (w:AL) (fs:List (ByteArray×List Int)) (e:Fe) (w':AL):Prop:=
 ∃A c gs,e=.returned (.slice A fs.length c)/\GU w' A fs.length c gs/\Ai gs=fs/\AZ [] w w'/\∀k∈bo A++Ep gs,w.heap.size<=k
theorem X7(A:Option Ag)(n c:Nat)(xs:List FM)(w:AL)(ha:EU w A n c xs)(hn:n<=1073741824)(hfn: ∀x∈xs,x.1.n<=1073741824):
  Au Ae 15 #[.slice A n c] w (xq w (Ai xs)):=by
 (have hlx:xs.length=n:=by have:=ha.row.KF;simpa[Dq] using this);have HA:=AO ha;have Ug:=AO hlx;have Yx:=AO hfn;clear ha hlx hfn;have k53:= @AOn;go_enter ANh,Tryz.ntmps15;go_wp2;go_loopw [3,4] (λo q wr=>∃(i:Nat) (A':Option Ag) (c':Nat) (zs:List FM),i<=n/\q=.int .i64 i/\o=.slice A' i c'/\GU wr A' i c' zs/\Ai zs=Ai (xs.take i)/\AZ [] w wr/\∀k∈bo A'++Ep zs,w.heap.size<=k) (λ_ q _=>n - (intOf q).toNat)
 case atStart=>exact⟨0,_,0,[],DW _,rfl,rfl,⟨Own.lit w 64 2 #[] 0 Aq rfl,AV,by simp[Ep]⟩,rfl,(AZ.refl _ _).alloc _,by simp[Ep]⟩
 obtain⟨i,A',c',zs,hi,rfl,rfl,hz,hval,hch,hnw⟩:=hrel;have HZ:=AO hz;have Xu:=AO hval;have DJ:=AO hch;have NH:=AO hnw;clear hz hval hch hnw;by_cases hlt:i<n
 ·(have hlt':(i:Int)<n:=by omega);obtain⟨x,hx⟩: ∃x,xs[i]? =AA x:=⟨_,Bo (by have:=Ug.out;omega)⟩;obtain⟨ad,rfl,hat⟩:=HA.out.row.ns (j:=i) (x:=x.1) (by unfold Dq;rw[Ba,hx];rfl)
  have rQ:Hid (ad.block∉bo A'):=AO (λhm=>by
   have h1:=UT w _ hat.c0;rw[add_block] at h1;have h2:=NH.out _ (F5 _ hm)
   omega)
  have UK:=hat.Ap DJ.out BH;have x0:=UK.c0;have x1:=UK.c1;have HX:=AO hx;have HNN:Hid (∀k∈bo A',w.heap.size<=k):=AO (λk hk=>NH.out k (F5 _ hk));clear hx hat UK;go_wp2;refine Ew (S:=λw'=>AZ (bo A') wr w') Az ((AZ.refl _ _).drew) (λhHeld=>?_);refine tk 0 ?_;refine tk 1 ?_;refine tk 2 ?_;refine tk 3 ?_;refine tk 4 ?_;refine F9 5 (λw' hSw=>hSw.cell x0 (λh=>rQ.out (by simpa[add_block] using h))) ?_;refine tk 6 ?_;refine tk 7 ?_;refine tk 8 ?_;refine tk 9 ?_;refine F9 10 (λw' hSw=>hSw.cell x1 (λh=>rQ.out (by simpa[add_block] using h))) ?_;refine EM 11 λK hK=>?_;go_simp;refine (wZ x.1.A x.1.n x.1.c x.2 _ (Yx.out x (Bi HX.out)) ((HA.out.dat x (Bi HX.out)).Ap ((DJ.out.trans hHeld (λx hx=>.inr (HNN.out x hx)))) GM)).mono ?_;rintro e w4 ⟨BA,bc,rfl,Ze,hc4,hn4⟩;have HBO:=AO Ze;have OC:=AO hc4;have HN4:=AO hn4;have Wq:Hid (AZ [] wr (w4.alloc (.cells #[.string x.1.nm,.slice BA x.1.n bc] 64))):=AO ((((AZ.refl [] wr).drew).Ah hc4).alloc _);have HOW:Hid (GU (w4.alloc (.cells #[.string x.1.nm,.slice BA x.1.n bc] 64)) A' i c' zs):=AO (HZ.out.Ap Wq.out GM);have hHc:=hHeld.Ah hc4;clear Ze hn4;refine hK.out _ _ (hHc) (λhHeld=>?_);(try simp only[BG,Bg]);clear hK K;refine tk 12 ?_;refine EM 13 λK hK=>?_;go_simp;refine hK.out _ _ (hHeld.alloc _) (λhHeld=>?_);(try simp only[BG,Bg]);clear hK K;refine EM 14 λK hK=>?_;refine JV rfl _ _ rfl wo rfl HOW.out.row rfl (Own.lit w4 64 2 #[.string x.1.nm,.slice BA x.1.n bc] 1 Aq rfl).rd (U9 [⟨x.1.nm,BA,x.1.n,bc⟩]) Nb Aa ?_;intro A2 c2 w6 hown6 II LV _;have qm:=AO hown6;have JF:=AO II;have Xv:=AO LV;have hH6:=hHeld.trans II (λx hx=>.inl hx);clear hown6 II LV;refine hK.out _ _ (hH6) (λhHeld=>?_);(try simp only[BG,Bg]);clear hK K;refine tk 15 ?_;refine Ej Az ?_ _;(try simp only[BG,Bg]);clear hHeld hHc hH6 hc4 x0 x1;go_wp2;go_roundw
  case rel=>
   have hzl:=HZ.out.lt;have hwl:wr.heap.size<=w4.heap.size:=OC.out.size;have hba: ∀k∈bo BA,wr.heap.size<=k:=λk hk=>HN4.out k hk
   have hO6:Own w6 64 2 A2 (i+1) c2 (Hl (Dq (zs++[(⟨x.1.nm,BA,x.1.n,bc⟩,x.2)]))):=by
    have:=qm.out;unfold Dq at this⊢;rw[FK,N9];exact this
   have hz6:GU w6 A2 (i+1) c2 (zs++[(⟨x.1.nm,BA,x.1.n,bc⟩,x.2)]):=HOW.out.snoc JF.out hO6 ((HBO.out.Ap ((AZ.refl [] w4).alloc _) GM).Ap JF.out (λk hk hm=>by have h1:=hba k hk;have h2:=hzl k (F5 _ hm);omega)) (λk hk hm=>by have h1:=hba k hk;have h2:=hzl k (GN _ hm);omega);refine⟨i+1,A2,c2,zs++[(⟨x.1.nm,BA,x.1.n,bc⟩,x.2)],Aa,by go_num,rfl,hz6,?_,(DJ.out.Ah Wq.out).trans JF.out (λx hx=>.inr (NH.out x (F5 _ hx))),λk hk=>?_⟩
   ·rw[AAw,Xu.out];unfold Ai;rw[Jg,Jg,take_snoc _ i _ (show (xs.map _)[i]? =AA _ by rw[Ba,HX.out];rfl)]
   rw[qE] at hk;have h3:=DJ.out.size;rcases Bj.1 hk with hk|hk
   ·rcases Xv.out k hk with h|h;exact NH.out k (F5 _ h);simp at h;omega
   rcases Bj.1 hk with hk|hk;exact NH.out k (GN _ hk);have:=hba k hk;omega
  simp[intOf];omega
 (obtain rfl:i=n:=by omega);go_wp2;go_ret;refine⟨A',c',zs,by rw[show (Ai xs).length=i by rw[Ai,DY];exact Ug.out];rfl,by rw[show (Ai xs).length=i by rw[Ai,DY];exact Ug.out];exact HZ.out,?_,DJ.out,NH.out⟩;rw[Xu.out,Ea (by rw[Ug.out];exact Bd _)]
theorem ADW(A:Option Ag)(n c:Nat)(xs:List DM)(w:AL)(ha:F6 w A n c xs)(hn:n<=1073741824)(hfn: ∀x∈xs,x.1.n<=1073741824/\∀f∈x.2,f.1.n<=1073741824):
  Au Ae 35 #[.slice A n c] w (dH w (BD xs)):=by
 (have hlx:xs.length=n:=by have:=ha.row.KF;simpa[D9] using this);have HA:=AO ha;have Ug:=AO hlx;have Yx:=AO hfn;clear ha hlx hfn;have k15:= @AKY;go_enter ANw,Tryz.ntmps35;go_wp2;go_loopw [3,4] (λo q wr=>∃(i:Nat) (A':Option Ag) (c':Nat) (zs:List DM),i<=n/\q=.int .i64 i/\o=.slice A' i c'/\Jl wr A' i c' zs/\BD zs=BD (xs.take i)/\AZ [] w wr/\∀k∈bo A'++Ol zs,w.heap.size<=k) (λ_ q _=>n - (intOf q).toNat)
 case atStart=>exact⟨0,_,0,[],DW _,rfl,rfl,⟨Own.lit w 77 2 #[] 0 Aq rfl,AV,by simp[Ol]⟩,rfl,(AZ.refl _ _).alloc _,by simp[Ol]⟩
 obtain⟨i,A',c',zs,hi,rfl,rfl,hz,hval,hch,hnw⟩:=hrel;have HZ:=AO hz;have Xu:=AO hval;have DJ:=AO hch;have NH:=AO hnw;clear hz hval hch hnw;by_cases hlt:i<n
 ·(have hlt':(i:Int)<n:=by omega);obtain⟨x,hx⟩: ∃x,xs[i]? =AA x:=⟨_,Bo (by have:=Ug.out;omega)⟩;obtain⟨ad,rfl,hat⟩:=HA.out.row.ns (j:=i) (x:=x.1) (by unfold D9;rw[Ba,hx];rfl)
  have rQ:Hid (ad.block∉bo A'):=AO (λhm=>by
   have h1:=UT w _ hat.c0;rw[add_block] at h1;have h2:=NH.out _ (F5 _ hm)
   omega)
  have UK:=hat.Ap DJ.out BH;have x0:=UK.c0;have x1:=UK.c1;have HX:=AO hx;have HNN:Hid (∀k∈bo A',w.heap.size<=k):=AO (λk hk=>NH.out k (F5 _ hk));clear hx hat UK;go_wp2;refine Ew (S:=λw'=>AZ (bo A') wr w') Az ((AZ.refl _ _).drew) (λhHeld=>?_);refine tk 0 ?_;refine tk 1 ?_;refine tk 2 ?_;refine tk 3 ?_;refine tk 4 ?_;refine F9 5 (λw' hSw=>hSw.cell x0 (λh=>rQ.out (by simpa[add_block] using h))) ?_;refine tk 6 ?_;refine tk 7 ?_;refine tk 8 ?_;refine tk 9 ?_;refine F9 10 (λw' hSw=>hSw.cell x1 (λh=>rQ.out (by simpa[add_block] using h))) ?_;refine EM 11 λK hK=>?_;go_simp;refine (X7 x.1.A x.1.n x.1.c x.2 _ ((HA.out.ET x (Bi HX.out)).Es ((DJ.out.trans hHeld (λx hx=>.inr (HNN.out x hx))))) (Yx.out x (Bi HX.out)).1 (Yx.out x (Bi HX.out)).2).mono ?_;rintro e w4 ⟨BA,bc,fs4,rfl,Ze,hv4,hc4,hn4⟩;have HBO:=AO Ze;have HV4:=AO hv4;have OC:=AO hc4;have HN4:=AO hn4;have Wq:Hid (AZ [] wr (w4.alloc (.cells #[.string x.1.nm,.slice BA (Ai x.2).length bc] 77))):=AO ((((AZ.refl [] wr).drew).Ah hc4).alloc _);have HOW:Hid (Jl (w4.alloc (.cells #[.string x.1.nm,.slice BA (Ai x.2).length bc] 77)) A' i c' zs):=AO (HZ.out.Ap Wq.out GM);have hHc:=hHeld.Ah hc4;clear Ze hn4 hv4;refine hK.out _ _ (hHc) (λhHeld=>?_);(try simp only[BG,Bg]);clear hK K;refine tk 12 ?_;refine EM 13 λK hK=>?_;go_simp;refine hK.out _ _ (hHeld.alloc _) (λhHeld=>?_);(try simp only[BG,Bg]);clear hK K;refine EM 14 λK hK=>?_;refine JV rfl _ _ rfl Qa rfl HOW.out.row rfl (Own.lit w4 77 2 #[.string x.1.nm,.slice BA (Ai x.2).length bc] 1 Aq rfl).rd (U9 [⟨x.1.nm,BA,(Ai x.2).length,bc⟩]) Nb Aa ?_;intro A2 c2 w6 hown6 II LV _;have qm:=AO hown6;have JF:=AO II;have Xv:=AO LV;have hH6:=hHeld.trans II (λx hx=>.inl hx);clear hown6 II LV;refine hK.out _ _ (hH6) (λhHeld=>?_);(try simp only[BG,Bg]);clear hK K;refine tk 15 ?_;refine Ej Az ?_ _;(try simp only[BG,Bg]);clear hHeld hHc hH6 hc4 x0 x1;go_wp2;go_roundw
  case rel=>
   have hzl:=HZ.out.lt;have hwl:wr.heap.size<=w4.heap.size:=OC.out.size;have hba: ∀k∈bo BA++Ep fs4,wr.heap.size<=k:=λk hk=>HN4.out k hk
   have hO6:Own w6 77 2 A2 (i+1) c2 (Hl (D9 (zs++[(⟨x.1.nm,BA,(Ai x.2).length,bc⟩,fs4)]))):=by
    have:=qm.out;unfold D9 at this⊢;rw[FK,N9];exact this
   have hz6:Jl w6 A2 (i+1) c2 (zs++[(⟨x.1.nm,BA,(Ai x.2).length,bc⟩,fs4)]):=HOW.out.snoc JF.out hO6 ((HBO.out.Ap ((AZ.refl [] w4).alloc _) GM).Ap JF.out (λk hk hm=>by have h1:=hba k hk;have h2:=hzl k (F5 _ hm);omega)) (λk hk hm=>by have h1:=hba k hk;have h2:=hzl k (GN _ hm);omega);refine⟨i+1,A2,c2,zs++[(⟨x.1.nm,BA,(Ai x.2).length,bc⟩,fs4)],Aa,by go_num,rfl,hz6,?_,(DJ.out.Ah Wq.out).trans JF.out (λx hx=>.inr (NH.out x (F5 _ hx))),λk hk=>?_⟩
   ·rw[AAx,Xu.out];unfold BD;rw[Jg,Jg,take_snoc _ i _ (show (xs.map _)[i]? =AA _ by rw[Ba,HX.out];rfl)];simp only[HV4.out]
   rw[Zp] at hk;have h3:=DJ.out.size;rcases Bj.1 hk with hk|hk
   ·rcases Xv.out k hk with h|h;exact NH.out k (F5 _ h);simp at h;omega
   rcases Bj.1 hk with hk|hk;exact NH.out k (GN _ hk);have:=hba k hk;omega
  simp[intOf];omega
 (obtain rfl:i=n:=by omega);go_wp2;go_ret;refine⟨A',i,c',zs,rfl,HZ.out,?_,DJ.out,NH.out⟩;rw[Xu.out,Ea (by rw[Ug.out];exact Bd _)]
def NJ (nm:ByteArray) (D:Eg):Eg:=D.filter λd=> !decide (d.1=nm)
def MC (nm:ByteArray) (ds:List DM):List DM:=ds.filter λd=> !decide (d.1.nm=nm)
theorem Ry(nm:ByteArray)(ds:List DM):BD (MC nm ds)=NJ nm (BD ds):=by
 unfold MC NJ BD;rw[lU];rfl
theorem xu{nm:ByteArray}{ds:List DM}{k:Nat}{d:DM}(h:ds[k]? =AA d):MC nm (ds.take (k+1))=if d.1.nm=nm then MC nm (ds.take k) else MC nm (ds.take k)++[d]:=by
 unfold MC;rw[Py,h,fC,af];by_cases hd:d.1.nm=nm;rw[BU hd];simp[hd];rw[BL hd];simp[hd]
theorem ALq(nm:ByteArray)(ds:List DM)(k:Nat):(MC nm (ds.take k)).length<=k:=by
 unfold MC;refine Cj (aY _ _) ?_;rw[I7];omega
def AG5 (w:AL) (L:List DM) (e:Fe) (w':AL):Prop:=
 ∃A c,e=.returned (.slice A L.length c)/\Own w' 77 2 A L.length c (Hl (D9 L))/\AZ [] w w'/\∀k∈bo A,w.heap.size<=k
theorem sJ(xs:List Iz)(x:Iz):Hl (xs++[x])=Hl xs++[.string x.nm,.slice x.A x.n x.c]:=by unfold Hl Iz.cells;rw[AFz];simp
theorem AAy(A:Option Ag)(n c:Nat)(ds:List DM)(nm:ByteArray)(w:AL)(h:F6 w A n c ds)(hn:n<=1073741824):
  Au Ae 22 #[.slice A n c,.string nm] w (AG5 w (MC nm ds)):=by
 (have hl:ds.length=n:=by have:=h.row.KF;simpa[D9] using this);have HD:=AO h;have HL:=AO hl;clear h hl;go_enter ANn,Tryz.ntmps22;go_wp2;go_loopw [5,6] (λs i wr=>∃(k:Nat) (A5:Option Ag) (c5:Nat),k<=n/\i=.int .i64 k/\s=.slice A5 (MC nm (ds.take k)).length c5/\Own wr 77 2 A5 (MC nm (ds.take k)).length c5 (Hl (D9 (MC nm (ds.take k))))/\AZ [] w wr/\∀x∈bo A5,w.heap.size<=x) (λ_ i _=>n - (intOf i).toNat)
 case atStart=>exact⟨0,AA ⟨w.heap.size,0,AB⟩,0,DW _,rfl,rfl,Own.lit w 77 2 #[] 0 Aq rfl,(AZ.refl [] w).alloc _,AV⟩
 obtain⟨k,A5,c5,hk,rfl,rfl,ho,hch,hnew⟩:=hrel;have HO:=AO ho;have HC:=AO hch;have HN:=AO hnew;have hlw:=ALq nm ds k;clear ho hch hnew;by_cases hlt:k<n
 ·obtain⟨d,hd⟩: ∃d,ds[k]? =AA d:=⟨_,Bo (by have:=HL.out;omega)⟩;obtain⟨⟨ES,dA,dn,dc⟩,IJ⟩:=d;obtain⟨ad,rfl,hat⟩:=(HD.out.Es HC.out).row.ns (j:=k) (x:=⟨ES,dA,dn,dc⟩) (by unfold D9;rw[Ba,hd];rfl);have x0:=hat.c0;have x1:=hat.c1;have HX:=AO hd;clear hd hat;by_cases hnm:ES=nm
  ·(have hb:(ES.toList==nm.toList)=true:=by rw[<- H7];exact decide_eq_true hnm);have HW:Hid (MC nm (ds.take (k+1))=MC nm (ds.take k)):=AO (by rw[xu HX.out,BU hnm]);clear hnm;go_wp2;go_roundw
   case rel=>exact⟨k+1,A5,c5,Aa,by go_num,by rw[HW.out],by rw[HW.out];exact HO.out,HC.out,HN.out⟩
   simp[intOf];omega
  (have hb:(ES.toList==nm.toList)=false:=by rw[<- H7];exact decide_eq_false hnm);have HW:Hid (MC nm (ds.take (k+1))=MC nm (ds.take k)++[(⟨ES,dA,dn,dc⟩,IJ)]):=AO (by rw[xu HX.out,BL hnm]);clear hnm;(go_wp2_with (at_builtin;refine D8 rfl _ _ rfl Qa rfl (HO.out.Ap ((AZ.refl [] wr).alloc _) AV) rfl (Own.TM _ 77 2 #[.string ES,.slice dA dn dc] 1 _ _ rfl rfl Aq rfl).rd (by simp[Jr]) Nb Aa ?_;intro A9 c9 wb hown EI aB _));go_roundw
  case rel=>
   refine⟨k+1,A9,c9,Aa,by go_num,by rw[HW.out];simp,?_,((HC.out.alloc _).trans EI (λx hx=>.inr (HN.out x hx))),λx hx=>?_⟩
   ·rw[HW.out];(have:D9 (MC nm (ds.take k)++[(⟨ES,dA,dn,dc⟩,IJ)])=D9 (MC nm (ds.take k))++[⟨ES,dA,dn,dc⟩]:=by simp[D9]);rw[this,sJ,IA];exact hown
   rcases aB x hx with h|h;exact HN.out x h;have h1:=h.1;have h2:=HC.out.size;simp at h1;omega
  simp[intOf];omega
 (obtain rfl:k=n:=by omega);go_wp2;go_ret;have h1:ds.take k=ds:=Ea (by have:=HL.out;omega);rw[h1] at HO;rw[h1];exact⟨A5,c5,rfl,HO.out,HC.out,HN.out⟩
theorem AFi{fs:List (ByteArray×List Int)}{k:Nat}{f:ByteArray×List Int}(h:fs[k]? =AA f):Df (fs.take (k+1))=Df (fs.take k)+f.2.length:=by
 rw[Py,h,fC,Rf]
theorem AFj(A:Option Ag)(n c:Nat)(fs:List FM)(w:AL)(h:EU w A n c fs)(hn:n<=1073741824)(hb:Df (Ai fs)<=1073741824):
  Au Ae 66 #[.slice A n c] w λe w'=>e=.returned (.int .i64 (Df (Ai fs):Nat))/\w'=w:=by
 (have hl:fs.length=n:=by have:=h.row.KF;simpa[Dq] using this);have HD:=AO h;have HL:=AO hl;have HB:=AO hb;clear h hl hb;go_enter AOI,Tryz.ntmps66;go_wp2;go_loopw [3,4] (λs i wr=>∃(k:Nat),k<=n/\i=.int .i64 k/\s=.int .i64 (Df ((Ai fs).take k):Nat)/\wr=w) (λ_ i _=>n - (intOf i).toNat)
 case atStart=>exact⟨0,DW _,rfl,rfl,rfl⟩
 obtain⟨k,hk,rfl,rfl,rfl⟩:=hrel;by_cases hlt:k<n
 ·obtain⟨f,hf⟩: ∃f,fs[k]? =AA f:=⟨_,Bo (by have:=HL.out;omega)⟩;obtain⟨⟨nm,dA,dn,dc⟩,dx⟩:=f;obtain⟨ad,rfl,hat⟩:=HD.out.row.ns (j:=k) (x:=⟨nm,dA,dn,dc⟩) (by unfold Dq;rw[Ba,hf];rfl);have x1:=hat.c1;have hln:=(HD.out.dat _ (Bi hf)).ADA;(have hfv:(Ai fs)[k]? =AA (nm,dx):=by unfold Ai;rw[Ba,hf];rfl);have hs:=AFi hfv;have hs2:=Qr (Ai fs) (k+1);have hb:=HB.out;simp only at hln hs;obtain⟨t0,ht0⟩: ∃t0,Df ((Ai fs).take k)=t0:=⟨_,rfl⟩;rw[ht0] at hs;(have q1:t0+dn<=1073741824:=by omega);have HS:Hid (Df ((Ai fs).take (k+1))=t0+dn):=AO Aa;rw[ht0];clear hat hf hfv hs hs2 hb hln ht0;go_wp2;go_roundw
  case rel=>exact⟨k+1,Aa,by go_num,by rw[HS.out];go_num,Ar⟩
  simp[intOf];omega
 (obtain rfl:k=n:=by omega);have h1:(Ai fs).take k=Ai fs:=Ea (by have:=HL.out;unfold Ai;rw[DY];omega);rw[h1];go_wp2;go_ret;exact⟨rfl,rfl⟩
theorem ADX(w:AL):Au Ae 26 #[.slice AB 0 0,.string {data:=#[]}] w λe w'=>e=.returned (.bool true)/\w'=w:=by
 go_enter AKA,Tryz.ntmps26;go_wp2;go_ret;exact⟨rfl,rfl⟩
theorem ADY{w:AL}{A:Option Ag}{c:Nat}{op:ByteArray}(h:Rd w 1 A 1 c (OB [op]))(hop:(op.toList==[])=false):Au Ae 26 #[.slice A 1 c,.string op] w λe w'=>e=.returned (.bool true)/\w'=w:=by
 obtain⟨ad,u,rfl,hu,hcell⟩:=h.Yu (k:=0) Aq;simp[OB] at hu;subst hu;(have hcell0:w.cell? ad=AA (.string op):=by simpa[Q9] using hcell);(have hq:(op.toList==op.toList)=true:=by simp);clear h hcell;go_enter AKA,Tryz.ntmps26;go_wp2;go_ret;exact⟨rfl,rfl⟩
section
variable {d:DM}{L ds:List DM}{m:Nat}{w:AL}
def Ko (x:ByteArray×List (ByteArray×List Int)) (s:Bool×Eg) (d:ByteArray×List (ByteArray×List Int)):Bool×Eg:=
 (s.1 || Vs x.1 d.1,(if s.1=false/\Vs x.1 d.1=true then s.2++[x] else s.2)++(if d.1=x.1 then [] else [d]))
def ADZ (x:ByteArray×List (ByteArray×List Int)) (D:Eg):Bool×Eg:=D.foldl (Ko x) (false,[])
def wiD (x:ByteArray×List (ByteArray×List Int)) (D:Eg):Eg:=if (ADZ x D).1=true then (ADZ x D).2 else (ADZ x D).2++[x]
def LX (x:DM) (s:Bool×List DM) (d:DM):Bool×List DM:=
 (s.1 || Vs x.1.nm d.1.nm,(if s.1=false/\Vs x.1.nm d.1.nm=true then s.2++[x] else s.2)++(if d.1.nm=x.1.nm then [] else [d]))
def He (x:DM) (ds:List DM):Bool×List DM:=ds.foldl (LX x) (false,[])
def wiM (x:DM) (ds:List DM):List DM:=if (He x ds).1=true then (He x ds).2 else (He x ds).2++[x]
theorem ZK(a b:List DM):BD (a++b)=BD a++BD b:=by unfold BD;rw[FK]
theorem xw(x:DM): ∀(ds:List DM) (s:Bool×List DM),((ds.foldl (LX x) s).1,BD (ds.foldl (LX x) s).2)=(BD ds).foldl (Ko (x.1.nm,Ai x.2)) (s.1,BD s.2)
 | [],s=>rfl
 |d::r,s=>by
  rw[V9,xw x r];show _=(BD r).foldl _ (Ko _ _ (d.1.nm,Ai d.2));congr 1;unfold LX Ko;simp only;refine Jh rfl ?_;simp only;rw[ZK];congr 1
  ·split<;>simp[BD]
  split<;>rfl
theorem AIX(x:DM)(ds:List DM):BD (wiM x ds)=wiD (x.1.nm,Ai x.2) (BD ds):=by
 have h:=xw x ds (false,[]);have h1:(He x ds).1=(ADZ (x.1.nm,Ai x.2) (BD ds)).1:=congrArg Ac h;have h2:BD (He x ds).2=(ADZ (x.1.nm,Ai x.2) (BD ds)).2:=congrArg Prod.snd h;unfold wiM wiD;rw[<- h1,<- h2];split;rfl;rw[ZK];rfl
theorem ADa(x:DM){k:Nat}(h:ds[k]? =AA d):He x (ds.take (k+1))=LX x (He x (ds.take k)) d:=by
 unfold He;rw[Py,h,fC,List.foldl_append];rfl
theorem sK(x:DM): ∀(ds:List DM) (s:Bool×List DM) (d:DM),d∈(ds.foldl (LX x) s).2->d∈s.2\/d=x\/d∈ds
 | [],s,d,h=>.inl h
 |e::r,s,d,h=>by
  rw[V9] at h;rcases sK x r _ d h with h|h|h
  ·unfold LX at h;simp only at h;rcases Bj.1 h with h|h
   ·split at h
    ·rcases Bj.1 h with h|h;exact .inl h;simp at h;exact .inr (.inl h)
    exact .inl h
   split at h;(cases h);simp at h;exact .inr (.inr (by simp[h]))
  exact .inr (.inl h);exact .inr (.inr (DD _ h))
theorem ALr{x:DM}(h:d∈wiM x ds):d=x\/d∈ds:=by
 have hk: ∀d,d∈(He x ds).2->d=x\/d∈ds:=λd h=>by
  rcases sK x ds (false,[]) d h with h|h;(cases h);exact h
 unfold wiM at h;split at h;exact hk d h;rcases Bj.1 h with h|h;exact hk d h;simp at h;exact .inl h
theorem AAz(x:DM)(s:Bool×List DM)(d:DM):(LX x s d).2.length<=s.2.length+2:=by
 unfold LX;simp only[IA];split<;>split<;>simp<;>omega
theorem sN(x:DM): ∀(ds:List DM) (s:Bool×List DM),(ds.foldl (LX x) s).2.length<=s.2.length+2*ds.length
 | [],s=>by simp
 |e::r,s=>by
  rw[V9];have:=sN x r (LX x s e);have:=AAz x s e;simp only[EY];omega
theorem lG(x:DM)(ds:List DM)(k:Nat):(He x (ds.take k)).2.length<=2*k:=by
 have:=sN x (ds.take k) (false,[]);unfold He;rw[I7] at this;simp at this⊢;omega
def iR (w:AL) (L:List DM) (s:AQ) (wr:AL):Prop:=∃A5 c5,s=.slice A5 L.length c5/\Own wr 77 2 A5 L.length c5 (Hl (D9 L))/\AZ [] w wr/\∀x∈bo A5,w.heap.size<=x
theorem iR.app{wr wb:AL}{A5 A9:Option Ag}{c9:Nat}{o:Obj}(hm:L.length=m)(hc:AZ [] w wr)(hn: ∀x∈bo A5,w.heap.size<=x)(ho:Own wb 77 2 A9 (m+1) c9 (Hl (D9 L)++[.string d.1.nm,.slice d.1.A d.1.n d.1.c]))(h:AZ (bo A5) (wr.alloc o) wb)
  (hnew: ∀x∈bo A9,x∈bo A5\/((wr.alloc o).heap.size<=x/\x<wb.heap.size)):iR w (L++[d]) (.slice A9 (m+1) c9) wb:=by
 subst hm;refine⟨A9,c9,AV,?_,(hc.alloc _).trans h (λx hx=>.inr (hn x hx)),λx hx=>?_⟩
 ·(have:D9 (L++[d])=D9 L++[d.1]:=by simp[D9]);rw[this,sJ,IA];exact ho
 rcases hnew x hx with h|h;exact hn x h;have h1:=h.1;have h2:=hc.size;simp at h1;omega
theorem iR.of{wr wx:AL}{c:Nat}{A:Option Ag}(hm:L.length=m)(ho:Own wr 77 2 A m c (Hl (D9 L)))(hc:AZ [] w wx)(hc2:AZ [] wr wx)(hn: ∀x∈bo A,w.heap.size<=x):iR w L (.slice A m c) wx:=by
 subst hm;exact⟨A,c,rfl,ho.Ap hc2 AV,hc,hn⟩
end
theorem AIY(A:Option Ag)(n c:Nat)(ds:List DM)(nm:ByteArray)(xA:Option Ag)(xn xc:Nat)(xfs:List FM)(w:AL)(h:F6 w A n c ds)(hn:n<=500000000):
  Au Ae 33 #[.slice A n c,.agg #[.string nm,.slice xA xn xc]] w (AG5 w (wiM (⟨nm,xA,xn,xc⟩,xfs) ds)):=by
 (have hl:ds.length=n:=by have:=h.row.KF;simpa[D9] using this);obtain⟨x,hx⟩: ∃x:DM,x=(⟨nm,xA,xn,xc⟩,xfs):=⟨_,rfl⟩;obtain⟨b3,hb3⟩: ∃b3,w.heap.size=b3:=⟨_,rfl⟩;obtain⟨W0,hW0⟩: ∃W0,w.alloc (.cells #[.string nm,.slice xA xn xc] 77)=W0:=⟨_,rfl⟩;(have hc0:AZ [] w W0:=by rw[<- hW0];exact (AZ.refl [] w).alloc _);(have hk0:Bv W0 b3 77 #[.string nm,.slice xA xn xc]:=by rw[<- hW0,<- hb3];exact .new _ _ _);have HD:=AO (h.Es hc0);have HL:=AO hl;have HX:=AO hx;have TC:=AO hc0;have HK0:=AO hk0;rw[<- hx];clear h hl hx hc0 hk0;have hlq:=RY;go_enter ANu,Tryz.ntmps33;go_wp2;go_loopw [5,6,7] (λs q i wr=>∃(k:Nat),k<=n/\i=.int .i64 k/\q=.bool (He x (ds.take k)).1/\iR W0 (He x (ds.take k)).2 s wr) (λ_ _ i _=>n - (intOf i).toNat)
 case atStart=>exact⟨0,DW _,rfl,rfl,_,_,rfl,Own.lit W0 77 2 #[] 0 Aq rfl,(AZ.refl [] W0).alloc _,AV⟩
 obtain⟨k,hk,rfl,rfl,A5,c5,rfl,ho,hch,hnew⟩:=hrel;have HO:=AO ho;have HC:=AO hch;have HN:=AO hnew;have hlw:=lG x ds k;have hkb:=HK0.out.Ap hch AV;have y0:=hkb.cell 0;have y1:=hkb.cell 1;simp only[FV] at y0 y1;have HKB:=AO hkb;clear ho hch hnew hkb;by_cases hlt:k<n
 ·obtain⟨d,hd⟩: ∃d,ds[k]? =AA d:=⟨_,Bo (by have:=HL.out;omega)⟩;obtain⟨⟨ES,dA,dn,dc⟩,IJ⟩:=d;have HNS:Hid ((D9 ds)[k]? =AA ⟨ES,dA,dn,dc⟩):=AO (by unfold D9;rw[Ba,hd];rfl);have hat:=(HD.out.Es HC.out).row.ns (j:=k) (x:=⟨ES,dA,dn,dc⟩) HNS.out;obtain⟨ad,rfl,hat⟩:=hat;have x0:=hat.c0;have x1:=hat.c1;have HAT:=AO hat;have hst:=ADa x hd;have HST:Hid (He x (ds.take (k+1))=((He x (ds.take k)).1 || Vs nm ES,(if (He x (ds.take k)).1=false/\Vs nm ES=true then (He x (ds.take k)).2++[x] else (He x (ds.take k)).2)++(if ES=nm then [] else [(⟨ES,dA,dn,dc⟩,IJ)]))):=AO (by rw[hst,HX.out];rfl);clear hd hat hst;obtain⟨s0,hs0⟩: ∃s0,He x (ds.take k)=s0:=⟨_,rfl⟩;rw[hs0] at HST HO hlw;rw[hs0];obtain⟨dnf,L⟩:=s0;clear hs0;simp only at HST HO hlw
  cases dnf with
  |true=>
   have HS2:Hid (He x (ds.take (k+1))=(true,L++(if ES=nm then [] else [(⟨ES,dA,dn,dc⟩,IJ)]))):=AO (by rw[HST.out];simp);clear HST;go_wp2;go_quiet (fail);go_wp2;by_cases hnm:ES=nm
   ·(have hb:(ES.toList==nm.toList)=true:=by rw[<- H7];exact decide_eq_true hnm);have PZ:=HS2.out;rw[BU hnm,Ii] at PZ;have X8:=AO PZ;clear hnm PZ;go_quiet (fail);go_wp2;go_roundw
    case rel=>exact⟨k+1,Aa,by go_num,by rw[X8.out],by rw[X8.out];exact iR.of (rfl) HO.out (by first|exact HC.out|exact HC.out.drewN _|exact (HC.out.drewN _).drewN _) (by first|exact AZ.refl [] _|exact (AZ.refl [] _).drewN _|exact ((AZ.refl [] _).drewN _).drewN _) HN.out⟩
    simp[intOf];omega
   (have hb:(ES.toList==nm.toList)=false:=by rw[<- H7];exact decide_eq_false hnm);have PZ:=HS2.out;rw[BL hnm] at PZ;have X8:=AO PZ;clear hnm PZ;go_quiet (fail);(go_wp2_with (at_builtin;refine D8 rfl _ _ rfl Qa rfl (HO.out.Ap (by first|exact (AZ.refl [] _).alloc _|exact ((AZ.refl [] _).drewN _).alloc _|exact (((AZ.refl [] _).drewN _).drewN _).alloc _) AV) rfl (Own.TM _ 77 2 #[.string ES,.slice dA dn dc] 1 _ _ rfl rfl Aq rfl).rd (by simp[Jr]) Nb Aa ?_;intro A9 c9 wb9 sO sQ aB _));go_roundw
   case rel=>exact⟨k+1,Aa,by go_num,by rw[X8.out],by rw[X8.out];exact iR.app (d:=(⟨ES,dA,dn,dc⟩,IJ)) (rfl) (by first|exact HC.out|exact HC.out.drewN _|exact (HC.out.drewN _).drewN _) HN.out sO sQ aB⟩
   simp[intOf];omega
  |false=>
   cases hle:Vs nm ES with
   |true=>
    have HS2:Hid (He x (ds.take (k+1))=(true,(L++[x])++(if ES=nm then [] else [(⟨ES,dA,dn,dc⟩,IJ)]))):=AO (by rw[HST.out,hle];simp);clear HST;go_wp2;go_quiet (fail);(go_wp2_with (at_builtin;refine D8 rfl _ _ rfl Qa rfl (HO.out.Ap (by first|exact (AZ.refl [] _).alloc _|exact ((AZ.refl [] _).drewN _).alloc _|exact (((AZ.refl [] _).drewN _).drewN _).alloc _) AV) rfl (Own.TM _ 77 2 #[.string nm,.slice xA xn xc] 1 _ _ rfl rfl Aq rfl).rd (by simp[Jr]) Nb Aa ?_;intro A8 c8 wb8 Uk Ph Ul _));have hp:=iR.app (d:=(⟨nm,xA,xn,xc⟩,xfs)) rfl (by first|exact HC.out|exact HC.out.drewN _) HN.out Uk Ph Ul;rw[<- HX.out] at hp;obtain⟨A7,c7,e7,ho7,TF,hn7⟩:=hp;have ALs:=HK0.out.Ap TF AV;have y0:=ALs.cell 0;have y1:=ALs.cell 1;simp only[FV] at y0 y1;have ADb:=(HD.out.Es TF).row.ns (j:=k) (x:=⟨ES,dA,dn,dc⟩) HNS.out;obtain⟨ad8,hA8,ADb⟩:=ADb;injection hA8 with hA8;subst hA8;have x0:=ADb.c0;have x1:=ADb.c1;have LW:=AO TF;have HN7:=AO hn7;injection e7 with e71 e72 e73;rw[<- e72] at ho7;have HO7:=AO ho7;subst e71;subst e73;clear ALs ADb ho7 TF hn7 Uk Ph Ul e72;go_wp2;by_cases hnm:ES=nm
    ·(have hb:(ES.toList==nm.toList)=true:=by rw[<- H7];exact decide_eq_true hnm);have PZ:=HS2.out;rw[BU hnm,Ii] at PZ;have X8:=AO PZ;clear hnm PZ;go_quiet (fail);go_wp2;go_roundw
     case rel=>exact⟨k+1,Aa,by go_num,by rw[X8.out],by rw[X8.out];exact iR.of AV HO7.out (by first|exact LW.out|exact LW.out.drewN _|exact (LW.out.drewN _).drewN _) (by first|exact AZ.refl [] _|exact (AZ.refl [] _).drewN _|exact ((AZ.refl [] _).drewN _).drewN _) HN7.out⟩
     simp[intOf];omega
    (have hb:(ES.toList==nm.toList)=false:=by rw[<- H7];exact decide_eq_false hnm);have PZ:=HS2.out;rw[BL hnm] at PZ;have X8:=AO PZ;clear hnm PZ;go_quiet (fail);(go_wp2_with (at_builtin;refine D8 rfl _ _ rfl Qa rfl (HO7.out.Ap (by first|exact (AZ.refl [] _).alloc _|exact ((AZ.refl [] _).drewN _).alloc _|exact (((AZ.refl [] _).drewN _).drewN _).alloc _) AV) rfl (Own.TM _ 77 2 #[.string ES,.slice dA dn dc] 1 _ _ rfl rfl Aq rfl).rd (by simp[Jr]) Nb Aa ?_;intro A9 c9 wb9 sO sQ aB _));go_roundw
    case rel=>exact⟨k+1,Aa,by go_num,by rw[X8.out],by rw[X8.out];exact iR.app (d:=(⟨ES,dA,dn,dc⟩,IJ)) AV (by first|exact LW.out|exact LW.out.drewN _|exact (LW.out.drewN _).drewN _) HN7.out sO sQ aB⟩
    simp[intOf];omega
   |false=>
    have HS2:Hid (He x (ds.take (k+1))=(false,L++(if ES=nm then [] else [(⟨ES,dA,dn,dc⟩,IJ)]))):=AO (by rw[HST.out,hle];simp);clear HST;go_wp2;go_quiet (fail);go_wp2;by_cases hnm:ES=nm
    ·(have hb:(ES.toList==nm.toList)=true:=by rw[<- H7];exact decide_eq_true hnm);have PZ:=HS2.out;rw[BU hnm,Ii] at PZ;have X8:=AO PZ;clear hnm PZ;go_quiet (fail);go_wp2;go_roundw
     case rel=>exact⟨k+1,Aa,by go_num,by rw[X8.out],by rw[X8.out];exact iR.of (rfl) HO.out (by first|exact HC.out|exact HC.out.drewN _|exact (HC.out.drewN _).drewN _) (by first|exact AZ.refl [] _|exact (AZ.refl [] _).drewN _|exact ((AZ.refl [] _).drewN _).drewN _) HN.out⟩
     simp[intOf];omega
    (have hb:(ES.toList==nm.toList)=false:=by rw[<- H7];exact decide_eq_false hnm);have PZ:=HS2.out;rw[BL hnm] at PZ;have X8:=AO PZ;clear hnm PZ;go_quiet (fail);(go_wp2_with (at_builtin;refine D8 rfl _ _ rfl Qa rfl (HO.out.Ap (by first|exact (AZ.refl [] _).alloc _|exact ((AZ.refl [] _).drewN _).alloc _|exact (((AZ.refl [] _).drewN _).drewN _).alloc _) AV) rfl (Own.TM _ 77 2 #[.string ES,.slice dA dn dc] 1 _ _ rfl rfl Aq rfl).rd (by simp[Jr]) Nb Aa ?_;intro A9 c9 wb9 sO sQ aB _));go_roundw
    case rel=>exact⟨k+1,Aa,by go_num,by rw[X8.out],by rw[X8.out];exact iR.app (d:=(⟨ES,dA,dn,dc⟩,IJ)) (rfl) (by first|exact HC.out|exact HC.out.drewN _|exact (HC.out.drewN _).drewN _) HN.out sO sQ aB⟩
    simp[intOf];omega
 (obtain rfl:k=n:=by omega);have h1:ds.take k=ds:=Ea (by have:=HL.out;omega);rw[h1] at HO hlw;rw[h1];have HWI:Hid (wiM x ds=if (He x ds).1=true then (He x ds).2 else (He x ds).2++[x]):=AO rfl;obtain⟨s0,hs0⟩: ∃s0,He x ds=s0:=⟨_,rfl⟩;rw[hs0] at HWI HO hlw;rw[hs0];obtain⟨dnf,L⟩:=s0;clear hs0;simp only at HWI HO hlw
 cases dnf with
 |true=>
  go_wp2;go_ret;rw[HWI.out,BU trivial];exact⟨_,_,rfl,HO.out,TC.out.Ah HC.out,λy hy=>Cj TC.out.size (HN.out y hy)⟩
 |false=>
  (go_wp2_with (at_builtin;refine D8 rfl _ _ rfl Qa rfl (HO.out.Ap (by first|exact (AZ.refl [] _).alloc _|exact ((AZ.refl [] _).drewN _).alloc _|exact (((AZ.refl [] _).drewN _).drewN _).alloc _) AV) rfl (Own.TM _ 77 2 #[.string nm,.slice xA xn xc] 1 _ _ rfl rfl Aq rfl).rd (by simp[Jr]) Nb Aa ?_;intro A8 c8 wb8 Uk Ph Ul _));go_ret;rw[HWI.out,BL AV];have hp:=iR.app (d:=(⟨nm,xA,xn,xc⟩,xfs)) rfl HC.out HN.out Uk Ph Ul;rw[<- HX.out] at hp;obtain⟨A7,c7,e7,ho7,TF,hn7⟩:=hp;exact⟨A7,c7,congrArg Ending.returned e7,ho7,TC.out.Ah TF,λy hy=>Cj TC.out.size (hn7 y hy)⟩
section
variable {x y:FM}{L:List FM}{xs:List AQ}{c g i k n sz:Nat}{e:Am}{w:AL}
theorem AA0(a b:ByteArray)(w:AL):(binOp .lss 9 (.string a) (.string b)).run Ae w=.ok (.bool (Jz a b)) w:=by
 simp[binOp,Op.stringOp,Jz]
theorem Own.APe(h:Own w e sz (AA ⟨g,0,AB⟩) n c xs)(q:Nat)(u:AQ):Own (w.setCell ⟨g,q,AB⟩ u) e sz (AA ⟨g,0,AB⟩) n c (xs.set q u):=by
 rcases h.form with ⟨h0,_⟩|⟨g',cur,hA,hb,hn,hm,hs,ht⟩;(cases h0);injection hA with hA;injection hA with hA;subst hA;refine⟨by rw[lJ];exact h.1,.inr ⟨g,c,_,rfl,DW _,hb.FH q u,hn,hm,by rw[yK];exact hs,?_⟩⟩;rw[<- ht,yL,yM]
theorem Own.fz(h:Own w e sz (AA ⟨g,0,AB⟩) n c xs)(q:Nat):w.frozen? ⟨g,q,AB⟩=false:=by
 rcases h.form with ⟨h0,_⟩|⟨g',cur,hA,hb,_⟩;(cases h0);injection hA with hA;injection hA with hA;subst hA;exact hb.frozen q
theorem Own.ALt{xs:List Iz}(h:Own w e 2 (AA ⟨g,0,AB⟩) n c (Hl xs)){x y:Iz}(hk:xs[k]? =AA x):
  Own ((w.setCell ⟨g,k*2,AB⟩ (.string y.nm)).setCell ⟨g,k*2+1,AB⟩ (.slice y.A y.n y.c)) e 2 (AA ⟨g,0,AB⟩) n c (Hl (xs.set k y)):=by
 have h1:=(h.APe (k*2) (.string y.nm)).APe (k*2+1) (.slice y.A y.n y.c);have e1:=ACb xs k 0 Aq x ⟨y.nm,x.A,x.n,x.c⟩ (.string y.nm) hk rfl;have e2:=ACb (xs.set k ⟨y.nm,x.A,x.n,x.c⟩) k 1 Aq ⟨y.nm,x.A,x.n,x.c⟩ y (.slice y.A y.n y.c) (lS (CP.1 hk).1) rfl;rw[Nat.add_zero] at e1;rw[e1,e2,List.set_set] at h1;exact h1
theorem Own.ns2{xs:List Iz}(h:Own w e 2 (AA ⟨g,0,AB⟩) n c (Hl xs)){x:Iz}(hk:xs[k]? =AA x):w.cell? ⟨g,k*2,AB⟩=AA (.string x.nm)/\w.cell? ⟨g,k*2+1,AB⟩=AA (.slice x.A x.n x.c):=by
 obtain⟨ad,hA,hc⟩:=h.rd.ns hk;injection hA with hA;subst hA;have h0:=hc.c0;have h1:=hc.c1;simp only[add_zero',Ky] at h0 h1;exact⟨h0,h1⟩
def leF (x y:FM):Prop:=Jz y.1.nm x.1.nm=false
theorem AFk{z:FM}(h:leF x y)(k:leF y z):leF x z:=by
 unfold leF at*
 by_cases e:z.1.nm=x.1.nm;rw[e];exact LP _
 cases hz:Jz z.1.nm x.1.nm with
 |false=>rfl|true=>
  exfalso;by_cases e1:y.1.nm=z.1.nm;rw[e1] at h;rw[h] at hz;cases hz;have:=lh (H8 e1) k;rw[PT this hz] at h;cases h
def V5 (L:List FM) (i k:Nat):Prop:=∀(a b:Nat) (x y:FM),a<b->b<=i->b≠k->L[a]? =AA x->L[b]? =AA y->leF x y
def iT (L:List FM) (i:Nat):Prop:=∀(a b:Nat) (x y:FM),a<b->b<i->L[a]? =AA x->L[b]? =AA y->leF x y
theorem iT.ins(h:iT L i):V5 L i i:=λa b x y h1 h2 h3 hx hy=>h a b x y h1 Aa hx hy
theorem V5.ASV(h:V5 L i 0):iT L (i+1):=λa b x y h1 h2 hx hy=>h a b x y h1 Aa Aa hx hy
theorem V5.done(h:V5 L i (k+1))(hx:L[k]? =AA x)(hy:L[k+1]? =AA y)(hle:leF x y):iT L (i+1):=λa b u v h1 h2 hu hv=>by
 by_cases hb:b=k+1
 ·subst hb;rw[hy] at hv;injection hv with hv;subst hv;by_cases ha:a=k
  ·subst ha;rw[hx] at hu;injection hu with hu;subst hu;exact hle
  exact AFk (h a k u x Aa Aa Aa hu hx) hle
 exact h a b u v h1 Aa hb hu hv
theorem AIZ(hx:L[k]? =AA x)(hy:L[k+1]? =AA y)(a:Nat):((L.set (k+1) x).set k y)[a]? =if a=k then AA y else if a=k+1 then AA x else L[a]? :=by
 have h1:=(CP.1 hx).1;have h2:=(CP.1 hy).1;by_cases ha:a=k;subst ha;rw[BU rfl,lS (by rw[lJ];exact h1)];rw[BL ha,lT (λe=>ha e.symm)];by_cases hb:a=k+1;subst hb;rw[BU rfl,lS h2];rw[BL hb,lT (λe=>hb e.symm)]
theorem V5.step{L:List FM}{i k:Nat}(h:V5 L i (k+1))(hk:k+1<=i){x y:FM}(hx:L[k]? =AA x)(hy:L[k+1]? =AA y)(hlt:Jz y.1.nm x.1.nm=true):V5 ((L.set (k+1) x).set k y) i k:=λa b u v h1 h2 h3 hu hv=>by
 rw[AIZ hx hy] at hu hv
 have hyx:leF y x:=by
  unfold leF
  cases hq:Jz x.1.nm y.1.nm with|false=>rfl|true=>have:=PT hlt hq;rw[LP] at this;cases this
 rw[BL h3] at hv;by_cases hb:b=k+1
 ·rw[BU hb] at hv;injection hv with hv;subst hv;by_cases ha:a=k
  ·rw[BU ha] at hu;injection hu with hu;subst hu;exact hyx
  rw[BL ha,BL Aa] at hu;exact h a k u x Aa Aa Aa hu hx
 rw[BL hb] at hv;by_cases ha:a=k
 ·rw[BU ha] at hu;injection hu with hu;subst hu;exact h (k+1) b y v Aa h2 hb hy hv
 rw[BL ha] at hu;by_cases ha1:a=k+1
 ·rw[BU ha1] at hu;injection hu with hu;subst hu;exact h k b x v Aa h2 hb hx hv
 rw[BL ha1] at hu;exact h a b u v h1 h2 hb hu hv
theorem swap_perm(hx:L[k]? =AA x)(hy:L[k+1]? =AA y):((L.set (k+1) x).set k y).Perm L:=by
 have h1:=(CP.1 hx).1;have h2:=(CP.1 hy).1;have e1:=(CP.1 hx).2;have e2:=(CP.1 hy).2;rw[<- e1,<- e2];exact List.set_set_perm h2 h1
end
def ASW (w:AL) (fs:List (ByteArray×List Int)) (e:Fe) (w':AL):Prop:=
 ∃A c L,e=.returned (.slice A L.length c)/\EU w' A L.length c L/\(Ai L).Perm fs/\iT L L.length/\AZ [] w w'/\∀k∈bo A++Ep L,w.heap.size<=k
theorem AA1(A:Option Ag)(n c:Nat)(fs:List FM)(w:AL)(h:EU w A n c fs)(hn:n<=1073741824)(hfn: ∀x∈fs,x.1.n<=1073741824):
  Au Ae 34 #[.slice A n c] w (ASW w (Ai fs)):=by
 (have hl:fs.length=n:=by have:=h.row.KF;simpa[Dq] using this);(have hfl:(Ai fs).length=n:=by unfold Ai;rw[DY];exact hl);have iC:=AO (X7 A n c fs w h hn hfn);have ug:= @AKY;have hls:=AA0;have dR:=AO hfl;clear h hl hfl hfn;go_enter ANv,Tryz.ntmps34;(go_wp2_with fail);refine iC.out.mono ?_;rintro e w1 ⟨A3,c3,gs,rfl,hO,hv,hc1,hn1⟩;rw[dR.out];rw[dR.out] at hO;have HO:=AO hO;have HV:=AO hv;have CZ:=AO hc1;have uz:=AO hn1;(have hgl:gs.length=n:=by have:=hO.rd.row.KF;simpa[Dq] using this);have HGL:=AO hgl;clear hO hv hc1 hn1 hgl iC;go_wp2;go_loopw [4] (λi wr=>∃(k:Nat) (L:List FM),k<=n/\i=.int .i64 ((k:Int)+1)/\L.Perm gs/\Own wr 64 2 A3 n c3 (Hl (Dq L))/\AZ (bo A3) w1 wr/\iT L (k+1)) (λi _=>n+1 - (intOf i).toNat)
 case atStart=>exact⟨0,gs,DW _,rfl,.refl _,HO.out.row,.refl _ _,λa b x y h1 h2 _ _=>by omega⟩
 obtain⟨k,L,hk,rfl,hP,ho,hch,hst⟩:=hrel;have HP:=AO hP;have HOW:=AO ho;have DJ:=AO hch;have HST:=AO hst;clear hP ho hch hst;by_cases hlt:k+1<n
 ·have hlt':(k:Int)+1<n:=by omega
  obtain⟨g,rfl⟩: ∃g,A3=AA ⟨g,0,AB⟩:=by
   rcases HOW.out.form with ⟨_,h0,_⟩|⟨g,cur,hA,_⟩;omega;exact⟨g,hA⟩
  go_wp2;go_loopw [5] (λq wr=>∃(j:Nat) (L:List FM),j<=k+1/\q=.int .i64 (j:Int)/\L.Perm gs/\Own wr 64 2 (AA ⟨g,0,AB⟩) n c3 (Hl (Dq L))/\AZ [g] w1 wr/\V5 L (k+1) j) (λq _=>(intOf q).toNat)
  case atStart=>exact⟨k+1,L,Bd _,by go_num,HP.out,HOW.out,DJ.out,HST.out.ins⟩
  obtain⟨j,L2,hj,rfl,hP2,ho2,Xw,hst2⟩:=hrel;have HP2:=AO hP2;have qL:=AO ho2;have Qd:=AO Xw;have ADO:=AO hst2;(have hl2:L2.length=n:=by rw[hP2.length_eq];exact HGL.out);clear hP2 ho2 Xw hst2
  cases j with
  |zero=>
   (have hz:decide (((0:Nat):Int)>0)=false:=by decide);go_wp2;go_quiet (fail);go_wp2;go_roundw
   case rel=>exact⟨k+1,L2,Aa,by go_num,HP2.out,qL.out.Ap ((AZ.refl [] wr).drewN _) AV,Qd.out.Ah ((AZ.refl [] wr).drewN _),ADO.out.ASV⟩
   simp[intOf];omega
  |succ j=>
   obtain⟨x,hx⟩: ∃x,L2[j]? =AA x:=⟨_,Bo Aa⟩;obtain⟨y,hy⟩: ∃y,L2[j+1]? =AA y:=⟨_,Bo Aa⟩;(have uS:(Dq L2)[j]? =AA x.1:=by unfold Dq;rw[Ba,hx];rfl);(have hyn:(Dq L2)[j+1]? =AA y.1:=by unfold Dq;rw[Ba,hy];rfl);obtain⟨x0,x1⟩:=qL.out.ns2 uS;obtain⟨y0,y1⟩:=qL.out.ns2 hyn;have HX:=AO hx;have HY:=AO hy;have HXN:=AO uS;have HYN:=AO hyn;(have hz:decide (((j+1:Nat):Int)>0)=true:=by simp);clear hx hy uS hyn
   cases hle:Jz y.1.nm x.1.nm with
   |false=>
    have HLE:=AO hle;unfold Jz at hle;go_wp2;go_quiet (fail);go_wp2;go_roundw
    case rel=>exact⟨k+1,L2,Aa,by go_num,HP2.out,qL.out.Ap ((AZ.refl [] wr).drewN _) AV,Qd.out.Ah ((AZ.refl [] wr).drewN _),ADO.out.done HX.out HY.out HLE.out⟩
    simp[intOf];omega
   |true=>
    have HLE:=AO hle;unfold Jz at hle;go_wp2;go_quiet (fail);rename_i nq;have hcq:AZ [] wr (wr.drewN nq):=(AZ.refl [] wr).drewN nq;have hoq:=qL.out.Ap hcq AV
    generalize wr.drewN nq=wq at*
    obtain⟨W1,hW1⟩: ∃W1,wq.alloc (.cells #[.string y.1.nm,.slice y.1.A y.1.n y.1.c] 64)=W1:=⟨_,rfl⟩;(have hc1:AZ [] wq W1:=by rw[<- hW1];exact (AZ.refl [] wq).alloc _);(have hbx:Bv W1 wq.heap.size 64 #[.string y.1.nm,.slice y.1.A y.1.n y.1.c]:=by rw[<- hW1];exact .new _ _ _);have ho1:=hoq.Ap hc1 AV;obtain⟨W3,hW3⟩: ∃W3,(W1.setCell ⟨g,(j+1)*2,AB⟩ (.string x.1.nm)).setCell ⟨g,(j+1)*2+1,AB⟩ (.slice x.1.A x.1.n x.1.c)=W3:=⟨_,rfl⟩;have ho3:=ho1.ALt (y:=x.1) HYN.out;rw[hW3] at ho3;(have hgx:g≠wq.heap.size:=by have:=hoq.lt g AV;omega);(have hc3:AZ [g] W1 W3:=by rw[<- hW3];exact (((AZ.refl [g] W1).setCell (.inl AV) _).setCell (.inl AV) _));have ALu:=hbx.Ap hc3 (by simp;omega);obtain⟨xx0,xx1⟩:=hoq.ns2 HXN.out;obtain⟨yy0,yy1⟩:=hoq.ns2 HYN.out;obtain⟨xw0,xw1⟩:=ho1.ns2 HXN.out;obtain⟨yw0,yw1⟩:=ho1.ns2 HYN.out;have f0:=ho1.fz ((j+1)*2);have f1:=ho1.fz ((j+1)*2+1);(have ALv:((Dq L2).set (j+1) x.1)[j]? =AA x.1:=by rw[lT Aa];exact HXN.out);obtain⟨xv0,xv1⟩:=ho3.ns2 ALv;have g0:=ho3.fz (j*2);have g1:=ho3.fz (j*2+1);have b0:=ALu.cell 0;have b1:=ALu.cell 1;simp only[FV] at b0 b1;have ho5:=ho3.ALt (y:=y.1) ALv;have hc5:AZ [g] W3 ((W3.setCell ⟨g,j*2,AB⟩ (.string y.1.nm)).setCell ⟨g,j*2+1,AB⟩ (.slice y.1.A y.1.n y.1.c)):=((AZ.refl [g] W3).setCell (.inl AV) _).setCell (.inl AV) _;have kz:=AO ho5;have TE:=AO (((Qd.out.Ah (hcq.Ah hc1)).trans hc3 (λx hx=>.inl hx)).trans hc5 (λx hx=>.inl hx));clear hcq hoq hc1 hbx ho1 ho3 hc3 ALu ALv ho5 hc5 x0 x1 y0 y1;go_wp2;go_roundw
    case rel=>
     refine⟨j,(L2.set (j+1) x).set j y,Aa,by go_num,(swap_perm HX.out HY.out).trans HP2.out,?_,TE.out,ADO.out.step hj HX.out HY.out HLE.out⟩;(have:Dq ((L2.set (j+1) x).set j y)=((Dq L2).set (j+1) x.1).set j y.1:=by unfold Dq;rw[VO,VO]);rw[this];exact kz.out
    simp[intOf]
 go_wp2;go_ret;(have hln:L.length=n:=by rw[HP.out.length_eq];exact HGL.out);refine⟨A3,c3,L,by rw[hln];rfl,?_,?_,λa b x y h1 h2=>HST.out a b x y h1 Aa,?_,?_⟩
 ·rw[hln];refine⟨HOW.out.rd,λf hf=>?_⟩;have hf':=HP.out.mem_iff.1 hf;exact ((HO.out.dat f hf').Ap DJ.out ((HO.out.dat f hf').own_ne HO.out.row Aq)).rd
 rw[<- HV.out];exact HP.out.map _;exact CZ.out.trans DJ.out (λx hx=>.inr (uz.out x (Bj.2 (.inl hx))));intro x hx;refine uz.out x ?_;rcases Bj.1 hx with h|h;exact Bj.2 (.inl h);obtain⟨f,hf,hx⟩:=GG.1 h;exact Bj.2 (.inr (GG.2 ⟨f,HP.out.mem_iff.1 hf,hx⟩))
def Inn (w:AL) (L:List Nat) (vs:List AQ) (ws:List (List Int)):Prop:=
 vs.length=ws.length/\∀(i:Nat) (x:List Int),ws[i]? =AA x->∃A c,vs[i]? =AA (.slice A x.length c)/\Own w 5 1 A x.length c (bv x)/\∀k∈bo A,k∈L
def Rsp (w:AL) (g:Nat) (L:List Nat) (base:List Int) (ws:List (List Int)):Prop:=
 ∃A n c W m d vs,Bv w g 149 #[.slice A n c,.slice W m d]/\Own w 5 1 A n c (bv base)/\Own w 62 1 W m d vs/\Inn w L vs ws/\
  g∈L/\(∀k∈bo A,k∈L)/\(∀k∈bo W,k∈L)/\(∀k∈L,k<w.heap.size)/\n=base.length/\m=ws.length
def ANM (w:AL) (zs:List Int) (e:Fe) (w':AL):Prop:=
 ∃g L,e=.returned (.pointer (AA ⟨g,0,AB⟩))/\Rsp w' g L zs []/\AZ [] w w'/\∀k∈L,w.heap.size<=k
theorem AIa(A:Option Ag)(n c:Nat)(zs:List Int)(w:AL)(hn:n<=1073741824)(hrd:Rd w 1 A n c (bv zs)):
  Au Ae 31 #[.slice A n c] w (ANM w zs):=by
 (have hl:zs.length=n:=by have:=hrd.1;simp at this;omega);have HL:=AO hl;clear hl;have k53:= @AOn;go_enter ANs,Tryz.ntmps31;(go_wp2_with (go_at_call 53;refine (wZ A n c zs _ hn hrd).mono ?_;rintro e w1 ⟨A1,c1,rfl,hown,EI,hnew⟩));go_ret;have hsz:=EI.size;refine⟨w1.heap.size,w1.heap.size::bo A1,rfl,⟨A1,n,c1,AB,0,0,[],Bv.new w1 149 _,hown.Ap ((AZ.refl [] w1).alloc _) AV,Own.nil _ _ _,⟨rfl,λi x hx=>by simp at hx⟩,AV,λk hk=>by simp[hk],AV,?_,HL.out.symm,rfl⟩,EI.alloc _,?_⟩
 ·intro k hk;simp at hk⊢;rcases hk with rfl|hk;omega;have:=hown.lt k hk;omega
 intro k hk;simp at hk;rcases hk with rfl|hk;omega;exact hnew k hk
def pv8 (x:Nat):AQ:=.pointer (AA ⟨x,0,AB⟩)
def nmc (q:ByteArray×Nat):List AQ:=[.string q.1,.int .i64 (q.2:Nat)]
def iU (xs:KH):List AQ:=xs.flatMap nmc
theorem ADc(a b:KH):iU (a++b)=iU a++iU b:=by simp[iU]
theorem ADd(xs:KH): ∀u∈iU xs,u.oneCell'=true:=by
 intro u hu;obtain⟨x,_,h⟩:=GG.1 hu;simp only[nmc,BF,yT,or_false] at h;rcases h with rfl|rfl<;>rfl
abbrev RF:=Iz×KH
def ZL (rs:List RF):List Iz:=rs.map (·.1)
def jw (rs:List RF):Tr:=rs.map λr=>(r.1.nm,r.2)
def xy (rs:List RF):List Nat:=rs.flatMap λr=>bo r.1.A
structure AA2 (w:AL) (A:Option Ag) (n c:Nat) (rs:List RF):Prop where
 row:Rd w 2 A n c (Hl (ZL rs))
 ET: ∀r∈rs,Rd w 2 r.1.A r.1.n r.1.c (iU r.2)
theorem AA2.len{w:AL}{A:Option Ag}{n c:Nat}{rs:List RF}(h:AA2 w A n c rs):rs.length=n:=by have:=h.row.KF;simpa[ZL] using this
theorem ALw{rs:List RF}{i:Nat}{r:RF}(h:rs[i]? =AA r):(ZL rs)[i]? =AA r.1:=by unfold ZL;rw[Ba,h];rfl
theorem x8:Ety Ae 78 86 2 40 (.agg #[.string Ku,.slice AB 0 0]):=.mk' AT6 Az rfl Aq
theorem sS:Ety Ae 84 88 2 24 (.agg #[.string Ku,.int .i64 0]):=.mk' AT9 Az rfl Aq
theorem ADe:Ety Ae 80 89 1 8 (.pointer AB):=.mk' AT7 Az rfl Aq
def ASX (w:AL) (T:Tr) (n:Nat) (e:Fe) (w':AL):Prop:=
 ∃A c rs,e=.returned (.slice A n c)/\AA2 w' A n c rs/\jw rs=T/\AZ [] w w'/\∀k∈bo A++xy rs,w.heap.size<=k/\k<w'.heap.size
theorem AFl(rs:List RF)(r:RF):jw (rs++[r])=jw rs++[(r.1.nm,r.2)]:=by simp[jw]
theorem AFm(rs:List RF)(r:RF):xy (rs++[r])=xy rs++bo r.1.A:=by simp[xy]
theorem sU(rs:List RF)(r:RF):ZL (rs++[r])=ZL rs++[r.1]:=by simp[ZL]
theorem AA3(A:Option Ag)(n c:Nat)(rs:List RF)(w:AL)(ha:AA2 w A n c rs)(hn:n<=1073741824)(hfn: ∀r∈rs,r.1.n<=1073741824):
  Au Ae 32 #[.slice A n c] w (ASX w (jw rs) n):=by
 have hlx:=ha.len;have HA:=AO ha;have Ug:=AO hlx;have Yx:=AO hfn;clear ha hlx hfn;go_enter ANt,Tryz.ntmps32;go_wp2;go_loopw [3,4] (λo q wr=>∃(i:Nat) (A':Option Ag) (c':Nat) (zs:List RF),i<=n/\q=.int .i64 i/\o=.slice A' i c'/\Own wr 86 2 A' i c' (Hl (ZL zs))/\(∀z∈zs,Own wr 88 2 z.1.A z.1.n z.1.c (iU z.2))/\jw zs=jw (rs.take i)/\AZ [] w wr/\∀k∈bo A'++xy zs,w.heap.size<=k) (λ_ q _=>n - (intOf q).toNat)
 case atStart=>exact⟨0,_,0,[],DW _,rfl,rfl,Own.lit w 86 2 #[] 0 Aq rfl,AV,rfl,(AZ.refl _ _).alloc _,by simp[xy]⟩
 obtain⟨i,A',c',zs,hi,rfl,rfl,hz,hzf,hval,hch,hnw⟩:=hrel;have HZ:=AO hz;have HZF:=AO hzf;have Xu:=AO hval;have DJ:=AO hch;have NH:=AO hnw;clear hz hzf hval hch hnw;by_cases hlt:i<n
 ·(have hlt':(i:Int)<n:=by omega);obtain⟨x,hx⟩: ∃x,rs[i]? =AA x:=⟨_,Bo (by have:=Ug.out;omega)⟩;obtain⟨ad,rfl,hat⟩:=HA.out.row.ns (ALw hx)
  have rQ:Hid (ad.block∉bo A'):=AO (λhm=>by
   have h1:=UT w _ hat.c0;rw[add_block] at h1;have h2:=NH.out _ (F5 _ hm)
   omega)
  have UK:=hat.Ap DJ.out BH;have x0:=UK.c0;have x1:=UK.c1;have HX:=AO hx;have HF:=AO ((HA.out.ET x (Bi hx)).Ap DJ.out GM);have uS:=Yx.out x (Bi hx);clear hx hat UK;go_wp2;refine Ew (S:=λw'=>AZ (bo A') wr w') Az ((AZ.refl _ _).drew) (λhHeld=>?_);refine tk 0 ?_;refine tk 1 ?_;refine tk 2 ?_;refine tk 3 ?_;refine tk 4 ?_;refine F9 5 (λw' hSw=>hSw.cell x0 (λh=>rQ.out (by simpa[add_block] using h))) ?_;refine tk 7 ?_;refine tk 8 ?_;refine tk 9 ?_;refine tk 10 ?_;refine F9 11 (λw' hSw=>hSw.cell x1 (λh=>rQ.out (by simpa[add_block] using h))) ?_;refine EM 6 λK hK=>?_;go_simp;refine hK.out _ _ (hHeld.alloc _) (λhHeld=>?_);(try simp only[BG,Bg]);clear hK K;refine EM 12 λK hK=>?_;refine JV rfl _ _ rfl sS rfl (Own.lit wr.drew 88 2 #[] 0 Aq rfl) rfl (HF.out.Ap (((AZ.refl [] wr).drew).alloc (.cells #[] 88)) GM) (ADd _) Nb Aa ?_;intro B2 d2 w5 hown5 qf qg _;have kz:Hid (Own w5 88 2 B2 x.1.n d2 (iU x.2)):=AO (by simpa using hown5);have TE:Hid (AZ [] wr w5):=AO (((((AZ.refl [] wr).drew).alloc (.cells #[] 88))).trans qf (λx hx=>by simp at hx;subst hx;right;simp));have HN5:Hid (∀k∈bo B2,wr.heap.size<=k):=AO (λk hk=>by rcases qg k hk with h|h;simp at h;omega;have:=h.1;simp at this;omega);have hH5:=(AZ.refl (bo A') wr).trans (TE.out.nil (bo A')) (λx hx=>.inl hx);have HOW:Hid (Own (w5.alloc (.cells #[.string x.1.nm,.slice B2 x.1.n d2] 86)) 86 2 A' i c' (Hl (ZL zs))):=AO (HZ.out.Ap (TE.out.alloc _) GM);clear hown5 qf qg;refine hK.out _ _ (hH5) (λhHeld=>?_);(try simp only[BG,Bg]);clear hK K;refine tk 13 ?_;refine EM 14 λK hK=>?_;go_simp;refine hK.out _ _ (hHeld.alloc _) (λhHeld=>?_);(try simp only[BG,Bg]);clear hK K;refine EM 15 λK hK=>?_;refine JV rfl _ _ rfl x8 rfl HOW.out rfl (Own.lit w5 86 2 #[.string x.1.nm,.slice B2 x.1.n d2] 1 Aq rfl).rd (U9 [⟨x.1.nm,B2,x.1.n,d2⟩]) Nb Aa ?_;intro A2 c2 w6 hown6 II LV _;have qm:=AO hown6;have JF:=AO II;have Xv:=AO LV;have hH6:=hHeld.trans II (λx hx=>.inl hx);clear hown6 II LV;refine hK.out _ _ (hH6) (λhHeld=>?_);(try simp only[BG,Bg]);clear hK K;refine tk 16 ?_;refine Ej Az ?_ _;(try simp only[BG,Bg]);clear hHeld hH5 hH6 x0 x1;go_wp2;go_roundw
  case rel=>
   have hzl: ∀z∈zs,∀k∈bo z.1.A,k<wr.heap.size:=λz hz k hk=>(HZF.out z hz).lt k hk;have hcl:AZ [] wr (w5.alloc (.cells #[.string x.1.nm,.slice B2 x.1.n d2] 86)):=TE.out.alloc _;have hAl:=HZ.out.lt;refine⟨i+1,A2,c2,zs++[(⟨x.1.nm,B2,x.1.n,d2⟩,x.2)],Aa,by go_num,rfl,?_,λz hz=>?_,?_,(DJ.out.Ah hcl).trans JF.out (λx hx=>.inr (NH.out x (F5 _ hx))),λk hk=>?_⟩
   ·have:=qm.out;rw[sU,N9];exact this
   ·rcases Bj.1 hz with hz|hz;exact ((HZF.out z hz).Ap hcl GM).Ap JF.out ((HZF.out z hz).own_ne HZ.out Aq);simp only[CB] at hz;subst hz;exact (kz.out.Ap ((AZ.refl [] w5).alloc _) GM).Ap JF.out (λk hk hm=>by have h1:=HN5.out k hk;have h2:=hAl k hm;omega)
   ·rw[AFl,Xu.out];unfold jw;rw[Jg,Jg,take_snoc _ i _ (show (rs.map _)[i]? =AA _ by rw[Ba,HX.out];rfl)]
   rw[AFm] at hk;have h3:=DJ.out.size;rcases Bj.1 hk with hk|hk
   ·rcases Xv.out k hk with h|h;exact NH.out k (F5 _ h);have h4:=TE.out.size;simp at h;omega
   rcases Bj.1 hk with hk|hk;exact NH.out k (GN _ hk);have:=HN5.out k hk;omega
  simp[intOf];omega
 (obtain rfl:i=n:=by omega);go_wp2;go_ret
 refine⟨A',c',zs,rfl,⟨HZ.out.rd,λz hz=>(HZF.out z hz).rd⟩,?_,DJ.out,λk hk=>⟨NH.out k hk,by
  rcases Bj.1 hk with hk|hk;exact HZ.out.lt k hk;obtain⟨z,hz,hk⟩:=GG.1 hk
  exact (HZF.out z hz).lt k hk⟩⟩
 rw[Xu.out,Ea (by rw[Ug.out];exact Bd _)]
section
variable {f:Bool}{last name:ByteArray}{i:Nat}
theorem ADf(h:CO name=true):Ic f last name=if (!f && Vs name last)=true then 6 else 0:=by
 unfold Ic;rw[BL (by simp[h])];cases f<;>simp
theorem ADg(h:CO name=false):Ic f last name=81:=by unfold Ic;rw[BU h]
theorem x9{α:Type}{l:List (ByteArray×α)}{x:ByteArray×α}(h:l[i]? =AA x):Gh noS (l.take (i+1))=x.1:=by rw[take_snoc _ _ _ h,Xt]
theorem ALx{D:Eg}{d:ByteArray×List (ByteArray×List Int)}(h:D[i]? =AA d):Hu (D.take i)+d.2.length<=E5 D:=by
 have h1:Hu (D.take (i+1))<=Hu D:=by
  unfold Hu
  conv=>rhs;rw[<- YF (i+1) D,FK,YI]
  omega
 rw[take_snoc _ _ _ h,qh] at h1;have:=xO D;omega
structure RoW (w:AL) (b:Nat) (sA:Option Ag) (i sc:Nat) (rs:List RF) (fA:Option Ag) (m fc:Nat) (q a:Int):Prop where
 blk:Bv w b 83 #[.slice sA i sc,.slice AB 0 0,.slice AB 0 0,.slice fA m fc,.slice AB 0 0,.int .i64 q,.int .i64 a,.int .i64 0]
 row:Own w 86 2 sA i sc (Hl (ZL rs))
 ET: ∀r∈rs,Own w 88 2 r.1.A r.1.n r.1.c (iU r.2)/\r.1.n<=1073741824
 Uh: ∃sg:List Nat,Own w 89 1 fA m fc (sg.map pv8)
theorem RoW.Ap{w w':AL}{b:Nat}{sA:Option Ag}{i sc:Nat}{rs:List RF}{fA:Option Ag}{m fc:Nat}{q a:Int}{M:List Nat}(h:RoW w b sA i sc rs fA m fc q a)(hc:AZ M w w')
  (h1:b∉M) (h2: ∀k∈bo sA,k∉M) (h3: ∀k∈bo fA,k∉M) (h4: ∀r∈rs,∀k∈bo r.1.A,k∉M):RoW w' b sA i sc rs fA m fc q a:=
 ⟨h.blk.Ap hc h1,h.row.Ap hc h2,λr hr=>⟨(h.ET r hr).1.Ap hc (h4 r hr),(h.ET r hr).2⟩,by
  obtain⟨sg,hs⟩:=h.Uh
  exact⟨sg,hs.Ap hc h3⟩⟩
theorem RoW.Es{w w':AL}{b:Nat}{sA:Option Ag}{sc:Nat}{rs:List RF}{fA:Option Ag}{m fc:Nat}{q a:Int}(h:RoW w b sA i sc rs fA m fc q a)(hc:AZ [] w w'):RoW w' b sA i sc rs fA m fc q a:=
 h.Ap hc AV AV AV AV
def AUt (w:AL) (D:Eg) (q:Int) (e:Fe) (w':AL):Prop:=∃vp,e=.returned (.tuple #[vp,.int .i64 (Eo D q)])/\AZ [] w w'
theorem AIb(w:AL)(A:Option Ag)(n c:Nat)(ds:List DM)(BK stop:Int)(h:F6 w A n c ds)(hn:n<=1073741824)(hb:E5 (BD ds)<=1073741824):
  Au Ae 9 #[.slice A n c,.int .i64 BK,.int .i64 stop] w (AUt w (BD ds) BK):=by
 have HD:=AO h;have HB:=AO hb;clear h hb;have k10:= @AOd;have k31:= @ATN;have k32:= @ATO;go_enter VF9,Tryz.ntmps9;by_cases hq:BK<0
 ·have HE:Hid (Eo (BD ds) BK=2):=AO (by unfold Eo;rw[BU hq]);go_wp2
  go_ret2
  exact⟨_,by rw[HE.out];rfl,AZ.refl _ _⟩
 have HE:Hid (Eo (BD ds) BK=Gv true noS (BD ds)):=AO (by unfold Eo;rw[BL hq]);obtain⟨b,hbn⟩: ∃b,w.heap.size=b:=⟨_,rfl⟩;obtain⟨W,hW⟩: ∃W,w.alloc (.cells #[.slice AB 0 0,.slice AB 0 0,.slice AB 0 0,.slice AB 0 0,.slice AB 0 0,.int .i64 BK,.int .i64 stop,.int .i64 0] 83)=W:=⟨_,rfl⟩;have NI:Hid (AZ [] w W):=AO (by rw[<- hW];exact (AZ.refl [] w).alloc _);have HRO:Hid (RoW W b AB 0 0 [] AB 0 0 BK stop):=AO ⟨by rw[<- hW,<- hbn];exact Bv.new w _ _,Own.nil _ _ _,AV,[],Own.nil _ _ _⟩;have HBN:Hid (w.heap.size<=b):=AO Aa;go_wp2
 go_loopw [9] (λs9 wr=>∃(i:Nat) (sA:Option Ag) (sc:Nat) (rs:List RF) (fA:Option Ag) (fc:Nat),i<=n/\s9=.int .i64 i/\Gv true noS ((BD ds).take i)=0/\
  RoW wr b sA i sc rs fA (Hu ((BD ds).take i)) fc BK stop/\(∀x∈bo sA++bo fA,w.heap.size<=x)/\AZ [] w wr) (λs9 _=>n - (intOf s9).toNat)
 case atStart=>exact⟨0,AB,0,[],AB,0,DW _,rfl,rfl,HRO.out,AV,NI.out⟩
 obtain⟨i,sA,sc,rs,fA,fc,hin,rfl,hpre,hro,hnew,hch⟩:=hrel;have ZG:=AO hpre;have yB:=AO hro;have UI:=AO hnew;have DJ:=AO hch;clear hpre hro hnew hch HRO NI;by_cases hlt:i<n
 ·(have hlt':(i:Int)<n:=by omega);obtain⟨d,hd⟩: ∃d,ds[i]? =AA d:=⟨_,Bo (by have:=HD.out.row.KF;simp[D9] at this;omega)⟩;obtain⟨⟨ES,dA,dn,dc⟩,IJ⟩:=d;(have hdv:(BD ds)[i]? =AA (ES,Ai IJ):=by unfold BD;rw[Ba,hd];rfl);obtain⟨ad,rfl,hat⟩:=(HD.out.Es DJ.out).row.ns (j:=i) (x:=⟨ES,dA,dn,dc⟩) (by unfold D9;rw[Ba,hd];rfl);have x0:=hat.c0;have x1:=hat.c1;have Ws:=AO hdv;have HDM:=AO (Bi hd);clear hd hdv hat;obtain⟨dv,AGu⟩: ∃dv,wr.heap.size=dv:=⟨_,rfl⟩;obtain⟨W1,hW1⟩: ∃W1,wr.alloc (.cells #[.string ES,.slice dA dn dc] 77)=W1:=⟨_,rfl⟩;(have hv1:Bv W1 dv 77 #[.string ES,.slice dA dn dc]:=by rw[<- hW1,<- AGu];exact Bv.new wr _ _);have v0:=hv1.cell 0;simp only[FV] at v0;have HV1:=AO hv1;have CZ:Hid (AZ [] wr W1):=AO (by rw[<- hW1];exact (AZ.refl [] wr).alloc _)
  have HDE:Hid (∀E,E≠0->Ic (i==0) (Gh noS ((BD ds).take i)) ES=E->Eo (BD ds) BK=E):=AO (λE h0 h=>by
   rw[HE.out,VG Ws.out ZG.out];unfold Gv
   rw[h,BU h0])
  clear hv1;(go_wp2_with fail);refine (Vq ES W1).mono ?_;rintro e w2 ⟨rfl,hcg⟩;have HC2:Hid (AZ [] wr w2):=AO (CZ.out.Ah hcg);have HV2:=AO (HV1.out.Ap hcg BH)
  cases hg:CO ES with
  |false=>
   have HX:=AO (HDE.out 81 Aq (ADg hg));clear hcg hg v0;go_wp2
   go_ret2
   exact⟨_,by rw[HX.out];rfl,DJ.out.Ah HC2.out⟩
  |true=>
   have v0':=HV2.out.cell 0;simp only[FV] at v0';have AG6:=AO (ADf (f:=i==0) (last:=Gh noS ((BD ds).take i)) hg);clear hcg hg v0 x0 x1;obtain⟨late,aC⟩: ∃l:Bool,(!(i==0) && Vs ES (Gh noS ((BD ds).take i)))=l:=⟨_,rfl⟩;rw[aC] at AG6;have ALy:=AO aC;clear aC
   go_upto_region 10 with fail
   go_cut [46] (λs46 wx=>s46=.bool late/\AZ [] w2 wx)
   case first=>
    rcases O7 i with hi0|hi0
    ·subst hi0;(obtain rfl:late=false:=by rw[<- ALy.out];rfl);refine Ew (S:=λw'=>AZ [] w2 w') Az ((AZ.refl _ _).drew) (λhHeld=>?_);refine tk 0 ?_;refine tk 1 ?_;refine tk 2 ?_;refine tk 3 ?_;refine tk 4 ?_;refine tk 5 ?_;refine tk 6 ?_;refine tk 7 ?_;refine tk 8 ?_;refine tk 9 ?_;refine tk 10 ?_;refine tk 11 ?_;refine tk 12 ?_;refine Ej Az ?_ _;(try simp only[BG,Bg]);go_wp2_with fail
     go_meet
     exact⟨rfl,hHeld⟩
    obtain⟨k,rfl⟩: ∃k,i=k+1:=⟨i - 1,Aa⟩;obtain⟨pd,Qj⟩: ∃pd,ds[k]? =AA pd:=⟨_,Bo (by have:=HD.out.row.KF;simp[D9] at this;omega)⟩;obtain⟨ad',had,hpt⟩:=(HD.out.Es (DJ.out.Ah HC2.out)).row.ns (j:=k) (x:=pd.1) (by unfold D9;rw[Ba,Qj];rfl);injection had with had;subst had;have p0:=hpt.c0
    have hle: ∀w',(binOp .leq 9 (.string ES) (.string pd.1.nm)).run Ae w'=.ok (.bool late) w':=λw'=>by
     rw[RY,<- ALy.out,x9 (x:=(pd.1.nm,Ai pd.2)) (by unfold BD;rw[Ba,Qj];rfl)];simp
    (have hwk:IntKind.i64.wrap (k:Int)=(k:Int):=by rw[NY];omega);(have hkn:(k:Int)<n:=by omega);clear Qj hpt;refine Ew (S:=λw'=>AZ [] w2 w') Az ((AZ.refl _ _).drew) (λhHeld=>?_);refine tk 0 ?_;refine tk 1 ?_;refine tk 2 ?_;refine tk 3 ?_;refine F9 4 (λw' hSw=>hSw.cell v0' BH) ?_;refine tk 5 ?_;refine tk 6 ?_;refine tk 7 ?_;refine tk 8 ?_;refine tk 9 ?_;refine F9 10 (λw' hSw=>hSw.cell p0 BH) ?_;refine tk 11 ?_;refine tk 12 ?_;refine Ej Az ?_ _;(try simp only[BG,Bg]);go_wp2_with fail
    go_meet
    exact⟨rfl,hHeld⟩
   obtain⟨rfl,hcc⟩:=hcut;have Gg:Hid (AZ [] w wc):=AO (DJ.out.Ah (HC2.out.Ah hcc));have APf:=AO (yB.out.Es (HC2.out.Ah hcc));have HV3:=AO (HV2.out.Ap hcc BH);clear hcc v0'
   cases late with
   |true=>
    have HX:=AO (HDE.out 6 Aq (AG6.out.trans AV));go_wp2
    go_ret2
    exact⟨_,by rw[HX.out];rfl,Gg.out⟩
   |false=>
    have APg:=HV3.out.cell 0;simp only[FV] at APg;have uo:=AO (HD.out.ET _ HDM.out);have HML:Hid (IJ.length=dn):=AO (by have:=uo.out.row.KF;simpa[Dq] using this)
    have HCN:Hid (Hu ((BD ds).take i)+dn<=1073741824):=AO (by
     have h1:=ALx Ws.out;simp only[Ai,DY,HML.out] at h1
     have:=HB.out;omega)
    obtain⟨ov,hov⟩: ∃ov,wc.heap.size=ov:=⟨_,rfl⟩;obtain⟨W4,hW4⟩: ∃W4,W4=wc.alloc (.cells #[.string ES,.slice AB 0 0] 86):=⟨_,rfl⟩;(have hc4:AZ [] wc W4:=by rw[hW4];exact (AZ.refl [] wc).alloc _);have HO4:Hid (Bv W4 ov 86 #[.string ES,.slice AB 0 0]):=AO (by rw[hW4,<- hov];exact Bv.new wc _ _);have HV4:=AO (HV3.out.Ap hc4 BH);have APh:=AO (APf.out.Es hc4);have APi:Hid (AZ [] w W4):=AO (Gg.out.Ah hc4)
    have AG7:Hid (w.heap.size<=ov/\ov∉bo sA/\∀r∈rs,∀k∈bo r.1.A,k<W4.heap.size):=AO ⟨by rw[<- hov];exact Gg.out.size,λhm=>by
     have:=APf.out.row.lt ov hm;omega,λr hr k hk=>(APh.out.ET r hr).1.lt k hk⟩
    have HW4:=AO hW4;clear hc4 hW4;go_wp2;rw[<- HW4.out];clear APg hov
    go_loopw [12] (λs12 wr=>∃(j:Nat) (oA:Option Ag) (oc:Nat) (ol:List (ByteArray×Nat)) (fA:Option Ag) (fc:Nat),j<=dn/\s12=.int .i64 j/\Eh true noS ((Ai IJ).take j)=0/\
     Bv wr ov 86 #[.string ES,.slice oA j oc]/\Own wr 88 2 oA j oc (iU ol)/\
     RoW wr b sA i sc rs fA (Hu ((BD ds).take i)+j) fc BK stop/\Bv wr dv 77 #[.string ES,.slice dA dn dc]/\
     (∀k∈bo oA,W4.heap.size<=k)/\(∀k∈bo fA,w.heap.size<=k)/\AZ [] w wr/\W4.heap.size<=wr.heap.size) (λs12 _=>dn - (intOf s12).toNat)
    case atStart=>exact⟨0,AB,0,[],fA,fc,DW _,rfl,rfl,HO4.out,Own.nil _ _ _,APh.out,HV4.out,AV,λk hk=>UI.out k (GN _ hk),APi.out,Bd _⟩
    obtain⟨j,oA,oc,ol,fA,fc,hjd,rfl,qy,hob,hoo,APj,hvb,hdis,KE,Xw,APk⟩:=hrel;have Xx:=AO qy;have vJ:=AO hob;have HOO:=AO hoo;have NK:=AO APj;have HVB:=AO hvb;have ACa:=AO hdis;have Z4:=AO KE;have Qd:=AO Xw;have APl:=AO APk;have dv1:=hvb.cell 1;simp only[FV] at dv1;clear qy hob hoo APj hvb hdis KE Xw APk;by_cases hjl:j<dn
    ·(have APD:(j:Int)<dn:=by omega);obtain⟨x,hx⟩: ∃x,IJ[j]? =AA x:=⟨_,Bo (by have:=HML.out;omega)⟩;obtain⟨⟨Yy,fB,fn,fd⟩,bs⟩:=x;(have hxv:(Ai IJ)[j]? =AA (Yy,bs):=by unfold Ai;rw[Ba,hx];rfl);obtain⟨ad,rfl,hat⟩:=(uo.out.Es Qd.out).row.ns (j:=j) (x:=⟨Yy,fB,fn,fd⟩) (by unfold Dq;rw[Ba,hx];rfl);have x0:=hat.c0;have x1:=hat.c1;have HXV:=AO hxv;have HXM:=AO (Bi hx);clear hx hxv hat;obtain⟨fv,AC5⟩: ∃fv,wr.heap.size=fv:=⟨_,rfl⟩;obtain⟨W5,hW5⟩: ∃W5,wr.alloc (.cells #[.string Yy,.slice fB fn fd] 64)=W5:=⟨_,rfl⟩;(have hv5:Bv W5 fv 64 #[.string Yy,.slice fB fn fd]:=by rw[<- hW5,<- AC5];exact Bv.new wr _ _);have v50:=hv5.cell 0;simp only[FV] at v50;have HV5:=AO hv5;have TE:Hid (AZ [] wr W5):=AO (by rw[<- hW5];exact (AZ.refl [] wr).alloc _);have AGw:=AO AC5
     have HFE:Hid (∀E,E≠0->Ic (j==0) (Gh noS ((Ai IJ).take j)) Yy=E->Eo (BD ds) BK=E):=AO (λE h0 h=>by
      have h1:Eh true noS (Ai IJ)=E:=by
       rw[Zv HXV.out Xx.out];unfold Eh;rw[h,BU h0]
      rw[HE.out,VG Ws.out ZG.out];unfold Gv
      rw[BL (by simp[AG6.out]),h1,BU h0])
     clear hv5;(go_wp2_with fail);refine (Vq Yy W5).mono ?_;rintro e w6 ⟨rfl,hcg⟩;have JF:Hid (AZ [] wr w6):=AO (TE.out.Ah hcg);have HV6:=AO (HV5.out.Ap hcg BH)
     cases hg:CO Yy with
     |false=>
      have HX:=AO (HFE.out 81 Aq (ADg hg));clear hcg hg v50 x0 x1 dv1;go_wp2
      go_ret2
      exact⟨_,by rw[HX.out];rfl,Qd.out.Ah JF.out⟩
     |true=>
      have f0:=HV6.out.cell 0;have d1:=(HVB.out.Ap JF.out BH).cell 1;simp only[FV] at f0 d1;have ALz:=AO (ADf (f:=j==0) (last:=Gh noS ((Ai IJ).take j)) hg);clear hcg hg v50 x0 x1 dv1;obtain⟨AA4,aC⟩: ∃l:Bool,(!(j==0) && Vs Yy (Gh noS ((Ai IJ).take j)))=l:=⟨_,rfl⟩;rw[aC] at ALz;have AG8:=AO aC;clear aC
      go_upto_region 19 with fail
      go_cut [79] (λs79 wx=>s79=.bool AA4/\AZ [] w6 wx)
      case first=>
       rcases O7 j with hj0|hj0
       ·subst hj0;(obtain rfl:AA4=false:=by rw[<- AG8.out];rfl);refine Ew (S:=λw'=>AZ [] w6 w') Az ((AZ.refl _ _).drew) (λhHeld=>?_);refine tk 0 ?_;refine tk 1 ?_;refine tk 2 ?_;refine tk 3 ?_;refine tk 4 ?_;refine tk 5 ?_;refine tk 6 ?_;refine tk 7 ?_;refine tk 8 ?_;refine tk 9 ?_;refine tk 10 ?_;refine tk 11 ?_;refine tk 12 ?_;refine tk 13 ?_;refine Ej Az ?_ _;(try simp only[BG,Bg]);go_wp2_with fail
        go_meet
        exact⟨rfl,hHeld⟩
       obtain⟨k,rfl⟩: ∃k,j=k+1:=⟨j - 1,Aa⟩;obtain⟨pd,Qj⟩: ∃pd,IJ[k]? =AA pd:=⟨_,Bo (by have:=HML.out;omega)⟩;obtain⟨ad',had,hpt⟩:=(uo.out.Es (Qd.out.Ah JF.out)).row.ns (j:=k) (x:=pd.1) (by unfold Dq;rw[Ba,Qj];rfl);injection had with had;subst had;have p0:=hpt.c0
       have hle: ∀w',(binOp .leq 9 (.string Yy) (.string pd.1.nm)).run Ae w'=.ok (.bool AA4) w':=λw'=>by
        rw[RY,<- AG8.out,x9 (x:=(pd.1.nm,pd.2)) (by unfold Ai;rw[Ba,Qj];rfl)];simp
       (have hwk:IntKind.i64.wrap (k:Int)=(k:Int):=by have:=HCN.out;rw[NY];omega);(have hkn:(k:Int)<dn:=by omega);clear Qj hpt;refine Ew (S:=λw'=>AZ [] w6 w') Az ((AZ.refl _ _).drew) (λhHeld=>?_);refine tk 0 ?_;refine tk 1 ?_;refine tk 2 ?_;refine tk 3 ?_;refine F9 4 (λw' hSw=>hSw.cell f0 BH) ?_;refine tk 5 ?_;refine F9 6 (λw' hSw=>hSw.cell d1 BH) ?_;refine tk 7 ?_;refine tk 8 ?_;refine tk 9 ?_;refine tk 10 ?_;refine F9 11 (λw' hSw=>hSw.cell p0 BH) ?_;refine tk 12 ?_;refine tk 13 ?_;refine Ej Az ?_ _;(try simp only[BG,Bg]);go_wp2_with fail
       go_meet
       exact⟨rfl,hHeld⟩
      obtain⟨rfl,hcc⟩:=hcut;have LW:Hid (AZ [] wr wc):=AO (JF.out.Ah hcc);have HV7:=AO (HV6.out.Ap hcc BH);clear hcc f0 d1
      cases AA4 with
      |true=>
       have HX:=AO (HFE.out 6 Aq (ALz.out.trans AV));go_wp2
       go_ret2
       exact⟨_,by rw[HX.out];rfl,Qd.out.Ah LW.out⟩
      |false=>
       have hcn:=HCN.out;obtain⟨fl,hfl⟩: ∃fl,Hu ((BD ds).take i)+j=fl:=⟨_,rfl⟩;(have AVy:fl<1073741824:=by omega);have AUu:=AO hfl;rw[hfl] at NK;have APm:=AO (NK.out.Es LW.out);have APn:=AO (vJ.out.Ap LW.out BH);have AUv:=AO (HOO.out.Ap LW.out AV);have AUw:=AO (HVB.out.Ap LW.out BH)
       have HFO:Hid (fv∉ov::bo oA):=AO (λhm=>by
        have h1:=AGw.out;rcases BF.1 hm with h|h;have:=vJ.out.lt;omega
        have:=HOO.out.lt fv h;omega)
       have HBO:Hid (b∉ov::bo oA):=AO (λhm=>by
        rcases BF.1 hm with h|h;exact NK.out.blk.ne_ vJ.out Aq h
        exact HOO.out.Et NK.out.blk Aq b h rfl)
       have AUx:Hid (ov∉bo oA):=AO (λhm=>HOO.out.Et vJ.out Aq ov hm rfl);have AL0:Hid (Bv (wc.alloc (.cells #[.string Yy,.int .i64 fl] 88)) ov 86 #[.string ES,.slice oA j oc]):=AO (APn.out.alloc _);have APo:Hid (Own (wc.alloc (.cells #[.string Yy,.int .i64 fl] 88)) 88 2 oA j oc (iU ol)):=AO (AUv.out.Ap ((AZ.refl [] wc).alloc _) AV);have c3:=APm.out.blk.cell 3;have o1:=APn.out.cell 1;have o1a:=AL0.out.cell 1;have f0:=HV7.out.cell 0;simp only[FV] at c3 o1 o1a f0;clear hfl
       go_upto_region 21 with fail
       go_cut [] (λwx=>∃(A2:Option Ag) (c2:Nat),Bv wx ov 86 #[.string ES,.slice A2 (j+1) c2]/\Own wx 88 2 A2 (j+1) c2 (iU (ol++[(Yy,fl)]))/\(∀k∈bo A2,W4.heap.size<=k)/\AZ (ov::bo oA) wc wx)
       case first=>
        refine Ew (S:=λw'=>AZ (ov::bo oA) wc w') Az ((AZ.refl _ _).drew) (λhHeld=>?_);refine tk 0 ?_;refine tk 2 ?_;refine F9 3 (λw' hSw=>hSw.cell f0 HFO.out) ?_;refine tk 4 ?_;refine tk 5 ?_;refine tk 6 ?_;refine F9 7 (λw' hSw=>hSw.cell c3 HBO.out) ?_;refine tk 8 ?_;refine tk 9 ?_;refine Oz (rs:=[1,10]) Az AV ?_;refine Gp rfl (λK hK=>?a1) (Gp rfl (λK hK=>?b1) (O0))
        case' a1=>
         go_simp;refine hK.out _ _ (hHeld) (λhHeld=>?_);(try simp only[BG,Bg]);clear hK K;refine EM 10 λK hK=>?_;go_simp;refine hK.out _ _ (hHeld.alloc _) (λhHeld=>?_)
        case' b1=>
         go_simp;refine hK.out _ _ (hHeld.alloc _) (λhHeld=>?_);(try simp only[BG,Bg]);clear hK K;refine EM 1 λK hK=>?_;go_simp;refine hK.out _ _ (hHeld) (λhHeld=>?_)
        all_goals
         (try simp only[BG,Bg]);clear hK K;refine EM 11 λK hK=>?_;refine JV rfl _ _ rfl sS rfl APo.out rfl (Own.lit wc 88 2 #[.string Yy,.int .i64 fl] 1 Aq rfl).rd (ADd [(Yy,fl)]) Nb Aa ?_;intro A2 c2 w8 Uk Ph Ul _;have HB8:=AO (AL0.out.drew.Ap Ph AUx.out);have y8:=HB8.out.cell 1;have f8:=HB8.out.frozen 1;simp at y8;have HO8:=AO Uk;have AVz:=AO Ph;have HN8:=AO Ul;have hH8:=hHeld.trans Ph (λx hx=>.inl (DD _ hx));clear Uk Ph Ul;refine hK.out _ _ (hH8) (λhHeld=>?_);(try simp only[BG,Bg]);clear hK K;refine tk 12 ?_;refine EM 13 λK hK=>?_;go_simp;have vK:=hHeld.setCell (p:=⟨ov,1,AB⟩) (.inl AV) (.slice A2 (j+1) c2);refine hK.out _ _ vK (λhHeld=>?_);(try simp only[BG,Bg]);clear hK K;refine Ej Az ?_ _;(try simp only[BG,Bg]);have gZ:Hid (Bv (w8.setCell ⟨ov,1,AB⟩ (.slice A2 (j+1) c2)) ov 86 #[.string ES,.slice A2 (j+1) c2]):=AO (by simpa using HB8.out.FH 1 (.slice A2 (j+1) c2));clear y8 f8 o1 o1a hH8 hHeld c3 f0;go_wp2_with fail
         go_meet
         refine⟨A2,c2,gZ.out,?_,λk hk=>?_,vK⟩
         ·refine Own.Ap (L:=[ov]) ?_ ((AZ.refl _ _).setCell (.inl AV) _) (λk hk hm=>HO8.out.Et HB8.out Aq k hk (by simpa using hm));rw[ADc];exact HO8.out
         rcases HN8.out k hk with h|h;exact ACa.out k h;have h1:=APl.out;have h2:=LW.out.size;have h3:wc.heap.size<=(wc.alloc (.cells #[.string Yy,.int .i64 fl] 88)).drew.heap.size:=(((AZ.refl [] wc).alloc _).drew).size;omega
       obtain⟨A2,c2,hb8,ho8,hn8,hc8⟩:=hcut;have AL1:=AO hb8;have AL2:=AO ho8;have HN8:=AO hn8;have AUy:Hid (W4.heap.size<=wc.heap.size):=AO (by have h1:=APl.out;have h2:=LW.out.size;have h3:=hc8.size;omega)
       have AL3:Hid (AZ [] w wc):=AO ((Qd.out.Ah LW.out).trans hc8 (λx hx=>.inr (by
        rcases BF.1 hx with rfl|hx;exact AG7.out.1
        have h1:=ACa.out x hx;have h2:=APi.out.size;omega)))
       have Q7:=AO (APm.out.Ap hc8 HBO.out (λk hk hm=>by
        rcases BF.1 hm with rfl|hm;exact AG7.out.2.1 hk
        ·exact NK.out.row.own_ne HOO.out Aq k hk hm) (λk hk hm=>by
        obtain⟨sg,hs⟩:=NK.out.Uh;rcases BF.1 hm with h|hm;exact hs.Et vJ.out Aq k hk h
        ·exact hs.own_ne HOO.out Aq k hk hm) (λr hr k hk hm=>by
        have h1:=AG7.out.2.2 r hr k hk;rcases BF.1 hm with h|hm;exact (NK.out.ET r hr).1.Et vJ.out Aq k hk h
        have h2:=ACa.out k hm;omega))
       have HV8:=AO (HV7.out.Ap hc8 HFO.out)
       have AL4:=AO (AUw.out.Ap hc8 λhm=>by
        rcases BF.1 hm with h|h;exact HVB.out.ne_ vJ.out Aq h
        exact HOO.out.Et HVB.out Aq dv h rfl)
       clear hb8 ho8 hn8 hc8 c3 o1 o1a f0 AL0 APo
       have Yx:Hid (fn<=1073741824):=AO (by
        have h1:bs.length<=E5 (BD ds):=(Zz (Bi Ws.out)).2 _ (Bi HXV.out);have h2:=(uo.out.dat _ HXM.out).1;have h3:=HB.out;simp at h2
        omega)
       have c3:=Q7.out.blk.cell 3;have f1:=HV8.out.cell 1;simp only[FV] at c3 f1
       have HFB:Hid (fv∉b::bo fA):=AO (λhm=>by
        have h2:=AGw.out;rcases BF.1 hm with h|h;have h1:=NK.out.blk.lt;omega;obtain⟨sg,hs⟩:=NK.out.Uh
        have h1:=hs.lt fv h;omega)
       obtain⟨sg,hsg⟩:=Q7.out.Uh;have HBF:Hid (b∉bo fA):=AO (λhm=>hsg.Et Q7.out.blk Aq b hm rfl)
       have NH:Hid (∀wX,AZ [] wc wX->Au Ae 31 #[.slice fB fn fd] wX λe w9=>∃g,e=.returned (.pointer (AA ⟨g,0,AB⟩))/\AZ [] wX w9/\w9.cell? ⟨b,3,AB⟩=AA (.slice fA fl fc)/\AZ [] wc (w9.alloc (.cells #[.pointer (AA ⟨g,0,AB⟩)] 89))/\
         Bv (w9.alloc (.cells #[.pointer (AA ⟨g,0,AB⟩)] 89)) b 83 #[.slice sA i sc,.slice AB 0 0,.slice AB 0 0,.slice fA fl fc,.slice AB 0 0,.int .i64 BK,.int .i64 stop,.int .i64 0]/\Own (w9.alloc (.cells #[.pointer (AA ⟨g,0,AB⟩)] 89)) 89 1 fA fl fc (sg.map pv8)):=AO λwX hX=>by
        refine (AIa fB fn fd bs wX Yx.out ((uo.out.dat _ HXM.out).Ap (AL3.out.Ah hX) GM)).mono ?_;rintro e w9 ⟨g,L,rfl,_,dU,_⟩;have h1:=hX.Ah dU;have h2:=h1.alloc (.cells #[.pointer (AA ⟨g,0,AB⟩)] 89);exact⟨g,rfl,dU,h1.cell c3 BH,h2,Q7.out.blk.Ap h2 AV,hsg.Ap h2 AV⟩
       (go_wp2_with fail);refine Ew (S:=λw'=>AZ (b::bo fA) wc w') Az ((AZ.refl _ _).drew) (λhHeld=>?_);refine tk 0 ?_;refine tk 1 ?_;refine tk 2 ?_;refine tk 3 ?_;refine tk 5 ?_;refine F9 6 (λw' hSw=>hSw.cell f1 HFB.out) ?_;refine Oz (rs:=[4,7]) Az AV ?_;refine Gp rfl (λK hK=>?a2) (Gp rfl (λK hK=>?b2) (O0))
       case' a2=>
        go_simp;refine hK.out _ _ (hHeld) (λhHeld=>?_);(try simp only[BG,Bg]);clear hK K;refine EM 7 λK hK=>?_
       case' b2=>skip
       all_goals
        go_simp;refine (NH.out _ ((AZ.refl [] wc).drew)).mono ?_;rintro ee w9 ⟨g,rfl,dU,y9,hca,hba,hoa⟩;have y9a:=hba.cell 3;simp only[FV] at y9a;have HCA:=AO hca;have AUz:=AO hba;have AU0:=AO hoa;have hHc:=hHeld.Ah dU;clear dU hca hba hoa;refine hK.out _ _ (hHc) (λhHeld=>?_);(try simp only[BG,Bg]);clear hK K
       case' a2=>
        refine EM 8 λK hK=>?_;go_simp;refine hK.out _ _ (hHeld.alloc _) (λhHeld=>?_)
       case' b2=>
        refine Oz (rs:=[4,8]) Az AV ?_;refine Gp rfl (λK hK=>?a3) (Gp rfl (λK hK=>?b3) (O0))
        case' a3=>
         go_simp;refine hK.out _ _ (hHeld) (λhHeld=>?_);(try simp only[BG,Bg]);clear hK K;refine EM 8 λK hK=>?_;go_simp;refine hK.out _ _ (hHeld.alloc _) (λhHeld=>?_)
        case' b3=>
         go_simp;refine hK.out _ _ (hHeld.alloc _) (λhHeld=>?_);(try simp only[BG,Bg]);clear hK K;refine EM 4 λK hK=>?_;go_simp;refine hK.out _ _ (hHeld) (λhHeld=>?_)
       all_goals
        (try simp only[BG,Bg]);clear hK K;refine EM 9 λK hK=>?_;refine JV rfl _ _ rfl ADe rfl AU0.out rfl (Own.lit w9 89 1 #[.pointer (AA ⟨g,0,AB⟩)] 1 Aq rfl).rd (by intro u hu;simp at hu;subst hu;rfl) Nb Aa ?_;intro A3 c3' w10 AG9 AA5 AHA _;have sV:=AO (AUz.out.Ap AA5 HBF.out);have y10:=sV.out.cell 3;have f10:=sV.out.frozen 3;simp at y10;have APp:=AO AG9;have AU1:=AO AHA;have APq:=hHeld.trans AA5 (λx hx=>.inl (DD _ hx));clear AG9 AA5 AHA;refine hK.out _ _ (APq) (λhHeld=>?_);(try simp only[BG,Bg]);clear hK K;refine tk 10 ?_;refine tk 11 ?_;refine EM 12 λK hK=>?_;go_simp;have vK:=hHeld.setCell (p:=⟨b,3,AB⟩) (.inl AV) (.slice A3 (fl+1) c3');refine hK.out _ _ vK (λhHeld=>?_);(try simp only[BG,Bg]);clear hK K;refine Ej Az ?_ _;(try simp only[BG,Bg]);have HZ:=AO vK;have gZ:=AO (sV.out.FH 3 (.slice A3 (fl+1) c3'));clear y10 f10 y9 y9a c3 f1 hHeld hHc APq vK;go_wp2;go_roundw
        case rel=>
         refine⟨j+1,A2,c2,ol++[(Yy,fl)],A3,c3',Aa,by go_num,V3 HXV.out Xx.out (ALz.out.trans AV),AL1.out.Ap HZ.out (λhm=>?_),AL2.out.Ap HZ.out (λk hk hm=>?_),?_,AL4.out.Ap HZ.out (λhm=>?_),HN8.out,λk hk=>?_,
          AL3.out.trans HZ.out (λx hx=>.inr ?_),Cj AUy.out HZ.out.size⟩
         ·rcases BF.1 hm with h|h;exact AL1.out.ne_ Q7.out.blk Aq h;exact hsg.Et AL1.out Aq ov h rfl
         ·rcases BF.1 hm with h|h;exact AL2.out.Et Q7.out.blk Aq k hk h;exact AL2.out.own_ne hsg Aq k hk h
         ·rw[<- SB,AUu.out];refine⟨by simpa using gZ.out,Q7.out.row.Ap HZ.out (λk hk hm=>?_),λr hr=>⟨(Q7.out.ET r hr).1.Ap HZ.out (λk hk hm=>?_),(Q7.out.ET r hr).2⟩,sg++[g],?_⟩
          ·rcases BF.1 hm with h|h;exact Q7.out.row.Et Q7.out.blk Aq k hk h;exact Q7.out.row.own_ne hsg Aq k hk h
          ·rcases BF.1 hm with h|h;exact (Q7.out.ET r hr).1.Et Q7.out.blk Aq k hk h;exact (Q7.out.ET r hr).1.own_ne hsg Aq k hk h
          rw[FK];exact APp.out.Ap ((AZ.refl [b] _).setCell (.inl AV) _) (λk hk hm=>APp.out.Et sV.out Aq k hk (by simpa using hm))
         ·rcases BF.1 hm with h|h;exact AL4.out.ne_ Q7.out.blk Aq h;exact hsg.Et AL4.out Aq dv h rfl
         ·rcases AU1.out k hk with h|h;exact Z4.out k h;have h1:=AL3.out.size;have h2:=HCA.out.size;omega
         rcases BF.1 hx with rfl|hx;exact HBN.out;exact Z4.out x hx
        simp[intOf];omega
    (obtain rfl:j=dn:=by omega);have ASY:Hid (Eh true noS (Ai IJ)=0):=AO (by have:=Xx.out;rwa[Ea (by simp only[Ai,DY,HML.out];exact Bd _)] at this);have c0:=NK.out.blk.cell 0;have o0:=vJ.out.cell 0;have o1:=vJ.out.cell 1;simp only[FV] at c0 o0 o1
    have APr:Hid (ov∉b::bo sA):=AO (λhm=>by
     rcases BF.1 hm with h|h;exact vJ.out.ne_ NK.out.blk Aq h
     exact AG7.out.2.1 h)
    have AU2:Hid (b∉bo sA):=AO (λhm=>NK.out.row.Et NK.out.blk Aq b hm rfl);have APs:=AO (NK.out.blk.alloc (.cells #[.string ES,.slice oA j oc] 86));have c0a:=APs.out.cell 0;simp only[FV] at c0a;have AU3:=AO (NK.out.row.Ap ((AZ.refl [] wr).alloc (.cells #[.string ES,.slice oA j oc] 86)) AV);(go_wp2_with fail);clear dv1;refine Ew (S:=λw'=>AZ (b::bo sA) wr w') Az ((AZ.refl _ _).drew) (λhHeld=>?_);refine tk 0 ?_;refine tk 1 ?_;refine tk 2 ?_;refine tk 3 ?_;refine AO2 5 (λw' hSw=>⟨hSw.cell o0 APr.out,hSw.cell o1 APr.out⟩) ?_;refine Oz (rs:=[4,6]) Az AV ?_;refine Gp rfl (λK hK=>?a4) (Gp rfl (λK hK=>?b4) (O0))
    case' a4=>
     go_simp;refine hK.out _ _ (hHeld) (λhHeld=>?_);(try simp only[BG,Bg]);clear hK K;refine EM 6 λK hK=>?_;go_simp;refine hK.out _ _ (hHeld.alloc _) (λhHeld=>?_)
    case' b4=>
     go_simp;refine hK.out _ _ (hHeld.alloc _) (λhHeld=>?_);(try simp only[BG,Bg]);clear hK K;refine EM 4 λK hK=>?_;go_simp;refine hK.out _ _ (hHeld) (λhHeld=>?_)
    all_goals
     (try simp only[BG,Bg]);clear hK K;refine EM 7 λK hK=>?_;refine JV rfl _ _ rfl x8 rfl AU3.out rfl (Own.lit wr 86 2 #[.string ES,.slice oA j oc] 1 Aq rfl).rd (U9 [⟨ES,oA,j,oc⟩]) Nb Aa ?_;intro A2 c2 w8 Uk Ph Ul _;have HB8:=AO (APs.out.drew.Ap Ph AU2.out);have y8:=HB8.out.cell 0;have f8:=HB8.out.frozen 0;simp at y8;have HO8:=AO Uk;have HN8:=AO Ul;have hH8:=hHeld.trans Ph (λx hx=>.inl (DD _ hx));clear Uk Ph Ul;refine hK.out _ _ (hH8) (λhHeld=>?_);(try simp only[BG,Bg]);clear hK K;refine tk 8 ?_;refine tk 9 ?_;refine EM 10 λK hK=>?_;go_simp;have vK:=hHeld.setCell (p:=⟨b,0,AB⟩) (.inl AV) (.slice A2 (i+1) c2);refine hK.out _ _ vK (λhHeld=>?_);(try simp only[BG,Bg]);clear hK K;refine Ej Az ?_ _;(try simp only[BG,Bg]);have HZ:=AO vK;have gZ:=AO (HB8.out.FH 0 (.slice A2 (i+1) c2));clear y8 f8 o0 o1 c0 c0a hHeld hH8 vK;go_wp2;go_roundw
     case rel=>
      refine⟨i+1,A2,c2,rs++[(⟨ES,oA,j,oc⟩,ol)],fA,fc,Aa,by go_num,jk Ws.out ZG.out (AG6.out.trans AV) ASY.out,?_,λx hx=>?_,Qd.out.trans HZ.out (λx hx=>.inr ?_)⟩
      ·have hsn:Hu ((BD ds).take (i+1))=Hu ((BD ds).take i)+j:=by
        rw[take_snoc _ _ _ Ws.out,qh];simp only[Ai,DY,HML.out]
       rw[hsn];obtain⟨sg,hsg⟩:=NK.out.Uh;refine⟨by simpa using gZ.out,?_,λr hr=>?_,sg,hsg.Ap HZ.out (λk hk hm=>?_)⟩
       ·rw[sU,N9];exact HO8.out.Ap ((AZ.refl [b] _).setCell (.inl AV) _) (λk hk hm=>HO8.out.Et HB8.out Aq k hk (by simpa using hm))
       ·have hr2:Own wr 88 2 r.1.A r.1.n r.1.c (iU r.2)/\r.1.n<=1073741824:=by
         rcases Bj.1 hr with hr|hr;exact NK.out.ET r hr;obtain rfl:=CB.1 hr;have:=HCN.out;exact⟨HOO.out,by show j<=_;omega⟩
        refine⟨hr2.1.Ap HZ.out (λk hk hm=>?_),hr2.2⟩;rcases BF.1 hm with h|h;exact hr2.1.Et NK.out.blk Aq k hk h;exact hr2.1.own_ne NK.out.row Aq k hk h
       rcases BF.1 hm with h|h;exact hsg.Et NK.out.blk Aq k hk h;exact hsg.own_ne NK.out.row Aq k hk h
      ·rcases Bj.1 hx with hx|hx
       ·rcases HN8.out x hx with h|h;exact UI.out x (F5 _ h);have h1:=Qd.out.size;have h3:wr.heap.size<=(wr.alloc (.cells #[.string ES,.slice oA j oc] 86)).drew.heap.size:=(((AZ.refl [] wr).alloc _).drew).size;omega
       exact Z4.out x hx
      rcases BF.1 hx with rfl|hx;exact HBN.out;exact UI.out x (F5 _ hx)
     simp[intOf];omega
 obtain rfl:i=n:=by omega
 have um:Hid (Eo (BD ds) BK=0):=AO (by
  have hall:(BD ds).take i=BD ds:=Ea (by have:=HD.out.row.KF;simp[D9] at this;simp[BD];omega)
  rw[HE.out,<- hall];exact ZG.out)
 have c0:=yB.out.blk.cell 0;simp only[FV] at c0;(go_wp2_with fail);refine (AA3 sA i sc rs wr ⟨yB.out.row.rd,λr hr=>(yB.out.ET r hr).1.rd⟩ hn (λr hr=>(yB.out.ET r hr).2)).mono ?_;rintro ee w3 ⟨A2,c2,ps,rfl,_,_,hc3,_⟩;have Gg:Hid (AZ [] w w3):=AO (DJ.out.Ah hc3);have hb3:=yB.out.blk.Ap hc3 BH;have y3:=hb3.cell 1;have f3:=hb3.frozen 1;simp only[FV] at y3;clear hb3 hc3 c0;go_wp2
 go_ret2
 exact⟨_,by rw[um.out];rfl,Gg.out.trans ((AZ.refl [b] _).setCell (.inl AV) _) λx hx=>.inr (by rw[CB.1 hx];exact HBN.out)⟩
end
section
variable {f:JG}{gs:List JG}{L:List Nat}{b:Nat}{v:AQ}{w:AL}
theorem sW:Ety Ae 138 140 1 8 (.pointer AB):=.mk' ARa Az rfl Aq
theorem aF(v:AQ)(w:AL):(KI (.iface 140 v) 39 140 true).run Ae w=.ok (.tuple #[v,.bool true]) w:=by kernel_rfl
theorem aG(v:AQ)(w:AL):(KI (.iface 140 v) 39 150 true).run Ae w=.ok (.tuple #[.pointer AB,.bool false]) w:=by kernel_rfl
theorem aH(v:AQ)(w:AL):(KI (.iface 150 v) 39 140 true).run Ae w=.ok (.tuple #[.pointer AB,.bool false]) w:=by kernel_rfl
theorem aI(v:AQ)(w:AL):(KI (.iface 150 v) 39 150 true).run Ae w=.ok (.tuple #[v,.bool true]) w:=by kernel_rfl
theorem iV(v:AQ)(w:AL):(KI (.iface 51 v) 39 140 true).run Ae w=.ok (.tuple #[.pointer AB,.bool false]) w:=by kernel_rfl
theorem iW(v:AQ)(w:AL):(KI (.iface 51 v) 39 150 true).run Ae w=.ok (.tuple #[.pointer AB,.bool false]) w:=by kernel_rfl
theorem aJ(w:AL):(KI .nilIface 39 140 true).run Ae w=.ok (.tuple #[.pointer AB,.bool false]) w:=by kernel_rfl
theorem aK(w:AL):(KI .nilIface 39 150 true).run Ae w=.ok (.tuple #[.pointer AB,.bool false]) w:=by kernel_rfl
theorem AIc:Ety Ae 69 9 1 16 (.string Ku):=.mk' AGc Az rfl Aq
def AFn (w:AL) (f:JG) (e:Fe) (w':AL):Prop:=∃A c b,e=.returned (.slice A 1 c)/\Rd w' 1 A 1 c [.pointer (AA ⟨b,0,AB⟩)]/\AZ [] w w'/\Bv w' b 142 #[.string f.op,.int .i64 f.pl,.iface 51 (.int .i64 f.cd)]
theorem AL5(w:AL):Au Ae 67 #[.nilIface] w λe w'=>e=.returned (.slice AB 0 0)/\w'=w:=by
 have t1:=aF;have t2:=aG;have t3:=aH;have t4:=aI;have t5:=iV;have t6:=iW;have t7:=aJ;have t8:=aK;go_enter AGb,Tryz.ntmps67;go_wp2;refine WM 1 ?_;rw[Na];go_wp2;go_ret;exact⟨rfl,rfl⟩
theorem AFo(h:Q5 w b v f):Au Ae 67 #[v] w (AFn w f):=by
 obtain⟨rfl,hb,_⟩:=h;have HB:=AO hb;clear hb;have t1:=aF;have t2:=aG;have t3:=aH;have t4:=aI;have t5:=iV;have t6:=iW;have t7:=aJ;have t8:=aK;go_enter AGb,Tryz.ntmps67;go_wp2;refine WM 2 ?_;rw[Na];(go_wp2_with (at_builtin;refine D8 rfl _ _ rfl sW rfl (Own.nil _ _ _) rfl (Own.TM _ 140 1 #[.pointer (AA ⟨b,0,AB⟩)] 1 _ _ rfl rfl Aq rfl).rd (by simp[Jr]) Nb Aa ?_;intro A1 c1 w1 hown EI hnew _;have hc1:AZ [] w w1:=((AZ.refl [] w).alloc _).trans EI AV;have hb1:=HB.out.Ap hc1 AV;have hk2:=hb1.cell 2;simp only[FV] at hk2));rw[Na];go_wp2;go_ret;exact⟨_,_,_,rfl,hown.rd,hc1,hb1⟩
theorem AId{c d:Nat}{x y:AQ}{g:JG}(h0:Bv w b 152 #[x,y])(hx:Q5 w c x f)(hy:Q5 w d y g)(hg:MN w):Au Ae 67 #[.iface 150 (.pointer (AA ⟨b,0,AB⟩))] w (AFn w f):=by
 have hn:=ADV (v:=x) (L:=[c]) (gs:=[]) hx hg;obtain⟨rfl,hb,_⟩:=hx;have HN:=AO hn;have HB:=AO hb;have HB0:=AO h0;have z0:=h0.cell 0;simp only[FV] at z0;have AV0:= @ARI;clear hn hb hy hg h0;have t1:=aF;have t2:=aG;have t3:=aH;have t4:=aI;have t5:=iV;have t6:=iW;have t7:=aJ;have t8:=aK;go_enter AGb,Tryz.ntmps67;go_wp2;refine WM 3 ?_;rw[Na];(go_wp2_with fail);refine HN.out.mono ?_;rintro e wz ⟨rfl,hcz⟩;have Tc:=AO hcz;clear hcz;go_wp2;rw[Na];(go_wp2_with (at_builtin;refine D8 rfl _ _ rfl sW rfl (Own.nil _ _ _) rfl (Own.TM _ 140 1 #[.pointer (AA ⟨c,0,AB⟩)] 1 _ _ rfl rfl Aq rfl).rd (by simp[Jr]) Nb Aa ?_;intro A1 c1 w1 hown EI hnew _;have hc1:AZ [] w w1:=(Tc.out.alloc _).trans EI AV;have hb1:=HB.out.Ap hc1 AV;have hk2:=hb1.cell 2;simp only[FV] at hk2));rw[Na];go_wp2;go_ret;exact⟨_,_,_,rfl,hown.rd,hc1,hb1⟩
theorem ADh(h:JX w v L (f::gs))(hg:MN w):Au Ae 67 #[v] w (AFn w f):=by
 unfold JX at h;split at h
 ·rename_i h0;cases h0
 ·rename_i h0;cases h0;exact AFo h
 ·rename_i h0;(cases h0);obtain⟨x,y,rfl,hb,hx,hy⟩:=h;exact AId hb hx hy hg
 exact h.elim
theorem sZ(h:JX w v L (f::gs))(hg:MN w):Au Ae 28 #[v] w λe w'=>e=.returned (.int .i64 f.pl)/\AZ [] w w':=by
 have HW:=AO (ADh h hg);have q67:= @AKe;clear h hg;go_enter ANq,Tryz.ntmps28;(go_wp2_with fail);refine HW.out.mono ?_;rintro e w1 ⟨A,c,b,rfl,hrd,hc,hb⟩;obtain⟨ad,u,rfl,hu,hcell⟩:=hrd.Yu (k:=0) Aq;simp at hu;subst hu;(have hcell0:w1.cell? ad=AA (.pointer (AA ⟨b,0,AB⟩)):=by simpa[Q9] using hcell);have k1:=hb.cell 1;simp only[FV] at k1;clear hrd hb hcell;go_wp2;go_ret;exact⟨rfl,hc⟩
theorem AFp(w:AL):Au Ae 27 #[.nilIface] w λe w'=>e=.returned (.slice AB 0 0)/\w'=w:=by
 have q67:= @AKe;go_enter AKB,Tryz.ntmps27;(go_wp2_with fail);refine (AL5 w).mono ?_;rintro e w1 ⟨rfl,rfl⟩;go_wp2;refine WM 1 ?_;rw[Na];go_wp2;go_ret;exact⟨rfl,rfl⟩
theorem AFq(h:JX w v L (f::gs))(hg:MN w):Au Ae 27 #[v] w λe w'=>∃A c,e=.returned (.slice A 1 c)/\Rd w' 1 A 1 c (OB [f.op])/\AZ [] w w':=by
 have HW:=AO (ADh h hg);have q67:= @AKe;clear h hg;go_enter AKB,Tryz.ntmps27;(go_wp2_with fail);refine HW.out.mono ?_;rintro e w1 ⟨A,c,b,rfl,hrd,hc,hb⟩;obtain⟨ad,u,rfl,hu,hcell⟩:=hrd.Yu (k:=0) Aq;simp at hu;subst hu;(have hcell0:w1.cell? ad=AA (.pointer (AA ⟨b,0,AB⟩)):=by simpa[Q9] using hcell);have k1:=hb.cell 0;simp only[FV] at k1;have HC:=AO hc;clear hrd hb hcell hc;go_wp2;refine WM 2 ?_;rw[Na];(go_wp2_with (at_builtin;refine D8 rfl _ _ rfl AIc rfl (Own.nil _ _ _) rfl (Own.TM _ 9 1 #[.string f.op] 1 _ _ rfl rfl Aq rfl).rd (by simp[Jr]) Nb Aa ?_;intro A1 c1 w2 hown EI hnew _));rw[Na];go_wp2;go_ret;exact⟨_,_,rfl,hown.rd,(HC.out.alloc _).trans EI AV⟩
end
theorem AAk.one{w w':AL}{D:Eg}{q s:Int}{e:Fe}(h:AAk w D q s e w'): ∃vp,e=.returned (.tuple #[vp,.int .i64 (Eo D q)])/\AZ [] w w'/\
  ((Eo D q≠0/\vp=.pointer AB)\/(Eo D q=0/\∃G,vp=.pointer (AA ⟨G.b,0,AB⟩)/\EJ w' G (Gw D q s)/\∀x∈G.all,w.heap.size<=x)):=by
 rcases h with ⟨h1,rfl,h2⟩|⟨h1,G,rfl,h2,h3,h4⟩;exact⟨_,rfl,h2,.inl ⟨h1,rfl⟩⟩;exact⟨_,by rw[h1],h4,.inr ⟨h1,G,rfl,h2,h3⟩⟩
def APt (w:AL) (D:Eg) (BK stop:Int) (e:Fe) (w':AL):Prop:=
 (Eo D BK≠0/\e=.returned (.tuple #[.pointer AB,.bool false])/\AZ [] w w')\/
 (Eo D BK=0/\∃G,e=.returned (.tuple #[.pointer (AA ⟨G.b,0,AB⟩),.bool true])/\EJ w' G (Gw D BK stop)/\(∀x∈G.all,w.heap.size<=x)/\AZ [] w w')
theorem AFr(w:AL)(A:Option Ag)(n c:Nat)(ds:List DM)(BK stop:Int)(h:F6 w A n c ds)(hn:n<=1073741824)(hb:E5 (BD ds)<=1073741824)
  (hfn: ∀x∈ds,x.1.n<=1073741824/\∀f∈x.2,f.1.n<=1073741824):
  Au Ae 13 #[.agg #[.slice A n c,.int .i64 BK],.int .i64 stop] w (APt w (BD ds) BK stop):=by
 obtain⟨W,hW⟩: ∃W,w.alloc (.cells #[.slice A n c,.int .i64 BK] 24)=W:=⟨_,rfl⟩;obtain⟨sb,hsb⟩: ∃sb,w.heap.size=sb:=⟨_,rfl⟩;(have hcW:AZ [] w W:=by rw[<- hW];exact (AZ.refl [] w).alloc _);(have hbk:Bv W sb 24 #[.slice A n c,.int .i64 BK]:=by rw[<- hW,<- hsb];exact Bv.new w _ _);have b0:=hbk.cell 0;have b1:=hbk.cell 1;simp only[FV] at b0 b1;(have hl:ds.length=n:=by have:=h.row.KF;simpa[D9] using this);have HR:=AO (AIb W A n c ds BK stop (h.Es hcW) hn hb);have HD:=AO h;have HBK:=AO hbk;have HC:=AO hcW;have Yx:=AO hfn;have HB:=AO hb;have HL:=AO hl;have q9:= @VC9;have q35:= @ATR;have uh:= @AOf;clear h hb hfn hcW hbk hl;go_enter ANf,Tryz.ntmps13;(go_wp2_with fail);refine HR.out.mono ?_;rintro e wz hrf;obtain⟨vp,rfl,hcz⟩:=hrf;have TC:=AO (HC.out.Ah hcz);have H0:Hid (∀w',AZ [] wz w'->w'.cell? ⟨sb,0,AB⟩=AA (.slice A n c)):=AO λw' hc=>((HBK.out.Ap hcz AV).Ap hc AV).cell 0;have H1:Hid (∀w',AZ [] wz w'->w'.cell? ⟨sb,1,AB⟩=AA (.int .i64 BK)):=AO λw' hc=>((HBK.out.Ap hcz AV).Ap hc AV).cell 1;clear hcz HR;by_cases he:Eo (BD ds) BK=0
 ·have HE0:=AO he;rw[he];have AL6:Hid (∀w',AZ [] wz w'->Au Ae 35 #[.slice A n c] w' (dH w' (BD ds))):=AO λw' hc=>ADW A n c ds w' (HD.out.Es (TC.out.Ah hc)) hn Yx.out
  have AHB:Hid (∀w' A1 n1 c1 ds1,F6 w' A1 n1 c1 ds1->BD ds1=BD ds->Au Ae 17 #[.slice A1 n1 c1,.int .i64 BK,.int .i64 stop] w' (AAk w' (BD ds) BK stop)):=AO λw' A1 n1 c1 ds1 hd hv=>by
   (have hl1:ds1.length=n:=by have:=congrArg NZ hv;simpa[BD,HL.out] using this);(have hl2:ds1.length=n1:=by have:=hd.row.KF;simpa[D9] using this);have:=AC3 w' A1 n1 c1 ds1 BK stop hd Aa (by rw[hv];exact HB.out);rwa[hv] at this
  clear he;(go_wp2_with fail);refine Ew (S:=λw'=>AZ [] wz w') Az ((AZ.refl _ _).drew) (λhHeld=>?_);refine tk 0 ?_;refine F9 1 (λw' hSw=>H0.out _ hSw) ?_;refine tk 3 ?_;refine F9 4 (λw' hSw=>H1.out _ hSw) ?_;refine tk 5 ?_;refine EM 2 λK hK=>?_;go_simp;refine (AL6.out _ hHeld).mono ?_;rintro e w1 ⟨A1,n1,c1,ds1,rfl,hO1,hv1,hc1,hn1⟩;have AL7:=AO (AZ.Ah hHeld hc1);have HV1:=AO hv1;have HO1:=AO hO1;clear hO1 hv1 hc1 hn1;go_simp;refine hK.out _ _ (AL7.out) (λhHeld=>?_);(try simp only[BG,Bg]);clear hK K;refine EM 6 λK hK=>?_;go_simp;refine (AHB.out _ A1 n1 c1 ds1 HO1.out.rd HV1.out).mono ?_;rintro e w2 hfs;obtain⟨vp,rfl,hc2,hres⟩:=hfs.one;have rY:=AO (AL7.out.Ah hc2);have HC2:=AO hc2;have AU4:=AO hres;clear hfs hc2 hres;go_simp;refine hK.out _ _ (rY.out) (λhHeld=>?_);(try simp only[BG,Bg]);clear hK K;refine tk 7 ?_;refine tk 8 ?_;refine tk 9 ?_;refine tk 10 ?_;refine tk 11 ?_;refine Ej Az ?_ _;(try simp only[BG,Bg]);rcases AU4.out with ⟨h1,h2⟩|⟨h1,G,rfl,h2,h3⟩;exact Ak HE0.out h1;rw[HE0.out];go_wp2
  go_ret2
  exact .inr ⟨HE0.out,G,rfl,h2,λx hx=>Cj (Cj TC.out.size AL7.out.size) (h3 x hx),TC.out.Ah rY.out⟩
 (have he1:(Eo (BD ds) BK==0)=false:=by simp[he]);have HE:=AO he;clear he;go_wp2
 go_ret2
 exact .inl ⟨HE.out,rfl,TC.out⟩
section
variable {t:JH}{ts:List JH}{S:St}
theorem Inv.Jo{B:Nat}{S:St}(h:Inv B S)(dst:ByteArray)(fs:List (ByteArray×List Int)):Inv (4*B+2*X4 fs+100) (S.Jo dst fs).1:=by
 have h1:=h.clean;have h2:=h1.runT (EX dst fs);rw[eG] at h2;have h3:=h2.clean;unfold St.Jo;split;exact h.mono Aa;split;exact h1.mono Aa;split;exact h2.mono Aa;exact h3.mono Aa
theorem aN{n:ByteArray}{xs:List Int}(h0:xs≠[])(h:xs.length<=512):S.act (.write n xs)=S.write BO n xs:=by
 show S.puts n (V4 xs)=_;unfold V4;rw[AFa 511 xs h0 h];unfold St.puts;split
 ·rename_i h1;exact Jh rfl h1.symm
 rfl
theorem AIe(S:St):S.runT []=(S,[]):=rfl
theorem Fh(h:(S.act t.d).2=0):S.runT (t::ts)=(S.act t.d).1.runT ts:=by
 show (if (S.act t.d).2=0 then _ else _)=_;rw[BU h]
theorem NL{c:Int}(h:(S.act t.d).2=c)(hc:c≠0):S.runT (t::ts)=((S.act t.d).1,[⟨t.op,t.pl,c⟩]):=by
 show (if (S.act t.d).2=0 then _ else _)=_;rw[BL (by rw[h];exact hc),h]
abbrev nA:ByteArray:={data:=#[97]}
abbrev nB:ByteArray:={data:=#[98]}
abbrev nD:ByteArray:={data:=#[100]}
def s0:St:=Gw [] 3 (-1)
def s1:St:=(s0.Cb BO).1
def s2:St:=(s1.create BO nA).1
def s3:St:=(s2.write BO nA [1,2]).1
def s4:St:=(s3.sync BO nA).1
def s5:St:=(s4.create BO nB).1
def s6:St:=(s5.write BO nB [3,4]).1
def s7:St:=s6.clean.1
def t1:St:=(s7.Cb BO).1
def t2:St:=(t1.create BO nA).1
def t3:St:=(t2.write BO nA [1,2]).1
def t4:St:=(t3.sync BO nA).1
def t5:St:=t4.names.1
def t6:St:=(t5.rename BO nD).1
def t7:St:=t6.names.1
theorem e0:Eo [] 3=0:=by kernel_rfl
theorem c0:s0.clean=(s0,0):=by kernel_rfl
theorem c1:(s0.Cb BO).2=0:=by kernel_rfl
theorem c2:(s1.create BO nA).2=0:=by kernel_rfl
theorem c3:(s2.write BO nA [1,2]).2=0:=by kernel_rfl
theorem c4:(s3.sync BO nA).2=0:=by kernel_rfl
theorem c5:(s4.create BO nB).2=0:=by kernel_rfl
theorem c6:(s5.write BO nB [3,4]).2=85:=by kernel_rfl
theorem c7:s6.clean.2=0:=by kernel_rfl
theorem c8:s7.clean=(s7,0):=by kernel_rfl
theorem d1:(s7.Cb BO).2=0:=by kernel_rfl
theorem d2:(t1.create BO nA).2=0:=by kernel_rfl
theorem d3:(t2.write BO nA [1,2]).2=0:=by kernel_rfl
theorem d4:(t3.sync BO nA).2=0:=by kernel_rfl
theorem d5:t4.names.2=0:=by kernel_rfl
theorem d6:(t5.rename BO nD).2=0:=by kernel_rfl
theorem d7:t6.names.2=0:=by kernel_rfl
theorem d8:t7.clean=(t7,0):=by kernel_rfl
theorem v7:s7.view=[]:=by kernel_rfl
theorem w7:t7.view=[(nD,[(nA,[1,2])])]:=by kernel_rfl
theorem gD:CO nD=true:=by kernel_rfl
theorem nDs:nD≠BO:=by decide+kernel
theorem APu:s0.Jo nD [(nA,[1,2]),(nB,[3,4])]=(s7,[⟨{data:=#[119,114,105,116,101]},1,85⟩]):=by
 have hr:s0.runT (EX nD [(nA,[1,2]),(nB,[3,4])])=(s6,[⟨{data:=#[119,114,105,116,101]},1,85⟩]):=by
  unfold EX iM;simp only[Gy,iL,Dn,EE,Ii];have k1:s0.act .Cb=(s1,0):=Jh rfl c1;have k2:s1.act (.create nA)=(s2,0):=Jh rfl c2;(have k3:s2.act (.write nA [1,2])=(s3,0):=by rw[aN AV Aq];exact Jh rfl c3);have k4:s3.act (.sync nA)=(s4,0):=Jh rfl c4;have k5:s4.act (.create nB)=(s5,0):=Jh rfl c5;(have k6:s5.act (.write nB [3,4])=(s6,85):=by rw[aN AV Aq];exact Jh rfl c6);rw[Fh (by rw[k1]),k1,Fh (by rw[k2]),k2,Fh (by rw[k3]),k3,Fh (by rw[k4]),k4,Fh (by rw[k5]),k5,NL (by rw[k6]) Aq,k6];rfl
 unfold St.Jo;rw[BL (by rw[gD];simp[nDs]),c0];simp only[ne_eq,not_true,if_false];rw[hr,BL AV];show (s7,_++Jn s6.clean.2)=_;rw[c7];rfl
theorem APv:s7.Jo nD [(nA,[1,2])]=(t7,[]):=by
 have hr:s7.runT (EX nD [(nA,[1,2])])=(t7,[]):=by
  unfold EX iM Oq;simp only[Gy,iL,Dn,EE,Ii];have k1:s7.act .Cb=(t1,0):=Jh rfl d1;have k2:t1.act (.create nA)=(t2,0):=Jh rfl d2;(have k3:t2.act (.write nA [1,2])=(t3,0):=by rw[aN AV Aq];exact Jh rfl d3);have k4:t3.act (.sync nA)=(t4,0):=Jh rfl d4;have k5:t4.act .names=(t5,0):=Jh rfl d5;have k6:t5.act (.rename nD)=(t6,0):=Jh rfl d6;have k7:t6.act .names=(t7,0):=Jh rfl d7;rw[Fh (by rw[k1]),k1,Fh (by rw[k2]),k2,Fh (by rw[k3]),k3,Fh (by rw[k4]),k4,Fh (by rw[k5]),k5,Fh (by rw[k6]),k6,Fh (by rw[k7]),k7,AIe]
 unfold St.Jo;rw[BL (by rw[gD];simp[nDs]),c8];simp only[ne_eq,not_true,if_false];rw[hr,BU rfl]
end
theorem EU.take{w:AL}{A:Option Ag}{n c:Nat}{fs:List FM}(h:EU w A n c fs){k:Nat}(hk:k<=n):EU w A k c (fs.take k):=by
 refine⟨?_,λf hf=>h.dat f (AF7 hf)⟩;have:=h.row.take hk
 have e:(Hl (Dq fs)).take (k*2)=Hl (Dq (fs.take k)):=by
  unfold Hl Dq
  have: ∀(l:List FM) (k:Nat),((l.map (·.1)).flatMap Iz.cells).take (k*2)=((l.take k).map (·.1)).flatMap Iz.cells:=by
   intro l
   induction l with
   |nil=>intro k;simp
   |cons x r ih=>
    intro k
    cases k with
    |zero=>simp|succ k=>
     rw[BN,VP,show (k+1)*2=k*2+2 by omega];rw[ABK,BN,VP,<- ih k];rfl
  exact this fs k
 rw[e] at this;exact this
theorem AFs(w:AL): ∃W,((w.alloc (.cells #[.int .u8 1,.int .u8 2] 5)).alloc (.cells #[.int .u8 3,.int .u8 4] 5)).alloc (.cells #[.string nA,.slice (AA ⟨w.heap.size,0,AB⟩) 2 2,.string nB,.slice (AA ⟨w.heap.size+1,0,AB⟩) 2 2] 64)=W/\AZ [] w W/\W.heap.size=w.heap.size+3/\
  EU W (AA ⟨w.heap.size+2,0,AB⟩) 2 2 [(⟨nA,AA ⟨w.heap.size,0,AB⟩,2,2⟩,[1,2]),(⟨nB,AA ⟨w.heap.size+1,0,AB⟩,2,2⟩,[3,4])]/\
  ∀x∈bo (AA ⟨w.heap.size+2,0,AB⟩)++Ep [(⟨nA,AA ⟨w.heap.size,0,AB⟩,2,2⟩,[1,2]),(⟨nB,AA ⟨w.heap.size+1,0,AB⟩,2,2⟩,[3,4])],w.heap.size<=x/\x<W.heap.size:=by
 (have hs:(((w.alloc (.cells #[.int .u8 1,.int .u8 2] 5)).alloc (.cells #[.int .u8 3,.int .u8 4] 5)).alloc (.cells #[.string nA,.slice (AA ⟨w.heap.size,0,AB⟩) 2 2,.string nB,.slice (AA ⟨w.heap.size+1,0,AB⟩) 2 2] 64)).heap.size=w.heap.size+3:=by simp);refine⟨_,rfl,(((AZ.refl [] w).alloc _).alloc _).alloc _,hs,⟨?_,?_⟩,λx hx=>?_⟩
 ·have:=Own.TM ((w.alloc (.cells #[.int .u8 1,.int .u8 2] 5)).alloc (.cells #[.int .u8 3,.int .u8 4] 5)) 64 2 #[.string nA,.slice (AA ⟨w.heap.size,0,AB⟩) 2 2,.string nB,.slice (AA ⟨w.heap.size+1,0,AB⟩) 2 2] 2 (w.heap.size+2) _ AV rfl Aq rfl;exact this.rd
 ·intro f hf;simp only[BF,BH,or_false] at hf;rcases hf with rfl|rfl
  ·have:=Own.TM w 5 1 #[.int .u8 1,.int .u8 2] 2 w.heap.size _ rfl rfl Aq rfl;exact (this.Ap (((AZ.refl [] _).alloc _).alloc _) AV).rd
  have:=Own.TM (w.alloc (.cells #[.int .u8 1,.int .u8 2] 5)) 5 1 #[.int .u8 3,.int .u8 4] 2 (w.heap.size+1) _ AV rfl Aq rfl;exact (this.Ap ((AZ.refl [] _).alloc _) AV).rd
 rw[hs];simp[bo,Ep] at hx;omega
theorem i7:Inv 148 s7:=by
 have:=(VF (D:=[]) (BK:=3) (stop:= -1) e0 Aq).Jo nD [(nA,[1,2]),(nB,[3,4])];change Inv 148 (s0.Jo nD [(nA,[1,2]),(nB,[3,4])]).1 at this;rw[APu] at this;exact this
theorem i8:Inv 716 t7:=by
 have:=i7.Jo nD [(nA,[1,2])];rw[APv] at this;exact this
theorem ADi(w:AL)(hg:MN w):Au Ae 8 #[] w λe w'=>e=.returned (.bool true)/\AZ [] w w':=by
 have HG:=AO hg;have uh:= @AOf;have uf:= @AOe;have q18:= @AOg;have q28:= @AOj;have q20:= @AOh;have q21:= @AKZ;clear hg;go_enter VF8,Tryz.ntmps8;(go_wp2_with fail);have hd0:F6 w AB 0 0 []:=⟨Rd.nil w 2,λd hd=>by cases hd⟩;refine (AC3 w AB 0 0 [] 3 (-1) hd0 Aq Aq).mono ?_;rintro e w1 hfs;obtain⟨vp,rfl,hc1,hres⟩:=hfs.one;have e0':Eo (BD []) 3=0:=e0;rw[e0'];rcases hres with ⟨h,_⟩|⟨_,G,rfl,hF,hN⟩
 ·exact Ak e0' h
 have HF:=AO hF;have HN:=AO hN;have CZ:=AO hc1;obtain⟨W,hW,hcW,hzW,hfW,hlW⟩:=AFs w1;have HFW:=AO hfW;have NI:=AO hcW;have HZW:=AO hzW;clear hF hN hc1 hfs hd0 e0' hcW hzW hfW;unfold nA nB at hW;(go_wp2_with fail);have HLW:=AO hlW;clear hlW;have hlt:=HF.out.lt;refine (X5 (HF.out.Cc NI.out) (VF (D:=BD []) (BK:=3) (stop:= -1) e0 Aq) HFW.out (λx hx hm=>by have:=(HLW.out x hx).1;have:=hlt x hm;omega) (λx hx=>(HLW.out x hx).2) AV (show (4*0+2*24+100:Nat)<=1073741824 by decide)).mono ?_;intro e w2 he2;change TJ W G (s0.Jo nD [(nA,[1,2]),(nB,[3,4])]).1 (s0.Jo nD [(nA,[1,2]),(nB,[3,4])]).2 e w2 at he2;rw[APu] at he2;obtain⟨v,G2,L,rfl,hev,hf2,hb2,AFt,hc2,hL2⟩:=he2;have hN:=HN.out;have hG0: ∀x∈G.all,w.heap.size<=x:=hN;have h0:(0:Nat)<w.heap.size:=UT _ _ HG.out;(have hne0: ∀x∈G.all,x≠0:=λx hx=>by have:=hG0 x hx;omega);have HC2:Hid (AZ G.all w1 w2):=AO ((NI.out.nil _).trans hc2 λx hx=>.inl hx);have HG2:Hid (MN w2):=AO (HC2.out.cell (CZ.out.cell HG.out AV) (λhm=>hne0 _ hm rfl));have HEV:=AO hev;have HF2:=AO hf2;have HB2:=AO hb2
 have HA2:Hid (∀x∈G2.all,w.heap.size<=x):=AO λx hx=>by
  rcases AFt x hx with h|h;exact hG0 x h;have:=NI.out.size;have:=CZ.out.size;omega
 have HD2:Hid (∀x∈bo (AA ⟨w1.heap.size+2,0,AB⟩)++Ep [(⟨nA,AA ⟨w1.heap.size,0,AB⟩,2,2⟩,[1,2]),(⟨nB,AA ⟨w1.heap.size+1,0,AB⟩,2,2⟩,[3,4])],x∉G.all/\x∉G2.all):=AO λx hx=>by
  have h1:=HLW.out x hx;(have h2:x∉G.all:=λhm=>by have:=hlt x hm;omega);refine⟨h2,λhm=>?_⟩;rcases AFt x hm with h|h;exact h2 h;omega
 have uk:Hid (EU w2 (AA ⟨w1.heap.size+2,0,AB⟩) 2 2 [(⟨nA,AA ⟨w1.heap.size,0,AB⟩,2,2⟩,[1,2]),(⟨nB,AA ⟨w1.heap.size+1,0,AB⟩,2,2⟩,[3,4])]):=AO (HFW.out.Ap hc2 λx hx=>(HD2.out x hx).1);have HL2:Hid (W.heap.size<=w2.heap.size):=AO hc2.size;clear hN hG0 h0 hne0 hev hf2 hb2 AFt hc2 hL2 hlt;clear hW;(go_wp2_with fail);refine (xm HEV.out HG2.out).mono ?_;rintro e w3 ⟨rfl,hc3⟩;have Gg:=AO hc3;clear hc3;(go_wp2_with fail);refine (sZ (HEV.out.Ap Gg.out AV) (Gg.out.cell HG2.out AV)).mono ?_;rintro e w4 ⟨rfl,hc4⟩;have OC:=AO (Gg.out.Ah hc4);clear hc4;(go_wp2_with fail);have TD:=AO (HF2.out.Cc OC.out);have hv:=qp TD.out i7 Aq;rw[HB2.out,v7] at hv;refine hv.mono ?_;clear hv;rintro e w5 ⟨A5,n5,c5,ds5,rfl,hd5,hv5,hc5,_⟩
 have hn5:n5=0:=by
  have h1:=hd5.rd.row.KF;(have h2:ds5=[]:=by simpa[BD] using hv5);subst h2;simpa[D9] using h1.symm
 subst hn5;have TE:=AO (OC.out.Ah hc5);have HF5:=AO (TD.out.Cc hc5);clear hd5 hv5 hc5;go_wp2_with fail
 have hp:=X5 HF5.out i7 (dst:=nD) ((uk.out.Es TE.out).take (k:=1) Aq) (λx hx=>(HD2.out x (by simp[bo,Ep] at hx⊢;omega)).2) (λx hx=>by
  have h1:=(HLW.out x (by simp[bo,Ep] at hx⊢;omega)).2;have h2:=HL2.out;have h3:=TE.out.size
  omega) AV (show (4*148+2*12+100:Nat)<=1073741824 by decide)
 rw[HB2.out] at hp;refine hp.mono ?_;clear hp;intro e w6 he6;change TJ w5 G2 (s7.Jo nD [(nA,[1,2])]).1 (s7.Jo nD [(nA,[1,2])]).2 e w6 at he6;rw[APv] at he6;obtain⟨v6,G6,L6,rfl,hev6,hf6,hb6,AL8,hc6,hL6⟩:=he6;change JX w6 v6 L6 [] at hev6;have hv6:v6=.nilIface:=hev6.nil_;subst hv6;have HF6:=AO hf6;have TZ:Hid (G6.b=G.b):=AO (hb6.trans HB2.out);have JF:Hid (AZ [] w w6):=AO (((CZ.out.trans HC2.out λx hx=>.inr (HN.out x hx)).Ah TE.out).trans hc6 λx hx=>.inr (HA2.out x hx));clear hev6 hf6 hb6 hc6 hL6;(go_wp2_with fail);have hv:=qp HF6.out i8 Aq;rw[TZ.out,w7] at hv;refine hv.mono ?_;clear hv;rintro e w8 ⟨A8,n8,c8,ds8,rfl,hd8,hv8,hc8,_⟩;have HC8:=AO (JF.out.Ah hc8);have HF8:=AO (HF6.out.Cc hc8);clear hc8
 obtain⟨d,rfl,hdn⟩: ∃d,ds8=[d]/\(d.1.nm,Ai d.2)=(nD,[(nA,[1,2])]):=by
  unfold BD at hv8;obtain⟨d,hd,h1⟩:=AF8.1 hv8;exact⟨d,hd,h1⟩
 obtain⟨hnm,hfv⟩:=O5 .. ▸hdn;obtain⟨f,hfl,hfe⟩:=AF8.1 hfv
 have hn8:n8=1:=by
  have h1:=hd8.rd.row.KF;simpa[D9] using h1.symm
 subst hn8;obtain⟨ad,rfl,hat⟩:=hd8.rd.row.ns (j:=0) (x:=d.1) rfl;have x0:=hat.c0;have x1:=hat.c1;rw[hnm] at x0
 have hn9:d.1.n=1:=by
  have h1:=(hd8.rd.ET d AV).row.KF;rw[hfl] at h1;simpa[Dq] using h1.symm
 rw[hn9] at x1;obtain⟨dA,hdA⟩: ∃dA,d.1.A=dA:=⟨_,rfl⟩;obtain⟨dc,hdc⟩: ∃dc,d.1.c=dc:=⟨_,rfl⟩;rw[hdA,hdc] at x1;have hz:ad.add (0*2)=ad:=rfl;rw[hz] at x0 x1;clear hd8 hat hfl hfe hnm hdn hv8 hfv hn9 hdA hdc;unfold nD at x0;(go_wp2_with fail);have hcl:=iK HF8.out i8 Aq;rw[TZ.out,d8] at hcl;refine hcl.mono ?_;clear hcl;intro e w9 he9;obtain⟨v9,G9,L9,rfl,AL9,hf9,hb9,ASZ,dU,hL9⟩:=he9;change JX w9 v9 L9 [] at AL9;have hv9:v9=.nilIface:=AL9.nil_;subst hv9
 have HC9:Hid (AZ [] w w9):=AO (HC8.out.trans dU λx hx=>by
  rcases AL8 x hx with h|h;exact .inr (HA2.out x h);have:=(CZ.out.trans HC2.out λx hx=>.inr (HN.out x hx)).size;have:=TE.out.size
  exact .inr Aa)
 clear AL9 hf9 hb9 ASZ dU hL9 AL8;go_wp2;go_ret;exact⟨rfl,HC9.out⟩
section
variable {D:Eg}{q:Int}{S:St}{T:Tr}{α:Type}
theorem TP(k:ByteArray)(v:α)(t:List (ByteArray×α)):without (Di k v t) k=without t k:=by
 induction t with
 |nil=>simp[Di,without]|cons p r ih=>
  rw[Di];split;rw[Eb,BU rfl];rw[Eb,Eb,ih]
theorem V6(k:ByteArray)(t:List (ByteArray×α)):without (without t k) k=without t k:=J6 (Jm k)
def EN.AHC:EN->Prop
 | .Cb d=>d=BO| .create d _ _=>d=BO| .rename _ _=>False| .remove d _=>d=BO| .rmdir d=>d=BO
theorem EN.AMA{c:EN}(h:c.AHC):without (c.on T) BO=without T BO:=by
 cases c with|rename a b=>exact h.elim|Cb d=>subst h;exact TP _ _ _|create d n i=>subst h;exact (TP _ _ _).trans (V6 _ _)|remove d n=>subst h;exact (TP _ _ _).trans (V6 _ _)|rmdir d=>subst h;exact V6 _ _
theorem iY: ∀{cs:List EN} {T:Tr},(∀c∈cs,c.AHC)->without (IL T cs) BO=without T BO
 | [],T,h=>rfl|c::r,T,h=>(iY (cs:=r) (T:=c.on T) λx hx=>h x (DD _ hx)).trans (EN.AMA (h c (Ee ..)))
structure Kept (U:Tr) (M:Nat) (f0:Nat->List Int) (S:St):Prop where
 safe:without S.safe BO=U
 EW: ∀c∈S.EW,c.AHC
 run:IL S.safe S.EW=S.seen
 len:M<=S.files.length
 ids: ∀p∈U,∀q∈p.2,q.2<M
 ET: ∀i<M,S.files.getD i ([],[])=(f0 i,[])
variable {U:Tr} {M:Nat} {f0:Nat->List Int} {S:St}
theorem Kept.seen(h:Kept U M f0 S):without S.seen BO=U:=by rw[<- h.run,iY h.EW,h.safe]
theorem X9(T:Tr)(g:Nat->List Int)(nm:ByteArray):NJ nm (T.map λp=>(p.1,p.2.map λq=>(q.1,g q.2)))=(without T nm).map λp=>(p.1,p.2.map λq=>(q.1,g q.2)):=by
 unfold NJ without;rw[lU];congr 1;apply lQ;intro p _;simp
theorem Yg{g g':Nat->List Int}(h: ∀p∈T,∀q∈p.2,g q.2=g' q.2):(T.map λp=>(p.1,p.2.map λq=>(q.1,g q.2)))=T.map λp=>(p.1,p.2.map λq=>(q.1,g' q.2)):=by
 apply Hm;intro p hp;congr 1;apply Hm;intro q hq;exact congrArg _ (h p hp q hq)
theorem Kept.bytes(h:Kept U M f0 S){i:Nat}(hi:i<M):S.bytes i=f0 i:=by
 unfold St.bytes;rw[h.ET i hi];simp[FY.all]
theorem Kept.left(h:Kept U M f0 S)(ks:List Bool)(names:Int):NJ BO (S.left ks names)=U.map λp=>(p.1,p.2.map λq=>(q.1,f0 q.2)):=by
 unfold St.left;rw[X9,iY (λc hc=>h.EW c (AF7 hc)),h.safe];apply Yg;intro p hp q hq;have hi:=h.ids p hp q hq;rw[dZ (by rw[h.ET _ hi]),h.bytes hi]
theorem Kept.view(h:Kept U M f0 S)(hd:S.down=false):NJ BO S.view=U.map λp=>(p.1,p.2.map λq=>(q.1,f0 q.2)):=by
 rw[Xz hd,X9,h.seen];exact Yg λp hp q hq=>h.bytes (h.ids p hp q hq)
theorem Kept.make(h:Kept U M f0 S){c:EN}(hc:c.AHC):Kept U M f0 (S.make c):=by
 refine⟨h.safe,λx hx=>?_,?_,h.len,h.ids,h.ET⟩
 ·rcases Bj.1 hx with hx|hx;exact h.EW x hx;rw[CB.1 hx];exact hc
 show IL S.safe (S.EW++[c])=c.on S.seen;rw[S9,h.run]
theorem Kept.remove(h:Kept U M f0 S)(n:ByteArray):Kept U M f0 (S.remove BO n).1:=by
 unfold St.remove;split;exact h;exact h.make rfl
theorem Kept.rmdir(h:Kept U M f0 S):Kept U M f0 (S.rmdir BO).1:=by
 unfold St.rmdir;split;exact h;split;exact h;exact h.make rfl
theorem Kept.names(h:Kept U M f0 S):Kept U M f0 S.names.1:=by
 unfold St.names;split;exact h;exact⟨h.seen,λc hc=>(BH hc).elim,rfl,h.len,h.ids,h.ET⟩
theorem Kept.EK(h:Kept U M f0 S): ∀l:List ByteArray,Kept U M f0 (St.EK BO S l).1:=by
 intro l
 induction l generalizing S with
 |nil=>exact h|cons n r ih=>
  unfold St.EK;split;exact ih (h.remove n);exact h.remove n
theorem Kept.clean(h:Kept U M f0 S):Kept U M f0 S.clean.1:=by
 unfold St.clean St.MB;split
 ·split
  ·split
   ·split
    ·split;exact (h.EK _).rmdir.names;exact (h.EK _).rmdir
    exact h.EK _
   exact h
  exact h
 exact h
structure GX (S S':St):Prop where
 files:S'.files=S.files
 wr:S'.wr=S.wr
 BK:S'.BK=S.BK
 stop:S'.stop=S.stop
theorem GX.refl(S:St):GX S S:=⟨rfl,rfl,rfl,rfl⟩
theorem GX.trans{S S1 S2:St}(h:GX S S1)(k:GX S1 S2):GX S S2:=⟨k.1.trans h.1,k.2.trans h.2,k.3.trans h.3,k.4.trans h.4⟩
theorem GX.remove(S:St)(d n:ByteArray):GX S (S.remove d n).1:=by
 unfold St.remove;split<;>exact⟨rfl,rfl,rfl,rfl⟩
theorem GX.rmdir(S:St)(d:ByteArray):GX S (S.rmdir d).1:=by
 unfold St.rmdir;split;exact .refl S;split<;>exact⟨rfl,rfl,rfl,rfl⟩
theorem GX.names(S:St):GX S S.names.1:=by
 unfold St.names;split<;>exact⟨rfl,rfl,rfl,rfl⟩
theorem GX.EK(d:ByteArray): ∀(l:List ByteArray) (S:St),GX S (St.EK d S l).1
 | [],S=>.refl S
 |n::r,S=>by
  unfold St.EK;split;exact (GX.remove S d n).trans (GX.EK d r _);exact GX.remove S d n
theorem GX.clean(S:St):GX S S.clean.1:=by
 unfold St.clean St.MB;split
 ·split
  ·split
   ·split
    ·split;exact ((GX.EK _ _ _).trans (GX.rmdir _ _)).trans (GX.names _);exact (GX.EK _ _ _).trans (GX.rmdir _ _)
    exact GX.EK _ _ _
   exact .refl S
  exact .refl S
 exact .refl S
theorem iZ{s:ByteArray}:(idx s (T.map Ac)).isSome=(BJ T s).isSome:=by
 rw[ADF];by_cases h:s∈T.map Ac;rw[GV.2 h];simpa using h;rw[Ey.2 h];simpa using h
theorem ADj{d:ByteArray}(h:(S.rmdir d).2=0):BJ (S.rmdir d).1.seen d=AB:=by
 unfold St.rmdir at h⊢;split
 ·rename_i h0;rw[BU h0] at h;exact Ak h h0
 rename_i h0;rw[BL h0] at h;split
 ·rename_i h1;rw[BU h1] at h;cases h
 exact Ey.2 (Jm d)
theorem jy(h:S.clean.2=0):BJ S.clean.1.seen BO=AB:=by
 unfold St.clean St.MB at h⊢;split
 ·rename_i h0;rw[BU h0] at h;split
  ·rename_i h1;rw[BU h1] at h;split
   ·rename_i h2;rw[BU h2] at h;split
    ·rename_i h3;rw[BU h3] at h;split
     ·rename_i h4;rw[BU h4] at h;have:=ADj h4;unfold St.names;split<;>exact this
     rename_i h4;rw[BL h4] at h;exact Ak h h4
    rename_i h3;rw[BL h3] at h;exact Ak h h3
   rename_i h2;rw[BL h2] at h;exact Ak h h2
  rename_i h1;unfold St.NF at h0 h1;split at h0;(cases h0);rename_i hd;rw[BL hd,iZ] at h1;simpa using h1
 rename_i h0;rw[BL h0] at h;exact Ak h h0
def Quiet (S:St):Prop:=S.safe=S.seen/\S.EW=[]
theorem AA6(h:S.names.2=0):Quiet S.names.1:=by
 unfold St.names at h⊢;split
 ·rename_i h0;rw[BU h0] at h;cases h
 exact⟨rfl,rfl⟩
theorem yC: ∀(l:List ByteArray) {S:St} {F:KH},S.stop<0->BJ S.seen BO=AA F->(F.map Ac).Nodup->l.Nodup->(∀n,n∈l↔n∈F.map Ac)->(∀q∈F,CO q.1=true)->
  (St.EK BO S l).2=0/\BJ (St.EK BO S l).1.seen BO=AA []
 | [],S,F,hs,hF,h1,h2,h3,h4=>by
  cases F with|nil=>exact⟨rfl,hF⟩|cons q r=>exact Ak ((h3 q.1).2 AV) AV
 |n::r,S,F,hs,hF,h1,h2,h3,h4=>by
  obtain⟨hn,hr⟩:=IB.1 h2;have hm:=(h3 n).1 (Ee ..);obtain⟨q,hq,oJ⟩:=CG.1 hm;(have hg:CO n=true:=by rw[<- oJ];exact h4 q hq);have hag:BJ F n=AA q.2:=by rw[<- oJ];exact LU h1 hq
  have hf:S.Om BO n=(AA q.2,0):=by
   unfold St.Om;rw[Yb (L8 hs) (by simp[hg,show CO BO=true by kernel_rfl]) hF,BL AV,FT hF,hag]
  have he:S.remove BO n=(S.make (.remove BO n),0):=by
   unfold St.remove;rw[hf]
  unfold St.EK;rw[he,BU rfl];refine yC r (F:=without F n) (S:=S.make (.remove BO n)) hs ?_ ?_ hr ?_ ?_
  ·show BJ (Di BO (without (FQ S.seen BO) n) (without S.seen BO)) BO=_;rw[TB,BU rfl,FT hF]
  exact h1.sublist (List.filter_sublist.map _)
  ·intro m;constructor
   ·intro hm;obtain⟨p,hp,rfl⟩:=CG.1 ((h3 m).1 (DD _ hm));exact CG.2 ⟨p,FP.2 ⟨hp,λe=>hn (by rw[<- e];exact hm)⟩,rfl⟩
   intro hm;obtain⟨p,hp,rfl⟩:=CG.1 hm;obtain⟨hp,hne⟩:=FP.1 hp;rcases BF.1 ((h3 p.1).2 (CG.2 ⟨p,hp,rfl⟩)) with h|h;exact Ak h hne;exact h
  exact λp hp=>h4 p (FP.1 hp).1
theorem Rz:CO BO=true:=by kernel_rfl
theorem kC{B:Nat}(hs:S.stop<0)(hi:Inv B S):S.clean.2=0:=by
 have hd:=L8 hs;(have hds:S.NF=(S.seen.map Ac,0):=by unfold St.NF;rw[BL (by simp[hd])]);unfold St.clean;rw[hds,BU rfl,iZ];split
 ·rename_i h1;obtain⟨F,hF⟩:=AF2.1 h1
  have hl:S.list BO=(F.map Ac,0):=by
   unfold St.list;rw[Yb hd (by simp[Rz]) hF,BL AV,FT hF]
  rw[hl,BU rfl];have hv:=hi.val.Xm BO;rw[FT hF] at hv;obtain⟨k1,k2⟩:=yC (F.map Ac) hs hF hv.1.nodup hv.1.nodup (λ_=>nG) hv.2.2;unfold St.MB;rw[BU k1];have hs1:(St.EK BO S (F.map Ac)).1.stop<0:=by rw[(GX.EK BO _ S).stop];exact hs
  have hr:(St.rmdir (St.EK BO S (F.map Ac)).1 BO).2=0:=by
   unfold St.rmdir;rw[Yb (L8 hs1) (by simp[Rz]) k2,BL AV,FT k2,BL AV]
  rw[BU hr];unfold St.names;rw[BL];rw[L8 (by rw[(GX.rmdir _ _).stop];exact hs1)];simp
 rfl
theorem Kept.open_{s:Int}(h:Eo D q=0):Kept (without (Ha 0 D) BO) (Hu D) (λi=>(dat D).getD i []) (Gw D q s):=by
 refine⟨rfl,λc hc=>(BH hc).elim,rfl,by simp[Gw,VE],λp hp q hq=>?_,λi hi=>?_⟩
 ·have:=YY p (FP.1 hp).1 q hq;omega
 have hl:i<(dat D).length:=by
  have:=VE D;rw[AC7,DY] at this;omega
 rw[open_bytes (Bo hl)];simp[Gj,hl]
theorem AIf(h:Eo D q=0):((without (Ha 0 D) BO).map λp=>(p.1,p.2.map λq=>(q.1,(λi=>(dat D).getD i []) q.2)))=NJ BO D:=by
 refine (X9 (Ha 0 D) (λi=>(dat D).getD i []) BO).symm.trans ?_;congr 1;exact iI (λi=>(dat D).getD i []) λk x hk=>by simp[Gj,hk]
theorem AFu(nm:ByteArray)(D:Eg):E5 (NJ nm D)<=E5 D:=by
 unfold E5 NJ
 induction D with
 |nil=>simp|cons d r ih=>
  rw[XC];split;simp only[BN,Bz] at ih⊢;omega;simp only[BN,Bz] at ih⊢;omega
end
section
variable {F:KH}{T:Tr}{α β:Type}
abbrev J3:=List (ByteArray×List Int)
def Ou (fs:J3):J3:=fs.foldl (λa x=>Di x.1 x.2 a) []
theorem su(fs:J3)(x:ByteArray×List Int):Ou (fs++[x])=Di x.1 x.2 (Ou fs):=by unfold Ou;rw[List.foldl_append];rfl
theorem V7(fs:J3):(Ou fs).Perm fs:=by
 have h: ∀(fs a:J3),(fs.foldl (λa x=>Di x.1 x.2 a) a).Perm (a++fs):=by
  intro fs
  induction fs with
  |nil=>intro a;simp
  |cons x r ih=>
   intro a;refine (ih _).trans (((G8 x.1 x.2 a).append_right r).trans ?_);exact List.perm_middle.symm
 have:=h fs [];rw[EE] at this;exact this
theorem aO(g:α->β)(n:ByteArray)(i:α)(F:List (ByteArray×α)):(Di n i F).map (λq=>(q.1,g q.2))=Di n (g i) (F.map λq=>(q.1,g q.2)):=by
 induction F with
 |nil=>rfl|cons p r ih=>
  rw[Di,BN,Di];by_cases h:Jz n p.1=true;rw[BU h,BU h];rfl;rw[BL h,BL h,BN,ih]
theorem AA7(g:α->β)(n:ByteArray)(F:List (ByteArray×α)):(without F n).map (λq=>(q.1,g q.2))=without (F.map λq=>(q.1,g q.2)) n:=by
 induction F with
 |nil=>rfl|cons p r ih=>
  rw[Eb,BN,Eb];by_cases h:p.1=n;rw[BU h,BU h,ih];rw[BL h,BL h,BN,ih]
theorem V8(nm:ByteArray)(D:Eg):NJ nm D=without D nm:=by
 unfold NJ without;congr 1;funext d;simp
def VK (D:Eg) (dst:ByteArray) (fs:J3):Eg:=Di dst (Ou fs) (NJ dst D)
section
variable (U:Tr) (M:Nat) (f0:Nat->List Int) (s q:Int)
structure Kq (S:St):Prop where
 kept:Kept U M f0 S
 stop:S.stop=s
 BK:S.BK=q
 nd:(S.seen.map Ac).Nodup
def Kx (S:St):Prop:=Kq U M f0 s q S/\(s<0->(BJ S.seen BO).isSome=true)
structure Mid (pre:J3) (S:St):Prop where
 kq:Kq U M f0 s q S
 nd:(pre.map Ac).Nodup
 Xm: ∃F,BJ S.seen BO=AA F/\(∀x∈F,M<=x.2/\x.2<S.files.length)/\F.map (λx=>(x.1,S.files.getD x.2 ([],[])))=(Ou pre).map λx=>(x.1,(x.2,[]))
structure UL (pre:J3) (n:ByteArray) (ET:FY) (S:St):Prop where
 kq:Kq U M f0 s q S
 good:CO n=true
 nd:(pre.map Ac).Nodup
 new:n∉pre.map Ac
 Xm: ∃F i,BJ S.seen BO=AA (Di n i F)/\n∉F.map Ac/\M<=i/\i<S.files.length/\S.files.getD i ([],[])=ET/\(∀x∈F,M<=x.2/\x.2<i)/\F.map (λx=>(x.1,S.files.getD x.2 ([],[])))=(Ou pre).map λx=>(x.1,(x.2,[]))
end
section
variable {U:Tr} {M:Nat} {f0:Nat->List Int} {s q:Int} {S:St} {pre:J3} {n:ByteArray} {ET:FY}
theorem Kq.up(h:Kq U M f0 s q S)(hs:s<0):S.down=false:=L8 (by rw[h.stop];exact hs)
theorem Kq.modify(h:Kq U M f0 s q S){x:Nat}(hx:M<=x)(φ:FY->FY)(wr':List Nat)(st:Nat):Kq U M f0 s q {S with files:=S.files.modify x φ,wr:=wr',steps:=st}:=
 ⟨⟨h.kept.safe,h.kept.EW,h.kept.run,by simpa using h.kept.len,h.kept.ids,λi hi=>by
  show (S.files.modify x φ).getD i ([],[])=_
  rw[getD_modify,BL Aa];exact h.kept.ET i hi⟩,h.stop,h.BK,h.nd⟩
def Gq (pre:J3) (n:ByteArray):Int:=if CO n=false then 81 else if (BJ pre n).isSome=true then 83 else 0
theorem AMB(h:(T.map Ac).Nodup)(d:ByteArray)(F:KH):((Di d F (without T d)).map Ac).Nodup:=by
 refine (((G8 d F (without T d)).map Ac).nodup_iff).2 ?_;exact IB.2 ⟨Jm d,h.sublist (List.filter_sublist.map _)⟩
theorem tC(h:F.map (λx=>(x.1,S.files.getD x.2 ([],[])))=(Ou pre).map λx=>(x.1,(x.2,([]:List (List Int)))))(n:ByteArray):n∈F.map Ac↔n∈pre.map Ac:=by
 have h1:=congrArg (List.map Ac) h;rw[En,En] at h1;have h2:F.map Ac=(Ou pre).map Ac:=h1;rw[h2];exact ((V7 pre).map _).mem_iff
theorem Mid.create(h:Mid U M f0 s q pre S)(n:ByteArray):
  (((S.create BO n).2=0/\UL U M f0 s q pre n ([],[]) (S.create BO n).1)\/((S.create BO n).2≠0/\Kx U M f0 s q (S.create BO n).1))/\(s<0->(S.create BO n).2=Gq pre n):=by
 obtain⟨F,hF,hid,hm⟩:=h.Xm;unfold St.create
 cases hd:S.down with
 |true=>
  rw[YZ hd,BU Aq];exact⟨.inr ⟨AV,h.kq,λ_=>by rw[hF];rfl⟩,λhs=>by rw[h.kq.up hs] at hd;cases hd⟩
 |false=>
  cases hg:CO n with
  |false=>
   (have ha:S.ask true [BO,n]=81:=by unfold St.ask;rw[BL (by simp[hd]),BU (by simp[hg])]);rw[ha,BU Aq];exact⟨.inr ⟨AV,h.kq,λ_=>by rw[hF];rfl⟩,λ_=>by unfold Gq;rw[BU hg]⟩
  |true=>
   rw[Yb hd (by simp[hg,Rz]) hF,BL AV,FT hF];by_cases hn:n∈pre.map Ac
   ·rw[BU (GV.2 ((tC hm n).2 hn))];exact⟨.inr ⟨AV,h.kq,λ_=>by rw[hF];rfl⟩,λ_=>by unfold Gq;rw[BL (by simp[hg]),BU (GV.2 hn)]⟩
   have hnF:n∉F.map Ac:=λe=>hn ((tC hm n).1 e);rw[BL (λe=>hnF (GV.1 e))];refine⟨.inl ⟨rfl,?_,hg,h.nd,hn,F,S.files.length,?_,hnF,h.kq.kept.len,?_,?_,hid,?_⟩,λ_=>by unfold Gq;rw[BL (by simp[hg]),BL λe=>hn (GV.1 e)]⟩
   ·refine⟨Kept.make (S:={S with files:=S.files++[([],[])]}) ⟨h.kq.kept.safe,h.kq.kept.EW,h.kq.kept.run,?_,h.kq.kept.ids,λi hi=>?_⟩ rfl,h.kq.stop,h.kq.BK,AMB h.kq.nd _ _⟩
    ·show M<=(S.files++[([],[])]).length;rw[IA];have:=h.kq.kept.len;omega
    show (S.files++[([],[])]).getD i ([],[])=_;rw[Z5];exact h.kq.kept.ET i hi
   ·show BJ (Di BO (Di n S.files.length (FQ S.seen BO)) (without S.seen BO)) BO=_;rw[TB,BU rfl,FT hF]
   ·show S.files.length<(S.files++[([],[])]).length;simp
   ·show (S.files++[([],[])]).getD S.files.length ([],[])=_;rw[Z5,Gj,H9 (Bd _)];rfl
   rw[<- hm];apply Hm;intro x hx;show (x.1,(S.files++[([],[])]).getD x.2 ([],[]))=_;rw[Z5]
theorem UL.Om(h:UL U M f0 s q pre n ET S): ∃F i,BJ S.seen BO=AA (Di n i F)/\n∉F.map Ac/\M<=i/\i<S.files.length/\S.files.getD i ([],[])=ET/\(∀x∈F,M<=x.2/\x.2<i)/\F.map (λx=>(x.1,S.files.getD x.2 ([],[])))=(Ou pre).map (λx=>(x.1,(x.2,[])))/\S.Om BO n=if S.down=true then (AB,80) else (AA i,0):=by
 obtain⟨F,i,hF,hn,h1,h2,h3,h4,h5⟩:=h.Xm;refine⟨F,i,hF,hn,h1,h2,h3,h4,h5,?_⟩;unfold St.Om
 cases hd:S.down with
 |true=>rw[YZ hd,BU Aq,BU rfl]|false=>
  rw[Yb hd (by simp[h.good,Rz]) hF,BL AV,FT hF,Qc hn,BU rfl,BL AV]
theorem kD{i:Nat}(h4: ∀x∈F,M<=x.2/\x.2<i)(fs:List FY)(φ:FY->FY):F.map (λx=>(x.1,(fs.modify i φ).getD x.2 ([],[])))=F.map λx=>(x.1,fs.getD x.2 ([],[])):=by
 apply Hm;intro x hx;rw[getD_modify,BL (by have:=(h4 x hx).2;omega)]
def u0 (U:Tr) (f0:Nat->List Int):Nat:=bytesOf (U.map λp=>(p.1,p.2.map λx=>(x.1,f0 x.2)))
theorem AIg(f:Nat->Nat)(h:(T.map Ac).Nodup){d:ByteArray}(hF:BJ T d=AA F):Wt f T=Wf f F+Wt f (without T d):=by
 induction T with
 |nil=>cases hF|cons p r ih=>
  obtain⟨h1,h2⟩:=IB.1 h;rw[FX] at hF;rw[Eb];by_cases he:p.1=d
  ·rw[BU he] at hF;rw[BU he,J6 (by rw[<- he];exact h1)];injection hF with hF;subst hF;rfl
  rw[BL he] at hF;rw[BL he];have:=ih h2 hF;simp only[Wt,BN,Bz] at this⊢;omega
theorem Kq.used(h:Kq U M f0 s q S)(hs:s<0){F:KH}(hF:BJ S.seen BO=AA F):S.used=u0 U f0+Wf (rD S) F:=by
 rw[ALU (h.up hs)];unfold St.tot;rw[AIg _ h.nd hF,h.kept.seen,mg];congr 1;unfold u0 bytesOf Wt Wf;rw[En];congr 1;apply Hm;intro p hp;simp only[Function.comp_apply,En];congr 1;apply Hm;intro x hx;exact congrArg NZ (h.kept.bytes (h.kept.ids p hp x hx))
theorem ADk(h:F.map (λx=>(x.1,S.files.getD x.2 ([],[])))=(Ou pre).map λx=>(x.1,(x.2,([]:List (List Int))))):Wf (rD S) F=Df pre:=by
 have h1:=congrArg (List.map λz:ByteArray×FY=>z.2.all.length) h;rw[En,En] at h1
 have h2:F.map (λx=>rD S x.2)=(Ou pre).map λx=>x.2.length:=by
  refine Eq.trans h1 (Hm λx _=>?_);simp[FY.all]
 unfold Wf;rw[h2];exact ((V7 pre).map _).sum_nat
theorem UL.used(h:UL U M f0 s q pre n ET S)(hs:s<0):S.used=u0 U f0+(Df pre+ET.all.length):=by
 obtain⟨F,i,hF,hn,h1,h2,h3,h4,h5⟩:=h.Xm;rw[h.kq.used hs hF,xW,ADk h5];(have:rD S i=ET.all.length:=by unfold rD St.bytes;rw[h3]);omega
theorem UL.write(h:UL U M f0 s q pre n ET S){xs:List Int}(hx:xs≠[]):
  (((S.write BO n xs).2=0/\UL U M f0 s q pre n (ET.1,ET.2++[xs]) (S.write BO n xs).1)\/((S.write BO n xs).2≠0/\Kx U M f0 s q (S.write BO n xs).1))/\
   (s<0->(S.write BO n xs).2=if q<(u0 U f0+(Df pre+ET.all.length):Nat)+xs.length then 85 else 0):=by
 obtain⟨F,i,hF,hn,h1,h2,h3,h4,h5,hf⟩:=h.Om;unfold St.write
 cases hd:S.down with
 |true=>
  rw[hf,BU hd];exact⟨.inr ⟨AV,h.kq,λ_=>by rw[hF];rfl⟩,λhs=>by rw[h.kq.up hs] at hd;cases hd⟩
 |false=>
  rw[hf,BL (by simp[hd])];simp only;rw[BL hx];refine⟨?_,λhs=>?_⟩
  ·split;exact .inr ⟨AV,h.kq,λ_=>by rw[hF];rfl⟩;refine .inl ⟨rfl,h.kq.modify h1 _ _ _,h.good,h.nd,h.new,F,i,hF,hn,h1,by simpa using h2,?_,h4,?_⟩
   ·show (S.files.modify i _).getD i ([],[])=_;rw[getD_modify,BU ⟨rfl,h2⟩,h3]
   exact (kD h4 _ _).trans h5
  rw[<- h.used hs,<- h.kq.BK];split<;>rfl
theorem UL.puts: ∀(C:List (List Int)) {ET:FY} {S:St},(∀p∈C,p≠[])->UL U M f0 s q pre n ET S->
  (((S.puts n C).2=0/\UL U M f0 s q pre n (ET.1,ET.2++C) (S.puts n C).1)\/((S.puts n C).2≠0/\Kx U M f0 s q (S.puts n C).1))/\
   (s<0->(S.puts n C).2=if C≠[]/\q<(u0 U f0+(Df pre+ET.all.length):Nat)+C.flatten.length then 85 else 0)
 | [],ET,S,_,h=>⟨.inl ⟨rfl,by simpa[St.puts] using h⟩,λ_=>by simp[St.puts]⟩
 |x::r,ET,S,hC,h=>by
  obtain⟨k1,k2⟩:=h.write (hC x (Ee ..));unfold St.puts;rcases k1 with ⟨e1,hm⟩|⟨e1,hk⟩
  ·obtain⟨j1,j2⟩:=UL.puts r (λp hp=>hC p (DD _ hp)) hm;rw[BU e1];rw[KJ] at j1;refine⟨j1,λhs=>?_⟩;rw[j2 hs];have k3:=(k2 hs).symm.trans e1;(have hq: ¬q<(u0 U f0+(Df pre+ET.all.length):Nat)+x.length:=λe=>by rw[BU e] at k3;cases k3);(have hal:(FY.all (ET.1,ET.2++[x])).length=ET.all.length+x.length:=by simp[FY.all];omega);rw[hal,Js,IA];by_cases hr:r=[]
   ·subst hr;rw[BL AV,BL];simp only[List.flatten_nil,List.length_nil];omega
   by_cases hz:q<(u0 U f0+(Df pre+(ET.all.length+x.length)):Nat)+r.flatten.length;rw[BU ⟨hr,hz⟩,BU ⟨AV,Aa⟩];rw[BL (λe=>hz e.2),BL (λe=>hz Aa)]
  rw[BL e1];refine⟨.inr ⟨e1,hk⟩,λhs=>?_⟩;have k3:=k2 hs;rw[k3] at e1⊢;by_cases hz:q<(u0 U f0+(Df pre+ET.all.length):Nat)+x.length;rw[BU hz,BU ⟨AV,by rw[Js,IA];omega⟩];rw[BL hz] at e1;exact Ak rfl e1
theorem UL.sync(h:UL U M f0 s q pre n ET S):
  (((S.sync BO n).2=0/\Mid U M f0 s q (pre++[(n,ET.all)]) (S.sync BO n).1)\/((S.sync BO n).2≠0/\Kx U M f0 s q (S.sync BO n).1))/\(s<0->(S.sync BO n).2=0):=by
 obtain⟨F,i,hF,hn,h1,h2,h3,h4,h5,hf⟩:=h.Om;unfold St.sync
 cases hd:S.down with
 |true=>
  rw[hf,BU hd];exact⟨.inr ⟨AV,h.kq,λ_=>by rw[hF];rfl⟩,λhs=>by rw[h.kq.up hs] at hd;cases hd⟩
 |false=>
  rw[hf,BL (by simp[hd])];refine⟨.inl ⟨rfl,h.kq.modify h1 _ _ _,?_,Di n i F,hF,λx hx=>?_,?_⟩,λ_=>rfl⟩
  ·rw[FK];exact (List.perm_append_singleton n (pre.map Ac)).nodup_iff.2 (IB.2 ⟨h.new,h.nd⟩)
  ·show M<=x.2/\x.2<(S.files.modify i _).length;rw[List.length_modify];rcases Nr.1 hx with rfl|hx;exact⟨h1,h2⟩;have:=h4 x hx;omega
  show (Di n i F).map (λx=>(x.1,(S.files.modify i (λf=>(FY.all f,[]))).getD x.2 ([],[])))=_;rw[aO (λj=>(S.files.modify i (λf=>(FY.all f,[]))).getD j ([],[])),su,aO (λd=>(d,[])),kD h4,h5,getD_modify,BU ⟨rfl,h2⟩,h3]
def Ov (q:Int) (u:Nat) (i:Nat) (pre:J3):J3->List JG
 | []=>[]|f::r=>if Gq pre f.1≠0 then [⟨{data:=#[99,114,101,97,116,101]},i,Gq pre f.1⟩] else if f.2≠[]/\q<(u:Int)+Df (pre++[f]) then [⟨{data:=#[119,114,105,116,101]},i,85⟩] else Ov q u (i+1) (pre++[f]) r
theorem Qe(q:Int)(u i:Nat)(pre:J3)(f:ByteArray×List Int)(r:J3):Ov q u i pre (f::r)=if Gq pre f.1≠0 then [⟨{data:=#[99,114,101,97,116,101]},i,Gq pre f.1⟩] else if f.2≠[]/\q<(u:Int)+Df (pre++[f]) then [⟨{data:=#[119,114,105,116,101]},i,85⟩] else Ov q u (i+1) (pre++[f]) r:=rfl
theorem AMC{xs:List Int}:V4 xs=[]↔xs=[]:=by
 constructor
 ·intro h;have:=Z8 511 _ xs rfl;rw[show KZ 511 xs=[] from h] at this;exact this.symm
 rintro rfl;exact VJ 511
theorem yD(xs:List Int):(V4 xs).flatten=xs:=Z8 511 _ xs rfl
theorem Mid.files: ∀(fs:J3) (i:Nat) {pre:J3} {S:St},Mid U M f0 s q pre S->
  (((S.runT (Gy i fs)).2=[]/\Mid U M f0 s q (pre++fs) (S.runT (Gy i fs)).1)\/((S.runT (Gy i fs)).2≠[]/\Kx U M f0 s q (S.runT (Gy i fs)).1))/\(s<0->(S.runT (Gy i fs)).2=Ov q (u0 U f0) i pre fs)
 | [],i,pre,S,h=>⟨.inl ⟨rfl,by rw[Ii];exact h⟩,λ_=>rfl⟩
 |f::r,i,pre,S,h=>by
  have e0:Gy i (f::r)=⟨{data:=#[99,114,101,97,116,101]},i,.create f.1⟩::⟨{data:=#[119,114,105,116,101]},i,.write f.1 f.2⟩::⟨{data:=#[115,121,110,99]},i,.sync f.1⟩::Gy (i+1) r:=rfl;rw[e0];obtain⟨k1,k2⟩:=h.create f.1;have a1:S.act (.create f.1)=S.create BO f.1:=rfl;rcases k1 with ⟨e1,hm⟩|⟨e1,hk⟩
  ·rw[Fh (by rw[a1];exact e1),a1];generalize (S.create BO f.1).1=S1 at hm;obtain⟨j1,j2⟩:=hm.puts (V4 f.2) (λp hp e=>by have:=(xZ 511 _ f.2 rfl p hp).1;rw[e] at this;simp at this);have a2:S1.act (.write f.1 f.2)=S1.puts f.1 (V4 f.2):=rfl
   have hw:s<0->(S1.puts f.1 (V4 f.2)).2=if f.2≠[]/\q<(u0 U f0:Int)+Df (pre++[f]) then 85 else 0:=λhs=>by
    rw[j2 hs,yD,Rf];(have hz:(q<(u0 U f0+(Df pre+(FY.all ([],[])).length):Nat)+(f.2.length:Int))↔q<(u0 U f0:Int)+(Df pre+f.2.length:Nat):=by simp[FY.all];omega);simp only[ne_eq,AMC,hz]
   have hd0:s<0->Gq pre f.1=0:=λhs=>(k2 hs).symm.trans e1;rcases j1 with ⟨e2,hm2⟩|⟨e2,hk2⟩
   ·rw[Fh (by rw[a2];exact e2),a2];generalize (S1.puts f.1 (V4 f.2)).1=S2 at hm2;obtain⟨l1,l2⟩:=hm2.sync;have a3:S2.act (.sync f.1)=S2.sync BO f.1:=rfl;rcases l1 with ⟨e3,hm3⟩|⟨e3,hk3⟩
    ·rw[Fh (by rw[a3];exact e3),a3];(have hfa:(f.1,FY.all (([]:List Int),([]:List (List Int))++V4 f.2))=f:=by simp[FY.all,yD]);simp only[hfa] at hm3;obtain⟨m1,m2⟩:=Mid.files r (i+1) hm3;rw[KJ] at m1;refine⟨m1,λhs=>?_⟩;rw[m2 hs];rw[Qe,BL (by rw[hd0 hs];simp),BL];intro e;have:=(hw hs).symm.trans e2;rw[BU e] at this;cases this
    rw[NL (by rw[a3]) e3,a3];exact⟨.inr ⟨AV,hk3⟩,λhs=>Ak (l2 hs) e3⟩
   rw[NL (by rw[a2]) e2,a2];refine⟨.inr ⟨AV,hk2⟩,λhs=>?_⟩;rw[Qe,BL (by rw[hd0 hs];simp)];have h5:=hw hs;by_cases hz:f.2≠[]/\q<(u0 U f0:Int)+Df (pre++[f])
   ·rw[BU hz] at h5;rw[BU hz];simp only[h5]
   rw[BL hz] at h5;exact Ak h5 e2
  rw[NL (by rw[a1]) e1,a1];refine⟨.inr ⟨AV,hk⟩,λhs=>?_⟩;have h5:=k2 hs;rw[Qe,BU (by rw[<- h5];exact e1)];simp only[h5]
end
end
section
variable {U:Tr} {M:Nat} {f0:Nat->List Int} {s q:Int} {S:St} {pre fs:J3} {dst:ByteArray}
def Q8 (U:Tr) (f0:Nat->List Int):Eg:=U.map λp=>(p.1,p.2.map λx=>(x.1,f0 x.2))
theorem yE: ∀(a b:List JH) (S:St),S.runT (a++b)=if (S.runT a).2=[] then (S.runT a).1.runT b else S.runT a
 | [],b,S=>by rw[EE,BU (by rfl)];rfl
 |t::r,b,S=>by
  by_cases h:(S.act t.d).2=0;rw[Dn,Fh h,Fh h];exact yE r b _;rw[Dn,NL rfl h,NL rfl h,BL AV]
structure Done (U:Tr) (M:Nat) (f0:Nat->List Int) (s q:Int) (fs:J3) (dst:ByteArray) (S:St):Prop where
 mid: ∃S1,Mid U M f0 s q fs S1/\S1.safe=S1.seen/\S1.files=S.files/\S.seen=EN.on S1.seen (.rename BO dst)/\((S.safe=S1.seen/\S.EW=[.rename BO dst]/\S.down=true)\/(S.safe=S.seen/\S.EW=[]))
 stop:S.stop=s
theorem Done.tree{S1:St}(h:Mid U M f0 s q fs S1)(hd:dst≠BO){g:Nat->List Int}(hg: ∀i,i<M->g i=f0 i)(hg2: ∀i x,S1.files.getD i ([],[])=(x,[])->g i=x):
  (EN.on S1.seen (.rename BO dst)).map (λp=>(p.1,p.2.map λx=>(x.1,g x.2)))=VK (Q8 U f0) dst fs/\BJ (EN.on S1.seen (.rename BO dst)) BO=AB:=by
 obtain⟨F,hF,hid,hm⟩:=h.Xm;refine⟨?_,?_⟩
 ·show (Di dst (FQ S1.seen BO) (without (without S1.seen BO) dst)).map _=_;rw[FT hF,h.kq.kept.seen,aO (λF:KH=>F.map λx=>(x.1,g x.2)),AA7 (λF:KH=>F.map λx=>(x.1,g x.2))];unfold VK Q8;rw[V8];congr 1
  ·have h1:=congrArg (List.map λz:ByteArray×FY=>(z.1,z.2.1)) hm;rw[En,En] at h1;rw[show Ou fs=List.map ((λz:ByteArray×FY=>(z.1,z.2.1))∘λx=>(x.1,(x.2,[]))) (Ou fs) from (List.map_id _).symm.trans (Hm λx _=>rfl),<- h1];apply Hm;intro x hx;have h2:(x.1,S1.files.getD x.2 ([],[]))∈F.map (λx=>(x.1,S1.files.getD x.2 ([],[]))):=CG.2 ⟨x,hx,rfl⟩;rw[hm] at h2;obtain⟨z,_,hz⟩:=CG.1 h2;injection hz with hz1 hz2;show (x.1,g x.2)=(x.1,(S1.files.getD x.2 ([],[])).1);rw[hg2 x.2 z.2 hz2.symm,<- hz2]
  congr 1;exact Yg λp hp x hx=>hg _ (h.kq.kept.ids p hp x hx)
 rw[Ey];intro e;have h3:=(((G8 dst (FQ S1.seen BO) (without (without S1.seen BO) dst)).map Ac).mem_iff).1 e;rcases BF.1 h3 with h4|h4;exact hd h4.symm;obtain⟨p,hp,he⟩:=CG.1 h4;exact (FP.1 (FP.1 hp).1).2 he
theorem Mid.bytes{S1:St}(h:Mid U M f0 s q fs S1){S:St}(hf:S1.files=S.files)(ks:List Bool):(∀i,i<M->S.after ks i=f0 i)/\(∀i x,S1.files.getD i ([],[])=(x,[])->S.after ks i=x)/\(∀i,i<M->S.bytes i=f0 i)/\(∀i x,S1.files.getD i ([],[])=(x,[])->S.bytes i=x):=by
 (have a: ∀i x,S1.files.getD i ([],[])=(x,[])->S.bytes i=x:=λi x e=>by unfold St.bytes;rw[<- hf,e];simp[FY.all]);(have b: ∀i x,S1.files.getD i ([],[])=(x,[])->S.after ks i=x:=λi x e=>by rw[dZ (by rw[<- hf,e])];exact a i x e);exact⟨λi hi=>b i _ (h.kq.kept.ET i hi),b,λi hi=>a i _ (h.kq.kept.ET i hi),a⟩
theorem tH{T:Tr}(g:Nat->List Int)(h:BJ T BO=AB):NJ BO (T.map λp=>(p.1,p.2.map λx=>(x.1,g x.2)))=T.map λp=>(p.1,p.2.map λx=>(x.1,g x.2)):=by rw[X9,J6 (Ey.1 h)]
theorem Done.left(h:Done U M f0 s q fs dst S)(hd:dst≠BO)(ks:List Bool)(names:Int):(S.EW≠[]/\NJ BO (S.left ks names)=Q8 U f0)\/(NJ BO (S.left ks names)=VK (Q8 U f0) dst fs/\S.left ks names=VK (Q8 U f0) dst fs):=by
 obtain⟨S1,hm,hs1,hf,hse,h1⟩:=h.mid;obtain⟨b1,b2,_,_⟩:=hm.bytes hf ks;obtain⟨t1,t2⟩:=Done.tree hm hd b1 b2
 have hnew:IL S.safe (S.EW.take names.toNat)=EN.on S1.seen (.rename BO dst)->NJ BO (S.left ks names)=VK (Q8 U f0) dst fs/\S.left ks names=VK (Q8 U f0) dst fs:=λe=>by
  (have:S.left ks names=VK (Q8 U f0) dst fs:=by unfold St.left;rw[e];exact t1);refine⟨?_,this⟩;unfold St.left;rw[e,tH _ t2];exact t1
 rcases h1 with ⟨h2,h3,h4⟩|⟨h2,h3⟩
 ·cases hn:names.toNat with
  |zero=>
   refine .inl ⟨by rw[h3];simp,?_⟩;unfold St.left;rw[hn,List.take_zero,h2];show NJ BO (S1.seen.map _)=_;rw[X9,hm.kq.kept.seen];exact Yg λp hp x hx=>b1 _ (hm.kq.kept.ids p hp x hx)
  |succ k=>
   refine .inr (hnew ?_);rw[hn,h3,h2];simp[IL]
 exact .inr (hnew (by rw[h3,ai,h2,hse];rfl))
theorem Done.nd(h:Done U M f0 s q fs dst S):(fs.map Ac).Nodup:=by obtain⟨S1,hm,_⟩:=h.mid;exact hm.nd
theorem Done.view(h:Done U M f0 s q fs dst S)(hd:dst≠BO)(hs:S.down=false):S.view=VK (Q8 U f0) dst fs/\S.EW=[]/\S.safe=S.seen/\BJ S.seen BO=AB:=by
 obtain⟨S1,hm,hs1,hf,hse,h1⟩:=h.mid;obtain⟨_,_,b1,b2⟩:=hm.bytes hf [];obtain⟨t1,t2⟩:=Done.tree hm hd b1 b2;rcases h1 with ⟨h2,h3,h4⟩|⟨h2,h3⟩;rw[hs] at h4;cases h4;rw[Xz hs,hse];exact⟨t1,h3,h2.trans hse,t2⟩
theorem Mid.last(h:Mid U M f0 s q fs S)(hg:CO dst=true):
  (((S.runT (Oq dst)).2=[]/\Done U M f0 s q fs dst (S.runT (Oq dst)).1/\(S.runT (Oq dst)).1.EW=[])\/
   ((S.runT (Oq dst)).2≠[]/\(Kx U M f0 s q (S.runT (Oq dst)).1\/(Done U M f0 s q fs dst (S.runT (Oq dst)).1/\(S.runT (Oq dst)).1.down=true))))/\(s<0->(S.runT (Oq dst)).2=[]):=by
 have e0:Oq dst=[⟨{data:=#[110,97,109,101,115]},0,.names⟩,⟨{data:=#[114,101,110,97,109,101]},0,.rename dst⟩,⟨{data:=#[115,97,102,101]},0,.names⟩]:=rfl;rw[e0];have a1:S.act .names=S.names:=rfl
 cases hd:S.down with
 |true=>
  (have e1:S.names=(S,80):=by unfold St.names;rw[BU hd]);rw[NL (c:=80) (by rw[a1,e1]) Aq,a1,e1];exact⟨.inr ⟨AV,.inl ⟨h.kq,λhs=>by rw[h.kq.up hs] at hd;cases hd⟩⟩,λhs=>by rw[h.kq.up hs] at hd;cases hd⟩
 |false=>
  obtain⟨S1,hS1⟩: ∃S1:St,({S with safe:=S.seen,EW:=[],steps:=S.steps+1}:St)=S1:=⟨_,rfl⟩;(have e1:S.names=(S1,0):=by unfold St.names;rw[BL (by simp[hd]),hS1]);rw[Fh (by rw[a1,e1]),a1,e1]
  have hm:Mid U M f0 s q fs S1:=by
   subst hS1;obtain⟨F,hF,hid,hmm⟩:=h.Xm;exact⟨⟨⟨h.kq.kept.seen,λc hc=>(BH hc).elim,rfl,h.kq.kept.len,h.kq.kept.ids,h.kq.kept.ET⟩,h.kq.stop,h.kq.BK,h.kq.nd⟩,h.nd,F,hF,hid,hmm⟩
  (have hsf:S1.safe=S1.seen/\S1.EW=[]:=by subst hS1;exact⟨rfl,rfl⟩);obtain⟨F,hF,_,_⟩:=hm.Xm;have a2:S1.act (.rename dst)=S1.rename BO dst:=rfl
  cases hd1:S1.down with
  |true=>
   (have e2:S1.rename BO dst=(S1,80):=by unfold St.rename;rw[YZ hd1,BU Aq]);rw[NL (c:=80) (by rw[a2,e2]) Aq,a2,e2];exact⟨.inr ⟨AV,.inl ⟨hm.kq,λhs=>by rw[hm.kq.up hs] at hd1;cases hd1⟩⟩,λhs=>by rw[hm.kq.up hs] at hd1;cases hd1⟩
  |false=>
   (have e2:S1.rename BO dst=(S1.make (.rename BO dst),0):=by unfold St.rename;rw[Yb hd1 (by simp[hg,Rz]) hF,BL AV]);rw[Fh (by rw[a2,e2]),a2,e2];have a3:(S1.make (.rename BO dst)).act .names=(S1.make (.rename BO dst)).names:=rfl;have hst:(S1.make (.rename BO dst)).stop=s:=hm.kq.stop
   cases hd2:(S1.make (.rename BO dst)).down with
   |true=>
    (have e3:(S1.make (.rename BO dst)).names=(S1.make (.rename BO dst),80):=by unfold St.names;rw[BU hd2]);rw[NL (c:=80) (by rw[a3,e3]) Aq,a3,e3];refine⟨.inr ⟨AV,.inr ⟨⟨⟨S1,hm,hsf.1,rfl,rfl,.inl ⟨hsf.1,?_,hd2⟩⟩,hst⟩,hd2⟩⟩,λhs=>by rw[L8 (by rw[hst];exact hs)] at hd2;cases hd2⟩;show S1.EW++[_]=_;rw[hsf.2];rfl
   |false=>
    (have e3:(S1.make (.rename BO dst)).names=({S1.make (.rename BO dst) with safe:=(S1.make (.rename BO dst)).seen,EW:=[],steps:=(S1.make (.rename BO dst)).steps+1},0):=by unfold St.names;rw[BL (by simp[hd2])]);rw[Fh (by rw[a3,e3]),a3,e3];exact⟨.inl ⟨rfl,⟨⟨S1,hm,hsf.1,rfl,rfl,.inr ⟨rfl,rfl⟩⟩,hst⟩,rfl⟩,λ_=>rfl⟩
theorem Kq.AU5(h:Kq U M f0 s q S)(hn:BJ S.seen BO=AB)(hg:CO dst=true)(fs:J3):
  (((S.runT (EX dst fs)).2=[]/\Done U M f0 s q fs dst (S.runT (EX dst fs)).1/\(S.runT (EX dst fs)).1.EW=[])\/
   ((S.runT (EX dst fs)).2≠[]/\(Kx U M f0 s q (S.runT (EX dst fs)).1\/(Done U M f0 s q fs dst (S.runT (EX dst fs)).1/\(S.runT (EX dst fs)).1.down=true))))/\(s<0->(S.runT (EX dst fs)).2=Ov q (u0 U f0) 0 [] fs):=by
 have e0:EX dst fs=⟨{data:=#[109,107,100,105,114]},0,.Cb⟩::(Gy 0 fs++Oq dst):=rfl;rw[e0];have a1:S.act .Cb=S.Cb BO:=rfl
 cases hd:S.down with
 |true=>
  (have e1:S.Cb BO=(S,80):=by unfold St.Cb;rw[YZ hd,BU Aq]);rw[NL (c:=80) (by rw[a1,e1]) Aq,a1,e1];exact⟨.inr ⟨AV,.inl ⟨h,λhs=>by rw[h.up hs] at hd;cases hd⟩⟩,λhs=>by rw[h.up hs] at hd;cases hd⟩
 |false=>
  have e1:S.Cb BO=(S.make (.Cb BO),0):=by
   unfold St.Cb;(have:S.ask false [BO]=0:=by unfold St.ask;rw[BL (by simp[hd]),BL (by simp[Rz]),BL AV]);rw[this,BL AV,BL (by simp[hn])]
  rw[Fh (by rw[a1,e1]),a1,e1]
  have hm:Mid U M f0 s q [] (S.make (.Cb BO)):=by
   refine⟨⟨h.kept.make rfl,h.stop,h.BK,?_⟩,AV,[],?_,AV,rfl⟩
   ·show ((Di BO [] S.seen).map Ac).Nodup;exact (((G8 BO [] S.seen).map Ac).nodup_iff).2 (IB.2 ⟨Ey.1 hn,h.nd⟩)
   show BJ (Di BO [] S.seen) BO=_;rw[Qc (Ey.1 hn),BU rfl]
  generalize S.make (.Cb BO)=S1 at hm;obtain⟨k1,k2⟩:=hm.files fs 0;rw[yE];rcases k1 with ⟨e2,hm2⟩|⟨e2,hk⟩
  ·rw[BU e2];obtain⟨l1,l2⟩:=hm2.last hg;exact⟨l1,λhs=>(l2 hs).trans (e2.symm.trans (k2 hs))⟩
  rw[BL e2];exact⟨.inr ⟨e2,.inl hk⟩,k2⟩
theorem Kq.clean{B:Nat}(h:Kq U M f0 s q S)(hi:Inv B S):Kq U M f0 s q S.clean.1:=
 ⟨h.kept.clean,(GX.clean S).stop.trans h.stop,(GX.clean S).BK.trans h.BK,hi.clean.val.VA.nodup⟩
theorem AA8(h:S.clean.2=0)(hs:(BJ S.seen BO).isSome=true):Quiet S.clean.1:=by
 unfold St.clean St.MB at h⊢;split
 ·rename_i h0;rw[BU h0] at h;split
  ·rename_i h1;rw[BU h1] at h;split
   ·rename_i h2;rw[BU h2] at h;split
    ·rename_i h3;rw[BU h3] at h;split
     ·rename_i h4;rw[BU h4] at h;exact AA6 h
     rename_i h4;rw[BL h4] at h;exact Ak h h4
    rename_i h3;rw[BL h3] at h;exact Ak h h3
   rename_i h2;rw[BL h2] at h;exact Ak h h2
  rename_i h1;unfold St.NF at h0 h1;split at h0;(cases h0);rename_i hd;rw[BL hd,iZ] at h1;exact Ak hs h1
 rename_i h0;rw[BL h0] at h;exact Ak h h0
theorem Kept.rest(h:Kept U M f0 S)(hq:Quiet S)(hn:BJ S.seen BO=AB)(hd:S.down=false)(ks:List Bool)(names:Int):S.view=Q8 U f0/\S.left ks names=Q8 U f0:=by
 have e1:=h.view hd;have e2:=h.left ks names;obtain⟨q1,q2⟩:=hq;refine⟨?_,?_⟩
 ·rw[Xz hd,tH _ hn] at e1;rw[Xz hd];exact e1
 unfold St.left at e2⊢;rw[q2,ai] at e2⊢;rw[tH _ (by show BJ S.safe BO=AB;rw[q1];exact hn)] at e2;exact e2
theorem ANN{B:Nat}(h:Kq U M f0 s q S)(hs:s<0)(hi:Inv B S)(hg:CO dst=true)(hd:dst≠BO)(fs:J3)(ks:List Bool)(names:Int):
  (S.Jo dst fs).2=Ov q (u0 U f0) 0 [] fs/\((S.Jo dst fs).2=[]->(fs.map Ac).Nodup/\(S.Jo dst fs).1.view=VK (Q8 U f0) dst fs/\(S.Jo dst fs).1.left ks names=VK (Q8 U f0) dst fs)/\
   ((S.Jo dst fs).2≠[]->(S.Jo dst fs).1.view=Q8 U f0/\(S.Jo dst fs).1.left ks names=Q8 U f0):=by
 have hc:=h.clean hi;have h0:S.clean.2=0:=kC (by rw[h.stop];exact hs) hi;unfold St.Jo;rw[BL (by simp[hg,hd]),BL (by simp[h0])];obtain⟨k1,k2⟩:=hc.AU5 (jy h0) hg fs;have hi2:=hi.clean.runT (EX dst fs);rcases k1 with ⟨e1,hD,hch⟩|⟨e1,hk⟩
 ·rw[BU e1];refine⟨k2 hs,λ_=>⟨hD.nd,(hD.view hd (L8 (by rw[hD.stop];exact hs))).1,?_⟩,λe=>Ak e1 e⟩;rcases hD.left hd ks names with ⟨hdn,_⟩|⟨_,h1⟩;exact Ak hch hdn;exact h1
 rw[BL e1];rcases hk with ⟨hk,hst⟩|⟨hD,hdn⟩
 ·(have h1:(S.clean.1.runT (EX dst fs)).1.stop<0:=by rw[hk.stop];exact hs);have h2:=kC h1 hi2;have h3:Jn 0=[]:=rfl;rw[h2,h3,Ii];exact⟨k2 hs,λe=>Ak e e1,λ_=>(hk.clean hi2).kept.rest (AA8 h2 (hst hs)) (jy h2) ((hk.clean hi2).up hs) ks names⟩
 rw[L8 (by rw[hD.stop];exact hs)] at hdn;cases hdn
theorem Kq.open_{D:Eg}{q s:Int}(h:Eo D q=0)(hq:q<=9223372036854775807):Kq (without (Ha 0 D) BO) (Hu D) (λi=>(dat D).getD i []) s q (Gw D q s)/\Q8 (without (Ha 0 D) BO) (λi=>(dat D).getD i [])=NJ BO D:=
 ⟨⟨Kept.open_ h,rfl,rfl,(VF (stop:=s) h hq).val.VA.nodup⟩,AIf h⟩
end
theorem AHD{f:Nat->Nat}{T:Tr}{p:ByteArray×KH}(hp:p∈T){x:ByteArray×Nat}(hx:x∈p.2):f x.2<=Wt f T:=by
 have h1:f x.2<=Wf f p.2:=by
  unfold Wf;generalize p.2=F at hx
  induction F with
  |nil=>cases hx|cons y r ih=>
   simp only[BN,Bz];rcases BF.1 hx with rfl|hx;omega;have:=ih hx;omega
 unfold Wt
 induction T with
 |nil=>cases hp|cons y r ih=>
  simp only[BN,Bz];rcases BF.1 hp with rfl|hp;omega;have:=ih hp;omega
structure Uq (S:St):Prop where
 one: ∀k i,Wt (Hy i) (IL S.safe (S.EW.take k))<=1
 run:IL S.safe S.EW=S.seen
 ids: ∀p∈S.seen,∀x∈p.2,x.2<S.files.length
section
variable {S:St}
theorem Uq.seen(h:Uq S)(i:Nat):Wt (Hy i) S.seen<=1:=by
 have:=h.one S.EW.length i;rwa[yV,h.run] at this
theorem Uq.made(h:Uq S){c:EN}(fs:List FY)(h1: ∀i,Wt (Hy i) (c.on S.seen)<=1)(h2: ∀p∈c.on S.seen,∀x∈p.2,x.2<fs.length):Uq (St.make {S with files:=fs} c):=by
 refine⟨λk i=>?_,?_,h2⟩
 ·show Wt (Hy i) (IL S.safe ((S.EW++[c]).take k))<=1;by_cases hk:k<=S.EW.length;rw[AMS hk];exact h.one k i;rw[Ea (by simp;omega),S9,h.run];exact h1 i
 show IL S.safe (S.EW++[c])=c.on S.seen;rw[S9,h.run]
theorem Uq.make(h:Uq S){c:EN}(hc: ∀f,c.made f=0):Uq (S.make c):=by
 refine Uq.made (S:=S) h S.files (λi=>?_) ?_
 ·have:=AAm (Hy i) S.seen c;have:=hc (Hy i);have:=h.seen i;omega
 intro p hp x hx;have hz:Wt (λj=>if j<S.files.length then 0 else 1) S.seen=0:=dY λp hp x hx=>BU (h.ids p hp x hx);have h3:=AAm (λj=>if j<S.files.length then 0 else 1) S.seen c;rw[hz,hc] at h3;have h4:=AHD (f:=λj=>if j<S.files.length then 0 else 1) hp hx;by_cases hl:x.2<S.files.length;exact hl;simp only[BL hl] at h4;omega
theorem Uq.other{S':St}(h:Uq S)(h1:S'.safe=S.safe)(h2:S'.EW=S.EW)(h3:S'.seen=S.seen)(h4:S'.files.length=S.files.length):Uq S':=⟨by rw[h1,h2];exact h.one,by rw[h1,h2,h3];exact h.run,by rw[h3,h4];exact h.ids⟩
theorem Uq.names(h:Uq S):Uq S.names.1:=by
 unfold St.names;split;exact h;exact⟨λk i=>by rw[ai];exact h.seen i,rfl,h.ids⟩
theorem Uq.Cb(h:Uq S)(d:ByteArray):Uq (S.Cb d).1:=by
 unfold St.Cb;split;exact h;split;exact h;exact h.make λ_=>rfl
theorem Uq.create(h:Uq S)(d n:ByteArray):Uq (S.create d n).1:=by
 unfold St.create;split;exact h;split;exact h;refine Uq.made h _ (λi=>?_) ?_
 ·have h4:=AAm (Hy i) S.seen (.create d n S.files.length);simp only[EN.made] at h4;by_cases hin:i=S.files.length
  ·have h5:Wt (Hy i) S.seen=0:=dY (λp hp q hq=>by
    have:=h.ids p hp q hq;unfold Hy
    rw[BL Aa])
   (have h6:Hy i S.files.length=1:=by unfold Hy;rw[BU hin.symm]);omega
  (have h6:Hy i S.files.length=0:=by unfold Hy;rw[BL (λe=>hin e.symm)]);have:=h.seen i;omega
 intro p hp x hx;rw[IA];show x.2<S.files.length+1;have hz:Wt (λj=>if j<S.files.length+1 then 0 else 1) S.seen=0:=dY λp hp x hx=>BU (lV (h.ids p hp x hx));have h3:=AAm (λj=>if j<S.files.length+1 then 0 else 1) S.seen (.create d n S.files.length);rw[hz] at h3;have h4:=AHD (f:=λj=>if j<S.files.length+1 then 0 else 1) hp hx;simp only[EN.made,Nat.lt_succ_self,if_true] at h3;by_cases hl:x.2<S.files.length+1;exact hl;simp only[BL hl] at h4;omega
theorem Uq.write(h:Uq S)(d n:ByteArray)(xs:List Int):Uq (S.write d n xs).1:=by
 unfold St.write;split;exact h;split;exact h.other rfl rfl rfl rfl;split;exact h;exact h.other rfl rfl rfl AV
theorem Uq.sync(h:Uq S)(d n:ByteArray):Uq (S.sync d n).1:=by
 unfold St.sync;split;exact h;exact h.other rfl rfl rfl AV
theorem Uq.rename(h:Uq S)(a b:ByteArray):Uq (S.rename a b).1:=by
 unfold St.rename;split;exact h;exact h.make λ_=>rfl
theorem Uq.remove(h:Uq S)(d n:ByteArray):Uq (S.remove d n).1:=by
 unfold St.remove;split;exact h;exact h.make λ_=>rfl
theorem Uq.rmdir(h:Uq S)(d:ByteArray):Uq (S.rmdir d).1:=by
 unfold St.rmdir;split;exact h;split;exact h;exact h.make λ_=>rfl
theorem Uq.EK(h:Uq S)(d:ByteArray): ∀l:List ByteArray,Uq (St.EK d S l).1:=by
 intro l
 induction l generalizing S with
 |nil=>exact h|cons n r ih=>
  unfold St.EK;split;exact ih (h.remove d n);exact h.remove d n
theorem Uq.clean(h:Uq S):Uq S.clean.1:=by
 unfold St.clean St.MB;split
 ·split
  ·split
   ·split
    ·split;exact ((h.EK _ _).rmdir _).names;exact (h.EK _ _).rmdir _
    exact h.EK _ _
   exact h
  exact h
 exact h
theorem Uq.puts(n:ByteArray): ∀(C:List (List Int)) {S:St},Uq S->Uq (S.puts n C).1
 | [],S,h=>h
 |x::r,S,h=>by
  unfold St.puts;split;exact Uq.puts n r (h.write BO n x);exact h.write BO n x
theorem Uq.act(h:Uq S)(d:Do):Uq (S.act d).1:=by
 cases d with|Cb=>exact h.Cb BO|create n=>exact h.create BO n|write n xs=>exact Uq.puts n (V4 xs) h|sync n=>exact h.sync BO n|names=>exact h.names|rename d=>exact h.rename BO d
theorem Uq.runT: ∀(ts:List JH) {S:St},Uq S->Uq (S.runT ts).1
 | [],S,h=>h
 |t::r,S,h=>by
  unfold St.runT;split;exact Uq.runT r (h.act t.d);exact h.act t.d
theorem Uq.Jo(h:Uq S)(dst:ByteArray)(fs:J3):Uq (S.Jo dst fs).1:=by
 unfold St.Jo;split;exact h;split;exact h.clean;split;exact h.clean.runT _;exact (h.clean.runT _).clean
theorem Uq.open_{D:Eg}{q s:Int}:Uq (Gw D q s):=by
 refine⟨λk i=>?_,rfl,λp hp x hx=>?_⟩
 ·show Wt (Hy i) (IL (Ha 0 D) (List.take k []))<=1;rw[ai];show Wt (Hy i) (Ha 0 D)<=1;rw[ANI];exact (range_one i _ 0).1
 have:=YY p hp x hx;show x.2<(Uh D).length;rw[VE];omega
theorem ASa(f:Nat->Nat){T:Tr}{n:Nat}(hu: ∀i,Wt (Hy i) T<=1)(hid: ∀p∈T,∀x∈p.2,x.2<n):Wt f T<=((Fp n).map f).sum:=by
 have h: ∀k,Wt (λi=>if i<k then f i else 0) T<=((Fp k).map f).sum:=by
  intro k
  induction k with
  |zero=>rw[dY (λp _ x _=>BL (yg _))];exact DW _|succ k ih=>
   have h1:=ANG (f:=λi=>if i<k+1 then f i else 0) (g:=λi=>if i<k then f i else 0) (k:=Hy k) (a:=f k) (λi=>by
    unfold Hy;by_cases h2:i=k;subst h2;simp;by_cases h3:i<k;rw[BU Aa,BU h3];omega
    rw[BL Aa];omega) T
   have h2:=AMR (f k) (hu k);rw[List.range_succ,FK,YI];simp only[BN,EG,Bz,List.sum_nil];omega
 refine Cj (Nat.le_of_eq ?_) (h n);unfold Wt Wf;congr 1;apply Hm;intro p hp;congr 1;apply Hm;intro x hx;exact (BU (hid p hp x hx)).symm
theorem lH{α:Type}(g:α->Nat)(d:α)(l:List α):((Fp l.length).map λi=>g (l.getD i d)).sum=(l.map g).sum:=by
 congr 1;apply List.ext_getElem AV;intro i h1 h2;simp at h1 h2;simp[Gj,h1]
theorem ADl{B:Nat}{S:St}(hi:Inv B S){T:Tr}(hu: ∀i,Wt (Hy i) T<=1)(hid: ∀p∈T,∀x∈p.2,x.2<S.files.length)(hw:wd T<=B)(g:Nat->List Int)(hg: ∀i,(g i).length<=(S.files.getD i ([],[])).all.length):
  E5 (T.map λp=>(p.1,p.2.map λx=>(x.1,g x.2)))<=2*B:=by
 have h1:E5 (T.map λp=>(p.1,p.2.map λx=>(x.1,g x.2)))=Wt (λi=>(g i).length) T+wd T:=by
  unfold E5 Wt wd Wf;clear hu hid hw
  induction T with
  |nil=>rfl|cons p r ih=>
   simp only[BN,Bz,En,Function.comp_def] at ih⊢
   have h2: ∀F:KH,(F.map λx=>(g x.2).length+1).sum=(F.map λx=>(g x.2).length).sum+F.length:=by
    intro F
    induction F with|nil=>rfl|cons y t ih2=>simp only[BN,Bz,EY];omega
   have h3:=h2 p.2;omega
 have h2:=ASa (λi=>(g i).length) hu hid
 have h3:((Fp S.files.length).map λi=>(g i).length).sum<=((Fp S.files.length).map λi=>(λf:FY=>f.all.length+f.2.length) (S.files.getD i ([],[]))).sum:=by
  generalize Fp S.files.length=l
  induction l with
  |nil=>simp|cons i r ih=>
   simp only[BN,Bz] at ih⊢;have h4:=hg i;omega
 rw[lH (λf:FY=>f.all.length+f.2.length)] at h3;have h4:(S.files.map λf:FY=>f.all.length+f.2.length).sum<=B:=hi.bulk;omega
theorem ADm{B:Nat}(h:Uq S)(hi:Inv B S):E5 S.view<=2*B:=by
 unfold St.view;split;simp[E5];exact ADl hi h.seen hi.val.ids hi.wd _ λi=>Bd _
end
def codeF:List JG->Int
 | []=>0|f::_=>f.cd
theorem ADn(D:Eg):bytesOf D<=E5 D:=by
 unfold bytesOf E5
 induction D with
 |nil=>simp|cons d r ih=>
  simp only[BN,Bz]
  have h: ∀l:J3,(l.map λx=>x.2.length).sum<=(l.map λx=>x.2.length+1).sum:=by
   intro l
   induction l with|nil=>simp|cons x t ih2=>simp only[BN,Bz];omega
  have:=h d.2;omega
theorem AIh(fs:List FM):X4 (Ai fs)<=6*(fs.map λx=>x.2.length+1).sum:=by
 unfold X4 Ai;rw[En]
 induction fs with|nil=>simp|cons x r ih=>simp only[BN,Bz,Function.comp_apply] at ih⊢;omega
theorem AA9{w0 w1:AL}{G:Bh}{S:St}{B:Nat}(h:EJ w0 G S)(hi:Inv B S){dst:ByteArray}{A:Option Ag}{n c:Nat}{gs:List FM}{fs:J3}(ho:GU w1 A n c gs)(hv:Ai gs=fs)(hc:AZ [] w0 w1)
  (hnew: ∀k∈bo A++Ep gs,w0.heap.size<=k) (hby: ∀f∈fs,∀x∈f.2,0<=x/\x<=255) (hB:4*B+2*X4 fs+100<=1073741824):
  Au Ae 14 #[.pointer (AA ⟨G.b,0,AB⟩),.string dst,.slice A n c] w1 (TJ w1 G (S.Jo dst fs).1 (S.Jo dst fs).2):=by
 subst hv;exact X5 (h.Cc hc) hi ho.rd (λx hx hm=>by have:=hnew x hx;have:=h.lt x hm;omega) (λx hx=>ho.lt x hx) (λf hf x hx=>hby _ (CG.2 ⟨f,hf,rfl⟩) x hx) hB
theorem ADo(x:ByteArray×J3): ∀(r out:Eg),r.foldl (Ko x) (true,out)=(true,out++without r x.1)
 | [],out=>by simp[without]
 |d::r,out=>by
  rw[List.foldl_cons];(have e:Ko x (true,out) d=(true,out++if d.1=x.1 then [] else [d]):=by unfold Ko;simp);rw[e,ADo x r,Eb];by_cases h:d.1=x.1;rw[BU h,BU h,Ii];rw[BL h,BL h,KJ];rfl
theorem ABA{α:Type}{k:ByteArray}{v:α}{t:List (ByteArray×α)}(h: ∀p∈t,Jz k p.1=true):Di k v t=(k,v)::t:=by
 cases t with|nil=>rfl|cons p r=>rw[Di,BU (h p (Ee ..))]
theorem tK{a b:ByteArray}(h:Jz a b=true):Jz b a=false:=by
 cases h2:Jz b a with|false=>rfl|true=>rw[<- LP a,PT h h2]
theorem ADp(x:ByteArray×J3): ∀(r out:Eg),Oj r->(if (r.foldl (Ko x) (false,out)).1=true then (r.foldl (Ko x) (false,out)).2 else (r.foldl (Ko x) (false,out)).2++[x])=out++Di x.1 x.2 (without r x.1)
 | [],out,_=>by simp[without,Di]
 |d::r,out,hs=>by
  obtain⟨h1,h2⟩:=Tj.1 hs;have h1': ∀p∈r,Jz d.1 p.1=true:=λp hp=>h1 _ (CG.2 ⟨p,hp,rfl⟩);rw[V9,Eb]
  cases hl:Vs x.1 d.1 with
  |true=>
   (have e:Ko x (false,out) d=(true,(out++[x])++if d.1=x.1 then [] else [d]):=by unfold Ko;simp[hl]);rw[e,ADo];simp only[if_true];by_cases h:d.1=x.1
   ·rw[BU h,BU h,Ii,ABA (λp hp=>by rw[<- h];exact h1' p (FP.1 hp).1)];simp
   have hlt:Jz x.1 d.1=true:=by
    cases hz:Jz x.1 d.1 with|true=>rfl|false=>rw[mD.2 (lh (H8 h) hz)] at hl;cases hl
   rw[BL h,BL h,Di,BU hlt];simp
  |false=>
   have hlt:=mD.1 hl;(have hne:d.1≠x.1:=λh=>by rw[h,LP] at hlt;cases hlt);(have e:Ko x (false,out) d=(false,out++[d]):=by unfold Ko;simp[hl,hne]);rw[e,ADp x r _ h2,BL hne,Di,BL (by rw[tK hlt];simp)];simp
theorem ANO(x:ByteArray×J3){D:Eg}(hs:Oj D):wiD x D=Di x.1 x.2 (without D x.1):=by
 have:=ADp x D [] hs;rw[EE] at this;exact this
theorem yF: ∀(l:J3),(l.map Ac).Nodup->Oj (Ou l.reverse)
 | [],_=>mW
 |x::r,h=>by
  obtain⟨h1,h2⟩:=IB.1 h;rw[List.reverse_cons,su]
  exact (yF r h2).with_ _ λe=>h1 (by
   have:=(((V7 r.reverse).map Ac).mem_iff).1 e
   simpa using this)
theorem AMD{fs L:J3}(hp:L.Perm fs)(hn:(fs.map Ac).Nodup)(hs: ∀(a b:Nat) (x y:ByteArray×List Int),a<b->L[a]? =AA x->L[b]? =AA y->Jz y.1 x.1=false):L=Ou fs:=by
 have h1:Oj (Ou fs):=by
  have:=yF fs.reverse (by rw[List.map_reverse];exact (List.reverse_perm _).nodup_iff.2 hn);rwa[List.reverse_reverse] at this
 have hnL:(L.map Ac).Nodup:=((hp.map Ac).nodup_iff).2 hn
 have h2:L.Pairwise λx y=>Jz x.1 y.1=true:=by
  rw[YG];intro i j hi hj hij;have h3:=hs i j _ _ hij (Bo hi) (Bo hj);refine lh (λe=>?_) h3;have h4:=YG.1 hnL i j (by simpa using hi) (by simpa using hj) hij;simp only[List.getElem_map] at h4;exact h4 e.symm
 have h3:(Ou fs).Pairwise λx y=>Jz x.1 y.1=true:=List.pairwise_map.1 h1;refine (hp.trans (V7 fs).symm).eq_of_pairwise (λa b _ _ ha hb=>?_) h2 h3;rw[tK ha] at hb;cases hb
theorem AME{D:Eg}{q:Int}(h:Eo D q=0)(nm:ByteArray):Oj (NJ nm D):=by
 unfold Eo at h;split at h;(cases h);have h1:Oj D:=(Xr h).1;rw[V8];exact h1.without nm
section
variable {dst n:ByteArray}{D:Eg}{q:Int}{fs pre:J3}
def plF:List JG->Int
 | []=>0|f::_=>f.pl
def opF:List JG->ByteArray
 | []=>{data:=#[]}|f::_=>f.op
def Qg (q:Int) (D:Eg) (dst:ByteArray) (fs:J3):List JG:=
 if CO dst=false\/dst=BO then [⟨{data:=#[112,97,116,104,115]},0,81⟩] else Ov q (bytesOf (NJ BO D)) 0 [] fs
def TQ (q:Int) (D:Eg) (dst:ByteArray) (fs:J3):Eg:=
 if CO dst=false\/dst=BO then D else if Ov q (bytesOf (NJ BO D)) 0 [] fs=[] then VK (NJ BO D) dst fs else NJ BO D
theorem ig(h:Eo D q=0)(hq:q<=9223372036854775807)(ks:List Bool)(names:Int):
  ((Gw D q (-1)).Jo dst fs).2=Qg q D dst fs/\((Gw D q (-1)).Jo dst fs).1.view=TQ q D dst fs/\((Gw D q (-1)).Jo dst fs).1.left ks names=TQ q D dst fs/\(Qg q D dst fs=[]->(fs.map Ac).Nodup):=by
 by_cases hg:CO dst=false\/dst=BO
 ·unfold Qg TQ St.Jo;rw[BU hg,BU hg,BU hg];exact⟨rfl,(Xz (L8 (show (-1:Int)<0 by decide))).trans (AFU D q (-1)),AFV D q (-1) ks names,λe=>by cases e⟩
 have hg1:CO dst=true:=by
  cases hz:CO dst with|true=>rfl|false=>exact Ak (.inl hz) hg
 have hd:dst≠BO:=λe=>hg (.inr e);obtain⟨k1,k2⟩:=Kq.open_ (s:= -1) h hq;obtain⟨j1,j2,j3⟩:=ANN k1 Aq (VF (stop:= -1) h hq) hg1 hd fs ks names;have u1:u0 (without (Ha 0 D) BO) (λi=>(dat D).getD i [])=bytesOf (NJ BO D):=congrArg bytesOf k2;rw[u1] at j1;rw[k2] at j2 j3;unfold Qg TQ;rw[BL hg,BL hg];refine⟨j1,?_,?_,λe=>(j2 (j1.trans e)).1⟩
 ·by_cases he:Ov q (bytesOf (NJ BO D)) 0 [] fs=[];rw[BU he];exact (j2 (j1.trans he)).2.1;rw[BL he];exact (j3 λe=>he (j1.symm.trans e)).1
 by_cases he:Ov q (bytesOf (NJ BO D)) 0 [] fs=[];rw[BU he];exact (j2 (j1.trans he)).2.2;rw[BL he];exact (j3 λe=>he (j1.symm.trans e)).2
theorem ABB(h:CO n=false):Gq pre n=81:=by unfold Gq;rw[BU h]
theorem ABC(h:CO n=true)(h2:(BJ pre n).isSome=true):Gq pre n=83:=by unfold Gq;rw[BL (by simp[h]),BU h2]
theorem ADq(h:CO n=true)(h2:(BJ pre n).isSome=false):Gq pre n=0:=by unfold Gq;rw[BL (by simp[h]),BL (by simp[h2])]
theorem AFv{f:JG}{r:List JG}(h:Qg q D dst fs=f::r):f.cd≠0/\(f.op.toList==[])=false:=by
 have h1: ∀(fs:J3) (u i:Nat) (pre:J3),Ov q u i pre fs=f::r->f.cd≠0/\(f.op.toList==[])=false:=by
  intro fs
  induction fs with
  |nil=>intro u i pre e;cases e
  |cons x t ih=>
   intro u i pre e;rw[Qe] at e;split at e
   ·rename_i hz;injection e with e _;subst e;exact⟨hz,(by decide+kernel:(ByteArray.toList {data:=#[99,114,101,97,116,101]}==[])=false)⟩
   split at e
   ·injection e with e _;subst e;exact⟨AV,(by decide+kernel:(ByteArray.toList {data:=#[119,114,105,116,101]}==[])=false)⟩
   exact ih _ _ _ e
 unfold Qg at h;split at h
 ·injection h with e _;subst e;exact⟨AV,by decide+kernel⟩
 exact h1 _ _ _ _ h
end
def APw (w:AL) (q:Int) (D:Eg) (dst:ByteArray) (fs:J3) (e:Fe) (w':AL):Prop:=
 ∃A n c L,e=.returned (.agg #[.slice A n c,.int .i64 (codeF (Qg q D dst fs)),.int .i64 (plF (Qg q D dst fs)),.string (opF (Qg q D dst fs))])/\F6 w' A n c L/\AZ [] w w'/\((Qg q D dst fs=[]->(fs.map Ac).Nodup)->BD L=TQ q D dst fs)
theorem VL{w:AL}{g:Nat}{a0 a1 a2 a3:AQ}(hb:Bv w g 66 #[a0,a1,a2,a3])(v0 v1 v2 v3:AQ):
  (w.cell? ⟨g,0,AB⟩=AA a0/\w.frozen? ⟨g,0,AB⟩=false)/\((w.setCell ⟨g,0,AB⟩ v0).cell? ⟨g,1,AB⟩=AA a1/\(w.setCell ⟨g,0,AB⟩ v0).frozen? ⟨g,1,AB⟩=false)/\
  (((w.setCell ⟨g,0,AB⟩ v0).setCell ⟨g,1,AB⟩ v1).cell? ⟨g,2,AB⟩=AA a2/\((w.setCell ⟨g,0,AB⟩ v0).setCell ⟨g,1,AB⟩ v1).frozen? ⟨g,2,AB⟩=false)/\
  ((((w.setCell ⟨g,0,AB⟩ v0).setCell ⟨g,1,AB⟩ v1).setCell ⟨g,2,AB⟩ v2).cell? ⟨g,3,AB⟩=AA a3/\(((w.setCell ⟨g,0,AB⟩ v0).setCell ⟨g,1,AB⟩ v1).setCell ⟨g,2,AB⟩ v2).frozen? ⟨g,3,AB⟩=false)/\
  Bv ((((w.setCell ⟨g,0,AB⟩ v0).setCell ⟨g,1,AB⟩ v1).setCell ⟨g,2,AB⟩ v2).setCell ⟨g,3,AB⟩ v3) g 66 #[v0,v1,v2,v3]/\
  AZ [g] w ((((w.setCell ⟨g,0,AB⟩ v0).setCell ⟨g,1,AB⟩ v1).setCell ⟨g,2,AB⟩ v2).setCell ⟨g,3,AB⟩ v3):=by
 have h1:=hb.FH 0 v0;have h2:=h1.FH 1 v1;have h3:=h2.FH 2 v2;have h4:=h3.FH 3 v3
 exact⟨⟨hb.cell 0,hb.frozen 0⟩,⟨h1.cell 1,h1.frozen 1⟩,⟨h2.cell 2,h2.frozen 2⟩,⟨h3.cell 3,h3.frozen 3⟩,h4,
  ((((AZ.refl [g] w).setCell (.inl AV) v0).setCell (.inl AV) v1).setCell (.inl AV) v2).setCell (.inl AV) v3⟩
theorem ik{tm:Array Value}{b:Nat}{w:World}{v0 v1 v2 v3:Value}(ht:tm[8]? =some (.pointer (some ⟨b,0,none⟩)))(hb:Bv w b 66 #[v0,v1,v2,v3])(h0:v0.cells= #[v0]:=by rfl):(results Tryz.f25 tm).run Ae w=.ok (.agg #[v0,v1,v2,v3]) w:=by
 have h1:Tryz.f25.results= #[.cell 8 66]:=rfl;have c0:=hb.cell 0;have c1:=hb.cell 1;have c2:=hb.cell 2;have c3:=hb.cell 3;simp[results,h1,ht,asAddr,go_sem,c0,c1,c2,c3]
theorem AIi(w:AL)(A:Option Ag)(n c:Nat)(ds:List DM)(BK:Int)(dst:ByteArray)(FA:Option Ag)(fn fc:Nat)(fs:List FM)(h:F6 w A n c ds)(hf:EU w FA fn fc fs)(hn:n<=1048576)(hfn:fn<=1048576)
  (hdn: ∀x∈ds,x.1.n<=1073741824) (hfs: ∀x∈fs,x.1.n<=1073741824) (hb:E5 (BD ds)<=1048576) (hfb:Df (Ai fs)<=1048576) (hs:Oj (NJ BO (BD ds))):
  Au Ae 25 #[.slice A n c,.int .i64 BK,.string dst,.slice FA fn fc] w (APw w BK (BD ds) dst (Ai fs)):=by
 obtain⟨W,hW⟩: ∃W,w.alloc (.cells #[.slice AB 0 0,.int .i64 0,.int .i64 0,.string {data:=#[]}] 66)=W:=⟨_,rfl⟩;obtain⟨rb,hrb⟩: ∃rb,w.heap.size=rb:=⟨_,rfl⟩;(have hcW:AZ [] w W:=by rw[<- hW];exact (AZ.refl [] w).alloc _);have HK:Hid (Bv W rb 66 #[.slice AB 0 0,.int .i64 0,.int .i64 0,.string {data:=#[]}]):=AO (by rw[<- hW,<- hrb];exact .new _ _ _);have HD:Hid (∀w',AZ [] w w'->F6 w' A n c ds/\EU w' FA fn fc fs):=AO λw' hc=>⟨h.Es hc,hf.Es hc⟩;have HC:=AO hcW;have HDN:=AO hdn;have uk:=AO hfs;have HB:=AO hb;have HFB:=AO hfb;have HS:=AO hs;have q10:= @AOd;have q22:= @ATI;have q29:= @ATM;have q66:= @ATl;have q33:= @ATP;have q34:= @ATQ;clear h hf hdn hfs hb hfb hs hcW;go_enter ANp,Tryz.ntmps25;(go_wp2_with fail);refine (Vq dst W).mono ?_;rintro e w1 ⟨rfl,hc1⟩;have CZ:Hid (AZ [] W w1):=AO hc1;have HK1:=AO (HK.out.Ap hc1 AV);clear hc1;have hst:([46,115,116,97,103,101]:List UInt8)=BO.toList:=by decide+kernel
 cases hgd:CO dst with
 |false=>
  have HGD:=AO hgd;clear hgd hst;obtain⟨⟨s0,f0⟩,⟨s1,f1⟩,⟨s2,f2⟩,⟨s3,f3⟩,hbz,hcz⟩:=VL HK1.out (.slice A n c) (.int .i64 81) (.int .i64 0) (.string {data:=#[112,97,116,104,115]});have tN:=AO hbz;have Tc:Hid (AZ [] w _):=AO ((HC.out.Ah CZ.out).trans hcz λx hx=>.inr (by rw[CB.1 hx,<- hrb];exact Bd _));clear hbz hcz;go_wp2
  (try simp only[Exit.inBlock,Exit.then])
  refine bodyPost_ret (ik rfl tN.out) rfl ?_;(have hp:Qg BK (BD ds) dst (Ai fs)=[⟨{data:=#[112,97,116,104,115]},0,81⟩]:=by unfold Qg;rw[BU (.inl HGD.out)]);exact⟨A,n,c,ds,by rw[hp];rfl,(HD.out _ Tc.out).1,Tc.out,λ_=>by unfold TQ;rw[BU (.inl HGD.out)]⟩
 |true=>
  have HGD:=AO hgd;clear hgd;by_cases hd:dst=BO
  ·(have hb2:(dst.toList==[46,115,116,97,103,101])=true:=by rw[hst,<- H7];exact decide_eq_true hd);have qc:=AO hd;clear hd hst;obtain⟨⟨s0,f0⟩,⟨s1,f1⟩,⟨s2,f2⟩,⟨s3,f3⟩,hbz,hcz⟩:=VL HK1.out (.slice A n c) (.int .i64 81) (.int .i64 0) (.string {data:=#[112,97,116,104,115]});have tN:=AO hbz;have Tc:Hid (AZ [] w _):=AO ((HC.out.Ah CZ.out).trans hcz λx hx=>.inr (by rw[CB.1 hx,<- hrb];exact Bd _));clear hbz hcz;go_wp2
   (try simp only[Exit.inBlock,Exit.then])
   refine bodyPost_ret (ik rfl tN.out) rfl ?_;(have hp:Qg BK (BD ds) dst (Ai fs)=[⟨{data:=#[112,97,116,104,115]},0,81⟩]:=by unfold Qg;rw[BU (.inr qc.out)]);exact⟨A,n,c,ds,by rw[hp];rfl,(HD.out _ Tc.out).1,Tc.out,λ_=>by unfold TQ;rw[BU (.inr qc.out)]⟩
  (have hb2:(dst.toList==[46,115,116,97,103,101])=false:=by rw[hst,<- H7];exact decide_eq_false hd);obtain⟨E,hE⟩: ∃E,Ov BK (bytesOf (NJ BO (BD ds))) 0 [] (Ai fs)=E:=⟨_,rfl⟩;obtain⟨u,hu⟩: ∃u,bytesOf (NJ BO (BD ds))=u:=⟨_,rfl⟩
  have HP:Hid (Qg BK (BD ds) dst (Ai fs)=E/\TQ BK (BD ds) dst (Ai fs)=if E=[] then VK (NJ BO (BD ds)) dst (Ai fs) else NJ BO (BD ds)):=AO (by
   (have hg: ¬(CO dst=false\/dst=BO):=λe=>by rcases e with e|e;rw[HGD.out] at e;cases e;exact hd e);unfold Qg TQ;rw[BL hg,BL hg,hE]
   exact⟨rfl,rfl⟩)
  rw[hu] at hE;have HE:=AO hE
  have HU:Hid (u<=1048576):=AO (by
   have h1:=ADn (NJ BO (BD ds));have h2:=AFu BO (BD ds);have:=HB.out
   omega)
  clear hE hd hst;(go_wp2_with fail);refine (AAy A n c ds BO w1 (HD.out _ (HC.out.Ah CZ.out)).1 Aa).mono ?_;rintro e w2 ⟨A2,c2,rfl,ho2,hc2,hn2⟩;have HC2:Hid (AZ [] w w2):=AO ((HC.out.Ah CZ.out).Ah hc2);have HK2:=AO (HK1.out.Ap hc2 AV);have qL:=AO ho2
  have hl1:(MC BO ds).length<=1048576:=by
   (have h1:ds.length=n:=by have:=(HD.out w (AZ.refl _ _)).1.row.KF;simpa[D9] using this);have h2:(MC BO ds).length<=ds.length:=aY _ _;omega
  have HL1:=AO hl1;have HW:Hid (∀w',AZ [] w2 w'->AZ [] w w'->F6 w' A2 (MC BO ds).length c2 (MC BO ds)):=AO λw' h1 h2=>⟨(qL.out.Ap h1 AV).rd,λd hd=>(HD.out _ h2).1.ET d (XE.1 hd).1⟩
  have HZ:Hid (∀wx wz,AZ [] w2 wx->AZ [rb] wx wz->AZ [] w wz->F6 wz A2 (MC BO ds).length c2 (MC BO ds)):=AO λwx wz h1 h2 h3=>⟨((qL.out.Ap h1 AV).Ap h2 (λk hk hm=>by
   rw[CB.1 hm] at hk;have h4:=hn2 rb hk;have h5:=HK1.out.lt
   omega)).rd,λd hd=>(HD.out _ h3).1.ET d (XE.1 hd).1⟩
  clear ho2 hc2 hn2 hl1;(go_wp2_with fail);refine (AC9 A2 _ c2 (MC BO ds) w2 (HW.out _ (AZ.refl _ _) HC2.out) (by have:=HL1.out;omega) (λd hd=>HDN.out d (XE.1 hd).1) (by rw[Ry,hu];have:=HU.out;omega)).mono ?_;rintro e w3 ⟨rfl,hc3⟩;rw[Ry,hu];have Gg:Hid (AZ [] w w3):=AO (HC2.out.Ah hc3);have AU6:Hid (AZ [] w2 w3):=AO hc3;have HK3:=AO (HK2.out.Ap hc3 AV)
  have hfl:(Ai fs).length=fn:=by
   (have h1:fs.length=fn:=by have:=(HD.out w (AZ.refl _ _)).2.row.KF;simpa[Dq] using this);unfold Ai;rw[DY];exact h1
  have dR:=AO hfl;clear hc3 hu hfl;go_wp2;go_loopw [11,12] (λq _ wr=>∃i:Nat,i<=fn/\q=.int .i64 i/\Ov BK u i ((Ai fs).take i) ((Ai fs).drop i)=E/\AZ [] w3 wr) (λq _ _=>fn - (intOf q).toNat)
  case atStart=>exact⟨0,DW _,rfl,HE.out,AZ.refl _ _⟩
  obtain⟨i,hi,rfl,hdo,hch⟩:=hrel;have HDO:=AO hdo;have Wl:Hid (AZ [] w wr):=AO (Gg.out.Ah hch);have AHE:Hid (AZ [] w2 wr):=AO (AU6.out.Ah hch);have HKR:=AO (HK3.out.Ap hch AV);have DJ:=AO hch;clear hdo hch;by_cases hlt:i<fn
  ·(have hlt':(i:Int)<fn:=by omega);obtain⟨f,hf⟩: ∃f,fs[i]? =AA f:=⟨_,Bo (by have:=dR.out;unfold Ai at this;rw[DY] at this;omega)⟩;obtain⟨⟨nm,dA,dn,dc⟩,dx⟩:=f;have hfv:(Ai fs)[i]? =AA (nm,dx):=by unfold Ai;rw[Ba,hf];rfl
   have HAT:Hid (∀w',AZ [] w w'->∃ad,FA=AA ad/\w'.cell? (ad.add (i*2))=AA (.string nm)/\w'.cell? ⟨(ad.add (i*2)).block,(ad.add (i*2)).off+1,AB⟩=AA (.slice dA dn dc)):=AO λw' hc=>by
    obtain⟨ad,h1,hat⟩:=(HD.out w' hc).2.row.ns (j:=i) (x:=⟨nm,dA,dn,dc⟩) (by unfold Dq;rw[Ba,hf];rfl);exact⟨ad,h1,hat.c0,hat.c1⟩
   have hln:=((HD.out w (AZ.refl _ _)).2.dat _ (Bi hf)).ADA;simp only at hln
   have HDC:Hid ((Ai fs).drop i=(nm,dx)::(Ai fs).drop (i+1)):=AO (by
    obtain⟨h1,h2⟩:=CP.1 hfv
    rw[VN h1,h2])
   have HTK:Hid ((Ai fs).take (i+1)=(Ai fs).take i++[(nm,dx)]):=AO (take_snoc _ _ _ hfv)
   have tV:Hid (∀x,(if Gq ((Ai fs).take i) nm≠0 then [⟨{data:=#[99,114,101,97,116,101]},i,Gq ((Ai fs).take i) nm⟩] else if dx≠[]/\BK<(u:Int)+Df ((Ai fs).take (i+1)) then [⟨{data:=#[119,114,105,116,101]},i,85⟩] else Ov BK u (i+1) ((Ai fs).take (i+1)) ((Ai fs).drop (i+1)))=x->x=E):=AO λx hx=>by
    rw[<- hx,<- HDO.out,HDC.out,Qe,HTK.out]
   have HLEN:=AO hln;obtain⟨ad,rfl,x0,x1⟩:=HAT.out _ Wl.out;clear hf hfv hln;(go_wp2_with fail);refine (Vq nm wr).mono ?_;rintro e w4 ⟨rfl,hc4⟩;have OC:Hid (AZ [] wr w4):=AO hc4;have HK4:=AO (HKR.out.Ap hc4 AV);clear hc4 x0 x1
   cases hg:CO nm with
   |false=>
    have HX:=AO (tV.out _ (by rw[ABB hg,BU Aq]));clear hg;obtain⟨⟨s0,f0⟩,⟨s1,f1⟩,⟨s2,f2⟩,⟨s3,f3⟩,hbz,hcz⟩:=VL HK4.out (.slice A2 (MC BO ds).length c2) (.int .i64 81) (.int .i64 i) (.string {data:=#[99,114,101,97,116,101]});have tN:=AO hbz;have qo:=AO hcz;have Tc:Hid (AZ [] w _):=AO ((Wl.out.Ah OC.out).trans hcz λx hx=>.inr (by rw[CB.1 hx,<- hrb];exact Bd _));clear hbz hcz;go_wp2
    (try simp only[Exit.inBlock,Exit.then])
    refine bodyPost_ret (ik rfl tN.out) rfl ?_;exact⟨A2,_,c2,MC BO ds,by rw[HP.out.1,<- HX.out];rfl,HZ.out _ _ (AHE.out.Ah OC.out) qo.out Tc.out,Tc.out,λ_=>by rw[HP.out.2,<- HX.out,BL AV];exact Ry _ _⟩
   |true=>
    have HG:=AO hg;clear hg;go_wp2;go_loopw [12] (λq wx=>∃j:Nat,j<=i/\q=.int .i64 j/\(∀y∈(Ai fs).take j,y.1≠nm)/\AZ [] wr wx) (λq _=>i - (intOf q).toNat)
    case atStart=>exact⟨0,DW _,rfl,AV,OC.out⟩
    obtain⟨j,hj,rfl,hall,hcx⟩:=hrel;have LQ:=AO hall;have Zr:=AO hcx;have NI:Hid (AZ [] w wr):=AO (Wl.out.Ah hcx);have HKX:=AO (HKR.out.Ap hcx AV);clear hall hcx;obtain⟨ad',had,x0,x1⟩:=HAT.out _ NI.out;injection had with had;subst had;by_cases hlj:j<i
    ·(have AV1:(j:Int)<i:=by omega);(have hjn:(j:Int)<fn:=by omega);obtain⟨y,hy⟩: ∃y,fs[j]? =AA y:=⟨_,Bo (by have:=dR.out;unfold Ai at this;rw[DY] at this;omega)⟩;obtain⟨⟨ynm,yA,yn,yc⟩,yx⟩:=y;(have hyv:(Ai fs)[j]? =AA (ynm,yx):=by unfold Ai;rw[Ba,hy];rfl);obtain⟨ad2,AMF,UK⟩:=(HD.out _ NI.out).2.row.ns (j:=j) (x:=⟨ynm,yA,yn,yc⟩) (by unfold Dq;rw[Ba,hy];rfl);injection AMF with AMF;subst AMF;have y0:=UK.c0;have HY:=AO hyv;clear hy hyv UK;by_cases hey:ynm=nm
     ·have hb3:(ynm.toList==nm.toList)=true:=by rw[<- H7];exact decide_eq_true hey
      have HX:=AO (tV.out _ (by
       rw[ABC HG.out (GV.2 (CG.2 ⟨(ynm,yx),Bi (i:=j) (by rw[lI,BU hlj];exact HY.out),hey⟩)),BU Aq]))
      clear hey;go_wp2;go_quiet (fail);rename_i nq;have hcq:AZ [] wr (wr.drewN nq):=(AZ.refl [] wr).drewN nq;have HCQ:=AO hcq;have HKQ:=AO (HKX.out.Ap hcq AV);clear hcq x0 x1 y0
      generalize wr.drewN nq=wq at*
      obtain⟨⟨s0,f0⟩,⟨s1,f1⟩,⟨s2,f2⟩,⟨s3,f3⟩,hbz,hcz⟩:=VL HKQ.out (.slice A2 (MC BO ds).length c2) (.int .i64 83) (.int .i64 i) (.string {data:=#[99,114,101,97,116,101]});have tN:=AO hbz;have qo:=AO hcz;have Tc:Hid (AZ [] w _):=AO ((NI.out.Ah HCQ.out).trans hcz λx hx=>.inr (by rw[CB.1 hx,<- hrb];exact Bd _));clear hbz hcz;go_wp2
      (try simp only[Exit.inBlock,Exit.then])
      refine bodyPost_ret (ik rfl tN.out) rfl ?_;exact⟨A2,_,c2,MC BO ds,by rw[HP.out.1,<- HX.out];rfl,HZ.out _ _ (AHE.out.Ah (Zr.out.Ah HCQ.out)) qo.out Tc.out,Tc.out,λ_=>by rw[HP.out.2,<- HX.out,BL AV];exact Ry _ _⟩
     (have hb3:(ynm.toList==nm.toList)=false:=by rw[<- H7];exact decide_eq_false hey);have rC:=AO hey;clear hey;go_wp2;go_quiet (fail);go_wp2;go_roundw
     case rel=>
      refine⟨j+1,Aa,by go_num,λz hz=>?_,Zr.out.Ah ((AZ.refl [] _).drewN _)⟩;rw[take_snoc _ _ _ HY.out] at hz;rcases Bj.1 hz with hz|hz;exact LQ.out z hz;rw[CB.1 hz];exact rC.out
     simp[intOf];omega
    obtain rfl:j=i:=by omega
    have um:Hid (Gq ((Ai fs).take j) nm=0):=AO (ADq HG.out (by
     cases hz:(BJ ((Ai fs).take j) nm).isSome with
     |false=>rfl|true=>
      obtain⟨p,hp,he⟩:=CG.1 (GV.1 hz)
      exact Ak he (LQ.out p hp)))
    have HCAP:Hid (fn<=fc):=AO (HD.out w (AZ.refl _ _)).2.row.2.1;by_cases nZ:0<dn
    ·(have AV2:decide ((dn:Int)>0)=true:=by simp;omega);have hcap:=HCAP.out;(have hcap2:((j:Int)+1)<=fc:=by omega);obtain⟨fb,hfb⟩: ∃fb,Df ((Ai fs).take (j+1))=fb:=⟨_,rfl⟩;(have ALI:fb<=1048576:=by have:=Qr (Ai fs) (j+1);have:=HFB.out;omega);have hu2:=HU.out;(go_wp2_with fail);have hsz:=AFj (AA ad) (j+1) fc (fs.take (j+1)) wr ((HD.out _ NI.out).2.take Aa) Aa (by rw[show Ai (fs.take (j+1))=(Ai fs).take (j+1) from by unfold Ai;rw[Jg],hfb];omega);rw[show Ai (fs.take (j+1))=(Ai fs).take (j+1) from by unfold Ai;rw[Jg],hfb] at hsz;refine hsz.mono ?_;rintro e w6 ⟨rfl,rfl⟩;(have hne:dx≠[]:=λe=>by have:=HLEN.out;rw[e] at this;simp at this;omega);by_cases hqq:BK<(u:Int)+fb
     ·(have hqd:decide ((u:Int)+fb>BK)=true:=by simp;omega);have HX:=AO (tV.out _ (by rw[um.out,BL AV,hfb,BU ⟨hne,hqq⟩]));clear hsz x0 x1 hfb;obtain⟨⟨s0,f0⟩,⟨s1,f1⟩,⟨s2,f2⟩,⟨s3,f3⟩,hbz,hcz⟩:=VL HKX.out (.slice A2 (MC BO ds).length c2) (.int .i64 85) (.int .i64 j) (.string {data:=#[119,114,105,116,101]});have tN:=AO hbz;have qo:=AO hcz;have Tc:Hid (AZ [] w _):=AO (NI.out.trans hcz λx hx=>.inr (by rw[CB.1 hx,<- hrb];exact Bd _));clear hbz hcz;go_wp2
      (try simp only[Exit.inBlock,Exit.then])
      refine bodyPost_ret (ik rfl tN.out) rfl ?_;exact⟨A2,_,c2,MC BO ds,by rw[HP.out.1,<- HX.out];rfl,HZ.out _ _ (AHE.out.Ah Zr.out) qo.out Tc.out,Tc.out,λ_=>by rw[HP.out.2,<- HX.out,BL AV];exact Ry _ _⟩
     (have hqd:decide ((u:Int)+fb>BK)=false:=by simp;omega);have HNX:=AO (tV.out _ (by rw[um.out,BL AV,hfb,BL λe=>hqq e.2]));clear hsz hfb;go_wp2;go_roundw
     case rel=>exact⟨j+1,Aa,by go_num,HNX.out,DJ.out.Ah Zr.out⟩
     simp[intOf];omega
    (obtain rfl:dn=0:=by omega);go_wp2;go_roundw
    case rel=>
     refine⟨j+1,Aa,by go_num,tV.out _ ?_,?_⟩
     ·rw[um.out,BL AV,BL];rintro⟨h1,_⟩;exact h1 (RD HLEN.out)
     exact DJ.out.Ah Zr.out
    simp[intOf];omega
  obtain rfl:i=fn:=by omega
  have HE0:Hid (E=[]):=AO (by
   rw[<- HDO.out,Pz (by rw[dR.out];exact Bd _)]
   rfl)
  (go_wp2_with fail);refine (AA1 FA i fc fs wr (HD.out _ Wl.out).2 Aa uk.out).mono ?_;rintro e w6 ⟨A6,c6,L6,rfl,hf6,hp6,hs6,hc6,VH⟩;have JF:Hid (AZ [] wr w6):=AO hc6;have HF6:=AO hf6
  have HP6:Hid (((Ai fs).map Ac).Nodup->Ai L6=Ou (Ai fs)):=AO λhnd=>AMD hp6 hnd λa b x y hab hx hy=>by
   unfold Ai at hx hy;rw[Ba] at hx hy
   cases hx1:L6[a]? with
   |none=>rw[hx1] at hx;cases hx|some x1=>
    cases hy1:L6[b]? with
    |none=>rw[hy1] at hy;cases hy|some y1=>
     rw[hx1] at hx;rw[hy1] at hy;(cases hx);(cases hy);exact hs6 a b x1 y1 hab (CP.1 hy1).1 hx1 hy1
  have APx:Hid (rb<wr.heap.size):=AO HKR.out.lt
  have Xv:Hid (∀k∈bo A6++Ep L6,k∉[rb]):=AO λk hk hm=>by
   rw[CB.1 hm] at hk;have:=VH rb hk;have:=APx.out;omega
  clear hf6 hp6 hs6 hc6 VH;(go_wp2_with fail);refine (AIY A2 _ c2 (MC BO ds) dst A6 _ c6 L6 w6 (HW.out _ (AHE.out.Ah JF.out) (Wl.out.Ah JF.out)) (by have:=HL1.out;omega)).mono ?_;rintro e w7 ⟨A7,c7,rfl,ho7,TF,hn7⟩;have LW:Hid (AZ [] wr w7):=AO (JF.out.Ah TF);have qw:Hid (AZ [] w6 w7):=AO TF;have HO7:=AO ho7;have HK7:=AO (HKR.out.Ap LW.out AV)
  have HN7:Hid (∀k∈bo A7,k∉[rb]):=AO λk hk hm=>by
   rw[CB.1 hm] at hk;have:=hn7 rb hk;have:=APx.out;have:=JF.out.size;omega
  clear ho7 TF hn7;obtain⟨⟨s0,f0⟩,⟨s1,f1⟩,⟨s2,f2⟩,⟨s3,f3⟩,hbz,hcz⟩:=VL HK7.out (.slice A7 (wiM (⟨dst,A6,L6.length,c6⟩,L6) (MC BO ds)).length c7) (.int .i64 0) (.int .i64 0) (.string {data:=#[]});have tN:=AO hbz;have qo:=AO hcz;have Tc:Hid (AZ [] w _):=AO ((Wl.out.Ah LW.out).trans hcz λx hx=>.inr (by rw[CB.1 hx,<- hrb];exact Bd _));clear hbz hcz;go_wp2
  (try simp only[Exit.inBlock,Exit.then])
  refine bodyPost_ret (ik rfl tN.out) rfl ?_;refine⟨A7,_,c7,wiM (⟨dst,A6,L6.length,c6⟩,L6) (MC BO ds),by rw[HP.out.1,HE0.out];rfl,⟨((HO7.out.Ap qo.out HN7.out)).rd,λd hd=>?_⟩,Tc.out,λhnd=>?_⟩
  ·rcases ALr hd with rfl|hm;exact (HF6.out.Es qw.out).Ap qo.out Xv.out;exact (HD.out _ Tc.out).1.ET d (XE.1 hm).1
  rw[HP.out.2,HE0.out,BU rfl,AIX,Ry];show wiD (dst,Ai L6) _=_;rw[ANO _ HS.out,HP6.out (hnd (by rw[HP.out.1,HE0.out]))];unfold VK;rw[<- V8]
section
variable {gs:List FM}{c n:Nat}{A:Option Ag}{w:AL}
structure ADr (W:AL) (sb:Nat) (A:Option Ag) (n c:Nat) (ds:List DM) (BK:Int) (dst:ByteArray) (FA:Option Ag) (fn fc:Nat) (fs:List FM) (K:Option Ag) (kn kc:Nat) (ks:List Bool) (names:Int):Prop where
 g:MN W
 ds:F6 W A n c ds
 fs:EU W FA fn fc fs
 k:Rd W 1 K kn kc (kv ks)
 s:Bv W sb 24 #[.slice A n c,.int .i64 BK]
 p:Bv W (sb+1) 27 #[.string dst,.slice FA fn fc]
 w:Bv W (sb+2) 30 #[.slice K kn kc,.int .i64 names]
theorem ADr.Ap{W w:AL}{sb:Nat}{A:Option Ag}{n c:Nat}{ds:List DM}{BK:Int}{dst:ByteArray}{FA:Option Ag}{fn fc:Nat}{fs:List FM}{K:Option Ag}{kn kc:Nat}{ks:List Bool}{names:Int}
  (h:ADr W sb A n c ds BK dst FA fn fc fs K kn kc ks names) (hc:AZ [] W w):ADr w sb A n c ds BK dst FA fn fc fs K kn kc ks names:=
 ⟨hc.cell h.g AV,h.ds.Es hc,h.fs.Es hc,h.k.Ap hc AV,h.s.Ap hc AV,h.p.Ap hc AV,h.w.Ap hc AV⟩
theorem AU7(hg:MN w){ds:List DM}{BK:Int}{dst:ByteArray}{FA:Option Ag}{fn fc:Nat}{fs:List FM}{K:Option Ag}{kn kc:Nat}{ks:List Bool}{names:Int}
  (h:F6 w A n c ds) (hf:EU w FA fn fc fs) (hk:Rd w 1 K kn kc (kv ks)):
  ∃W sb,((w.alloc (.cells #[.slice A n c,.int .i64 BK] 24)).alloc (.cells #[.string dst,.slice FA fn fc] 27)).alloc (.cells #[.slice K kn kc,.int .i64 names] 30)=W/\w.heap.size=sb/\AZ [] w W/\W.heap.size=sb+3/\
   ADr W sb A n c ds BK dst FA fn fc fs K kn kc ks names:=by
 refine⟨_,_,rfl,rfl,(((AZ.refl [] w).alloc _).alloc _).alloc _,AV,?_⟩;have hc:=(((AZ.refl [] w).alloc (.cells #[.slice A n c,.int .i64 BK] 24)).alloc (.cells #[.string dst,.slice FA fn fc] 27)).alloc (.cells #[.slice K kn kc,.int .i64 names] 30);refine⟨hc.cell hg AV,h.Es hc,hf.Es hc,hk.Ap hc AV,(Bv.new w _ _).Ap (((AZ.refl [] _).alloc _).alloc _) AV,?_,?_⟩
 ·have:=(Bv.new (w.alloc (.cells #[.slice A n c,.int .i64 BK] 24)) 27 #[.string dst,.slice FA fn fc]).Ap ((AZ.refl [] _).alloc (.cells #[.slice K kn kc,.int .i64 names] 30)) AV;simpa using this
 have:=Bv.new ((w.alloc (.cells #[.slice A n c,.int .i64 BK] 24)).alloc (.cells #[.string dst,.slice FA fn fc] 27)) 30 #[.slice K kn kc,.int .i64 names];simpa using this
def Wrt (w:AL) (gs:List FM):Prop:=∀f∈gs,∀k,k<f.1.n->∃ad v,f.1.A=AA ad/\w.cell? (ad.add k)=AA v/\w.frozen? (ad.add k)=false
theorem Wrt.set(h:Wrt w gs)(p:Ag)(u:AQ):Wrt (w.setCell p u) gs:=λf hf k hk=>by
 obtain⟨ad,v,h1,h2,h3⟩:=h f hf k hk;obtain⟨v',h4⟩:=cell?_setCell_some (p:=p) (x:=u) h2;exact⟨ad,v',h1,h4,by rw[World.frozen?_setCell];exact h3⟩
theorem GU.wrt(h:GU w A n c gs):Wrt w gs:=λf hf k hk=>by
 obtain⟨ad,u,h1,_,h2,h3,_⟩:=(h.dat f hf).Yu hk;exact⟨ad,u,h1,h2,h3⟩
theorem AIj(w:AL)(hg:MN w)(A:Option Ag)(n c:Nat)(ds:List DM)(BK:Int)(dst:ByteArray)(FA:Option Ag)(fn fc:Nat)(fs:List FM)(K:Option Ag)(kn kc:Nat)(ks:List Bool)(names:Int)
  (h:F6 w A n c ds) (hf:EU w FA fn fc fs) (hK:Rd w 1 K kn kc (kv ks)) (hn:n<=1048576) (hfn:fn<=1048576) (hkn:kn<=1073741824) (hb:E5 (BD ds)<=1048576) (hl:X4 (Ai fs)<=6291456) (hfb:Df (Ai fs)<=1048576)
  (hds: ∀x∈ds,x.1.n<=1073741824/\∀f∈x.2,f.1.n<=1073741824) (hfs: ∀x∈fs,x.1.n<=1073741824) (hby: ∀f∈Ai fs,∀x∈f.2,0<=x/\x<=255) (hq:BK<=9223372036854775807):
  Au Ae 6 #[.agg #[.slice A n c,.int .i64 BK],.agg #[.string dst,.slice FA fn fc],.agg #[.slice K kn kc,.int .i64 names]] w λe w'=>e=.returned (.bool true)/\AZ [] w w':=by
 obtain⟨W,sb,hW,hsb,hcW,hWs,hE⟩:=AU7 (BK:=BK) (dst:=dst) (names:=names) hg h hf hK;have HE:Hid (∀w',AZ [] W w'->ADr w' sb A n c ds BK dst FA fn fc fs K kn kc ks names):=AO λw' hc=>hE.Ap hc
 have hfl:(Ai fs).length=fn:=by
  (have h1:fs.length=fn:=by have:=hf.row.KF;simpa[Dq] using this);unfold Ai;rw[DY];exact h1
 have dR:=AO hfl;have HC:=AO hcW;have HB:=AO hb;have HL:=AO hl;have HBY:=AO hby;have AHB:Hid (∀w' q s,AZ [] W w'->Au Ae 13 #[.agg #[.slice A n c,.int .i64 q],.int .i64 s] w' (APt w' (BD ds) q s)):=AO λw' q s hc=>AFr w' A n c ds q s (hE.Ap hc).ds Aa Aa hds;have AL6:Hid (∀w',AZ [] W w'->Au Ae 15 #[.slice FA fn fc] w' (xq w' (Ai fs))):=AO λw' hc=>X7 FA fn fc fs w' (hE.Ap hc).fs Aa hfs
 have HRP:Hid (Eo (BD ds) BK=0->∀w',AZ [] W w'->Au Ae 25 #[.slice A n c,.int .i64 BK,.string dst,.slice FA fn fc] w' (APw w' BK (BD ds) dst (Ai fs))):=AO λh0 w' hc=>
  AIi w' A n c ds BK dst FA fn fc fs (hE.Ap hc).ds (hE.Ap hc).fs hn hfn (λx hx=>(hds x hx).1) hfs hb hfb (AME h0 BO)
 have q8:= @VC8;have q13:= @ATF;have uf:= @AOe;have ug:= @AKY;have q16:= @ATG;have q18:= @AOg;have q19:= @ATH;have q20:= @AOh;have q24:= @AOi;have q25:= @ATJ;have q26:= @ATK;have q27:= @ATL;have q28:= @AOj;clear h hf hb hl hds hfs hby hcW hE hg hWs hK hfb hfl;go_enter VF6,Tryz.ntmps6;(go_wp2_with fail);refine (ADi W (HE.out W (AZ.refl _ _)).g).mono ?_;rintro e w1 ⟨rfl,hc1⟩;have CZ:Hid (AZ [] W w1):=AO hc1;have x0:=(HE.out _ hc1).s.cell 0;have x1:=(HE.out _ hc1).s.cell 1;clear hc1;(go_wp2_with fail);refine (AHB.out w1 BK (-1) CZ.out).mono ?_;rintro e w2 (⟨he,rfl,hc2⟩|⟨he,G,rfl,hF,hN,hc2⟩)
 ·have HC2:Hid (AZ [] w w2):=AO ((HC.out.Ah CZ.out).Ah hc2);clear he hc2 x0 x1;go_wp2;go_ret;exact⟨rfl,HC2.out⟩
 have HC2:Hid (AZ [] W w2):=AO (CZ.out.Ah hc2);have HF:=AO hF;(have HN:Hid (∀x∈G.all,W.heap.size<=x):=AO λx hx=>by have:=hN x hx;have:=CZ.out.size;omega);have qU:=AO (ig (dst:=dst) (fs:=Ai fs) he hq ks names);have HI:=AO (VF (stop:= -1) he hq);have HUQ:=AO ((Uq.open_ (D:=BD ds) (q:=BK) (s:= -1)).Jo dst (Ai fs));have HR:=AO (HRP.out he)
 generalize hS:Gw (BD ds) BK (-1)=S at*
 have x2:=(HE.out _ HC2.out).p.cell 1;clear hF hN hc2 he x0 x1 hS HRP AHB;(go_wp2_with fail);refine (AL6.out w2 HC2.out).mono ?_;rintro e w3 ⟨A3,c3,gs,rfl,hO,hv,hc3,hnn⟩;have Gg:Hid (AZ [] W w3):=AO (HC2.out.Ah hc3);have hP3:=AA9 (dst:=dst) HF.out HI.out hO hv hc3 hnn HBY.out (by have:=HB.out;have:=HL.out;omega);(have hlen:(Ai fs).length=gs.length:=by rw[<- hv];simp[Ai]);rw[hlen] at hP3 hO⊢;(have hgl:gs.length<=1048576:=by rw[<- hlen,dR.out];exact hfn);have HP3:=AO hP3;have HO:=AO hO
 have HDN:Hid (∀f∈gs,f.1.n<=2097152):=AO λf hf=>by
  have h1:3*f.2.length+6<=X4 (Ai fs):=ADM (f:=(f.1.nm,f.2)) (by rw[<- hv];exact CG.2 ⟨f,hf,rfl⟩);have h2:=(hO.dat f hf).rd.ADA;have:=HL.out;omega
 have HV:=AO hv;have HNN:Hid (∀k∈bo A3++Ep gs,W.heap.size<=k/\k∉G.all):=AO λk hk=>⟨by have:=hnn k hk;have:=HC2.out.size;omega,λhm=>by have:=hnn k hk;have:=HF.out.lt k hm;omega⟩;have HLT:=AO hO.lt;have x3:=(HE.out _ Gg.out).p.cell 0;clear hO hv hc3 hnn x2 hP3 hlen;(go_wp2_with fail);refine HP3.out.mono ?_;rintro e w4 ⟨v4,G4,L4,rfl,hev,hf4,hb4,hall,hc4,hL4⟩;have OC:Hid (AZ [] W w4):=AO (Gg.out.trans hc4 λx hx=>.inr (HN.out x hx));have HO4:=AO (HO.out.Ap hc4 λk hk=>(HNN.out k hk).2);have HEV:=AO hev;have TD:=AO hf4;have HB4:=AO hb4
 have HX4:Hid ((∀x∈G4.all,x∉Ep gs)/\∀x∈L4,x∉Ep gs):=AO ⟨λx hx hm=>by
  have h1:=HLT.out x (GN _ hm);rcases hall x hx with h|h;exact (HNN.out x (GN _ hm)).2 h
  omega,λx hx hm=>by
  have h1:=HLT.out x (GN _ hm);have h2:=(hL4 x hx).1
  omega⟩
 have HI4:=AO (HI.out.Jo dst (Ai fs));have x2:=(HE.out _ OC.out).p.cell 1;clear hev hf4 hb4 hall hc4 hL4 HP3 x3;(go_wp2_with fail);refine (sG A3 gs.length c3 gs FA fn fc fs w4 HO4.out.rd (HE.out _ OC.out).fs Aa).mono ?_;rintro e w5 ⟨b,rfl,hb5,hc5⟩;obtain rfl:=hb5 HV.out;have AMG:Hid (AZ [] w4 w5):=AO hc5;have kz:=AO (HO4.out.Ap hc5 AV)
 have AU8:Hid (∀w',AZ (Ep gs) w5 w'->Rd w' 2 A3 gs.length c3 (Hl (Dq gs))):=AO λw' hc=>kz.out.row.rd.Ap hc λk hk hm=>by
  have:=kz.out.nodup;exact (OH.1 this).2.2 k hk k hm rfl
 have HBL:Hid (∀f∈gs,∀ad,f.1.A=AA ad->ad.block∈Ep gs):=AO λf hf ad e=>GG.2 ⟨f,hf,by rw[e];simp⟩;clear hb5 hc5 x2;go_wp2;go_loopw [11,12,40] (λ_ _ q wr=>∃i:Nat,i<=gs.length/\q=.int .i64 i/\AZ (Ep gs) w5 wr/\Wrt wr gs) (λ_ _ q _=>gs.length - (intOf q).toNat)
 case atStart=>exact⟨0,DW _,rfl,AZ.refl _ _,kz.out.wrt⟩
 obtain⟨i,hi,rfl,hch,hwr⟩:=hrel;have DJ:=AO hch;have HWR:=AO hwr;clear hch hwr;by_cases hlt:i<gs.length
 ·(have hlt':(i:Int)<gs.length:=by omega);obtain⟨f,hf⟩: ∃f,gs[i]? =AA f:=⟨_,Bo hlt⟩;have hfm:=Bi hf;have hdn:=HDN.out _ hfm;obtain⟨⟨nm,dA,dn,dc⟩,dx⟩:=f;simp only at hdn;have HFM:=AO hfm
  have HAT:Hid (∀w',AZ (Ep gs) w5 w'->∃ad,A3=AA ad/\w'.cell? ⟨(ad.add (i*2)).block,(ad.add (i*2)).off+1,AB⟩=AA (.slice dA dn dc)):=AO λw' hc=>by
   obtain⟨ad,h1,hat⟩:=(AU8.out w' hc).ns (j:=i) (x:=⟨nm,dA,dn,dc⟩) (by unfold Dq;rw[Ba,hf];rfl);exact⟨ad,h1,hat.c1⟩
  obtain⟨ad,rfl,x1⟩:=HAT.out _ DJ.out;clear hf hfm;go_wp2;go_loopw [12,49] (λ_ q wx=>∃k:Nat,k<=dn/\q=.int .i64 k/\AZ (Ep gs) w5 wx/\Wrt wx gs) (λ_ q _=>dn - (intOf q).toNat)
  case atStart=>exact⟨0,DW _,rfl,DJ.out,HWR.out⟩
  obtain⟨k,hk,rfl,hcx,hwx⟩:=hrel;have Zr:=AO hcx;have HWX:=AO hwx;clear hcx hwx;obtain⟨ad',had,x2⟩:=HAT.out _ Zr.out;injection had with had;subst had;by_cases hlk:k<dn
  ·(have AV3:(k:Int)<dn:=by omega);obtain⟨da,v,hda,hc,hfz⟩:=HWX.out _ HFM.out k hlk;simp only at hda;subst hda;have HDA:Hid ((da.add k).block∈Ep gs):=AO (by rw[add_block];exact HBL.out _ HFM.out _ rfl);go_wp2;go_roundw
   case rel=>exact⟨k+1,Aa,by go_num,Zr.out.setCell (.inl HDA.out) _,HWX.out.set _ _⟩
   simp[intOf];omega
  (obtain rfl:k=dn:=by omega);go_wp2;go_roundw
  case rel=>exact⟨i+1,Aa,by go_num,Zr.out,HWX.out⟩
  simp[intOf];omega
 (obtain rfl:i=gs.length:=by omega);have Wl:Hid (AZ [] W wr):=AO ((OC.out.Ah AMG.out).trans DJ.out λx hx=>.inr (HNN.out x (GN _ hx)).1);have APy:=AO ((HEV.out.Ap AMG.out AV).Ap DJ.out HX4.out.2);have HF6:=AO ((TD.out.Cc AMG.out).keep DJ.out HX4.out.1);have x0:=(HE.out _ Wl.out).s.cell 0;have x1:=(HE.out _ Wl.out).s.cell 1;have x2:=(HE.out _ Wl.out).p.cell 0;have x3:=(HE.out _ Wl.out).p.cell 1;clear HEV TD HX4;(go_wp2_with fail);refine (HR.out _ Wl.out).mono ?_;rintro e w7 ⟨A7,n7,c7,L7,rfl,hd7,TF,hw7⟩;have LW:Hid (AZ [] W w7):=AO (Wl.out.Ah TF);have HW7:Hid (BD L7=TQ BK (BD ds) dst (Ai fs)):=AO (hw7 qU.out.2.2.2);have HD7:=AO hd7;have HF7:=AO (HF6.out.Cc TF);have AMH:=APy.out.Ap TF AV;obtain⟨P,hP⟩: ∃P,Qg BK (BD ds) dst (Ai fs)=P:=⟨_,rfl⟩;have HP:=AO hP;rw[qU.out.1,hP] at AMH;have AMI:=AO AMH;rw[hP];obtain⟨W8,hW8⟩: ∃W8,w7.alloc (.cells #[.slice A7 n7 c7,.int .i64 (codeF P),.int .i64 (plF P),.string (opF P)] 66)=W8:=⟨_,rfl⟩;obtain⟨gb,hgb⟩: ∃gb,w7.heap.size=gb:=⟨_,rfl⟩;have HG8:Hid (Bv W8 gb 66 #[.slice A7 n7 c7,.int .i64 (codeF P),.int .i64 (plF P),.string (opF P)]):=AO (by rw[<- hW8,<- hgb];exact Bv.new _ _ _);have HC8:Hid (AZ [] w7 W8):=AO (by rw[<- hW8];exact (AZ.refl [] w7).alloc _);clear hd7 TF hw7 hP AMH APy HF6 HR x0 x1 x2 x3
 go_upto_region 20 with fail
 go_cut [101] (λAU9 wx=>AU9=.bool false/\AZ [] W8 wx)
 case first=>
  have HG:Hid (∀w',AZ [] W8 w'->MN w'):=AO λw' hc=>(HE.out _ ((LW.out.Ah HC8.out).Ah hc)).g;have HEV:Hid (∀w',AZ [] W8 w'->JX w' v4 L4 P):=AO λw' hc=>AMI.out.Ap (HC8.out.Ah hc) AV;have HGB:Hid (∀w',AZ [] W8 w'->Bv w' gb 66 #[.slice A7 n7 c7,.int .i64 (codeF P),.int .i64 (plF P),.string (opF P)]):=AO λw' hc=>HG8.out.Ap hc AV
  cases P with
  |nil=>
   obtain rfl:=AMI.out.nil_;have H1:Hid (∀w',AZ [] W8 w'->w'.cell? ⟨gb,1,AB⟩=AA (.int .i64 0)):=AO λw' hc=>(HGB.out w' hc).cell 1;have H3:Hid (∀w',AZ [] W8 w'->w'.cell? ⟨gb,3,AB⟩=AA (.string {data:=#[]})):=AO λw' hc=>(HGB.out w' hc).cell 3;refine Ew (S:=λw'=>AZ [] W8 w') Az ((AZ.refl _ _).drew) (λhHeld=>?_);refine tk 0 ?_;refine tk 1 ?_;refine tk 2 ?_;refine F9 3 (λw' hSw=>H1.out _ hSw) ?_;refine tk 4 ?_;refine tk 5 ?_;refine tk 6 ?_;refine tk 7 ?_;refine tk 9 ?_;refine F9 10 (λw' hSw=>H1.out _ hSw) ?_;refine EM 8 λKK hK=>?_;go_simp;refine (code_nil _).mono ?_;rintro e w9 ⟨rfl,rfl⟩;go_simp;refine hK.out _ _ hHeld (λhHeld=>?_);(try simp only[BG,Bg]);clear hK KK;refine tk 11 ?_;refine tk 12 ?_;refine tk 13 ?_;refine tk 14 ?_;refine tk 16 ?_;refine F9 17 (λw' hSw=>H3.out _ hSw) ?_;refine EM 15 λKK hK=>?_;go_simp;refine (AFp _).mono ?_;rintro e w9 ⟨rfl,rfl⟩;go_simp;refine hK.out _ _ hHeld (λhHeld=>?_);(try simp only[BG,Bg]);clear hK KK;refine EM 18 λKK hK=>?_;go_simp;refine (ADX _).mono ?_;rintro e w9 ⟨rfl,rfl⟩;go_simp;refine hK.out _ _ hHeld (λhHeld=>?_);(try simp only[BG,Bg]);clear hK KK;refine tk 19 ?_;refine tk 20 ?_;refine tk 21 ?_;refine tk 22 ?_;refine tk 23 ?_;refine tk 24 ?_;refine tk 25 ?_;refine tk 27 ?_;refine tk 28 ?_;refine EM 26 λKK hK=>?_;go_simp;refine hK.out _ _ hHeld (λhHeld=>?_);(try simp only[BG,Bg]);clear hK KK;refine tk 29 ?_;refine tk 30 ?_;refine tk 31 ?_;refine Ej Az ?_ _;(try simp only[BG,Bg]);go_wp2_with fail
   go_meet
   exact⟨rfl,hHeld⟩
  |cons f r=>
   obtain⟨hcd,hop⟩:=AFv HP.out;obtain⟨T,x,rfl,_⟩:=AMI.out.as_;(have hcd0:(f.cd==0)=false:=by simp[hcd]);have HOP:=AO hop;have H1:Hid (∀w',AZ [] W8 w'->w'.cell? ⟨gb,1,AB⟩=AA (.int .i64 f.cd)):=AO λw' hc=>(HGB.out w' hc).cell 1;have H2:Hid (∀w',AZ [] W8 w'->w'.cell? ⟨gb,2,AB⟩=AA (.int .i64 f.pl)):=AO λw' hc=>(HGB.out w' hc).cell 2;have H3:Hid (∀w',AZ [] W8 w'->w'.cell? ⟨gb,3,AB⟩=AA (.string f.op)):=AO λw' hc=>(HGB.out w' hc).cell 3;clear hop hcd;refine Ew (S:=λw'=>AZ [] W8 w') Az ((AZ.refl _ _).drew) (λhHeld=>?_);refine tk 0 ?_;refine tk 1 ?_;refine tk 2 ?_;refine F9 3 (λw' hSw=>H1.out _ hSw) ?_;refine tk 4 ?_;refine tk 5 ?_;refine tk 6 ?_;refine tk 7 ?_;refine tk 9 ?_;refine F9 10 (λw' hSw=>H1.out _ hSw) ?_;refine EM 8 λKK hK=>?_;go_simp;refine (xm (HEV.out _ hHeld) (HG.out _ hHeld)).mono ?_;rintro e w9 ⟨rfl,dU⟩;have hh:=hHeld.Ah dU;go_simp;refine hK.out _ _ hh (λhHeld=>?_);(try simp only[BG,Bg]);clear hK KK dU hh;refine tk 11 ?_;refine tk 12 ?_;refine tk 13 ?_;refine tk 14 ?_;refine tk 16 ?_;refine F9 17 (λw' hSw=>H3.out _ hSw) ?_;refine EM 15 λKK hK=>?_;go_simp;refine (AFq (HEV.out _ hHeld) (HG.out _ hHeld)).mono ?_;rintro e w10 ⟨A10,c10,rfl,APz,ADs⟩;have hh:=hHeld.Ah ADs;have AVA:=AO APz;go_simp;refine hK.out _ _ hh (λhHeld=>?_);(try simp only[BG,Bg]);clear hK KK ADs hh APz;refine EM 18 λKK hK=>?_;go_simp;refine (ADY AVA.out HOP.out).mono ?_;rintro e w11 ⟨rfl,rfl⟩;go_simp;refine hK.out _ _ hHeld (λhHeld=>?_);(try simp only[BG,Bg]);clear hK KK;refine tk 19 ?_;refine tk 20 ?_;refine tk 21 ?_;refine tk 22 ?_;refine tk 23 ?_;refine tk 24 ?_;refine tk 25 ?_;refine tk 27 ?_;refine F9 28 (λw' hSw=>H2.out _ hSw) ?_;refine EM 26 λKK hK=>?_;go_simp;refine (sZ (HEV.out _ hHeld) (HG.out _ hHeld)).mono ?_;rintro e w12 ⟨rfl,hc12⟩;have hh:=hHeld.Ah hc12;go_simp;refine hK.out _ _ hh (λhHeld=>?_);(try simp only[BG,Bg]);clear hK KK hc12 hh;refine tk 29 ?_;refine tk 30 ?_;refine tk 31 ?_;refine Ej Az ?_ _;(try simp only[BG,Bg]);go_wp2_with fail
   go_meet
   exact⟨rfl,hHeld⟩
 obtain⟨rfl,hcc⟩:=hcut;have HCC:Hid (AZ [] w7 wc):=AO (HC8.out.Ah hcc);have HC9:Hid (AZ [] W wc):=AO (LW.out.Ah HCC.out);have HF9:=AO (HF7.out.Cc HCC.out);have H0:Hid (∀w',AZ [] wc w'->w'.cell? ⟨gb,0,AB⟩=AA (.slice A7 n7 c7)):=AO λw' hc=>(HG8.out.Ap (hcc.Ah hc) AV).cell 0;have uq:Hid (∀w',AZ [] wc w'->w'.cell? ⟨sb+2,0,AB⟩=AA (.slice K kn kc)/\w'.cell? ⟨sb+2,1,AB⟩=AA (.int .i64 names)):=AO λw' hc=>⟨(HE.out _ (HC9.out.Ah hc)).w.cell 0,(HE.out _ (HC9.out.Ah hc)).w.cell 1⟩
 have HBV:Hid (E5 (TQ BK (BD ds) dst (Ai fs))<=1073741824):=AO (by
  have:=ADm HUQ.out HI4.out;rw[qU.out.2.1] at this
  have:=HB.out;have:=HL.out;omega)
 clear hcc;(go_wp2_with fail);refine Ew (S:=λw'=>AZ [] wc w') Az ((AZ.refl _ _).drew) (λhHeld=>?_);refine tk 0 ?_;refine tk 2 ?_;refine F9 3 (λw' hSw=>H0.out _ hSw) ?_;refine EM 1 λKK hK=>?_;go_simp;have hvw:=qp (HF9.out.Cc hHeld) HI4.out (by have:=HB.out;have:=HL.out;omega);rw[HB4.out,qU.out.2.1] at hvw;refine hvw.mono ?_;clear hvw;rintro e w10 ⟨A10,n10,c10,AMJ,rfl,hd10,AMK,ADs,_⟩;have AVB:Hid (AZ [] wc w10):=AO (hHeld.Ah ADs);have AVC:=AO hd10.rd;have AVD:Hid (BD AMJ=BD L7):=AO (AMK.trans HW7.out.symm)
 have sV:Hid (n10<=1073741824/\∀x∈AMJ,x.1.n<=1073741824):=AO (by
  obtain⟨h1,_,_,h2⟩:=Z7 hd10.rd (B:=1073741824) (by rw[AMK];exact HBV.out)
  exact⟨h1,λx hx=>(h2 x hx).1⟩)
 clear hd10 AMK ADs;go_simp;refine hK.out _ _ AVB.out (λhHeld=>?_);(try simp only[BG,Bg]);clear hK KK;refine EM 4 λKK hK=>?_;go_simp;refine (sH A10 n10 c10 AMJ A7 n7 c7 L7 w10 AVC.out (HD7.out.Es (HCC.out.Ah hHeld)) sV.out.1 sV.out.2).mono ?_;rintro e w11 ⟨b,rfl,AP0,AP1⟩;obtain rfl:=AP0 AVD.out;have AVE:Hid (AZ [] wc w11):=AO (hHeld.Ah AP1);clear AP0 AP1;go_simp;refine hK.out _ _ AVE.out (λhHeld=>?_);(try simp only[BG,Bg]);clear hK KK;refine tk 5 ?_;refine tk 6 ?_;refine AO2 7 (λw' hSw=>uq.out _ hSw) ?_;refine tk 9 ?_;refine F9 10 (λw' hSw=>H0.out _ hSw) ?_;refine EM 8 λKK hK=>?_;go_simp;have hdu:=ACy (HF9.out.Cc hHeld) HI4.out (by have:=HB.out;have:=HL.out;omega) K kn kc ks names (HE.out _ (HC9.out.Ah hHeld)).k hkn;rw[HB4.out,qU.out.2.2.1] at hdu;refine hdu.mono ?_;clear hdu;rintro e w12 ⟨A12,n12,c12,AML,rfl,AMM,AMN,hc12,_⟩;have AVF:Hid (AZ [] wc w12):=AO (hHeld.Ah hc12);have AVG:=AO AMM.rd;have AVH:Hid (BD AML=BD L7):=AO (AMN.trans HW7.out.symm)
 have AP2:Hid (n12<=1073741824/\∀x∈AML,x.1.n<=1073741824):=AO (by
  obtain⟨h1,_,_,h2⟩:=Z7 AMM.rd (B:=1073741824) (by rw[AMN];exact HBV.out)
  exact⟨h1,λx hx=>(h2 x hx).1⟩)
 clear AMM AMN hc12;go_simp;refine hK.out _ _ AVF.out (λhHeld=>?_);(try simp only[BG,Bg]);clear hK KK;refine EM 11 λKK hK=>?_;go_simp;refine (sH A12 n12 c12 AML A7 n7 c7 L7 w12 AVG.out (HD7.out.Es (HCC.out.Ah hHeld)) AP2.out.1 AP2.out.2).mono ?_;rintro e w13 ⟨b,rfl,AP3,hc13⟩;obtain rfl:=AP3 AVH.out;have AP4:Hid (AZ [] wc w13):=AO (hHeld.Ah hc13);clear AP3 hc13;go_simp;refine hK.out _ _ AP4.out (λhHeld=>?_);(try simp only[BG,Bg]);clear hK KK;refine tk 12 ?_;refine tk 13 ?_;refine Ej Az ?_ _;(try simp only[BG,Bg]);have Tc:Hid (AZ [] w w13):=AO ((HC.out.Ah HC9.out).Ah AP4.out);go_wp2;go_ret;exact⟨rfl,Tc.out⟩
end
theorem AIk{H:Type}{enc:Am×AQ->H}{W:AL}{b:Nat}{r:Go.Reach}{held:Bool}{v:AQ}{d:Dt H}{p:List GZ}
  (hv:Value.okWide Tryz.prog W r b 27 v) (h:DataW.Trod enc Tryz.prog W 0 (λ_=>true) held 27 v d p):
  ∃dst A n c,∃fs:List FM,v=.agg #[.string dst,.slice A n c]/\df W A n c fs/\(fs.map λx=>x.2.length+1).sum+1<=Rows.uptoBulk d:=by
 obtain⟨cs,rfl,hsz⟩:=okWide_struct Tryz.underlying27 hv;obtain⟨c0,c1,rfl⟩:=array2 (hsz.trans Az);obtain⟨fuel,hf⟩:=h;obtain⟨y0,y1,m,hx,hl,h0,h1⟩:=trod_struct2 Tryz.underlying27 (by simpa[Nv] using hf);simp only[O5] at hx;obtain⟨rfl,rfl⟩:=hx;(have e0:Tryz.prog.cellsOf 9=1:=by kernel_rfl);(have e1:Tryz.prog.cellsOf 25=1:=by kernel_rfl);simp only[e0,e1,aj,ABK,List.take_zero,yf] at h0 h1;obtain⟨dst,hd,_,_⟩:=DataW.trod_string Tryz.underlying9 h0;simp only[Ir,and_true] at hd;subst hd;obtain⟨a,l,c,hc⟩:=slice_form Tryz.underlying25 h1;simp only[Ir,and_true] at hc;subst hc;obtain⟨A,n0,cc,fs,k1,k2,k3⟩:=jm ⟨_,_,_,rfl⟩ ⟨m,by simpa[Nv] using h1⟩;injection k1 with i1 i2 i3;subst i1;subst i2;subst i3;refine⟨dst,_,_,_,fs,rfl,k2,?_⟩;simp only[Rows.uptoBulk,Rows.uptoBulkAll];omega
end Go.Proofs.YtkkgcebhfghdnaaGreatDoor.Vw
namespace Go.Proofs.YtkkgcebhfghdnaaGreatDoor.lawPublishes
open Go Go.RowKit Go.Conc Go.ChangeShapes Go.WideShapes Go.Deep Go.Proofs.YtkkgcebhfghdnaaGreatDoor.Vw
theorem runs(H:Type)(enc:Am×AQ->H)(W:AL)(base:Nat)(args:Array AQ)(ds gs:List (Dt H))(before:List GZ)(hsh:W.ShapedOpen Tryz.prog)(hl:laidMetH Tryz.prog [("errors.errorType",Rows.laid_errors_errorType)] W)
  (hval: ∀(j:Nat) t v,Tryz.f6.params[j]? =AA t->args[j]? =AA v->Value.okWide Tryz.prog W .any base t v)
  (hW:DataW.Whole enc Tryz.prog Tryz.f6.params.toList Rows.stagingPublishesSpec.vars false W args.toList ds gs before) (hk:Rows.uptoSmall H (ds++gs)=true):
  ∃M last o w' t',runNT Tryz.prog (M+1) (solo (G (Bc Tryz.prog 6 args .normal) []) W) #[]=(.ended o w',t')/\runN Tryz.prog M (solo (G (Bc Tryz.prog 6 args .normal) []) W)=.next last/\
   step Tryz.prog last=.ended o w'/\Conc.Good Tryz.prog (λv W'=>Rows.stagingPublishesSpec.post enc Tryz.prog Tryz.f6 false true false false W args v W') last o w' t':=by
 have hW':=hW;obtain⟨p,q,hA0,hV,rfl,hfz,hnd⟩:=hW;have hA:DataW.TrodAll enc Tryz.prog W 0 (λ_=>true) true Tryz.f6.params.toList args.toList ds p:=hA0;rw[Tryz.params6] at hA hval;obtain⟨v0,v1,v2,d0,d1,d2,p0,p1,p2,hargs,rfl,rfl,h0,h1,h2⟩:=trodAll_three hA;obtain⟨rfl,rfl⟩:=trodVars_none hV;have hb:=ACU hk;simp only[Ii,Rows.uptoBulkAll] at hb;subst hargs;obtain⟨A,n,c,dsk,BK,rfl,hD,hq,hD2⟩:=ADC (hval 0 _ _ rfl rfl) h0;obtain⟨dst,FA,fn,fc,fs,rfl,hFI,hF2⟩:=AIk (hval 1 _ _ rfl rfl) h1;obtain⟨K,kn,kc,ks,names,rfl,hK,hKr,hK2⟩:=AFY (hval 2 _ _ rfl rfl) h2;have hg:=AIW hl;have hr0:=cells_of_cell hg;have hr1:=ALn hsh
 have hN:2<=W.heap.size:=by
  obtain⟨_,_,_,h⟩:=hr1;exact (Dj.1 h).1
 refine AE1 (X:=6) (fn:=Tryz.f6) (r:=6) Aq (by rfl) Tryz.func6 VF6 rfl Az (Bs:=JJ W) hN (λb hb=>?_) (λb hb=>hb) ?_ ?_
 ·rcases b with _|_|b;exact hr0;exact hr1;omega
 ·intro w' hsz hbl ht ho hou
  exact AHr AIU hW' rfl rfl Tryz.underlying4 (by
   intro t ht;rw[Tryz.params6] at ht;simp at ht
   rcases ht with rfl|rfl|rfl<;>exact⟨Az,of_decide_eq_true Az⟩) rfl rfl rfl ⟨ho,ht,hou,hsz,hbl⟩
 intro H ts args' hH hrow hargs t;have hcar:=ASQ hrow t;obtain⟨hz,ha⟩:=hargs;obtain⟨v0,v1,v2,rfl⟩:=Go.Joins.array3 (hz.trans rfl);obtain⟨p0,rfl,hz0,ha0⟩:=(ha 0 _ _ rfl rfl).2.AAH;obtain⟨p1,rfl,hz1,ha1⟩:=(ha 1 _ _ rfl rfl).2.AAH;obtain⟨p2,rfl,hz2,ha2⟩:=(ha 2 _ _ rfl rfl).2.AAH;obtain⟨u0,u1,rfl⟩:=Go.Joins.array2 (hz0.trans rfl);obtain⟨u2,u3,rfl⟩:=Go.Joins.array2 (hz1.trans rfl);obtain⟨u4,u5,rfl⟩:=Go.Joins.array2 (hz2.trans rfl);obtain rfl:=TG (ha0 1 _ _ rfl rfl) rfl;obtain rfl:=TG (ha1 0 _ _ rfl rfl) rfl;obtain rfl:=TG (ha2 1 _ _ rfl rfl) rfl;have hsz:W.heap.size<=(({W with heap:=H}:AL).DN t).heap.size:=hH;obtain⟨A',ds',rfl,hD',hDv⟩:=AII hcar hsz hD (ha0 0 _ _ rfl rfl);obtain⟨FA',fs',rfl,hF',hFv⟩:=rE hcar hsz hFI (ha1 1 _ _ rfl rfl);obtain⟨K',rfl,hK'⟩:=ADE hcar hsz hK hKr (ha2 0 _ _ rfl rfl) (λx hx=>by obtain⟨z,_,rfl⟩:=CG.1 hx;rfl)
 have hg':MN (({W with heap:=H}:AL).DN t):=by
  obtain⟨v,h1,h2⟩:=hcar _ _ hg
  have:v=.iface 199 (.agg #[.pointer (AA ⟨1,39,AB⟩)]):=h2.AAG (.iface (.agg λi x hx=>by
   rcases i with _|i
   ·(obtain rfl:Value.pointer (AA ⟨1,39,AB⟩)=x:=by simpa using hx);exact .ptr ⟨rfl,hr1⟩
   simp at hx))
  rw[this] at h1;exact h1
 (have hB:E5 (BD ds')<=1048576:=by rw[hDv];omega);obtain⟨b1,_,_,b2⟩:=Z7 hD' hB;have hfl:=AIh fs;rw[<- hFv] at hfl;(have hfn:fs'.length=fn:=by have:=hF'.row.KF;simpa[Dq] using this);have hln:6*fs'.length<=X4 (Ai fs'):=by have:=ADL (Ai fs');simpa[Ai] using this
 have hfb:Df (Ai fs')<=1048576:=by
  have h1:Df (Ai fs)<=(fs.map λx=>x.2.length+1).sum:=by
   unfold Df Ai;rw[En];clear hfl hFv hF2 hFI hF' hln
   induction fs with|nil=>simp|cons x r ih=>simp only[BN,Bz,Function.comp];omega
  rw[hFv];omega
 refine (AIj _ hg' A' n c ds' BK dst FA' fn fc fs' K' kn kc ks names hD' hF' hK' Aa Aa Aa hB Aa hfb (λx hx=>⟨by have:=(b2 x hx).1;omega,λf hf=>by have:=(b2 x hx).2 f hf;omega⟩) (λx hx=>?_) (λf hf x hx=>?_) hq).mono ?_
 ·have h1:=(hF'.dat x hx).1;have hm:(x.1.nm,x.2)∈Ai fs':=CG.2 ⟨x,hx,rfl⟩;have h2:3*x.2.length+6<=X4 (Ai fs'):=ADM hm;simp at h1;omega
 ·rw[hFv] at hf;obtain⟨z,hz,rfl⟩:=CG.1 hf;exact (hFI.dat z hz).2 x hx
 rintro e w' ⟨rfl,hc⟩;exact⟨rfl,λa ha=>hc.block a ha AV⟩
theorem lifted(os:Os)(started:os.Started)(H:Type)(enc:Am×AQ->H)(F:Stop.Interp):
  ReturnsInLeavingWide {} Tryz.checked os 6 .any ((Rows.OpenSpec.upto Rows.stagingPublishesSpec).preRow enc Tryz.prog Tryz.f6 Rows.stagingPublishesUptoRow.domain false [("errors.errorType",Rows.laid_errors_errorType)]) (((Rows.OpenSpec.upto Rows.stagingPublishesSpec).at F).post enc Tryz.prog Tryz.f6 false true false false):=by
 refine lF (C:=Tryz.checked) (s:=Rows.OpenSpec.upto Rows.stagingPublishesSpec) (k:=Rows.uptoSmall) rfl ASU started Tryz.func6
  (witness_row (enc:=enc) (C:=Tryz.checked) (os:=os) (s:=Rows.OpenSpec.upto Rows.stagingPublishesSpec) (k:=Rows.uptoSmall) rfl (ALo os) #[.agg #[.slice AB 0 0,.int .i64 0],.agg #[.string ⟨#[]⟩,.slice AB 0 0],.agg #[.slice AB 0 0,.int .i64 0]] 8 rfl Az Az Az
   (x:=([.agg [.nil,.lit (.int .i64 0)],.agg [.lit (.string []),.nil],.agg [.nil,.lit (.int .i64 0)]],[],[])) Az rfl Az Az (AFg os _)) ?_
 intro W base args ds gs before hsh hl hval hW hk;exact runs H enc W base args ds gs before hsh hl hval hW hk
theorem row:Rows.StagingPublishesUptoSaid:=
 aA 6 Tryz.f6 rfl rfl rfl rfl rfl rfl rfl ⟨rfl,rfl,rfl,rfl,rfl⟩ rfl rfl rfl rfl rfl Az Tryz.func6 Az
  (of_decide_eq_true Az) (by unfold Func.isWrapper;first|(rw[BL (of_decide_eq_false Az)];exact⟨rfl,rfl⟩)|(rw[BU (of_decide_eq_true Az)];kernel_rfl))
  (λos started H enc _ F=>lifted os started H enc F)
theorem proved:Rows.StagingPublishesUptoCardSaid:=
 AFh .later [.handle] true (true, "503188990b06714f748bd170a98f75a159cee04e3487e84f51127a3c43b34e91") true row Az stagingPublishesUpto_row_tie rfl ⟨rfl,rfl⟩ Az rfl
  (λf fn hf hfn=>by
   obtain rfl:f=6:=EF ((show Tryz.prog.funcNamed "satchel/satchellaw28.StagingPublishes" =AA 6 by kernel_rfl).symm.trans hf) |>.symm;obtain rfl:fn=Tryz.f6:=(EF (Tryz.func6.symm.trans hfn)).symm
   exact⟨Az,λj t ht=>by
    rw[Tryz.params6] at ht;rcases j with _|_|_|j
    ·(obtain rfl:24=t:=by simpa using ht);kernel_rfl
    ·(obtain rfl:27=t:=by simpa using ht);kernel_rfl
    ·(obtain rfl:30=t:=by simpa using ht);kernel_rfl
    simp at ht⟩)
  Az
end Go.Proofs.YtkkgcebhfghdnaaGreatDoor.lawPublishes
