/- Layer 28, StagingCrashes: whenever the power goes, behind the clean-up there is no stage, everything else is as it was, and the destination is old or new, whole; where what comes in is together of bulk at most 1048576. -/
import Derived.Test.YtkkgcebhfghdnaaGreatDoorLf
import Derived.Deep.Cut
import Derived.Deep.CutRange
import Derived.Deep.DeepCutAuto
import Derived.Deep.RegionHeld3
import Derived.Deep.RegionLaw
import Derived.LaidHandle
import Derived.LaidLaws
import Derived.OwnWalk
import Derived.SevenTiedAt
import Derived.Test.YtkkgcebhfghdnaaGreatDoorCards
import Derived.Test.YtkkgcebhfghdnaaGreatDoorTie
set_option maxRecDepth 100000
set_option maxHeartbeats 8000000
open Go.Extern.ReflectliteType renaming assignableTo→UO, implements_→mF, abiMethod→mJ, relation→QS, toType→lq, typeOf→WJ, method→lu, elem→mD
open Go.Extern.ReflectliteValue renaming valueError→O5, methodAny→ABO, unpack→UQ, method→UT, isNil→Yx, elem→Yy, set→eQ
open List renaming getElem?_cons_zero→WG, getElem?_cons_succ→aP, take_succ_cons→mQ, flatten_cons→JS, length_cons→EU, cons_append→Dp, foldl_cons→WC, nil_append→D9, take_zero→eU, sum_cons→CE, length→Ky, range→Fv
open Go.World renaming block_lt_of_cell?→UU, cell?→Pz
open Go renaming wp_region_held_drew→FU, wpAnyH_ready→O7, wpAnyH_done→Eu, rounds_succ→UX, MemPlace→GZ, TypeId→Am, Ending→FT, Value→AQ, World→AL, Calls→Au, DataW→Dt, Addr→Af
open Option renaming toList_some→mM, map_some→Fq, none→AB, some→AA
open List.Pairwise renaming nil→mO
open Go.Instr renaming typeAssert→KJ
open Go.IntKind renaming wrap_i64→NZ
open ByteArray renaming empty→MM
open Go.Value renaming oneCell'→Kz, cells→Ny
open Go.AllReadyH renaming cons→Gp, nil→O8
open Go.Frame renaming enter→Ba
open Go.Addr renaming add→UM
open Prod renaming fst→Ac
open Go.Act renaming put→BJ
namespace Go.Proofs.YtkkgcebhfghdnaaGreatDoor.Vw
open Go Go.RowKit Go.Extern.Stop Go.Stop Go.Extern
section
variable {t:Af}{f:LD}{b c d:Nat}{o o':Obj}{v x y:AQ}{w:AL}
abbrev rvl (a:Af):AQ:=.agg #[.pointer (AA ⟨1,133,AB⟩),.pointer (AA a),.int .u64 150]
theorem ALW(v:AQ)(xT:Am)(w:AL):(KJ (.iface 140 v) xT 228 true).run Ag w=.ok (.tuple #[.nilIface,.bool false]) w:=run_typeAssert_lacksB AKh Aq Aq v xT w
theorem ALX(v:AQ)(xT:Am)(w:AL):(KJ (.iface 150 v) xT 228 true).run Ag w=.ok (.tuple #[.nilIface,.bool false]) w:=run_typeAssert_lacksB AKh Aq Aq v xT w
theorem AR2(v:AQ)(xT:Am)(w:AL):(KJ (.iface 140 v) xT 203 true).run Ag w=.ok (.tuple #[.iface 140 v,.bool true]) w:=run_typeAssert_hasB AKg Aq v xT w
theorem ALY(v:AQ)(xT:Am)(w:AL):(KJ (.iface 150 v) xT 203 true).run Ag w=.ok (.tuple #[.nilIface,.bool false]) w:=run_typeAssert_lacksB AKg Aq Aq v xT w
theorem AR3(v:AQ)(xT:Am)(w:AL):(KJ (.iface 150 v) xT 205 true).run Ag w=.ok (.tuple #[.iface 150 v,.bool true]) w:=run_typeAssert_hasB ARJ Aq v xT w
theorem AM2(v:AQ)(w:AL):(Go.method 392 140 v "Unwrap").run Ag w=.ok (183,v) w:=by kernel_rfl
theorem AM3(v:AQ)(w:AL):(Go.method 392 150 v "Unwrap").run Ag w=.ok (185,v) w:=by kernel_rfl
def xk (w:AL) (t:Af) (c:Int) (ev:FT) (w':AL):Prop:=ev=.returned (.bool true)/\w'.cell? t=AA (.int .i64 c)/\AZ [t.block] w w'
theorem je(h:w.cell? t=AA v):((w.alloc o).alloc o').cell? t=AA v:=
 (((AZ.refl [] w).alloc o).alloc o').cell h AV
theorem rZ(h:w.cell? t=AA v)(hf:w.frozen? t=false):((w.alloc o).alloc o').frozen? t=false:=by
 have htl:t.block<w.heap.size:=by
  rcases XE t.block w.heap.size with h'|h'
  ·exact h'
  simp[Pz,XD h'] at h
 rw[World.frozen?_alloc_old _ _ t (by simp;omega),World.frozen?_alloc_old _ _ t (ah htl)];exact hf
theorem ALZ{c:Int}{ev:FT}{old:AQ}(he:ev=.returned (.bool true))(h:((w.alloc o).alloc o').cell? t=AA old):xk w t c ev (((w.alloc o).alloc o').setCell t (.int .i64 c)):=by
 refine⟨he,?_,?_⟩;exact World.cell?_setCell_same _ _ _ h;exact (((AZ.refl [t.block] w).alloc o).alloc o').setCell (.inl AV) _
theorem vJ(h:w.cell? ⟨b,2,AB⟩=AA x):Au Ag 183 #[.pointer (AA ⟨b,0,AB⟩)] w λe w'=>e=.returned x/\w'=w:=by
 go_enter AKH,Tryz.ntmps183;go_wp2;go_ret;exact⟨rfl,rfl⟩
theorem AA1(hx:x=.iface 140 (.pointer (AA ⟨c,0,AB⟩)))(hy:y=.iface 140 (.pointer (AA ⟨d,0,AB⟩)))(h:Bl w b 152 #[x,y]):Au Ag 185 #[.pointer (AA ⟨b,0,AB⟩)] w λe w'=>∃A,e=.returned (.slice (AA A) 2 2)/\Rd w' 1 (AA A) 2 2 [x,y]/\AZ [] w w':=by
 subst hx;subst hy;have H0:Hid (∀w',AZ [] w w'->w'.cell? ⟨b,0,AB⟩=AA (.iface 140 (.pointer (AA ⟨c,0,AB⟩)))):=AP λw' hc=>(h.Aj hc AV).cell 0;have H1:Hid (∀w',AZ [] w w'->w'.cell? ⟨b,1,AB⟩=AA (.iface 140 (.pointer (AA ⟨d,0,AB⟩)))):=AP λw' hc=>(h.Aj hc AV).cell 1;go_enter AKI,Tryz.ntmps185;(go_wp2_with fail);refine FU (S:=λw'=>AZ [] w w') Aq ((AZ.refl _ _).drew) (λhHeld=>?_);refine tk 0 ?_;refine tk 1 ?_;refine tk 2 ?_;refine Gh 3 (λw' hSw=>H0.out _ hSw) ?_;refine tk 4 ?_;refine tk 5 ?_;refine tk 6 ?_;refine Gh 7 (λw' hSw=>H1.out _ hSw) ?_;refine Em 8 λK hK=>?_;go_simp;refine hK.out _ _ (hHeld.alloc _) (λhHeld=>?_);(try simp only[BJ,Bh]);clear hK K;refine tk 9 ?_;refine Eu Aq ?_ _;(try simp only[BJ,Bh]);go_wp2;go_ret;exact⟨_,rfl,Own.rd (Own.UK _ 39 1 #[.iface 140 (.pointer (AA ⟨c,0,AB⟩)),.iface 140 (.pointer (AA ⟨d,0,AB⟩))] 2 _ _ rfl rfl Ar rfl),(AZ.refl [] w).drew.alloc _⟩
theorem jf(t a:Af)(old:AQ)(w:AL)(hv:RJ w b v f)(ha:w.cell? a=AA (.pointer (AA t)))(ht:w.cell? t=AA old)(hf:w.frozen? t=false):
  Au Ag 94 #[v,.iface 133 (.pointer (AA t)),rvl a,.iface 199 (.agg #[.pointer (AA ⟨1,51,AB⟩)])] w (xk w t f.cd):=by
 obtain⟨rfl,hb,_⟩:=hv;have hb2:=(hb.alloc (.cells #[.pointer (AA ⟨1,133,AB⟩),.pointer (AA a),.int .u64 150] 187)).cell 2;simp only[GG] at hb2;have h68:= @run_callFunc_extern Ag 68 _ WJ AOJ Aq Aq Aq Aq;have AUU:= @run_callFunc_extern Ag 190 _ (QS "AssignableTo" UO) AKJ Aq Aq Aq Aq;have AVN:= @run_callFunc_extern Ag 126 _ (UT (O5 "reflectlite.Value.Elem" 0) Yy) AQm Aq Aq Aq Aq;have h91:= @run_callFunc_extern Ag 91 _ (λargs=>UQ (args.getD 0 (.tuple #[]))) AOK Aq Aq Aq Aq;have h127:= @run_callFunc_extern Ag 127 _ eQ AQn Aq Aq Aq Aq;have AVO:= @AQ1;have tO:=AAy;have tF:=vF;have mA:=Oz;have a51:=iJ;have AVP:=eF;have n1:=ALW;have n2:=AR2;have mU:=AM2;have v51:=vH;have hal:(w.alloc (.cells #[.pointer (AA ⟨1,133,AB⟩),.pointer (AA a),.int .u64 150] 187)).cell? a=AA (.pointer (AA t)):=((AZ.refl [] w).alloc _).cell ha AV;have el:=ADV a t (w.alloc (.cells #[.pointer (AA ⟨1,133,AB⟩),.pointer (AA a),.int .u64 150] 187)) hal;have st:=AIK t ⟨w.heap.size+1,0,AB⟩ f.cd old ((w.alloc (.cells #[.pointer (AA ⟨1,133,AB⟩),.pointer (AA a),.int .u64 150] 187)).alloc (.cells #[.int .i64 f.cd] 51)) (by rw[World.cell?_alloc_at _ _ _ _ AV];rfl) (je ht) (rZ ht hf);have HT:=AP ht;clear hb ha ht hf;go_enter AJ4,Tryz.ntmps94;go_wp2;refine wp_loop_rounds 2 ?_;rw[UX];(go_wp2_with (go_at_call 183;refine (vJ hb2).mono ?_;rintro e w1 ⟨rfl,rfl⟩));rw[UX];go_wp2;go_ret;exact ALZ rfl (je HT.out)
theorem AZ.rf{w':AL}{L:List Nat}(h:AZ L w w')(ht:w.cell? t=AA v)(hn:t.block∉L)(hf:w.frozen? t=false):w'.frozen? t=false:=by
 have htl:t.block<w.heap.size:=by
  rcases XE t.block w.heap.size with h'|h'
  ·exact h'
  simp[Pz,XD h'] at ht
 have:=h.block t.block htl hn
 unfold World.frozen? at*
 rw[this];exact hf
theorem AFf{g:LD}(t a:Af)(old:AQ)(w:AL)(hb:Bl w b 152 #[x,y])(hx:RJ w c x f)(hy:RJ w d y g)(ha:w.cell? a=AA (.pointer (AA t)))(ht:w.cell? t=AA old)(hf:w.frozen? t=false):
  Au Ag 94 #[.iface 150 (.pointer (AA ⟨b,0,AB⟩)),.iface 133 (.pointer (AA t)),rvl a,.iface 199 (.agg #[.pointer (AA ⟨1,51,AB⟩)])] w (xk w t f.cd):=by
 have h68:= @run_callFunc_extern Ag 68 _ WJ AOJ Aq Aq Aq Aq;have AUU:= @run_callFunc_extern Ag 190 _ (QS "AssignableTo" UO) AKJ Aq Aq Aq Aq;have AVQ:= @AQ2;have q94:= @AOW;have tF:=vG;have mA:=Oz;have AVR:=eG;have n1:=ALX;have n2:=ALY;have n3:=AR3;have mU:=AM3;have hx1:=hx.1;have hy1:=hy.1;have hw1:AZ [] w (w.alloc (.cells #[.pointer (AA ⟨1,133,AB⟩),.pointer (AA a),.int .u64 150] 187)):=(AZ.refl [] w).alloc _;have hk:=Bl.new w 187 #[.pointer (AA ⟨1,133,AB⟩),.pointer (AA a),.int .u64 150];have HU:=AP (AA1 hx1 hy1 (hb.Aj hw1 AV));have HX:=AP hx;have HA:=AP ha;have HT:=AP ht;have HF:=AP hf;have HW1:=AP hw1;have HK:=AP hk;have HX1:=AP hx1;clear hb hx hy ha ht hf hw1 hk hx1 hy1;go_enter AJ4,Tryz.ntmps94;go_wp2;refine wp_loop_rounds 1 ?_;rw[UX];(go_wp2_with fail);refine HU.out.mono ?_;rintro e w2 ⟨A,rfl,hrd,hc2⟩;have hk2:=HK.out.Aj hc2 AV;have k0:=hk2.cell 0;have k1:=hk2.cell 1;have k2:=hk2.cell 2;simp only[GG] at k0 k1 k2;obtain⟨ad,u,hA,hu,hcell⟩:=hrd.gU (k:=0) Ar;injection hA with hA;subst hA;simp at hu;subst hu;have HC2:=AP (HW1.out.Ah hc2);rw[HX1.out] at hcell;(have hcell0:w2.cell? A=AA (.iface 140 (.pointer (AA ⟨c,0,AB⟩))):=by simpa[UM] using hcell);clear hrd hc2 hk2 hcell;go_wp2;refine wp_loop_rounds 1 ?_;rw[UX];(go_wp2_with fail);have hcall:=jf t a old w2 (HX.out.Aj HC2.out AV) (HC2.out.cell HA.out AV) (HC2.out.cell HT.out AV) (HC2.out.rf HT.out AV HF.out);rw[HX1.out] at hcall;refine hcall.mono ?_;rintro e w3 ⟨rfl,h1,h2⟩;go_wp2;go_ret;exact⟨rfl,h1,(HC2.out.nil _).trans h2 (λx hx=>.inl hx)⟩
end
section
variable {f:LD}{gs:List LD}{L:List Nat}{v:AQ}{w:AL}
def Nv (w:AL):Prop:=w.cell? ⟨0,0,AB⟩=AA (.iface 199 (.agg #[.pointer (AA ⟨1,39,AB⟩)]))
theorem xm{T:Am}{x:AQ}{c:Int}(t:Af)(old:AQ)(w:AL)(hg:Nv w)(ht:w.cell? t=AA old)(hf:w.frozen? t=false)
  (h94: ∀(a:Af) (w':AL),AZ [] w w'->w'.cell? a=AA (.pointer (AA t))->Au Ag 94 #[.iface T x,.iface 133 (.pointer (AA t)),rvl a,.iface 199 (.agg #[.pointer (AA ⟨1,51,AB⟩)])] w' (xk w' t c)):
  Au Ag 60 #[.iface T x,.iface 133 (.pointer (AA t))] w (xk w t c):=by
 have h91:= @run_callFunc_extern Ag 91 _ (λargs=>UQ (args.getD 0 (.tuple #[]))) AOK Aq Aq Aq Aq;have h92:= @run_callFunc_extern Ag 92 _ (ABO (O5 "reflectlite.Value.Type" 0) (λt _ _ _=>lq t)) ASr Aq Aq Aq Aq;have h93:= @run_callFunc_extern Ag 93 _ (UT (O5 "reflectlite.Value.IsNil" 0) Yx) ASs Aq Aq Aq Aq;have AVS:= @run_callFunc_extern Ag 171 _ (mJ λt=>do pure (.int .u8 (<- Rtype.kind t))) AQo Aq Aq Aq Aq;have AVT:= @run_callFunc_extern Ag 192 _ (lu mD) AQp Aq Aq Aq Aq;have AVU:= @run_callFunc_extern Ag 193 _ (QS "Implements" mF) AQq Aq Aq Aq Aq;have q94:= @AOW;have f6:=rW;have f7:=ADS;have mK:=rX;have mE:=rY;have mI:=X7;have AVV:=ADT;have k51:=AFe;have AVW:=ADU;have i51:=iI;obtain⟨W,hW⟩: ∃W,(w.alloc (.cells #[.pointer (AA t)] 133)).alloc (.cells #[.pointer (AA ⟨1,133,AB⟩),.pointer (AA ⟨w.heap.size,0,AB⟩),.int .u64 150] 187)=W:=⟨_,rfl⟩;have hcW:AZ [] w W:=by rw[<- hW];exact ((AZ.refl [] w).alloc _).alloc _
 have hk:Bl W (w.heap.size+1) 187 #[.pointer (AA ⟨1,133,AB⟩),.pointer (AA ⟨w.heap.size,0,AB⟩),.int .u64 150]:=by
  rw[<- hW];have:=Bl.new (w.alloc (.cells #[.pointer (AA t)] 133)) 187 #[.pointer (AA ⟨1,133,AB⟩),.pointer (AA ⟨w.heap.size,0,AB⟩),.int .u64 150];simpa using this
 (have hka:Bl W w.heap.size 133 #[.pointer (AA t)]:=by rw[<- hW];exact (Bl.new w 133 #[.pointer (AA t)]).alloc _);have n8:=AAx ⟨w.heap.size,0,AB⟩ t W (hka.cell 0);have k0:=hk.cell 0;have k1:=hk.cell 1;have k2:=hk.cell 2;simp only[GG] at k0 k1 k2;have hg2:W.cell? ⟨0,0,AB⟩=AA (.iface 199 (.agg #[.pointer (AA ⟨1,39,AB⟩)])):=hcW.cell hg AV;have H94:=AP (h94 ⟨w.heap.size,0,AB⟩ W hcW (hka.cell 0));have Ql:=AP hcW;clear hg ht hf h94 hcW hk hka;go_enter ANw,Tryz.ntmps60;(go_wp2_with fail);refine H94.out.mono ?_;rintro e w2 ⟨rfl,h1,h2⟩;go_wp2;go_ret;exact⟨rfl,h1,(Ql.out.nil _).trans h2 (λx hx=>.inl hx)⟩
theorem JK.as_(h:JK w v L (f::gs)): ∃(T:Am) (x:AQ),v=.iface T x/\∀(t:Af) (old:AQ) (w0:AL),AZ [] w w0->Nv w0->w0.cell? t=AA old->w0.frozen? t=false->Au Ag 60 #[v,.iface 133 (.pointer (AA t))] w0 (xk w0 t f.cd):=by
 unfold JK at h;split at h
 ·rename_i h0;cases h0
 ·rename_i b f' h0;(cases h0);have h1:=h.1;subst h1;refine⟨140,_,rfl,λt old w0 hc hg ht hf=>xm t old w0 hg ht hf λa w' hc' ha=>?_⟩;exact jf t a old w' (h.Aj (hc.Ah hc') AV) ha (hc'.cell ht AV) (hc'.rf ht AV hf)
 ·rename_i b c d f' g h0;(cases h0);obtain⟨x,y,rfl,hb,hx,hy⟩:=h;refine⟨150,_,rfl,λt old w0 hc hg ht hf=>xm t old w0 hg ht hf λa w' hc' ha=>?_⟩;have hcc:=hc.Ah hc';exact AFf t a old w' (hb.Aj hcc AV) (hx.Aj hcc AV) (hy.Aj hcc AV) ha (hc'.cell ht AV) (hc'.rf ht AV hf)
 exact h.elim
theorem AIL(h:JK w v L (f::gs))(hg:Nv w):Au Ag 18 #[v] w λe w'=>e=.returned (.int .i64 f.cd)/\AZ [] w w':=by
 obtain⟨T,x,rfl,ha⟩:=h.as_;obtain⟨W,hW⟩: ∃W,w.alloc (.cells #[.int .i64 0] 51)=W:=⟨_,rfl⟩;(have hcW:AZ [] w W:=by rw[<- hW];exact (AZ.refl [] w).alloc _);(have hk:Bl W w.heap.size 51 #[.int .i64 0]:=by rw[<- hW];exact .new _ _ _);have HA:=AP (ha ⟨w.heap.size,0,AB⟩ (.int .i64 0) W hcW (hcW.cell hg AV) (hk.cell 0) (hk.frozen 0));have Ql:=AP hcW;have q60:= @AOT;clear h ha hg hcW hk;go_enter ANT,Tryz.ntmps18;(go_wp2_with fail);refine HA.out.mono ?_;rintro e w2 ⟨rfl,h1,h2⟩;go_wp2;go_ret;exact⟨rfl,(Ql.out.trans h2 (λx hx=>by simp at hx;subst hx;exact .inr (Bc _)))⟩
theorem ADX(h:JK w v L (f::gs))(hg:Nv w):Au Ag 100 #[v] w λe w'=>e=.returned (.bool true)/\AZ [] w w':=by
 obtain⟨T,x,rfl,ha⟩:=h.as_;obtain⟨W,hW⟩: ∃W,w.alloc (.cells #[.int .i64 0] 51)=W:=⟨_,rfl⟩;(have hcW:AZ [] w W:=by rw[<- hW];exact (AZ.refl [] w).alloc _);(have hk:Bl W w.heap.size 51 #[.int .i64 0]:=by rw[<- hW];exact .new _ _ _);have HA:=AP (ha ⟨w.heap.size,0,AB⟩ (.int .i64 0) W hcW (hcW.cell hg AV) (hk.cell 0) (hk.frozen 0));have Ql:=AP hcW;have q60:= @AOT;clear h ha hg hcW hk;go_enter AJ5,Tryz.ntmps100;(go_wp2_with fail);refine HA.out.mono ?_;rintro e w2 ⟨rfl,h1,h2⟩;go_wp2;go_ret;exact⟨rfl,(Ql.out.trans h2 (λx hx=>by simp at hx;subst hx;exact .inr (Bc _)))⟩
end
open Go.Conc Go.ChangeShapes Go.WideShapes Go.Deep Go.Joins
section
variable {apart:Bool}{C:Checked}{fn:Func}{f:FuncId}{laid:List (String×Dt Unit)}{conds:List PathCond}{c:OpenClaim}{s:OpenSpec}{os:Os}{p:Pinned}{W:AL}
theorem AIM:laidOutB Tryz.prog=true:=by kernel_rfl
theorem AR4:ownKnob Tryz.prog.godebug=AB:=by kernel_rfl
theorem AUW:Tryz.prog.globalNamed "errors.errorType" =AA 0:=by kernel_rfl
theorem AUX:(Tryz.prog.cutTypes.find? (·.1== "internal/reflectlite.rtype")).map (·.2)=AA 199:=by kernel_rfl
theorem AIN:((Fv Tryz.prog.types.size).filter λt=>Tryz.prog.rowNamed t [101,114,114,111,114])=[39]:=by kernel_rfl
theorem AIO(h:laidMetH Tryz.prog [("errors.errorType",Rows.laid_errors_errorType)] W):Nv W:=by
 have h':laidMet Tryz.prog [] W/\handlesMet Tryz.prog [("errors.errorType",Rows.laid_errors_errorType)] W:=h;obtain⟨name,u,ty,e1,e2,e3,e4,e5⟩:=h'.2 _ (CJ.2 rfl);have en:name=[101,114,114,111,114]:=(EI e1).symm;subst en;obtain rfl:=EI (AUX.symm.trans e2);have hm:ty∈(Fv Tryz.prog.types.size).filter λt=>Tryz.prog.rowNamed t [101,114,114,111,114]:=ZV.2 ⟨XA.2 e3,e4⟩;rw[AIN] at hm;obtain rfl:=CJ.1 hm;(have hh:typeHandle Tryz.prog 39=.pointer (AA ⟨1,39,AB⟩):=by kernel_rfl);rw[hh] at e5;exact (by simpa using World.var?_cell AUW e5 0:W.cell? ⟨0,0,AB⟩=AA (.iface 199 (.agg #[.pointer (AA ⟨1,39,AB⟩)])))
theorem ALa(h:W.ShapedOpen Tryz.prog):JP W 1:=by
 obtain⟨o,o0,h1,h2,h3⟩:=h.2 1 (by decide+kernel) (by decide+kernel);have h4:o=o0:=h3;subst h4;(have h5:(match (begin Tryz.prog (λ_ _=>0) default).world.heap[1]? with|some (.cells _ _ _)=>true|_=>false)=true:=by kernel_rfl);rw[h2] at h5
 cases o with|cells p t f=>exact⟨p,t,f,h1⟩|_=>cases h5
section
variable {H:Type} {enc:Am×AQ->H}
theorem witness_row{k:(H:Type)->List (Dt H)->Bool}(hk:s.cond=AA k)(w0:AL)(args:Array AQ)(fuel:Nat)(hos:w0.os=os)
  (hv:(w0.forCall (λ_ _=>0) ⟨#[],args,[]⟩).variablesB C.prog=true)
  (hr:((w0.forCall (λ_ _=>0) ⟨#[],args,[]⟩).heap.toList.drop C.prog.globals.size).take ((begin C.prog (λ_ _=>0) default).world.heap.size - C.prog.globals.size)=
   (begin C.prog (λ_ _=>0) default).world.heap.toList.drop C.prog.globals.size)
  (hok:Input.okWideB C.prog (w0.forCall (λ_ _=>0) ⟨#[],args,[]⟩) f ⟨#[],args,[]⟩=true)
  {x:List (Dt H)×List (Dt H)×List GZ} (hx:DataW.whole enc C.prog (w0.forCall (λ_ _=>0) ⟨#[],args,[]⟩).memory fn.params.toList s.vars apart args.toList fuel=AA x)
  (hconds:conds.all (PathCond.test C.prog ⟨fn.params.toList,x.1,s.bare.plain.varTypes C.prog,x.2.1⟩)=true) (hkk:k H (x.1++x.2.1)=true)
  (hsz:s.bare.sizedB enc C.prog fn apart (w0.forCall (λ_ _=>0) ⟨#[],args,[]⟩).memory args fuel=true)
  (hl:laidMetH C.prog laid (w0.forCall (λ_ _=>0) ⟨#[],args,[]⟩).memory):
  ∃(w:AL) (tape:Tape) (i:Input),w.os=os/\(w.forCall tape i).Shaped C.prog/\i.vars=[]/\Input.okWide C.prog (w.forCall tape i) .any w.heap.size f i/\
   s.preRow enc C.prog fn conds apart laid (w.forCall tape i).memory i.args/\({}:Assume).holds C.prog (lone (Ba C.prog f i.args .normal) [] (w.forCall tape i)):=
 ⟨w0,λ_ _=>0,⟨#[],args,[]⟩,hos,World.shaped_of_B hv hr,(Input.okWide_of_okWideB (base:=0) hok).1,(Input.okWide_of_okWideB hok).2,
  ⟨⟨(OpenSpec.pre_some hk conds apart _ _).2 ⟨x.1,x.2.1,x.2.2,DataW.Whole_of_whole hx,hconds,hkk⟩,hl⟩,sizedMet_of_sizedB hsz⟩,by
  have:({}:Assume)={modest:=false}:=rfl;rw[this];simp only[Assume.holds]
  exact⟨AV,AV,λ_=>Modest.zero,AV,AV⟩⟩
theorem kV{a:Assume}{k:(H:Type)->List (Dt H)->Bool}(hk:s.cond=AA k){F:Stop.Interp}{fresh handsOn again:Bool}
  (own:ownKnob C.prog.godebug=AB) (started:os.Started) (hfn:C.prog.funcs[f]? =AA fn)
  (witness: ∃(w:AL) (tape:Tape) (i:Input),w.os=os/\(w.forCall tape i).Shaped C.prog/\i.vars=[]/\Input.okWide C.prog (w.forCall tape i) .any w.heap.size f i/\
   s.preRow enc C.prog fn conds apart laid (w.forCall tape i).memory i.args/\a.holds C.prog (lone (Ba C.prog f i.args .normal) [] (w.forCall tape i)))
  (runs: ∀(W:AL) (base:Nat) (args:Array AQ) (ds gs:List (Dt H)) (before:List GZ),W.ShapedOpen C.prog->laidMetH C.prog laid W->
   (∀(j:Nat) t v,fn.params[j]? =AA t->args[j]? =AA v->Value.okWide C.prog W .any base t v)->
   DataW.Whole enc C.prog fn.params.toList s.vars apart W args.toList ds gs before->k H (ds++gs)=true->
   ∃M last o w' t',runNT C.prog (M+1) (solo (G (Ba C.prog f args .normal) []) W) #[]=(.ended o w',t')/\runN C.prog M (solo (G (Ba C.prog f args .normal) []) W)=.next last/\
    step C.prog last=.ended o w'/\Conc.Good C.prog (λv W'=>(s.at F).post enc C.prog fn apart fresh handsOn again W args v W') last o w' t'):
  ReturnsInLeavingWide a C os f .any (s.preRow enc C.prog fn conds apart laid) ((s.at F).post enc C.prog fn apart fresh handsOn again):=by
 refine returnsInLeavingWide_of_good own started witness ?_;intro w tape i _ hshape _ hok hpre _;obtain⟨_,_,_,fn',hfn',_,_,_,_,hval⟩:=hok;have e:fn'=fn:=EI (hfn'.symm.trans hfn);subst e;obtain⟨⟨hp1,hl⟩,_⟩:=hpre;obtain⟨ds,gs,before,hw,_,hkk⟩:=(OpenSpec.pre_some hk conds apart _ _).1 hp1;have hw':=DataW.Whole.of_heap (w':=w.forCall tape i) (by rfl) hw;obtain⟨M,last,o,w',t',h1,h2,h3,h4⟩:=runs (w.forCall tape i) w.heap.size i.args ds gs before hshape (hl.of_heap (by rfl)) hval hw' hkk;exact⟨M,last,o,w',t',h1,h2,h3,h4.mono λv hp=>ChangeSpec.post_blind hp⟩
end
noncomputable def ALb (os:Os):AL:=
 let w0:=World.holding Tryz.prog os ⟨#[],#[],[]⟩
 {w0 with heap:=w0.heap.modify 0 fun
   | .cells _ t frozen=>.cells #[.iface 199 (.agg #[.pointer (AA ⟨1,39,AB⟩)])] t frozen
   |o=>o}
theorem AFg(os:Os)(args:Array AQ):laidMetH Tryz.prog [("errors.errorType",Rows.laid_errors_errorType)] ((ALb os).forCall (λ_ _=>0) ⟨#[],args,[]⟩).memory:=
 laidMetH_of_parts (laidMet_nil _ _) Aq
theorem aG(f:FuncId)(fn:Func)
  (hn:c.program=p.name) (hs:c.sum=p.sum) (hsp:c.spec=s.name)
  (hstart:c.start=.entering) (hout:c.outside=[]) (hin:c.inits=[]) (hun:c.under=AB) (hi4:c.initsInPlace=[]/\c.initsUnfollowed=false/\c.initsRecurse=false/\c.initsNamed=[]/\c.initsPassed=[]) (hnb:c.noBlocks=false) (hlv:c.leaving=true) (hfo:c.followed=AB) (hnar:c.narrowed=s.cond.isSome) (hstill:c.still=false)
  (hfn:p.checked.prog.funcNamed c.func=AA f) (hf:p.checked.prog.funcs[f]? =AA fn)
  (closed:joinedFacts p.checked.prog f fn s.bare c=true)
  (hinst:fn.isInstance p.checked.prog c.origin c.targs) (hwrap:fn.isWrapper p.checked.prog c.wrapper c.mainSum)
  (h: ∀os:Os,os.Started->∀(H:Type) (enc:Am×AQ->H),(∀a b,enc a=enc b->a=b)->∀F:Stop.Interp,
   ReturnsInLeavingWide c.assume p.checked os f .any (s.preRow enc p.checked.prog fn c.domain c.apart c.laid) ((s.at F).post enc p.checked.prog fn c.apart c.fresh c.handsOn c.again)):c.holds p s:=by
 simp only[joinedFacts,DV,beq_iff_eq,Array.all_eq_true_iff_forall_mem,JH,decide_eq_true_eq] at closed;obtain⟨⟨⟨⟨⟨⟨⟨⟨⟨⟨⟨⟨⟨⟨⟨⟨⟨⟨⟨⟨⟨⟨⟨⟨⟨⟨⟨⟨⟨⟨⟨a1,a2⟩,a3⟩,a4⟩,a5⟩,a6⟩,a7⟩,a8⟩,a9⟩,b1⟩,b2⟩,b3⟩,b4⟩,b5⟩,b6⟩,b7⟩,b8⟩,b8'⟩,b9⟩,d1⟩,d2⟩,d3⟩,d4⟩,d5⟩,d5'⟩,d6⟩,d6'⟩,AUY⟩,d7⟩,d8⟩,d9⟩,d10⟩:=closed;(have quiet: ∀os:Os,Stop.quiet p.checked.prog os:=λos k hk=>by rw[a9] at hk;cases hk);(have fits:c.startFits p.checked.prog:=by unfold OpenClaim.startFits;rw[hstart];exact d6);(have told:c.startTold p.checked.prog:=by unfold OpenClaim.startTold;rw[hstart];exact⟨hin,hun,hi4⟩);(have tie:namedTie p.checked.prog c.namedList s.vars=true:=by unfold OpenClaim.namedList;rw[hfo];exact a5);have worded:p.checked.prog.envWorded=true:=by unfold Program.envWorded;rw[a9];rfl
 refine⟨a1,hn,hs,hsp,a2,a3,fits,told,f,fn,hfn,hf,⟨a4,d1⟩,(λhb=>by rw[hnb] at hb;cases hb),tie,hinst,hwrap,
  a6.trans a7.symm,⟨a8.trans a9.symm,worded,d5'⟩,b1,b2,b3,b4,b5,⟨b6,d9,d10⟩,⟨b7,d2⟩,⟨b8,d3,d7,d8⟩,⟨d4,d6',AUY,b8'⟩,?_,λn hn'=>varReadable_some (b9 n hn'),
  ⟨_,by unfold OpenClaim.world;rw[hout,hstart];exact WideRow.started_initial,quiet _⟩,[],by unfold OpenClaim.lists;rw[hfo],λos st _ H enc inj=>?_⟩
 ·rw[hout,hnar]
  cases hsh:c.shortTexts with|none=>simp|some _=>rw[hsh] at d5;cases d5
 (have st':os.Started:=by unfold OpenClaim.world at st;rw[hout,hstart] at st;exact st);rw[OpenClaim.post_not_still hstill];unfold OpenClaim.form;rw[hstart,a6];intro F;(have e1:c.okInput=Input.okWide:=by unfold OpenClaim.okInput;rw[hnb]);(have e2:c.atReturn p.checked.prog=leavingAtReturn p.checked.prog:=by unfold OpenClaim.atReturn;rw[hlv]);(have e3:c.always p.checked.prog []=nothingAlways:=by unfold OpenClaim.always;rw[hfo]);(have e4:s.post enc p.checked.prog fn F c.outside c.apart c.fresh c.handsOn c.again=(s.at F).post enc p.checked.prog fn c.apart c.fresh c.handsOn c.again:=by rw[hout];rfl);rw[e1,e2,e3];show ReturnsInOpen _ _ _ _ _ _ _ _ (s.post enc p.checked.prog fn F c.outside c.apart c.fresh c.handsOn c.again) _ _;rw[e4,OpenClaim.pre_eq_preRow];exact h os st' H enc inj F d6
theorem AFh(Lk:Looks)(kinds:List LaidKind)(tests:Bool)(har:Bool×String)(lk:Bool)
  (hc:c.holds p s) (hw:c.wfByText s=true) (htie:c.laidByTextAt Lk p kinds tests)
  (hst:c.start=.entering) (hnb:c.noBlocks=false/\c.again=false) (hm:p.checked.prog.mainIs=AA (har.1,har.2.toList)) (hn:(!har.1 && har.2.isEmpty && !lk)=false)
  (hl: ∀f fn,p.checked.prog.funcNamed c.func=AA f->p.checked.prog.funcs[f]? =AA fn->lk=p.checked.prog.looks []/\∀(j:Nat) t,fn.params[j]? =AA t->p.checked.prog.wantsStandIn t=false)
  (hg:true=c.goesBy p.checked.prog):
  Claim7.holds p (.plain s) {stood:={row:=c,standIns:=[],harness:=har,looks:=lk},kinds:=[],alts:=[],goes:=true,laidByText:=true,laidKinds:=kinds,laidTests:=tests,laidLooks:=Lk}:=by
 (have h6: ∀r:OpenClaim,Claim7.isSixth {stood:={row:=r,standIns:=[],harness:=har,looks:=lk},kinds:=[]}=false:=λr=>by simpa[Claim7.isSixth] using hn);exact⟨Claim7.tied_new_at Lk kinds tests (Claim7.new_of_sixth hc har lk hst hnb hm (h6 c) hl) hw,(λD hD=>by cases hD),htie,(λh=>by cases h),hg⟩
end
theorem AA2(fs:List FM)(x:FM):BB (fs++[x])=BB fs++[(x.1.nm,x.2)]:=by simp[BB]
theorem AA3(ds:List DM)(x:DM):BF (ds++[x])=BF ds++[(x.1.nm,BB x.2)]:=by simp[BF]
theorem AFi(A:Option Af)(n c:Nat)(xs:List FM)(B:Option Af)(m d:Nat)(ys:List FM)(w:AL)(ha:ER w A n c xs)(hb:ER w B m d ys)(hn:n<=1073741824):
  Au Ag 24 #[.slice A n c,.slice B m d] w (dF (BB xs=BB ys) w):=by
 (have hlx:xs.length=n:=by have:=ha.row.MV;simpa[EZ] using this);(have hly:ys.length=m:=by have:=hb.row.MV;simpa[EZ] using this);have HA:=AP ha;have HB:=AP hb;have Uj:=AP hlx;have HLY:=AP hly;clear ha hb hlx hly;have k65:= @ATP;go_enter ANZ,Tryz.ntmps24;by_cases hnm:n=m
 ·subst hnm;go_wp2;go_loopw [5] (λq wr=>∃i:Nat,i<=n/\q=.int .i64 i/\AZ [] w wr) (λq _=>n - (intOf q).toNat)
  case atStart=>exact⟨0,Dn _,rfl,AZ.refl _ _⟩
  obtain⟨i,hi,rfl,hch⟩:=hrel;have DX:=AP hch;clear hch;by_cases hlt:i<n
  ·(have hlt':(i:Int)<n:=by omega);obtain⟨x,hx⟩: ∃x,xs[i]? =AA x:=⟨_,CB (by have:=Uj.out;omega)⟩;obtain⟨y,hy⟩: ∃y,ys[i]? =AA y:=⟨_,CB (by have:=HLY.out;omega)⟩;obtain⟨ad,rfl,hat⟩:=(HA.out.GH DX.out).row.ns (j:=i) (x:=x.1) (by unfold EZ;rw[Bg,hx];rfl);obtain⟨bd,rfl,hbt⟩:=(HB.out.GH DX.out).row.ns (j:=i) (x:=y.1) (by unfold EZ;rw[Bg,hy];rfl);have x0:=hat.c0;have x1:=hat.c1;have y0:=hbt.c0;have y1:=hbt.c1;have HX:=AP hx;have HY:=AP hy;obtain⟨cb,hneq⟩: ∃cb,(x.1.nm.toList==y.1.nm.toList)=cb:=⟨_,rfl⟩;have HCB:Hid (cb=false->x.1.nm≠y.1.nm):=AP (λh e=>by rw[e] at hneq;rw[h] at hneq;simp at hneq);have Ui:Hid (∀w',AZ [] wr w'->Au Ag 65 #[.slice x.1.A x.1.n x.1.c,.slice y.1.A y.1.n y.1.c] w' (dF (x.2=y.2) w')):=AP (λw' hc=>AFK _ _ _ _ _ _ _ _ w' (((HA.out.GH DX.out).dat x (Bq HX.out)).Aj hc Ew) (((HB.out.GH DX.out).dat y (Bq HY.out)).Aj hc Ew))
   have HNE:Hid (cb=false->BB xs≠BB ys):=AP (λh e=>HCB.out h (by
    have:=congrArg (λl=>l[i]?.map Ac) e;simp only[BB,Bg,HX.out,HY.out,Fq,DR] at this
    exact this))
   have HEQ:Hid (BB xs=BB ys->x.2=y.2):=AP (λe=>by
    have:=congrArg (λl=>l[i]?.map Prod.snd) e;simp only[BB,Bg,HX.out,HY.out,Fq,DR] at this
    exact this)
   clear hx hy hat hbt
   cases cb with
   |false=>
    go_wp2;refine FU (S:=λw'=>AZ [] wr w') Aq ((AZ.refl _ _).drew) (λhHeld=>?_);refine tk 0 ?_;refine tk 1 ?_;refine tk 2 ?_;refine tk 3 ?_;refine Gh 4 (λw' hSw=>hSw.cell x0 BH) ?_;refine tk 5 ?_;refine tk 6 ?_;refine tk 7 ?_;refine tk 8 ?_;refine Gh 9 (λw' hSw=>hSw.cell y0 BH) ?_;refine tk 10 ?_;refine tk 11 ?_;refine tk 12 ?_;refine tk 13 ?_;refine tk 14 ?_;refine tk 15 ?_;refine tk 16 ?_;refine tk 17 ?_;refine tk 18 ?_;refine tk 19 ?_;refine tk 20 ?_;refine tk 21 ?_;refine Em 22 λK hK=>?_;go_simp;refine hK.out _ _ (hHeld) (λhHeld=>?_);(try simp only[BJ,Bh]);clear hK K;refine tk 23 ?_;refine tk 24 ?_;refine Eu Aq ?_ _;(try simp only[BJ,Bh]);clear hHeld x0 x1 y0 y1 hneq;go_wp2;go_ret;exact⟨false,rfl,λe=>Ak e (HNE.out (by first|rfl|trivial)),DX.out.drew⟩
   |true=>
    go_wp2;refine FU (S:=λw'=>AZ [] wr w') Aq ((AZ.refl _ _).drew) (λhHeld=>?_);refine tk 0 ?_;refine tk 1 ?_;refine tk 2 ?_;refine tk 3 ?_;refine Gh 4 (λw' hSw=>hSw.cell x0 BH) ?_;refine tk 5 ?_;refine tk 6 ?_;refine tk 7 ?_;refine tk 8 ?_;refine Gh 9 (λw' hSw=>hSw.cell y0 BH) ?_;refine tk 10 ?_;refine tk 11 ?_;refine tk 12 ?_;refine tk 13 ?_;refine tk 14 ?_;refine tk 15 ?_;refine Gh 16 (λw' hSw=>hSw.cell x1 BH) ?_;refine tk 17 ?_;refine tk 18 ?_;refine tk 19 ?_;refine tk 20 ?_;refine Gh 21 (λw' hSw=>hSw.cell y1 BH) ?_;refine Em 22 λK hK=>?_;go_simp;refine (Ui.out _ hHeld).mono ?_;rintro e w3 ⟨bb,rfl,hbb,hc3⟩;have ALc:=hHeld.Ah hc3;have HBB:=AP hbb;refine hK.out _ _ (hHeld.Ah hc3) (λhHeld=>?_);(try simp only[BJ,Bh]);clear hK K;refine tk 23 ?_;refine tk 24 ?_;refine Eu Aq ?_ _;(try simp only[BJ,Bh]);have Ff:=AP hHeld;clear hHeld ALc hbb hc3 x0 x1 y0 y1 hneq
    cases bb with
    |true=>
     go_wp2;go_roundw
     case rel=>exact⟨i+1,Aa,by go_num,DX.out.Ah Ff.out⟩
     simp[intOf];omega
    |false=>
     go_wp2;go_ret;exact⟨false,rfl,λe=>HBB.out (HEQ.out e),DX.out.Ah Ff.out⟩
  go_wp2;go_ret;exact⟨true,rfl,λ_=>rfl,DX.out⟩
 have h1:((n:Int)==m)=false:=beq_eq_false_iff_ne.2 Aa;(have h2:((n:Int) !=m)=true:=by rw[bne,h1];rfl);have HN:=AP hnm;clear hnm;go_wp2;go_ret;refine⟨false,rfl,λe=>?_,AZ.refl _ _⟩;have:=congrArg Ky e;simp only[BB,DY] at this;have h3:=Uj.out;have h4:=HLY.out;exact Ak Aa HN.out
theorem rq(A:Option Af)(n c:Nat)(xs:List DM)(B:Option Af)(m d:Nat)(ys:List DM)(w:AL)(ha:FY w A n c xs)(hb:FY w B m d ys)(hn:n<=1073741824)(hfn: ∀x∈xs,x.1.n<=1073741824):
  Au Ag 19 #[.slice A n c,.slice B m d] w (dF (BF xs=BF ys) w):=by
 (have hlx:xs.length=n:=by have:=ha.row.MV;simpa[EP] using this);(have hly:ys.length=m:=by have:=hb.row.MV;simpa[EP] using this);have HA:=AP ha;have HB:=AP hb;have Z5:=AP hfn;have Uj:=AP hlx;have HLY:=AP hly;clear ha hb hlx hly hfn;have k24:= @AS0;go_enter ANU,Tryz.ntmps19;by_cases hnm:n=m
 ·subst hnm;go_wp2;go_loopw [5] (λq wr=>∃i:Nat,i<=n/\q=.int .i64 i/\AZ [] w wr) (λq _=>n - (intOf q).toNat)
  case atStart=>exact⟨0,Dn _,rfl,AZ.refl _ _⟩
  obtain⟨i,hi,rfl,hch⟩:=hrel;have DX:=AP hch;clear hch;by_cases hlt:i<n
  ·(have hlt':(i:Int)<n:=by omega);obtain⟨x,hx⟩: ∃x,xs[i]? =AA x:=⟨_,CB (by have:=Uj.out;omega)⟩;obtain⟨y,hy⟩: ∃y,ys[i]? =AA y:=⟨_,CB (by have:=HLY.out;omega)⟩;obtain⟨ad,rfl,hat⟩:=(HA.out.GH DX.out).row.ns (j:=i) (x:=x.1) (by unfold EP;rw[Bg,hx];rfl);obtain⟨bd,rfl,hbt⟩:=(HB.out.GH DX.out).row.ns (j:=i) (x:=y.1) (by unfold EP;rw[Bg,hy];rfl);have x0:=hat.c0;have x1:=hat.c1;have y0:=hbt.c0;have y1:=hbt.c1;have HX:=AP hx;have HY:=AP hy;obtain⟨cb,hneq⟩: ∃cb,(x.1.nm.toList==y.1.nm.toList)=cb:=⟨_,rfl⟩;have HCB:Hid (cb=false->x.1.nm≠y.1.nm):=AP (λh e=>by rw[e] at hneq;rw[h] at hneq;simp at hneq);have Ui:Hid (∀w',AZ [] wr w'->Au Ag 24 #[.slice x.1.A x.1.n x.1.c,.slice y.1.A y.1.n y.1.c] w' (dF (BB x.2=BB y.2) w')):=AP (λw' hc=>AFi _ _ _ _ _ _ _ _ w' (((HA.out.GH DX.out).Eb x (Bq HX.out)).GH hc) (((HB.out.GH DX.out).Eb y (Bq HY.out)).GH hc) (Z5.out x (Bq HX.out)))
   have HNE:Hid (cb=false->BF xs≠BF ys):=AP (λh e=>HCB.out h (by
    have:=congrArg (λl=>l[i]?.map Ac) e;simp only[BF,Bg,HX.out,HY.out,Fq,DR] at this
    exact this))
   have HEQ:Hid (BF xs=BF ys->BB x.2=BB y.2):=AP (λe=>by
    have:=congrArg (λl=>l[i]?.map Prod.snd) e;simp only[BF,Bg,HX.out,HY.out,Fq,DR] at this
    exact this)
   clear hx hy hat hbt
   cases cb with
   |false=>
    go_wp2;refine FU (S:=λw'=>AZ [] wr w') Aq ((AZ.refl _ _).drew) (λhHeld=>?_);refine tk 0 ?_;refine tk 1 ?_;refine tk 2 ?_;refine tk 3 ?_;refine Gh 4 (λw' hSw=>hSw.cell x0 BH) ?_;refine tk 5 ?_;refine tk 6 ?_;refine tk 7 ?_;refine tk 8 ?_;refine Gh 9 (λw' hSw=>hSw.cell y0 BH) ?_;refine tk 10 ?_;refine tk 11 ?_;refine tk 12 ?_;refine tk 13 ?_;refine tk 14 ?_;refine tk 15 ?_;refine tk 16 ?_;refine tk 17 ?_;refine tk 18 ?_;refine tk 19 ?_;refine tk 20 ?_;refine tk 21 ?_;refine Em 22 λK hK=>?_;go_simp;refine hK.out _ _ (hHeld) (λhHeld=>?_);(try simp only[BJ,Bh]);clear hK K;refine tk 23 ?_;refine tk 24 ?_;refine Eu Aq ?_ _;(try simp only[BJ,Bh]);clear hHeld x0 x1 y0 y1 hneq;go_wp2;go_ret;exact⟨false,rfl,λe=>Ak e (HNE.out (by first|rfl|trivial)),DX.out.drew⟩
   |true=>
    go_wp2;refine FU (S:=λw'=>AZ [] wr w') Aq ((AZ.refl _ _).drew) (λhHeld=>?_);refine tk 0 ?_;refine tk 1 ?_;refine tk 2 ?_;refine tk 3 ?_;refine Gh 4 (λw' hSw=>hSw.cell x0 BH) ?_;refine tk 5 ?_;refine tk 6 ?_;refine tk 7 ?_;refine tk 8 ?_;refine Gh 9 (λw' hSw=>hSw.cell y0 BH) ?_;refine tk 10 ?_;refine tk 11 ?_;refine tk 12 ?_;refine tk 13 ?_;refine tk 14 ?_;refine tk 15 ?_;refine Gh 16 (λw' hSw=>hSw.cell x1 BH) ?_;refine tk 17 ?_;refine tk 18 ?_;refine tk 19 ?_;refine tk 20 ?_;refine Gh 21 (λw' hSw=>hSw.cell y1 BH) ?_;refine Em 22 λK hK=>?_;go_simp;refine (Ui.out _ hHeld).mono ?_;rintro e w3 ⟨bb,rfl,hbb,hc3⟩;have ALc:=hHeld.Ah hc3;have HBB:=AP hbb;refine hK.out _ _ (hHeld.Ah hc3) (λhHeld=>?_);(try simp only[BJ,Bh]);clear hK K;refine tk 23 ?_;refine tk 24 ?_;refine Eu Aq ?_ _;(try simp only[BJ,Bh]);have Ff:=AP hHeld;clear hHeld ALc hbb hc3 x0 x1 y0 y1 hneq
    cases bb with
    |true=>
     go_wp2;go_roundw
     case rel=>exact⟨i+1,Aa,by go_num,DX.out.Ah Ff.out⟩
     simp[intOf];omega
    |false=>
     go_wp2;go_ret;exact⟨false,rfl,λe=>HBB.out (HEQ.out e),DX.out.Ah Ff.out⟩
  go_wp2;go_ret;exact⟨true,rfl,λ_=>rfl,DX.out⟩
 have h1:((n:Int)==m)=false:=beq_eq_false_iff_ne.2 Aa;(have h2:((n:Int) !=m)=true:=by rw[bne,h1];rfl);have HN:=AP hnm;clear hnm;go_wp2;go_ret;refine⟨false,rfl,λe=>?_,AZ.refl _ _⟩;have:=congrArg Ky e;simp only[BF,DY] at this;have h3:=Uj.out;have h4:=HLY.out;exact Ak Aa HN.out
def xq (w:AL) (fs:List (ByteArray×List Int)) (e:FT) (w':AL):Prop:=
 ∃A c gs,e=.returned (.slice A fs.length c)/\G8 w' A fs.length c gs/\BB gs=fs/\AZ [] w w'/\∀k∈bo A++Gg gs,w.heap.size<=k
theorem X8(A:Option Af)(n c:Nat)(xs:List FM)(w:AL)(ha:ER w A n c xs)(hn:n<=1073741824)(hfn: ∀x∈xs,x.1.n<=1073741824):
  Au Ag 15 #[.slice A n c] w (xq w (BB xs)):=by
 (have hlx:xs.length=n:=by have:=ha.row.MV;simpa[EZ] using this);have HA:=AP ha;have Uj:=AP hlx;have Z5:=AP hfn;clear ha hlx hfn;have k53:= @AOQ;go_enter ANP,Tryz.ntmps15;go_wp2;go_loopw [3,4] (λo q wr=>∃(i:Nat) (A':Option Af) (c':Nat) (zs:List FM),i<=n/\q=.int .i64 i/\o=.slice A' i c'/\G8 wr A' i c' zs/\BB zs=BB (xs.take i)/\AZ [] w wr/\∀k∈bo A'++Gg zs,w.heap.size<=k) (λ_ q _=>n - (intOf q).toNat)
 case atStart=>exact⟨0,_,0,[],Dn _,rfl,rfl,⟨Own.lit w 64 2 #[] 0 Ar rfl,AV,by simp[Gg]⟩,rfl,(AZ.refl _ _).alloc _,by simp[Gg]⟩
 obtain⟨i,A',c',zs,hi,rfl,rfl,hz,hval,hch,hnw⟩:=hrel;have HZ:=AP hz;have Xu:=AP hval;have DX:=AP hch;have OJ:=AP hnw;clear hz hval hch hnw;by_cases hlt:i<n
 ·(have hlt':(i:Int)<n:=by omega);obtain⟨x,hx⟩: ∃x,xs[i]? =AA x:=⟨_,CB (by have:=Uj.out;omega)⟩;obtain⟨ad,rfl,hat⟩:=HA.out.row.ns (j:=i) (x:=x.1) (by unfold EZ;rw[Bg,hx];rfl)
  have rH:Hid (ad.block∉bo A'):=AP (λhm=>by
   have h1:=UU w _ hat.c0;rw[add_block] at h1;have h2:=OJ.out _ (F7 _ hm)
   omega)
  have X9:=hat.Aj DX.out BH;have x0:=X9.c0;have x1:=X9.c1;have HX:=AP hx;have HNN:Hid (∀k∈bo A',w.heap.size<=k):=AP (λk hk=>OJ.out k (F7 _ hk));clear hx hat X9;go_wp2;refine FU (S:=λw'=>AZ (bo A') wr w') Aq ((AZ.refl _ _).drew) (λhHeld=>?_);refine tk 0 ?_;refine tk 1 ?_;refine tk 2 ?_;refine tk 3 ?_;refine tk 4 ?_;refine Gh 5 (λw' hSw=>hSw.cell x0 (λh=>rH.out (by simpa[add_block] using h))) ?_;refine tk 6 ?_;refine tk 7 ?_;refine tk 8 ?_;refine tk 9 ?_;refine Gh 10 (λw' hSw=>hSw.cell x1 (λh=>rH.out (by simpa[add_block] using h))) ?_;refine Em 11 λK hK=>?_;go_simp;refine (wY x.1.A x.1.n x.1.c x.2 _ (Z5.out x (Bq HX.out)) ((HA.out.dat x (Bq HX.out)).Aj ((DX.out.trans hHeld (λx hx=>.inr (HNN.out x hx)))) Ew)).mono ?_;rintro e w4 ⟨BA,bc,rfl,Zi,hc4,hn4⟩;have uu:=AP Zi;have JD:=AP hc4;have HN4:=AP hn4;have Uk:Hid (AZ [] wr (w4.alloc (.cells #[.string x.1.nm,.slice BA x.1.n bc] 64))):=AP ((((AZ.refl [] wr).drew).Ah hc4).alloc _);have HOW:Hid (G8 (w4.alloc (.cells #[.string x.1.nm,.slice BA x.1.n bc] 64)) A' i c' zs):=AP (HZ.out.Aj Uk.out Ew);have hHc:=hHeld.Ah hc4;clear Zi hn4;refine hK.out _ _ (hHc) (λhHeld=>?_);(try simp only[BJ,Bh]);clear hK K;refine tk 12 ?_;refine Em 13 λK hK=>?_;go_simp;refine hK.out _ _ (hHeld.alloc _) (λhHeld=>?_);(try simp only[BJ,Bh]);clear hK K;refine Em 14 λK hK=>?_;refine Jb rfl _ _ rfl wo rfl HOW.out.row rfl (Own.lit w4 64 2 #[.string x.1.nm,.slice BA x.1.n bc] 1 Ar rfl).rd (VC [⟨x.1.nm,BA,x.1.n,bc⟩]) OH Aa ?_;intro A2 c2 w6 hown6 IP LZ _;have qh:=AP hown6;have Jh:=AP IP;have Xv:=AP LZ;have hH6:=hHeld.trans IP (λx hx=>.inl hx);clear hown6 IP LZ;refine hK.out _ _ (hH6) (λhHeld=>?_);(try simp only[BJ,Bh]);clear hK K;refine tk 15 ?_;refine Eu Aq ?_ _;(try simp only[BJ,Bh]);clear hHeld hHc hH6 hc4 x0 x1;go_wp2;go_roundw
  case rel=>
   have hzl:=HZ.out.lt;have hwl:wr.heap.size<=w4.heap.size:=JD.out.size;have hba: ∀k∈bo BA,wr.heap.size<=k:=λk hk=>HN4.out k hk
   have hO6:Own w6 64 2 A2 (i+1) c2 (Ho (EZ (zs++[(⟨x.1.nm,BA,x.1.n,bc⟩,x.2)]))):=by
    have:=qh.out;unfold EZ at this⊢;rw[Ey,OB];exact this
   have hz6:G8 w6 A2 (i+1) c2 (zs++[(⟨x.1.nm,BA,x.1.n,bc⟩,x.2)]):=HOW.out.snoc Jh.out hO6 ((uu.out.Aj ((AZ.refl [] w4).alloc _) Ew).Aj Jh.out (λk hk hm=>by have h1:=hba k hk;have h2:=hzl k (F7 _ hm);omega)) (λk hk hm=>by have h1:=hba k hk;have h2:=hzl k (Hg _ hm);omega);refine⟨i+1,A2,c2,zs++[(⟨x.1.nm,BA,x.1.n,bc⟩,x.2)],Aa,by go_num,rfl,hz6,?_,(DX.out.Ah Uk.out).trans Jh.out (λx hx=>.inr (OJ.out x (F7 _ hx))),λk hk=>?_⟩
   ·rw[AA2,Xu.out];unfold BB;rw[OU,OU,take_snoc _ i _ (show (xs.map _)[i]? =AA _ by rw[Bg,HX.out];rfl)]
   rw[qA] at hk;have h3:=DX.out.size;rcases Bd.1 hk with hk|hk
   ·rcases Xv.out k hk with h|h;exact OJ.out k (F7 _ h);simp at h;omega
   rcases Bd.1 hk with hk|hk;exact OJ.out k (Hg _ hk);have:=hba k hk;omega
  simp[intOf];omega
 (obtain rfl:i=n:=by omega);go_wp2;go_ret;refine⟨A',c',zs,by rw[show (BB xs).length=i by rw[BB,DY];exact Uj.out];rfl,by rw[show (BB xs).length=i by rw[BB,DY];exact Uj.out];exact HZ.out,?_,DX.out,OJ.out⟩;rw[Xu.out,Ep (by rw[Uj.out];exact Bc _)]
theorem ADY(A:Option Af)(n c:Nat)(xs:List DM)(w:AL)(ha:FY w A n c xs)(hn:n<=1073741824)(hfn: ∀x∈xs,x.1.n<=1073741824/\∀f∈x.2,f.1.n<=1073741824):
  Au Ag 35 #[.slice A n c] w (dD w (BF xs)):=by
 (have hlx:xs.length=n:=by have:=ha.row.MV;simpa[EP] using this);have HA:=AP ha;have Uj:=AP hlx;have Z5:=AP hfn;clear ha hlx hfn;have k15:= @AKK;go_enter ANf,Tryz.ntmps35;go_wp2;go_loopw [3,4] (λo q wr=>∃(i:Nat) (A':Option Af) (c':Nat) (zs:List DM),i<=n/\q=.int .i64 i/\o=.slice A' i c'/\Jt wr A' i c' zs/\BF zs=BF (xs.take i)/\AZ [] w wr/\∀k∈bo A'++Ou zs,w.heap.size<=k) (λ_ q _=>n - (intOf q).toNat)
 case atStart=>exact⟨0,_,0,[],Dn _,rfl,rfl,⟨Own.lit w 77 2 #[] 0 Ar rfl,AV,by simp[Ou]⟩,rfl,(AZ.refl _ _).alloc _,by simp[Ou]⟩
 obtain⟨i,A',c',zs,hi,rfl,rfl,hz,hval,hch,hnw⟩:=hrel;have HZ:=AP hz;have Xu:=AP hval;have DX:=AP hch;have OJ:=AP hnw;clear hz hval hch hnw;by_cases hlt:i<n
 ·(have hlt':(i:Int)<n:=by omega);obtain⟨x,hx⟩: ∃x,xs[i]? =AA x:=⟨_,CB (by have:=Uj.out;omega)⟩;obtain⟨ad,rfl,hat⟩:=HA.out.row.ns (j:=i) (x:=x.1) (by unfold EP;rw[Bg,hx];rfl)
  have rH:Hid (ad.block∉bo A'):=AP (λhm=>by
   have h1:=UU w _ hat.c0;rw[add_block] at h1;have h2:=OJ.out _ (F7 _ hm)
   omega)
  have X9:=hat.Aj DX.out BH;have x0:=X9.c0;have x1:=X9.c1;have HX:=AP hx;have HNN:Hid (∀k∈bo A',w.heap.size<=k):=AP (λk hk=>OJ.out k (F7 _ hk));clear hx hat X9;go_wp2;refine FU (S:=λw'=>AZ (bo A') wr w') Aq ((AZ.refl _ _).drew) (λhHeld=>?_);refine tk 0 ?_;refine tk 1 ?_;refine tk 2 ?_;refine tk 3 ?_;refine tk 4 ?_;refine Gh 5 (λw' hSw=>hSw.cell x0 (λh=>rH.out (by simpa[add_block] using h))) ?_;refine tk 6 ?_;refine tk 7 ?_;refine tk 8 ?_;refine tk 9 ?_;refine Gh 10 (λw' hSw=>hSw.cell x1 (λh=>rH.out (by simpa[add_block] using h))) ?_;refine Em 11 λK hK=>?_;go_simp;refine (X8 x.1.A x.1.n x.1.c x.2 _ ((HA.out.Eb x (Bq HX.out)).GH ((DX.out.trans hHeld (λx hx=>.inr (HNN.out x hx))))) (Z5.out x (Bq HX.out)).1 (Z5.out x (Bq HX.out)).2).mono ?_;rintro e w4 ⟨BA,bc,fs4,rfl,Zi,hv4,hc4,hn4⟩;have uu:=AP Zi;have HV4:=AP hv4;have JD:=AP hc4;have HN4:=AP hn4;have Uk:Hid (AZ [] wr (w4.alloc (.cells #[.string x.1.nm,.slice BA (BB x.2).length bc] 77))):=AP ((((AZ.refl [] wr).drew).Ah hc4).alloc _);have HOW:Hid (Jt (w4.alloc (.cells #[.string x.1.nm,.slice BA (BB x.2).length bc] 77)) A' i c' zs):=AP (HZ.out.Aj Uk.out Ew);have hHc:=hHeld.Ah hc4;clear Zi hn4 hv4;refine hK.out _ _ (hHc) (λhHeld=>?_);(try simp only[BJ,Bh]);clear hK K;refine tk 12 ?_;refine Em 13 λK hK=>?_;go_simp;refine hK.out _ _ (hHeld.alloc _) (λhHeld=>?_);(try simp only[BJ,Bh]);clear hK K;refine Em 14 λK hK=>?_;refine Jb rfl _ _ rfl Qi rfl HOW.out.row rfl (Own.lit w4 77 2 #[.string x.1.nm,.slice BA (BB x.2).length bc] 1 Ar rfl).rd (VC [⟨x.1.nm,BA,(BB x.2).length,bc⟩]) OH Aa ?_;intro A2 c2 w6 hown6 IP LZ _;have qh:=AP hown6;have Jh:=AP IP;have Xv:=AP LZ;have hH6:=hHeld.trans IP (λx hx=>.inl hx);clear hown6 IP LZ;refine hK.out _ _ (hH6) (λhHeld=>?_);(try simp only[BJ,Bh]);clear hK K;refine tk 15 ?_;refine Eu Aq ?_ _;(try simp only[BJ,Bh]);clear hHeld hHc hH6 hc4 x0 x1;go_wp2;go_roundw
  case rel=>
   have hzl:=HZ.out.lt;have hwl:wr.heap.size<=w4.heap.size:=JD.out.size;have hba: ∀k∈bo BA++Gg fs4,wr.heap.size<=k:=λk hk=>HN4.out k hk
   have hO6:Own w6 77 2 A2 (i+1) c2 (Ho (EP (zs++[(⟨x.1.nm,BA,(BB x.2).length,bc⟩,fs4)]))):=by
    have:=qh.out;unfold EP at this⊢;rw[Ey,OB];exact this
   have hz6:Jt w6 A2 (i+1) c2 (zs++[(⟨x.1.nm,BA,(BB x.2).length,bc⟩,fs4)]):=HOW.out.snoc Jh.out hO6 ((uu.out.Aj ((AZ.refl [] w4).alloc _) Ew).Aj Jh.out (λk hk hm=>by have h1:=hba k hk;have h2:=hzl k (F7 _ hm);omega)) (λk hk hm=>by have h1:=hba k hk;have h2:=hzl k (Hg _ hm);omega);refine⟨i+1,A2,c2,zs++[(⟨x.1.nm,BA,(BB x.2).length,bc⟩,fs4)],Aa,by go_num,rfl,hz6,?_,(DX.out.Ah Uk.out).trans Jh.out (λx hx=>.inr (OJ.out x (F7 _ hx))),λk hk=>?_⟩
   ·rw[AA3,Xu.out];unfold BF;rw[OU,OU,take_snoc _ i _ (show (xs.map _)[i]? =AA _ by rw[Bg,HX.out];rfl)];simp only[HV4.out]
   rw[Zv] at hk;have h3:=DX.out.size;rcases Bd.1 hk with hk|hk
   ·rcases Xv.out k hk with h|h;exact OJ.out k (F7 _ h);simp at h;omega
   rcases Bd.1 hk with hk|hk;exact OJ.out k (Hg _ hk);have:=hba k hk;omega
  simp[intOf];omega
 (obtain rfl:i=n:=by omega);go_wp2;go_ret;refine⟨A',i,c',zs,rfl,HZ.out,?_,DX.out,OJ.out⟩;rw[Xu.out,Ep (by rw[Uj.out];exact Bc _)]
def MH (nm:ByteArray) (D:FI):FI:=D.filter λd=> !decide (d.1=nm)
def Ro (nm:ByteArray) (ds:List DM):List DM:=ds.filter λd=> !decide (d.1.nm=nm)
theorem xu(nm:ByteArray)(ds:List DM):BF (Ro nm ds)=MH nm (BF ds):=by
 unfold Ro MH BF;rw[lJ];rfl
theorem xw{nm:ByteArray}{ds:List DM}{k:Nat}{d:DM}(h:ds[k]? =AA d):Ro nm (ds.take (k+1))=if d.1.nm=nm then Ro nm (ds.take k) else Ro nm (ds.take k)++[d]:=by
 unfold Ro;rw[RQ,h,mM,aZ];by_cases hd:d.1.nm=nm;rw[BZ hd];simp[hd];rw[BM hd];simp[hd]
theorem ALd(nm:ByteArray)(ds:List DM)(k:Nat):(Ro nm (ds.take k)).length<=k:=by
 unfold Ro;refine CY (aW _ _) ?_;rw[Ht];omega
def AGx (w:AL) (L:List DM) (e:FT) (w':AL):Prop:=
 ∃A c,e=.returned (.slice A L.length c)/\Own w' 77 2 A L.length c (Ho (EP L))/\AZ [] w w'/\∀k∈bo A,w.heap.size<=k
theorem ru(xs:List Ir)(x:Ir):Ho (xs++[x])=Ho xs++[.string x.nm,.slice x.A x.n x.c]:=by unfold Ho Ir.cells;rw[AFv];simp
theorem AA4(A:Option Af)(n c:Nat)(ds:List DM)(nm:ByteArray)(w:AL)(h:FY w A n c ds)(hn:n<=1073741824):
  Au Ag 22 #[.slice A n c,.string nm] w (AGx w (Ro nm ds)):=by
 (have hl:ds.length=n:=by have:=h.row.MV;simpa[EP] using this);have HD:=AP h;have HL:=AP hl;clear h hl;go_enter ANX,Tryz.ntmps22;go_wp2;go_loopw [5,6] (λs i wr=>∃(k:Nat) (A5:Option Af) (c5:Nat),k<=n/\i=.int .i64 k/\s=.slice A5 (Ro nm (ds.take k)).length c5/\Own wr 77 2 A5 (Ro nm (ds.take k)).length c5 (Ho (EP (Ro nm (ds.take k))))/\AZ [] w wr/\∀x∈bo A5,w.heap.size<=x) (λ_ i _=>n - (intOf i).toNat)
 case atStart=>exact⟨0,AA ⟨w.heap.size,0,AB⟩,0,Dn _,rfl,rfl,Own.lit w 77 2 #[] 0 Ar rfl,(AZ.refl [] w).alloc _,AV⟩
 obtain⟨k,A5,c5,hk,rfl,rfl,ho,hch,hnew⟩:=hrel;have HO:=AP ho;have HC:=AP hch;have HN:=AP hnew;have hlw:=ALd nm ds k;clear ho hch hnew;by_cases hlt:k<n
 ·obtain⟨d,hd⟩: ∃d,ds[k]? =AA d:=⟨_,CB (by have:=HL.out;omega)⟩;obtain⟨⟨Dz,dA,dn,dc⟩,GL⟩:=d;obtain⟨ad,rfl,hat⟩:=(HD.out.GH HC.out).row.ns (j:=k) (x:=⟨Dz,dA,dn,dc⟩) (by unfold EP;rw[Bg,hd];rfl);have x0:=hat.c0;have x1:=hat.c1;have HX:=AP hd;clear hd hat;by_cases hnm:Dz=nm
  ·(have hb:(Dz.toList==nm.toList)=true:=by rw[<- JE];exact decide_eq_true hnm);have HW:Hid (Ro nm (ds.take (k+1))=Ro nm (ds.take k)):=AP (by rw[xw HX.out,BZ hnm]);clear hnm;go_wp2;go_roundw
   case rel=>exact⟨k+1,A5,c5,Aa,by go_num,by rw[HW.out],by rw[HW.out];exact HO.out,HC.out,HN.out⟩
   simp[intOf];omega
  (have hb:(Dz.toList==nm.toList)=false:=by rw[<- JE];exact decide_eq_false hnm);have HW:Hid (Ro nm (ds.take (k+1))=Ro nm (ds.take k)++[(⟨Dz,dA,dn,dc⟩,GL)]):=AP (by rw[xw HX.out,BM hnm]);clear hnm;(go_wp2_with (at_builtin;refine EW rfl _ _ rfl Qi rfl (HO.out.Aj ((AZ.refl [] wr).alloc _) AV) rfl (Own.UK _ 77 2 #[.string Dz,.slice dA dn dc] 1 _ _ rfl rfl Ar rfl).rd (by simp[Kz]) OH Aa ?_;intro A9 c9 wb hown EX aH _));go_roundw
  case rel=>
   refine⟨k+1,A9,c9,Aa,by go_num,by rw[HW.out];simp,?_,((HC.out.alloc _).trans EX (λx hx=>.inr (HN.out x hx))),λx hx=>?_⟩
   ·rw[HW.out];(have:EP (Ro nm (ds.take k)++[(⟨Dz,dA,dn,dc⟩,GL)])=EP (Ro nm (ds.take k))++[⟨Dz,dA,dn,dc⟩]:=by simp[EP]);rw[this,ru,Gz];exact hown
   rcases aH x hx with h|h;exact HN.out x h;have h1:=h.1;have h2:=HC.out.size;simp at h1;omega
  simp[intOf];omega
 (obtain rfl:k=n:=by omega);go_wp2;go_ret;have h1:ds.take k=ds:=Ep (by have:=HL.out;omega);rw[h1] at HO;rw[h1];exact⟨A5,c5,rfl,HO.out,HC.out,HN.out⟩
section
variable {d:DM}{L ds:List DM}{m:Nat}{w:AL}
def Kt (x:ByteArray×List (ByteArray×List Int)) (s:Bool×FI) (d:ByteArray×List (ByteArray×List Int)):Bool×FI:=
 (s.1 || PE x.1 d.1,(if s.1=false/\PE x.1 d.1=true then s.2++[x] else s.2)++(if d.1=x.1 then [] else [d]))
def ADZ (x:ByteArray×List (ByteArray×List Int)) (D:FI):Bool×FI:=D.foldl (Kt x) (false,[])
def wiD (x:ByteArray×List (ByteArray×List Int)) (D:FI):FI:=if (ADZ x D).1=true then (ADZ x D).2 else (ADZ x D).2++[x]
def La (x:DM) (s:Bool×List DM) (d:DM):Bool×List DM:=
 (s.1 || PE x.1.nm d.1.nm,(if s.1=false/\PE x.1.nm d.1.nm=true then s.2++[x] else s.2)++(if d.1.nm=x.1.nm then [] else [d]))
def Hq (x:DM) (ds:List DM):Bool×List DM:=ds.foldl (La x) (false,[])
def wiM (x:DM) (ds:List DM):List DM:=if (Hq x ds).1=true then (Hq x ds).2 else (Hq x ds).2++[x]
theorem ZO(a b:List DM):BF (a++b)=BF a++BF b:=by unfold BF;rw[Ey]
theorem xy(x:DM): ∀(ds:List DM) (s:Bool×List DM),((ds.foldl (La x) s).1,BF (ds.foldl (La x) s).2)=(BF ds).foldl (Kt (x.1.nm,BB x.2)) (s.1,BF s.2)
 | [],s=>rfl
 |d::r,s=>by
  rw[WC,xy x r];show _=(BF r).foldl _ (Kt _ _ (d.1.nm,BB d.2));congr 1;unfold La Kt;simp only;refine Jp rfl ?_;simp only;rw[ZO];congr 1
  ·split<;>simp[BF]
  split<;>rfl
theorem AIP(x:DM)(ds:List DM):BF (wiM x ds)=wiD (x.1.nm,BB x.2) (BF ds):=by
 have h:=xy x ds (false,[]);have h1:(Hq x ds).1=(ADZ (x.1.nm,BB x.2) (BF ds)).1:=congrArg Ac h;have h2:BF (Hq x ds).2=(ADZ (x.1.nm,BB x.2) (BF ds)).2:=congrArg Prod.snd h;unfold wiM wiD;rw[<- h1,<- h2];split;rfl;rw[ZO];rfl
theorem ADa(x:DM){k:Nat}(h:ds[k]? =AA d):Hq x (ds.take (k+1))=La x (Hq x (ds.take k)) d:=by
 unfold Hq;rw[RQ,h,mM,List.foldl_append];rfl
theorem sD(x:DM): ∀(ds:List DM) (s:Bool×List DM) (d:DM),d∈(ds.foldl (La x) s).2->d∈s.2\/d=x\/d∈ds
 | [],s,d,h=>.inl h
 |e::r,s,d,h=>by
  rw[WC] at h;rcases sD x r _ d h with h|h|h
  ·unfold La at h;simp only at h;rcases Bd.1 h with h|h
   ·split at h
    ·rcases Bd.1 h with h|h;exact .inl h;simp at h;exact .inr (.inl h)
    exact .inl h
   split at h;(cases h);simp at h;exact .inr (.inr (by simp[h]))
  exact .inr (.inl h);exact .inr (.inr (CO _ h))
theorem ALe{x:DM}(h:d∈wiM x ds):d=x\/d∈ds:=by
 have hk: ∀d,d∈(Hq x ds).2->d=x\/d∈ds:=λd h=>by
  rcases sD x ds (false,[]) d h with h|h;(cases h);exact h
 unfold wiM at h;split at h;exact hk d h;rcases Bd.1 h with h|h;exact hk d h;simp at h;exact .inl h
theorem AA5(x:DM)(s:Bool×List DM)(d:DM):(La x s d).2.length<=s.2.length+2:=by
 unfold La;simp only[Gz];split<;>split<;>simp<;>omega
theorem sF(x:DM): ∀(ds:List DM) (s:Bool×List DM),(ds.foldl (La x) s).2.length<=s.2.length+2*ds.length
 | [],s=>by simp
 |e::r,s=>by
  rw[WC];have:=sF x r (La x s e);have:=AA5 x s e;simp only[EU];omega
theorem kX(x:DM)(ds:List DM)(k:Nat):(Hq x (ds.take k)).2.length<=2*k:=by
 have:=sF x (ds.take k) (false,[]);unfold Hq;rw[Ht] at this;simp at this⊢;omega
def iK (w:AL) (L:List DM) (s:AQ) (wr:AL):Prop:=∃A5 c5,s=.slice A5 L.length c5/\Own wr 77 2 A5 L.length c5 (Ho (EP L))/\AZ [] w wr/\∀x∈bo A5,w.heap.size<=x
theorem iK.app{wr wb:AL}{A5 A9:Option Af}{c9:Nat}{o:Obj}(hm:L.length=m)(hc:AZ [] w wr)(hn: ∀x∈bo A5,w.heap.size<=x)(ho:Own wb 77 2 A9 (m+1) c9 (Ho (EP L)++[.string d.1.nm,.slice d.1.A d.1.n d.1.c]))(h:AZ (bo A5) (wr.alloc o) wb)
  (hnew: ∀x∈bo A9,x∈bo A5\/((wr.alloc o).heap.size<=x/\x<wb.heap.size)):iK w (L++[d]) (.slice A9 (m+1) c9) wb:=by
 subst hm;refine⟨A9,c9,AV,?_,(hc.alloc _).trans h (λx hx=>.inr (hn x hx)),λx hx=>?_⟩
 ·(have:EP (L++[d])=EP L++[d.1]:=by simp[EP]);rw[this,ru,Gz];exact ho
 rcases hnew x hx with h|h;exact hn x h;have h1:=h.1;have h2:=hc.size;simp at h1;omega
theorem iK.of{wr wx:AL}{c:Nat}{A:Option Af}(hm:L.length=m)(ho:Own wr 77 2 A m c (Ho (EP L)))(hc:AZ [] w wx)(hc2:AZ [] wr wx)(hn: ∀x∈bo A,w.heap.size<=x):iK w L (.slice A m c) wx:=by
 subst hm;exact⟨A,c,rfl,ho.Aj hc2 AV,hc,hn⟩
end
theorem AIQ(A:Option Af)(n c:Nat)(ds:List DM)(nm:ByteArray)(xA:Option Af)(xn xc:Nat)(xfs:List FM)(w:AL)(h:FY w A n c ds)(hn:n<=500000000):
  Au Ag 33 #[.slice A n c,.agg #[.string nm,.slice xA xn xc]] w (AGx w (wiM (⟨nm,xA,xn,xc⟩,xfs) ds)):=by
 (have hl:ds.length=n:=by have:=h.row.MV;simpa[EP] using this);obtain⟨x,hx⟩: ∃x:DM,x=(⟨nm,xA,xn,xc⟩,xfs):=⟨_,rfl⟩;obtain⟨b3,hb3⟩: ∃b3,w.heap.size=b3:=⟨_,rfl⟩;obtain⟨W0,hW0⟩: ∃W0,w.alloc (.cells #[.string nm,.slice xA xn xc] 77)=W0:=⟨_,rfl⟩;(have hc0:AZ [] w W0:=by rw[<- hW0];exact (AZ.refl [] w).alloc _);(have hk0:Bl W0 b3 77 #[.string nm,.slice xA xn xc]:=by rw[<- hW0,<- hb3];exact .new _ _ _);have HD:=AP (h.GH hc0);have HL:=AP hl;have HX:=AP hx;have TF:=AP hc0;have HK0:=AP hk0;rw[<- hx];clear h hl hx hc0 hk0;have hlq:=Rj;go_enter ANd,Tryz.ntmps33;go_wp2;go_loopw [5,6,7] (λs q i wr=>∃(k:Nat),k<=n/\i=.int .i64 k/\q=.bool (Hq x (ds.take k)).1/\iK W0 (Hq x (ds.take k)).2 s wr) (λ_ _ i _=>n - (intOf i).toNat)
 case atStart=>exact⟨0,Dn _,rfl,rfl,_,_,rfl,Own.lit W0 77 2 #[] 0 Ar rfl,(AZ.refl [] W0).alloc _,AV⟩
 obtain⟨k,hk,rfl,rfl,A5,c5,rfl,ho,hch,hnew⟩:=hrel;have HO:=AP ho;have HC:=AP hch;have HN:=AP hnew;have hlw:=kX x ds k;have hkb:=HK0.out.Aj hch AV;have y0:=hkb.cell 0;have y1:=hkb.cell 1;simp only[GG] at y0 y1;have HKB:=AP hkb;clear ho hch hnew hkb;by_cases hlt:k<n
 ·obtain⟨d,hd⟩: ∃d,ds[k]? =AA d:=⟨_,CB (by have:=HL.out;omega)⟩;obtain⟨⟨Dz,dA,dn,dc⟩,GL⟩:=d;have HNS:Hid ((EP ds)[k]? =AA ⟨Dz,dA,dn,dc⟩):=AP (by unfold EP;rw[Bg,hd];rfl);have hat:=(HD.out.GH HC.out).row.ns (j:=k) (x:=⟨Dz,dA,dn,dc⟩) HNS.out;obtain⟨ad,rfl,hat⟩:=hat;have x0:=hat.c0;have x1:=hat.c1;have HAT:=AP hat;have hst:=ADa x hd;have HST:Hid (Hq x (ds.take (k+1))=((Hq x (ds.take k)).1 || PE nm Dz,(if (Hq x (ds.take k)).1=false/\PE nm Dz=true then (Hq x (ds.take k)).2++[x] else (Hq x (ds.take k)).2)++(if Dz=nm then [] else [(⟨Dz,dA,dn,dc⟩,GL)]))):=AP (by rw[hst,HX.out];rfl);clear hd hat hst;obtain⟨s0,hs0⟩: ∃s0,Hq x (ds.take k)=s0:=⟨_,rfl⟩;rw[hs0] at HST HO hlw;rw[hs0];obtain⟨dnf,L⟩:=s0;clear hs0;simp only at HST HO hlw
  cases dnf with
  |true=>
   have HS2:Hid (Hq x (ds.take (k+1))=(true,L++(if Dz=nm then [] else [(⟨Dz,dA,dn,dc⟩,GL)]))):=AP (by rw[HST.out];simp);clear HST;go_wp2;go_quiet (fail);go_wp2;by_cases hnm:Dz=nm
   ·(have hb:(Dz.toList==nm.toList)=true:=by rw[<- JE];exact decide_eq_true hnm);have Px:=HS2.out;rw[BZ hnm,I9] at Px;have YA:=AP Px;clear hnm Px;go_quiet (fail);go_wp2;go_roundw
    case rel=>exact⟨k+1,Aa,by go_num,by rw[YA.out],by rw[YA.out];exact iK.of (rfl) HO.out (by first|exact HC.out|exact HC.out.drewN _|exact (HC.out.drewN _).drewN _) (by first|exact AZ.refl [] _|exact (AZ.refl [] _).drewN _|exact ((AZ.refl [] _).drewN _).drewN _) HN.out⟩
    simp[intOf];omega
   (have hb:(Dz.toList==nm.toList)=false:=by rw[<- JE];exact decide_eq_false hnm);have Px:=HS2.out;rw[BM hnm] at Px;have YA:=AP Px;clear hnm Px;go_quiet (fail);(go_wp2_with (at_builtin;refine EW rfl _ _ rfl Qi rfl (HO.out.Aj (by first|exact (AZ.refl [] _).alloc _|exact ((AZ.refl [] _).drewN _).alloc _|exact (((AZ.refl [] _).drewN _).drewN _).alloc _) AV) rfl (Own.UK _ 77 2 #[.string Dz,.slice dA dn dc] 1 _ _ rfl rfl Ar rfl).rd (by simp[Kz]) OH Aa ?_;intro A9 c9 wb9 sG sH aH _));go_roundw
   case rel=>exact⟨k+1,Aa,by go_num,by rw[YA.out],by rw[YA.out];exact iK.app (d:=(⟨Dz,dA,dn,dc⟩,GL)) (rfl) (by first|exact HC.out|exact HC.out.drewN _|exact (HC.out.drewN _).drewN _) HN.out sG sH aH⟩
   simp[intOf];omega
  |false=>
   cases hle:PE nm Dz with
   |true=>
    have HS2:Hid (Hq x (ds.take (k+1))=(true,(L++[x])++(if Dz=nm then [] else [(⟨Dz,dA,dn,dc⟩,GL)]))):=AP (by rw[HST.out,hle];simp);clear HST;go_wp2;go_quiet (fail);(go_wp2_with (at_builtin;refine EW rfl _ _ rfl Qi rfl (HO.out.Aj (by first|exact (AZ.refl [] _).alloc _|exact ((AZ.refl [] _).drewN _).alloc _|exact (((AZ.refl [] _).drewN _).drewN _).alloc _) AV) rfl (Own.UK _ 77 2 #[.string nm,.slice xA xn xc] 1 _ _ rfl rfl Ar rfl).rd (by simp[Kz]) OH Aa ?_;intro A8 c8 wb8 Un O0 Uo _));have hp:=iK.app (d:=(⟨nm,xA,xn,xc⟩,xfs)) rfl (by first|exact HC.out|exact HC.out.drewN _) HN.out Un O0 Uo;rw[<- HX.out] at hp;obtain⟨A7,c7,e7,ho7,Xy,hn7⟩:=hp;have ALf:=HK0.out.Aj Xy AV;have y0:=ALf.cell 0;have y1:=ALf.cell 1;simp only[GG] at y0 y1;have ADb:=(HD.out.GH Xy).row.ns (j:=k) (x:=⟨Dz,dA,dn,dc⟩) HNS.out;obtain⟨ad8,hA8,ADb⟩:=ADb;injection hA8 with hA8;subst hA8;have x0:=ADb.c0;have x1:=ADb.c1;have MX:=AP Xy;have HN7:=AP hn7;injection e7 with e71 e72 e73;rw[<- e72] at ho7;have HO7:=AP ho7;subst e71;subst e73;clear ALf ADb ho7 Xy hn7 Un O0 Uo e72;go_wp2;by_cases hnm:Dz=nm
    ·(have hb:(Dz.toList==nm.toList)=true:=by rw[<- JE];exact decide_eq_true hnm);have Px:=HS2.out;rw[BZ hnm,I9] at Px;have YA:=AP Px;clear hnm Px;go_quiet (fail);go_wp2;go_roundw
     case rel=>exact⟨k+1,Aa,by go_num,by rw[YA.out],by rw[YA.out];exact iK.of AV HO7.out (by first|exact MX.out|exact MX.out.drewN _|exact (MX.out.drewN _).drewN _) (by first|exact AZ.refl [] _|exact (AZ.refl [] _).drewN _|exact ((AZ.refl [] _).drewN _).drewN _) HN7.out⟩
     simp[intOf];omega
    (have hb:(Dz.toList==nm.toList)=false:=by rw[<- JE];exact decide_eq_false hnm);have Px:=HS2.out;rw[BM hnm] at Px;have YA:=AP Px;clear hnm Px;go_quiet (fail);(go_wp2_with (at_builtin;refine EW rfl _ _ rfl Qi rfl (HO7.out.Aj (by first|exact (AZ.refl [] _).alloc _|exact ((AZ.refl [] _).drewN _).alloc _|exact (((AZ.refl [] _).drewN _).drewN _).alloc _) AV) rfl (Own.UK _ 77 2 #[.string Dz,.slice dA dn dc] 1 _ _ rfl rfl Ar rfl).rd (by simp[Kz]) OH Aa ?_;intro A9 c9 wb9 sG sH aH _));go_roundw
    case rel=>exact⟨k+1,Aa,by go_num,by rw[YA.out],by rw[YA.out];exact iK.app (d:=(⟨Dz,dA,dn,dc⟩,GL)) AV (by first|exact MX.out|exact MX.out.drewN _|exact (MX.out.drewN _).drewN _) HN7.out sG sH aH⟩
    simp[intOf];omega
   |false=>
    have HS2:Hid (Hq x (ds.take (k+1))=(false,L++(if Dz=nm then [] else [(⟨Dz,dA,dn,dc⟩,GL)]))):=AP (by rw[HST.out,hle];simp);clear HST;go_wp2;go_quiet (fail);go_wp2;by_cases hnm:Dz=nm
    ·(have hb:(Dz.toList==nm.toList)=true:=by rw[<- JE];exact decide_eq_true hnm);have Px:=HS2.out;rw[BZ hnm,I9] at Px;have YA:=AP Px;clear hnm Px;go_quiet (fail);go_wp2;go_roundw
     case rel=>exact⟨k+1,Aa,by go_num,by rw[YA.out],by rw[YA.out];exact iK.of (rfl) HO.out (by first|exact HC.out|exact HC.out.drewN _|exact (HC.out.drewN _).drewN _) (by first|exact AZ.refl [] _|exact (AZ.refl [] _).drewN _|exact ((AZ.refl [] _).drewN _).drewN _) HN.out⟩
     simp[intOf];omega
    (have hb:(Dz.toList==nm.toList)=false:=by rw[<- JE];exact decide_eq_false hnm);have Px:=HS2.out;rw[BM hnm] at Px;have YA:=AP Px;clear hnm Px;go_quiet (fail);(go_wp2_with (at_builtin;refine EW rfl _ _ rfl Qi rfl (HO.out.Aj (by first|exact (AZ.refl [] _).alloc _|exact ((AZ.refl [] _).drewN _).alloc _|exact (((AZ.refl [] _).drewN _).drewN _).alloc _) AV) rfl (Own.UK _ 77 2 #[.string Dz,.slice dA dn dc] 1 _ _ rfl rfl Ar rfl).rd (by simp[Kz]) OH Aa ?_;intro A9 c9 wb9 sG sH aH _));go_roundw
    case rel=>exact⟨k+1,Aa,by go_num,by rw[YA.out],by rw[YA.out];exact iK.app (d:=(⟨Dz,dA,dn,dc⟩,GL)) (rfl) (by first|exact HC.out|exact HC.out.drewN _|exact (HC.out.drewN _).drewN _) HN.out sG sH aH⟩
    simp[intOf];omega
 (obtain rfl:k=n:=by omega);have h1:ds.take k=ds:=Ep (by have:=HL.out;omega);rw[h1] at HO hlw;rw[h1];have HWI:Hid (wiM x ds=if (Hq x ds).1=true then (Hq x ds).2 else (Hq x ds).2++[x]):=AP rfl;obtain⟨s0,hs0⟩: ∃s0,Hq x ds=s0:=⟨_,rfl⟩;rw[hs0] at HWI HO hlw;rw[hs0];obtain⟨dnf,L⟩:=s0;clear hs0;simp only at HWI HO hlw
 cases dnf with
 |true=>
  go_wp2;go_ret;rw[HWI.out,BZ trivial];exact⟨_,_,rfl,HO.out,TF.out.Ah HC.out,λy hy=>CY TF.out.size (HN.out y hy)⟩
 |false=>
  (go_wp2_with (at_builtin;refine EW rfl _ _ rfl Qi rfl (HO.out.Aj (by first|exact (AZ.refl [] _).alloc _|exact ((AZ.refl [] _).drewN _).alloc _|exact (((AZ.refl [] _).drewN _).drewN _).alloc _) AV) rfl (Own.UK _ 77 2 #[.string nm,.slice xA xn xc] 1 _ _ rfl rfl Ar rfl).rd (by simp[Kz]) OH Aa ?_;intro A8 c8 wb8 Un O0 Uo _));go_ret;rw[HWI.out,BM AV];have hp:=iK.app (d:=(⟨nm,xA,xn,xc⟩,xfs)) rfl HC.out HN.out Un O0 Uo;rw[<- HX.out] at hp;obtain⟨A7,c7,e7,ho7,Xy,hn7⟩:=hp;exact⟨A7,c7,congrArg Ending.returned e7,ho7,TF.out.Ah Xy,λy hy=>CY TF.out.size (hn7 y hy)⟩
section
variable {x y:FM}{L:List FM}{xs:List AQ}{c g i k n sz:Nat}{e:Am}{w:AL}
theorem AA6(a b:ByteArray)(w:AL):(binOp .lss 9 (.string a) (.string b)).run Ag w=.ok (.bool (Jg a b)) w:=by
 simp[binOp,Op.stringOp,Jg]
theorem Own.APH(h:Own w e sz (AA ⟨g,0,AB⟩) n c xs)(q:Nat)(u:AQ):Own (w.setCell ⟨g,q,AB⟩ u) e sz (AA ⟨g,0,AB⟩) n c (xs.set q u):=by
 rcases h.form with ⟨h0,_⟩|⟨g',cur,hA,hb,hn,hm,hs,ht⟩;(cases h0);injection hA with hA;injection hA with hA;subst hA;refine⟨by rw[kZ];exact h.1,.inr ⟨g,c,_,rfl,Dn _,hb.FX q u,hn,hm,by rw[yR];exact hs,?_⟩⟩;rw[<- ht,yS,yT]
theorem Own.fz(h:Own w e sz (AA ⟨g,0,AB⟩) n c xs)(q:Nat):w.frozen? ⟨g,q,AB⟩=false:=by
 rcases h.form with ⟨h0,_⟩|⟨g',cur,hA,hb,_⟩;(cases h0);injection hA with hA;injection hA with hA;subst hA;exact hb.frozen q
theorem Own.ALg{xs:List Ir}(h:Own w e 2 (AA ⟨g,0,AB⟩) n c (Ho xs)){x y:Ir}(hk:xs[k]? =AA x):
  Own ((w.setCell ⟨g,k*2,AB⟩ (.string y.nm)).setCell ⟨g,k*2+1,AB⟩ (.slice y.A y.n y.c)) e 2 (AA ⟨g,0,AB⟩) n c (Ho (xs.set k y)):=by
 have h1:=(h.APH (k*2) (.string y.nm)).APH (k*2+1) (.slice y.A y.n y.c);have e1:=ACf xs k 0 Ar x ⟨y.nm,x.A,x.n,x.c⟩ (.string y.nm) hk rfl;have e2:=ACf (xs.set k ⟨y.nm,x.A,x.n,x.c⟩) k 1 Ar ⟨y.nm,x.A,x.n,x.c⟩ y (.slice y.A y.n y.c) (lH (CP.1 hk).1) rfl;rw[Nat.add_zero] at e1;rw[e1,e2,List.set_set] at h1;exact h1
theorem Own.ns2{xs:List Ir}(h:Own w e 2 (AA ⟨g,0,AB⟩) n c (Ho xs)){x:Ir}(hk:xs[k]? =AA x):w.cell? ⟨g,k*2,AB⟩=AA (.string x.nm)/\w.cell? ⟨g,k*2+1,AB⟩=AA (.slice x.A x.n x.c):=by
 obtain⟨ad,hA,hc⟩:=h.rd.ns hk;injection hA with hA;subst hA;have h0:=hc.c0;have h1:=hc.c1;simp only[add_zero',Na] at h0 h1;exact⟨h0,h1⟩
def leF (x y:FM):Prop:=Jg y.1.nm x.1.nm=false
theorem AFj{z:FM}(h:leF x y)(k:leF y z):leF x z:=by
 unfold leF at*
 by_cases e:z.1.nm=x.1.nm;rw[e];exact LW _
 cases hz:Jg z.1.nm x.1.nm with
 |false=>rfl|true=>
  exfalso;by_cases e1:y.1.nm=z.1.nm;rw[e1] at h;rw[h] at hz;cases hz;have:=lV (IE e1) k;rw[Pj this hz] at h;cases h
def V3 (L:List FM) (i k:Nat):Prop:=∀(a b:Nat) (x y:FM),a<b->b<=i->b≠k->L[a]? =AA x->L[b]? =AA y->leF x y
def iL (L:List FM) (i:Nat):Prop:=∀(a b:Nat) (x y:FM),a<b->b<i->L[a]? =AA x->L[b]? =AA y->leF x y
theorem iL.ins(h:iL L i):V3 L i i:=λa b x y h1 h2 h3 hx hy=>h a b x y h1 Aa hx hy
theorem V3.AR5(h:V3 L i 0):iL L (i+1):=λa b x y h1 h2 hx hy=>h a b x y h1 Aa Aa hx hy
theorem V3.done(h:V3 L i (k+1))(hx:L[k]? =AA x)(hy:L[k+1]? =AA y)(hle:leF x y):iL L (i+1):=λa b u v h1 h2 hu hv=>by
 by_cases hb:b=k+1
 ·subst hb;rw[hy] at hv;injection hv with hv;subst hv;by_cases ha:a=k
  ·subst ha;rw[hx] at hu;injection hu with hu;subst hu;exact hle
  exact AFj (h a k u x Aa Aa Aa hu hx) hle
 exact h a b u v h1 Aa hb hu hv
theorem AIR(hx:L[k]? =AA x)(hy:L[k+1]? =AA y)(a:Nat):((L.set (k+1) x).set k y)[a]? =if a=k then AA y else if a=k+1 then AA x else L[a]? :=by
 have h1:=(CP.1 hx).1;have h2:=(CP.1 hy).1;by_cases ha:a=k;subst ha;rw[BZ rfl,lH (by rw[kZ];exact h1)];rw[BM ha,lI (λe=>ha e.symm)];by_cases hb:a=k+1;subst hb;rw[BZ rfl,lH h2];rw[BM hb,lI (λe=>hb e.symm)]
theorem V3.step{L:List FM}{i k:Nat}(h:V3 L i (k+1))(hk:k+1<=i){x y:FM}(hx:L[k]? =AA x)(hy:L[k+1]? =AA y)(hlt:Jg y.1.nm x.1.nm=true):V3 ((L.set (k+1) x).set k y) i k:=λa b u v h1 h2 h3 hu hv=>by
 rw[AIR hx hy] at hu hv
 have hyx:leF y x:=by
  unfold leF
  cases hq:Jg x.1.nm y.1.nm with|false=>rfl|true=>have:=Pj hlt hq;rw[LW] at this;cases this
 rw[BM h3] at hv;by_cases hb:b=k+1
 ·rw[BZ hb] at hv;injection hv with hv;subst hv;by_cases ha:a=k
  ·rw[BZ ha] at hu;injection hu with hu;subst hu;exact hyx
  rw[BM ha,BM Aa] at hu;exact h a k u x Aa Aa Aa hu hx
 rw[BM hb] at hv;by_cases ha:a=k
 ·rw[BZ ha] at hu;injection hu with hu;subst hu;exact h (k+1) b y v Aa h2 hb hy hv
 rw[BM ha] at hu;by_cases ha1:a=k+1
 ·rw[BZ ha1] at hu;injection hu with hu;subst hu;exact h k b x v Aa h2 hb hx hv
 rw[BM ha1] at hu;exact h a b u v h1 h2 hb hu hv
theorem swap_perm(hx:L[k]? =AA x)(hy:L[k+1]? =AA y):((L.set (k+1) x).set k y).Perm L:=by
 have h1:=(CP.1 hx).1;have h2:=(CP.1 hy).1;have e1:=(CP.1 hx).2;have e2:=(CP.1 hy).2;rw[<- e1,<- e2];exact List.set_set_perm h2 h1
end
def AR6 (w:AL) (fs:List (ByteArray×List Int)) (e:FT) (w':AL):Prop:=
 ∃A c L,e=.returned (.slice A L.length c)/\ER w' A L.length c L/\(BB L).Perm fs/\iL L L.length/\AZ [] w w'/\∀k∈bo A++Gg L,w.heap.size<=k
theorem AA7(A:Option Af)(n c:Nat)(fs:List FM)(w:AL)(h:ER w A n c fs)(hn:n<=1073741824)(hfn: ∀x∈fs,x.1.n<=1073741824):
  Au Ag 34 #[.slice A n c] w (AR6 w (BB fs)):=by
 (have hl:fs.length=n:=by have:=h.row.MV;simpa[EZ] using this);(have hfl:(BB fs).length=n:=by unfold BB;rw[DY];exact hl);have gu:=AP (X8 A n c fs w h hn hfn);have uk:= @AKK;have hls:=AA6;have HFL:=AP hfl;clear h hl hfl hfn;go_enter ANe,Tryz.ntmps34;(go_wp2_with fail);refine gu.out.mono ?_;rintro e w1 ⟨A3,c3,gs,rfl,hO,hv,hc1,hn1⟩;rw[HFL.out];rw[HFL.out] at hO;have HO:=AP hO;have HV:=AP hv;have CZ:=AP hc1;have vC:=AP hn1;(have hgl:gs.length=n:=by have:=hO.rd.row.MV;simpa[EZ] using this);have HGL:=AP hgl;clear hO hv hc1 hn1 hgl gu;go_wp2;go_loopw [4] (λi wr=>∃(k:Nat) (L:List FM),k<=n/\i=.int .i64 ((k:Int)+1)/\L.Perm gs/\Own wr 64 2 A3 n c3 (Ho (EZ L))/\AZ (bo A3) w1 wr/\iL L (k+1)) (λi _=>n+1 - (intOf i).toNat)
 case atStart=>exact⟨0,gs,Dn _,rfl,.refl _,HO.out.row,.refl _ _,λa b x y h1 h2 _ _=>by omega⟩
 obtain⟨k,L,hk,rfl,hP,ho,hch,hst⟩:=hrel;have HP:=AP hP;have HOW:=AP ho;have DX:=AP hch;have HST:=AP hst;clear hP ho hch hst;by_cases hlt:k+1<n
 ·have hlt':(k:Int)+1<n:=by omega
  obtain⟨g,rfl⟩: ∃g,A3=AA ⟨g,0,AB⟩:=by
   rcases HOW.out.form with ⟨_,h0,_⟩|⟨g,cur,hA,_⟩;omega;exact⟨g,hA⟩
  go_wp2;go_loopw [5] (λq wr=>∃(j:Nat) (L:List FM),j<=k+1/\q=.int .i64 (j:Int)/\L.Perm gs/\Own wr 64 2 (AA ⟨g,0,AB⟩) n c3 (Ho (EZ L))/\AZ [g] w1 wr/\V3 L (k+1) j) (λq _=>(intOf q).toNat)
  case atStart=>exact⟨k+1,L,Bc _,by go_num,HP.out,HOW.out,DX.out,HST.out.ins⟩
  obtain⟨j,L2,hj,rfl,hP2,ho2,Xx,hst2⟩:=hrel;have HP2:=AP hP2;have HO2:=AP ho2;have PI:=AP Xx;have ADQ:=AP hst2;(have hl2:L2.length=n:=by rw[hP2.length_eq];exact HGL.out);clear hP2 ho2 Xx hst2
  cases j with
  |zero=>
   (have hz:decide (((0:Nat):Int)>0)=false:=by decide);go_wp2;go_quiet (fail);go_wp2;go_roundw
   case rel=>exact⟨k+1,L2,Aa,by go_num,HP2.out,HO2.out.Aj ((AZ.refl [] wr).drewN _) AV,PI.out.Ah ((AZ.refl [] wr).drewN _),ADQ.out.AR5⟩
   simp[intOf];omega
  |succ j=>
   obtain⟨x,hx⟩: ∃x,L2[j]? =AA x:=⟨_,CB Aa⟩;obtain⟨y,hy⟩: ∃y,L2[j+1]? =AA y:=⟨_,CB Aa⟩;(have uX:(EZ L2)[j]? =AA x.1:=by unfold EZ;rw[Bg,hx];rfl);(have hyn:(EZ L2)[j+1]? =AA y.1:=by unfold EZ;rw[Bg,hy];rfl);obtain⟨x0,x1⟩:=HO2.out.ns2 uX;obtain⟨y0,y1⟩:=HO2.out.ns2 hyn;have HX:=AP hx;have HY:=AP hy;have HXN:=AP uX;have HYN:=AP hyn;(have hz:decide (((j+1:Nat):Int)>0)=true:=by simp);clear hx hy uX hyn
   cases hle:Jg y.1.nm x.1.nm with
   |false=>
    have HLE:=AP hle;unfold Jg at hle;go_wp2;go_quiet (fail);go_wp2;go_roundw
    case rel=>exact⟨k+1,L2,Aa,by go_num,HP2.out,HO2.out.Aj ((AZ.refl [] wr).drewN _) AV,PI.out.Ah ((AZ.refl [] wr).drewN _),ADQ.out.done HX.out HY.out HLE.out⟩
    simp[intOf];omega
   |true=>
    have HLE:=AP hle;unfold Jg at hle;go_wp2;go_quiet (fail);rename_i nq;have hcq:AZ [] wr (wr.drewN nq):=(AZ.refl [] wr).drewN nq;have hoq:=HO2.out.Aj hcq AV
    generalize wr.drewN nq=wq at*
    obtain⟨W1,hW1⟩: ∃W1,wq.alloc (.cells #[.string y.1.nm,.slice y.1.A y.1.n y.1.c] 64)=W1:=⟨_,rfl⟩;(have hc1:AZ [] wq W1:=by rw[<- hW1];exact (AZ.refl [] wq).alloc _);(have hbx:Bl W1 wq.heap.size 64 #[.string y.1.nm,.slice y.1.A y.1.n y.1.c]:=by rw[<- hW1];exact .new _ _ _);have ho1:=hoq.Aj hc1 AV;obtain⟨W3,hW3⟩: ∃W3,(W1.setCell ⟨g,(j+1)*2,AB⟩ (.string x.1.nm)).setCell ⟨g,(j+1)*2+1,AB⟩ (.slice x.1.A x.1.n x.1.c)=W3:=⟨_,rfl⟩;have ho3:=ho1.ALg (y:=x.1) HYN.out;rw[hW3] at ho3;(have hgx:g≠wq.heap.size:=by have:=hoq.lt g AV;omega);(have hc3:AZ [g] W1 W3:=by rw[<- hW3];exact (((AZ.refl [g] W1).setCell (.inl AV) _).setCell (.inl AV) _));have ALh:=hbx.Aj hc3 (by simp;omega);obtain⟨xx0,xx1⟩:=hoq.ns2 HXN.out;obtain⟨yy0,yy1⟩:=hoq.ns2 HYN.out;obtain⟨xw0,xw1⟩:=ho1.ns2 HXN.out;obtain⟨yw0,yw1⟩:=ho1.ns2 HYN.out;have f0:=ho1.fz ((j+1)*2);have f1:=ho1.fz ((j+1)*2+1);(have ALi:((EZ L2).set (j+1) x.1)[j]? =AA x.1:=by rw[lI Aa];exact HXN.out);obtain⟨xv0,xv1⟩:=ho3.ns2 ALi;have g0:=ho3.fz (j*2);have g1:=ho3.fz (j*2+1);have b0:=ALh.cell 0;have b1:=ALh.cell 1;simp only[GG] at b0 b1;have ho5:=ho3.ALg (y:=y.1) ALi;have hc5:AZ [g] W3 ((W3.setCell ⟨g,j*2,AB⟩ (.string y.1.nm)).setCell ⟨g,j*2+1,AB⟩ (.slice y.1.A y.1.n y.1.c)):=((AZ.refl [g] W3).setCell (.inl AV) _).setCell (.inl AV) _;have HO5:=AP ho5;have MW:=AP (((PI.out.Ah (hcq.Ah hc1)).trans hc3 (λx hx=>.inl hx)).trans hc5 (λx hx=>.inl hx));clear hcq hoq hc1 hbx ho1 ho3 hc3 ALh ALi ho5 hc5 x0 x1 y0 y1;go_wp2;go_roundw
    case rel=>
     refine⟨j,(L2.set (j+1) x).set j y,Aa,by go_num,(swap_perm HX.out HY.out).trans HP2.out,?_,MW.out,ADQ.out.step hj HX.out HY.out HLE.out⟩;(have:EZ ((L2.set (j+1) x).set j y)=((EZ L2).set (j+1) x.1).set j y.1:=by unfold EZ;rw[VO,VO]);rw[this];exact HO5.out
    simp[intOf]
 go_wp2;go_ret;(have hln:L.length=n:=by rw[HP.out.length_eq];exact HGL.out);refine⟨A3,c3,L,by rw[hln];rfl,?_,?_,λa b x y h1 h2=>HST.out a b x y h1 Aa,?_,?_⟩
 ·rw[hln];refine⟨HOW.out.rd,λf hf=>?_⟩;have hf':=HP.out.mem_iff.1 hf;exact ((HO.out.dat f hf').Aj DX.out ((HO.out.dat f hf').own_ne HO.out.row Ar)).rd
 rw[<- HV.out];exact HP.out.map _;exact CZ.out.trans DX.out (λx hx=>.inr (vC.out x (Bd.2 (.inl hx))));intro x hx;refine vC.out x ?_;rcases Bd.1 hx with h|h;exact Bd.2 (.inl h);obtain⟨f,hf,hx⟩:=Es.1 h;exact Bd.2 (.inr (Es.2 ⟨f,HP.out.mem_iff.1 hf,hx⟩))
def Inn (w:AL) (L:List Nat) (vs:List AQ) (ws:List (List Int)):Prop:=
 vs.length=ws.length/\∀(i:Nat) (x:List Int),ws[i]? =AA x->∃A c,vs[i]? =AA (.slice A x.length c)/\Own w 5 1 A x.length c (bv x)/\∀k∈bo A,k∈L
theorem Inn.Aj{w w':AL}{L M:List Nat}{vs:List AQ}{ws:List (List Int)}(h:Inn w L vs ws)(hc:AZ M w w')(hn: ∀k∈L,k∈M->∃t cs,Bl w k t cs/\t≠5):Inn w' L vs ws:=
 ⟨h.1,λi x hx=>by
  obtain⟨A,c,h1,h2,h3⟩:=h.2 i x hx;refine⟨A,c,h1,h2.Aj hc (λk hk hm=>?_),h3⟩;obtain⟨t,cs,hb,ht⟩:=hn k (h3 k hk) hm
  exact h2.GV hb ht k hk rfl⟩
def Rsp (w:AL) (g:Nat) (L:List Nat) (base:List Int) (ws:List (List Int)):Prop:=
 ∃A n c W m d vs,Bl w g 149 #[.slice A n c,.slice W m d]/\Own w 5 1 A n c (bv base)/\Own w 62 1 W m d vs/\Inn w L vs ws/\
  g∈L/\(∀k∈bo A,k∈L)/\(∀k∈bo W,k∈L)/\(∀k∈L,k<w.heap.size)/\n=base.length/\m=ws.length
theorem Rsp.lt{w:AL}{g:Nat}{L:List Nat}{base:List Int}{ws:List (List Int)}(h:Rsp w g L base ws): ∀k∈L,k<w.heap.size:=by
 obtain⟨A,n,c,W,m,d,vs,hb,h1,h2,h3,h4,h5,h6,h7,_⟩:=h;exact h7
theorem Rsp.Aj{w w':AL}{g:Nat}{L M:List Nat}{base:List Int}{ws:List (List Int)}(h:Rsp w g L base ws)(hc:AZ M w w')(hn: ∀k∈L,k∉M):Rsp w' g L base ws:=by
 obtain⟨A,n,c,W,m,d,vs,hb,h1,h2,h3,h4,h5,h6,h7,h8⟩:=h;exact⟨A,n,c,W,m,d,vs,hb.Aj hc (hn g h4),h1.Aj hc (λk hk=>hn k (h5 k hk)),h2.Aj hc (λk hk=>hn k (h6 k hk)),h3.Aj hc (λk hk hm=>Ak hm (hn k hk)),h4,h5,h6,λk hk=>EY (h7 k hk) hc.size,h8⟩
def AM4 (w:AL) (zs:List Int) (e:FT) (w':AL):Prop:=
 ∃g L,e=.returned (.pointer (AA ⟨g,0,AB⟩))/\Rsp w' g L zs []/\AZ [] w w'/\∀k∈L,w.heap.size<=k
theorem x8(A:Option Af)(n c:Nat)(zs:List Int)(w:AL)(hn:n<=1073741824)(hrd:Rd w 1 A n c (bv zs)):
  Au Ag 31 #[.slice A n c] w (AM4 w zs):=by
 (have hl:zs.length=n:=by have:=hrd.1;simp at this;omega);have HL:=AP hl;clear hl;have k53:= @AOQ;go_enter ANb,Tryz.ntmps31;(go_wp2_with (go_at_call 53;refine (wY A n c zs _ hn hrd).mono ?_;rintro e w1 ⟨A1,c1,rfl,hown,EX,hnew⟩));go_ret;have hsz:=EX.size;refine⟨w1.heap.size,w1.heap.size::bo A1,rfl,⟨A1,n,c1,AB,0,0,[],Bl.new w1 149 _,hown.Aj ((AZ.refl [] w1).alloc _) AV,Own.nil _ _ _,⟨rfl,λi x hx=>by simp at hx⟩,AV,λk hk=>by simp[hk],AV,?_,HL.out.symm,rfl⟩,EX.alloc _,?_⟩
 ·intro k hk;simp at hk⊢;rcases hk with rfl|hk;omega;have:=hown.lt k hk;omega
 intro k hk;simp at hk;rcases hk with rfl|hk;omega;exact hnew k hk
section
variable {c n:Nat}{A:Option Af}{w:AL}
def pv8 (x:Nat):AQ:=.pointer (AA ⟨x,0,AB⟩)
def nmc (q:ByteArray×Nat):List AQ:=[.string q.1,.int .i64 (q.2:Nat)]
def YB (xs:Jv):List AQ:=xs.flatMap nmc
theorem ADc(xs:Jv):(YB xs).length=xs.length*2:=by
 induction xs with|nil=>rfl|cons x r ih=>simp only[YB,Tm,Gz,EU] at ih⊢;rw[ih];simp[nmc];omega
theorem ADd(a b:Jv):YB (a++b)=YB a++YB b:=by simp[YB]
theorem ADe(xs:Jv): ∀u∈YB xs,u.oneCell'=true:=by
 intro u hu;obtain⟨x,_,h⟩:=Es.1 hu;simp only[nmc,BD,lF,or_false] at h;rcases h with rfl|rfl<;>rfl
theorem Rd.nml{xs:Jv}(h:Rd w 2 A n c (YB xs)):xs.length=n:=by have:=h.1;rw[ADc] at this;omega
abbrev RF:=Ir×Jv
def Wh (rs:List RF):List Ir:=rs.map (·.1)
def O1 (rs:List RF):Tr:=rs.map λr=>(r.1.nm,r.2)
def H8 (rs:List RF):List Nat:=rs.flatMap λr=>bo r.1.A
structure Q4 (w:AL) (A:Option Af) (n c:Nat) (rs:List RF):Prop where
 row:Rd w 2 A n c (Ho (Wh rs))
 Eb: ∀r∈rs,Rd w 2 r.1.A r.1.n r.1.c (YB r.2)
theorem Q4.Aj{w w':AL}{A:Option Af}{n c:Nat}{rs:List RF}{L:List Nat}(h:Q4 w A n c rs)(hc:AZ L w w')(hn: ∀k∈bo A++H8 rs,k∉L):Q4 w' A n c rs:=
 ⟨h.row.Aj hc (λk hk=>hn k (F7 _ hk)),λr hr=>(h.Eb r hr).Aj hc (λk hk=>hn k (Hg _ (Es.2 ⟨r,hr,hk⟩)))⟩
theorem Q4.len{rs:List RF}(h:Q4 w A n c rs):rs.length=n:=by have:=h.row.MV;simpa[Wh] using this
theorem ALj{rs:List RF}{i:Nat}{r:RF}(h:rs[i]? =AA r):(Wh rs)[i]? =AA r.1:=by unfold Wh;rw[Bg,h];rfl
theorem x9:Ety Ag 78 86 2 40 (.agg #[.string MM,.slice AB 0 0]):=.mk' ATl Aq rfl Ar
theorem sJ:Ety Ag 84 88 2 24 (.agg #[.string MM,.int .i64 0]):=.mk' ATo Aq rfl Ar
theorem ADf:Ety Ag 80 89 1 8 (.pointer AB):=.mk' ATm Aq rfl Ar
def chc:EF->List AQ
 | .Cc d=>[.int .i64 1,.string d,.string noS,.string noS,.int .i64 0]| .create d n i=>[.int .i64 2,.string d,.string n,.string noS,.int .i64 (i:Nat)]| .rename a b=>[.int .i64 3,.string a,.string noS,.string b,.int .i64 0]| .remove d n=>[.int .i64 4,.string d,.string n,.string noS,.int .i64 0]| .rmdir d=>[.int .i64 5,.string d,.string noS,.string noS,.int .i64 0]
def chv (cs:List EF):List AQ:=cs.flatMap chc
structure RfG where
 b:Nat
 sA:Option Af
 sc:Nat
 rs:List RF
 pA:Option Af
 pc:Nat
 ps:List RF
 cA:Option Af
 cc:Nat
 fA:Option Af
 fc:Nat
 wA:Option Af
 wc:Nat
 K:List Nat
 sg:List Nat
 Ls:List (List Nat)
def RfG.parts (R:RfG):List (List Nat):=[R.b]::bo R.cA::bo R.fA::bo R.wA::R.K::R.Ls
def RfG.all (R:RfG):List Nat:=R.parts.flatten
structure RfM (w:AL) (R:RfG) (S:St):Prop where
 blk:Bl w R.b 83 #[.slice R.sA S.seen.length R.sc,.slice R.pA S.safe.length R.pc,.slice R.cA S.ED.length R.cc,.slice R.fA S.files.length R.fc,.slice R.wA S.wr.length R.wc,.int .i64 S.BG,.int .i64 S.stop,.int .i64 (S.steps:Int)]
 seen:Q4 w R.sA S.seen.length R.sc R.rs
 AUs:O1 R.rs=S.seen
 AUt: ∀k∈bo R.sA++H8 R.rs,k∈R.K
 safe:Q4 w R.pA S.safe.length R.pc R.ps
 AUu:O1 R.ps=S.safe
 AUv: ∀k∈bo R.pA++H8 R.ps,k∈R.K
 Aj:Own w 275 5 R.cA S.ED.length R.cc (chv S.ED)
 Eb:Own w 89 1 R.fA S.files.length R.fc (R.sg.map pv8)
 gq:Own w 3 1 R.wA S.wr.length R.wc (S.wr.map λi=>.int .i64 (i:Nat))
 Rk:R.Ls.length=S.files.length
 dL: ∀(i g:Nat) (L:List Nat) (f:Ee),R.sg[i]? =AA g->R.Ls[i]? =AA L->S.files[i]? =AA f->Rsp w g L f.1 f.2
 lay:Lay w R.parts
def AR7 (w:AL) (T:Tr) (n:Nat) (e:FT) (w':AL):Prop:=
 ∃A c rs,e=.returned (.slice A n c)/\Q4 w' A n c rs/\O1 rs=T/\AZ [] w w'/\∀k∈bo A++H8 rs,w.heap.size<=k/\k<w'.heap.size
theorem sK(rs:List RF)(r:RF):O1 (rs++[r])=O1 rs++[(r.1.nm,r.2)]:=by simp[O1]
theorem Nw(rs:List RF)(r:RF):H8 (rs++[r])=H8 rs++bo r.1.A:=by simp[H8]
theorem sN(rs:List RF)(r:RF):Wh (rs++[r])=Wh rs++[r.1]:=by simp[Wh]
theorem AA8(A:Option Af)(n c:Nat)(rs:List RF)(w:AL)(ha:Q4 w A n c rs)(hn:n<=1073741824)(hfn: ∀r∈rs,r.1.n<=1073741824):
  Au Ag 32 #[.slice A n c] w (AR7 w (O1 rs) n):=by
 have hlx:=ha.len;have HA:=AP ha;have Uj:=AP hlx;have Z5:=AP hfn;clear ha hlx hfn;go_enter ANc,Tryz.ntmps32;go_wp2;go_loopw [3,4] (λo q wr=>∃(i:Nat) (A':Option Af) (c':Nat) (zs:List RF),i<=n/\q=.int .i64 i/\o=.slice A' i c'/\Own wr 86 2 A' i c' (Ho (Wh zs))/\(∀z∈zs,Own wr 88 2 z.1.A z.1.n z.1.c (YB z.2))/\O1 zs=O1 (rs.take i)/\AZ [] w wr/\∀k∈bo A'++H8 zs,w.heap.size<=k) (λ_ q _=>n - (intOf q).toNat)
 case atStart=>exact⟨0,_,0,[],Dn _,rfl,rfl,Own.lit w 86 2 #[] 0 Ar rfl,AV,rfl,(AZ.refl _ _).alloc _,by simp[H8]⟩
 obtain⟨i,A',c',zs,hi,rfl,rfl,hz,hzf,hval,hch,hnw⟩:=hrel;have HZ:=AP hz;have HZF:=AP hzf;have Xu:=AP hval;have DX:=AP hch;have OJ:=AP hnw;clear hz hzf hval hch hnw;by_cases hlt:i<n
 ·(have hlt':(i:Int)<n:=by omega);obtain⟨x,hx⟩: ∃x,rs[i]? =AA x:=⟨_,CB (by have:=Uj.out;omega)⟩;obtain⟨ad,rfl,hat⟩:=HA.out.row.ns (ALj hx)
  have rH:Hid (ad.block∉bo A'):=AP (λhm=>by
   have h1:=UU w _ hat.c0;rw[add_block] at h1;have h2:=OJ.out _ (F7 _ hm)
   omega)
  have X9:=hat.Aj DX.out BH;have x0:=X9.c0;have x1:=X9.c1;have HX:=AP hx;have HF:=AP ((HA.out.Eb x (Bq hx)).Aj DX.out Ew);have uX:=Z5.out x (Bq hx);clear hx hat X9;go_wp2;refine FU (S:=λw'=>AZ (bo A') wr w') Aq ((AZ.refl _ _).drew) (λhHeld=>?_);refine tk 0 ?_;refine tk 1 ?_;refine tk 2 ?_;refine tk 3 ?_;refine tk 4 ?_;refine Gh 5 (λw' hSw=>hSw.cell x0 (λh=>rH.out (by simpa[add_block] using h))) ?_;refine tk 7 ?_;refine tk 8 ?_;refine tk 9 ?_;refine tk 10 ?_;refine Gh 11 (λw' hSw=>hSw.cell x1 (λh=>rH.out (by simpa[add_block] using h))) ?_;refine Em 6 λK hK=>?_;go_simp;refine hK.out _ _ (hHeld.alloc _) (λhHeld=>?_);(try simp only[BJ,Bh]);clear hK K;refine Em 12 λK hK=>?_;refine Jb rfl _ _ rfl sJ rfl (Own.lit wr.drew 88 2 #[] 0 Ar rfl) rfl (HF.out.Aj (((AZ.refl [] wr).drew).alloc (.cells #[] 88)) Ew) (ADe _) OH Aa ?_;intro B2 d2 w5 hown5 qW qX _;have HO5:Hid (Own w5 88 2 B2 x.1.n d2 (YB x.2)):=AP (by simpa using hown5);have MW:Hid (AZ [] wr w5):=AP (((((AZ.refl [] wr).drew).alloc (.cells #[] 88))).trans qW (λx hx=>by simp at hx;subst hx;right;simp));have HN5:Hid (∀k∈bo B2,wr.heap.size<=k):=AP (λk hk=>by rcases qX k hk with h|h;simp at h;omega;have:=h.1;simp at this;omega);have hH5:=(AZ.refl (bo A') wr).trans (MW.out.nil (bo A')) (λx hx=>.inl hx);have HOW:Hid (Own (w5.alloc (.cells #[.string x.1.nm,.slice B2 x.1.n d2] 86)) 86 2 A' i c' (Ho (Wh zs))):=AP (HZ.out.Aj (MW.out.alloc _) Ew);clear hown5 qW qX;refine hK.out _ _ (hH5) (λhHeld=>?_);(try simp only[BJ,Bh]);clear hK K;refine tk 13 ?_;refine Em 14 λK hK=>?_;go_simp;refine hK.out _ _ (hHeld.alloc _) (λhHeld=>?_);(try simp only[BJ,Bh]);clear hK K;refine Em 15 λK hK=>?_;refine Jb rfl _ _ rfl x9 rfl HOW.out rfl (Own.lit w5 86 2 #[.string x.1.nm,.slice B2 x.1.n d2] 1 Ar rfl).rd (VC [⟨x.1.nm,B2,x.1.n,d2⟩]) OH Aa ?_;intro A2 c2 w6 hown6 IP LZ _;have qh:=AP hown6;have Jh:=AP IP;have Xv:=AP LZ;have hH6:=hHeld.trans IP (λx hx=>.inl hx);clear hown6 IP LZ;refine hK.out _ _ (hH6) (λhHeld=>?_);(try simp only[BJ,Bh]);clear hK K;refine tk 16 ?_;refine Eu Aq ?_ _;(try simp only[BJ,Bh]);clear hHeld hH5 hH6 x0 x1;go_wp2;go_roundw
  case rel=>
   have hzl: ∀z∈zs,∀k∈bo z.1.A,k<wr.heap.size:=λz hz k hk=>(HZF.out z hz).lt k hk;have hcl:AZ [] wr (w5.alloc (.cells #[.string x.1.nm,.slice B2 x.1.n d2] 86)):=MW.out.alloc _;have hAl:=HZ.out.lt;refine⟨i+1,A2,c2,zs++[(⟨x.1.nm,B2,x.1.n,d2⟩,x.2)],Aa,by go_num,rfl,?_,λz hz=>?_,?_,(DX.out.Ah hcl).trans Jh.out (λx hx=>.inr (OJ.out x (F7 _ hx))),λk hk=>?_⟩
   ·have:=qh.out;rw[sN,OB];exact this
   ·rcases Bd.1 hz with hz|hz;exact ((HZF.out z hz).Aj hcl Ew).Aj Jh.out ((HZF.out z hz).own_ne HZ.out Ar);simp only[CJ] at hz;subst hz;exact (HO5.out.Aj ((AZ.refl [] w5).alloc _) Ew).Aj Jh.out (λk hk hm=>by have h1:=HN5.out k hk;have h2:=hAl k hm;omega)
   ·rw[sK,Xu.out];unfold O1;rw[OU,OU,take_snoc _ i _ (show (rs.map _)[i]? =AA _ by rw[Bg,HX.out];rfl)]
   rw[Nw] at hk;have h3:=DX.out.size;rcases Bd.1 hk with hk|hk
   ·rcases Xv.out k hk with h|h;exact OJ.out k (F7 _ h);have h4:=MW.out.size;simp at h;omega
   rcases Bd.1 hk with hk|hk;exact OJ.out k (Hg _ hk);have:=HN5.out k hk;omega
  simp[intOf];omega
 (obtain rfl:i=n:=by omega);go_wp2;go_ret
 refine⟨A',c',zs,rfl,⟨HZ.out.rd,λz hz=>(HZF.out z hz).rd⟩,?_,DX.out,λk hk=>⟨OJ.out k hk,by
  rcases Bd.1 hk with hk|hk;exact HZ.out.lt k hk;obtain⟨z,hz,hk⟩:=Es.1 hk
  exact (HZF.out z hz).lt k hk⟩⟩
 rw[Xu.out,Ep (by rw[Uj.out];exact Bc _)]
end
section
variable {a q:Int}{Ls:List (List Nat)}{fs:List Ee}{sg:List Nat}{rs:List RF}{b fc sc:Nat}{fA:Option Af}{w w2:AL}
def AA9 (w:AL) (D:FI) (BG stop:Int) (e:FT) (w':AL):Prop:=
 (Di D BG≠0/\e=.returned (.tuple #[.pointer AB,.int .i64 (Di D BG)])/\AZ [] w w')\/
 (Di D BG=0/\∃R,e=.returned (.tuple #[.pointer (AA ⟨R.b,0,AB⟩),.int .i64 0])/\RfM w' R (Ei D BG stop)/\(∀x∈R.all,w.heap.size<=x)/\AZ [] w w')
structure Tc (w:AL) (b:Nat) (sA:Option Af) (sc:Nat) (rs:List RF) (fA:Option Af) (fc:Nat) (sg:List Nat) (Ls:List (List Nat)) (fs:List Ee) (q a:Int):Prop where
 blk:Bl w b 83 #[.slice sA rs.length sc,.slice AB 0 0,.slice AB 0 0,.slice fA fs.length fc,.slice AB 0 0,.int .i64 q,.int .i64 a,.int .i64 0]
 row:Own w 86 2 sA rs.length sc (Ho (Wh rs))
 Eb: ∀r∈rs,Own w 88 2 r.1.A r.1.n r.1.c (YB r.2)
 KH:Own w 89 1 fA fs.length fc (sg.map pv8)
 Rk:Ls.length=fs.length
 dL: ∀(i g:Nat) (L:List Nat) (f:Ee),sg[i]? =AA g->Ls[i]? =AA L->fs[i]? =AA f->Rsp w g L f.1 f.2
 lay:Lay w ([b]::bo sA::bo fA::H8 rs::Ls)
theorem Tc.CX{w':AL}{sA:Option Af}(h:Tc w b sA sc rs fA fc sg Ls fs q a)(hc:AZ [] w w'):Tc w' b sA sc rs fA fc sg Ls fs q a:=
 ⟨h.blk.Aj hc BH,h.row.Aj hc Ew,λr hr=>(h.Eb r hr).Aj hc Ew,h.KH.Aj hc Ew,h.Rk,λi g L f e1 e2 e3=>(h.dL i g L f e1 e2 e3).Aj hc Ew,h.lay.mono hc.size⟩
theorem Tc.Wp{sA:Option Af}(h:Tc w b sA sc rs fA fc sg Ls fs q a):sg.length=fs.length:=by have:=h.KH.1;simp at this;omega
theorem Tc.file{w1:AL}{sA:Option Af}(h:Tc w b sA sc rs fA fc sg Ls fs q a)
  (hc1:AZ [] w w1) {g:Nat} {L:List Nat} {f:List Int} (hL: ∀k∈L,w.heap.size<=k) (hs:Rsp w1 g L f []) {fA':Option Af} {fc':Nat} (hc2:AZ (b::bo fA) w1 w2)
  (hb:Bl w2 b 83 #[.slice sA rs.length sc,.slice AB 0 0,.slice AB 0 0,.slice fA' (fs.length+1) fc',.slice AB 0 0,.int .i64 q,.int .i64 a,.int .i64 0])
  (ho:Own w2 89 1 fA' (fs.length+1) fc' ((sg++[g]).map pv8)) (hA: ∀x∈bo fA',x∈bo fA\/w1.heap.size<=x):Tc w2 b sA sc rs fA' fc' (sg++[g]) (Ls++[L]) (fs++[(f,[])]) q a:=by
 have h1:=h.CX hc1;have hl1:=h.lay.snoc (w':=w1) hL (hs.lt) hc1.size
 have hLL: ∀x∈b::bo fA,∃j P,j∈[0,2]/\([b]::bo sA::bo fA::H8 rs::(Ls++[L]))[j]? =AA P/\x∈P:=λx hx=>by
  rcases BD.1 hx with rfl|hx;exact⟨0,_,AV,rfl,AV⟩;exact⟨2,_,AV,rfl,hx⟩
 have hk:=λ(i:Nat) (P:List Nat) (hi:([b]::bo sA::bo fA::H8 rs::(Ls++[L]))[i]? =AA P) (hne:i∉[0,2])=>Lay.others (w:=w1) hl1 hLL hi hne;refine⟨by simpa using hb,h1.row.Aj hc2 (hk 1 _ rfl AV),λr hr=>(h1.Eb r hr).Aj hc2 (λk kR=>hk 3 _ rfl AV k (Es.2 ⟨r,hr,kR⟩)),by simpa using ho,by simp[h.Rk],λi g' L' f' e1 e2 e3=>?_,?_⟩
 ·have l1:=h.Wp;have l2:=h.Rk;by_cases hi:i<fs.length
  ·rw[Nb Aa] at e1 e2 e3;exact (h1.dL i g' L' f' e1 e2 e3).Aj hc2 (hk (i+4) L' (by simpa using (Nb Aa:(Ls++[L])[i]? =Ls[i]?).trans e2) AV)
  have hie:i=fs.length:=by
   have:=(CP.1 e3).1;simp at this;omega
  subst hie;rw[Gy Aa,l1,Jn] at e1;rw[Gy Aa,l2,Jn] at e2;rw[Gy Aa,Jn] at e3;simp at e1 e2 e3;subst e1;subst e2;subst e3;exact hs.Aj hc2 (hk (fs.length+4) L (by simp[<- l2]) AV)
 have:=hl1.FX (w':=w2) (i:=2) (P:=bo fA) (P':=bo fA') rfl hA ho.lt hc2.size;exact this
theorem Tc.dir{sA:Option Af}(h:Tc w b sA sc rs fA fc sg Ls fs q a)
  {r:RF} {w0:AL} (hl0:Lay w0 ([b]::bo sA::H8 rs::[])) (hr0: ∀k∈bo r.1.A,w0.heap.size<=k) (hro:Own w 88 2 r.1.A r.1.n r.1.c (YB r.2)) (hrl: ∀k∈bo r.1.A,∀P∈bo fA::Ls,k∉P) {sA':Option Af} {sc':Nat} (hc2:AZ (b::bo sA) w w2)
  (hb:Bl w2 b 83 #[.slice sA' (rs.length+1) sc',.slice AB 0 0,.slice AB 0 0,.slice fA fs.length fc,.slice AB 0 0,.int .i64 q,.int .i64 a,.int .i64 0])
  (ho:Own w2 86 2 sA' (rs.length+1) sc' (Ho (Wh (rs++[r])))) (hA: ∀x∈bo sA',x∈bo sA\/w.heap.size<=x):Tc w2 b sA' sc' (rs++[r]) fA fc sg Ls fs q a:=by
 have hLL: ∀x∈b::bo sA,∃j P,j∈[0,1]/\([b]::bo sA::bo fA::H8 rs::Ls)[j]? =AA P/\x∈P:=λx hx=>by
  rcases BD.1 hx with rfl|hx;exact⟨0,_,AV,rfl,AV⟩;exact⟨1,_,AV,rfl,hx⟩
 have hk:=λ(i:Nat) (P:List Nat) (hi:([b]::bo sA::bo fA::H8 rs::Ls)[i]? =AA P) (hne:i∉[0,1])=>Lay.others (w:=w) h.lay hLL hi hne
 have hrn: ∀k∈bo r.1.A,k∉b::bo sA:=λk hkr hm=>by
  have h1:=hr0 k hkr;rcases BD.1 hm with rfl|hm;have:=hl0.lt [k] AV k AV;omega;have:=hl0.lt (bo sA) AV k hm;omega
 refine⟨by simpa using hb,by simpa using ho,λx hx=>?_,h.KH.Aj hc2 (hk 2 _ rfl AV),h.Rk,λi g' L' f' e1 e2 e3=>(h.dL i g' L' f' e1 e2 e3).Aj hc2 (hk (i+4) L' (by simpa using e2) AV),?_⟩
 ·rcases Bd.1 hx with hx|hx;exact (h.Eb x hx).Aj hc2 (λk kR=>hk 3 _ rfl AV k (Es.2 ⟨x,hx,kR⟩));simp only[CJ] at hx;subst hx;exact hro.Aj hc2 hrn
 have h3:Lay w ([b]::bo sA::bo fA::H8 (rs++[r])::Ls):=by
  have hs:=h.lay.sep;simp only[Sep,KL] at hs;obtain⟨s0,s1,s2,s3,s4⟩:=hs;have hb0:=hl0.lt;refine⟨?_,λP hP x hx=>?_⟩
  ·simp only[Sep,KL];refine⟨λP hP x hx hm=>?_,λP hP x hx hm=>?_,λP hP x hx hm=>?_,λP hP x hx hm=>?_,s4⟩
   ·simp only[BD] at hP;rcases hP with rfl|rfl|rfl|hP;exact s0 _ AV x hx hm;exact s0 _ AV x hx hm
    ·rw[Nw] at hm;rcases Bd.1 hm with hm|hm;exact s0 _ AV x hx hm;have h1:=hr0 x hm;have:=hb0 [b] AV x hx;omega
    exact s0 P (by simp[hP]) x hx hm
   ·simp only[BD] at hP;rcases hP with rfl|rfl|hP;exact s1 _ AV x hx hm
    ·rw[Nw] at hm;rcases Bd.1 hm with hm|hm;exact s1 _ AV x hx hm;have h1:=hr0 x hm;have:=hb0 (bo sA) AV x hx;omega
    exact s1 P (by simp[hP]) x hx hm
   ·simp only[BD] at hP;rcases hP with rfl|hP
    ·rw[Nw] at hm;rcases Bd.1 hm with hm|hm;exact s2 _ AV x hx hm;exact hrl x hm _ AV hx
    exact s2 P (by simp[hP]) x hx hm
   rw[Nw] at hx;rcases Bd.1 hx with hx|hx;exact s3 P hP x hx hm;exact hrl x hx P (by simp[hP]) hm
  simp only[BD] at hP;rcases hP with rfl|rfl|rfl|rfl|hP;exact h.lay.lt _ AV x hx;exact h.lay.lt _ AV x hx;exact h.lay.lt _ AV x hx
  ·rw[Nw] at hx;rcases Bd.1 hx with hx|hx;exact h.lay.lt (H8 rs) AV x hx;exact hro.lt x hx
  exact h.lay.lt P (by simp[hP]) x hx
 have:=h3.FX (w':=w2) (i:=1) (P:=bo sA) (P':=bo sA') rfl hA ho.lt hc2.size;exact this
theorem Lay.sub{Ps Qs:List (List Nat)}(h:Lay w Ps)(hs:Qs.Sublist Ps):Lay w Qs:=⟨AFu hs h.sep,λP hP=>h.lt P (hs.subset hP)⟩
theorem Tc.done{w3 w4:AL}{sA:Option Af}(h:Tc w b sA sc rs fA fc sg Ls fs q a)
  (hc:AZ [] w w3) {pA:Option Af} {pc n:Nat} {ps:List RF} (hrn:rs.length=n) (hT:Q4 w3 pA n pc ps) (hpv:O1 ps=O1 rs) (hnew: ∀k∈bo pA++H8 ps,w.heap.size<=k/\k<w3.heap.size) (hc4:AZ [b] w3 w4)
  (hb:Bl w4 b 83 #[.slice sA n sc,.slice pA n pc,.slice AB 0 0,.slice fA fs.length fc,.slice AB 0 0,.int .i64 q,.int .i64 a,.int .i64 0]):
  RfM w4 ⟨b,sA,sc,rs,pA,pc,ps,AB,0,fA,fc,AB,0,bo sA++H8 rs++(bo pA++H8 ps),sg,Ls⟩ ⟨O1 rs,O1 rs,[],fs,[],q,a,0⟩:=by
 have hl:=h.lay;have h3:=h.CX hc;(have hln:(O1 rs).length=n:=by simp[O1,hrn]);have hbl:=h.blk.lt;have hnb: ∀(i:Nat) (P:List Nat),([b]::bo sA::bo fA::H8 rs::Ls)[i+1]? =AA P->∀x∈P,x∉[b]:=λi P hi x hx hm=>hl.ne (i:=0) (j:=i+1) rfl hi Aa x hm hx;have hsn:Q4 w4 sA n sc rs:=⟨by have:=(h3.row.Aj hc4 (hnb 0 _ rfl)).rd;rw[hrn] at this;exact this,λr hr=>((h3.Eb r hr).Aj hc4 (λk hk=>hnb 2 _ rfl k (Es.2 ⟨r,hr,hk⟩))).rd⟩;refine⟨by simpa[hln] using hb,by rw[hln];exact hsn,rfl,λk hk=>F7 _ hk,by rw[hln];exact hT.Aj hc4 (λk hk hm=>by have:=(hnew k hk).1;simp at hm;omega),hpv,λk hk=>Hg _ hk,Own.nil _ _ _,h3.KH.Aj hc4 (hnb 1 _ rfl),Own.nil _ _ _,h.Rk,λi g L f e1 e2 e3=>(h3.dL i g L f e1 e2 e3).Aj hc4 (hnb (i+3) L (by simpa using e2)),?_⟩;have hlt: ∀P∈([b]::bo sA::bo fA::H8 rs::Ls),∀x∈P,x<w4.heap.size:=λP hP x hx=>EY (hl.lt P hP x hx) (CY hc.size hc4.size);have hs:=hl.sep;simp only[Sep,KL] at hs;obtain⟨s0,s1,s2,s3,s4⟩:=hs;refine⟨?_,λP hP x hx=>?_⟩
 ·simp only[Sep,RfG.parts,KL,Xj];refine⟨λP hP x hx hm=>?_,AV,λP hP x hx hm=>?_,AV,λP hP x hx hm=>?_,s4⟩
  ·simp only[BD] at hP;rcases hP with rfl|rfl|rfl|rfl|hP;simp at hm;exact s0 _ AV x hx hm;simp at hm
   ·rcases Bd.1 hm with hm|hm
    ·rcases Bd.1 hm with hm|hm;exact s0 (bo sA) AV x hx hm;exact s0 (H8 rs) AV x hx hm
    have:=(hnew x hm).1;simp at hx;omega
   exact s0 P (by simp[hP]) x hx hm
  ·simp only[BD] at hP;rcases hP with rfl|rfl|hP;simp at hm
   ·rcases Bd.1 hm with hm|hm
    ·rcases Bd.1 hm with hm|hm;exact s1 (bo fA) AV x hm hx;exact s2 (H8 rs) AV x hx hm
    have h1:=(hnew x hm).1;have h2:=hl.lt (bo fA) AV x hx;omega
   exact s2 P (by simp[hP]) x hx hm
  rcases Bd.1 hx with hx|hx
  ·rcases Bd.1 hx with hx|hx;exact s1 P (by simp[hP]) x hx hm;exact s3 P hP x hx hm
  have h1:=(hnew x hx).1;have h2:=hl.lt P (by simp[hP]) x hm;omega
 simp only[RfG.parts,BD,Xj] at hP;rcases hP with rfl|rfl|rfl|rfl|rfl|hP;exact hlt [b] AV x hx;simp at hx;exact hlt (bo fA) AV x hx;simp at hx
 ·rcases Bd.1 hx with hx|hx
  ·rcases Bd.1 hx with hx|hx;exact hlt (bo sA) AV x hx;exact hlt (H8 rs) AV x hx
  exact EY (hnew x hx).2 hc4.size
 exact hlt P (by simp[hP]) x hx
end
section
variable {f:Bool}{last name:ByteArray}{Ls:List (List Nat)}{rs:List RF}{b i:Nat}{fA:Option Af}
theorem yA(h:CV name=false):Gq f last name=81:=by unfold Gq;rw[BZ h]
theorem sO(h:CV name=true)(h2:PE name last=true):Gq false last name=6:=by unfold Gq;rw[BM (by simp[h]),BZ ⟨rfl,h2⟩]
theorem ADg(h:CV name=true)(h2:f=false->PE name last=false):Gq f last name=0:=by
 unfold Gq;rw[BM (by simp[h]),BM];rintro⟨h3,h4⟩;rw[h2 h3] at h4;cases h4
theorem yB{α:Type}{l:List (ByteArray×α)}{x:ByteArray×α}(h:l[i]? =AA x):FQ noS (l.take (i+1))=x.1:=by rw[take_snoc _ _ _ h,Xt]
def V4 (b:Nat) (sA:Option Af) (rs:List RF) (fA:Option Af) (Ls:List (List Nat)):List Nat:=b::(bo sA++(bo fA++(H8 rs++Ls.flatten)))
theorem Ce{x:Nat}{sA:Option Af}:x∈V4 b sA rs fA Ls↔x=b\/x∈bo sA\/x∈bo fA\/x∈H8 rs\/∃P∈Ls,x∈P:=by
 unfold V4;simp only[BD,Bd,KN]
theorem Tc.keep{w w':AL}{sA:Option Af}{sc:Nat}{fc:Nat}{sg:List Nat}{fs:List Ee}{q a:Int}{M:List Nat}(h:Tc w b sA sc rs fA fc sg Ls fs q a)(hc:AZ M w w')(hn: ∀x∈V4 b sA rs fA Ls,x∉M):Tc w' b sA sc rs fA fc sg Ls fs q a:=
 ⟨h.blk.Aj hc (hn b (Ce.2 (.inl rfl))),h.row.Aj hc (λk hk=>hn k (Ce.2 (.inr (.inl hk)))),λr hr=>(h.Eb r hr).Aj hc (λk hk=>hn k (Ce.2 (.inr (.inr (.inr (.inl (Es.2 ⟨r,hr,hk⟩))))))),
  h.KH.Aj hc (λk hk=>hn k (Ce.2 (.inr (.inr (.inl hk))))),h.Rk,λi g L f e1 e2 e3=>(h.dL i g L f e1 e2 e3).Aj hc (λk hk=>hn k (Ce.2 (.inr (.inr (.inr (.inr ⟨L,Bq e2,hk⟩)))))),h.lay.mono hc.size⟩
theorem AFk(D:FI)(i:Nat):Gs (D.take i)<=Gs D:=by
 unfold Gs
 conv=>rhs;rw[<- YK i D,Ey,YN]
 omega
theorem ALk{D:FI}{d:ByteArray×List (ByteArray×List Int)}(h:D[i]? =AA d):Gs (D.take i)+d.2.length<=Gs D:=by
 have:=AFk D (i+1);rw[take_snoc _ _ _ h,AFV] at this;exact this
theorem sQ(w:AL)(A:Option Af)(n c:Nat)(ds:List DM)(BG stop:Int)(h:FY w A n c ds)(hn:n<=1073741824)(hb:Fj (BF ds)<=1073741824):
  Au Ag 9 #[.slice A n c,.int .i64 BG,.int .i64 stop] w (AA9 w (BF ds) BG stop):=by
 have HD:=AP h;have HB:=AP hb;clear h hb;have k10:= @AOL;have k31:= @AS2;have k32:= @AS3;go_enter VF9,Tryz.ntmps9;by_cases hq:BG<0
 ·have HE:Hid (Di (BF ds) BG=2):=AP (by unfold Di;rw[BZ hq]);go_wp2
  go_ret2
  exact .inl ⟨by rw[HE.out];decide,by rw[HE.out];rfl,AZ.refl _ _⟩
 have HE:Hid (Di (BF ds) BG=GX true noS (BF ds)):=AP (by unfold Di;rw[BM hq]);obtain⟨b,hbn⟩: ∃b,w.heap.size=b:=⟨_,rfl⟩;obtain⟨W,hW⟩: ∃W,w.alloc (.cells #[.slice AB 0 0,.slice AB 0 0,.slice AB 0 0,.slice AB 0 0,.slice AB 0 0,.int .i64 BG,.int .i64 stop,.int .i64 0] 83)=W:=⟨_,rfl⟩;have hcW:AZ [] w W:=by rw[<- hW];exact (AZ.refl [] w).alloc _
 have hRo:Tc W b AB 0 [] AB 0 [] [] [] BG stop:=by
  (have hbk:Bl W b 83 #[.slice AB 0 0,.slice AB 0 0,.slice AB 0 0,.slice AB 0 0,.slice AB 0 0,.int .i64 BG,.int .i64 stop,.int .i64 0]:=by rw[<- hW,<- hbn];exact Bl.new w _ _);refine⟨hbk,Own.nil _ _ _,AV,Own.nil _ _ _,rfl,AV,⟨by simp[Sep,H8],?_⟩⟩;intro P hP x hx;have h1:=hbk.lt;simp only[BD,Xj,H8,List.flatMap_nil,lF,or_false] at hP;(rcases hP with rfl|rfl|rfl|rfl<;>simp at hx);omega
 have HRO:=AP hRo;have Ql:=AP hcW;have HBN:=AP hbn;clear hRo hcW;go_wp2
 go_loopw [9] (λs9 wr=>∃(i:Nat) (sA:Option Af) (sc:Nat) (rs:List RF) (fA:Option Af) (fc:Nat) (sg:List Nat) (Ls:List (List Nat)),i<=n/\s9=.int .i64 i/\GX true noS ((BF ds).take i)=0/\
  Tc wr b sA sc rs fA fc sg Ls (KH ((BF ds).take i)) BG stop/\O1 rs=Gx 0 ((BF ds).take i)/\(∀x∈V4 b sA rs fA Ls,w.heap.size<=x)/\AZ [] w wr) (λs9 _=>n - (intOf s9).toNat)
 case atStart=>exact⟨0,AB,0,[],AB,0,[],[],Dn _,rfl,rfl,HRO.out,rfl,by have:=HBN.out;simp[V4,H8];omega,Ql.out⟩
 obtain⟨i,sA,sc,rs,fA,fc,sg,Ls,hin,rfl,hpre,hro,hrv,hnew,hch⟩:=hrel;have ZL:=AP hpre;have API:=AP hro;have HRV:=AP hrv;have PG:=AP hnew;have DX:=AP hch
 have hrl:rs.length=i:=by
  have h1:=congrArg Ky hrv;have h2:=congrArg Ky (gz 0 ((BF ds).take i));simp only[O1,DY] at h1 h2;have h3:=HD.out.row.MV;simp only[EP,DY] at h3;rw[h1,h2,Ht];simp only[BF,DY];omega
 have HRL:=AP hrl;clear hpre hro hrv hnew hch HRO Ql hrl;by_cases hlt:i<n
 ·(have hlt':(i:Int)<n:=by omega);obtain⟨d,hd⟩: ∃d,ds[i]? =AA d:=⟨_,CB (by have:=HD.out.row.MV;simp[EP] at this;omega)⟩;obtain⟨⟨Dz,dA,dn,dc⟩,GL⟩:=d;(have hdv:(BF ds)[i]? =AA (Dz,BB GL):=by unfold BF;rw[Bg,hd];rfl);obtain⟨ad,rfl,hat⟩:=(HD.out.GH DX.out).row.ns (j:=i) (x:=⟨Dz,dA,dn,dc⟩) (by unfold EP;rw[Bg,hd];rfl);have x0:=hat.c0;have x1:=hat.c1;have Xz:=AP hdv;have HDM:=AP (Bq hd);clear hd hdv hat;obtain⟨dv,AC8⟩: ∃dv,wr.heap.size=dv:=⟨_,rfl⟩;obtain⟨W1,hW1⟩: ∃W1,wr.alloc (.cells #[.string Dz,.slice dA dn dc] 77)=W1:=⟨_,rfl⟩;(have hv1:Bl W1 dv 77 #[.string Dz,.slice dA dn dc]:=by rw[<- hW1,<- AC8];exact Bl.new wr _ _);(have hc1:AZ [] wr W1:=by rw[<- hW1];exact (AZ.refl [] wr).alloc _);have v0:=hv1.cell 0;have v1:=hv1.cell 1;simp only[GG] at v0 v1;have HV1:=AP hv1;have CZ:=AP hc1;have AK9:=AP AC8
  have HDE:Hid (∀E,E≠0->Gq (i==0) (FQ noS ((BF ds).take i)) Dz=E->Di (BF ds) BG=E):=AP (λE h0 h=>by
   rw[HE.out,VH Xz.out ZL.out];unfold GX
   rw[h,BZ h0])
  clear hv1 hc1;(go_wp2_with fail);refine (Zw Dz W1).mono ?_;rintro e w2 ⟨rfl,hcg⟩;have HCG:=AP hcg;have HC2:Hid (AZ [] wr w2):=AP (CZ.out.Ah hcg);have HV2:=AP (HV1.out.Aj hcg BH)
  cases hg:CV Dz with
  |false=>
   have HX:=AP (HDE.out 81 Ar (yA hg));clear hcg hg v0 v1;go_wp2
   go_ret2
   exact .inl ⟨by rw[HX.out];decide,by rw[HX.out];rfl,DX.out.Ah HC2.out⟩
  |true=>
   have v0':=HV2.out.cell 0;simp only[GG] at v0';have HG:=AP hg;clear hcg hg v0 v1 x0 x1;obtain⟨late,sS⟩: ∃l:Bool,(i≠0/\PE Dz (FQ noS ((BF ds).take i))=true)↔l=true:=⟨decide (i≠0/\PE Dz (FQ noS ((BF ds).take i))=true),AV⟩;have ABA:=AP sS
   have AUZ:Hid (late=true->Di (BF ds) BG=6):=AP (λh=>by
    obtain⟨h1,h2⟩:=ABA.out.2 h;refine HDE.out 6 Ar ?_;rw[show (i==0)=false from beq_eq_false_iff_ne.2 h1]
    exact sO HG.out h2)
   have AUa:Hid (late=false->Gq (i==0) (FQ noS ((BF ds).take i)) Dz=0):=AP (λh=>ADg HG.out (λhf=>by
    cases hl:PE Dz (FQ noS ((BF ds).take i)) with
    |false=>rfl|true=>
     have:=ABA.out.1 ⟨by simpa using hf,hl⟩
     rw[h] at this;cases this))
   clear sS;have AR8:Hid (∃pv:Bool,late=pv):=AP ⟨_,rfl⟩;clear AR8
   go_upto_region 10 with fail
   go_cut [46] (λs46 wx=>s46=.bool late/\AZ [] w2 wx)
   case first=>
    rcases PK i with hi0|hi0
    ·subst hi0
     have hl0:late=false:=by
      cases hl:late with|false=>rfl|true=>exact Ak rfl (ABA.out.2 hl).1
     subst hl0;refine FU (S:=λw'=>AZ [] w2 w') Aq ((AZ.refl _ _).drew) (λhHeld=>?_);refine tk 0 ?_;refine tk 1 ?_;refine tk 2 ?_;refine tk 3 ?_;refine tk 4 ?_;refine tk 5 ?_;refine tk 6 ?_;refine tk 7 ?_;refine tk 8 ?_;refine tk 9 ?_;refine tk 10 ?_;refine tk 11 ?_;refine tk 12 ?_;refine Eu Aq ?_ _;(try simp only[BJ,Bh]);go_wp2_with fail
     go_meet
     exact⟨rfl,hHeld⟩
    obtain⟨k,rfl⟩: ∃k,i=k+1:=⟨i - 1,Aa⟩;obtain⟨pd,Qq⟩: ∃pd,ds[k]? =AA pd:=⟨_,CB (by have:=HD.out.row.MV;simp[EP] at this;omega)⟩;(have hpv:(BF ds)[k]? =AA (pd.1.nm,BB pd.2):=by unfold BF;rw[Bg,Qq];rfl);have hln:FQ noS ((BF ds).take (k+1))=pd.1.nm:=yB hpv;obtain⟨ad',had,hpt⟩:=(HD.out.GH (DX.out.Ah HC2.out)).row.ns (j:=k) (x:=pd.1) (by unfold EP;rw[Bg,Qq];rfl);injection had with had;subst had;have p0:=hpt.c0
    have hle0:PE Dz pd.1.nm=late:=by
     have h1:=ABA.out;rw[hln] at h1
     cases hl:PE Dz pd.1.nm with
     |false=>
      cases hl2:late with|false=>rfl|true=>have:=(h1.2 hl2).2;rw[hl] at this;cases this
     |true=>exact (h1.1 ⟨Aa,hl⟩).symm
    (have hle: ∀w',(binOp .leq 9 (.string Dz) (.string pd.1.nm)).run Ag w'=.ok (.bool late) w':=λw'=>by rw[Rj,hle0]);(have hwk:IntKind.i64.wrap (k:Int)=(k:Int):=by rw[NZ];omega);(have hkn:(k:Int)<n:=by omega);clear Qq hpv hln hpt hle0;refine FU (S:=λw'=>AZ [] w2 w') Aq ((AZ.refl _ _).drew) (λhHeld=>?_);refine tk 0 ?_;refine tk 1 ?_;refine tk 2 ?_;refine tk 3 ?_;refine Gh 4 (λw' hSw=>hSw.cell v0' BH) ?_;refine tk 5 ?_;refine tk 6 ?_;refine tk 7 ?_;refine tk 8 ?_;refine tk 9 ?_;refine Gh 10 (λw' hSw=>hSw.cell p0 BH) ?_;refine tk 11 ?_;refine tk 12 ?_;refine Eu Aq ?_ _;(try simp only[BJ,Bh]);go_wp2_with fail
    go_meet
    exact⟨rfl,hHeld⟩
   obtain⟨rfl,hcc⟩:=hcut;have AGy:=AP hcc;clear hcc v0'
   cases late with
   |true=>
    have HX:=AP (AUZ.out rfl);go_wp2
    go_ret2
    exact .inl ⟨by rw[HX.out];decide,by rw[HX.out];rfl,(DX.out.Ah HC2.out).Ah AGy.out⟩
   |false=>
    have ALl:=AP (AUa.out rfl);have ADh:Hid (AZ [] w wc):=AP ((DX.out.Ah HC2.out).Ah AGy.out);have APJ:=AP (API.out.CX (HC2.out.Ah AGy.out));have HV3:=AP (HV2.out.Aj AGy.out BH);have APK:=HV3.out.cell 0;simp only[GG] at APK;have HFR:=AP (HD.out.Eb _ HDM.out);have hml:GL.length=dn:=by have:=HFR.out.row.MV;simpa[EZ] using this
    have hmb:dn<=1073741824:=by
     have h1:=(TJ (Bq Xz.out)).1;have h2:=HB.out;simp only[BB,DY] at h1;omega
    have HML:=AP hml;obtain⟨ov,hov⟩: ∃ov,wc.heap.size=ov:=⟨_,rfl⟩;obtain⟨W4,hW4⟩: ∃W4,W4=wc.alloc (.cells #[.string Dz,.slice AB 0 0] 86):=⟨_,rfl⟩;(have ho4:Bl W4 ov 86 #[.string Dz,.slice AB 0 0]:=by rw[hW4,<- hov];exact Bl.new wc _ _);(have hc4:AZ [] wc W4:=by rw[hW4];exact (AZ.refl [] wc).alloc _);have HO4:=AP ho4;have JD:=AP hc4;have HOV:Hid (wc.heap.size=ov/\ov<W4.heap.size):=AP ⟨hov,ho4.lt⟩;clear ho4 hc4 hml;have HW4:=AP hW4;clear hW4;go_wp2;rw[<- HW4.out];have HV4:=AP (HV3.out.Aj JD.out BH);have ALm:=AP (APJ.out.CX JD.out);have yC:Hid (AZ [] w W4):=AP (ADh.out.Ah JD.out);clear hov APK
    have AUb:Hid (∀x∈V4 b sA rs fA Ls,x<ov):=AP (λx hx=>by
     have h1:=HOV.out.1;simp only[V4,BD,Bd] at hx;have hl:=APJ.out.lay.lt
     have h2:x<wc.heap.size:=by
      rcases hx with rfl|h|h|h|h;exact hl [x] AV x AV;exact hl (bo sA) AV x h;exact hl (bo fA) AV x h;exact hl (H8 rs) AV x h;obtain⟨P,hP,hx⟩:=KN.1 h;exact hl P (by simp[hP]) x hx
     omega)
    go_loopw [12] (λs12 wr=>∃(j:Nat) (oA:Option Af) (oc:Nat) (fA:Option Af) (fc:Nat) (sg:List Nat) (Ls:List (List Nat)),j<=dn/\s12=.int .i64 j/\ES true noS ((BB GL).take j)=0/\
     Bl wr ov 86 #[.string Dz,.slice oA j oc]/\Own wr 88 2 oA j oc (YB (IU (0+Gs ((BF ds).take i)) ((BB GL).take j)))/\
     Tc wr b sA sc rs fA fc sg Ls (KH ((BF ds).take i)++((BB GL).take j).map λx=>(x.2,[])) BG stop/\Bl wr dv 77 #[.string Dz,.slice dA dn dc]/\
     (∀k∈bo oA,W4.heap.size<=k/\∀P∈Ls,k∉P)/\(∀x∈V4 b sA rs fA Ls,w.heap.size<=x/\x≠ov)/\AZ [] w wr/\W4.heap.size<=wr.heap.size) (λs12 _=>dn - (intOf s12).toNat)
    case atStart=>exact⟨0,AB,0,fA,fc,sg,Ls,Dn _,rfl,rfl,HO4.out,Own.nil _ _ _,by simpa using ALm.out,HV4.out,AV,λx hx=>⟨PG.out x hx,by have:=AUb.out x hx;omega⟩,yC.out,Bc _⟩
    obtain⟨j,oA,oc,fA,fc,sg,Ls,hjd,rfl,ql,hob,hoo,APL,hvb,hdis,KF,Xx,APM⟩:=hrel;have X0:=AP ql;have HOB:=AP hob;have HOO:=AP hoo;have OE:=AP APL;have HVB:=AP hvb;have ZE:=AP hdis;have I5:=AP KF;have PI:=AP Xx;have ALn:=AP APM;have dv1:=hvb.cell 1;have dv0:=hvb.cell 0;simp only[GG] at dv0 dv1;clear ql hob hoo APL hvb hdis KF Xx APM;by_cases hjl:j<dn
    ·(have AOq:(j:Int)<dn:=by omega);obtain⟨x,hx⟩: ∃x,GL[j]? =AA x:=⟨_,CB (by have:=HML.out;omega)⟩;obtain⟨⟨V5,fB,fn,fd⟩,bs⟩:=x;(have hxv:(BB GL)[j]? =AA (V5,bs):=by unfold BB;rw[Bg,hx];rfl);obtain⟨ad,rfl,hat⟩:=(HFR.out.GH PI.out).row.ns (j:=j) (x:=⟨V5,fB,fn,fd⟩) (by unfold EZ;rw[Bg,hx];rfl);have x0:=hat.c0;have x1:=hat.c1;have qm:=AP hxv;have HXM:=AP (Bq hx);clear hx hxv hat;obtain⟨fv,ADA⟩: ∃fv,wr.heap.size=fv:=⟨_,rfl⟩;obtain⟨W5,hW5⟩: ∃W5,wr.alloc (.cells #[.string V5,.slice fB fn fd] 64)=W5:=⟨_,rfl⟩;(have hv5:Bl W5 fv 64 #[.string V5,.slice fB fn fd]:=by rw[<- hW5,<- ADA];exact Bl.new wr _ _);(have hc5:AZ [] wr W5:=by rw[<- hW5];exact (AZ.refl [] wr).alloc _);have v50:=hv5.cell 0;simp only[GG] at v50;have HV5:=AP hv5;have MW:=AP hc5;have ADB:=AP ADA
     have HFE:Hid (∀E,E≠0->Gq (j==0) (FQ noS ((BB GL).take j)) V5=E->Di (BF ds) BG=E):=AP (λE h0 h=>by
      have h1:ES true noS (BB GL)=E:=by
       rw[Z4 qm.out X0.out];unfold ES;rw[h,BZ h0]
      rw[HE.out,VH Xz.out ZL.out];unfold GX
      rw[BM (by simp[ALl.out]),h1,BZ h0])
     clear hv5 hc5;(go_wp2_with fail);refine (Zw V5 W5).mono ?_;rintro e w6 ⟨rfl,hcg⟩;have Jh:Hid (AZ [] wr w6):=AP (MW.out.Ah hcg);have HV6:=AP (HV5.out.Aj hcg BH)
     cases hg:CV V5 with
     |false=>
      have HX:=AP (HFE.out 81 Ar (yA hg));clear hcg hg v50 x0 x1 dv0 dv1;go_wp2
      go_ret2
      exact .inl ⟨by rw[HX.out];decide,by rw[HX.out];rfl,PI.out.Ah Jh.out⟩
     |true=>
      have f0:=HV6.out.cell 0;have f1:=HV6.out.cell 1;have d1:=(HVB.out.Aj Jh.out BH).cell 1;simp only[GG] at f0 f1 d1;have HG2:=AP hg;clear hcg hg v50 x0 x1 dv0 dv1;obtain⟨V6,sS⟩: ∃l:Bool,(j≠0/\PE V5 (FQ noS ((BB GL).take j))=true)↔l=true:=⟨decide (j≠0/\PE V5 (FQ noS ((BB GL).take j))=true),AV⟩;have eH:=AP sS
      have ALo:Hid (V6=true->Di (BF ds) BG=6):=AP (λh=>by
       obtain⟨h1,h2⟩:=eH.out.2 h;refine HFE.out 6 Ar ?_;rw[show (j==0)=false from beq_eq_false_iff_ne.2 h1]
       exact sO HG2.out h2)
      have ALp:Hid (V6=false->Gq (j==0) (FQ noS ((BB GL).take j)) V5=0):=AP (λh=>ADg HG2.out (λhf=>by
       cases hl:PE V5 (FQ noS ((BB GL).take j)) with
       |false=>rfl|true=>
        have:=eH.out.1 ⟨by simpa using hf,hl⟩
        rw[h] at this;cases this))
      clear sS
      go_upto_region 19 with fail
      go_cut [79] (λs79 wx=>s79=.bool V6/\AZ [] w6 wx)
      case first=>
       rcases PK j with hj0|hj0
       ·subst hj0
        have hl0:V6=false:=by
         cases hl:V6 with|false=>rfl|true=>exact Ak rfl (eH.out.2 hl).1
        subst hl0;refine FU (S:=λw'=>AZ [] w6 w') Aq ((AZ.refl _ _).drew) (λhHeld=>?_);refine tk 0 ?_;refine tk 1 ?_;refine tk 2 ?_;refine tk 3 ?_;refine tk 4 ?_;refine tk 5 ?_;refine tk 6 ?_;refine tk 7 ?_;refine tk 8 ?_;refine tk 9 ?_;refine tk 10 ?_;refine tk 11 ?_;refine tk 12 ?_;refine tk 13 ?_;refine Eu Aq ?_ _;(try simp only[BJ,Bh]);go_wp2_with fail
        go_meet
        exact⟨rfl,hHeld⟩
       obtain⟨k,rfl⟩: ∃k,j=k+1:=⟨j - 1,Aa⟩;obtain⟨pd,Qq⟩: ∃pd,GL[k]? =AA pd:=⟨_,CB (by have:=HML.out;omega)⟩;(have hpv:(BB GL)[k]? =AA (pd.1.nm,pd.2):=by unfold BB;rw[Bg,Qq];rfl);have hln:FQ noS ((BB GL).take (k+1))=pd.1.nm:=yB hpv;obtain⟨ad',had,hpt⟩:=(HFR.out.GH (PI.out.Ah Jh.out)).row.ns (j:=k) (x:=pd.1) (by unfold EZ;rw[Bg,Qq];rfl);injection had with had;subst had;have p0:=hpt.c0
       have hle0:PE V5 pd.1.nm=V6:=by
        have h1:=eH.out;rw[hln] at h1
        cases hl:PE V5 pd.1.nm with
        |false=>
         cases hl2:V6 with|false=>rfl|true=>have:=(h1.2 hl2).2;rw[hl] at this;cases this
        |true=>exact (h1.1 ⟨Aa,hl⟩).symm
       (have hle: ∀w',(binOp .leq 9 (.string V5) (.string pd.1.nm)).run Ag w'=.ok (.bool V6) w':=λw'=>by rw[Rj,hle0]);(have hwk:IntKind.i64.wrap (k:Int)=(k:Int):=by rw[NZ];omega);(have hkn:(k:Int)<dn:=by omega);clear Qq hpv hln hpt hle0;refine FU (S:=λw'=>AZ [] w6 w') Aq ((AZ.refl _ _).drew) (λhHeld=>?_);refine tk 0 ?_;refine tk 1 ?_;refine tk 2 ?_;refine tk 3 ?_;refine Gh 4 (λw' hSw=>hSw.cell f0 BH) ?_;refine tk 5 ?_;refine Gh 6 (λw' hSw=>hSw.cell d1 BH) ?_;refine tk 7 ?_;refine tk 8 ?_;refine tk 9 ?_;refine tk 10 ?_;refine Gh 11 (λw' hSw=>hSw.cell p0 BH) ?_;refine tk 12 ?_;refine tk 13 ?_;refine Eu Aq ?_ _;(try simp only[BJ,Bh]);go_wp2_with fail
       go_meet
       exact⟨rfl,hHeld⟩
      obtain⟨rfl,hcc⟩:=hcut;have MX:Hid (AZ [] wr wc):=AP (Jh.out.Ah hcc);have HV7:=AP (HV6.out.Aj hcc BH);clear hcc f0 f1 d1
      cases V6 with
      |true=>
       have HX:=AP (ALo.out rfl);go_wp2
       go_ret2
       exact .inl ⟨by rw[HX.out];decide,by rw[HX.out];rfl,PI.out.Ah MX.out⟩
      |false=>
       have AR9:=AP (ALp.out rfl);clear ALo ALp eH HFE;obtain⟨fl,hfl⟩: ∃fl,(KH ((BF ds).take i)++((BB GL).take j).map λx=>(x.2,([]:List (List Int)))).length=fl:=⟨_,rfl⟩;have APN:fl=0+Gs ((BF ds).take i)+((BB GL).take j).length:=by rw[<- hfl,Gz,DY,TG];omega
       have AVX:fl<=1073741824:=by
        have h1:=ALk Xz.out;have h2:=xP (BF ds);have h3:=HB.out;simp only[BB,DY] at h1;(have h4:((BB GL).take j).length<=GL.length:=by simp only[BB,Ht,DY];omega);omega
       have jg:=AP hfl;have APO:=AP APN;have c3:=(OE.out.blk.Aj MX.out BH).cell 3;have ALq:=HOB.out.Aj MX.out BH;have o1:=ALq.cell 1;have ALr:Hid (Bl (wc.alloc (.cells #[.string V5,.int .i64 fl] 88)) ov 86 #[.string Dz,.slice oA j oc]):=AP (ALq.alloc _);have o1a:=ALr.out.cell 1;have f0:=HV7.out.cell 0;simp only[Qn,aP,WG,hfl] at c3 o1 o1a f0;have APP:Hid (Own (wc.alloc (.cells #[.string V5,.int .i64 fl] 88)) 88 2 oA j oc (YB (IU (0+Gs ((BF ds).take i)) ((BB GL).take j)))):=AP (HOO.out.Aj (MX.out.alloc _) Ew)
       have HFO:Hid (fv∉ov::bo oA):=AP (λhm=>by
        have h1:=ADB.out;rcases BD.1 hm with h|h;have:=HOB.out.lt;omega
        have:=HOO.out.lt fv h;omega)
       have uu:Hid (b∉ov::bo oA):=AP (λhm=>by
        rcases BD.1 hm with h|h;exact (I5.out b (Ce.2 (.inl rfl))).2 h
        exact HOO.out.GV OE.out.blk Ar b h rfl)
       have AUc:Hid (ov∉bo oA):=AP (λhm=>HOO.out.GV HOB.out Ar ov hm rfl);clear ALq hfl APN
       go_upto_region 21 with fail
       go_cut [] (λwx=>∃(A2:Option Af) (c2:Nat),Bl wx ov 86 #[.string Dz,.slice A2 (j+1) c2]/\Own wx 88 2 A2 (j+1) c2 (YB (IU (0+Gs ((BF ds).take i)) ((BB GL).take (j+1))))/\(∀k∈bo A2,k∈bo oA\/wc.heap.size<=k)/\AZ (ov::bo oA) wc wx)
       case first=>
        refine FU (S:=λw'=>AZ (ov::bo oA) wc w') Aq ((AZ.refl _ _).drew) (λhHeld=>?_);refine tk 0 ?_;refine tk 2 ?_;refine Gh 3 (λw' hSw=>hSw.cell f0 HFO.out) ?_;refine tk 4 ?_;refine tk 5 ?_;refine tk 6 ?_;refine Gh 7 (λw' hSw=>hSw.cell c3 uu.out) ?_;refine tk 8 ?_;refine tk 9 ?_;refine O7 (rs:=[1,10]) Aq AV ?_;refine Gp rfl (λK hK=>?a1) (Gp rfl (λK hK=>?b1) (O8))
        case' a1=>
         go_simp;refine hK.out _ _ (hHeld) (λhHeld=>?_);(try simp only[BJ,Bh]);clear hK K;refine Em 10 λK hK=>?_;go_simp;refine hK.out _ _ (hHeld.alloc _) (λhHeld=>?_)
        case' b1=>
         go_simp;refine hK.out _ _ (hHeld.alloc _) (λhHeld=>?_);(try simp only[BJ,Bh]);clear hK K;refine Em 1 λK hK=>?_;go_simp;refine hK.out _ _ (hHeld) (λhHeld=>?_)
        all_goals
         (try simp only[BJ,Bh]);clear hK K;refine Em 11 λK hK=>?_;refine Jb rfl _ _ rfl sJ rfl APP.out rfl (Own.lit wc 88 2 #[.string V5,.int .i64 fl] 1 Ar rfl).rd (ADe [(V5,fl)]) OH Aa ?_;intro A2 c2 w8 Un O0 Uo _;have sU:=AP (ALr.out.drew.Aj O0 AUc.out);have y8:=sU.out.cell 1;have f8:=sU.out.frozen 1;simp at y8;have HO8:=AP Un;have AGz:=AP O0;have HN8:=AP Uo;have hH8:=hHeld.trans O0 (λx hx=>.inl (CO _ hx));clear Un O0 Uo;refine hK.out _ _ (hH8) (λhHeld=>?_);(try simp only[BJ,Bh]);clear hK K;refine tk 12 ?_;refine Em 13 λK hK=>?_;go_simp;refine hK.out _ _ (hHeld.setCell (.inl AV) _) (λhHeld=>?_);(try simp only[BJ,Bh]);clear hK K;refine Eu Aq ?_ _;(try simp only[BJ,Bh]);have Y1:Hid (AZ [ov] w8 (w8.setCell ⟨ov,1,AB⟩ (.slice A2 (j+1) c2))):=AP ((AZ.refl _ _).setCell (.inl AV) _);have Zt:Hid (Bl (w8.setCell ⟨ov,1,AB⟩ (.slice A2 (j+1) c2)) ov 86 #[.string Dz,.slice A2 (j+1) c2]):=AP (by simpa using sU.out.FX 1 (.slice A2 (j+1) c2));clear y8 f8 o1 o1a hHeld hH8 c3 f0;go_wp2_with fail
         go_meet
         have hcl:AZ [] wc (wc.alloc (.cells #[.string V5,.int .i64 fl] 88)).drew:=((AZ.refl _ _).alloc _).drew;refine⟨A2,c2,Zt.out,?_,λk hk=>?_,((hcl.nil (ov::bo oA)).trans AGz.out (λx hx=>.inl (CO _ hx))).trans Y1.out (λx hx=>.inl (by simp at hx;simp[hx]))⟩
         ·refine Own.Aj ?_ Y1.out (λk hk hm=>HO8.out.GV sU.out Ar k hk (by simpa using hm));have:=HO8.out;rw[take_snoc _ _ _ qm.out,qZ,ADd,<- APO.out];exact this
         rcases HN8.out k hk with h|h;exact .inl h;have:=hcl.size;exact .inr Aa
       obtain⟨A2,c2,hb8,ho8,hn8,hc8⟩:=hcut;have APQ:=AP hb8;have AG0:=AP ho8;have HN8:=AP hn8;have HC8:=AP hc8;clear hb8 ho8 hn8 hc8 c3 o1 o1a f0 ALr APP
       have ALs:Hid (AZ [] w wc):=AP ((PI.out.Ah MX.out).trans HC8.out (λx hx=>.inr (by
        rcases BD.1 hx with rfl|hx;have h1:=HOV.out.1;have h2:=ADh.out.size;omega
        have h1:=(ZE.out x hx).1;have h2:=yC.out.size;omega)))
       have AUd:Hid (∀x∈V4 b sA rs fA Ls,x∉ov::bo oA):=AP (λx hx hm=>by
        rcases BD.1 hm with rfl|hm;exact (I5.out x hx).2 rfl;rcases Ce.1 hx with rfl|h|h|h|⟨P,hP,h⟩;exact uu.out (CO _ hm);exact OE.out.row.own_ne HOO.out Ar x h hm;exact OE.out.KH.own_ne HOO.out Ar x h hm
        ·have h1:=ALm.out.lay.lt (H8 rs) AV x h;have h2:=(ZE.out x hm).1;omega
        exact (ZE.out x hm).2 P hP h)
       have jh:=AP ((OE.out.CX MX.out).keep HC8.out AUd.out);have HV8:=AP (HV7.out.Aj HC8.out HFO.out)
       have Z5:Hid (fn<=1073741824):=AP (by
        have h1:bs.length<=Fj (BF ds):=(TJ (Bq Xz.out)).2 _ (Bq qm.out);have h2:=(HFR.out.dat _ HXM.out).1;have h3:=HB.out;simp at h2
        omega)
       have APR:Hid (Rd wc 1 fB fn fd (bv bs)):=AP ((HFR.out.dat _ HXM.out).Aj ALs.out Ew);have c3:=jh.out.blk.cell 3;have f1:=HV8.out.cell 1;simp only[Qn,aP,WG,jg.out] at c3 f1
       have HFB:Hid (fv∉b::bo fA):=AP (λhm=>by
        rcases BD.1 hm with h|h;have h1:=OE.out.blk.lt;have h2:=ADB.out;omega
        have h1:=OE.out.KH.lt fv h;have h2:=ADB.out;omega)
       have HBF:Hid (b∉bo fA):=AP (λhm=>OE.out.KH.GV OE.out.blk Ar b hm rfl);(go_wp2_with fail);refine FU (S:=λw'=>AZ (b::bo fA) wc w') Aq ((AZ.refl _ _).drew) (λhHeld=>?_);refine tk 0 ?_;refine tk 1 ?_;refine tk 2 ?_;refine tk 3 ?_;refine tk 5 ?_;refine Gh 6 (λw' hSw=>hSw.cell f1 HFB.out) ?_;refine O7 (rs:=[4,7]) Aq AV ?_;refine Gp rfl (λK hK=>?a2) (Gp rfl (λK hK=>?b2) (O8))
       case' a2=>
        go_simp;refine hK.out _ _ (hHeld) (λhHeld=>?_);(try simp only[BJ,Bh]);clear hK K;refine Em 7 λK hK=>?_;go_simp;refine (x8 fB fn fd bs _ Z5.out (APR.out.Aj ((AZ.refl [] wc).drew) Ew)).mono ?_;rintro ee w9 ⟨g,L,rfl,hsp,Y2,hn9⟩;have kU:Hid (AZ [] wc w9):=AP (((AZ.refl [] wc).drew).Ah Y2);have HSP:=AP hsp;have HN9:Hid (∀k∈L,wc.heap.size<=k):=AP hn9;have hHc:=hHeld.Ah Y2;have y9:w9.cell? ⟨b,3,AB⟩=AA (.slice fA fl fc):=kU.out.cell c3 BH;have AG1:Hid (Bl (w9.alloc (.cells #[.pointer (AA ⟨g,0,AB⟩)] 89)) b 83 #[.slice sA rs.length sc,.slice AB 0 0,.slice AB 0 0,.slice fA fl fc,.slice AB 0 0,.int .i64 BG,.int .i64 stop,.int .i64 0]):=AP (by have:=jh.out.blk.Aj (kU.out.alloc (.cells #[.pointer (AA ⟨g,0,AB⟩)] 89)) BH;rw[jg.out] at this;exact this);have y9a:=AG1.out.cell 3;simp only[GG] at y9a;have APS:Hid (Own (w9.alloc (.cells #[.pointer (AA ⟨g,0,AB⟩)] 89)) 89 1 fA fl fc (sg.map pv8)):=AP (by have:=jh.out.KH.Aj (kU.out.alloc (.cells #[.pointer (AA ⟨g,0,AB⟩)] 89)) Ew;rw[jg.out] at this;exact this);clear hsp Y2 hn9;refine hK.out _ _ (hHc) (λhHeld=>?_);(try simp only[BJ,Bh]);clear hK K;refine Em 8 λK hK=>?_;go_simp;refine hK.out _ _ (hHeld.alloc _) (λhHeld=>?_)
       case' b2=>
        go_simp;refine (x8 fB fn fd bs _ Z5.out (APR.out.Aj ((AZ.refl [] wc).drew) Ew)).mono ?_;rintro ee w9 ⟨g,L,rfl,hsp,Y2,hn9⟩;have kU:Hid (AZ [] wc w9):=AP (((AZ.refl [] wc).drew).Ah Y2);have HSP:=AP hsp;have HN9:Hid (∀k∈L,wc.heap.size<=k):=AP hn9;have hHc:=hHeld.Ah Y2;have y9:w9.cell? ⟨b,3,AB⟩=AA (.slice fA fl fc):=kU.out.cell c3 BH;have AG1:Hid (Bl (w9.alloc (.cells #[.pointer (AA ⟨g,0,AB⟩)] 89)) b 83 #[.slice sA rs.length sc,.slice AB 0 0,.slice AB 0 0,.slice fA fl fc,.slice AB 0 0,.int .i64 BG,.int .i64 stop,.int .i64 0]):=AP (by have:=jh.out.blk.Aj (kU.out.alloc (.cells #[.pointer (AA ⟨g,0,AB⟩)] 89)) BH;rw[jg.out] at this;exact this);have y9a:=AG1.out.cell 3;simp only[GG] at y9a;have APS:Hid (Own (w9.alloc (.cells #[.pointer (AA ⟨g,0,AB⟩)] 89)) 89 1 fA fl fc (sg.map pv8)):=AP (by have:=jh.out.KH.Aj (kU.out.alloc (.cells #[.pointer (AA ⟨g,0,AB⟩)] 89)) Ew;rw[jg.out] at this;exact this);clear hsp Y2 hn9;refine hK.out _ _ (hHc) (λhHeld=>?_);(try simp only[BJ,Bh]);clear hK K;refine O7 (rs:=[4,8]) Aq AV ?_;refine Gp rfl (λK hK=>?a3) (Gp rfl (λK hK=>?b3) (O8))
        case' a3=>
         go_simp;refine hK.out _ _ (hHeld) (λhHeld=>?_);(try simp only[BJ,Bh]);clear hK K;refine Em 8 λK hK=>?_;go_simp;refine hK.out _ _ (hHeld.alloc _) (λhHeld=>?_)
        case' b3=>
         go_simp;refine hK.out _ _ (hHeld.alloc _) (λhHeld=>?_);(try simp only[BJ,Bh]);clear hK K;refine Em 4 λK hK=>?_;go_simp;refine hK.out _ _ (hHeld) (λhHeld=>?_)
       all_goals
        (try simp only[BJ,Bh]);clear hK K;refine Em 9 λK hK=>?_;refine Jb rfl _ _ rfl ADf rfl APS.out rfl (Own.lit w9 89 1 #[.pointer (AA ⟨g,0,AB⟩)] 1 Ar rfl).rd (by intro u hu;simp at hu;subst hu;rfl) OH Aa ?_;intro A3 c3' w10 AG2 lZ AG3 _;have AG4:=AP (AG1.out.Aj lZ HBF.out);have y10:=AG4.out.cell 3;have f10:=AG4.out.frozen 3;simp at y10;have APT:=AP AG2;have ALt:=AP lZ;have APU:=AP AG3;have APV:=hHeld.trans lZ (λx hx=>.inl (CO _ hx));clear AG2 lZ AG3;refine hK.out _ _ (APV) (λhHeld=>?_);(try simp only[BJ,Bh]);clear hK K;refine tk 10 ?_;refine tk 11 ?_;refine Em 12 λK hK=>?_;go_simp;refine hK.out _ _ (hHeld.setCell (.inl AV) _) (λhHeld=>?_);(try simp only[BJ,Bh]);clear hK K;refine Eu Aq ?_ _;(try simp only[BJ,Bh]);have Y1:Hid (AZ [b] w10 (w10.setCell ⟨b,3,AB⟩ (.slice A3 (fl+1) c3'))):=AP ((AZ.refl _ _).setCell (.inl AV) _);have Zt:=AP (AG4.out.FX 3 (.slice A3 (fl+1) c3'));clear y10 f10 y9 y9a c3 f1 hHeld hHc APV;have hcl:AZ [] wc (w9.alloc (.cells #[.pointer (AA ⟨g,0,AB⟩)] 89)):=kU.out.alloc _
        have hro:Tc (w10.setCell ⟨b,3,AB⟩ (.slice A3 (fl+1) c3')) b sA sc rs A3 c3' (sg++[g]) (Ls++[L]) ((KH ((BF ds).take i)++((BB GL).take j).map λx=>(x.2,[]))++[(bs,[])]) BG stop:=by
         refine jh.out.file (w1:=(w9.alloc (.cells #[.pointer (AA ⟨g,0,AB⟩)] 89))) hcl HN9.out (HSP.out.Aj ((AZ.refl [] w9).alloc _) Ew) ((ALt.out.mono (L:=b::bo fA) (λx hx=>.inl (CO _ hx))).trans Y1.out (λx hx=>.inl (by simp at hx;simp[hx]))) ?_ ?_ (λx hx=>by
          rcases APU.out x hx with h|h;exact .inl h
          exact .inr h.1)
         ·have:=Zt.out;rw[jg.out];simpa using this
         have:=APT.out.Aj Y1.out (λk hk hm=>APT.out.GV AG4.out Ar k hk (by simpa using hm));rw[jg.out,Ey];exact this
        have hA3: ∀k∈bo A3,k∈bo fA\/wc.heap.size<=k:=λk hk=>by
         rcases APU.out k hk with h|h;exact .inl h;have:=hcl.size;exact .inr (CY this h.1)
        have Y2:AZ (b::bo fA) wc (w10.setCell ⟨b,3,AB⟩ (.slice A3 (fl+1) c3')):=((hcl.nil (b::bo fA)).trans ALt.out (λx hx=>.inl (CO _ hx))).trans Y1.out (λx hx=>.inl (by simp at hx;simp[hx]));have AUe:=AP hro;have HA3:=AP hA3;have ADi:=AP Y2;clear hcl hro hA3 Y2 jg APO;go_wp2;go_roundw
        case rel=>
         have AUf:Hid (Bl (w10.setCell ⟨b,3,AB⟩ (.slice A3 (fl+1) c3')) dv 77 #[.string Dz,.slice (AA ad) dn dc]):=AP (by
          have h1:=(HVB.out.Aj MX.out BH).Aj HC8.out (λhm=>by
           rcases BD.1 hm with h|h;exact HVB.out.ne_ HOB.out Ar h
           exact HOO.out.GV HVB.out Ar dv h rfl)
          exact h1.Aj ADi.out (λhm=>by
           rcases BD.1 hm with h|h;exact HVB.out.ne_ OE.out.blk Ar h
           exact OE.out.KH.GV HVB.out Ar dv h rfl))
         have AUg:Hid (Bl (w10.setCell ⟨b,3,AB⟩ (.slice A3 (fl+1) c3')) ov 86 #[.string Dz,.slice A2 (j+1) c2]):=AP (APQ.out.Aj ADi.out (λhm=>by
          rcases BD.1 hm with h|h;exact uu.out (by simp[h])
          exact OE.out.KH.GV HOB.out Ar ov h rfl))
         have HOWN:Hid (Own (w10.setCell ⟨b,3,AB⟩ (.slice A3 (fl+1) c3')) 88 2 A2 (j+1) c2 (YB (IU (0+Gs ((BF ds).take i)) ((BB GL).take (j+1))))):=AP (AG0.out.Aj ADi.out (λk hk hm=>by
          rcases BD.1 hm with h|h;exact AG0.out.GV jh.out.blk Ar k hk h
          exact AG0.out.own_ne jh.out.KH Ar k hk h))
         refine⟨j+1,A2,c2,A3,c3',sg++[g],Ls++[L],Aa,by go_num,Vy qm.out X0.out AR9.out,AUg.out,HOWN.out,?_,AUf.out,λk hk=>⟨?_,λP hP hm=>?_⟩,λx hx=>?_,?_,?_⟩
         ·have:=AUe.out;rw[Jo] at this;rw[take_snoc _ _ _ qm.out,Ey];exact this
         ·rcases HN8.out k hk with h|h;exact (ZE.out k h).1;have h1:=PI.out.size;have h2:=MX.out.size;have h3:=ALn.out;omega
         ·rcases Bd.1 hP with hP|hP
          ·rcases HN8.out k hk with h|h;exact (ZE.out k h).2 P hP hm;have h1:=OE.out.lay.lt P (by simp[hP]) k hm;have h2:=MX.out.size;omega
          simp only[CJ] at hP;subst hP;have h1:=HN9.out k hm;have h2:=AG0.out.lt k hk;omega
         ·have hbig: ∀y,wc.heap.size<=y->w.heap.size<=y/\y≠ov:=λy hy=>by
           have h1:=ALs.out.size;have h2:=APQ.out.lt;omega
          rcases Ce.1 hx with h|h|h|h|⟨P,hP,h⟩;exact I5.out x (Ce.2 (.inl h));exact I5.out x (Ce.2 (.inr (.inl h)))
          ·rcases HA3.out x h with h|h;exact I5.out x (Ce.2 (.inr (.inr (.inl h))));exact hbig x h
          exact I5.out x (Ce.2 (.inr (.inr (.inr (.inl h)))));rcases Bd.1 hP with hP|hP;exact I5.out x (Ce.2 (.inr (.inr (.inr (.inr ⟨P,hP,h⟩)))));simp only[CJ] at hP;subst hP;exact hbig x (HN9.out x h)
         ·exact ALs.out.trans ADi.out (λx hx=>.inr (by
           rcases BD.1 hx with rfl|hx;exact (I5.out x (Ce.2 (.inl rfl))).1
           exact (I5.out x (Ce.2 (.inr (.inr (.inl hx))))).1))
         have h1:=ALn.out;have h2:=MX.out.size;have h3:=HC8.out.size;have h4:=ADi.out.size;omega
        simp[intOf];omega
    (obtain rfl:j=dn:=by omega);have ASA:Hid (ES true noS (BB GL)=0):=AP (by have:=X0.out;rwa[Ep (by simp only[BB,DY,HML.out];exact Bc _)] at this);have MQ:Hid ((BB GL).take j=BB GL):=AP (Ep (by simp only[BB,DY,HML.out];exact Bc _));have c0:=OE.out.blk.cell 0;have o0:=HOB.out.cell 0;have o1:=HOB.out.cell 1;simp only[Qn,aP,WG,HRL.out] at c0 o0 o1
    have APW:Hid (ov∉b::bo sA):=AP (λhm=>by
     rcases BD.1 hm with h|h;exact (I5.out b (Ce.2 (.inl rfl))).2 h.symm
     exact (I5.out ov (Ce.2 (.inr (.inl h)))).2 rfl)
    have AUh:Hid (b∉bo sA):=AP (λhm=>OE.out.row.GV OE.out.blk Ar b hm rfl)
    have APX:Hid (Bl (wr.alloc (.cells #[.string Dz,.slice oA j oc] 86)) b 83 #[.slice sA i sc,.slice AB 0 0,.slice AB 0 0,.slice fA (KH ((BF ds).take i)++((BB GL).take j).map λx=>(x.2,([]:List (List Int)))).length fc,.slice AB 0 0,.int .i64 BG,.int .i64 stop,.int .i64 0]):=AP (by
     have:=OE.out.blk.alloc (.cells #[.string Dz,.slice oA j oc] 86);rw[HRL.out] at this
     exact this)
    have c0a:=APX.out.cell 0;simp only[GG] at c0a
    have AUi:Hid (Own (wr.alloc (.cells #[.string Dz,.slice oA j oc] 86)) 86 2 sA i sc (Ho (Wh rs))):=AP (by
     have:=OE.out.row.Aj ((AZ.refl [] wr).alloc (.cells #[.string Dz,.slice oA j oc] 86)) Ew;rw[HRL.out] at this
     exact this)
    (go_wp2_with fail);clear dv0 dv1;refine FU (S:=λw'=>AZ (b::bo sA) wr w') Aq ((AZ.refl _ _).drew) (λhHeld=>?_);refine tk 0 ?_;refine tk 1 ?_;refine tk 2 ?_;refine tk 3 ?_;refine ATr 5 (λw' hSw=>⟨hSw.cell o0 APW.out,hSw.cell o1 APW.out⟩) ?_;refine O7 (rs:=[4,6]) Aq AV ?_;refine Gp rfl (λK hK=>?a4) (Gp rfl (λK hK=>?b4) (O8))
    case' a4=>
     go_simp;refine hK.out _ _ (hHeld) (λhHeld=>?_);(try simp only[BJ,Bh]);clear hK K;refine Em 6 λK hK=>?_;go_simp;refine hK.out _ _ (hHeld.alloc _) (λhHeld=>?_)
    case' b4=>
     go_simp;refine hK.out _ _ (hHeld.alloc _) (λhHeld=>?_);(try simp only[BJ,Bh]);clear hK K;refine Em 4 λK hK=>?_;go_simp;refine hK.out _ _ (hHeld) (λhHeld=>?_)
    all_goals
     (try simp only[BJ,Bh]);clear hK K;refine Em 7 λK hK=>?_;refine Jb rfl _ _ rfl x9 rfl AUi.out rfl (Own.lit wr 86 2 #[.string Dz,.slice oA j oc] 1 Ar rfl).rd (VC [⟨Dz,oA,j,oc⟩]) OH Aa ?_;intro A2 c2 w8 Un O0 Uo _;have sU:=AP (APX.out.drew.Aj O0 AUh.out);have y8:=sU.out.cell 0;have f8:=sU.out.frozen 0;simp at y8;have HO8:=AP Un;have AGz:=AP O0;have HN8:=AP Uo;have hH8:=hHeld.trans O0 (λx hx=>.inl (CO _ hx));clear Un O0 Uo;refine hK.out _ _ (hH8) (λhHeld=>?_);(try simp only[BJ,Bh]);clear hK K;refine tk 8 ?_;refine tk 9 ?_;refine Em 10 λK hK=>?_;go_simp;refine hK.out _ _ (hHeld.setCell (.inl AV) _) (λhHeld=>?_);(try simp only[BJ,Bh]);clear hK K;refine Eu Aq ?_ _;(try simp only[BJ,Bh]);have Y1:Hid (AZ [b] w8 (w8.setCell ⟨b,0,AB⟩ (.slice A2 (i+1) c2))):=AP ((AZ.refl _ _).setCell (.inl AV) _);have Zt:=AP (sU.out.FX 0 (.slice A2 (i+1) c2));clear y8 f8 o0 o1 c0 c0a hHeld hH8;go_wp2;go_roundw
     case rel=>
      have hcl:AZ [] wr (wr.alloc (.cells #[.string Dz,.slice oA j oc] 86)).drew:=((AZ.refl _ _).alloc _).drew;have ASB:Lay W4 ([b]::bo sA::H8 rs::[]):=ALm.out.lay.sub (List.Sublist.cons_cons _ (List.Sublist.cons_cons _ (List.Sublist.cons _ (List.Sublist.cons_cons _ (List.nil_sublist _)))));have hsz:W4.heap.size<=wr.heap.size:=ALn.out
      have hA2: ∀x∈bo A2,x∈bo sA\/wr.heap.size<=x:=λx hx=>by
       rcases HN8.out x hx with h|h;exact .inl h;exact .inr (CY hcl.size h.1)
      have hro:Tc (w8.setCell ⟨b,0,AB⟩ (.slice A2 (i+1) c2)) b A2 c2 (rs++[(⟨Dz,oA,j,oc⟩,IU (0+Gs ((BF ds).take i)) ((BB GL).take j))]) fA fc sg Ls (KH ((BF ds).take i)++((BB GL).take j).map λx=>(x.2,[])) BG stop:=by
       refine (OE.out.CX hcl).dir (r:=(⟨Dz,oA,j,oc⟩,IU (0+Gs ((BF ds).take i)) ((BB GL).take j))) (w0:=W4) ASB (λk hk=>(ZE.out k hk).1) (HOO.out.Aj hcl Ew) (λk hk P hP hm=>?_) ((AGz.out.mono (L:=b::bo sA) (λx hx=>.inl (CO _ hx))).trans Y1.out (λx hx=>.inl (by simp at hx;simp[hx]))) ?_ ?_ (λx hx=>by
        rcases HN8.out x hx with h|h;exact .inl h
        exact .inr h.1)
       ·rcases BD.1 hP with rfl|hP;exact HOO.out.own_ne OE.out.KH Ar k hk hm;exact (ZE.out k hk).2 P hP hm
       ·rw[HRL.out];simpa using Zt.out
       have:=HO8.out.Aj Y1.out (λk hk hm=>HO8.out.GV sU.out Ar k hk (by simpa using hm));rw[sN,OB,HRL.out];exact this
      rw[MQ.out] at hro;obtain⟨rs2,wZ⟩: ∃x,x=rs++[((⟨Dz,oA,j,oc⟩:Ir),IU (0+Gs ((BF ds).take i)) (BB GL))]:=⟨_,rfl⟩;rw[<- wZ] at hro;refine⟨i+1,A2,c2,rs2,fA,fc,sg,Ls,Aa,by go_num,jZ Xz.out ZL.out ALl.out ASA.out,?_,?_,λx hx=>?_,?_⟩
      ·rw[take_snoc _ _ _ Xz.out,xN];exact hro
      rw[wZ,sK,HRV.out,take_snoc _ _ _ Xz.out,qc]
      ·rcases Ce.1 hx with h|h|h|h|⟨P,hP,h⟩;exact (I5.out x (Ce.2 (.inl h))).1
       ·rcases hA2 x h with h|h;exact (I5.out x (Ce.2 (.inr (.inl h)))).1;have:=PI.out.size;omega
       exact (I5.out x (Ce.2 (.inr (.inr (.inl h))))).1
       ·rw[wZ,Nw] at h;rcases Bd.1 h with h|h;exact (I5.out x (Ce.2 (.inr (.inr (.inr (.inl h)))))).1;have h1:=(ZE.out x h).1;have h2:=yC.out.size;omega
       exact (I5.out x (Ce.2 (.inr (.inr (.inr (.inr ⟨P,hP,h⟩)))))).1
      exact ((PI.out.Ah hcl).trans AGz.out (λx hx=>.inr (I5.out x (Ce.2 (.inr (.inl hx)))).1)).trans Y1.out (λx hx=>.inr (by
       simp only[CJ] at hx;subst hx
       exact (I5.out x (Ce.2 (.inl rfl))).1))
     simp[intOf];omega
 (obtain rfl:i=n:=by omega);have hall:(BF ds).take i=BF ds:=Ep (by have:=HD.out.row.MV;simp[EP] at this;simp[BF];omega);have HOK:Hid (Di (BF ds) BG=0):=AP (by rw[HE.out,<- hall];exact ZL.out);have sV:Hid (Tc wr b sA sc rs fA fc sg Ls (KH (BF ds)) BG stop):=AP (by have:=API.out;rwa[hall] at this);have APY:Hid (O1 rs=Gx 0 (BF ds)):=AP (by have:=HRV.out;rwa[hall] at this)
 have HRT:Hid (Q4 wr sA i sc rs):=AP (by
  refine⟨?_,λr hr=>(sV.out.Eb r hr).rd⟩;have:=sV.out.row.rd
  rwa[HRL.out] at this)
 have HFB:Hid (∀r∈rs,r.1.n<=1073741824):=AP (λr hr=>by
  have h1:=(HRT.out.Eb r hr).nml;(have h2:(r.1.nm,r.2)∈Gx 0 (BF ds):=by rw[<- APY.out];exact Bv.2 ⟨r,hr,rfl⟩);obtain⟨m,d,hd,e⟩:=Yf h2;have h3:=(TJ hd).1;have h4:r.2=IU m d.2:=congrArg Prod.snd e;rw[h4,xM] at h1;have h5:=HB.out
  omega)
 have c0:=sV.out.blk.cell 0;have c1:=sV.out.blk.cell 1;have f1:=sV.out.blk.frozen 1;simp only[Qn,aP,WG,HRL.out] at c0 c1;clear hall;(go_wp2_with fail);refine (AA8 sA i sc rs wr HRT.out hn HFB.out).mono ?_;rintro ee w3 ⟨A2,c2,ps,rfl,hrt,hpv,hc3,hn3⟩;have Ff:Hid (AZ [] wr w3):=AP hc3;have HB3:=AP (sV.out.blk.Aj Ff.out BH);have HPT:=AP hrt;have HPV:=AP hpv;have HN3:Hid (∀k∈bo A2++H8 ps,wr.heap.size<=k/\k<w3.heap.size):=AP hn3;have y3:=HB3.out.cell 1;have f3:=HB3.out.frozen 1;simp only[GG] at y3;clear hrt hpv hc3 hn3;have Y1:Hid (AZ [b] w3 (w3.setCell ⟨b,1,AB⟩ (.slice A2 i c2))):=AP ((AZ.refl _ _).setCell (.inl AV) _);have Zt:=AP (HB3.out.FX 1 (.slice A2 i c2));go_wp2
 go_ret2
 have hdone:=sV.out.done Ff.out (n:=i) HRL.out HPT.out HPV.out HN3.out Y1.out (by simpa[HRL.out] using Zt.out);rw[APY.out] at hdone;refine .inr ⟨HOK.out,_,?_,hdone,λx hx=>?_,(DX.out.Ah Ff.out).trans Y1.out (λx hx=>.inr ?_)⟩;rfl
 ·simp only[RfG.all,RfG.parts,JS,Xj,D9,Bd,KN,CJ] at hx;rcases hx with h|h|((h|h)|h)|⟨P,hP,h⟩;exact PG.out x (Ce.2 (.inl h));exact PG.out x (Ce.2 (.inr (.inr (.inl h))));exact PG.out x (Ce.2 (.inr (.inl h)));exact PG.out x (Ce.2 (.inr (.inr (.inr (.inl h)))))
  ·have h1:=(HN3.out x (Bd.2 h)).1;have:=DX.out.size;omega
  exact PG.out x (Ce.2 (.inr (.inr (.inr (.inr ⟨P,hP,h⟩)))))
 simp only[CJ] at hx;subst hx;exact PG.out x (Ce.2 (.inl rfl))
end
section
variable {f:LD}{gs:List LD}{L:List Nat}{b:Nat}{v:AQ}{w:AL}
theorem sW:Ety Ag 138 140 1 8 (.pointer AB):=.mk' AQ8 Aq rfl Ar
theorem sZ(v:AQ)(w:AL):(KJ (.iface 140 v) 39 140 true).run Ag w=.ok (.tuple #[v,.bool true]) w:=by kernel_rfl
theorem su(v:AQ)(w:AL):(KJ (.iface 140 v) 39 150 true).run Ag w=.ok (.tuple #[.pointer AB,.bool false]) w:=by kernel_rfl
theorem tC(v:AQ)(w:AL):(KJ (.iface 150 v) 39 140 true).run Ag w=.ok (.tuple #[.pointer AB,.bool false]) w:=by kernel_rfl
theorem tH(v:AQ)(w:AL):(KJ (.iface 150 v) 39 150 true).run Ag w=.ok (.tuple #[v,.bool true]) w:=by kernel_rfl
theorem yD(v:AQ)(w:AL):(KJ (.iface 51 v) 39 140 true).run Ag w=.ok (.tuple #[.pointer AB,.bool false]) w:=by kernel_rfl
theorem yE(v:AQ)(w:AL):(KJ (.iface 51 v) 39 150 true).run Ag w=.ok (.tuple #[.pointer AB,.bool false]) w:=by kernel_rfl
theorem tK(w:AL):(KJ .nilIface 39 140 true).run Ag w=.ok (.tuple #[.pointer AB,.bool false]) w:=by kernel_rfl
theorem tN(w:AL):(KJ .nilIface 39 150 true).run Ag w=.ok (.tuple #[.pointer AB,.bool false]) w:=by kernel_rfl
def AFl (w:AL) (f:LD) (e:FT) (w':AL):Prop:=∃A c b,e=.returned (.slice A 1 c)/\Rd w' 1 A 1 c [.pointer (AA ⟨b,0,AB⟩)]/\AZ [] w w'/\Bl w' b 142 #[.string f.op,.int .i64 f.pl,.iface 51 (.int .i64 f.cd)]
theorem AFm(h:RJ w b v f):Au Ag 67 #[v] w (AFl w f):=by
 obtain⟨rfl,hb,_⟩:=h;have HB:=AP hb;clear hb;have t1:=sZ;have t2:=su;have t3:=tC;have t4:=tH;have t5:=yD;have t6:=yE;have t7:=tK;have t8:=tN;go_enter AJ2,Tryz.ntmps67;go_wp2;refine wp_loop_rounds 2 ?_;rw[UX];(go_wp2_with (at_builtin;refine EW rfl _ _ rfl sW rfl (Own.nil _ _ _) rfl (Own.UK _ 140 1 #[.pointer (AA ⟨b,0,AB⟩)] 1 _ _ rfl rfl Ar rfl).rd (by simp[Kz]) OH Aa ?_;intro A1 c1 w1 hown EX hnew _;have hc1:AZ [] w w1:=((AZ.refl [] w).alloc _).trans EX AV;have hb1:=HB.out.Aj hc1 AV;have hk2:=hb1.cell 2;simp only[GG] at hk2));rw[UX];go_wp2;go_ret;exact⟨_,_,_,rfl,hown.rd,hc1,hb1⟩
theorem AIS{c d:Nat}{x y:AQ}{g:LD}(h0:Bl w b 152 #[x,y])(hx:RJ w c x f)(hy:RJ w d y g)(hg:Nv w):Au Ag 67 #[.iface 150 (.pointer (AA ⟨b,0,AB⟩))] w (AFl w f):=by
 have hn:=ADX (v:=x) (L:=[c]) (gs:=[]) hx hg;obtain⟨rfl,hb,_⟩:=hx;have HN:=AP hn;have HB:=AP hb;have HB0:=AP h0;have z0:=h0.cell 0;simp only[GG] at z0;have AVY:= @AQr;clear hn hb hy hg h0;have t1:=sZ;have t2:=su;have t3:=tC;have t4:=tH;have t5:=yD;have t6:=yE;have t7:=tK;have t8:=tN;go_enter AJ2,Tryz.ntmps67;go_wp2;refine wp_loop_rounds 3 ?_;rw[UX];(go_wp2_with fail);refine HN.out.mono ?_;rintro e wz ⟨rfl,hcz⟩;have HCZ:=AP hcz;clear hcz;go_wp2;rw[UX];(go_wp2_with (at_builtin;refine EW rfl _ _ rfl sW rfl (Own.nil _ _ _) rfl (Own.UK _ 140 1 #[.pointer (AA ⟨c,0,AB⟩)] 1 _ _ rfl rfl Ar rfl).rd (by simp[Kz]) OH Aa ?_;intro A1 c1 w1 hown EX hnew _;have hc1:AZ [] w w1:=(HCZ.out.alloc _).trans EX AV;have hb1:=HB.out.Aj hc1 AV;have hk2:=hb1.cell 2;simp only[GG] at hk2));rw[UX];go_wp2;go_ret;exact⟨_,_,_,rfl,hown.rd,hc1,hb1⟩
theorem ALu(h:JK w v L (f::gs))(hg:Nv w):Au Ag 67 #[v] w (AFl w f):=by
 unfold JK at h;split at h
 ·rename_i h0;cases h0
 ·rename_i h0;cases h0;exact AFm h
 ·rename_i h0;(cases h0);obtain⟨x,y,rfl,hb,hx,hy⟩:=h;exact AIS hb hx hy hg
 exact h.elim
theorem AFn(h:JK w v L (f::gs))(hg:Nv w):Au Ag 28 #[v] w λe w'=>e=.returned (.int .i64 f.pl)/\AZ [] w w':=by
 have HW:=AP (ALu h hg);have q67:= @ATQ;clear h hg;go_enter ANa,Tryz.ntmps28;(go_wp2_with fail);refine HW.out.mono ?_;rintro e w1 ⟨A,c,b,rfl,hrd,hc,hb⟩;obtain⟨ad,u,rfl,hu,hcell⟩:=hrd.gU (k:=0) Ar;simp at hu;subst hu;(have hcell0:w1.cell? ad=AA (.pointer (AA ⟨b,0,AB⟩)):=by simpa[UM] using hcell);have k1:=hb.cell 1;simp only[GG] at k1;clear hrd hb hcell;go_wp2;go_ret;exact⟨rfl,hc⟩
end
section
variable {e:FT}{D:FI}{q s:Int}{w w':AL}
theorem AAp.one(h:AAp w D q s e w'): ∃vp,e=.returned (.tuple #[vp,.int .i64 (Di D q)])/\AZ [] w w'/\
  ((Di D q≠0/\vp=.pointer AB)\/(Di D q=0/\∃G,vp=.pointer (AA ⟨G.b,0,AB⟩)/\EH w' G (Ei D q s)/\∀x∈G.all,w.heap.size<=x)):=by
 rcases h with ⟨h1,rfl,h2⟩|⟨h1,G,rfl,h2,h3,h4⟩;exact⟨_,rfl,h2,.inl ⟨h1,rfl⟩⟩;exact⟨_,by rw[h1],h4,.inr ⟨h1,G,rfl,h2,h3⟩⟩
theorem AA9.one(h:AA9 w D q s e w'): ∃vp,e=.returned (.tuple #[vp,.int .i64 (Di D q)])/\AZ [] w w':=by
 rcases h with ⟨h1,rfl,h2⟩|⟨h1,R,rfl,h2,h3,h4⟩;exact⟨_,rfl,h2⟩;exact⟨_,by rw[h1],h4⟩
def APZ (w:AL) (D:FI) (BG stop:Int) (e:FT) (w':AL):Prop:=
 (Di D BG≠0/\e=.returned (.tuple #[.pointer AB,.bool false])/\AZ [] w w')\/
 (Di D BG=0/\∃G,e=.returned (.tuple #[.pointer (AA ⟨G.b,0,AB⟩),.bool true])/\EH w' G (Ei D BG stop)/\(∀x∈G.all,w.heap.size<=x)/\AZ [] w w')
theorem AFo(w:AL)(A:Option Af)(n c:Nat)(ds:List DM)(BG stop:Int)(h:FY w A n c ds)(hn:n<=1073741824)(hb:Fj (BF ds)<=1073741824)
  (hfn: ∀x∈ds,x.1.n<=1073741824/\∀f∈x.2,f.1.n<=1073741824):
  Au Ag 13 #[.agg #[.slice A n c,.int .i64 BG],.int .i64 stop] w (APZ w (BF ds) BG stop):=by
 obtain⟨W,hW⟩: ∃W,w.alloc (.cells #[.slice A n c,.int .i64 BG] 24)=W:=⟨_,rfl⟩;obtain⟨sb,hsb⟩: ∃sb,w.heap.size=sb:=⟨_,rfl⟩;(have hcW:AZ [] w W:=by rw[<- hW];exact (AZ.refl [] w).alloc _);(have hbk:Bl W sb 24 #[.slice A n c,.int .i64 BG]:=by rw[<- hW,<- hsb];exact Bl.new w _ _);have b0:=hbk.cell 0;have b1:=hbk.cell 1;simp only[GG] at b0 b1;(have hl:ds.length=n:=by have:=h.row.MV;simpa[EP] using this);have HR:=AP (sQ W A n c ds BG stop (h.GH hcW) hn hb);have HD:=AP h;have HBK:=AP hbk;have HC:=AP hcW;have Z5:=AP hfn;have HB:=AP hb;have HL:=AP hl;have q9:= @VC9;have q35:= @AS6;have pK:= @AKL;clear h hb hfn hcW hbk hl;go_enter ANN,Tryz.ntmps13;(go_wp2_with fail);refine HR.out.mono ?_;rintro e wz hrf;obtain⟨vp,rfl,hcz⟩:=hrf.one;have TF:=AP (HC.out.Ah hcz);have H0:Hid (∀w',AZ [] wz w'->w'.cell? ⟨sb,0,AB⟩=AA (.slice A n c)):=AP λw' hc=>((HBK.out.Aj hcz AV).Aj hc AV).cell 0;have H1:Hid (∀w',AZ [] wz w'->w'.cell? ⟨sb,1,AB⟩=AA (.int .i64 BG)):=AP λw' hc=>((HBK.out.Aj hcz AV).Aj hc AV).cell 1;clear hrf hcz HR;by_cases he:Di (BF ds) BG=0
 ·have HE0:=AP he;rw[he];have ALv:Hid (∀w',AZ [] wz w'->Au Ag 35 #[.slice A n c] w' (dD w' (BF ds))):=AP λw' hc=>ADY A n c ds w' (HD.out.GH (TF.out.Ah hc)) hn Z5.out
  have ALw:Hid (∀w' A1 n1 c1 ds1,FY w' A1 n1 c1 ds1->BF ds1=BF ds->Au Ag 17 #[.slice A1 n1 c1,.int .i64 BG,.int .i64 stop] w' (AAp w' (BF ds) BG stop)):=AP λw' A1 n1 c1 ds1 hd hv=>by
   (have hl1:ds1.length=n:=by have:=congrArg Ky hv;simpa[BF,HL.out] using this);(have hl2:ds1.length=n1:=by have:=hd.row.MV;simpa[EP] using this);have:=qj w' A1 n1 c1 ds1 BG stop hd Aa (by rw[hv];exact HB.out);rwa[hv] at this
  clear he;(go_wp2_with fail);refine FU (S:=λw'=>AZ [] wz w') Aq ((AZ.refl _ _).drew) (λhHeld=>?_);refine tk 0 ?_;refine Gh 1 (λw' hSw=>H0.out _ hSw) ?_;refine tk 3 ?_;refine Gh 4 (λw' hSw=>H1.out _ hSw) ?_;refine tk 5 ?_;refine Em 2 λK hK=>?_;go_simp;refine (ALv.out _ hHeld).mono ?_;rintro e w1 ⟨A1,n1,c1,ds1,rfl,hO1,hv1,hc1,hn1⟩;have ALx:=AP (AZ.Ah hHeld hc1);have HV1:=AP hv1;have qI:=AP hO1;clear hO1 hv1 hc1 hn1;go_simp;refine hK.out _ _ (ALx.out) (λhHeld=>?_);(try simp only[BJ,Bh]);clear hK K;refine Em 6 λK hK=>?_;go_simp;refine (ALw.out _ A1 n1 c1 ds1 qI.out.rd HV1.out).mono ?_;rintro e w2 hfs;obtain⟨vp,rfl,hc2,hres⟩:=hfs.one;have rU:=AP (ALx.out.Ah hc2);have HC2:=AP hc2;have ALy:=AP hres;clear hfs hc2 hres;go_simp;refine hK.out _ _ (rU.out) (λhHeld=>?_);(try simp only[BJ,Bh]);clear hK K;refine tk 7 ?_;refine tk 8 ?_;refine tk 9 ?_;refine tk 10 ?_;refine tk 11 ?_;refine Eu Aq ?_ _;(try simp only[BJ,Bh]);rcases ALy.out with ⟨h1,h2⟩|⟨h1,G,rfl,h2,h3⟩;exact Ak HE0.out h1;rw[HE0.out];go_wp2
  go_ret2
  exact .inr ⟨HE0.out,G,rfl,h2,λx hx=>CY (CY TF.out.size ALx.out.size) (h3 x hx),TF.out.Ah rU.out⟩
 (have he1:(Di (BF ds) BG==0)=false:=by simp[he]);have HE:=AP he;clear he;go_wp2
 go_ret2
 exact .inl ⟨HE.out,rfl,TF.out⟩
end
section
variable {t:JL}{ts:List JL}{S:St}
theorem Inv.KI{B:Nat}{S:St}(h:Inv B S)(dst:ByteArray)(fs:List (ByteArray×List Int)):Inv (4*B+2*Wu fs+100) (S.KI dst fs).1:=by
 have h1:=h.clean;have h2:=h1.runT (Ec dst fs);rw[df] at h2;have h3:=h2.clean;unfold St.KI;split;exact h.mono Aa;split;exact h1.mono Aa;split;exact h2.mono Aa;exact h3.mono Aa
theorem aI{n:ByteArray}{xs:List Int}(h0:xs≠[])(h:xs.length<=512):S.act (.write n xs)=S.write BP n xs:=by
 show S.puts n (Vz xs)=_;unfold Vz;rw[AFa 511 xs h0 h];unfold St.puts;split
 ·rename_i h1;exact Jp rfl h1.symm
 rfl
theorem AIT(S:St):S.runT []=(S,[]):=rfl
theorem Fp(h:(S.act t.d).2=0):S.runT (t::ts)=(S.act t.d).1.runT ts:=by
 show (if (S.act t.d).2=0 then _ else _)=_;rw[BZ h]
theorem NP{c:Int}(h:(S.act t.d).2=c)(hc:c≠0):S.runT (t::ts)=((S.act t.d).1,[⟨t.op,t.pl,c⟩]):=by
 show (if (S.act t.d).2=0 then _ else _)=_;rw[BM (by rw[h];exact hc),h]
abbrev nA:ByteArray:={data:=#[97]}
abbrev nB:ByteArray:={data:=#[98]}
abbrev nD:ByteArray:={data:=#[100]}
def s0:St:=Ei [] 3 (-1)
def s1:St:=(s0.Cc BP).1
def s2:St:=(s1.create BP nA).1
def s3:St:=(s2.write BP nA [1,2]).1
def s4:St:=(s3.sync BP nA).1
def s5:St:=(s4.create BP nB).1
def s6:St:=(s5.write BP nB [3,4]).1
def s7:St:=s6.clean.1
def t1:St:=(s7.Cc BP).1
def t2:St:=(t1.create BP nA).1
def t3:St:=(t2.write BP nA [1,2]).1
def t4:St:=(t3.sync BP nA).1
def t5:St:=t4.names.1
def t6:St:=(t5.rename BP nD).1
def t7:St:=t6.names.1
theorem e0:Di [] 3=0:=by kernel_rfl
theorem c0:s0.clean=(s0,0):=by kernel_rfl
theorem c1:(s0.Cc BP).2=0:=by kernel_rfl
theorem c2:(s1.create BP nA).2=0:=by kernel_rfl
theorem c3:(s2.write BP nA [1,2]).2=0:=by kernel_rfl
theorem c4:(s3.sync BP nA).2=0:=by kernel_rfl
theorem c5:(s4.create BP nB).2=0:=by kernel_rfl
theorem c6:(s5.write BP nB [3,4]).2=85:=by kernel_rfl
theorem c7:s6.clean.2=0:=by kernel_rfl
theorem c8:s7.clean=(s7,0):=by kernel_rfl
theorem d1:(s7.Cc BP).2=0:=by kernel_rfl
theorem d2:(t1.create BP nA).2=0:=by kernel_rfl
theorem d3:(t2.write BP nA [1,2]).2=0:=by kernel_rfl
theorem d4:(t3.sync BP nA).2=0:=by kernel_rfl
theorem d5:t4.names.2=0:=by kernel_rfl
theorem d6:(t5.rename BP nD).2=0:=by kernel_rfl
theorem d7:t6.names.2=0:=by kernel_rfl
theorem d8:t7.clean=(t7,0):=by kernel_rfl
theorem v7:s7.view=[]:=by kernel_rfl
theorem w7:t7.view=[(nD,[(nA,[1,2])])]:=by kernel_rfl
theorem gD:CV nD=true:=by kernel_rfl
theorem nDs:nD≠BP:=by decide+kernel
theorem APa:s0.KI nD [(nA,[1,2]),(nB,[3,4])]=(s7,[⟨{data:=#[119,114,105,116,101]},1,85⟩]):=by
 have hr:s0.runT (Ec nD [(nA,[1,2]),(nB,[3,4])])=(s6,[⟨{data:=#[119,114,105,116,101]},1,85⟩]):=by
  unfold Ec iG;simp only[Ha,iF,Dp,D9,I9];have k1:s0.act .Cc=(s1,0):=Jp rfl c1;have k2:s1.act (.create nA)=(s2,0):=Jp rfl c2;(have k3:s2.act (.write nA [1,2])=(s3,0):=by rw[aI AV Ar];exact Jp rfl c3);have k4:s3.act (.sync nA)=(s4,0):=Jp rfl c4;have k5:s4.act (.create nB)=(s5,0):=Jp rfl c5;(have k6:s5.act (.write nB [3,4])=(s6,85):=by rw[aI AV Ar];exact Jp rfl c6);rw[Fp (by rw[k1]),k1,Fp (by rw[k2]),k2,Fp (by rw[k3]),k3,Fp (by rw[k4]),k4,Fp (by rw[k5]),k5,NP (by rw[k6]) Ar,k6];rfl
 unfold St.KI;rw[BM (by rw[gD];simp[nDs]),c0];simp only[ne_eq,not_true,if_false];rw[hr,BM AV];show (s7,_++Ko s6.clean.2)=_;rw[c7];rfl
theorem APb:s7.KI nD [(nA,[1,2])]=(t7,[]):=by
 have hr:s7.runT (Ec nD [(nA,[1,2])])=(t7,[]):=by
  unfold Ec iG Oy;simp only[Ha,iF,Dp,D9,I9];have k1:s7.act .Cc=(t1,0):=Jp rfl d1;have k2:t1.act (.create nA)=(t2,0):=Jp rfl d2;(have k3:t2.act (.write nA [1,2])=(t3,0):=by rw[aI AV Ar];exact Jp rfl d3);have k4:t3.act (.sync nA)=(t4,0):=Jp rfl d4;have k5:t4.act .names=(t5,0):=Jp rfl d5;have k6:t5.act (.rename nD)=(t6,0):=Jp rfl d6;have k7:t6.act .names=(t7,0):=Jp rfl d7;rw[Fp (by rw[k1]),k1,Fp (by rw[k2]),k2,Fp (by rw[k3]),k3,Fp (by rw[k4]),k4,Fp (by rw[k5]),k5,Fp (by rw[k6]),k6,Fp (by rw[k7]),k7,AIT]
 unfold St.KI;rw[BM (by rw[gD];simp[nDs]),c8];simp only[ne_eq,not_true,if_false];rw[hr,BZ rfl]
end
theorem ER.take{w:AL}{A:Option Af}{n c:Nat}{fs:List FM}(h:ER w A n c fs){k:Nat}(hk:k<=n):ER w A k c (fs.take k):=by
 refine⟨?_,λf hf=>h.dat f (AF3 hf)⟩;have:=h.row.take hk
 have e:(Ho (EZ fs)).take (k*2)=Ho (EZ (fs.take k)):=by
  unfold Ho EZ
  have: ∀(l:List FM) (k:Nat),((l.map (·.1)).flatMap Ir.cells).take (k*2)=((l.take k).map (·.1)).flatMap Ir.cells:=by
   intro l
   induction l with
   |nil=>intro k;simp
   |cons x r ih=>
    intro k
    cases k with
    |zero=>simp|succ k=>
     rw[BN,Tm,show (k+1)*2=k*2+2 by omega];rw[mQ,BN,Tm,<- ih k];rfl
  exact this fs k
 rw[e] at this;exact this
theorem AFp(w:AL): ∃W,((w.alloc (.cells #[.int .u8 1,.int .u8 2] 5)).alloc (.cells #[.int .u8 3,.int .u8 4] 5)).alloc (.cells #[.string nA,.slice (AA ⟨w.heap.size,0,AB⟩) 2 2,.string nB,.slice (AA ⟨w.heap.size+1,0,AB⟩) 2 2] 64)=W/\AZ [] w W/\W.heap.size=w.heap.size+3/\
  ER W (AA ⟨w.heap.size+2,0,AB⟩) 2 2 [(⟨nA,AA ⟨w.heap.size,0,AB⟩,2,2⟩,[1,2]),(⟨nB,AA ⟨w.heap.size+1,0,AB⟩,2,2⟩,[3,4])]/\
  ∀x∈bo (AA ⟨w.heap.size+2,0,AB⟩)++Gg [(⟨nA,AA ⟨w.heap.size,0,AB⟩,2,2⟩,[1,2]),(⟨nB,AA ⟨w.heap.size+1,0,AB⟩,2,2⟩,[3,4])],w.heap.size<=x/\x<W.heap.size:=by
 (have hs:(((w.alloc (.cells #[.int .u8 1,.int .u8 2] 5)).alloc (.cells #[.int .u8 3,.int .u8 4] 5)).alloc (.cells #[.string nA,.slice (AA ⟨w.heap.size,0,AB⟩) 2 2,.string nB,.slice (AA ⟨w.heap.size+1,0,AB⟩) 2 2] 64)).heap.size=w.heap.size+3:=by simp);refine⟨_,rfl,(((AZ.refl [] w).alloc _).alloc _).alloc _,hs,⟨?_,?_⟩,λx hx=>?_⟩
 ·have:=Own.UK ((w.alloc (.cells #[.int .u8 1,.int .u8 2] 5)).alloc (.cells #[.int .u8 3,.int .u8 4] 5)) 64 2 #[.string nA,.slice (AA ⟨w.heap.size,0,AB⟩) 2 2,.string nB,.slice (AA ⟨w.heap.size+1,0,AB⟩) 2 2] 2 (w.heap.size+2) _ AV rfl Ar rfl;exact this.rd
 ·intro f hf;simp only[BD,BH,or_false] at hf;rcases hf with rfl|rfl
  ·have:=Own.UK w 5 1 #[.int .u8 1,.int .u8 2] 2 w.heap.size _ rfl rfl Ar rfl;exact (this.Aj (((AZ.refl [] _).alloc _).alloc _) AV).rd
  have:=Own.UK (w.alloc (.cells #[.int .u8 1,.int .u8 2] 5)) 5 1 #[.int .u8 3,.int .u8 4] 2 (w.heap.size+1) _ AV rfl Ar rfl;exact (this.Aj ((AZ.refl [] _).alloc _) AV).rd
 rw[hs];simp[bo,Gg] at hx;omega
theorem i7:Inv 148 s7:=by
 have:=(OD (D:=[]) (BG:=3) (stop:= -1) e0 Ar).KI nD [(nA,[1,2]),(nB,[3,4])];change Inv 148 (s0.KI nD [(nA,[1,2]),(nB,[3,4])]).1 at this;rw[APa] at this;exact this
theorem i8:Inv 716 t7:=by
 have:=i7.KI nD [(nA,[1,2])];rw[APb] at this;exact this
theorem ADj(w:AL)(hg:Nv w):Au Ag 8 #[] w λe w'=>e=.returned (.bool true)/\AZ [] w w':=by
 have HG:=AP hg;have pK:= @AKL;have uj:= @AOM;have q18:= @ASx;have q28:= @AS1;have q20:= @AON;have q21:= @AGX;clear hg;go_enter VF8,Tryz.ntmps8;(go_wp2_with fail);have hd0:FY w AB 0 0 []:=⟨Rd.nil w 2,λd hd=>by cases hd⟩;refine (qj w AB 0 0 [] 3 (-1) hd0 Ar Ar).mono ?_;rintro e w1 hfs;obtain⟨vp,rfl,hc1,hres⟩:=hfs.one;have e0':Di (BF []) 3=0:=e0;rw[e0'];rcases hres with ⟨h,_⟩|⟨_,G,rfl,hF,hN⟩
 ·exact Ak e0' h
 have HF:=AP hF;have HN:=AP hN;have CZ:=AP hc1;obtain⟨W,hW,hcW,hzW,hfW,hlW⟩:=AFp w1;have HFW:=AP hfW;have Ql:=AP hcW;have HZW:=AP hzW;clear hF hN hc1 hfs hd0 e0' hcW hzW hfW;unfold nA nB at hW;(go_wp2_with fail);have HLW:=AP hlW;clear hlW;have hlt:=HF.out.lt;refine (X6 (HF.out.CX Ql.out) (OD (D:=BF []) (BG:=3) (stop:= -1) e0 Ar) HFW.out (λx hx hm=>by have:=(HLW.out x hx).1;have:=hlt x hm;omega) (λx hx=>(HLW.out x hx).2) AV (show (4*0+2*24+100:Nat)<=1073741824 by decide)).mono ?_;intro e w2 he2;change TK W G (s0.KI nD [(nA,[1,2]),(nB,[3,4])]).1 (s0.KI nD [(nA,[1,2]),(nB,[3,4])]).2 e w2 at he2;rw[APa] at he2;obtain⟨v,G2,L,rfl,hev,hf2,hb2,AFq,hc2,hL2⟩:=he2;have hN:=HN.out;have hG0: ∀x∈G.all,w.heap.size<=x:=hN;have h0:(0:Nat)<w.heap.size:=UU _ _ HG.out;(have hne0: ∀x∈G.all,x≠0:=λx hx=>by have:=hG0 x hx;omega);have HC2:Hid (AZ G.all w1 w2):=AP ((Ql.out.nil _).trans hc2 λx hx=>.inl hx);have HG2:Hid (Nv w2):=AP (HC2.out.cell (CZ.out.cell HG.out AV) (λhm=>hne0 _ hm rfl));have HEV:=AP hev;have HF2:=AP hf2;have HB2:=AP hb2
 have HA2:Hid (∀x∈G2.all,w.heap.size<=x):=AP λx hx=>by
  rcases AFq x hx with h|h;exact hG0 x h;have:=Ql.out.size;have:=CZ.out.size;omega
 have HD2:Hid (∀x∈bo (AA ⟨w1.heap.size+2,0,AB⟩)++Gg [(⟨nA,AA ⟨w1.heap.size,0,AB⟩,2,2⟩,[1,2]),(⟨nB,AA ⟨w1.heap.size+1,0,AB⟩,2,2⟩,[3,4])],x∉G.all/\x∉G2.all):=AP λx hx=>by
  have h1:=HLW.out x hx;(have h2:x∉G.all:=λhm=>by have:=hlt x hm;omega);refine⟨h2,λhm=>?_⟩;rcases AFq x hm with h|h;exact h2 h;omega
 have kQ:Hid (ER w2 (AA ⟨w1.heap.size+2,0,AB⟩) 2 2 [(⟨nA,AA ⟨w1.heap.size,0,AB⟩,2,2⟩,[1,2]),(⟨nB,AA ⟨w1.heap.size+1,0,AB⟩,2,2⟩,[3,4])]):=AP (HFW.out.Aj hc2 λx hx=>(HD2.out x hx).1);have HL2:Hid (W.heap.size<=w2.heap.size):=AP hc2.size;clear hN hG0 h0 hne0 hev hf2 hb2 AFq hc2 hL2 hlt;clear hW;(go_wp2_with fail);refine (AIL HEV.out HG2.out).mono ?_;rintro e w3 ⟨rfl,hc3⟩;have Ff:=AP hc3;clear hc3;(go_wp2_with fail);refine (AFn (HEV.out.Aj Ff.out AV) (Ff.out.cell HG2.out AV)).mono ?_;rintro e w4 ⟨rfl,hc4⟩;have JD:=AP (Ff.out.Ah hc4);clear hc4;(go_wp2_with fail);have TY:=AP (HF2.out.CX JD.out);have hv:=qi TY.out i7 Ar;rw[HB2.out,v7] at hv;refine hv.mono ?_;clear hv;rintro e w5 ⟨A5,n5,c5,ds5,rfl,hd5,hv5,hc5,_⟩
 have hn5:n5=0:=by
  have h1:=hd5.rd.row.MV;(have h2:ds5=[]:=by simpa[BF] using hv5);subst h2;simpa[EP] using h1.symm
 subst hn5;have MW:=AP (JD.out.Ah hc5);have HF5:=AP (TY.out.CX hc5);clear hd5 hv5 hc5;go_wp2_with fail
 have hp:=X6 HF5.out i7 (dst:=nD) ((kQ.out.GH MW.out).take (k:=1) Ar) (λx hx=>(HD2.out x (by simp[bo,Gg] at hx⊢;omega)).2) (λx hx=>by
  have h1:=(HLW.out x (by simp[bo,Gg] at hx⊢;omega)).2;have h2:=HL2.out;have h3:=MW.out.size
  omega) AV (show (4*148+2*12+100:Nat)<=1073741824 by decide)
 rw[HB2.out] at hp;refine hp.mono ?_;clear hp;intro e w6 he6;change TK w5 G2 (s7.KI nD [(nA,[1,2])]).1 (s7.KI nD [(nA,[1,2])]).2 e w6 at he6;rw[APb] at he6;obtain⟨v6,G6,L6,rfl,hev6,hf6,hb6,ALz,hc6,hL6⟩:=he6;change JK w6 v6 L6 [] at hev6;have hv6:v6=.nilIface:=hev6.nil_;subst hv6;have HF6:=AP hf6;have TZ:Hid (G6.b=G.b):=AP (hb6.trans HB2.out);have Jh:Hid (AZ [] w w6):=AP (((CZ.out.trans HC2.out λx hx=>.inr (HN.out x hx)).Ah MW.out).trans hc6 λx hx=>.inr (HA2.out x hx));clear hev6 hf6 hb6 hc6 hL6;(go_wp2_with fail);have hv:=qi HF6.out i8 Ar;rw[TZ.out,w7] at hv;refine hv.mono ?_;clear hv;rintro e w8 ⟨A8,n8,c8,ds8,rfl,hd8,hv8,hc8,_⟩;have HC8:=AP (Jh.out.Ah hc8);have HF8:=AP (HF6.out.CX hc8);clear hc8
 obtain⟨d,rfl,hdn⟩: ∃d,ds8=[d]/\(d.1.nm,BB d.2)=(nD,[(nA,[1,2])]):=by
  unfold BF at hv8;obtain⟨d,hd,h1⟩:=AF4.1 hv8;exact⟨d,hd,h1⟩
 obtain⟨hnm,hfv⟩:=OM .. ▸hdn;obtain⟨f,hfl,hfe⟩:=AF4.1 hfv
 have hn8:n8=1:=by
  have h1:=hd8.rd.row.MV;simpa[EP] using h1.symm
 subst hn8;obtain⟨ad,rfl,hat⟩:=hd8.rd.row.ns (j:=0) (x:=d.1) rfl;have x0:=hat.c0;have x1:=hat.c1;rw[hnm] at x0
 have hn9:d.1.n=1:=by
  have h1:=(hd8.rd.Eb d AV).row.MV;rw[hfl] at h1;simpa[EZ] using h1.symm
 rw[hn9] at x1;obtain⟨dA,hdA⟩: ∃dA,d.1.A=dA:=⟨_,rfl⟩;obtain⟨dc,hdc⟩: ∃dc,d.1.c=dc:=⟨_,rfl⟩;rw[hdA,hdc] at x1;have hz:ad.add (0*2)=ad:=rfl;rw[hz] at x0 x1;clear hd8 hat hfl hfe hnm hdn hv8 hfv hn9 hdA hdc;unfold nD at x0;(go_wp2_with fail);have hcl:=Yl HF8.out i8 Ar;rw[TZ.out,d8] at hcl;refine hcl.mono ?_;clear hcl;intro e w9 he9;obtain⟨v9,G9,L9,rfl,AL0,hf9,hb9,ASC,Y2,hL9⟩:=he9;change JK w9 v9 L9 [] at AL0;have hv9:v9=.nilIface:=AL0.nil_;subst hv9
 have kU:Hid (AZ [] w w9):=AP (HC8.out.trans Y2 λx hx=>by
  rcases ALz x hx with h|h;exact .inr (HA2.out x h);have:=(CZ.out.trans HC2.out λx hx=>.inr (HN.out x hx)).size;have:=MW.out.size
  exact .inr Aa)
 clear AL0 hf9 hb9 ASC Y2 hL9 ALz;go_wp2;go_ret;exact⟨rfl,kU.out⟩
section
variable {D:FI}{q:Int}{B:Nat}{S:St}{T:Tr}{α:Type}
theorem TP(k:ByteArray)(v:α)(t:List (ByteArray×α)):without (Dh k v t) k=without t k:=by
 induction t with
 |nil=>simp[Dh,without]|cons p r ih=>
  rw[Dh];split;rw[Ed,BZ rfl];rw[Ed,Ed,ih]
theorem V7(k:ByteArray)(t:List (ByteArray×α)):without (without t k) k=without t k:=JJ (Ju k)
def EF.AG5:EF->Prop
 | .Cc d=>d=BP| .create d _ _=>d=BP| .rename _ _=>False| .remove d _=>d=BP| .rmdir d=>d=BP
theorem EF.AL1{c:EF}(h:c.AG5):without (c.on T) BP=without T BP:=by
 cases c with|rename a b=>exact h.elim|Cc d=>subst h;exact TP _ _ _|create d n i=>subst h;exact (TP _ _ _).trans (V7 _ _)|remove d n=>subst h;exact (TP _ _ _).trans (V7 _ _)|rmdir d=>subst h;exact V7 _ _
theorem iM: ∀{cs:List EF} {T:Tr},(∀c∈cs,c.AG5)->without (IC T cs) BP=without T BP
 | [],T,h=>rfl|c::r,T,h=>(iM (cs:=r) (T:=c.on T) λx hx=>h x (CO _ hx)).trans (EF.AL1 (h c (D7 ..)))
structure Kept (U:Tr) (M:Nat) (f0:Nat->List Int) (S:St):Prop where
 safe:without S.safe BP=U
 ED: ∀c∈S.ED,c.AG5
 run:IC S.safe S.ED=S.seen
 len:M<=S.files.length
 ids: ∀p∈U,∀q∈p.2,q.2<M
 Eb: ∀i<M,S.files.getD i ([],[])=(f0 i,[])
variable {U:Tr} {M:Nat} {f0:Nat->List Int} {S:St}
theorem Kept.seen(h:Kept U M f0 S):without S.seen BP=U:=by rw[<- h.run,iM h.ED,h.safe]
theorem VK(T:Tr)(g:Nat->List Int)(nm:ByteArray):MH nm (T.map λp=>(p.1,p.2.map λq=>(q.1,g q.2)))=(without T nm).map λp=>(p.1,p.2.map λq=>(q.1,g q.2)):=by
 unfold MH without;rw[lJ];congr 1;apply lG;intro p _;simp
theorem Yo{g g':Nat->List Int}(h: ∀p∈T,∀q∈p.2,g q.2=g' q.2):(T.map λp=>(p.1,p.2.map λq=>(q.1,g q.2)))=T.map λp=>(p.1,p.2.map λq=>(q.1,g' q.2)):=by
 apply Hu;intro p hp;congr 1;apply Hu;intro q hq;exact congrArg _ (h p hp q hq)
theorem Kept.bytes(h:Kept U M f0 S){i:Nat}(hi:i<M):S.bytes i=f0 i:=by
 unfold St.bytes;rw[h.Eb i hi];simp[Ee.all]
theorem Kept.left(h:Kept U M f0 S)(ks:List Bool)(names:Int):MH BP (S.left ks names)=U.map λp=>(p.1,p.2.map λq=>(q.1,f0 q.2)):=by
 unfold St.left;rw[VK,iM (λc hc=>h.ED c (AF3 hc)),h.safe];apply Yo;intro p hp q hq;have hi:=h.ids p hp q hq;rw[dS (by rw[h.Eb _ hi]),h.bytes hi]
theorem Kept.view(h:Kept U M f0 S)(hd:S.down=false):MH BP S.view=U.map λp=>(p.1,p.2.map λq=>(q.1,f0 q.2)):=by
 rw[ADF hd,VK,h.seen];exact Yo λp hp q hq=>h.bytes (h.ids p hp q hq)
theorem Kept.make(h:Kept U M f0 S){c:EF}(hc:c.AG5):Kept U M f0 (S.make c):=by
 refine⟨h.safe,λx hx=>?_,?_,h.len,h.ids,h.Eb⟩
 ·rcases Bd.1 hx with hx|hx;exact h.ED x hx;rw[CJ.1 hx];exact hc
 show IC S.safe (S.ED++[c])=c.on S.seen;rw[TC,h.run]
theorem Kept.remove(h:Kept U M f0 S)(n:ByteArray):Kept U M f0 (S.remove BP n).1:=by
 unfold St.remove;split;exact h;exact h.make rfl
theorem Kept.rmdir(h:Kept U M f0 S):Kept U M f0 (S.rmdir BP).1:=by
 unfold St.rmdir;split;exact h;split;exact h;exact h.make rfl
theorem Kept.names(h:Kept U M f0 S):Kept U M f0 S.names.1:=by
 unfold St.names;split;exact h;exact⟨h.seen,λc hc=>(BH hc).elim,rfl,h.len,h.ids,h.Eb⟩
theorem Kept.EL(h:Kept U M f0 S): ∀l:List ByteArray,Kept U M f0 (St.EL BP S l).1:=by
 intro l
 induction l generalizing S with
 |nil=>exact h|cons n r ih=>
  unfold St.EL;split;exact ih (h.remove n);exact h.remove n
theorem Kept.clean(h:Kept U M f0 S):Kept U M f0 S.clean.1:=by
 unfold St.clean St.MG;split
 ·split
  ·split
   ·split
    ·split;exact (h.EL _).rmdir.names;exact (h.EL _).rmdir
    exact h.EL _
   exact h
  exact h
 exact h
structure GM (S S':St):Prop where
 files:S'.files=S.files
 wr:S'.wr=S.wr
 BG:S'.BG=S.BG
 stop:S'.stop=S.stop
theorem GM.refl(S:St):GM S S:=⟨rfl,rfl,rfl,rfl⟩
theorem GM.trans{S S1 S2:St}(h:GM S S1)(k:GM S1 S2):GM S S2:=⟨k.1.trans h.1,k.2.trans h.2,k.3.trans h.3,k.4.trans h.4⟩
theorem GM.remove(S:St)(d n:ByteArray):GM S (S.remove d n).1:=by
 unfold St.remove;split<;>exact⟨rfl,rfl,rfl,rfl⟩
theorem GM.rmdir(S:St)(d:ByteArray):GM S (S.rmdir d).1:=by
 unfold St.rmdir;split;exact .refl S;split<;>exact⟨rfl,rfl,rfl,rfl⟩
theorem GM.names(S:St):GM S S.names.1:=by
 unfold St.names;split<;>exact⟨rfl,rfl,rfl,rfl⟩
theorem GM.EL(d:ByteArray): ∀(l:List ByteArray) (S:St),GM S (St.EL d S l).1
 | [],S=>.refl S
 |n::r,S=>by
  unfold St.EL;split;exact (GM.remove S d n).trans (GM.EL d r _);exact GM.remove S d n
theorem GM.clean(S:St):GM S S.clean.1:=by
 unfold St.clean St.MG;split
 ·split
  ·split
   ·split
    ·split;exact ((GM.EL _ _ _).trans (GM.rmdir _ _)).trans (GM.names _);exact (GM.EL _ _ _).trans (GM.rmdir _ _)
    exact GM.EL _ _ _
   exact .refl S
  exact .refl S
 exact .refl S
theorem iO{s:ByteArray}:(idx s (T.map Ac)).isSome=(BK T s).isSome:=by
 rw[ADJ];by_cases h:s∈T.map Ac;rw[IM.2 h];simpa using h;rw[Eh.2 h];simpa using h
theorem ADk{d:ByteArray}(h:(S.rmdir d).2=0):BK (S.rmdir d).1.seen d=AB:=by
 unfold St.rmdir at h⊢;split
 ·rename_i h0;rw[BZ h0] at h;exact Ak h h0
 rename_i h0;rw[BM h0] at h;split
 ·rename_i h1;rw[BZ h1] at h;cases h
 exact Eh.2 (Ju d)
theorem ji(h:S.clean.2=0):BK S.clean.1.seen BP=AB:=by
 unfold St.clean St.MG at h⊢;split
 ·rename_i h0;rw[BZ h0] at h;split
  ·rename_i h1;rw[BZ h1] at h;split
   ·rename_i h2;rw[BZ h2] at h;split
    ·rename_i h3;rw[BZ h3] at h;split
     ·rename_i h4;rw[BZ h4] at h;have:=ADk h4;unfold St.names;split<;>exact this
     rename_i h4;rw[BM h4] at h;exact Ak h h4
    rename_i h3;rw[BM h3] at h;exact Ak h h3
   rename_i h2;rw[BM h2] at h;exact Ak h h2
  rename_i h1;unfold St.LY at h0 h1;split at h0;(cases h0);rename_i hd;rw[BM hd,iO] at h1;simpa using h1
 rename_i h0;rw[BM h0] at h;exact Ak h h0
def Quiet (S:St):Prop:=S.safe=S.seen/\S.ED=[]
theorem ABB(h:S.names.2=0):Quiet S.names.1:=by
 unfold St.names at h⊢;split
 ·rename_i h0;rw[BZ h0] at h;cases h
 exact⟨rfl,rfl⟩
theorem ABC(h:S.clean.2=0)(hq:Quiet S):Quiet S.clean.1:=by
 unfold St.clean St.MG at h⊢;split
 ·rename_i h0;rw[BZ h0] at h;split
  ·rename_i h1;rw[BZ h1] at h;split
   ·rename_i h2;rw[BZ h2] at h;split
    ·rename_i h3;rw[BZ h3] at h;split
     ·rename_i h4;rw[BZ h4] at h;exact ABB h
     rename_i h4;rw[BM h4] at h;exact Ak h h4
    rename_i h3;rw[BM h3] at h;exact Ak h h3
   exact hq
  exact hq
 exact hq
theorem yF: ∀(l:List ByteArray) {S:St} {F:Jv},S.stop<0->BK S.seen BP=AA F->(F.map Ac).Nodup->l.Nodup->(∀n,n∈l↔n∈F.map Ac)->(∀q∈F,CV q.1=true)->
  (St.EL BP S l).2=0/\BK (St.EL BP S l).1.seen BP=AA []
 | [],S,F,hs,hF,h1,h2,h3,h4=>by
  cases F with|nil=>exact⟨rfl,hF⟩|cons q r=>exact Ak ((h3 q.1).2 AV) AV
 |n::r,S,F,hs,hF,h1,h2,h3,h4=>by
  obtain⟨hn,hr⟩:=II.1 h2;have hm:=(h3 n).1 (D7 ..);obtain⟨q,hq,oD⟩:=Bv.1 hm;(have hg:CV n=true:=by rw[<- oD];exact h4 q hq);have hag:BK F n=AA q.2:=by rw[<- oD];exact LX h1 hq
  have hf:S.Ov BP n=(AA q.2,0):=by
   unfold St.Ov;rw[Yi (MF hs) (by simp[hg,show CV BP=true by kernel_rfl]) hF,BM AV,FP hF,hag]
  have he:S.remove BP n=(S.make (.remove BP n),0):=by
   unfold St.remove;rw[hf]
  unfold St.EL;rw[he,BZ rfl];refine yF r (F:=without F n) (S:=S.make (.remove BP n)) hs ?_ ?_ hr ?_ ?_
  ·show BK (Dh BP (without (FO S.seen BP) n) (without S.seen BP)) BP=_;rw[TE,BZ rfl,FP hF]
  exact h1.sublist (List.filter_sublist.map _)
  ·intro m;constructor
   ·intro hm;obtain⟨p,hp,rfl⟩:=Bv.1 ((h3 m).1 (CO _ hm));exact Bv.2 ⟨p,FK.2 ⟨hp,λe=>hn (by rw[<- e];exact hm)⟩,rfl⟩
   intro hm;obtain⟨p,hp,rfl⟩:=Bv.1 hm;obtain⟨hp,hne⟩:=FK.1 hp;rcases BD.1 ((h3 p.1).2 (Bv.2 ⟨p,hp,rfl⟩)) with h|h;exact Ak h hne;exact h
  exact λp hp=>h4 p (FK.1 hp).1
theorem SG:CV BP=true:=by kernel_rfl
theorem ADl(hs:S.stop<0)(hi:Inv B S):S.clean.2=0:=by
 have hd:=MF hs;(have hds:S.LY=(S.seen.map Ac,0):=by unfold St.LY;rw[BM (by simp[hd])]);unfold St.clean;rw[hds,BZ rfl,iO];split
 ·rename_i h1;obtain⟨F,hF⟩:=AFy.1 h1
  have hl:S.list BP=(F.map Ac,0):=by
   unfold St.list;rw[Yi hd (by simp[SG]) hF,BM AV,FP hF]
  rw[hl,BZ rfl];have hv:=hi.val.Xm BP;rw[FP hF] at hv;obtain⟨k1,k2⟩:=yF (F.map Ac) hs hF hv.1.nodup hv.1.nodup (λ_=>mg) hv.2.2;unfold St.MG;rw[BZ k1];have hs1:(St.EL BP S (F.map Ac)).1.stop<0:=by rw[(GM.EL BP _ S).stop];exact hs
  have hr:(St.rmdir (St.EL BP S (F.map Ac)).1 BP).2=0:=by
   unfold St.rmdir;rw[Yi (MF hs1) (by simp[SG]) k2,BM AV,FP k2,BM AV]
  rw[BZ hr];unfold St.names;rw[BM];rw[MF (by rw[(GM.rmdir _ _).stop];exact hs1)];simp
 rfl
theorem ADm(hs:S.stop<0)(h:BK S.seen BP=AB):S.clean=(S,0):=by
 have hd:=MF hs;(have hds:S.LY=(S.seen.map Ac,0):=by unfold St.LY;rw[BM (by simp[hd])]);unfold St.clean;rw[hds,BZ rfl,iO,h];rfl
theorem Kept.open_{s:Int}(h:Di D q=0):Kept (without (Gx 0 D) BP) (Gs D) (λi=>(dat D).getD i []) (Ei D q s):=by
 refine⟨rfl,λc hc=>(BH hc).elim,rfl,by simp[Ei,TG],λp hp q hq=>?_,λi hi=>?_⟩
 ·have:=Ye p (FK.1 hp).1 q hq;omega
 have hl:i<(dat D).length:=by
  have:=TG D;rw[ADE,DY] at this;omega
 rw[open_bytes (CB hl)];simp[Gj,hl]
theorem ADn(D:FI)(q s:Int):Quiet (Ei D q s):=⟨rfl,rfl⟩
theorem iP(h:Di D q=0):((without (Gx 0 D) BP).map λp=>(p.1,p.2.map λq=>(q.1,(λi=>(dat D).getD i []) q.2)))=MH BP D:=by
 refine (VK (Gx 0 D) (λi=>(dat D).getD i []) BP).symm.trans ?_;congr 1;exact AH6 (λi=>(dat D).getD i []) λk x hk=>by simp[Gj,hk]
theorem AFr(nm:ByteArray)(D:FI):Fj (MH nm D)<=Fj D:=by
 unfold Fj MH
 induction D with
 |nil=>simp|cons d r ih=>
  rw[XC];split;simp only[BN,CE] at ih⊢;omega;simp only[BN,CE] at ih⊢;omega
theorem clean_nil{w:AL}{G:Bi}(h:EH w G S)(hi:Inv B S)(hB:2*B+2<=1073741824)(h0:S.clean.2=0):
  Au Ag 21 #[.pointer (AA ⟨G.b,0,AB⟩)] w λe w'=>e=.returned .nilIface/\DK w G S.clean.1 w':=by
 have hp:=Yl h hi hB;rw[h0] at hp;refine hp.mono ?_;rintro e w' ⟨v,G',L,rfl,hev,hf,hb,hall,hc,hL⟩;exact⟨by rw[JK.nil_ hev],G',hf,hb,hall,hc⟩
theorem vK(h:Di D q=0)(hq:q<=9223372036854775807)(ks:List Bool)(names:Int):
  (Ei D q (-1)).clean.2=0/\(Ei D q (-1)).clean.1.view=MH BP D/\(Ei D q (-1)).clean.1.left ks names=MH BP D/\(Ei D q (-1)).clean.1.clean=((Ei D q (-1)).clean.1,0):=by
 have hk:=(Kept.open_ (s:= -1) h).clean;have h0:(Ei D q (-1)).clean.2=0:=ADl (S:=Ei D q (-1)) (show (-1:Int)<0 by decide) (OD h hq);have hg:=ji h0;(have hs:(Ei D q (-1)).clean.1.stop<0:=by rw[(GM.clean _).stop];exact (show (-1:Int)<0 by decide));obtain⟨q1,q2⟩:=ABC h0 (ADn D q (-1));have e1:=hk.view (MF hs);have e2:=hk.left ks names
 have w1: ∀{T:Tr} (g:Nat->List Int),BK T BP=AB->MH BP (T.map λp=>(p.1,p.2.map λq=>(q.1,g q.2)))=T.map λp=>(p.1,p.2.map λq=>(q.1,g q.2)):=by
  intro T g hT;rw[VK,JJ (Eh.1 hT)]
 refine⟨h0,?_,?_,ADm hs hg⟩;rw[<- iP h,<- e1,ADF (MF hs),w1 _ hg];rw[<- iP h,<- e2];unfold St.left;rw[q2,lK];show _=MH BP ((IC _ []).map _);rw[w1];show BK (Ei D q (-1)).clean.1.safe BP=AB;rw[q1];exact hg
end
section
variable {F:Jv}{T:Tr}{α β:Type}
abbrev OL:=List (ByteArray×List Int)
def O3 (fs:OL):OL:=fs.foldl (λa x=>Dh x.1 x.2 a) []
theorem tV(fs:OL)(x:ByteArray×List Int):O3 (fs++[x])=Dh x.1 x.2 (O3 fs):=by unfold O3;rw[List.foldl_append];rfl
theorem V8(fs:OL):(O3 fs).Perm fs:=by
 have h: ∀(fs a:OL),(fs.foldl (λa x=>Dh x.1 x.2 a) a).Perm (a++fs):=by
  intro fs
  induction fs with
  |nil=>intro a;simp
  |cons x r ih=>
   intro a;refine (ih _).trans (((Hm x.1 x.2 a).append_right r).trans ?_);exact List.perm_middle.symm
 have:=h fs [];rw[D9] at this;exact this
theorem aJ(g:α->β)(n:ByteArray)(i:α)(F:List (ByteArray×α)):(Dh n i F).map (λq=>(q.1,g q.2))=Dh n (g i) (F.map λq=>(q.1,g q.2)):=by
 induction F with
 |nil=>rfl|cons p r ih=>
  rw[Dh,BN,Dh];by_cases h:Jg n p.1=true;rw[BZ h,BZ h];rfl;rw[BM h,BM h,BN,ih]
theorem ABD(g:α->β)(n:ByteArray)(F:List (ByteArray×α)):(without F n).map (λq=>(q.1,g q.2))=without (F.map λq=>(q.1,g q.2)) n:=by
 induction F with
 |nil=>rfl|cons p r ih=>
  rw[Ed,BN,Ed];by_cases h:p.1=n;rw[BZ h,BZ h,ih];rw[BM h,BM h,BN,ih]
theorem V9(nm:ByteArray)(D:FI):MH nm D=without D nm:=by
 unfold MH without;congr 1;funext d;simp
def VL (D:FI) (dst:ByteArray) (fs:OL):FI:=Dh dst (O3 fs) (MH dst D)
section
variable (U:Tr) (M:Nat) (f0:Nat->List Int) (s q:Int)
structure Kq (S:St):Prop where
 kept:Kept U M f0 S
 stop:S.stop=s
 BG:S.BG=q
 nd:(S.seen.map Ac).Nodup
def Kx (S:St):Prop:=Kq U M f0 s q S/\(s<0->(BK S.seen BP).isSome=true)
structure Mid (pre:OL) (S:St):Prop where
 kq:Kq U M f0 s q S
 nd:(pre.map Ac).Nodup
 Xm: ∃F,BK S.seen BP=AA F/\(∀x∈F,M<=x.2/\x.2<S.files.length)/\F.map (λx=>(x.1,S.files.getD x.2 ([],[])))=(O3 pre).map λx=>(x.1,(x.2,[]))
structure UL (pre:OL) (n:ByteArray) (Eb:Ee) (S:St):Prop where
 kq:Kq U M f0 s q S
 good:CV n=true
 nd:(pre.map Ac).Nodup
 new:n∉pre.map Ac
 Xm: ∃F i,BK S.seen BP=AA (Dh n i F)/\n∉F.map Ac/\M<=i/\i<S.files.length/\S.files.getD i ([],[])=Eb/\(∀x∈F,M<=x.2/\x.2<i)/\F.map (λx=>(x.1,S.files.getD x.2 ([],[])))=(O3 pre).map λx=>(x.1,(x.2,[]))
end
section
variable {U:Tr} {M:Nat} {f0:Nat->List Int} {s q:Int} {S:St} {pre:OL} {n:ByteArray} {Eb:Ee}
theorem Kq.up(h:Kq U M f0 s q S)(hs:s<0):S.down=false:=MF (by rw[h.stop];exact hs)
theorem Kq.modify(h:Kq U M f0 s q S){x:Nat}(hx:M<=x)(φ:Ee->Ee)(wr':List Nat)(st:Nat):Kq U M f0 s q {S with files:=S.files.modify x φ,wr:=wr',steps:=st}:=
 ⟨⟨h.kept.safe,h.kept.ED,h.kept.run,by simpa using h.kept.len,h.kept.ids,λi hi=>by
  show (S.files.modify x φ).getD i ([],[])=_
  rw[getD_modify,BM Aa];exact h.kept.Eb i hi⟩,h.stop,h.BG,h.nd⟩
def O4 (pre:OL) (n:ByteArray):Int:=if CV n=false then 81 else if (BK pre n).isSome=true then 83 else 0
theorem AL2(h:(T.map Ac).Nodup)(d:ByteArray)(F:Jv):((Dh d F (without T d)).map Ac).Nodup:=by
 refine (((Hm d F (without T d)).map Ac).nodup_iff).2 ?_;exact II.2 ⟨Ju d,h.sublist (List.filter_sublist.map _)⟩
theorem tX(h:F.map (λx=>(x.1,S.files.getD x.2 ([],[])))=(O3 pre).map λx=>(x.1,(x.2,([]:List (List Int)))))(n:ByteArray):n∈F.map Ac↔n∈pre.map Ac:=by
 have h1:=congrArg (List.map Ac) h;rw[Eo,Eo] at h1;have h2:F.map Ac=(O3 pre).map Ac:=h1;rw[h2];exact ((V8 pre).map _).mem_iff
theorem Mid.create(h:Mid U M f0 s q pre S)(n:ByteArray):
  (((S.create BP n).2=0/\UL U M f0 s q pre n ([],[]) (S.create BP n).1)\/((S.create BP n).2≠0/\Kx U M f0 s q (S.create BP n).1))/\(s<0->(S.create BP n).2=O4 pre n):=by
 obtain⟨F,hF,hid,hm⟩:=h.Xm;unfold St.create
 cases hd:S.down with
 |true=>
  rw[Yg hd,BZ Ar];exact⟨.inr ⟨AV,h.kq,λ_=>by rw[hF];rfl⟩,λhs=>by rw[h.kq.up hs] at hd;cases hd⟩
 |false=>
  cases hg:CV n with
  |false=>
   (have ha:S.ask true [BP,n]=81:=by unfold St.ask;rw[BM (by simp[hd]),BZ (by simp[hg])]);rw[ha,BZ Ar];exact⟨.inr ⟨AV,h.kq,λ_=>by rw[hF];rfl⟩,λ_=>by unfold O4;rw[BZ hg]⟩
  |true=>
   rw[Yi hd (by simp[hg,SG]) hF,BM AV,FP hF];by_cases hn:n∈pre.map Ac
   ·rw[BZ (IM.2 ((tX hm n).2 hn))];exact⟨.inr ⟨AV,h.kq,λ_=>by rw[hF];rfl⟩,λ_=>by unfold O4;rw[BM (by simp[hg]),BZ (IM.2 hn)]⟩
   have hnF:n∉F.map Ac:=λe=>hn ((tX hm n).1 e);rw[BM (λe=>hnF (IM.1 e))];refine⟨.inl ⟨rfl,?_,hg,h.nd,hn,F,S.files.length,?_,hnF,h.kq.kept.len,?_,?_,hid,?_⟩,λ_=>by unfold O4;rw[BM (by simp[hg]),BM λe=>hn (IM.1 e)]⟩
   ·refine⟨Kept.make (S:={S with files:=S.files++[([],[])]}) ⟨h.kq.kept.safe,h.kq.kept.ED,h.kq.kept.run,?_,h.kq.kept.ids,λi hi=>?_⟩ rfl,h.kq.stop,h.kq.BG,AL2 h.kq.nd _ _⟩
    ·show M<=(S.files++[([],[])]).length;rw[Gz];have:=h.kq.kept.len;omega
    show (S.files++[([],[])]).getD i ([],[])=_;rw[aA];exact h.kq.kept.Eb i hi
   ·show BK (Dh BP (Dh n S.files.length (FO S.seen BP)) (without S.seen BP)) BP=_;rw[TE,BZ rfl,FP hF]
   ·show S.files.length<(S.files++[([],[])]).length;simp
   ·show (S.files++[([],[])]).getD S.files.length ([],[])=_;rw[aA,Gj,IG (Bc _)];rfl
   rw[<- hm];apply Hu;intro x hx;show (x.1,(S.files++[([],[])]).getD x.2 ([],[]))=_;rw[aA]
theorem UL.Ov(h:UL U M f0 s q pre n Eb S): ∃F i,BK S.seen BP=AA (Dh n i F)/\n∉F.map Ac/\M<=i/\i<S.files.length/\S.files.getD i ([],[])=Eb/\(∀x∈F,M<=x.2/\x.2<i)/\F.map (λx=>(x.1,S.files.getD x.2 ([],[])))=(O3 pre).map (λx=>(x.1,(x.2,[])))/\S.Ov BP n=if S.down=true then (AB,80) else (AA i,0):=by
 obtain⟨F,i,hF,hn,h1,h2,h3,h4,h5⟩:=h.Xm;refine⟨F,i,hF,hn,h1,h2,h3,h4,h5,?_⟩;unfold St.Ov
 cases hd:S.down with
 |true=>rw[Yg hd,BZ Ar,BZ rfl]|false=>
  rw[Yi hd (by simp[h.good,SG]) hF,BM AV,FP hF,Qk hn,BZ rfl,BM AV]
theorem jk{i:Nat}(h4: ∀x∈F,M<=x.2/\x.2<i)(fs:List Ee)(φ:Ee->Ee):F.map (λx=>(x.1,(fs.modify i φ).getD x.2 ([],[])))=F.map λx=>(x.1,fs.getD x.2 ([],[])):=by
 apply Hu;intro x hx;rw[getD_modify,BM (by have:=(h4 x hx).2;omega)]
def u0 (U:Tr) (f0:Nat->List Int):Nat:=bytesOf (U.map λp=>(p.1,p.2.map λx=>(x.1,f0 x.2)))
theorem AIU(f:Nat->Nat)(h:(T.map Ac).Nodup){d:ByteArray}(hF:BK T d=AA F):Wt f T=Wf f F+Wt f (without T d):=by
 induction T with
 |nil=>cases hF|cons p r ih=>
  obtain⟨h1,h2⟩:=II.1 h;rw[FZ] at hF;rw[Ed];by_cases he:p.1=d
  ·rw[BZ he] at hF;rw[BZ he,JJ (by rw[<- he];exact h1)];injection hF with hF;subst hF;rfl
  rw[BM he] at hF;rw[BM he];have:=ih h2 hF;simp only[Wt,BN,CE] at this⊢;omega
theorem Kq.used(h:Kq U M f0 s q S)(hs:s<0){F:Jv}(hF:BK S.seen BP=AA F):S.used=u0 U f0+Wf (qo S) F:=by
 rw[ALE (h.up hs)];unfold St.tot;rw[AIU _ h.nd hF,h.kept.seen,mX];congr 1;unfold u0 bytesOf Wt Wf;rw[Eo];congr 1;apply Hu;intro p hp;simp only[Function.comp_apply,Eo];congr 1;apply Hu;intro x hx;exact congrArg Ky (h.kept.bytes (h.kept.ids p hp x hx))
theorem ADo(h:F.map (λx=>(x.1,S.files.getD x.2 ([],[])))=(O3 pre).map λx=>(x.1,(x.2,([]:List (List Int))))):Wf (qo S) F=JO pre:=by
 have h1:=congrArg (List.map λz:ByteArray×Ee=>z.2.all.length) h;rw[Eo,Eo] at h1
 have h2:F.map (λx=>qo S x.2)=(O3 pre).map λx=>x.2.length:=by
  refine Eq.trans h1 (Hu λx _=>?_);simp[Ee.all]
 unfold Wf;rw[h2];exact ((V8 pre).map _).sum_nat
theorem UL.used(h:UL U M f0 s q pre n Eb S)(hs:s<0):S.used=u0 U f0+(JO pre+Eb.all.length):=by
 obtain⟨F,i,hF,hn,h1,h2,h3,h4,h5⟩:=h.Xm;rw[h.kq.used hs hF,xX,ADo h5];(have:qo S i=Eb.all.length:=by unfold qo St.bytes;rw[h3]);omega
theorem UL.write(h:UL U M f0 s q pre n Eb S){xs:List Int}(hx:xs≠[]):
  (((S.write BP n xs).2=0/\UL U M f0 s q pre n (Eb.1,Eb.2++[xs]) (S.write BP n xs).1)\/((S.write BP n xs).2≠0/\Kx U M f0 s q (S.write BP n xs).1))/\
   (s<0->(S.write BP n xs).2=if q<(u0 U f0+(JO pre+Eb.all.length):Nat)+xs.length then 85 else 0):=by
 obtain⟨F,i,hF,hn,h1,h2,h3,h4,h5,hf⟩:=h.Ov;unfold St.write
 cases hd:S.down with
 |true=>
  rw[hf,BZ hd];exact⟨.inr ⟨AV,h.kq,λ_=>by rw[hF];rfl⟩,λhs=>by rw[h.kq.up hs] at hd;cases hd⟩
 |false=>
  rw[hf,BM (by simp[hd])];simp only;rw[BM hx];refine⟨?_,λhs=>?_⟩
  ·split;exact .inr ⟨AV,h.kq,λ_=>by rw[hF];rfl⟩;refine .inl ⟨rfl,h.kq.modify h1 _ _ _,h.good,h.nd,h.new,F,i,hF,hn,h1,by simpa using h2,?_,h4,?_⟩
   ·show (S.files.modify i _).getD i ([],[])=_;rw[getD_modify,BZ ⟨rfl,h2⟩,h3]
   exact (jk h4 _ _).trans h5
  rw[<- h.used hs,<- h.kq.BG];split<;>rfl
theorem UL.puts: ∀(C:List (List Int)) {Eb:Ee} {S:St},(∀p∈C,p≠[])->UL U M f0 s q pre n Eb S->
  (((S.puts n C).2=0/\UL U M f0 s q pre n (Eb.1,Eb.2++C) (S.puts n C).1)\/((S.puts n C).2≠0/\Kx U M f0 s q (S.puts n C).1))/\
   (s<0->(S.puts n C).2=if C≠[]/\q<(u0 U f0+(JO pre+Eb.all.length):Nat)+C.flatten.length then 85 else 0)
 | [],Eb,S,_,h=>⟨.inl ⟨rfl,by simpa[St.puts] using h⟩,λ_=>by simp[St.puts]⟩
 |x::r,Eb,S,hC,h=>by
  obtain⟨k1,k2⟩:=h.write (hC x (D7 ..));unfold St.puts;rcases k1 with ⟨e1,hm⟩|⟨e1,hk⟩
  ·obtain⟨j1,j2⟩:=UL.puts r (λp hp=>hC p (CO _ hp)) hm;rw[BZ e1];rw[Jo] at j1;refine⟨j1,λhs=>?_⟩;rw[j2 hs];have k3:=(k2 hs).symm.trans e1;(have hq: ¬q<(u0 U f0+(JO pre+Eb.all.length):Nat)+x.length:=λe=>by rw[BZ e] at k3;cases k3);(have hal:(Ee.all (Eb.1,Eb.2++[x])).length=Eb.all.length+x.length:=by simp[Ee.all];omega);rw[hal,JS,Gz];by_cases hr:r=[]
   ·subst hr;rw[BM AV,BM];simp only[List.flatten_nil,List.length_nil];omega
   by_cases hz:q<(u0 U f0+(JO pre+(Eb.all.length+x.length)):Nat)+r.flatten.length;rw[BZ ⟨hr,hz⟩,BZ ⟨AV,Aa⟩];rw[BM (λe=>hz e.2),BM (λe=>hz Aa)]
  rw[BM e1];refine⟨.inr ⟨e1,hk⟩,λhs=>?_⟩;have k3:=k2 hs;rw[k3] at e1⊢;by_cases hz:q<(u0 U f0+(JO pre+Eb.all.length):Nat)+x.length;rw[BZ hz,BZ ⟨AV,by rw[JS,Gz];omega⟩];rw[BM hz] at e1;exact Ak rfl e1
theorem UL.sync(h:UL U M f0 s q pre n Eb S):
  (((S.sync BP n).2=0/\Mid U M f0 s q (pre++[(n,Eb.all)]) (S.sync BP n).1)\/((S.sync BP n).2≠0/\Kx U M f0 s q (S.sync BP n).1))/\(s<0->(S.sync BP n).2=0):=by
 obtain⟨F,i,hF,hn,h1,h2,h3,h4,h5,hf⟩:=h.Ov;unfold St.sync
 cases hd:S.down with
 |true=>
  rw[hf,BZ hd];exact⟨.inr ⟨AV,h.kq,λ_=>by rw[hF];rfl⟩,λhs=>by rw[h.kq.up hs] at hd;cases hd⟩
 |false=>
  rw[hf,BM (by simp[hd])];refine⟨.inl ⟨rfl,h.kq.modify h1 _ _ _,?_,Dh n i F,hF,λx hx=>?_,?_⟩,λ_=>rfl⟩
  ·rw[Ey];exact (List.perm_append_singleton n (pre.map Ac)).nodup_iff.2 (II.2 ⟨h.new,h.nd⟩)
  ·show M<=x.2/\x.2<(S.files.modify i _).length;rw[List.length_modify];rcases Nr.1 hx with rfl|hx;exact⟨h1,h2⟩;have:=h4 x hx;omega
  show (Dh n i F).map (λx=>(x.1,(S.files.modify i (λf=>(Ee.all f,[]))).getD x.2 ([],[])))=_;rw[aJ (λj=>(S.files.modify i (λf=>(Ee.all f,[]))).getD j ([],[])),tV,aJ (λd=>(d,[])),jk h4,h5,getD_modify,BZ ⟨rfl,h2⟩,h3]
def tY (q:Int) (u:Nat) (i:Nat) (pre:OL):OL->List LD
 | []=>[]|f::r=>if O4 pre f.1≠0 then [⟨{data:=#[99,114,101,97,116,101]},i,O4 pre f.1⟩] else if f.2≠[]/\q<(u:Int)+JO (pre++[f]) then [⟨{data:=#[119,114,105,116,101]},i,85⟩] else tY q u (i+1) (pre++[f]) r
theorem YC(q:Int)(u i:Nat)(pre:OL)(f:ByteArray×List Int)(r:OL):tY q u i pre (f::r)=if O4 pre f.1≠0 then [⟨{data:=#[99,114,101,97,116,101]},i,O4 pre f.1⟩] else if f.2≠[]/\q<(u:Int)+JO (pre++[f]) then [⟨{data:=#[119,114,105,116,101]},i,85⟩] else tY q u (i+1) (pre++[f]) r:=rfl
theorem AL3{xs:List Int}:Vz xs=[]↔xs=[]:=by
 constructor
 ·intro h;have:=aC 511 _ xs rfl;rw[show Kr 511 xs=[] from h] at this;exact this.symm
 rintro rfl;exact VJ 511
theorem yG(xs:List Int):(Vz xs).flatten=xs:=aC 511 _ xs rfl
theorem Mid.files: ∀(fs:OL) (i:Nat) {pre:OL} {S:St},Mid U M f0 s q pre S->
  (((S.runT (Ha i fs)).2=[]/\Mid U M f0 s q (pre++fs) (S.runT (Ha i fs)).1)\/((S.runT (Ha i fs)).2≠[]/\Kx U M f0 s q (S.runT (Ha i fs)).1))/\(s<0->(S.runT (Ha i fs)).2=tY q (u0 U f0) i pre fs)
 | [],i,pre,S,h=>⟨.inl ⟨rfl,by rw[I9];exact h⟩,λ_=>rfl⟩
 |f::r,i,pre,S,h=>by
  have e0:Ha i (f::r)=⟨{data:=#[99,114,101,97,116,101]},i,.create f.1⟩::⟨{data:=#[119,114,105,116,101]},i,.write f.1 f.2⟩::⟨{data:=#[115,121,110,99]},i,.sync f.1⟩::Ha (i+1) r:=rfl;rw[e0];obtain⟨k1,k2⟩:=h.create f.1;have a1:S.act (.create f.1)=S.create BP f.1:=rfl;rcases k1 with ⟨e1,hm⟩|⟨e1,hk⟩
  ·rw[Fp (by rw[a1];exact e1),a1];generalize (S.create BP f.1).1=S1 at hm;obtain⟨j1,j2⟩:=hm.puts (Vz f.2) (λp hp e=>by have:=(xe 511 _ f.2 rfl p hp).1;rw[e] at this;simp at this);have a2:S1.act (.write f.1 f.2)=S1.puts f.1 (Vz f.2):=rfl
   have hw:s<0->(S1.puts f.1 (Vz f.2)).2=if f.2≠[]/\q<(u0 U f0:Int)+JO (pre++[f]) then 85 else 0:=λhs=>by
    rw[j2 hs,yG,AAt];(have hz:(q<(u0 U f0+(JO pre+(Ee.all ([],[])).length):Nat)+(f.2.length:Int))↔q<(u0 U f0:Int)+(JO pre+f.2.length:Nat):=by simp[Ee.all];omega);simp only[ne_eq,AL3,hz]
   have hd0:s<0->O4 pre f.1=0:=λhs=>(k2 hs).symm.trans e1;rcases j1 with ⟨e2,hm2⟩|⟨e2,hk2⟩
   ·rw[Fp (by rw[a2];exact e2),a2];generalize (S1.puts f.1 (Vz f.2)).1=S2 at hm2;obtain⟨l1,l2⟩:=hm2.sync;have a3:S2.act (.sync f.1)=S2.sync BP f.1:=rfl;rcases l1 with ⟨e3,hm3⟩|⟨e3,hk3⟩
    ·rw[Fp (by rw[a3];exact e3),a3];(have hfa:(f.1,Ee.all (([]:List Int),([]:List (List Int))++Vz f.2))=f:=by simp[Ee.all,yG]);simp only[hfa] at hm3;obtain⟨m1,m2⟩:=Mid.files r (i+1) hm3;rw[Jo] at m1;refine⟨m1,λhs=>?_⟩;rw[m2 hs];rw[YC,BM (by rw[hd0 hs];simp),BM];intro e;have:=(hw hs).symm.trans e2;rw[BZ e] at this;cases this
    rw[NP (by rw[a3]) e3,a3];exact⟨.inr ⟨AV,hk3⟩,λhs=>Ak (l2 hs) e3⟩
   rw[NP (by rw[a2]) e2,a2];refine⟨.inr ⟨AV,hk2⟩,λhs=>?_⟩;rw[YC,BM (by rw[hd0 hs];simp)];have h5:=hw hs;by_cases hz:f.2≠[]/\q<(u0 U f0:Int)+JO (pre++[f])
   ·rw[BZ hz] at h5;rw[BZ hz];simp only[h5]
   rw[BM hz] at h5;exact Ak h5 e2
  rw[NP (by rw[a1]) e1,a1];refine⟨.inr ⟨AV,hk⟩,λhs=>?_⟩;have h5:=k2 hs;rw[YC,BZ (by rw[<- h5];exact e1)];simp only[h5]
end
end
section
variable {U:Tr} {M:Nat} {f0:Nat->List Int} {s q:Int} {S:St} {pre fs:OL} {dst:ByteArray}
def YD (U:Tr) (f0:Nat->List Int):FI:=U.map λp=>(p.1,p.2.map λx=>(x.1,f0 x.2))
theorem yH: ∀(a b:List JL) (S:St),S.runT (a++b)=if (S.runT a).2=[] then (S.runT a).1.runT b else S.runT a
 | [],b,S=>by rw[D9,BZ (by rfl)];rfl
 |t::r,b,S=>by
  by_cases h:(S.act t.d).2=0;rw[Dp,Fp h,Fp h];exact yH r b _;rw[Dp,NP rfl h,NP rfl h,BM AV]
theorem ADp(h:S.down=true):S.clean=(S,80):=by
 unfold St.clean St.LY;rw[BZ h,BM Ar]
structure Done (U:Tr) (M:Nat) (f0:Nat->List Int) (s q:Int) (fs:OL) (dst:ByteArray) (S:St):Prop where
 mid: ∃S1,Mid U M f0 s q fs S1/\S1.safe=S1.seen/\S1.files=S.files/\S.seen=EF.on S1.seen (.rename BP dst)/\((S.safe=S1.seen/\S.ED=[.rename BP dst]/\S.down=true)\/(S.safe=S.seen/\S.ED=[]))
 stop:S.stop=s
theorem Done.tree{S1:St}(h:Mid U M f0 s q fs S1)(hd:dst≠BP){g:Nat->List Int}(hg: ∀i,i<M->g i=f0 i)(hg2: ∀i x,S1.files.getD i ([],[])=(x,[])->g i=x):
  (EF.on S1.seen (.rename BP dst)).map (λp=>(p.1,p.2.map λx=>(x.1,g x.2)))=VL (YD U f0) dst fs/\BK (EF.on S1.seen (.rename BP dst)) BP=AB:=by
 obtain⟨F,hF,hid,hm⟩:=h.Xm;refine⟨?_,?_⟩
 ·show (Dh dst (FO S1.seen BP) (without (without S1.seen BP) dst)).map _=_;rw[FP hF,h.kq.kept.seen,aJ (λF:Jv=>F.map λx=>(x.1,g x.2)),ABD (λF:Jv=>F.map λx=>(x.1,g x.2))];unfold VL YD;rw[V9];congr 1
  ·have h1:=congrArg (List.map λz:ByteArray×Ee=>(z.1,z.2.1)) hm;rw[Eo,Eo] at h1;rw[show O3 fs=List.map ((λz:ByteArray×Ee=>(z.1,z.2.1))∘λx=>(x.1,(x.2,[]))) (O3 fs) from (List.map_id _).symm.trans (Hu λx _=>rfl),<- h1];apply Hu;intro x hx;have h2:(x.1,S1.files.getD x.2 ([],[]))∈F.map (λx=>(x.1,S1.files.getD x.2 ([],[]))):=Bv.2 ⟨x,hx,rfl⟩;rw[hm] at h2;obtain⟨z,_,hz⟩:=Bv.1 h2;injection hz with hz1 hz2;show (x.1,g x.2)=(x.1,(S1.files.getD x.2 ([],[])).1);rw[hg2 x.2 z.2 hz2.symm,<- hz2]
  congr 1;exact Yo λp hp x hx=>hg _ (h.kq.kept.ids p hp x hx)
 rw[Eh];intro e;have h3:=(((Hm dst (FO S1.seen BP) (without (without S1.seen BP) dst)).map Ac).mem_iff).1 e;rcases BD.1 h3 with h4|h4;exact hd h4.symm;obtain⟨p,hp,he⟩:=Bv.1 h4;exact (FK.1 (FK.1 hp).1).2 he
theorem Mid.bytes{S1:St}(h:Mid U M f0 s q fs S1){S:St}(hf:S1.files=S.files)(ks:List Bool):(∀i,i<M->S.after ks i=f0 i)/\(∀i x,S1.files.getD i ([],[])=(x,[])->S.after ks i=x)/\(∀i,i<M->S.bytes i=f0 i)/\(∀i x,S1.files.getD i ([],[])=(x,[])->S.bytes i=x):=by
 (have a: ∀i x,S1.files.getD i ([],[])=(x,[])->S.bytes i=x:=λi x e=>by unfold St.bytes;rw[<- hf,e];simp[Ee.all]);(have b: ∀i x,S1.files.getD i ([],[])=(x,[])->S.after ks i=x:=λi x e=>by rw[dS (by rw[<- hf,e])];exact a i x e);exact⟨λi hi=>b i _ (h.kq.kept.Eb i hi),b,λi hi=>a i _ (h.kq.kept.Eb i hi),a⟩
theorem AL4{T:Tr}(g:Nat->List Int)(h:BK T BP=AB):MH BP (T.map λp=>(p.1,p.2.map λx=>(x.1,g x.2)))=T.map λp=>(p.1,p.2.map λx=>(x.1,g x.2)):=by rw[VK,JJ (Eh.1 h)]
theorem Done.left(h:Done U M f0 s q fs dst S)(hd:dst≠BP)(ks:List Bool)(names:Int):(S.ED≠[]/\MH BP (S.left ks names)=YD U f0)\/(MH BP (S.left ks names)=VL (YD U f0) dst fs/\S.left ks names=VL (YD U f0) dst fs):=by
 obtain⟨S1,hm,hs1,hf,hse,h1⟩:=h.mid;obtain⟨b1,b2,_,_⟩:=hm.bytes hf ks;obtain⟨t1,t2⟩:=Done.tree hm hd b1 b2
 have hnew:IC S.safe (S.ED.take names.toNat)=EF.on S1.seen (.rename BP dst)->MH BP (S.left ks names)=VL (YD U f0) dst fs/\S.left ks names=VL (YD U f0) dst fs:=λe=>by
  (have:S.left ks names=VL (YD U f0) dst fs:=by unfold St.left;rw[e];exact t1);refine⟨?_,this⟩;unfold St.left;rw[e,AL4 _ t2];exact t1
 rcases h1 with ⟨h2,h3,h4⟩|⟨h2,h3⟩
 ·cases hn:names.toNat with
  |zero=>
   refine .inl ⟨by rw[h3];simp,?_⟩;unfold St.left;rw[hn,eU,h2];show MH BP (S1.seen.map _)=_;rw[VK,hm.kq.kept.seen];exact Yo λp hp x hx=>b1 _ (hm.kq.kept.ids p hp x hx)
  |succ k=>
   refine .inr (hnew ?_);rw[hn,h3,h2];simp[IC]
 exact .inr (hnew (by rw[h3,lK,h2,hse];rfl))
theorem Done.nd(h:Done U M f0 s q fs dst S):(fs.map Ac).Nodup:=by obtain⟨S1,hm,_⟩:=h.mid;exact hm.nd
theorem Mid.last(h:Mid U M f0 s q fs S)(hg:CV dst=true):
  (((S.runT (Oy dst)).2=[]/\Done U M f0 s q fs dst (S.runT (Oy dst)).1/\(S.runT (Oy dst)).1.ED=[])\/
   ((S.runT (Oy dst)).2≠[]/\(Kx U M f0 s q (S.runT (Oy dst)).1\/(Done U M f0 s q fs dst (S.runT (Oy dst)).1/\(S.runT (Oy dst)).1.down=true))))/\(s<0->(S.runT (Oy dst)).2=[]):=by
 have e0:Oy dst=[⟨{data:=#[110,97,109,101,115]},0,.names⟩,⟨{data:=#[114,101,110,97,109,101]},0,.rename dst⟩,⟨{data:=#[115,97,102,101]},0,.names⟩]:=rfl;rw[e0];have a1:S.act .names=S.names:=rfl
 cases hd:S.down with
 |true=>
  (have e1:S.names=(S,80):=by unfold St.names;rw[BZ hd]);rw[NP (c:=80) (by rw[a1,e1]) Ar,a1,e1];exact⟨.inr ⟨AV,.inl ⟨h.kq,λhs=>by rw[h.kq.up hs] at hd;cases hd⟩⟩,λhs=>by rw[h.kq.up hs] at hd;cases hd⟩
 |false=>
  obtain⟨S1,hS1⟩: ∃S1:St,({S with safe:=S.seen,ED:=[],steps:=S.steps+1}:St)=S1:=⟨_,rfl⟩;(have e1:S.names=(S1,0):=by unfold St.names;rw[BM (by simp[hd]),hS1]);rw[Fp (by rw[a1,e1]),a1,e1]
  have hm:Mid U M f0 s q fs S1:=by
   subst hS1;obtain⟨F,hF,hid,hmm⟩:=h.Xm;exact⟨⟨⟨h.kq.kept.seen,λc hc=>(BH hc).elim,rfl,h.kq.kept.len,h.kq.kept.ids,h.kq.kept.Eb⟩,h.kq.stop,h.kq.BG,h.kq.nd⟩,h.nd,F,hF,hid,hmm⟩
  (have hsf:S1.safe=S1.seen/\S1.ED=[]:=by subst hS1;exact⟨rfl,rfl⟩);obtain⟨F,hF,_,_⟩:=hm.Xm;have a2:S1.act (.rename dst)=S1.rename BP dst:=rfl
  cases hd1:S1.down with
  |true=>
   (have e2:S1.rename BP dst=(S1,80):=by unfold St.rename;rw[Yg hd1,BZ Ar]);rw[NP (c:=80) (by rw[a2,e2]) Ar,a2,e2];exact⟨.inr ⟨AV,.inl ⟨hm.kq,λhs=>by rw[hm.kq.up hs] at hd1;cases hd1⟩⟩,λhs=>by rw[hm.kq.up hs] at hd1;cases hd1⟩
  |false=>
   (have e2:S1.rename BP dst=(S1.make (.rename BP dst),0):=by unfold St.rename;rw[Yi hd1 (by simp[hg,SG]) hF,BM AV]);rw[Fp (by rw[a2,e2]),a2,e2];have a3:(S1.make (.rename BP dst)).act .names=(S1.make (.rename BP dst)).names:=rfl;have hst:(S1.make (.rename BP dst)).stop=s:=hm.kq.stop
   cases hd2:(S1.make (.rename BP dst)).down with
   |true=>
    (have e3:(S1.make (.rename BP dst)).names=(S1.make (.rename BP dst),80):=by unfold St.names;rw[BZ hd2]);rw[NP (c:=80) (by rw[a3,e3]) Ar,a3,e3];refine⟨.inr ⟨AV,.inr ⟨⟨⟨S1,hm,hsf.1,rfl,rfl,.inl ⟨hsf.1,?_,hd2⟩⟩,hst⟩,hd2⟩⟩,λhs=>by rw[MF (by rw[hst];exact hs)] at hd2;cases hd2⟩;show S1.ED++[_]=_;rw[hsf.2];rfl
   |false=>
    (have e3:(S1.make (.rename BP dst)).names=({S1.make (.rename BP dst) with safe:=(S1.make (.rename BP dst)).seen,ED:=[],steps:=(S1.make (.rename BP dst)).steps+1},0):=by unfold St.names;rw[BM (by simp[hd2])]);rw[Fp (by rw[a3,e3]),a3,e3];exact⟨.inl ⟨rfl,⟨⟨S1,hm,hsf.1,rfl,rfl,.inr ⟨rfl,rfl⟩⟩,hst⟩,rfl⟩,λ_=>rfl⟩
theorem Kq.AUj(h:Kq U M f0 s q S)(hn:BK S.seen BP=AB)(hg:CV dst=true)(fs:OL):
  (((S.runT (Ec dst fs)).2=[]/\Done U M f0 s q fs dst (S.runT (Ec dst fs)).1/\(S.runT (Ec dst fs)).1.ED=[])\/
   ((S.runT (Ec dst fs)).2≠[]/\(Kx U M f0 s q (S.runT (Ec dst fs)).1\/(Done U M f0 s q fs dst (S.runT (Ec dst fs)).1/\(S.runT (Ec dst fs)).1.down=true))))/\(s<0->(S.runT (Ec dst fs)).2=tY q (u0 U f0) 0 [] fs):=by
 have e0:Ec dst fs=⟨{data:=#[109,107,100,105,114]},0,.Cc⟩::(Ha 0 fs++Oy dst):=rfl;rw[e0];have a1:S.act .Cc=S.Cc BP:=rfl
 cases hd:S.down with
 |true=>
  (have e1:S.Cc BP=(S,80):=by unfold St.Cc;rw[Yg hd,BZ Ar]);rw[NP (c:=80) (by rw[a1,e1]) Ar,a1,e1];exact⟨.inr ⟨AV,.inl ⟨h,λhs=>by rw[h.up hs] at hd;cases hd⟩⟩,λhs=>by rw[h.up hs] at hd;cases hd⟩
 |false=>
  have e1:S.Cc BP=(S.make (.Cc BP),0):=by
   unfold St.Cc;(have:S.ask false [BP]=0:=by unfold St.ask;rw[BM (by simp[hd]),BM (by simp[SG]),BM AV]);rw[this,BM AV,BM (by simp[hn])]
  rw[Fp (by rw[a1,e1]),a1,e1]
  have hm:Mid U M f0 s q [] (S.make (.Cc BP)):=by
   refine⟨⟨h.kept.make rfl,h.stop,h.BG,?_⟩,AV,[],?_,AV,rfl⟩
   ·show ((Dh BP [] S.seen).map Ac).Nodup;exact (((Hm BP [] S.seen).map Ac).nodup_iff).2 (II.2 ⟨Eh.1 hn,h.nd⟩)
   show BK (Dh BP [] S.seen) BP=_;rw[Qk (Eh.1 hn),BZ rfl]
  generalize S.make (.Cc BP)=S1 at hm;obtain⟨k1,k2⟩:=hm.files fs 0;rw[yH];rcases k1 with ⟨e2,hm2⟩|⟨e2,hk⟩
  ·rw[BZ e2];obtain⟨l1,l2⟩:=hm2.last hg;exact⟨l1,λhs=>(l2 hs).trans (e2.symm.trans (k2 hs))⟩
  rw[BM e2];exact⟨.inr ⟨e2,.inl hk⟩,k2⟩
theorem Kq.clean{B:Nat}(h:Kq U M f0 s q S)(hi:Inv B S):Kq U M f0 s q S.clean.1:=
 ⟨h.kept.clean,(GM.clean S).stop.trans h.stop,(GM.clean S).BG.trans h.BG,hi.clean.val.Uh.nodup⟩
theorem AIV{op:ByteArray}{pl cd:Int}(h:cd≠0):qw op pl cd≠[]:=by unfold qw;rw[BM h];simp
theorem AL5{B:Nat}(h:Kq U M f0 s q S)(hi:Inv B S)(hg:CV dst=true)(hd:dst≠BP)(fs:OL)(ks:List Bool)(names:Int):
  (MH BP ((S.KI dst fs).1.left ks names)=VL (YD U f0) dst fs/\(fs.map Ac).Nodup)\/((S.KI dst fs).2≠[]/\MH BP ((S.KI dst fs).1.left ks names)=YD U f0):=by
 have hc:=h.clean hi;unfold St.KI;rw[BM (by simp[hg,hd])];by_cases h0:S.clean.2=0
 ·rw[BM (by simp[h0])];obtain⟨k1,_⟩:=hc.AUj (ji h0) hg fs;have hi2:=hi.clean.runT (Ec dst fs);rcases k1 with ⟨e1,hD,hch⟩|⟨e1,hk⟩
  ·rw[BZ e1];left;rcases hD.left hd ks names with ⟨hdn,_⟩|⟨h1,_⟩;exact Ak hch hdn;exact⟨h1,hD.nd⟩
  rw[BM e1];rcases hk with hk|⟨hD,hdn⟩;exact .inr ⟨by simp[e1],(hk.1.clean hi2).kept.left ks names⟩;rw[ADp hdn];rcases hD.left hd ks names with ⟨_,h1⟩|⟨h1,_⟩;exact .inr ⟨by simp[e1],h1⟩;exact .inl ⟨h1,hD.nd⟩
 rw[BZ h0];exact .inr ⟨AIV h0,hc.kept.left ks names⟩
theorem Kq.open_{D:FI}{q s:Int}(h:Di D q=0)(hq:q<=9223372036854775807):Kq (without (Gx 0 D) BP) (Gs D) (λi=>(dat D).getD i []) s q (Ei D q s)/\YD (without (Gx 0 D) BP) (λi=>(dat D).getD i [])=MH BP D:=
 ⟨⟨Kept.open_ h,rfl,rfl,(OD (stop:=s) h hq).val.Uh.nodup⟩,iP h⟩
end
section
variable {q:Int}{B:Nat}{S:St}{T:Tr}
theorem tZ: ∀{l:OL} {f:Bool} {last:ByteArray},OI l->(∀x∈l,CV x.1=true)->(f=false->∀x∈l,Jg last x.1=true)->ES f last l=0
 | [],f,last,_,_,_=>rfl
 |x::r,f,last,h1,h2,h3=>by
  obtain⟨k1,k2⟩:=KL.1 h1;unfold ES;have h0:Gq f last x.1=0:=Vu.2 ⟨h2 x (D7 ..),λe=>h3 e x (D7 ..)⟩;rw[h0,BM AV];exact tZ k2 (λy hy=>h2 y (CO _ hy)) λ_ y hy=>k1 _ (Bv.2 ⟨y,hy,rfl⟩)
theorem yI{m:Nat}(g:Nat->List Int): ∀{T:Tr} {f:Bool} {last:ByteArray},Val m T->(f=false->∀x∈T,Jg last x.1=true)->GX f last (T.map λp=>(p.1,p.2.map λx=>(x.1,g x.2)))=0
 | [],f,last,_,_=>rfl
 |x::r,f,last,h,h3=>by
  obtain⟨k1,k2⟩:=KL.1 h.Uh;rw[BN];unfold GX;have h0:Gq f last x.1=0:=Vu.2 ⟨h.nm x (D7 ..),λe=>h3 e x (D7 ..)⟩
  have h4:ES true noS (x.2.map λy=>(y.1,g y.2))=0:=tZ (by
   have:=h.sub x (D7 ..);unfold OI at this⊢;rw[Eo]
   exact this) (λy hy=>by
    obtain⟨z,hz,rfl⟩:=Bv.1 hy
    exact h.nms x (D7 ..) z hz) λe=>by cases e
  rw[h0,BM AV,h4,BM AV]
  exact yI g ⟨k2,λp hp=>h.sub p (CO _ hp),λp hp=>h.ids p (CO _ hp),λp hp=>h.nm p (CO _ hp),λp hp=>h.nms p (CO _ hp)⟩
   λ_ y hy=>k1 _ (Bv.2 ⟨y,hy,rfl⟩)
theorem yJ(hi:Inv B S)(k:Nat):Val S.files.length (IC S.safe (S.ED.take k)):=hi.safe.run (VD hi.ED k)
theorem ADq(hi:Inv B S)(ks:List Bool)(names:Int)(hq:0<=q):Di (S.left ks names) q=0:=by
 unfold Di;rw[BM Aa];exact yI _ (yJ hi _) λe=>by cases e
theorem AG6{f:Nat->Nat}{p:ByteArray×Jv}(hp:p∈T){x:ByteArray×Nat}(hx:x∈p.2):f x.2<=Wt f T:=by
 have h1:f x.2<=Wf f p.2:=by
  unfold Wf;generalize p.2=F at hx
  induction F with
  |nil=>cases hx|cons y r ih=>
   simp only[BN,CE];rcases BD.1 hx with rfl|hx;omega;have:=ih hx;omega
 unfold Wt
 induction T with
 |nil=>cases hp|cons y r ih=>
  simp only[BN,CE];rcases BD.1 hp with rfl|hp;omega;have:=ih hp;omega
structure Uq (S:St):Prop where
 one: ∀k i,Wt (IA i) (IC S.safe (S.ED.take k))<=1
 run:IC S.safe S.ED=S.seen
 ids: ∀p∈S.seen,∀x∈p.2,x.2<S.files.length
section
variable {S:St}
theorem Uq.seen(h:Uq S)(i:Nat):Wt (IA i) S.seen<=1:=by
 have:=h.one S.ED.length i;rwa[yg,h.run] at this
theorem Uq.made(h:Uq S){c:EF}(fs:List Ee)(h1: ∀i,Wt (IA i) (c.on S.seen)<=1)(h2: ∀p∈c.on S.seen,∀x∈p.2,x.2<fs.length):Uq (St.make {S with files:=fs} c):=by
 refine⟨λk i=>?_,?_,h2⟩
 ·show Wt (IA i) (IC S.safe ((S.ED++[c]).take k))<=1;by_cases hk:k<=S.ED.length;rw[AMC hk];exact h.one k i;rw[Ep (by simp;omega),TC,h.run];exact h1 i
 show IC S.safe (S.ED++[c])=c.on S.seen;rw[TC,h.run]
theorem Uq.make(h:Uq S){c:EF}(hc: ∀f,c.made f=0):Uq (S.make c):=by
 refine Uq.made (S:=S) h S.files (λi=>?_) ?_
 ·have:=AAr (IA i) S.seen c;have:=hc (IA i);have:=h.seen i;omega
 intro p hp x hx;have hz:Wt (λj=>if j<S.files.length then 0 else 1) S.seen=0:=dR λp hp x hx=>BZ (h.ids p hp x hx);have h3:=AAr (λj=>if j<S.files.length then 0 else 1) S.seen c;rw[hz,hc] at h3;have h4:=AG6 (f:=λj=>if j<S.files.length then 0 else 1) hp hx;by_cases hl:x.2<S.files.length;exact hl;simp only[BM hl] at h4;omega
theorem Uq.other{S':St}(h:Uq S)(h1:S'.safe=S.safe)(h2:S'.ED=S.ED)(h3:S'.seen=S.seen)(h4:S'.files.length=S.files.length):Uq S':=⟨by rw[h1,h2];exact h.one,by rw[h1,h2,h3];exact h.run,by rw[h3,h4];exact h.ids⟩
theorem Uq.names(h:Uq S):Uq S.names.1:=by
 unfold St.names;split;exact h;exact⟨λk i=>by rw[lK];exact h.seen i,rfl,h.ids⟩
theorem Uq.Cc(h:Uq S)(d:ByteArray):Uq (S.Cc d).1:=by
 unfold St.Cc;split;exact h;split;exact h;exact h.make λ_=>rfl
theorem Uq.create(h:Uq S)(d n:ByteArray):Uq (S.create d n).1:=by
 unfold St.create;split;exact h;split;exact h;refine Uq.made h _ (λi=>?_) ?_
 ·have h4:=AAr (IA i) S.seen (.create d n S.files.length);simp only[EF.made] at h4;by_cases hin:i=S.files.length
  ·have h5:Wt (IA i) S.seen=0:=dR (λp hp q hq=>by
    have:=h.ids p hp q hq;unfold IA
    rw[BM Aa])
   (have h6:IA i S.files.length=1:=by unfold IA;rw[BZ hin.symm]);omega
  (have h6:IA i S.files.length=0:=by unfold IA;rw[BM (λe=>hin e.symm)]);have:=h.seen i;omega
 intro p hp x hx;rw[Gz];show x.2<S.files.length+1;have hz:Wt (λj=>if j<S.files.length+1 then 0 else 1) S.seen=0:=dR λp hp x hx=>BZ (lM (h.ids p hp x hx));have h3:=AAr (λj=>if j<S.files.length+1 then 0 else 1) S.seen (.create d n S.files.length);rw[hz] at h3;have h4:=AG6 (f:=λj=>if j<S.files.length+1 then 0 else 1) hp hx;simp only[EF.made,Nat.lt_succ_self,if_true] at h3;by_cases hl:x.2<S.files.length+1;exact hl;simp only[BM hl] at h4;omega
theorem Uq.write(h:Uq S)(d n:ByteArray)(xs:List Int):Uq (S.write d n xs).1:=by
 unfold St.write;split;exact h;split;exact h.other rfl rfl rfl rfl;split;exact h;exact h.other rfl rfl rfl AV
theorem Uq.sync(h:Uq S)(d n:ByteArray):Uq (S.sync d n).1:=by
 unfold St.sync;split;exact h;exact h.other rfl rfl rfl AV
theorem Uq.rename(h:Uq S)(a b:ByteArray):Uq (S.rename a b).1:=by
 unfold St.rename;split;exact h;exact h.make λ_=>rfl
theorem Uq.remove(h:Uq S)(d n:ByteArray):Uq (S.remove d n).1:=by
 unfold St.remove;split;exact h;exact h.make λ_=>rfl
theorem Uq.rmdir(h:Uq S)(d:ByteArray):Uq (S.rmdir d).1:=by
 unfold St.rmdir;split;exact h;split;exact h;exact h.make λ_=>rfl
theorem Uq.EL(h:Uq S)(d:ByteArray): ∀l:List ByteArray,Uq (St.EL d S l).1:=by
 intro l
 induction l generalizing S with
 |nil=>exact h|cons n r ih=>
  unfold St.EL;split;exact ih (h.remove d n);exact h.remove d n
theorem Uq.clean(h:Uq S):Uq S.clean.1:=by
 unfold St.clean St.MG;split
 ·split
  ·split
   ·split
    ·split;exact ((h.EL _ _).rmdir _).names;exact (h.EL _ _).rmdir _
    exact h.EL _ _
   exact h
  exact h
 exact h
theorem Uq.puts(n:ByteArray): ∀(C:List (List Int)) {S:St},Uq S->Uq (S.puts n C).1
 | [],S,h=>h
 |x::r,S,h=>by
  unfold St.puts;split;exact Uq.puts n r (h.write BP n x);exact h.write BP n x
theorem Uq.act(h:Uq S)(d:Do):Uq (S.act d).1:=by
 cases d with|Cc=>exact h.Cc BP|create n=>exact h.create BP n|write n xs=>exact Uq.puts n (Vz xs) h|sync n=>exact h.sync BP n|names=>exact h.names|rename d=>exact h.rename BP d
theorem Uq.runT: ∀(ts:List JL) {S:St},Uq S->Uq (S.runT ts).1
 | [],S,h=>h
 |t::r,S,h=>by
  unfold St.runT;split;exact Uq.runT r (h.act t.d);exact h.act t.d
theorem Uq.KI(h:Uq S)(dst:ByteArray)(fs:OL):Uq (S.KI dst fs).1:=by
 unfold St.KI;split;exact h;split;exact h.clean;split;exact h.clean.runT _;exact (h.clean.runT _).clean
theorem Uq.open_{D:FI}{s:Int}:Uq (Ei D q s):=by
 refine⟨λk i=>?_,rfl,λp hp x hx=>?_⟩
 ·show Wt (IA i) (IC (Gx 0 D) (List.take k []))<=1;rw[lK];show Wt (IA i) (Gx 0 D)<=1;rw[AM0];exact (range_one i _ 0).1
 have:=Ye p hp x hx;show x.2<(KH D).length;rw[TG];omega
theorem ASD(f:Nat->Nat){n:Nat}(hu: ∀i,Wt (IA i) T<=1)(hid: ∀p∈T,∀x∈p.2,x.2<n):Wt f T<=((Fv n).map f).sum:=by
 have h: ∀k,Wt (λi=>if i<k then f i else 0) T<=((Fv k).map f).sum:=by
  intro k
  induction k with
  |zero=>rw[dR (λp _ x _=>BM (yt _))];exact Dn _|succ k ih=>
   have h1:=AMy (f:=λi=>if i<k+1 then f i else 0) (g:=λi=>if i<k then f i else 0) (k:=IA k) (a:=f k) (λi=>by
    unfold IA;by_cases h2:i=k;subst h2;simp;by_cases h3:i<k;rw[BZ Aa,BZ h3];omega
    rw[BM Aa];omega) T
   have h2:=AMB (f k) (hu k);rw[List.range_succ,Ey,YN];simp only[BN,EJ,CE,List.sum_nil];omega
 refine CY (Nat.le_of_eq ?_) (h n);unfold Wt Wf;congr 1;apply Hu;intro p hp;congr 1;apply Hu;intro x hx;exact (BZ (hid p hp x hx)).symm
theorem kY{α:Type}(g:α->Nat)(d:α)(l:List α):((Fv l.length).map λi=>g (l.getD i d)).sum=(l.map g).sum:=by
 congr 1;apply List.ext_getElem AV;intro i h1 h2;simp at h1 h2;simp[Gj,h1]
theorem ADr(hi:Inv B S)(hu: ∀i,Wt (IA i) T<=1)(hid: ∀p∈T,∀x∈p.2,x.2<S.files.length)(hw:wd T<=B)(g:Nat->List Int)(hg: ∀i,(g i).length<=(S.files.getD i ([],[])).all.length):
  Fj (T.map λp=>(p.1,p.2.map λx=>(x.1,g x.2)))<=2*B:=by
 have h1:Fj (T.map λp=>(p.1,p.2.map λx=>(x.1,g x.2)))=Wt (λi=>(g i).length) T+wd T:=by
  unfold Fj Wt wd Wf;clear hu hid hw
  induction T with
  |nil=>rfl|cons p r ih=>
   simp only[BN,CE,Eo,Function.comp_def] at ih⊢
   have h2: ∀F:Jv,(F.map λx=>(g x.2).length+1).sum=(F.map λx=>(g x.2).length).sum+F.length:=by
    intro F
    induction F with|nil=>rfl|cons y t ih2=>simp only[BN,CE,EU];omega
   have h3:=h2 p.2;omega
 have h2:=ASD (λi=>(g i).length) hu hid
 have h3:((Fv S.files.length).map λi=>(g i).length).sum<=((Fv S.files.length).map λi=>(λf:Ee=>f.all.length+f.2.length) (S.files.getD i ([],[]))).sum:=by
  generalize Fv S.files.length=l
  induction l with
  |nil=>simp|cons i r ih=>
   simp only[BN,CE] at ih⊢;have h4:=hg i;omega
 rw[kY (λf:Ee=>f.all.length+f.2.length)] at h3;have h4:(S.files.map λf:Ee=>f.all.length+f.2.length).sum<=B:=hi.bulk;omega
theorem ADs(h:Uq S)(hi:Inv B S)(ks:List Bool)(names:Int):Fj (S.left ks names)<=2*B:=by
 have h5:=AAZ (VD hi.ED names.toNat);have h6:=hi.wds;have h7:(S.ED.take names.toNat).length<=S.ED.length:=by rw[Ht];omega
 exact ADr hi (h.one names.toNat) (yJ hi names.toNat).ids Aa _ λi=>by
  unfold St.after;simp only;refine CY (AGY _ _ _ _ (Bc _)) ?_;simp[Ee.all]
end
theorem AIW(fs:List FM):Wu (BB fs)<=6*(fs.map λx=>x.2.length+1).sum:=by
 unfold Wu BB;rw[Eo]
 induction fs with|nil=>simp|cons x r ih=>simp only[BN,CE,Function.comp_apply] at ih⊢;omega
end
section
variable {dst:ByteArray}{c n:Nat}{A:Option Af}
theorem ABE{w0 w1:AL}{G:Bi}{S:St}{B:Nat}(h:EH w0 G S)(hi:Inv B S){gs:List FM}{fs:OL}(ho:G8 w1 A n c gs)(hv:BB gs=fs)(hc:AZ [] w0 w1)
  (hnew: ∀k∈bo A++Gg gs,w0.heap.size<=k) (hby: ∀f∈fs,∀x∈f.2,0<=x/\x<=255) (hB:4*B+2*Wu fs+100<=1073741824):
  Au Ag 14 #[.pointer (AA ⟨G.b,0,AB⟩),.string dst,.slice A n c] w1 (TK w1 G (S.KI dst fs).1 (S.KI dst fs).2):=by
 subst hv;exact X6 (h.CX hc) hi ho.rd (λx hx hm=>by have:=hnew x hx;have:=h.lt x hm;omega) (λx hx=>ho.lt x hx) (λf hf x hx=>hby _ (Bv.2 ⟨f,hf,rfl⟩) x hx) hB
structure yK (W:AL) (sb:Nat) (A:Option Af) (n c:Nat) (ds:List DM) (BG:Int) (dst:ByteArray) (FA:Option Af) (fn fc:Nat) (fs:List FM) (at_:Int) (K:Option Af) (kn kc:Nat) (ks:List Bool) (names:Int):Prop where
 g:Nv W
 ds:FY W A n c ds
 fs:ER W FA fn fc fs
 k:Rd W 1 K kn kc (kv ks)
 s:Bl W sb 24 #[.slice A n c,.int .i64 BG]
 p:Bl W (sb+1) 27 #[.string dst,.slice FA fn fc]
 w:Bl W (sb+2) 32 #[.int .i64 at_,.slice K kn kc,.int .i64 names]
theorem yK.Aj{W w:AL}{sb:Nat}{A:Option Af}{n c:Nat}{ds:List DM}{BG:Int}{dst:ByteArray}{FA:Option Af}{fn fc:Nat}{fs:List FM}{at_:Int}{K:Option Af}{kn kc:Nat}{ks:List Bool}{names:Int}
  (h:yK W sb A n c ds BG dst FA fn fc fs at_ K kn kc ks names) (hc:AZ [] W w):yK w sb A n c ds BG dst FA fn fc fs at_ K kn kc ks names:=
 ⟨hc.cell h.g AV,h.ds.GH hc,h.fs.GH hc,h.k.Aj hc AV,h.s.Aj hc AV,h.p.Aj hc AV,h.w.Aj hc AV⟩
theorem APc{w:AL}(hg:Nv w){ds:List DM}{BG:Int}{FA:Option Af}{fn fc:Nat}{fs:List FM}{at_:Int}{K:Option Af}{kn kc:Nat}{ks:List Bool}{names:Int}
  (h:FY w A n c ds) (hf:ER w FA fn fc fs) (hk:Rd w 1 K kn kc (kv ks)):
  ∃W sb,((w.alloc (.cells #[.slice A n c,.int .i64 BG] 24)).alloc (.cells #[.string dst,.slice FA fn fc] 27)).alloc (.cells #[.int .i64 at_,.slice K kn kc,.int .i64 names] 32)=W/\w.heap.size=sb/\AZ [] w W/\W.heap.size=sb+3/\
   yK W sb A n c ds BG dst FA fn fc fs at_ K kn kc ks names:=by
 refine⟨_,_,rfl,rfl,(((AZ.refl [] w).alloc _).alloc _).alloc _,AV,?_⟩;have hc:=(((AZ.refl [] w).alloc (.cells #[.slice A n c,.int .i64 BG] 24)).alloc (.cells #[.string dst,.slice FA fn fc] 27)).alloc (.cells #[.int .i64 at_,.slice K kn kc,.int .i64 names] 32);refine⟨hc.cell hg AV,h.GH hc,hf.GH hc,hk.Aj hc AV,(Bl.new w _ _).Aj (((AZ.refl [] _).alloc _).alloc _) AV,?_,?_⟩
 ·have:=(Bl.new (w.alloc (.cells #[.slice A n c,.int .i64 BG] 24)) 27 #[.string dst,.slice FA fn fc]).Aj ((AZ.refl [] _).alloc (.cells #[.int .i64 at_,.slice K kn kc,.int .i64 names] 32)) AV;simpa using this
 have:=Bl.new ((w.alloc (.cells #[.slice A n c,.int .i64 BG] 24)).alloc (.cells #[.string dst,.slice FA fn fc] 27)) 32 #[.int .i64 at_,.slice K kn kc,.int .i64 names];simpa using this
end
theorem ADt(x:ByteArray×OL): ∀(r out:FI),r.foldl (Kt x) (true,out)=(true,out++without r x.1)
 | [],out=>by simp[without]
 |d::r,out=>by
  rw[List.foldl_cons];(have e:Kt x (true,out) d=(true,out++if d.1=x.1 then [] else [d]):=by unfold Kt;simp);rw[e,ADt x r,Ed];by_cases h:d.1=x.1;rw[BZ h,BZ h,I9];rw[BM h,BM h,Jo];rfl
theorem ABF{α:Type}{k:ByteArray}{v:α}{t:List (ByteArray×α)}(h: ∀p∈t,Jg k p.1=true):Dh k v t=(k,v)::t:=by
 cases t with|nil=>rfl|cons p r=>rw[Dh,BZ (h p (D7 ..))]
theorem tq{a b:ByteArray}(h:Jg a b=true):Jg b a=false:=by
 cases h2:Jg b a with|false=>rfl|true=>rw[<- LW a,Pj h h2]
theorem ADu(x:ByteArray×OL): ∀(r out:FI),OI r->(if (r.foldl (Kt x) (false,out)).1=true then (r.foldl (Kt x) (false,out)).2 else (r.foldl (Kt x) (false,out)).2++[x])=out++Dh x.1 x.2 (without r x.1)
 | [],out,_=>by simp[without,Dh]
 |d::r,out,hs=>by
  obtain⟨h1,h2⟩:=KL.1 hs;have h1': ∀p∈r,Jg d.1 p.1=true:=λp hp=>h1 _ (Bv.2 ⟨p,hp,rfl⟩);rw[WC,Ed]
  cases hl:PE x.1 d.1 with
  |true=>
   (have e:Kt x (false,out) d=(true,(out++[x])++if d.1=x.1 then [] else [d]):=by unfold Kt;simp[hl]);rw[e,ADt];simp only[if_true];by_cases h:d.1=x.1
   ·rw[BZ h,BZ h,I9,ABF (λp hp=>by rw[<- h];exact h1' p (FK.1 hp).1)];simp
   have hlt:Jg x.1 d.1=true:=by
    cases hz:Jg x.1 d.1 with|true=>rfl|false=>rw[lY.2 (lV (IE h) hz)] at hl;cases hl
   rw[BM h,BM h,Dh,BZ hlt];simp
  |false=>
   have hlt:=lY.1 hl;(have hne:d.1≠x.1:=λh=>by rw[h,LW] at hlt;cases hlt);(have e:Kt x (false,out) d=(false,out++[d]):=by unfold Kt;simp[hl,hne]);rw[e,ADu x r _ h2,BM hne,Dh,BM (by rw[tq hlt];simp)];simp
theorem AM5(x:ByteArray×OL){D:FI}(hs:OI D):wiD x D=Dh x.1 x.2 (without D x.1):=by
 have:=ADu x D [] hs;rw[D9] at this;exact this
theorem yL: ∀(l:OL),(l.map Ac).Nodup->OI (O3 l.reverse)
 | [],_=>mO
 |x::r,h=>by
  obtain⟨h1,h2⟩:=II.1 h;rw[List.reverse_cons,tV]
  exact (yL r h2).with_ _ λe=>h1 (by
   have:=(((V8 r.reverse).map Ac).mem_iff).1 e
   simpa using this)
theorem AL6{fs L:OL}(hp:L.Perm fs)(hn:(fs.map Ac).Nodup)(hs: ∀(a b:Nat) (x y:ByteArray×List Int),a<b->L[a]? =AA x->L[b]? =AA y->Jg y.1 x.1=false):L=O3 fs:=by
 have h1:OI (O3 fs):=by
  have:=yL fs.reverse (by rw[List.map_reverse];exact (List.reverse_perm _).nodup_iff.2 hn);rwa[List.reverse_reverse] at this
 have hnL:(L.map Ac).Nodup:=((hp.map Ac).nodup_iff).2 hn
 have h2:L.Pairwise λx y=>Jg x.1 y.1=true:=by
  rw[YL];intro i j hi hj hij;have h3:=hs i j _ _ hij (CB hi) (CB hj);refine lV (λe=>?_) h3;have h4:=YL.1 hnL i j (by simpa using hi) (by simpa using hj) hij;simp only[List.getElem_map] at h4;exact h4 e.symm
 have h3:(O3 fs).Pairwise λx y=>Jg x.1 y.1=true:=List.pairwise_map.1 h1;refine (hp.trans (V8 fs).symm).eq_of_pairwise (λa b _ _ ha hb=>?_) h2 h3;rw[tq ha] at hb;cases hb
theorem AL7{D:FI}{q:Int}(h:Di D q=0)(nm:ByteArray):OI (MH nm D):=by
 unfold Di at h;split at h;(cases h);have h1:OI D:=(Xr h).1;rw[V9];exact h1.without nm
theorem ABG{D:FI}{BG at_:Int}{dst:ByteArray}{fs:OL}(h:Di D BG=0)(hq:BG<=9223372036854775807)(hb:Fj D<=1048576)(hl:Wu fs<=6291456)(hg:CV dst=true)(hd:dst≠BP)(ks:List Bool)(names:Int):
  Di ((((Ei D BG at_).KI dst fs).1).left ks names) BG=0/\Fj ((((Ei D BG at_).KI dst fs).1).left ks names)<=33554632/\
   ((MH BP ((((Ei D BG at_).KI dst fs).1).left ks names)=VL (MH BP D) dst fs/\(fs.map Ac).Nodup)\/(((Ei D BG at_).KI dst fs).2≠[]/\MH BP ((((Ei D BG at_).KI dst fs).1).left ks names)=MH BP D)):=by
 have hi:=(OD (stop:=at_) h hq).KI dst fs
 have h0:0<=BG:=by
  unfold Di at h;split at h;(cases h);omega
 have e2:=ADs ((Uq.open_ (D:=D) (q:=BG) (s:=at_)).KI dst fs) hi ks names;obtain⟨k1,k2⟩:=Kq.open_ (s:=at_) h hq;have e5:=AL5 k1 (OD (stop:=at_) h hq) hg hd fs ks names;rw[k2] at e5;exact⟨ADq hi ks names h0,Aa,e5⟩
def ABH (v:AQ):Prop:=∃T x,v=.iface T x
def APd (D:FI) (dst:ByteArray) (fs:OL) (w:AL) (e:FT) (w':AL):Prop:=
 ∃A n c L v,e=.returned (.tuple #[.slice A n c,v,.bool true])/\FY w' A n c L/\(n<=1073741824/\∀x∈L,x.1.n<=1073741824)/\AZ [] w w'/\(v=.nilIface\/ABH v)/\
  ((BF L=VL (MH BP D) dst fs/\(fs.map Ac).Nodup)\/(ABH v/\BF L=MH BP D))
theorem JK.is{w:AL}{v:AQ}{L:List Nat}{fs:List LD}(h:JK w v L fs):(v=.nilIface\/ABH v)/\(fs≠[]->ABH v):=by
 cases fs with
 |nil=>exact⟨.inl h.nil_,λe=>Ak rfl e⟩|cons f r=>
  obtain⟨T,x,rfl,_⟩:=h.as_;exact⟨.inr ⟨T,x,rfl⟩,λ_=>⟨T,x,rfl⟩⟩
theorem ABJ(w:AL)(hg:Nv w)(A:Option Af)(n c:Nat)(ds:List DM)(BG:Int)(dst:ByteArray)(FA:Option Af)(fn fc:Nat)(fs:List FM)(at_:Int)(K:Option Af)(kn kc:Nat)(ks:List Bool)(names:Int)
  (h:FY w A n c ds) (hf:ER w FA fn fc fs) (hK:Rd w 1 K kn kc (kv ks)) (hn:n<=1073741824) (hfn:fn<=1073741824) (hkn:kn<=1073741824) (hb:Fj (BF ds)<=1048576) (hl:Wu (BB fs)<=6291456)
  (hds: ∀x∈ds,x.1.n<=1073741824/\∀f∈x.2,f.1.n<=1073741824) (hfs: ∀x∈fs,x.1.n<=1073741824) (hby: ∀f∈BB fs,∀x∈f.2,0<=x/\x<=255) (hq:BG<=9223372036854775807)
  (h0:Di (BF ds) BG=0) (hgd:CV dst=true) (hd:dst≠BP):
  Au Ag 11 #[.agg #[.slice A n c,.int .i64 BG],.agg #[.string dst,.slice FA fn fc],.agg #[.int .i64 at_,.slice K kn kc,.int .i64 names]] w (APd (BF ds) dst (BB fs) w):=by
 obtain⟨W,sb,hW,hsb,hcW,hWs,hE⟩:=APc (BG:=BG) (dst:=dst) (at_:=at_) (names:=names) hg h hf hK;have HWS:=AP hWs;have HE:Hid (∀w',AZ [] W w'->yK w' sb A n c ds BG dst FA fn fc fs at_ K kn kc ks names):=AP λw' hc=>hE.Aj hc;have HC:=AP hcW;have HB:=AP hb;have HL:=AP hl;have HBY:=AP hby;have HTP:=AP (ABG (at_:=at_) (dst:=dst) h0 hq hb hl hgd hd ks names);have HI:=AP ((OD (stop:=at_) h0 hq));have H0:=AP h0;have ALw:Hid (∀w' q s,AZ [] W w'->Au Ag 13 #[.agg #[.slice A n c,.int .i64 q],.int .i64 s] w' (APZ w' (BF ds) q s)):=AP λw' q s hc=>AFo w' A n c ds q s (hE.Aj hc).ds hn Aa hds;have ALv:Hid (∀w',AZ [] W w'->Au Ag 15 #[.slice FA fn fc] w' (xq w' (BB fs))):=AP λw' hc=>X8 FA fn fc fs w' (hE.Aj hc).fs hfn hfs;have HQ:=AP hq;have q13:= @ASv;have uj:= @AOM;have uk:= @AKK;have q16:= @ASw;have pK:= @AKL;have q20:= @AON;have q21:= @AGX;have x0:=hE.s.cell 0;have x1:=hE.s.cell 1;have x2:=hE.w.cell 0;clear h hf hb hl hds hfs hby hcW hE hg hWs hK h0 hgd hd hq;go_enter ANL,Tryz.ntmps11;(go_wp2_with fail);refine (ALw.out W BG at_ (AZ.refl _ _)).mono ?_;rintro e w2 (⟨he,rfl,hc2⟩|⟨he,G,rfl,hF,hN,hc2⟩);exact Ak H0.out he;have HC2:Hid (AZ [] W w2):=AP hc2;have HF:=AP hF;have HN:Hid (∀x∈G.all,W.heap.size<=x):=AP hN
 generalize hS:Ei (BF ds) BG at_=S at*
 clear hF hN hc2 he x0 x1 x2 hS;have H1:Hid (∀w',AZ G.all w2 w'->w'.cell? ⟨sb+1,0,AB⟩=AA (.string dst)):=AP λw' hc=>(HE.out _ (HC2.out.trans hc λx hx=>.inr (HN.out x hx))).p.cell 0;have H2:Hid (∀w',AZ G.all w2 w'->w'.cell? ⟨sb+1,1,AB⟩=AA (.slice FA fn fc)):=AP λw' hc=>(HE.out _ (HC2.out.trans hc λx hx=>.inr (HN.out x hx))).p.cell 1;(go_wp2_with fail);refine FU (S:=λw'=>AZ G.all w2 w') Aq (((AZ.refl _ _).drew).nil _) (λhHeld=>?_);refine tk 0 ?_;refine tk 1 ?_;refine Gh 2 (λw' hSw=>H1.out _ hSw) ?_;refine tk 3 ?_;refine Gh 4 (λw' hSw=>H2.out _ hSw) ?_;refine Em 5 λK hK=>?_;go_simp;refine (ALv.out _ (HC2.out.Ah ((AZ.refl _ _).drew))).mono ?_;rintro e w3 ⟨A3,c3,gs3,rfl,hO,hv,hc,hnn⟩;have ADh:Hid (AZ [] w2 w3):=AP ((AZ.refl _ _).drew.Ah hc);have HP3:=AP (ABE (dst:=dst) (HF.out.CX (AZ.refl _ _).drew) HI.out hO hv hc hnn HBY.out (by have:=HB.out;have:=HL.out;omega));clear hO hv hc hnn;go_simp;refine hK.out _ _ (ADh.out.nil _) (λhHeld=>?_);(try simp only[BJ,Bh]);clear hK K;refine Em 6 λK hK=>?_;go_simp;refine HP3.out.mono ?_;rintro e w4 ⟨v4,G4,L4,rfl,hev,hf,hb,hall,hc,hL⟩;have yC:Hid (AZ G.all w2 w4):=AP ((ADh.out.nil _).trans hc λx hx=>.inl hx);have TY:=AP hf;have HB4:=AP hb;have APe:=AP hev;have AVZ:=AP (And.intro hall hL);clear hev hf hb hall hc hL HP3;go_simp;refine hK.out _ _ (yC.out) (λhHeld=>?_);(try simp only[BJ,Bh]);clear hK K;refine tk 7 ?_;refine Eu Aq ?_ _;(try simp only[BJ,Bh]);have JD:Hid (AZ [] W w4):=AP (HC2.out.trans yC.out λx hx=>.inr (HN.out x hx));have HI4:=AP (HI.out.KI dst (BB fs));have x0:=(HE.out _ JD.out).w.cell 1;have x1:=(HE.out _ JD.out).w.cell 2;clear H1 H2;(go_wp2_with fail);have hdu:=AC2 TY.out HI4.out (by have:=HB.out;have:=HL.out;omega) K kn kc ks names (HE.out _ JD.out).k hkn;rw[HB4.out] at hdu;refine hdu.mono ?_;clear hdu x0 x1;rintro e w5 ⟨A5,n5,c5,ds5,rfl,hd5,hv5,hc5,_⟩;have MW:Hid (AZ [] W w5):=AP (JD.out.Ah hc5);have HT:=AP HTP.out;rw[<- hv5] at HT;have HD5:=AP hd5.rd;have x1:=(HE.out _ MW.out).s.cell 1;clear hd5 hv5 hc5 HTP;(go_wp2_with fail);refine (qj w5 A5 n5 c5 ds5 BG (-1) HD5.out (by obtain⟨h1,_⟩:=aB HD5.out HT.out.2.1;omega) (by have:=HT.out.2.1;omega)).mono ?_;rintro e w6 hfs;obtain⟨vp,rfl,hc6,hres⟩:=hfs.one;rcases hres with ⟨h,_⟩|⟨_,G6,rfl,hF6,hN6⟩;exact Ak HT.out.1 h;have Jh:Hid (AZ [] W w6):=AP (MW.out.Ah hc6);have HF6:=AP hF6;(have Xv:Hid (∀x∈G6.all,W.heap.size<=x):=AP λx hx=>by have:=hN6 x hx;have:=MW.out.size;omega);have HE6:=AP HT.out.1;have kT:=AP (OD (BG:=BG) (stop:= -1) HT.out.1 HQ.out);have Uk:=AP (vK HT.out.1 HQ.out ([]:List Bool) 0);rw[HE6.out];clear hfs hc6 hF6 hN6 HE6 x1;(go_wp2_with fail);refine (clean_nil HF6.out kT.out (by have:=HT.out.2.1;omega) Uk.out.1).mono ?_;rintro e w7 ⟨rfl,G7,hf7,hb7,hall7,Xy⟩;have MX:Hid (AZ [] W w7):=AP (Jh.out.trans Xy λx hx=>.inr (Xv.out x hx));have HF7:=AP hf7;have HB7:=AP hb7;clear hf7 hb7 hall7 Xy;(go_wp2_with fail);have hvw:=qi HF7.out kT.out.clean (by have:=HT.out.2.1;omega);rw[HB7.out,Uk.out.2.1] at hvw;refine hvw.mono ?_;clear hvw;rintro e w8 ⟨A8,n8,c8,ds8,rfl,hd8,hv8,hc8,_⟩
 have sU:Hid (n8<=1073741824/\∀x∈ds8,x.1.n<=1073741824):=AP (by
  obtain⟨h1,_,_,h2⟩:=aB hd8.rd (B:=33554632) (by rw[hv8];exact CY (AFr _ _) HT.out.2.1)
  exact⟨Aa,λx hx=>by have:=(h2 x hx).1;omega⟩)
 have HD8:=AP hd8.rd;have HV8:=AP hv8;have HC8:Hid (AZ [] w w8):=AP ((HC.out.Ah MX.out).Ah hc8);clear hd8 hv8 hc8;go_wp2
 go_ret3
 refine⟨_,_,_,ds8,_,rfl,HD8.out,sU.out,HC8.out,APe.out.is.1,?_⟩;rcases HT.out.2.2 with ⟨h1,h2⟩|⟨h1,h2⟩;exact .inl ⟨HV8.out.trans h1,h2⟩;exact .inr ⟨APe.out.is.2 h1,HV8.out.trans h2⟩
theorem ADv(w:AL)(LA:Option Af)(ln lc:Nat)(L:List DM)(A:Option Af)(n c:Nat)(ds:List DM)(dst:ByteArray)(FA:Option Af)(fn fc:Nat)(fs:List FM){BG:Int}
  (hL:FY w LA ln lc L) (h:FY w A n c ds) (hf:ER w FA fn fc fs) (hln:ln<=1073741824/\∀x∈L,x.1.n<=1073741824) (hn:n<=1048576) (hfn:fn<=1073741824) (hfs: ∀x∈fs,x.1.n<=1073741824) (h0:Di (BF ds) BG=0):
  Au Ag 12 #[.slice LA ln lc,.slice A n c,.agg #[.string dst,.slice FA fn fc]] w λe w'=>∃b1 b2,e=.returned (.tuple #[.bool b1,.bool b2])/\AZ [] w w'/\
   (BF L=VL (MH BP (BF ds)) dst (BB fs)->((BB fs).map Ac).Nodup->b1=true/\b2=true)/\(BF L=MH BP (BF ds)->b1=true):=by
 obtain⟨W,hW⟩: ∃W,w.alloc (.cells #[.string dst,.slice FA fn fc] 27)=W:=⟨_,rfl⟩;obtain⟨sb,hsb⟩: ∃sb,w.heap.size=sb:=⟨_,rfl⟩;(have hcW:AZ [] w W:=by rw[<- hW];exact (AZ.refl [] w).alloc _);have HK:Hid (Bl W sb 27 #[.string dst,.slice FA fn fc]):=AP (by rw[<- hW,<- hsb];exact .new _ _ _);have HD:Hid (∀w',AZ [] W w'->FY w' A n c ds/\FY w' LA ln lc L/\ER w' FA fn fc fs):=AP λw' hc=>⟨h.GH (hcW.Ah hc),hL.GH (hcW.Ah hc),hf.GH (hcW.Ah hc)⟩;have HC:=AP hcW;have HLN:=AP hln;have kQ:=AP hfs;have HS:=AP (AL7 h0 BP);have q19:= @ASy;have q22:= @ASz;have q33:= @AS4;have q34:= @AS5;clear h hL hf hcW hln hfs h0;go_enter ANM,Tryz.ntmps12;(go_wp2_with fail);refine (AA4 A n c ds BP W (HD.out W (AZ.refl _ _)).1 Aa).mono ?_;rintro e w1 ⟨A1,c1,rfl,ho1,hc1,hn1⟩;have CZ:=AP hc1;have qI:=AP ho1
 have hl1:(Ro BP ds).length<=1048576:=by
  (have h1:ds.length=n:=by have:=(HD.out W (AZ.refl _ _)).1.row.MV;simpa[EP] using this);have h2:(Ro BP ds).length<=ds.length:=aW _ _;omega
 have HL1:=AP hl1;clear ho1 hc1 hn1 hl1;have H1:Hid (∀w',AZ [] w1 w'->w'.cell? ⟨sb,0,AB⟩=AA (.string dst)):=AP λw' hc=>(HK.out.Aj (CZ.out.Ah hc) AV).cell 0;have H2:Hid (∀w',AZ [] w1 w'->w'.cell? ⟨sb,1,AB⟩=AA (.slice FA fn fc)):=AP λw' hc=>(HK.out.Aj (CZ.out.Ah hc) AV).cell 1;(go_wp2_with fail);refine FU (S:=λw'=>AZ [] w1 w') Aq ((AZ.refl _ _).drew) (λhHeld=>?_);refine tk 0 ?_;refine tk 1 ?_;refine Gh 2 (λw' hSw=>H1.out _ hSw) ?_;refine tk 3 ?_;refine Gh 4 (λw' hSw=>H2.out _ hSw) ?_;refine Em 5 λK hK=>?_;go_simp;refine (AA7 FA fn fc fs _ (HD.out _ (CZ.out.Ah hHeld)).2.2 hfn kQ.out).mono ?_;rintro e w2 ⟨A2,c2,L2,rfl,hf2,hp2,hs2,hc2,hn2⟩;have HC2:=AP (AZ.Ah hHeld hc2);have HF2:=AP hf2
 have HP2:Hid (((BB fs).map Ac).Nodup->BB L2=O3 (BB fs)):=AP λhnd=>AL6 hp2 hnd λa b x y hab hx hy=>by
  unfold BB at hx hy;rw[Bg] at hx hy
  cases hx1:L2[a]? with
  |none=>rw[hx1] at hx;cases hx|some x1=>
   cases hy1:L2[b]? with
   |none=>rw[hy1] at hy;cases hy|some y1=>
    rw[hx1] at hx;rw[hy1] at hy;(cases hx);(cases hy);exact hs2 a b x1 y1 hab (CP.1 hy1).1 hx1 hy1
 clear hf2 hp2 hs2 hc2 hn2;go_simp;refine hK.out _ _ (HC2.out) (λhHeld=>?_);(try simp only[BJ,Bh]);clear hK K;refine tk 6 ?_;refine Em 7 λK hK=>?_;go_simp;refine (AIQ A1 _ c1 (Ro BP ds) dst A2 _ c2 L2 w2 ⟨(qI.out.Aj HC2.out AV).rd,λd hd=>(HD.out _ (CZ.out.Ah HC2.out)).1.Eb d (ZV.1 hd).1⟩ (by have:=HL1.out;omega)).mono ?_;rintro e w3 ⟨A3,c3,rfl,ho3,hc3,hn3⟩;have Ff:=AP (HC2.out.Ah hc3)
 have HD3:Hid (FY w3 A3 (wiM (⟨dst,A2,L2.length,c2⟩,L2) (Ro BP ds)).length c3 (wiM (⟨dst,A2,L2.length,c2⟩,L2) (Ro BP ds))):=AP ⟨ho3.rd,λd hd=>by
  rcases ALe hd with rfl|hm;exact HF2.out.GH hc3
  exact (HD.out _ (CZ.out.Ah Ff.out)).1.Eb d (ZV.1 hm).1⟩
 have HV3:Hid (((BB fs).map Ac).Nodup->BF (wiM (⟨dst,A2,L2.length,c2⟩,L2) (Ro BP ds))=VL (MH BP (BF ds)) dst (BB fs)):=AP λhnd=>by
  rw[AIP,xu];show wiD (dst,BB L2) _=_;rw[AM5 _ HS.out,HP2.out hnd];unfold VL;rw[<- V9]
 clear ho3 hc3 hn3;go_simp;refine hK.out _ _ (Ff.out) (λhHeld=>?_);(try simp only[BJ,Bh]);clear hK K H1 H2;refine tk 8 ?_;refine Eu Aq ?_ _;(try simp only[BJ,Bh]);(go_wp2_with fail);refine (rq LA ln lc L A3 _ c3 _ w3 (HD.out _ (CZ.out.Ah Ff.out)).2.1 HD3.out HLN.out.1 HLN.out.2).mono ?_;rintro e w4 ⟨b,rfl,hb4,hc4⟩;have JD:=AP (Ff.out.Ah hc4);have HB4:=AP hb4;clear hb4 hc4
 cases b with
 |true=>
  go_wp2
  go_ret2
  exact⟨_,_,rfl,(HC.out.Ah CZ.out).Ah JD.out,λ_ _=>⟨rfl,rfl⟩,λ_=>rfl⟩
 |false=>
  (go_wp2_with fail);refine (rq LA ln lc L A1 _ c1 _ w4 (HD.out _ (CZ.out.Ah JD.out)).2.1 ⟨(qI.out.Aj JD.out AV).rd,λd hd=>(HD.out _ (CZ.out.Ah JD.out)).1.Eb d (ZV.1 hd).1⟩ HLN.out.1 HLN.out.2).mono ?_;rintro e w5 ⟨b,rfl,hb5,hc5⟩;have MW:=AP (JD.out.Ah hc5);have qY:=AP hb5;clear hb5 hc5;go_wp2
  go_ret2
  exact⟨_,_,rfl,(HC.out.Ah CZ.out).Ah MW.out,λh hnd=>(by have:=HB4.out (h.trans (HV3.out hnd).symm);cases this),λh=>qY.out (h.trans (xu _ _).symm)⟩
theorem AIX(w:AL)(hg:Nv w)(A:Option Af)(n c:Nat)(ds:List DM)(BG:Int)(dst:ByteArray)(FA:Option Af)(fn fc:Nat)(fs:List FM)(at_:Int)(K:Option Af)(kn kc:Nat)(ks:List Bool)(names:Int)
  (h:FY w A n c ds) (hf:ER w FA fn fc fs) (hK:Rd w 1 K kn kc (kv ks)) (hn:n<=1048576) (hfn:fn<=1073741824) (hkn:kn<=1073741824) (hb:Fj (BF ds)<=1048576) (hl:Wu (BB fs)<=6291456)
  (hds: ∀x∈ds,x.1.n<=1073741824/\∀f∈x.2,f.1.n<=1073741824) (hfs: ∀x∈fs,x.1.n<=1073741824) (hby: ∀f∈BB fs,∀x∈f.2,0<=x/\x<=255) (hq:BG<=9223372036854775807):
  Au Ag 3 #[.agg #[.slice A n c,.int .i64 BG],.agg #[.string dst,.slice FA fn fc],.agg #[.int .i64 at_,.slice K kn kc,.int .i64 names]] w λe w'=>e=.returned (.bool true)/\AZ [] w w':=by
 obtain⟨W,sb,hW,hsb,hcW,hWs,hE⟩:=APc (BG:=BG) (dst:=dst) (at_:=at_) (names:=names) hg h hf hK;have HE:Hid (∀w',AZ [] W w'->yK w' sb A n c ds BG dst FA fn fc fs at_ K kn kc ks names):=AP λw' hc=>hE.Aj hc;have HC:=AP hcW;have AUk:Hid (∀w',AZ [] W w'->Au Ag 9 #[.slice A n c,.int .i64 BG,.int .i64 at_] w' (AA9 w' (BF ds) BG at_)):=AP λw' hc=>sQ w' A n c ds BG at_ (hE.Aj hc).ds Aa Aa
 have AUl:Hid (Di (BF ds) BG=0->CV dst=true->dst≠BP->∀w',AZ [] W w'->Au Ag 11 #[.agg #[.slice A n c,.int .i64 BG],.agg #[.string dst,.slice FA fn fc],.agg #[.int .i64 at_,.slice K kn kc,.int .i64 names]] w' (APd (BF ds) dst (BB fs) w')):=
  AP λh0 h1 h2 w' hc=>ABJ w' (hE.Aj hc).g A n c ds BG dst FA fn fc fs at_ K kn kc ks names (hE.Aj hc).ds (hE.Aj hc).fs (hE.Aj hc).k Aa hfn hkn hb hl hds hfs hby hq h0 h1 h2
 have kQ:=AP hfs;have HD:Hid (∀w',AZ [] W w'->FY w' A n c ds/\ER w' FA fn fc fs):=AP λw' hc=>⟨(hE.Aj hc).ds,(hE.Aj hc).fs⟩;have q8:= @VC8;have q9:= @VC9;have q10:= @AOL;have q11:= @ASt;have q12:= @ASu;clear h hf hb hl hds hfs hby hcW hE hg hWs hK hq;go_enter VF3,Tryz.ntmps3;(go_wp2_with fail);refine (ADj W (HE.out W (AZ.refl _ _)).g).mono ?_;rintro e w1 ⟨rfl,hc1⟩;have CZ:Hid (AZ [] W w1):=AP hc1;have x0:=(HE.out _ hc1).s.cell 0;have x1:=(HE.out _ hc1).s.cell 1;have x2:=(HE.out _ hc1).w.cell 0;clear hc1;(go_wp2_with fail);refine (AUk.out w1 CZ.out).mono ?_;rintro e w2 hrf;obtain⟨vp,rfl,hc2⟩:=hrf.one;have HC2:Hid (AZ [] W w2):=AP (CZ.out.Ah hc2);have AUm:Hid (AZ [] w w2):=AP (HC.out.Ah HC2.out);have x3:=(HE.out _ HC2.out).p.cell 0;clear hc2 hrf x0 x1 x2;by_cases he:Di (BF ds) BG=0
 ·have HE0:=AP he;rw[he];clear he;(go_wp2_with fail);refine (Zw dst w2).mono ?_;rintro e w3 ⟨rfl,hc3⟩;have Ff:Hid (AZ [] W w3):=AP (HC2.out.Ah hc3);have APf:Hid (AZ [] w w3):=AP (HC.out.Ah Ff.out);have x4:=(HE.out _ Ff.out).p.cell 0;clear hc3 x3
  cases hgd:CV dst with
  |false=>
   go_wp2;go_ret;exact⟨rfl,APf.out⟩
  |true=>
   have HGD:=AP hgd;clear hgd;(have hst:([46,115,116,97,103,101]:List UInt8)=BP.toList:=by decide+kernel);by_cases hd:dst=BP
   ·(have hb2:(dst.toList==[46,115,116,97,103,101])=true:=by rw[hst,<- JE];exact decide_eq_true hd);clear hd hst;go_wp2;go_ret;exact⟨rfl,APf.out⟩
   (have hb2:(dst.toList==[46,115,116,97,103,101])=false:=by rw[hst,<- JE];exact decide_eq_false hd);have uo:=AP hd;have y0:=(HE.out _ Ff.out).s.cell 0;have y1:=(HE.out _ Ff.out).s.cell 1;have y2:=(HE.out _ Ff.out).p.cell 1;have y3:=(HE.out _ Ff.out).w.cell 0;have y4:=(HE.out _ Ff.out).w.cell 1;have y5:=(HE.out _ Ff.out).w.cell 2;clear hd hst;(go_wp2_with fail);refine (AUl.out HE0.out HGD.out uo.out w3 Ff.out).mono ?_;rintro e w4 ⟨A4,n4,c4,L,v,rfl,hL,hLn,hc4,hv,hres⟩;have JD:Hid (AZ [] W w4):=AP (Ff.out.Ah hc4);have HL:=AP hL;have HLN:=AP hLn;have ALy:=AP hres;have z0:=(HE.out _ JD.out).s.cell 0;have z1:=(HE.out _ JD.out).p.cell 0;have z2:=(HE.out _ JD.out).p.cell 1;clear hL hLn hc4 hres x4 y0 y1 y2 y3 y4 y5;(go_wp2_with fail);refine (ADv w4 A4 n4 c4 L A n c ds dst FA fn fc fs HL.out (HD.out _ JD.out).1 (HD.out _ JD.out).2 HLN.out hn hfn kQ.out HE0.out).mono ?_;rintro e w5 ⟨b1,b2,rfl,hc5,AL8,hb1⟩;have MW:Hid (AZ [] w w5):=AP ((HC.out.Ah JD.out).Ah hc5);clear hc5 z0 z1 z2;rcases ALy.out with ⟨r1,r2⟩|⟨⟨T,x,rfl⟩,r1⟩
   ·obtain⟨rfl,rfl⟩:=AL8 r1 r2;clear AL8 hb1 r1 r2;rcases hv with rfl|⟨T,x,rfl⟩
    ·go_wp2;go_ret;exact⟨rfl,MW.out⟩
    go_wp2;go_ret;exact⟨rfl,MW.out⟩
   obtain rfl:=hb1 r1;clear AL8 hb1 r1 hv;go_wp2;go_ret;exact⟨rfl,MW.out⟩
 (have he1:(Di (BF ds) BG !=0)=true:=by simp[he]);clear he;go_wp2;go_ret;exact⟨rfl,AUm.out⟩
section
variable {held:Bool}{r:Go.Reach}{p:List GZ}{b:Nat}{H:Type}{v:AQ}{W:AL}
theorem AIY{enc:Am×AQ->H}{d:Dt H}
  (hv:Value.okWide Tryz.prog W r b 27 v) (h:DataW.Trod enc Tryz.prog W 0 (λ_=>true) held 27 v d p):
  ∃dst A n c,∃fs:List FM,v=.agg #[.string dst,.slice A n c]/\dV W A n c fs/\(fs.map λx=>x.2.length+1).sum+1<=Rows.uptoBulk d:=by
 obtain⟨cs,rfl,hsz⟩:=okWide_struct Tryz.underlying27 hv;obtain⟨c0,c1,rfl⟩:=array2 (hsz.trans Aq);obtain⟨fuel,hf⟩:=h;obtain⟨y0,y1,m,hx,hl,h0,h1⟩:=trod_struct2 Tryz.underlying27 (by simpa[Ny] using hf);simp only[OM] at hx;obtain⟨rfl,rfl⟩:=hx;(have e0:Tryz.prog.cellsOf 9=1:=by kernel_rfl);(have e1:Tryz.prog.cellsOf 25=1:=by kernel_rfl);simp only[e0,e1,YO,mQ,eU,lL] at h0 h1;obtain⟨dst,hd,_,_⟩:=DataW.trod_string Tryz.underlying9 h0;simp only[Ib,and_true] at hd;subst hd;obtain⟨a,l,c,hc⟩:=slice_form Tryz.underlying25 h1;simp only[Ib,and_true] at hc;subst hc;obtain⟨A,n0,cc,fs,k1,k2,k3⟩:=jb ⟨_,_,_,rfl⟩ ⟨m,by simpa[Ny] using h1⟩;injection k1 with i1 i2 i3;subst i1;subst i2;subst i3;refine⟨dst,_,_,_,fs,rfl,k2,?_⟩;simp only[Rows.uptoBulk,Rows.uptoBulkAll];omega
theorem ADw{enc:Am×AQ->H}{d:Dt H}
  (hv:Value.okWide Tryz.prog W r b 32 v) (h:DataW.Trod enc Tryz.prog W 0 (λ_=>true) held 32 v d p):
  ∃at_ K kn kc,∃ks:List Bool,∃names:Int,v=.agg #[.int .i64 at_,.slice K kn kc,.int .i64 names]/\Rd W 1 K kn kc (kv ks)/\WZ W K kc/\kn+1<=Rows.uptoBulk d:=by
 obtain⟨cs,rfl,hsz⟩:=okWide_struct Tryz.underlying32 hv;obtain⟨c0,c1,c2,rfl⟩:=array3 (hsz.trans Aq);obtain⟨fuel,hf⟩:=h;obtain⟨y0,y1,m,hx,hl,h0,h1⟩:=trod_struct2 Tryz.underlying32 (by simpa[Ny] using hf);simp only[OM] at hx;obtain⟨rfl,rfl⟩:=hx;(have e0:Tryz.prog.cellsOf 3=1:=by kernel_rfl);(have e1:Tryz.prog.cellsOf 30=2:=by kernel_rfl);simp only[e0,e1,YO,mQ,eU,lL] at h0 h1;obtain⟨q,hq,_,_⟩:=DataW.trod_int Tryz.underlying3 h0;simp only[Ib,and_true] at hq;subst hq;obtain⟨K,kn,kc,ks,names,rfl,rfl,k1,k2,k3⟩:=AAu h1;refine⟨q,K,kn,kc,ks,names,rfl,k1,k2,?_⟩;simp only[Rows.uptoBulk,Rows.uptoBulkAll];omega
end
end Go.Proofs.YtkkgcebhfghdnaaGreatDoor.Vw
namespace Go.Proofs.YtkkgcebhfghdnaaGreatDoor.lawCrashes
open Go Go.RowKit Go.Conc Go.ChangeShapes Go.WideShapes Go.Deep Go.Proofs.YtkkgcebhfghdnaaGreatDoor.Vw
theorem runs(H:Type)(enc:Am×AQ->H)(W:AL)(base:Nat)(args:Array AQ)(ds gs:List (Dt H))(before:List GZ)(hsh:W.ShapedOpen Tryz.prog)(hl:laidMetH Tryz.prog [("errors.errorType",Rows.laid_errors_errorType)] W)
  (hval: ∀(j:Nat) t v,Tryz.f3.params[j]? =AA t->args[j]? =AA v->Value.okWide Tryz.prog W .any base t v)
  (hW:DataW.Whole enc Tryz.prog Tryz.f3.params.toList Rows.stagingCrashesSpec.vars false W args.toList ds gs before) (hk:Rows.uptoSmall H (ds++gs)=true):
  ∃M last o w' t',runNT Tryz.prog (M+1) (solo (G (Ba Tryz.prog 3 args .normal) []) W) #[]=(.ended o w',t')/\runN Tryz.prog M (solo (G (Ba Tryz.prog 3 args .normal) []) W)=.next last/\
   step Tryz.prog last=.ended o w'/\Conc.Good Tryz.prog (λv W'=>Rows.stagingCrashesSpec.post enc Tryz.prog Tryz.f3 false true false false W args v W') last o w' t':=by
 have hW':=hW;obtain⟨p,q,hA0,hV,rfl,hfz,hnd⟩:=hW;have hA:DataW.TrodAll enc Tryz.prog W 0 (λ_=>true) true Tryz.f3.params.toList args.toList ds p:=hA0;rw[Tryz.params3] at hA hval;obtain⟨v0,v1,v2,d0,d1,d2,p0,p1,p2,hargs,rfl,rfl,h0,h1,h2⟩:=trodAll_three hA;obtain⟨rfl,rfl⟩:=trodVars_none hV;have hb:=ACZ hk;simp only[I9,Rows.uptoBulkAll] at hb;subst hargs;obtain⟨A,n,c,dsk,BG,rfl,hD,hq,hD2⟩:=ADH (hval 0 _ _ rfl rfl) h0;obtain⟨dst,FA,fn,fc,fs,rfl,hFI,hF2⟩:=AIY (hval 1 _ _ rfl rfl) h1;obtain⟨at_,K,kn,kc,ks,names,rfl,hK,hKr,hK2⟩:=ADw (hval 2 _ _ rfl rfl) h2;have hg:=AIO hl;have hr0:=cells_of_cell hg;have hr1:=ALa hsh
 have hN:2<=W.heap.size:=by
  obtain⟨_,_,_,h⟩:=hr1;exact (Dj.1 h).1
 refine AE5 (X:=3) (fn:=Tryz.f3) (r:=6) Ar (by rfl) Tryz.func3 VF3 rfl Aq (Bs:=JP W) hN (λb hb=>?_) (λb hb=>hb) ?_ ?_
 ·rcases b with _|_|b;exact hr0;exact hr1;omega
 ·intro w' hsz hbl ht ho hou
  exact AHj AIM hW' rfl rfl Tryz.underlying4 (by
   intro t ht;rw[Tryz.params3] at ht;simp at ht
   rcases ht with rfl|rfl|rfl<;>exact⟨Aq,of_decide_eq_true Aq⟩) rfl rfl rfl ⟨ho,ht,hou,hsz,hbl⟩
 intro H ts args' hH hrow hargs t;have hcar:=AR0 hrow t;obtain⟨hz,ha⟩:=hargs;obtain⟨v0,v1,v2,rfl⟩:=Go.Joins.array3 (hz.trans rfl);obtain⟨p0,rfl,hz0,ha0⟩:=(ha 0 _ _ rfl rfl).2.AAL;obtain⟨p1,rfl,hz1,ha1⟩:=(ha 1 _ _ rfl rfl).2.AAL;obtain⟨p2,rfl,hz2,ha2⟩:=(ha 2 _ _ rfl rfl).2.AAL;obtain⟨u0,u1,rfl⟩:=Go.Joins.array2 (hz0.trans rfl);obtain⟨u2,u3,rfl⟩:=Go.Joins.array2 (hz1.trans rfl);obtain⟨u4,u5,u6,rfl⟩:=Go.Joins.array3 (hz2.trans rfl);obtain rfl:=Qm (ha0 1 _ _ rfl rfl) rfl;obtain rfl:=Qm (ha1 0 _ _ rfl rfl) rfl;obtain rfl:=Qm (ha2 0 _ _ rfl rfl) rfl;obtain rfl:=Qm (ha2 2 _ _ rfl rfl) rfl;have hsz:W.heap.size<=(({W with heap:=H}:AL).DN t).heap.size:=hH;obtain⟨A',ds',rfl,hD',hDv⟩:=AH8 hcar hsz hD (ha0 0 _ _ rfl rfl);obtain⟨FA',fs',rfl,hF',hFv⟩:=qp hcar hsz hFI (ha1 1 _ _ rfl rfl);obtain⟨K',rfl,hK'⟩:=ADI hcar hsz hK hKr (ha2 1 _ _ rfl rfl) (λx hx=>by obtain⟨z,_,rfl⟩:=Bv.1 hx;rfl)
 have hg':Nv (({W with heap:=H}:AL).DN t):=by
  obtain⟨v,h1,h2⟩:=hcar _ _ hg
  have:v=.iface 199 (.agg #[.pointer (AA ⟨1,39,AB⟩)]):=h2.AAK (.iface (.agg λi x hx=>by
   rcases i with _|i
   ·(obtain rfl:Value.pointer (AA ⟨1,39,AB⟩)=x:=by simpa using hx);exact .ptr ⟨rfl,hr1⟩
   simp at hx))
  rw[this] at h1;exact h1
 (have hB:Fj (BF ds')<=1048576:=by rw[hDv];omega);obtain⟨b1,_,_,b2⟩:=aB hD' hB;have hfl:=AIW fs;rw[<- hFv] at hfl;(have hfn:fs'.length=fn:=by have:=hF'.row.MV;simpa[EZ] using this);(have hln:6*fs'.length<=Wu (BB fs'):=by have:=ADO (BB fs');simpa[BB] using this);refine (AIX _ hg' A' n c ds' BG dst FA' fn fc fs' at_ K' kn kc ks names hD' hF' hK' Aa Aa Aa hB Aa (λx hx=>⟨by have:=(b2 x hx).1;omega,λf hf=>by have:=(b2 x hx).2 f hf;omega⟩) (λx hx=>?_) (λf hf x hx=>?_) hq).mono ?_
 ·have h1:=(hF'.dat x hx).1;have hm:(x.1.nm,x.2)∈BB fs':=Bv.2 ⟨x,hx,rfl⟩;have h2:3*x.2.length+6<=Wu (BB fs'):=ALQ hm;simp at h1;omega
 ·rw[hFv] at hf;obtain⟨z,hz,rfl⟩:=Bv.1 hf;exact (hFI.dat z hz).2 x hx
 rintro e w' ⟨rfl,hc⟩;exact⟨rfl,λa ha=>hc.block a ha AV⟩
theorem lifted(os:Os)(started:os.Started)(H:Type)(enc:Am×AQ->H)(F:Stop.Interp):
  ReturnsInLeavingWide {} Tryz.checked os 3 .any ((Rows.OpenSpec.upto Rows.stagingCrashesSpec).preRow enc Tryz.prog Tryz.f3 Rows.stagingCrashesUptoRow.domain false [("errors.errorType",Rows.laid_errors_errorType)]) (((Rows.OpenSpec.upto Rows.stagingCrashesSpec).at F).post enc Tryz.prog Tryz.f3 false true false false):=by
 refine kV (C:=Tryz.checked) (s:=Rows.OpenSpec.upto Rows.stagingCrashesSpec) (k:=Rows.uptoSmall) rfl AR4 started Tryz.func3
  (witness_row (enc:=enc) (C:=Tryz.checked) (os:=os) (s:=Rows.OpenSpec.upto Rows.stagingCrashesSpec) (k:=Rows.uptoSmall) rfl (ALb os) #[.agg #[.slice AB 0 0,.int .i64 0],.agg #[.string ⟨#[]⟩,.slice AB 0 0],.agg #[.int .i64 0,.slice AB 0 0,.int .i64 0]] 8 rfl Aq Aq Aq
   (x:=([.agg [.nil,.lit (.int .i64 0)],.agg [.lit (.string []),.nil],.agg [.lit (.int .i64 0),.agg [.nil,.lit (.int .i64 0)]]],[],[])) Aq rfl Aq Aq (AFg os _)) ?_
 intro W base args ds gs before hsh hl hval hW hk;exact runs H enc W base args ds gs before hsh hl hval hW hk
theorem row:Rows.StagingCrashesUptoSaid:=
 aG 3 Tryz.f3 rfl rfl rfl rfl rfl rfl rfl ⟨rfl,rfl,rfl,rfl,rfl⟩ rfl rfl rfl rfl rfl Aq Tryz.func3 Aq
  (of_decide_eq_true Aq) (by unfold Func.isWrapper;first|(rw[BM (of_decide_eq_false Aq)];exact⟨rfl,rfl⟩)|(rw[BZ (of_decide_eq_true Aq)];kernel_rfl))
  (λos started H enc _ F=>lifted os started H enc F)
theorem proved:Rows.StagingCrashesUptoCardSaid:=
 AFh .later [.handle] true (true, "503188990b06714f748bd170a98f75a159cee04e3487e84f51127a3c43b34e91") true row Aq stagingCrashesUpto_row_tie rfl ⟨rfl,rfl⟩ Aq rfl
  (λf fn hf hfn=>by
   obtain rfl:f=3:=EI ((show Tryz.prog.funcNamed "satchel/satchellaw28.StagingCrashes" =AA 3 by kernel_rfl).symm.trans hf) |>.symm;obtain rfl:fn=Tryz.f3:=(EI (Tryz.func3.symm.trans hfn)).symm
   exact⟨Aq,λj t ht=>by
    rw[Tryz.params3] at ht;rcases j with _|_|_|j
    ·(obtain rfl:24=t:=by simpa using ht);kernel_rfl
    ·(obtain rfl:27=t:=by simpa using ht);kernel_rfl
    ·(obtain rfl:32=t:=by simpa using ht);kernel_rfl
    simp at ht⟩)
  Aq
end Go.Proofs.YtkkgcebhfghdnaaGreatDoor.lawCrashes
