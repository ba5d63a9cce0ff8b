/- Part 1 of what that rests on; no condition. -/
import Derived.Conc.Beside
import Derived.Lib.Hide
set_option maxRecDepth 100000
set_option maxHeartbeats 8000000
open List renaming getElem?_cons_zero→WG, getElem?_cons_succ→aP, length_cons→EU, foldl_cons→WC, length_nil→Hr, range→Fv
open Go.Builtin renaming nextslicecap→tu, firstCells→Mc, unsafeAdd_→iQ, zeroCells→Nz, append_→P6, delete_→uB, len_→Us
open Option renaming bind_eq_bind→iR, getD_some→Dx, map_some→Fq, pure_def→iT, none→AB, some→AA
open Go.Region.linearise renaming go→Yr
open Go.Item.inRegion renaming injEq→ABL
open Go.Instr renaming keyThatStays→ABK, takeDeferred→lg, sliceBounds→Q8, buildSlice→aN, sliceBound→P5, findAsking→uA, typeAssert→KJ, beginRound→Yp, mapUpdate→iU, enterLoop→WH, makeFunc→aO, checkKey→Ut, sameBits→Q9, endRound→UN, sliceAt→Lc, sameNow→aQ, findNow→Uu, findKey→YH, getLoop→aT, lookup→P7, slice→WE, yield→aU, fill→MZ, box→TQ
open Go.Conv renaming bytesToString→QC
open Go.Deferred renaming ofValue→P9
open Array renaming replicate→IV, filter→aS, range→aK
open Go.World renaming setCell→YE, cell?→Pz
open Go renaming loadCellsFrom→Ur, runtimePanic→Q7, behindNumber→YF, typeHandle→Uw, callMethod→P8, PanicEntry→NV, zeroValue→GY, Deferred→EM, MapEntry→Du, typeInfo→I7, TypeInfo→Q5, callFunc→E5, Program→BL, Operand→DU, FuncId→Bj, TypeId→Am, setObj→I8, Value→AQ, undef→AU, World→AL, Event→Be, Frame→AX, Addr→Af, Oper→BU
open Go.Region renaming binds→Yq
open Go.GStep renaming after→DZ
open Go.Frame renaming enter→Ba
open Go.stepG renaming apply→H9
open Go.Sem renaming bind→Je, runT→Gi, run→Dw
namespace Go.Proofs.YtkkgcebhfghdnaaGreatDoor
open Go
theorem Aq{p:Prop}(h:p:=by kernel_rfl):p:=h
theorem Aa{p:Prop}(h:p:=by omega):p:=h
theorem AV{p:Prop}(h:p:=by simp):p:=h
theorem Ar{p:Prop}(h:p:=by decide):p:=h
theorem Ew{α β:Type}{p:α→Prop}{f:α→β}:∀x,p x→f x∉([]:List β):=fun _ _=>List.not_mem_nil
theorem nf_{p:Prop}(h:false=true):p:=by cases h
theorem AP{p:Prop}(h:p):Go.RowKit.Hid p:=Lib.hid h
theorem Wv{p:Prop}(h:p:=by simp only[List.map_toArray,List.map_cons,List.map_nil];rfl):p:=h
theorem OH{p:Prop}(h:p:=by unfold maxLen;omega):p:=h
theorem Ap:True:=trivial
theorem BM.{u}{c:Prop}{d:Decidable c}(n:¬c){α:Sort u}{t e:α}:ite c t e=e:=if_neg n
theorem BZ.{u}{c:Prop}{d:Decidable c}(n:c){α:Sort u}{t e:α}:ite c t e=t:=if_pos n
theorem Ak{a b:Prop}(h:a)(k:¬a):b:=absurd h k
abbrev Bc:=@Nat.le_refl
abbrev Dj:=@Array.getElem?_eq_some_iff
abbrev Fa:=@Array.getElem?_eq_getElem
abbrev RD:=@Array.getD_eq_getD_getElem?
abbrev ABQ:=@Array.getElem?_setIfInBounds
abbrev AM6:=@Array.getElem?_push
abbrev AIZ:=@Array.getElem?_append
abbrev AIa:=@Array.getElem?_extract
abbrev AIb:=@Array.getElem?_replicate
abbrev mV:=@Array.mem_of_getElem?
abbrev LG:=@Array.getElem?_map
abbrev J9:=@Option.map_eq_some_iff
abbrev CY:=@Nat.le_trans
abbrev EY:=@Nat.lt_of_lt_of_le
abbrev JU:=@Array.mem_append
abbrev ADx:=@Array.append_assoc
abbrev mW:=@Array.getElem?_modify
abbrev DF:=@Bool.false_eq_true
abbrev D5:=@Array.getElem?_setIfInBounds_ne
abbrev Wy:=@Array.getElem?_setIfInBounds_self_of_lt
abbrev SH:=@Array.getElem?_push_lt
abbrev ADy:=@Array.size_push
abbrev Ia:=@List.mem_toArray
abbrev CJ:=@List.mem_singleton
abbrev ZP:=@Array.ext_getElem?
abbrev VM:=@Nat.add_assoc
abbrev mX:=@Nat.add_comm
abbrev VN:=@Array.all_eq_true'
abbrev eX:=@List.length_eq_zero_iff
abbrev OM:=@Prod.mk.injEq
abbrev yM:=@Array.foldl_toList
abbrev AIc:=@Array.toList_zipIdx
abbrev ADz:=@Array.mapM_eq_mapM_toList
abbrev AD0:=@List.mapM_cons
abbrev AD1:=@Nat.le_zero
abbrev mY:=@Bool.eq_iff_iff
abbrev mZ:=@Nat.zero_mul
abbrev Qn:=@List.getElem?_toArray
abbrev AId:=@Bool.not_false
abbrev yN:=@Classical.not_not
abbrev mg:=@Iff.rfl
abbrev mi:=@Bool.not_true
abbrev UY:=@Option.bind_eq_some_iff
abbrev DR:=@Option.some.injEq
abbrev JH:=@List.all_eq_true
abbrev XA:=@List.mem_range
abbrev DV:=@Bool.and_eq_true
abbrev yO:=@Array.mem_toList_iff
abbrev XB:=@Bool.or_eq_true
abbrev D7:=@List.mem_cons_self
abbrev CO:=@List.mem_cons_of_mem
abbrev ZQ:=@Array.getElem?_toList
abbrev XC:=@List.filter_cons
abbrev eY:=@Array.toList_filter
abbrev AIe:=@Array.toList_append
abbrev ZR:=@Array.toList_map
abbrev EI:=@Option.some.inj
abbrev mr:=@Array.getElem?_append_left
abbrev nG:=@Array.size_append
abbrev Iw:=@List.size_toArray
abbrev AD2:=@List.forIn_cons
abbrev nH:=@Array.all_append
abbrev yP:=@Array.size_map
abbrev Na:=@Nat.zero_add
abbrev ZT:=@Array.getElem?_append_right
abbrev XD:=@Array.getElem?_eq_none
abbrev KC:=@List.map_toArray
abbrev BN:=@List.map_cons
abbrev EJ:=@List.map_nil
abbrev AD3:=@Array.mem_def
abbrev AIf:=@Bool.and_eq_true_iff
abbrev ZU:=@Bool.not_eq_true'
abbrev AIg:=@List.getElem?_range
abbrev Nb:=@List.getElem?_append_left
abbrev Bq:=@List.mem_of_getElem?
abbrev ZV:=@List.mem_filter
abbrev BD:=@List.mem_cons
abbrev Ib:=@List.cons.injEq
abbrev Bd:=@List.mem_append
abbrev Dn:=@Nat.zero_le
abbrev fC:=@Classical.axiomOfChoice
abbrev Nc:=@List.append_cancel_right
abbrev AD4:=@Array.mk.injEq
abbrev nI:=@Classical.byContradiction
abbrev XE:=@Nat.lt_or_ge
abbrev AD5:=@Nat.le_total
abbrev AIh:=@Nat.exists_eq_add_of_le
abbrev IE:=@Ne.symm
abbrev nJ:=@Array.mem_iff_getElem
abbrev PK:=@Nat.eq_zero_or_pos
abbrev BH:=@List.not_mem_nil
abbrev AIi:=@Array.getElem_extract
abbrev OO:=@List.mem_map_of_mem
abbrev Bv:=@List.mem_map
abbrev CB:=@List.getElem?_eq_getElem
abbrev Ey:=@List.map_append
abbrev Eo:=@List.map_map
abbrev F7:=@List.mem_append_left
abbrev Hg:=@List.mem_append_right
abbrev fD:=@Bool.not_eq_true
abbrev Ht:=@List.length_take
abbrev Jm:=@Nat.min_eq_left
abbrev Td:=@Nat.mul_le_mul_right
abbrev yQ:=@List.getElem?_take
abbrev Tf:=@List.eq_nil_of_length_eq_zero
abbrev kZ:=@List.length_set
abbrev yR:=@Array.size_setIfInBounds
abbrev yS:=@Array.toList_setIfInBounds
abbrev yT:=@List.take_set
abbrev aV:=@List.take_take
abbrev Ti:=@List.length_drop
abbrev yU:=@List.getElem?_drop
abbrev ku:=@Nat.add_mul
abbrev YI:=@List.drop_eq_getElem_cons
abbrev Gy:=@List.getElem?_append_right
abbrev IG:=@List.getElem?_eq_none
abbrev Jn:=@Nat.sub_self
abbrev Bg:=@List.getElem?_map
abbrev CP:=@List.getElem?_eq_some_iff
abbrev OQ:=@List.ext_getElem?
abbrev RN:=@List.idxOf?_cons
abbrev RP:=@List.getElem?_of_mem
abbrev QD:=@List.nodup_append
abbrev VO:=@List.map_set
abbrev YJ:=@List.getElem?_set
abbrev kz:=@List.mem_or_eq_of_mem_set
abbrev yV:=@Array.toList_push
abbrev yX:=@List.eraseIdx_sublist
abbrev RQ:=@List.take_add_one
abbrev Ep:=@List.take_of_length_le
abbrev AFs:=@List.getElem?_replicate
abbrev yY:=@Nat.mod_one
abbrev yZ:=@List.take_left'
abbrev OT:=@Nat.mul_one
abbrev AL9:=@List.length_replicate
abbrev lC:=@List.flatten_append
abbrev Gz:=@List.length_append
abbrev Jo:=@List.append_assoc
abbrev YK:=@List.take_append_drop
abbrev OU:=@List.map_take
abbrev Tj:=@Nat.le_of_lt
abbrev lD:=@List.filter_eq_self
abbrev II:=@List.nodup_cons
abbrev OV:=@List.Perm.refl
abbrev yc:=@List.lt_irrefl
abbrev AFt:=@List.le_iff_lt_or_eq
abbrev AFu:=@List.Pairwise.sublist
abbrev KL:=@List.pairwise_cons
abbrev Tm:=@List.flatMap_cons
abbrev Es:=@List.mem_flatMap
abbrev lF:=@List.mem_nil_iff
abbrev AFv:=@List.flatMap_append
abbrev I9:=@List.append_nil
abbrev AMA:=@Bool.and_eq_false_iff
abbrev Hu:=@List.map_congr_left
abbrev DY:=@List.length_map
abbrev aW:=@List.length_filter_le
abbrev AFw:=@List.perm_ext_iff_of_nodup
abbrev YL:=@List.pairwise_iff_getElem
abbrev aX:=@List.pairwise_append
abbrev KN:=@List.mem_flatten
abbrev Gj:=@List.getD_eq_getElem?_getD
abbrev lG:=@List.filter_congr
abbrev yf:=@Option.isSome_map
abbrev aY:=@List.Perm.append_left
abbrev AFx:=@Nat.mul_le_mul
abbrev AFy:=@Option.isSome_iff_exists
abbrev aZ:=@List.filter_append
abbrev YM:=@List.drop_drop
abbrev yg:=@List.take_length
abbrev lH:=@List.getElem?_set_self
abbrev yh:=@List.getElem?_modify
abbrev lI:=@List.getElem?_set_ne
abbrev lJ:=@List.filter_map
abbrev yj:=@Bool.or_eq_false_iff
abbrev YN:=@List.sum_append
abbrev AFz:=@List.getElem?_take_of_lt
abbrev RS:=@List.drop_of_length_le
abbrev ae:=@Nat.mod_lt
abbrev yl:=@Nat.mod_two_eq_zero_or_one
abbrev AMB:=@Nat.mul_le_mul_left
abbrev lK:=@List.take_nil
abbrev YO:=@List.drop_zero
abbrev lL:=@List.drop_succ_cons
abbrev af:=@Array.ext
abbrev KO:=@Array.replicate_succ
abbrev KP:=@List.push_toArray
abbrev KT:=@List.append_toArray
abbrev ah:=@Nat.ne_of_lt
abbrev yt:=@Nat.not_lt_zero
abbrev Ld:=@List.contains_iff_mem
abbrev AF0:=@ByteArray.data_extract
abbrev AF1:=@Array.toList_extract
abbrev lM:=@Nat.lt_succ_of_lt
abbrev yu:=@Array.sizeOf_lt_of_mem
abbrev yw:=@List.getElem?_eq_none_iff
abbrev AMC:=@List.take_append_of_le_length
abbrev AF2:=@List.length_pos_iff
abbrev Jp:=@Prod.ext
abbrev AF3:=@List.mem_of_mem_take
abbrev AF4:=@List.map_eq_singleton_iff
open Go.Conc
section
variable {p p':Array AQ}{v v':AQ}
structure Rn where
 r:Nat->Nat->Prop
 c:Nat->AQ->Prop
 q:ByteArray->Int->Nat->Nat->Prop
structure Rn.le (ρ ρ':Rn):Prop where
 r: ∀a b,ρ.r a b->ρ'.r a b
 c: ∀a x,ρ.c a x->ρ'.c a x
 q: ∀s n a b,ρ.q s n a b->ρ'.q s n a b
theorem Rn.le.refl(ρ:Rn):ρ.le ρ:=⟨λ_ _ h=>h,λ_ _ h=>h,λ_ _ _ _ h=>h⟩
theorem Rn.le.trans{a b c:Rn}(h:a.le b)(k:b.le c):a.le c:=⟨λ_ _ x=>k.r _ _ (h.r _ _ x),λ_ _ x=>k.c _ _ (h.c _ _ x),λ_ _ _ _ x=>k.q _ _ _ _ (h.q _ _ _ _ x)⟩
def Rn.add (ρ:Rn) (n m:Nat):Rn:={r:=λa b=>ρ.r a b\/(a=n/\b=m),c:=ρ.c,q:=ρ.q}
theorem Rn.VP(ρ:Rn)(n m:Nat):ρ.le (ρ.add n m):=⟨λ_ _ h=>.inl h,λ_ _ h=>h,λ_ _ _ _ h=>h⟩
def RelA (ρ:Rn) (a a':Af):Prop:=ρ.r a.block a'.block/\a'.off=a.off/\a'.spot=a.spot
theorem RelA.mono{ρ ρ':Rn}(h:ρ.le ρ'){a a':Af}(k:RelA ρ a a'):RelA ρ' a a':=⟨h.r _ _ k.1,k.2⟩
theorem RelA.add{ρ:Rn}{a a':Af}(k:RelA ρ a a')(n:Nat):RelA ρ (a.add n) (a'.add n):=by
 obtain⟨b,o,s⟩:=a;obtain⟨b',o',s'⟩:=a';obtain⟨h1,h2,h3⟩:=k;simp only at h1 h2 h3;subst h2 h3;unfold Addr.add;split;exact⟨h1,rfl,rfl⟩;exact⟨h1,rfl,rfl⟩
def flat:AQ->Bool
 | .bool _| .int _ _| .string _=>true| .pointer AB| .slice AB _ _| .map AB| .chan AB| .nilFunc| .nilIface=>true|_=>false
def nK:AQ->Bool
 | .func (.method _) _ _=>false| .slice (AA _) 0 0=>false| .pointer (AA _)| .slice (AA _) _ _| .map (AA _)| .chan (AA _)| .func _ _ _| .iface _ _| .float _ _| .complex _ _ _=>true|_=>false
def AD6:AQ->Bool
 | .slice (AA _) 0 0=>true|_=>false
def YP:AQ->Bool
 | .func (.method _) _ _=>true|_=>false
def nM (b:Nat):AQ:=.func (.method "") #[.iface 0 (.chan (AA b))] #[]
structure Fb where
 c:Bj->Bool
 v:Bj->Bool
 l:Bool
 d:Bool
 m:Nat
 a:Bj->Option Nat
 lr:Bj->Bool:=λ_=>false
 e:Bj->Bool:=λ_=>false
 h:Bool:=true
 ch:Option Bj:=AB
 cp:Option Bj:=AB
instance:CoeFun Fb (λ_=>Bj->Bool):=⟨Fb.c⟩
def Fb.small:Fb:={c:=λ_=>false,v:=λ_=>false,l:=false,d:=false,m:=0,a:=λ_=>AB,h:=false}
structure Fs where
 f:Bj->Prop
 v:Bj->Prop
 c:Code->Prop
 r:Bj->Prop
 z:Bj
 m:Nat
 a:Bj->Nat->Prop
 d:Prop
 p:Prop
 e:Bj->Prop
 h:Prop
 dk:Bj->Array AQ->Prop
instance:CoeFun Fs (λ_=>Bj->Prop):=⟨Fs.f⟩
structure Fs.le0 (F F':Fs):Prop where
 f: ∀x,F x->F' x
 v: ∀x,F.v x->F'.v x
 c: ∀x,F.c x->F'.c x
 r: ∀x,F.r x->F'.r x
 z:F'.z=F.z
 m:F.m<=F'.m
 a: ∀f n,F.a f n->F'.a f n
 d:F.d->F'.d
 e: ∀f,F.e f->F'.e f
 h:F.h->F'.h
structure Fs.le (F F':Fs):Prop extends Fs.le0 F F' where
 p:F.p->F'.p
theorem Fs.le.refl(F:Fs):F.le F:=⟨⟨λ_ h=>h,λ_ h=>h,λ_ h=>h,λ_ h=>h,rfl,Bc _,λ_ _ h=>h,λh=>h,λ_ h=>h,λh=>h⟩,λh=>h⟩
def F6 (z:Bj) (s:ByteArray) (n:Int):AQ:=.func (.func z) #[] #[.string s,.int .i64 n]
def vM (z:Bj) (a b:Nat):AQ:=.func (.func z) #[] #[.pointer (AA ⟨a,0,AB⟩),.pointer (AA ⟨b,0,AB⟩)]
inductive BC (F:Fs) (ρ:Rn):AQ->AQ->Prop
 |flat {v:AQ}:flat v=true->BC F ρ v v|ptr {a a':Af}:RelA ρ a a'->BC F ρ (.pointer (AA a)) (.pointer (AA a'))|slice {a a':Af} {n k:Nat}:RelA ρ a a'->BC F ρ (.slice (AA a) n k) (.slice (AA a') n k)|emp {b:Nat} {a:Af}:ρ.c b (.slice (AA a) 0 0)->BC F ρ (.slice (AA ⟨b,0,AB⟩) 0 0) (.slice (AA a) 0 0)|map {b b':Nat}:ρ.r b b'->BC F ρ (.map (AA b)) (.map (AA b'))|chan {b b':Nat}:ρ.r b b'->BC F ρ (.chan (AA b)) (.chan (AA b'))|tok {b:Nat} {x:AQ}:ρ.c b x->nK x=true->(F.p\/x=.chan (AA b))->BC F ρ (.chan (AA b)) x
 |func {f:Bj} {p p' q q':Array AQ}:F f->F.v f->p.size=p'.size->(∀(i:Nat) (v v':AQ),p[i]? =AA v->p'[i]? =AA v'->BC F ρ v v')->
   q.size=q'.size->(∀(i:Nat) (v v':AQ),q[i]? =AA v->q'[i]? =AA v'->BC F ρ v v')->BC F ρ (.func (.func f) p q) (.func (.func f) p' q')
 |yield {l l':Nat}:ρ.r l l'->BC F ρ (.func (.yield l) #[] #[]) (.func (.yield l') #[] #[])|seq {s:ByteArray} {n:Int} {a b:Nat}:ρ.q s n a b->BC F ρ (F6 F.z s n) (vM F.z a b)|mf {b:Nat} {x:AQ}:ρ.c b x->YP x=true->BC F ρ (nM b) x|iface {t:Am} {v v':AQ}:BC F ρ v v'->BC F ρ (.iface t v) (.iface t v')|agg {p p':Array AQ}:p.size=p'.size->(∀(i:Nat) (v v':AQ),p[i]? =AA v->p'[i]? =AA v'->BC F ρ v v')->BC F ρ (.agg p) (.agg p')|tuple {p p':Array AQ}:p.size=p'.size->(∀(i:Nat) (v v':AQ),p[i]? =AA v->p'[i]? =AA v'->BC F ρ v v')->BC F ρ (.tuple p) (.tuple p')
def Az (F:Fs) (ρ:Rn) (p p':Array AQ):Prop:=p.size=p'.size/\∀(i:Nat) (v v':AQ),p[i]? =AA v->p'[i]? =AA v'->BC F ρ v v'
section
variable {F F':Fs} {ρ ρ':Rn}
theorem BC.mono'(hF:F.le F')(h:ρ.le ρ')(k:BC F ρ v v'):BC F' ρ' v v':=by
 induction k with|flat hf=>exact .flat hf|ptr ha=>exact .ptr (ha.mono h)|slice ha=>exact .slice (ha.mono h)|emp hc=>exact .emp (h.c _ _ hc)|map hb=>exact .map (h.r _ _ hb)|chan hb=>exact .chan (h.r _ _ hb)|tok hc ht hp=>exact .tok (h.c _ _ hc) ht (hp.imp hF.p id)|func hf hv h1 _ h2 _ i1 i2=>exact .func (hF.f _ hf) (hF.v _ hv) h1 i1 h2 i2|yield hl=>exact .yield (h.r _ _ hl)|seq hq=>rw[<- hF.z];exact .seq (h.q _ _ _ _ hq)|mf hx hm=>exact .mf (h.c _ _ hx) hm|iface _ i=>exact .iface i|agg h1 _ i=>exact .agg h1 i|tuple h1 _ i=>exact .tuple h1 i
theorem BC.mono(h:ρ.le ρ')(k:BC F ρ v v'):BC F ρ' v v':=k.mono' (.refl _) h
theorem Az.mono'(hF:F.le F')(h:ρ.le ρ'){p p':Array AQ}(k:Az F ρ p p'):Az F' ρ' p p':=⟨k.1,λi v v' h1 h2=>(k.2 i v v' h1 h2).mono' hF h⟩
theorem Az.mono(h:ρ.le ρ')(k:Az F ρ p p'):Az F ρ' p p':=k.mono' (.refl _) h
theorem BC.undef:BC F ρ AU AU:=.tuple rfl λi v v' h=>by simp at h
theorem Az.nil:Az F ρ #[] #[]:=⟨rfl,λi v v' h=>by simp at h⟩
theorem Az.get(h:Az F ρ p p'){i:Nat}(hv:p[i]? =AA v): ∃v',p'[i]? =AA v'/\BC F ρ v v':=by
 have hi:i<p.size:=(Dj.1 hv).1;have hi':i<p'.size:=h.1▸hi;exact⟨p'[i],Fa hi',h.2 i v _ hv (Fa hi')⟩
theorem Az.none{p p':Array AQ}(h:Az F ρ p p'){i:Nat}(hv:p[i]? =AB):p'[i]? =AB:=by
 rw[Array.getElem?_eq_none_iff] at hv⊢;rw[<- h.1];exact hv
theorem Az.getD{p p':Array AQ}(h:Az F ρ p p')(i:Nat):BC F ρ (p.getD i AU) (p'.getD i AU):=by
 rw[RD,RD]
 cases hv:p[i]? with
 |none=>rw[h.none hv];exact .undef|some v=>
  obtain⟨v',hv',hr⟩:=h.get hv;rw[hv'];exact hr
theorem Az.set(h:Az F ρ p p')(hv:BC F ρ v v')(i:Nat):Az F ρ (p.setIfInBounds i v) (p'.setIfInBounds i v'):=by
 refine⟨by simpa using h.1,λj x x' hx hx'=>?_⟩;rw[ABQ] at hx hx';by_cases hij:i=j
 ·subst hij;simp only[if_true] at hx hx';split at hx
  ·split at hx'
   ·cases hx;cases hx';exact hv
   cases hx'
  cases hx
 simp only[hij,if_false] at hx hx';exact h.2 j x x' hx hx'
theorem Az.push{p p':Array AQ}(h:Az F ρ p p'){v v':AQ}(hv:BC F ρ v v'):Az F ρ (p.push v) (p'.push v'):=by
 refine⟨by simpa using h.1,λj x x' hx hx'=>?_⟩;rw[AM6] at hx hx';rw[<- h.1] at hx';split at hx
 ·rename_i hj;simp only[hj,if_true] at hx';cases hx;cases hx';exact hv
 rename_i hj;simp only[hj,if_false] at hx';exact h.2 j x x' hx hx'
theorem Az.append{q q':Array AQ}(h:Az F ρ p p')(k:Az F ρ q q'):Az F ρ (p++q) (p'++q'):=by
 refine⟨by simp[h.1,k.1],λj x x' hx hx'=>?_⟩;rw[AIZ] at hx hx';rw[<- h.1] at hx';split at hx
 ·rename_i hj;simp only[hj,if_true] at hx';exact h.2 j x x' hx hx'
 rename_i hj;simp only[hj,if_false] at hx';exact k.2 _ x x' hx hx'
theorem Az.extract{p p':Array AQ}(h:Az F ρ p p')(i j:Nat):Az F ρ (p.extract i j) (p'.extract i j):=by
 refine⟨by simp[h.1],λn x x' hx hx'=>?_⟩;rw[AIa] at hx hx';split at hx
 ·split at hx'
  ·exact h.2 _ x x' hx hx'
  cases hx'
 cases hx
theorem Az.replicate{v v':AQ}(hv:BC F ρ v v')(n:Nat):Az F ρ (IV n v) (IV n v'):=by
 refine⟨AV,λj x x' hx hx'=>?_⟩;rw[AIb] at hx hx';split at hx
 ·rename_i hj;simp only[hj,if_true] at hx';cases hx;cases hx';exact hv
 cases hx
theorem Az.one(hv:BC F ρ v v'):Az F ρ #[v] #[v']:=by
 have:=(Az.nil (F:=F) (ρ:=ρ)).push hv;simpa using this
theorem Az.VQ(h: ∀x∈p,flat x=true):Az F ρ p p:=
 ⟨rfl,λi v v' h1 h2=>by rw[h1] at h2;cases h2;exact .flat (h v (mV h1))⟩
theorem Az.map{α:Type}{f f':α->AQ}{l:Array α}(h: ∀x∈l,BC F ρ (f x) (f' x)):Az F ρ (l.map f) (l.map f'):=by
 refine⟨AV,λi v v' h1 h2=>?_⟩;rw[LG] at h1 h2;obtain⟨x,hx,rfl⟩:=J9.1 h1;rw[hx] at h2;(cases h2);exact h x (mV hx)
theorem Az.ofFn{n:Nat}{f f':Nat->AQ}(h: ∀i,BC F ρ (f i) (f' i)):Az F ρ ((aK n).map f) ((aK n).map f'):=Az.map λx _=>h x
theorem BC.cells{v v':AQ}(h:BC F ρ v v'):Az F ρ v.cells v'.cells:=by
 cases h with
 |flat hf=>
  cases v<;>first
   |exact Ak (show false=true from hf) AV|exact Az.one (.flat hf)
 |ptr ha=>exact Az.one (.ptr ha)|slice ha=>exact Az.one (.slice ha)|emp hc=>exact Az.one (.emp hc)|map hb=>exact Az.one (.map hb)|chan hb=>exact Az.one (.chan hb)|tok hk ht hp=>
  (have e:v'.cells= #[v']:=by cases v'<;>first|rfl|exact Ak (show false=true from ht) AV);rw[e];exact Az.one (.tok hk ht hp)
 |func hf hv h1 i1 h2 i2=>exact Az.one (.func hf hv h1 i1 h2 i2)|yield hl=>exact Az.one (.yield hl)|seq hq=>exact Az.one (.seq hq)|mf hx hm=>
  (have e:v'.cells= #[v']:=by cases v'<;>first|rfl|exact Ak (show false=true from hm) AV);rw[e];exact Az.one (.mf hx hm)
 |iface hi=>exact Az.one (.iface hi)|agg h1 i=>exact⟨h1,i⟩|tuple h1 i=>exact Az.one (.tuple h1 i)
end
inductive Cm {α β:Type} (R:α->β->Prop):List α->List β->Prop
 |nil:Cm R [] []|cons {a:α} {b:β} {l:List α} {l':List β}:R a b->Cm R l l'->Cm R (a::l) (b::l')
inductive ai (F:Fs) (ρ:Rn) (m:Nat):Target->Target->Prop
 |fn {f:Bj} {q q':Array AQ}:F f->(∀n,F.a f n)->Az F ρ q q'->ai F ρ m (.fn (.func f) q) (.fn (.func f) q')|nil:ai F ρ m .nil .nil|yield {l l':Nat}:F.h->ρ.r l l'->ai F ρ m (.fn (.yield l) #[]) (.fn (.yield l') #[])|seq {s:ByteArray} {n:Int} {a b:Nat}:m<=F.m->ρ.q s n a b->ai F ρ m (.fn (.func F.z) #[.string s,.int .i64 n]) (.fn (.func F.z) #[.pointer (AA ⟨a,0,AB⟩),.pointer (AA ⟨b,0,AB⟩)])|collected {b b':Nat}:ρ.r b b'->ai F ρ m (.collected b) (.collected b')
def ZW (x:AQ) (p:Array AQ):EM:=match x with
 | .func f q r=>{target:=.fn f r,args:=q++p}|_=>{target:=.nil,args:=#[]}
inductive JA (F:Fs) (ρ:Rn):EM->EM->Prop
 |mk {d d':EM}:ai F ρ d.args.size d.target d'.target->Az F ρ d.args d'.args->JA F ρ d d'|dead {b:Nat} {x:AQ} {p p':Array AQ}:ρ.c b x->YP x=true->Az F ρ p p'->JA F ρ (ZW (nM b) p) (ZW x p')
theorem ai.mono'{F F':Fs}{ρ ρ':Rn}(hF:F.le F')(h:ρ.le ρ'){m:Nat}{d d':Target}(k:ai F ρ m d d'):ai F' ρ' m d d':=by
 cases k with|fn hf ha hq=>exact .fn (hF.f _ hf) (λn=>hF.a _ _ (ha n)) (hq.mono' hF h)|nil=>exact .nil|yield hh hl=>exact .yield (hF.h hh) (h.r _ _ hl)|seq hm hq=>rw[<- hF.z];exact .seq (CY hm hF.m) (h.q _ _ _ _ hq)|collected hb=>exact .collected (h.r _ _ hb)
theorem JA.mono'{F F':Fs}{ρ ρ':Rn}(hF:F.le F')(h:ρ.le ρ'){d d':EM}(k:JA F ρ d d'):JA F' ρ' d d':=by
 cases k with|mk h1 h2=>exact .mk (h1.mono' hF h) (h2.mono' hF h)|dead h1 h2 h3=>exact .dead (h.c _ _ h1) h2 (h3.mono' hF h)
theorem CW{α β:Type}{R R':α->β->Prop}(h: ∀a b,R a b->R' a b){l:List α}{l':List β}(k:Cm R l l'):Cm R' l l':=by
 induction k with|nil=>exact .nil|cons a _ i=>exact .cons (h _ _ a) i
structure vN (F:Fs) (ρ:Rn) (l l':Loop):Prop where
 state:l'.state=l.state
 pending:l'.pending=l.pending
 fn:l'.fn=l.fn
 tmps:Az F ρ l.tmps l'.tmps
 params:l'.params=l.params
 few:l.params.size<=2
 assign:l'.assign=l.assign
 body:l'.body=l.body
 okF:F.r l.fn
 okA:F.c l.assign
 okB:F.c l.body
 okJ: ∀j,l.pending=AA j->F.c j
 defers:ρ.r l.defers l'.defers
structure F9 (F:Fs) (ρ:Rn) (e e':Du):Prop where
 key:BC F ρ e.key e'.key
 val:BC F ρ e.val e'.val
 born:e'.born=e.born
inductive Gw (F:Fs) (ρ:Rn):Obj->Obj->Prop
 |cells {p p':Array AQ} {t:Am} {fr:Nat×Nat}:Az F ρ p p'->Gw F ρ (.cells p t fr) (.cells p' t fr)|map {es es':Array Du} {k:Nat}:es.size=es'.size->(∀(i:Nat) (e e':Du),es[i]? =AA e->es'[i]? =AA e'->F9 F ρ e e')->Gw F ρ (.map es k) (.map es' k)|mapIter {b b' s k:Nat} {seen:Array Nat}:ρ.r b b'->Gw F ρ (.mapIter (AA b) s seen k) (.mapIter (AA b') s seen k)|Le {s k:Nat} {seen:Array Nat}:Gw F ρ (.mapIter AB s seen k) (.mapIter AB s seen k)|stringIter {s:ByteArray} {k:Nat}:Gw F ρ (.stringIter s k) (.stringIter s k)|loop {l l':Loop}:vN F ρ l l'->Gw F ρ (.loop l) (.loop l')|deferred:Gw F ρ (.deferred (AA [])) (.deferred (AA []))|LH:Gw F ρ (.deferred AB) (.deferred AB)|number {a a':Af} {b:Bool}:RelA ρ a a'->Gw F ρ (.number a b) (.number a' b)|chan {k s r:Nat} {cl tm:Bool}:Gw F ρ (.chan k #[] cl s r tm) (.chan k #[] cl s r tm)
section
variable {F F':Fs} {ρ ρ':Rn}
theorem vN.mono'(hF:F.le F')(h:ρ.le ρ'){l l':Loop}(k:vN F ρ l l'):vN F' ρ' l l':=
 ⟨k.state,k.pending,k.fn,k.tmps.mono' hF h,k.params,k.few,k.assign,k.body,hF.r _ k.okF,hF.c _ k.okA,hF.c _ k.okB,λj hj=>hF.c _ (k.okJ j hj),h.r _ _ k.defers⟩
theorem Gw.mono'(hF:F.le F')(h:ρ.le ρ'){o o':Obj}(k:Gw F ρ o o'):Gw F' ρ' o o':=by
 cases k with|cells hp=>exact .cells (hp.mono' hF h)|map hs he=>exact .map hs λi e e' h1 h2=>⟨(he i e e' h1 h2).key.mono' hF h,(he i e e' h1 h2).val.mono' hF h,(he i e e' h1 h2).born⟩|mapIter hb=>exact .mapIter (h.r _ _ hb)|Le=>exact .Le|stringIter=>exact .stringIter|loop hl=>exact .loop (hl.mono' hF h)|deferred=>exact .deferred|LH=>exact .LH|number ha=>exact .number (ha.mono h)|chan=>exact .chan
theorem Gw.mono(h:ρ.le ρ'){o o':Obj}(k:Gw F ρ o o'):Gw F ρ' o o':=k.mono' (.refl _) h
end
structure Rn.nN (N:Nat) (ρ:Rn) (n m:Nat):Prop where
 r: ∀b,¬ρ.r n b
 l: ∀a,¬ρ.r a m
 c: ∀x,¬ρ.c n x
 hn:N<=n
 hm:N<=m
def YQ:Obj:=.cells #[] 0 (0,0)
structure Rn.Ok (N:Nat) (ρ:Rn):Prop where
 fn: ∀a b b',ρ.r a b->ρ.r a b'->b=b'
 inj: ∀a a' b,ρ.r a b->ρ.r a' b->a=a'
 cfn: ∀a x y,ρ.c a x->ρ.c a y->x=y
 apart: ∀a b x,ρ.r a b->¬ρ.c a x
 low: ∀a b,ρ.r a b->(a<N\/b<N)->a=b
 hd: ∀a,a<N->ρ.r a a
structure Il (w:AL) (B:List Nat) (s:ByteArray) (n:Int) (a b:Nat):Prop where
 lt: ∀c∈B,c<w.heap.size
 uC:a∈B
 inb:b∈B
 pos:1<=n
 hi:n<=9223372036854775807
 few:s.size<=1073741824
 box: ∃D cap ta,w.heap[a]? =AA (.cells #[.slice D s.size cap] ta (0,0))/\(s.size=0\/∃d o cells td,D=AA ⟨d,o,AB⟩/\d∈B/\w.heap[d]? =AA (.cells cells td (0,0))/\o+cap<=cells.size/\s.size<=cap/\∀i (h:i<s.size),cells[o+i]? =AA (.int .u8 (s[i].toNat:Int)))
 size: ∃tb,w.heap[b]? =AA (.cells #[.int .i64 n] tb (0,0))
theorem Il.keep{w w':AL}{B:List Nat}{s:ByteArray}{n:Int}{a b:Nat}(h:Il w B s n a b)(hz:w.heap.size<=w'.heap.size)(hk: ∀c∈B,w'.heap[c]? =w.heap[c]?):Il w' B s n a b:=by
 obtain⟨D,cap,ta,h1,h2⟩:=h.box;obtain⟨tb,h3⟩:=h.size;refine⟨λc hc=>EY (h.lt c hc) hz,h.uC,h.inb,h.pos,h.hi,h.few,⟨D,cap,ta,by rw[hk a h.uC];exact h1,?_⟩,tb,by rw[hk b h.inb];exact h3⟩;rcases h2 with h2|⟨d,o,cells,td,e,hd,h4,h5⟩;exact .inl h2;exact .inr ⟨d,o,cells,td,e,hd,by rw[hk d hd];exact h4,h5⟩
structure DI (F:Fs) (N:Nat) (ρ:Rn) (v w:AL):Prop where
 ok:ρ.Ok N
 obj: ∀a b,ρ.r a b->∃o o',v.heap[a]? =AA o/\w.heap[b]? =AA o'/\Gw F ρ o o'
 tok: ∀a x,ρ.c a x->v.heap[a]? =AA YQ
 nv:N<=v.heap.size
 nw:N<=w.heap.size
 os:w.os=v.os
 seq: ∀s n a b,ρ.q s n a b->∃B,Il w B s n a b/\∀c∈B,∀x,¬ρ.r x c
end
section
variable {a a':Af}{b b':Nat}{o o':Obj}{ρ:Rn}{w₁:AL}
structure Twin where
 P:BL
 F:Array Func
 p:Prop:=False
abbrev Twin.v (T:Twin):BL:={T.P with funcs:=T.F}
def Halt.still:Halt->Prop
 | .stuck _=>True| .unsupported (.initOrder _)=>False| .unsupported _=>True| .exit _=>True|_=>False
def lN:Mark->Prop
 | .extern _| .noRoom=>True|_=>False
def Halt.dead (p:Prop):Halt->Prop
 | .panic _=>p|h=>Halt.still h
def nO {β:Type} (T:Twin) (F:Fs) (ρ:Rn):Halt->Sem β->Prop
 | .panic x,s'=>T.p\/∃x',s'=.halt (.panic x')/\BC F ρ x x'|h,_=>Halt.still h
def Cb {α:Type} (T:Twin):Sem α->Prop
 | .halt h=>Halt.dead T.p h| .new _ k=>T.p/\∀n,Cb T (k n)| .program k=>Cb T (k T.v)| .shape _ k=>∀x,Cb T (k x)| .frozen _ k=>∀x,Cb T (k x)| .mark _ k=>Cb T k|_=>False
theorem Cb.bind{α γ:Type}{T:Twin}{f:α->Sem γ}: ∀{s:Sem α},Cb T s->Cb T (s.bind f):=by
 intro s
 induction s with
 |halt h=>intro x;exact x
 |new o k ih=>intro x;exact⟨x.1,λn=>ih n (x.2 n)⟩
 |program k ih=>intro x;exact ih T.v x
 |shape b k ih=>intro x y;exact ih y (x y)
 |frozen a k ih=>intro x y;exact ih y (x y)
 |mark m k ih=>intro x;exact ih x
 |_=>intro x;exact x.elim
theorem Cb.run{α:Type}{T:Twin}: ∀{s:Sem α},Cb T s->∀v,∃h v',s.run T.v v=.halt h v'/\Halt.dead T.p h/\v'.drawn=v.drawn:=by
 intro s
 induction s with
 |halt h=>intro x v;exact⟨h,v,by rw[Dw],x,rfl⟩
 |new o k ih=>intro x v;obtain⟨h,u,e,hs,hd⟩:=ih _ (x.2 _) {v with heap:=v.heap.push o};exact⟨h,u,by rw[Dw];exact e,hs,hd⟩
 |program k ih=>intro x v;obtain⟨h,u,e,hs⟩:=ih T.v x v;exact⟨h,u,by rw[Dw];exact e,hs⟩
 |shape b k ih=>intro x v;obtain⟨h,u,e,hs⟩:=ih (v.shape? b) (x _) v;exact⟨h,u,by rw[Dw];exact e,hs⟩
 |frozen a k ih=>intro x v;obtain⟨h,u,e,hs⟩:=ih (v.frozen? a) (x _) v;exact⟨h,u,by rw[Dw];exact e,hs⟩
 |mark m k ih=>intro x v;obtain⟨h,u,e,hs⟩:=ih x v;exact⟨h,u,by rw[Dw];exact e,hs⟩
 |_=>intro x;exact x.elim
def DT {α β:Type} (T:Twin) (F:Fs) (N:Nat) (Q:Rn->α->β->Prop):Sem α->Rn->Sem β->Prop
 | .pure a,ρ,s'=>match s' with
  | .pure b=>Q ρ a b|_=>False
 | .load m a k,ρ,s'=>match s' with
  | .load m' a' k'=>m'=m/\RelA ρ a a'/\∀x x',BC F ρ x x'->DT T F N Q (k x) ρ (k' x')|_=>False
 | .store m a x k,ρ,s'=>match s' with
  | .store m' a' x' k'=>m'=m/\RelA ρ a a'/\BC F ρ x x'/\DT T F N Q k ρ k'|_=>False
 | .new o k,ρ,s'=>(T.p/\∀n,Cb T (k n))\/match s' with
  | .new o' k'=>Gw F ρ o o'/\∀n n',ρ.nN N n n'->DT T F N Q (k n) (ρ.add n n') (k' n')|_=>False
 | .shape b k,ρ,s'=>(∀x,Cb T (k x))\/match s' with
  | .shape b' k'=>ρ.r b b'/\∀x,DT T F N Q (k x) ρ (k' x)|_=>False
 | .freeze _ _ _,_,_=>False
 | .frozen a k,ρ,s'=>(∀x,Cb T (k x))\/match s' with
  | .frozen a' k'=>RelA ρ a a'/\∀x,DT T F N Q (k x) ρ (k' x)|_=>False
 | .getObj b k,ρ,s'=>match s' with
  | .getObj b' k'=>ρ.r b b'/\∀o o',Gw F ρ o o'->DT T F N Q (k o) ρ (k' o')|_=>False
 | .setObj b o k,ρ,s'=>match s' with
  | .setObj b' o' k'=>ρ.r b b'/\Gw F ρ o o'/\o.isChan=false/\(∀p t f,o≠ .cells p t f)/\DT T F N Q k ρ k'|_=>False
 | .choose q k,ρ,s'=>match s' with
  | .choose q' k'=>q'=q/\∀n,DT T F N Q (k n) ρ (k' n)|_=>False
 | .sys c k,ρ,s'=>match c,s' with
  | .env,.sys .env k'=>∀x,DT T F N Q (k x) ρ (k' x)|_,_=>False
 | .program k,ρ,s'=>Cb T (k T.v)\/match s' with
  | .program k'=>DT T F N Q (k T.v) ρ (k' T.P)|_=>False
 | .mark m k,ρ,s'=>Cb T k\/match s' with
  | .mark m' k'=>m'=m/\lN m/\DT T F N Q k ρ k'|_=>False
 | .halt h,ρ,s'=>nO T F ρ h s'
section
variable {α β:Type} {T:Twin} {F:Fs} {N:Nat} {Q:Rn->α->β->Prop} {ρ:Rn}
theorem Y3{k:Option (Am×Nat)->Sem α}{s':Sem β}(h: ∀x,Cb T (k x)):DT T F N Q (.shape b k) ρ s':=by unfold DT;exact .inl h
theorem aj{k:Option (Am×Nat)->Sem α}{k':Option (Am×Nat)->Sem β}(h:ρ.r b b')(h2: ∀x,DT T F N Q (k x) ρ (k' x)):DT T F N Q (.shape b k) ρ (.shape b' k'):=by unfold DT;exact .inr ⟨h,h2⟩
theorem iV{k:Nat->Sem α}{s':Sem β}(h:T.p/\∀n,Cb T (k n)):DT T F N Q (.new o k) ρ s':=by unfold DT;exact .inl h
theorem AD7{k:Nat->Sem α}{k':Nat->Sem β}(h:Gw F ρ o o')(h2: ∀n n',ρ.nN N n n'->DT T F N Q (k n) (ρ.add n n') (k' n')):DT T F N Q (.new o k) ρ (.new o' k'):=by unfold DT;exact .inr ⟨h,h2⟩
theorem XF{k:Bool->Sem α}{s':Sem β}(h: ∀x,Cb T (k x)):DT T F N Q (.frozen a k) ρ s':=by unfold DT;exact .inl h
theorem Y4{k:Bool->Sem α}{k':Bool->Sem β}(h:RelA ρ a a')(h2: ∀x,DT T F N Q (k x) ρ (k' x)):DT T F N Q (.frozen a k) ρ (.frozen a' k'):=by unfold DT;exact .inr ⟨h,h2⟩
end
def AY {α β:Type} (T:Twin) (F:Fs) (N:Nat) (Q:Rn->α->β->Prop) (s:Sem α) (ρ:Rn) (s':Sem β):Prop:=ρ.Ok N->DT T F N Q s ρ s'
theorem Rn.Ok.add{N:Nat}{ρ:Rn}(h:ρ.Ok N){n m:Nat}(k:ρ.nN N n m):(ρ.add n m).Ok N:=by
 refine⟨?_,?_,h.cfn,?_,?_,λa ha=>.inl (h.hd a ha)⟩
 ·rintro a b b' (x|⟨rfl,rfl⟩) (y|⟨z,rfl⟩);exact h.fn _ _ _ x y;subst z;exact Ak x (k.r _);exact Ak y (k.r _);rfl
 ·rintro a a' b (x|⟨rfl,rfl⟩) (y|⟨rfl,z⟩);exact h.inj _ _ _ x y;subst z;exact Ak x (k.l _);exact Ak y (k.l _);rfl
 ·rintro a b x (y|⟨rfl,rfl⟩) hc;exact h.apart _ _ _ y hc;exact k.c _ hc
 rintro a b (x|⟨rfl,rfl⟩) hN;exact h.low _ _ x hN;have:=k.hn;have:=k.hm;omega
section
variable {T:Twin} {F:Fs} {N:Nat} {α β γ δ:Type}
theorem AY.bind'{Q:Rn->α->β->Prop}{Q':Rn->γ->δ->Prop}{f:α->Sem γ}{f':β->Sem δ}:
  ∀{s:Sem α} {ρ:Rn} {s':Sem β},ρ.Ok N->DT T F N Q s ρ s'->(∀ρ' a b,ρ.le ρ'->Q ρ' a b->AY T F N Q' (f a) ρ' (f' b))->DT T F N Q' (s.bind f) ρ (s'.bind f'):=by
 intro s
 induction s with
 |pure a=>intro ρ s' hok h k;cases s'<;>simp only[DT] at h;exact k _ _ _ (.refl _) h hok
 |load m a c ih=>
  (intro ρ s' hok h k;cases s'<;>simp only[DT] at h);obtain⟨h1,h2,h3⟩:=h;exact⟨h1,h2,λx x' hx=>ih x hok (h3 x x' hx) k⟩
 |store m a x c ih=>
  (intro ρ s' hok h k;cases s'<;>simp only[DT] at h);obtain⟨h1,h2,h3,h4⟩:=h;exact⟨h1,h2,h3,ih hok h4 k⟩
 |new o c ih=>
  intro ρ s' hok h k;unfold DT at h;rcases h with h|h;exact iV ⟨h.1,λx=>(h.2 x).bind⟩;(cases s'<;>simp only at h);exact AD7 h.1 λn n' hf=>ih n (hok.add hf) (h.2 n n' hf) λρ' a b hl hq=>k ρ' a b ((Rn.VP _ _ _).trans hl) hq
 |shape b c ih=>
  intro ρ s' hok h k;unfold DT at h;rcases h with h|h;exact Y3 λx=>(h x).bind;(cases s'<;>simp only at h);exact aj h.1 λx=>ih x hok (h.2 x) k
 |freeze a n c ih=>intro ρ s' hok h k;exact h.elim
 |frozen a c ih=>
  intro ρ s' hok h k;unfold DT at h;rcases h with h|h;exact XF λx=>(h x).bind;(cases s'<;>simp only at h);exact Y4 h.1 λx=>ih x hok (h.2 x) k
 |getObj b c ih=>
  (intro ρ s' hok h k;cases s'<;>simp only[DT] at h);exact⟨h.1,λo o' ho=>ih o hok (h.2 o o' ho) k⟩
 |setObj b o c ih=>
  (intro ρ s' hok h k;cases s'<;>simp only[DT] at h);obtain⟨h1,h2,h3,h4,h5⟩:=h;exact⟨h1,h2,h3,h4,ih hok h5 k⟩
 |choose q c ih=>
  (intro ρ s' hok h k;cases s'<;>simp only[DT] at h);exact⟨h.1,λx=>ih x hok (h.2 x) k⟩
 |sys c k' ih=>
  intro ρ s' hok h k;(cases c<;>try exact h.elim);(cases s'<;>try exact h.elim);rename_i c₂ k₂;(cases c₂<;>try exact h.elim);exact λx=>ih x hok (h x) k
 |program c ih=>
  intro ρ s' hok h k;rcases h with h|h;exact .inl h.bind;(cases s'<;>simp only at h);exact .inr (ih T.v hok h k)
 |mark m c ih=>
  intro ρ s' hok h k;rcases h with h|h;exact .inl h.bind;(cases s'<;>simp only at h);exact .inr ⟨h.1,h.2.1,ih hok h.2.2 k⟩
 |halt x=>
  intro ρ s' hok h k;cases x<;>simp only[DT,nO] at h
  case panic x=>
   rcases h with h|⟨x',rfl,hx⟩;exact .inl h;exact .inr ⟨x',rfl,hx⟩
  all_goals exact h
theorem AY.bind{Q:Rn->α->β->Prop}{Q':Rn->γ->δ->Prop}{f:α->Sem γ}{f':β->Sem δ}{s:Sem α}{s':Sem β}(h:AY T F N Q s ρ s')
  (k: ∀ρ' a b,ρ.le ρ'->Q ρ' a b->AY T F N Q' (f a) ρ' (f' b)):AY T F N Q' (s>>=f) ρ (s'>>=f'):=λhok=>AY.bind' hok (h hok) k
theorem AY.mono{Q Q':Rn->α->β->Prop}{s:Sem α}{s':Sem β}(h:AY T F N Q s ρ s')(hq: ∀ρ' a b,ρ.le ρ'->Q ρ' a b->Q' ρ' a b):AY T F N Q' s ρ s':=by
 have e1:s.bind Sem.pure=s:=by
  clear h
  induction s with|pure a=>rfl|halt h=>rfl|store m a v k ih=>simp only[Je,ih]|freeze a n k ih=>simp only[Je,ih]|setObj r o k ih=>simp only[Je,ih]|mark m k ih=>simp only[Je,ih]|_=>simp only[Je];congr 1;funext x;apply_assumption
 have e2:s'.bind Sem.pure=s':=by
  clear h
  induction s' with|pure a=>rfl|halt h=>rfl|store m a v k ih=>simp only[Je,ih]|freeze a n k ih=>simp only[Je,ih]|setObj r o k ih=>simp only[Je,ih]|mark m k ih=>simp only[Je,ih]|_=>simp only[Je];congr 1;funext x;apply_assumption
 intro hok;rw[<- e1,<- e2];exact AY.bind' hok (h hok) λρ' a b hl hQ _=>hq ρ' a b hl hQ
end
def Lh {α:Type}:Result α->AL
 | .ok _ w=>w| .halt _ w=>w
def ak (ρ:Rn) (e:Be):Prop:=
 match e.loc with| .cell a=>∃b,ρ.r b a.block| .obj c=>(∃b,ρ.r b c)/\¬(e.write=true/\e.sync=true)| .mark m=>lN m| .output=>True|_=>False
def Tp (v w:AL) (n:Nat):Prop:=∀i,i<n->∀q,v.tape (v.drawn+i) q=w.tape (w.drawn+i) q
structure Stp (F:Fs) (N:Nat) (ρ ρ':Rn) (v w v' w':AL) (u:Array Be):Prop where
 le:ρ.le ρ'
 rel:DI F N ρ' v' w'
 sv:v.heap.size<=v'.heap.size
 sw:v'.heap.size+w.heap.size=v.heap.size+w'.heap.size
 new: ∀a b,ρ'.r a b↔ρ.r a b\/(v.heap.size<=a/\a<v'.heap.size/\a+w.heap.size=b+v.heap.size)
 tok:ρ'.c=ρ.c/\ρ'.q=ρ.q
 ZX: ∀a,a<v.heap.size->(∀b,¬ρ.r a b)->v'.heap[a]? =v.heap[a]?
 SI: ∀b,b<w.heap.size->(∀a,¬ρ.r a b)->w'.heap[b]? =w.heap[b]?
 tv:v'.tape=v.tape/\v'.os=v.os/\v'.output=v.output
 tw:w'.tape=w.tape/\w'.os=w.os/\w'.output=w.output
 drawn:v.drawn<=v'.drawn/\v'.drawn+w.drawn=v.drawn+w'.drawn
 evs: ∀e∈u,ak ρ' e
section
variable {F:Fs} {N:Nat} {ρ ρ' nP:Rn} {v w v' w' v'' w'':AL} {u u':Array Be}
theorem ak.mono(h:ρ.le ρ'){e:Be}(k:ak ρ e):ak ρ' e:=by
 unfold ak at k⊢;(split<;>simp_all);obtain⟨b,hb⟩:=k;exact⟨b,h.r _ _ hb⟩;obtain⟨⟨b,hb⟩,k2⟩:=k;exact⟨b,h.r _ _ hb⟩
theorem DI.dom(h:DI F N ρ v w){a:Nat}(k:ρ.r a b):a<v.heap.size/\b<w.heap.size:=by
 obtain⟨o,o',h1,h2,_⟩:=h.obj a b k;exact⟨(Dj.1 h1).1,(Dj.1 h2).1⟩
theorem DI.AF5(h:DI F N ρ v w){a:Nat}{x:AQ}(k:ρ.c a x):a<v.heap.size:=(Dj.1 (h.tok a x k)).1
theorem Ux(h: ∀s n a b,ρ.q s n a b->∃B,Il w B s n a b/\∀c∈B,∀x,¬ρ.r x c)(hz:w.heap.size<=w₁.heap.size)(hk: ∀c,c<w.heap.size->(∀x,¬ρ.r x c)->w₁.heap[c]? =w.heap[c]?)
  (hr: ∀x c,ρ'.r x c->ρ.r x c\/w.heap.size<=c) (hq:ρ'.q=ρ.q): ∀s n a b,ρ'.q s n a b->∃B,Il w₁ B s n a b/\∀c∈B,∀x,¬ρ'.r x c:=by
 intro s n a b q;obtain⟨B,h1,h2⟩:=h s n a b (by rw[<- hq];exact q);refine⟨B,h1.keep hz λc hc=>hk c (h1.lt c hc) (h2 c hc),λc hc x hx=>?_⟩;rcases hr x c hx with k|k;exact h2 c hc x k;have:=h1.lt c hc;omega
theorem Stp.refl(h:DI F N ρ v w):Stp F N ρ ρ v w v w #[]:=
 ⟨.refl _,h,Bc _,rfl,λa b=>⟨.inl,λx=>x.elim id λy=>by omega⟩,⟨rfl,rfl⟩,λ_ _ _=>rfl,λ_ _ _=>rfl,⟨rfl,rfl,rfl⟩,⟨rfl,rfl,rfl⟩,⟨Bc _,rfl⟩,AV⟩
theorem Stp.trans(h:Stp F N ρ ρ' v w v' w' u)(k:Stp F N ρ' nP v' w' v'' w'' u')(_:DI F N ρ v w):Stp F N ρ nP v w v'' w'' (u++u'):=by
 refine⟨h.le.trans k.le,k.rel,CY h.sv k.sv,?_,λa b=>?_,⟨k.tok.1.trans h.tok.1,k.tok.2.trans h.tok.2⟩,λa ha hn=>?_,λb hb hn=>?_,⟨k.tv.1.trans h.tv.1,k.tv.2.1.trans h.tv.2.1,k.tv.2.2.trans h.tv.2.2⟩,
  ⟨k.tw.1.trans h.tw.1,k.tw.2.1.trans h.tw.2.1,k.tw.2.2.trans h.tw.2.2⟩,⟨CY h.drawn.1 k.drawn.1,?_⟩,λe he=>?_⟩
 have:=h.sw;have:=k.sw;omega
 ·rw[k.new,h.new];have h1:=h.sw;have h2:=h.sv;have h3:=k.sv;constructor
  ·rintro ((x|x)|x);exact .inl x;exact .inr Aa;exact .inr Aa
  rintro (x|x);exact .inl (.inl x);by_cases hlt:a<v'.heap.size;exact .inl (.inr Aa);exact .inr Aa
 ·rw[k.ZX a (EY ha h.sv) λb hb=>?_,h.ZX a ha hn];rw[h.new] at hb;rcases hb with hb|hb;exact hn b hb;omega
 ·have h1:=h.sw;have h2:=h.sv;rw[k.SI b Aa λa ha=>?_,h.SI b hb hn];rw[h.new] at ha;rcases ha with ha|ha;exact hn a ha;omega
 have:=h.drawn.2;have:=k.drawn.2;omega;rcases JU.1 he with he|he;exact (h.evs e he).mono k.le;exact k.evs e he
end
def Out {α β:Type} (p:Prop) (F:Fs) (N:Nat) (Q:Rn->α->β->Prop) (ρ:Rn) (v w:AL):Result α->(Array Be->Result β×Array Be)->Prop
 | .ok a v',f=>∃ρ' b w' u,(∀es,f es=(.ok b w',es++u))/\Q ρ' a b/\Stp F N ρ ρ' v w v' w' u| .halt (.panic x) v',f=>p\/∃ρ' x' w' u,(∀es,f es=(.halt (.panic x') w',es++u))/\BC F ρ' x x'/\Stp F N ρ ρ' v w v' w' u| .halt h _,_=>Halt.still h
theorem Out.step{α β:Type}{p:Prop}{F:Fs}{N:Nat}{Q:Rn->α->β->Prop}{ρ ρ₁:Rn}{v w v₁ w₁:AL}{u₁:Array Be}(hd:DI F N ρ v w)(h:Stp F N ρ ρ₁ v w v₁ w₁ u₁)
  {r:Result α} {f f':Array Be->Result β×Array Be} (hf: ∀es,f es=f' (es++u₁)) (k:Out p F N Q ρ₁ v₁ w₁ r f'):Out p F N Q ρ v w r f:=by
 cases r with
 |ok a v'=>
  obtain⟨ρ',b,w',u,h1,h2,h3⟩:=k;exact⟨ρ',b,w',u₁++u,λes=>by rw[hf,h1,ADx],h2,h.trans h3 hd⟩
 |halt x v'=>
  cases x with
  |panic x=>
   rcases k with k|⟨ρ',b,w',u,h1,h2,h3⟩;exact .inl k;exact .inr ⟨ρ',b,w',u₁++u,λes=>by rw[hf,h1,ADx],h2,h.trans h3 hd⟩
  |_=>exact k
section
variable {T:Twin} {F:Fs} {N:Nat} {α β:Type} {ρ:Rn} {v w:AL}
theorem Lj{α:Type}(a:Array α)(i:Nat)(f:α->α)(j:Nat):(a.modify i f)[j]? =if i=j then a[j]?.map f else a[j]? :=by
 by_cases h:i=j;subst h;simp[mW];simp[mW,h]
theorem fE(hW:DI F N ρ v w)(ha:RelA ρ a a'):
  (∃x x',v.cell? a=AA x/\w.cell? a'=AA x'/\BC F ρ x x')\/(v.cell? a=AB/\∀(_:Bool) (what:String),(∃s,v.noCell a what=.stuck s)/\∀b t,v.heap[a.block]? ≠AA (.view b t)):=by
 obtain⟨o,o',h1,h2,ho⟩:=hW.obj _ _ ha.1;obtain⟨_,ho2,ho3⟩:=ha;unfold Pz World.noCell;rw[h1,h2]
 cases ho with
 | @cells p p' t fr hp=>
  simp only[ho2,ho3];by_cases hs:a.spot.isSome=true;right;simp[hs];simp only[hs,if_false,DF]
  cases hx:p[a.off]? with
  |none=>right;simp|some x=>
   obtain⟨x',hx',hr⟩:=hp.get hx;left;exact⟨x,x',rfl,hx',hr⟩
 |_=>right;simp
theorem ZY(_:v.cell? a=AB)(h: ∀(_:Bool) (what:String),(∃s,v.noCell a what=.stuck s)/\∀b t,v.heap[a.block]? ≠AA (.view b t))(m:Bool):
  (∃s,v.farLoad T.v a m=.error (.stuck s))/\∀x,∃s,v.farStore T.v a x m=.error (.stuck s):=by
 unfold World.farLoad World.farStore;have hv:=(h true "").2;refine⟨?_,λx=>?_⟩
 ·split
  ·rename_i at_ u heq;exact Ak heq (hv at_ u)
  obtain⟨s,hs⟩:=(h true "load: no such cell").1;exact⟨s,by rw[hs]⟩
 split
 ·rename_i at_ u heq;exact Ak heq (hv at_ u)
 obtain⟨s,hs⟩:=(h true "store: no such cell").1;exact⟨s,by rw[hs]⟩
theorem AD8(hW:DI F N ρ v w)(h:ρ.r b b'):v.shape? b=w.shape? b':=by
 obtain⟨o,o',h1,h2,ho⟩:=hW.obj _ _ h;unfold World.shape?;rw[h1,h2]
 cases ho with|cells hp=>simp[hp.1]|_=>rfl
theorem iW(hW:DI F N ρ v w)(h:RelA ρ a a'):v.frozen? a=w.frozen? a':=by
 obtain⟨o,o',h1,h2,ho⟩:=hW.obj _ _ h.1;unfold World.frozen?;rw[h1,h2,h.2.1];cases ho<;>rfl
theorem DI.put(hW:DI F N ρ v w)(hb:ρ.r b b'){v₁:AL}(ho:Gw F ρ o o')
  (hv:v₁.heap=v.heap.setIfInBounds b o) (hw:w₁.heap=w.heap.setIfInBounds b' o') (hos:w₁.os=v₁.os):DI F N ρ v₁ w₁:=by
 have hlt:=hW.dom hb;refine⟨hW.ok,λx y hxy=>?_,λx y hxy=>?_,by rw[hv];simpa using hW.nv,by rw[hw];simpa using hW.nw,hos,Ux hW.seq (by rw[hw];simp) (λc _ hc=>by rw[hw];exact D5 λ(e:b'=c)=>hc b (e▸hb)) (λ_ _=>.inl) rfl⟩
 ·rw[hv,hw];by_cases hx:b=x
  ·subst hx;obtain rfl:b'=y:=hW.ok.fn _ _ _ hb hxy;refine⟨o,o',?_,?_,ho⟩;rw[Wy hlt.1];rw[Wy hlt.2]
  have hy:b'≠y:=λe=>hx (hW.ok.inj _ _ _ hb (e▸hxy));rw[D5 hx,D5 hy];exact hW.obj x y hxy
 rw[hv];have hx:b≠x:=λe=>hW.ok.apart _ _ y (e▸hb) hxy;rw[D5 hx];exact hW.tok x y hxy
theorem Stp.put(hW:DI F N ρ v w){b b':Nat}(hb:ρ.r b b'){v₁ w₁:AL}{o o':Obj}(ho:Gw F ρ o o')
  (hv:v₁={v with heap:=v.heap.setIfInBounds b o}) (hw:w₁={w with heap:=w.heap.setIfInBounds b' o'}) {u:Array Be} (hu: ∀e∈u,ak ρ e):Stp F N ρ ρ v w v₁ w₁ u:=by
 subst hv hw;refine⟨.refl _,hW.put hb ho rfl rfl hW.os,AV,AV,λx y=>⟨.inl,λx=>x.elim id λy=>by simp at y;omega⟩,⟨rfl,rfl⟩,λx _ hn=>?_,λy _ hn=>?_,⟨rfl,rfl,rfl⟩,⟨rfl,rfl,rfl⟩,⟨Bc _,rfl⟩,hu⟩
 ·exact D5 λ(e:b=x)=>hn b' (e▸hb)
 exact D5 λ(e:b'=y)=>hn b (e▸hb)
theorem Stp.events(hW:DI F N ρ v w){u:Array Be}(hu: ∀e∈u,ak ρ e):Stp F N ρ ρ v w v w u:=
 {Stp.refl hW with evs:=hu}
theorem DI.fresh(hW:DI F N ρ v w):ρ.nN N v.heap.size w.heap.size:=
 ⟨λb hb=>by have:=(hW.dom hb).1;omega,λa ha=>by have:=(hW.dom ha).2;omega,λx hx=>by have:=hW.AF5 hx;omega,hW.nv,hW.nw⟩
theorem Stp.alloc(hW:DI F N ρ v w)(ho:Gw F ρ o o'):
  Stp F N ρ (ρ.add v.heap.size w.heap.size) v w {v with heap:=v.heap.push o} {w with heap:=w.heap.push o'} #[]:=by
 (have hsz:(v.heap.push o).size+w.heap.size=v.heap.size+(w.heap.push o').size:=by simp;omega);have hok:(ρ.add v.heap.size w.heap.size).Ok N:=hW.ok.add hW.fresh;refine⟨Rn.VP _ _ _,⟨hok,?_,λa x hx=>?_,?_,?_,hW.os,Ux hW.seq AV (λc hc _=>by rw[show ({w with heap:=w.heap.push o'}:AL).heap[c]? =(w.heap.push o')[c]? from rfl,SH hc,Fa hc]) (λx c h=>h.imp id λe=>by rw[e.2];exact Bc _) rfl⟩,AV,hsz,λa b=>?_,⟨rfl,rfl⟩,λa ha _=>?_,λb hb _=>?_,⟨rfl,rfl,rfl⟩,⟨rfl,rfl,rfl⟩,⟨Bc _,rfl⟩,AV⟩
 ·rintro a b (h|⟨rfl,rfl⟩)
  ·obtain⟨p,p',h1,h2,h3⟩:=hW.obj a b h;have:=hW.dom h;refine⟨p,p',?_,?_,h3.mono (Rn.VP _ _ _)⟩;rw[SH this.1,<- h1,Fa this.1];rw[SH this.2,<- h2,Fa this.2]
  exact⟨o,o',AV,AV,ho.mono (Rn.VP _ _ _)⟩
 ·have:=hW.AF5 hx;rw[show ({v with heap:=v.heap.push o}:AL).heap[a]? =(v.heap.push o)[a]? from rfl,SH this,<- hW.tok a x hx,Fa this]
 have:=hW.nv;simp;omega;have:=hW.nw;simp;omega
 ·simp only[Rn.add,ADy];constructor
  ·rintro (h|⟨rfl,rfl⟩);exact .inl h;exact .inr Aa
  rintro (h|h);exact .inl h;exact .inr Aa
 ·show (v.heap.push o)[a]? =_;rw[SH ha,Fa ha]
 show (w.heap.push o')[b]? =_;rw[SH hb,Fa hb]
theorem Stp.draw(hW:DI F N ρ v w):Stp F N ρ ρ v w {v with drawn:=v.drawn+1} {w with drawn:=w.drawn+1} #[]:=by
 refine⟨.refl _,⟨hW.ok,hW.obj,hW.tok,hW.nv,hW.nw,hW.os,Ux hW.seq (Bc _) (λ_ _ _=>rfl) (λ_ _=>.inl) rfl⟩,Bc _,rfl,λa b=>⟨.inl,λx=>x.elim id λy=>?_⟩,⟨rfl,rfl⟩,λ_ _ _=>rfl,λ_ _ _=>rfl,⟨rfl,rfl,rfl⟩,⟨rfl,rfl,rfl⟩,⟨Nat.le_succ _,by simp only;omega⟩,AV⟩;have h1:v.heap.size<=a:=y.1;have h2:a<v.heap.size:=y.2.1;omega
theorem ABR(w:AL):w.sys .env=(.strings w.os.env,w):=by
 obtain⟨h,t,d,os,o⟩:=w;simp[World.sys,Kernel.perform,Kernel.lengthOf,Kernel.named,Kernel.ofKernel,Kernel.stamps,Kernel.each,Kernel.env,World.ask,pure,bind,Ask.bind]
theorem Uy{Q:Rn->α->β->Prop}{s:Sem α}(h:Cb T s){f:Array Be->Result β×Array Be}:v.drawn<=(Lh (s.run T.v v)).drawn/\(Tp v w ((Lh (s.run T.v v)).drawn - v.drawn)->Out T.p F N Q ρ v w (s.run T.v v) f):=by
 obtain⟨x,u,e,hs,hd⟩:=Cb.run h v;rw[e];refine⟨Nat.le_of_eq hd.symm,λ_=>?_⟩;cases x<;>first|exact hs|exact .inl hs
theorem DT.sound{Q:Rn->α->β->Prop}: ∀{s:Sem α} {ρ:Rn} {s':Sem β},DT T F N Q s ρ s'->∀{v w:AL},DI F N ρ v w->
  v.drawn<=(Lh (s.run T.v v)).drawn/\(Tp v w ((Lh (s.run T.v v)).drawn - v.drawn)->Out T.p F N Q ρ v w (s.run T.v v) (λes=>s'.runT T.P w es)):=by
 intro s
 induction s with
 |pure a=>
  (intro ρ s' h v w hW;cases s'<;>simp only[DT] at h);rename_i b;exact⟨Bc _,λ_=>⟨ρ,b,w,#[],λes=>by simp[Gi],h,.refl hW⟩⟩
 |load m a c ih=>
  (intro ρ s' h v w hW;cases s'<;>simp only[DT] at h);rename_i m' a' c';obtain⟨rfl,ha,hk⟩:=h;rcases fE hW ha with ⟨x,x',h1,h2,hx⟩|⟨hn,hf⟩
  ·(have he:Dw T.v (.load m' a c) v=(c x).run T.v v:=by simp only[Dw,h1]);rw[he];obtain⟨i1,i2⟩:=ih x (hk x x' hx) hW;refine⟨i1,λht=>Out.step hW (Stp.events (u:=#[⟨.cell a',false,m'== .atomic⟩]) hW ?_) (λes=>?_) (i2 ht)⟩;intro e he;simp only[Ia,CJ] at he;subst he;exact⟨_,ha.1⟩;simp only[Gi,h2];simp
  obtain⟨⟨s,hs⟩,_⟩:=ZY (T:=T) hn hf (m'== .atomic);(have he:Dw T.v (.load m' a c) v=.halt (.stuck s) v:=by simp only[Dw,hn,hs]);rw[he];exact⟨Bc _,λ_=>Ap⟩
 |store m a x c ih=>
  (intro ρ s' h v w hW;cases s'<;>simp only[DT] at h);rename_i m' a' x' c';obtain⟨rfl,ha,hx,hk⟩:=h;by_cases hagg:(∃p,x=.agg p)\/∃p,x=.tuple p
  ·have he: ∃s,Dw T.v (.store m' a x c) v=.halt (.stuck s) v:=by
    rcases hagg with ⟨p,rfl⟩|⟨p,rfl⟩<;>exact⟨_,by rw[Dw]⟩
   obtain⟨s,he⟩:=he;rw[he];exact⟨Bc _,λ_=>Ap⟩
  have hx1: ∀p,x≠ .agg p:=λp e=>hagg (.inl ⟨p,e⟩);have hx2: ∀p,x≠ .tuple p:=λp e=>hagg (.inr ⟨p,e⟩)
  have ASF: ∀p,x'≠ .agg p:=by
   rintro p rfl
   cases hx with|flat hf=>exact hx1 _ rfl|tok hc ht=>cases ht|mf _ hm=>cases hm|agg _ _=>exact hx1 _ rfl
  have ASG: ∀p,x'≠ .tuple p:=by
   rintro p rfl
   cases hx with|flat hf=>exact hx2 _ rfl|tok hc ht=>cases ht|mf _ hm=>cases hm|tuple _ _=>exact hx2 _ rfl
  rcases fE hW ha with ⟨y,y',h1,h2,hy⟩|⟨hn,hf⟩
  ·have hfz:=iW hW ha
   cases hz:v.frozen? a with
   |true=>
    have he: ∃s,Dw T.v (.store m' a x c) v=.halt (.unsupported (.unsafePointer s)) v:=⟨"a write to bytes that a string shares",by
     rw[Dw];simp only[h1,hz,if_true];exact λp e=>hx1 p e
     exact λp e=>hx2 p e⟩
    obtain⟨s,he⟩:=he;rw[he];exact⟨Bc _,λ_=>Ap⟩
   |false=>
    rw[hz] at hfz
    have he:Dw T.v (.store m' a x c) v=c.run T.v (v.setCell a x):=by
     rw[Dw];simp[h1,hz];exact λp e=>hx1 p e;exact λp e=>hx2 p e
    have he': ∀es,Gi T.P (.store m' a' x' c') w es=c'.runT T.P (w.setCell a' x') (es.push ⟨.cell a',true,m'== .atomic⟩):=λes=>by
     rw[Gi];simp[h2,<- hfz]
     ·exact λp e=>ASF p e
     exact λp e=>ASG p e
    rw[he];obtain⟨o,o',g1,g2,ho⟩:=hW.obj _ _ ha.1
    have hst:Stp F N ρ ρ v w (v.setCell a x) (w.setCell a' x') #[⟨.cell a',true,m'== .atomic⟩]:=by
     have hspot:a.spot.isSome=false:=by
      unfold Pz at h1;rw[g1] at h1
      cases hsp:a.spot.isSome with|false=>rfl|true=>cases o<;>simp[hsp] at h1
     have hlt:=hW.dom ha.1
     cases ho with
     | @cells p p' t fr hp=>
      refine Stp.put hW ha.1 (o:=.cells (p.setIfInBounds a.off x) t fr) (o':=.cells (p'.setIfInBounds a'.off x') t fr) (.cells ?_) ?_ ?_ ?_;rw[ha.2.1];exact hp.set hx _
      ·unfold YE;congr 1;apply ZP;intro i;rw[Lj];by_cases hi:a.block=i;subst hi;rw[BZ rfl,g1,Wy hlt.1];simp[hspot];rw[BM hi,D5 hi]
      ·unfold YE;congr 1;apply ZP;intro i;rw[Lj];by_cases hi:a'.block=i;subst hi;rw[BZ rfl,g2,Wy hlt.2];simp[ha.2.2,hspot];rw[BM hi,D5 hi]
      intro e he;simp only[Ia,CJ] at he;subst he;exact⟨_,ha.1⟩
     |_=>unfold Pz at h1;rw[g1] at h1;simp at h1
    obtain⟨i1,i2⟩:=ih hk hst.rel;exact⟨i1,λht=>Out.step hW hst (λes=>by rw[he'];simp) (i2 ht)⟩
  obtain⟨_,hs⟩:=ZY (T:=T) hn hf (m'== .atomic);obtain⟨s,hs⟩:=hs x
  have he:Dw T.v (.store m' a x c) v=.halt (.stuck s) v:=by
   rw[Dw];simp only[hn,hs];exact λp e=>hx1 p e;exact λp e=>hx2 p e
  rw[he];exact⟨Bc _,λ_=>Ap⟩
 |new o c ih=>
  intro ρ s' h v w hW;unfold DT at h;rcases h with h|h;exact Uy (s:=.new o c) h;(cases s'<;>simp only at h);rename_i o' c';have hst:=Stp.alloc hW h.1;obtain⟨i1,i2⟩:=ih _ (h.2 v.heap.size w.heap.size hW.fresh) hst.rel;exact⟨i1,λht=>Out.step hW hst (λes=>by simp[Gi]) (i2 ht)⟩
 |shape b c ih=>
  intro ρ s' h v w hW;unfold DT at h;rcases h with h|h;exact Uy (s:=.shape b c) h;(cases s'<;>simp only at h);rename_i b' c';have hs:=AD8 hW h.1;obtain⟨i1,i2⟩:=ih (v.shape? b) (h.2 _) hW;exact⟨i1,λht=>Out.step hW (.refl hW) (λes=>by simp[Gi,hs]) (i2 ht)⟩
 |freeze a n c ih=>intro ρ s' h;exact h.elim
 |frozen a c ih=>
  intro ρ s' h v w hW;unfold DT at h;rcases h with h|h;exact Uy (s:=.frozen a c) h;(cases s'<;>simp only at h);rename_i a' c';have hs:=iW hW h.1;obtain⟨i1,i2⟩:=ih (v.frozen? a) (h.2 _) hW;exact⟨i1,λht=>Out.step hW (.refl hW) (λes=>by simp[Gi,hs]) (i2 ht)⟩
 |getObj b c ih=>
  (intro ρ s' h v w hW;cases s'<;>simp only[DT] at h);rename_i b' c';obtain⟨o,o',g1,g2,ho⟩:=hW.obj _ _ h.1;by_cases hc: ∃p t f,o=.cells p t f
  ·obtain⟨p,t,f,rfl⟩:=hc;(have he:Dw T.v (.getObj b c) v=.halt (.stuck "getObj: a row of cells") v:=by simp only[Dw,g1]);rw[he];exact⟨Bc _,λ_=>Ap⟩
  have hc': ∀p t f,o'≠ .cells p t f:=by
   rintro p t f rfl;(cases ho);exact hc ⟨_,_,_,rfl⟩
  have he:Dw T.v (.getObj b c) v=(c o).run T.v v:=by
   simp only[Dw,g1];split
   ·rename_i heq;cases heq;exact Ak ⟨_,_,_,rfl⟩ hc
   ·rename_i heq;cases heq;rfl
   rename_i heq;cases heq
  have he': ∀es,Gi T.P (.getObj b' c') w es=(c' o').runT T.P w (es.push ⟨.obj b',false,o'.isChan⟩):=λes=>by
   simp only[Gi,g2]
   all_goals
    split
    ·rename_i heq;cases heq;exact Ak rfl (hc' _ _ _)
    ·rename_i heq;cases heq;rfl
    rename_i heq;cases heq
  rw[he];obtain⟨i1,i2⟩:=ih o (h.2 o o' ho) hW;refine⟨i1,λht=>Out.step hW (Stp.events (u:=#[⟨.obj b',false,o'.isChan⟩]) hW ?_) (λes=>?_) (i2 ht)⟩;intro e he;simp only[Ia,CJ] at he;subst he;exact⟨⟨_,h.1⟩,AV⟩;rw[he'];simp
 |setObj b o c ih=>
  (intro ρ s' h v w hW;cases s'<;>simp only[DT] at h);rename_i b' o₂ c';obtain⟨hb,ho,hch,hnc,hk⟩:=h;obtain⟨p,p',g1,g2,hp⟩:=hW.obj _ _ hb;(have hch':o₂.isChan=false:=by cases ho<;>simp_all [Obj.isChan]);by_cases hc: ∃q t f,p=.cells q t f
  ·obtain⟨q,t,f,rfl⟩:=hc;(have he:Dw T.v (.setObj b o c) v=.halt (.stuck "setObj: a row of cells") v:=by simp only[Dw,g1]);rw[he];exact⟨Bc _,λ_=>Ap⟩
  have hc': ∀q t f,p'≠ .cells q t f:=by
   rintro q t f rfl;(cases hp);exact hc ⟨_,_,_,rfl⟩
  have he:Dw T.v (.setObj b o c) v=c.run T.v {v with heap:=v.heap.setIfInBounds b o}:=by
   simp only[Dw,g1];split
   ·rename_i heq;cases heq;exact Ak ⟨_,_,_,rfl⟩ hc
   rfl;rename_i heq;cases heq
  have he': ∀es,Gi T.P (.setObj b' o₂ c') w es=c'.runT T.P {w with heap:=w.heap.setIfInBounds b' o₂} (es.push ⟨.obj b',true,o₂.isChan⟩):=λes=>by
   simp only[Gi,g2]
   all_goals
    split
    ·rename_i heq;cases heq;exact Ak rfl (hc' _ _ _)
    rfl;rename_i heq;cases heq
  rw[he]
  have hst:Stp F N ρ ρ v w {v with heap:=v.heap.setIfInBounds b o} {w with heap:=w.heap.setIfInBounds b' o₂} #[⟨.obj b',true,o₂.isChan⟩]:=
   Stp.put hW hb ho rfl rfl (by intro e he;simp only[Ia,CJ] at he;subst he;exact⟨⟨_,hb⟩,by simp[hch']⟩)
  obtain⟨i1,i2⟩:=ih hk hst.rel;exact⟨i1,λht=>Out.step hW hst (λes=>by rw[he'];simp) (i2 ht)⟩
 |choose q c ih=>
  (intro ρ s' h v w hW;cases s'<;>simp only[DT] at h);rename_i q' c';obtain⟨rfl,hk⟩:=h
  cases hq:q'.forced with
  |true=>
   (have he:Dw T.v (.choose q' c) v=(c 0).run T.v v:=by simp only[Dw,hq,if_true]);rw[he];obtain⟨i1,i2⟩:=ih 0 (hk 0) hW;exact⟨i1,λht=>Out.step hW (.refl hW) (λes=>by simp[Gi,hq]) (i2 ht)⟩
  |false=>
   (have he:Dw T.v (.choose q' c) v=(c (q'.cut (v.tape v.drawn q'))).run T.v {v with drawn:=v.drawn+1}:=by simp[Dw,hq]);rw[he];have hst:=Stp.draw hW;obtain⟨i1,i2⟩:=ih (q'.cut (v.tape v.drawn q')) (hk _) hst.rel;have i1':v.drawn+1<=(Lh ((c (q'.cut (v.tape v.drawn q'))).run T.v {v with drawn:=v.drawn+1})).drawn:=i1;refine⟨Aa,λht=>?_⟩;have e0:v.tape v.drawn q'=w.tape w.drawn q':=ht 0 Aa q';refine Out.step hW hst (f':=λes=>(c' (q'.cut (v.tape v.drawn q'))).runT T.P {w with drawn:=w.drawn+1} es) (λes=>by simp[Gi,hq,e0]) (i2 λi hi q=>?_);have:=ht (i+1) (by simp only at hi;omega) q;simp only;rw[VM,mX 1 i,VM,mX 1 i];exact this
 |sys c k ih=>
  intro ρ s' h v w hW;(cases c<;>try exact h.elim);(cases s'<;>try exact h.elim);rename_i c₂ k₂;(cases c₂<;>try exact h.elim);(have he:Dw T.v (.sys .env k) v=(k (.strings v.os.env)).run T.v v:=by simp only[Dw,ABR]);rw[he];obtain⟨i1,i2⟩:=ih (.strings v.os.env) (h _) hW;refine⟨i1,λht=>Out.step hW (Stp.events (u:=#[⟨.output,true,false⟩]) hW ?_) (λes=>?_) (i2 ht)⟩;intro e he;simp only[Ia,CJ] at he;subst he;trivial;simp only[Gi,ABR,hW.os];simp
 |program c ih=>
  intro ρ s' h v w hW;rcases h with h|h;exact Uy (s:=.program c) h;(cases s'<;>simp only at h);rename_i c';obtain⟨i1,i2⟩:=ih T.v h hW;exact⟨i1,λht=>Out.step hW (.refl hW) (λes=>by simp[Gi]) (i2 ht)⟩
 |mark m c ih=>
  intro ρ s' h v w hW;rcases h with h|h;exact Uy (s:=.mark m c) h;(cases s'<;>simp only at h);rename_i m' c';obtain⟨rfl,hm,hk⟩:=h;obtain⟨i1,i2⟩:=ih hk hW;refine⟨i1,λht=>Out.step hW (Stp.events (u:=#[⟨.mark m',false,true⟩]) hW ?_) (λes=>by simp[Gi]) (i2 ht)⟩;intro e he;simp only[Ia,CJ] at he;subst he;exact hm
 |halt x=>
  intro ρ s' h v w hW;cases x<;>simp only[DT,nO] at h
  case panic x=>
   rcases h with h|⟨x',rfl,hx⟩;exact⟨Bc _,λ_=>.inl h⟩;exact⟨Bc _,λ_=>.inr ⟨ρ,x',w,#[],λes=>by simp[Gi],hx,.refl hW⟩⟩
  all_goals exact⟨Bc _,λ_=>h⟩
end
end
section
variable {a a':Af}{p p':Array AQ}{b b':Nat}{x x':AQ}
section
variable {T:Twin} {F:Fs} {N:Nat} {ρ:Rn} {α β γ:Type}
abbrev Ej {α:Type}:Rn->α->α->Prop:=λ_ a b=>a=b
abbrev QV (F:Fs):Rn->AQ->AQ->Prop:=λρ=>BC F ρ
abbrev QVs (F:Fs):Rn->Array AQ->Array AQ->Prop:=λρ=>Az F ρ
abbrev QA:Rn->Af->Af->Prop:=λρ=>RelA ρ
theorem Ru{Q:Rn->α->β->Prop}{s:Sem α}(h:Cb T s)(s':Sem β):AY T F N Q s ρ s':=by
 intro _;(cases s<;>first|exact h.elim|skip);(all_goals first|exact iV h|exact Y3 h|exact XF h|exact .inl h|skip);rename_i x;cases x<;>first|exact h|exact .inl h|exact h.elim
theorem CU:AY T F N (λ_ a b=>a=T.v/\b=T.P) program ρ program:=λ_=>.inr ⟨rfl,rfl⟩
theorem BQ(t:Am):AY T F N (λ_ a b=>a=b/\T.P.underlying t=AA a) (underlying t) ρ (underlying t):=by
 have key:AY T F N (λ_ a b=>a=b/\T.P.underlying t=AA a) (match T.P.underlying t with|some d=>pure d|none=>stuck "no such type" :Sem TypeDesc) ρ (match T.P.underlying t with|some d=>pure d|none=>stuck "no such type" :Sem TypeDesc):=by
  cases h:T.P.underlying t with|none=>exact λ_=>Ap|some d=>exact λ_=>⟨rfl,rfl⟩
 exact λhok=>.inr (key hok)
theorem DD(t:Am):AY T F N (λ_ a b=>a=b/\T.P.info? t=AA a) (I7 t) ρ (I7 t):=by
 have key:AY T F N (λ_ a b=>a=b/\T.P.info? t=AA a) (match T.P.info? t with|some d=>pure d|none=>stuck "no such type" :Sem Q5) ρ (match T.P.info? t with|some d=>pure d|none=>stuck "no such type" :Sem Q5):=by
  cases h:T.P.info? t with|none=>exact λ_=>Ap|some d=>exact λ_=>⟨rfl,rfl⟩
 exact λhok=>.inr (key hok)
theorem Ef(t:Am):AY T F N Ej (sizeOf t) ρ (sizeOf t):=(DD t).bind λ_ a b _ h=>by rw[h.1];exact λ_=>rfl
theorem nR(t:Am):AY T F N Ej (isAgg t) ρ (isAgg t):=(BQ t).bind λ_ a b _ h=>by obtain⟨rfl,_⟩:=h;cases a<;>exact λ_=>rfl
theorem XG(t:Am):AY T F N Ej (elemOf t) ρ (elemOf t):=(BQ t).bind λ_ a b _ h=>by obtain⟨rfl,_⟩:=h;cases a<;>first|exact λ_=>rfl|exact λ_=>Ap
theorem au(n:Nat):AY T F N Ej (askRoom n) ρ (askRoom n):=by
 unfold askRoom;split;exact λ_=>.inr ⟨rfl,Ap,rfl⟩;exact λ_=>rfl
theorem Ji(q:Question):AY T F N Ej (choose q) ρ (choose q):=λ_=>⟨rfl,λ_=>rfl⟩
def closed:AQ->Bool
 | .agg cs=>cs.all flat|v=>flat v
theorem iY{v:AQ}(h:closed v=true):BC F ρ v v:=by
 cases v<;>first
  |exact .flat h|skip
 rename_i cs
 have h': ∀x∈cs,flat x=true:=by
  intro x hx;have:=VN.1 (show cs.all flat=true from h) x hx;exact this
 exact .agg rfl (Az.VQ h').2
def Hw (P:BL) (t:Am):Bool:=
 match P.info? t with
 |some i=>match i.zero with
  |some z=>closed z|none=>true
 |none=>true
theorem OX(t:Am)(h:Hw T.P t=true):AY T F N (λρ a b=>a=b/\BC F ρ a a) (GY t) ρ (GY t):=(DD t).bind λ_ a b _ hb=>by
 obtain⟨rfl,hi⟩:=hb;unfold Hw at h;rw[hi] at h;simp only at h
 cases hz:a.zero with
 |none=>exact λ_=>Ap|some z=>
  rw[hz] at h;exact λ_=>⟨rfl,iY h⟩
theorem vO(h:RelA ρ a a')(m:Mode):AY T F N (QV F) (load a m) ρ (load a' m):=λ_=>⟨rfl,h,λ_ _ hx=>hx⟩
theorem AD9(h:RelA ρ a a')(hx:BC F ρ x x')(m:Mode):AY T F N Ej (store a x m) ρ (store a' x' m):=λ_=>⟨rfl,h,hx,rfl⟩
theorem ZZ: ∀(n i:Nat) {ρ:Rn},RelA ρ a a'->∀{acc acc':Array AQ},Az F ρ acc acc'->AY T F N (QVs F) (Ur a i n acc) ρ (Ur a' i n acc'):=by
 intro n
 induction n with
 |zero=>intro i ρ _ acc acc' h;exact λ_=>h
 |succ n ih=>
  intro i ρ h acc acc' hacc;exact (vO (h.add i) .plain).bind λρ' x x' hl hx=>ih (i+1) (h.mono hl) ((hacc.mono hl).push hx)
theorem SK(h:RelA ρ a a')(n:Nat):AY T F N (QVs F) (loadCells a n) ρ (loadCells a' n):=ZZ n 0 h Az.nil
theorem NQ: ∀(l l':List AQ) (i:Nat) {ρ:Rn},RelA ρ a a'->Az F ρ l.toArray l'.toArray->AY T F N Ej (storeCells a l i) ρ (storeCells a' l' i):=by
 intro l
 induction l with
 |nil=>
  intro l' i ρ h hl;(have:l'=[]:=by have:=hl.1;simp at this;exact eX.1 this.symm);subst this;exact λ_=>rfl
 |cons v l ih=>
  intro l' i ρ h hl
  cases l' with
  |nil=>have:=hl.1;simp at this|cons v' l'=>
   have hv:BC F ρ v v':=hl.2 0 v v' AV AV;refine (AD9 (h.add i) hv .plain).bind λρ' _ _ hle _=>ih l' (i+1) (h.mono hle) ⟨?_,λj x x' hx hx'=>?_⟩;have:=hl.1;simpa using this;exact (hl.2 (j+1) x x' (by simpa using hx) (by simpa using hx')).mono hle
theorem OY(t:Am)(h:RelA ρ a a'):AY T F N (QV F) (loadVar t a) ρ (loadVar t a'):=by
 refine (nR t).bind λρ' b b' hl hb=>?_;obtain rfl:b=b':=hb
 cases b with
 |true=>
  refine (Ef t).bind λnP n n' hl' hn=>?_;obtain rfl:n=n':=hn;exact (SK ((h.mono hl).mono hl') n).bind λρ₃ x x' _ hx _=>BC.agg hx.1 hx.2
 |false=>exact vO (h.mono hl) .plain
theorem QF(t:Am)(h:RelA ρ a a')(hx:BC F ρ x x'):AY T F N Ej (storeVar t a x) ρ (storeVar t a' x'):=by
 refine (Ef t).bind λρ' n n' hl hn=>?_;obtain rfl:n=n':=hn;have hc:=(hx.mono hl).cells;by_cases hs:x.cells.size≠n
 ·simp only[hs,if_true,ne_eq,not_false_eq_true];exact λ_=>Ap
 (have hs': ¬x'.cells.size≠n:=by rw[<- hc.1];exact hs);simp only[hs,hs',if_false];exact NQ _ _ 0 (h.mono hl) (by simpa using hc)
theorem Tn(t:Am)(h:Az F ρ p p'):AY T F N QA (newRow t p) ρ (newRow t p'):=
 λ_=>.inr ⟨.cells h,λ_ _ _=>⟨.inr ⟨rfl,rfl⟩,rfl,rfl⟩⟩
theorem N7(t:Am)(h:BC F ρ x x'):AY T F N QA (newVar t x) ρ (newVar t x'):=Tn t h.cells
theorem vP(t:Am)(h:Az F ρ p p')(o:Nat):AY T F N (QV F) (part t p o) ρ (part t p' o):=by
 refine (nR t).bind λρ' b b' hl hb=>?_;obtain rfl:b=b':=hb
 cases b with
 |true=>
  refine (Ef t).bind λnP n n' hl' hn=>?_;obtain rfl:n=n':=hn;have:=((h.mono hl).mono hl').extract o (o+n);exact λ_=>BC.agg this.1 this.2
 |false=>
  show AY T F N (QV F) (match p[o]? with|some v=>pure v|none=>stuck "part: no such cell" :Sem AQ) ρ' (match p'[o]? with|some v=>pure v|none=>stuck "part: no such cell" :Sem AQ)
  cases hv:p[o]? with
  |none=>exact λ_=>Ap|some v=>
   obtain⟨v',hv',hr⟩:=h.get hv;rw[hv'];exact λ_=>hr.mono hl
theorem OZ(h:BC F ρ x x'):AY T F N Ej (asIntOf x) ρ (asIntOf x'):=by
 cases h with
 |flat hf=>cases x<;>first|exact λ_=>rfl|exact λ_=>Ap|(rename_i a;cases a<;>exact λ_=>Ap)
 |_=>exact λ_=>Ap
theorem nS(h:BC F ρ x x'):AY T F N Ej (asInt x) ρ (asInt x'):=(OZ h).bind λ_ a b _ e=>by obtain rfl:a=b:=e;exact λ_=>rfl
theorem ABS(h:BC F ρ x x'):AY T F N Ej (asBool x) ρ (asBool x'):=by
 cases h with
 |flat hf=>cases x<;>first|exact λ_=>rfl|exact λ_=>Ap
 |_=>exact λ_=>Ap
theorem Md(h:BC F ρ x x'):AY T F N QA (Instr.sureAddr x) ρ (Instr.sureAddr x'):=by
 cases h with
 |flat hf=>cases x<;>first|exact λ_=>Ap|(rename_i a;cases a<;>first|exact λ_=>Ap|exact Ak (show false=true from hf) AV)
 |ptr h=>exact λ_=>h|_=>exact λ_=>Ap
theorem Bo{Q:Rn->α->β->Prop}{e:RuntimeError}(h:match e with| .typeAssertion .. | .unhashable _=>False|_=>True):
  AY T F N Q (Q7 e:Sem α) ρ (Q7 e:Sem β):=by
 have ASH: ∀(x y:Int) (s:Bool) (c:Nat),BC F ρ (.agg #[.int .i64 x,.int .i64 y,.bool s,.int .u8 c]) (.agg #[.int .i64 x,.int .i64 y,.bool s,.int .u8 c]):=λx y s c=>by
  have:=Az.VQ (F:=F) (ρ:=ρ) (p:=#[.int .i64 x,.int .i64 y,.bool s,.int .u8 c]) (by intro z hz;simp at hz;rcases hz with rfl|rfl|rfl|rfl<;>rfl);exact BC.agg this.1 this.2
 cases e with
 |bounds x y s c=>exact λ_=>.inr (.inr ⟨_,rfl,.iface (ASH _ _ _ _)⟩)|error m=>exact λ_=>.inr (.inr ⟨_,rfl,.iface (.flat rfl)⟩)|plain m=>exact λ_=>.inr (.inr ⟨_,rfl,.iface (.flat rfl)⟩)|nilDeref=>exact λ_=>.inr (.inr ⟨_,rfl,.iface (.flat rfl)⟩)|typeAssertion _ _ _ _=>exact h.elim|panicNil=>
  refine CU.bind λρ₁ p p' l1 e=>?_;obtain⟨rfl,rfl⟩:=e;refine (XG _).bind λρ₂ t t' l2 e=>?_;obtain rfl:t=t':=e;refine (N7 t (x:=.agg #[]) (x':=.agg #[]) (.agg rfl λi v v' h=>by simp at h)).bind λρ₃ a a' l3 ha=>?_;exact λ_=>.inr ⟨_,rfl,.iface (.ptr ha)⟩
 |unhashable _=>exact h.elim
theorem iZ(h:BC F ρ x x'):AY T F N QA (asAddr x) ρ (asAddr x'):=by
 cases h with
 |flat hf=>cases x<;>first|exact λ_=>Ap|(rename_i a;cases a<;>first|exact Bo (e:=.nilDeref) trivial|exact Ak (show false=true from hf) AV)
 |ptr h=>exact λ_=>h|_=>exact λ_=>Ap
theorem IW{Q:Rn->α->β->Prop}(k:IntKind)(x y:Int)(c:BoundsCode):AY T F N Q (boundsPanic k x y c:Sem α) ρ (boundsPanic k x y c:Sem β):=by
 unfold boundsPanic;by_cases hc:(k != .u64 && decide (0<=x) && decide (x<=31))=true
 ·simp only[hc,if_true];exact λhok=>⟨rfl,λn=>Bo (e:=.bounds (IntKind.i64.wrap x) y (n==1) c) trivial hok⟩
 simp only[hc,if_false,DF];exact Bo (e:=.bounds (IntKind.i64.wrap x) y (k != .u64) c) trivial
theorem RU{Q:Rn->α->β->Prop}(h:BC F ρ x x'):AY T F N Q (goPanic x:Sem α) ρ (goPanic x':Sem β):=λ_=>.inr ⟨x',rfl,h⟩
theorem Nh(h:ρ.r b b'):AY T F N Ej (shape b) ρ (shape b'):=λ_=>aj h λ_=>rfl
theorem ig(h:ρ.r b b'):AY T F N (λ_ a c=>a=AB/\c=AB) (viewAt b) ρ (viewAt b'):=by
 refine (Nh h).bind λρ' x x' hl e=>?_;obtain rfl:x=x':=e;by_cases hs:x.isSome=true;simp only[hs,if_true];exact λ_=>⟨rfl,rfl⟩;simp only[hs,if_false,DF];exact λ_=>⟨hl.r _ _ h,λo o' ho=>by cases ho<;>exact⟨rfl,rfl⟩⟩
def QN:Rn->Option (Af×Bool)->Option (Af×Bool)->Prop:=λρ x y=>match x,y with
 |none,AB=>True|some p,AA q=>RelA ρ p.1 q.1/\p.2=q.2|_,_=>False
theorem uD(h:ρ.r b b'):AY T F N QN (numberAt b) ρ (numberAt b'):=by
 refine (Nh h).bind λρ' x x' hl e=>?_;obtain rfl:x=x':=e;by_cases hs:x.isSome=true;simp only[hs,if_true];exact λ_=>Ap;simp only[hs,if_false,DF]
 exact λ_=>⟨hl.r _ _ h,λo o' ho=>by
  cases ho with|number ha=>exact⟨ha,rfl⟩|_=>exact Ap⟩
theorem Hy(h:RelA ρ a a'):AY T F N (λρ x y=>RelA ρ x.1 y.1/\x.2=y.2) (YF a) ρ (YF a'):=
 (uD h.1).bind λρ' x x' hl e=>by
  (cases x<;>cases x'<;>first|exact e.elim|skip);exact λ_=>⟨h.mono hl,rfl⟩;exact λ_=>e
theorem XH(h:RelA ρ a a'):AY T F N Ej (noView a) ρ (noView a'):=by
 refine (ig h.1).bind λρ' x x' _ e=>?_;obtain⟨rfl,rfl⟩:=e;exact λ_=>rfl
theorem UZ(T:Twin): ∀(d:Nat) (t:Am) (off:Nat),byteOfCell T.v d t off=byteOfCell T.P d t off
 |0,_,_=>rfl
 |d+1,t,off=>by
  have e1:T.v.underlying t=T.P.underlying t:=rfl;have e2: ∀x,T.v.cellsOf x=T.P.cellsOf x:=λ_=>rfl;have e3: ∀x,T.v.bytesOf x=T.P.bytesOf x:=λ_=>rfl;unfold byteOfCell;rw[e1];simp only[UZ T d,e2,e3]
theorem LJ(h:RelA ρ a a'):AY T F N Ej (byteOf a) ρ (byteOf a'):=by
 obtain⟨b,o,s⟩:=a;obtain⟨b',o',s'⟩:=a';obtain⟨h1,h2,h3⟩:=h;simp only at h1 h2 h3;subst h2 h3;unfold byteOf
 cases s' with
 |some s=>exact λ_=>rfl|none=>
  refine CU.bind λρ₁ p p' l1 e=>?_;obtain⟨rfl,rfl⟩:=e;refine (XH (a:=⟨b,o',AB⟩) (a':=⟨b',o',AB⟩) ⟨l1.r _ _ h1,rfl,rfl⟩).bind λρ₂ _ _ l2 _=>?_;refine (Nh (b:=b) (b':=b') (l2.r _ _ (l1.r _ _ h1))).bind λρ₃ x x' _ e=>?_;obtain rfl:x=x':=e
  cases x with
  |none=>exact λ_=>Ap|some q=>
   obtain⟨e,n⟩:=q;show AY _ F N Ej (if T.P.cellsOf e=0 then _ else _:Sem Nat) _ (if T.P.cellsOf e=0 then _ else _:Sem Nat);have hb:byteOfCell T.v T.v.depth e (o' % T.v.cellsOf e)=byteOfCell T.P T.P.depth e (o' % T.P.cellsOf e):=UZ T _ _ _;by_cases h0:T.P.cellsOf e=0;simp only[h0,if_true];exact λ_=>rfl;simp only[h0,if_false,hb]
   cases hc:byteOfCell T.P T.P.depth e (o' % T.P.cellsOf e) with|none=>exact λ_=>Ap|some b=>exact λ_=>rfl
theorem ABT(h:RelA ρ a a')(n m:Nat):AY T F N QA (partAt a n m) ρ (partAt a' n m):=by
 refine (LJ h).bind λρ₁ x x' l1 e=>?_;obtain rfl:x=x':=e;have h1:=h.mono l1;refine (LJ (a:={block:=a.block,off:=a.off+n}) (a':={block:=a'.block,off:=a'.off+n}) ⟨h1.1,by simp[h.2.1],rfl⟩).bind λρ₂ y y' l2 e=>?_;obtain rfl:y=y':=e;have h2:=h1.mono l2;show AY T F N QA (pure (if y=x+m then _ else _)) _ (pure (if y=x+m then _ else _));by_cases hy:y=x+m;simp only[hy,if_true];exact λ_=>⟨h2.1,by simp[h.2.1],rfl⟩;simp only[hy,if_false];exact λ_=>⟨h2.1,by simp[h.2.1],rfl⟩
theorem jl(h:RelA ρ a a')(f:Field):AY T F N QA (fieldPlace a f) ρ (fieldPlace a' f):=by
 refine (Ef f.type).bind λρ₁ n n' l1 e=>?_;obtain rfl:n=n':=e;by_cases hn:n=0;simp only[hn,if_true];exact ABT (h.mono l1) _ _;simp only[hn,if_false];exact λ_=>(h.mono l1).add _
end
end
section
variable {l l':Array (Nat×AQ)}{p:Array AQ}{hi hi' lo lo' mx mx':Option AQ}{x x':AQ}
section
variable {T:Twin} {F:Fs} {N:Nat} {ρ:Rn} {α β γ:Type}
theorem AEA(t:Am)(h:Hw T.P t=true):AY T F N (QV F) (Instr.alloc t true (.tuple #[])) ρ (Instr.alloc t true (.tuple #[])):=by
 refine (OX t h).bind λρ₁ z z' l1 e=>?_;obtain⟨rfl,hz⟩:=e;exact (N7 t hz).bind λρ₂ a a' _ ha _=>.ptr ha
theorem AIj(t:Am)(h:BC F ρ x x'):AY T F N (QV F) (TQ t x) ρ (TQ t x'):=
 (N7 t h).bind λ_ _ _ _ ha _=>.ptr ha
theorem ABU(t:Am)(h:BC F ρ x x'):AY T F N (QV F) (Instr.loadAt t x) ρ (Instr.loadAt t x'):=
 (Md h).bind λ_ _ _ _ ha=>OY t ha
theorem yx(t:Am){y y':AQ}(h:BC F ρ x x')(k:BC F ρ y y'):AY T F N Ej (Instr.storeAt t x y) ρ (Instr.storeAt t x' y'):=
 (Md h).bind λ_ _ _ l1 ha=>QF t ha (k.mono l1)
theorem yz(t:Am)(h:BC F ρ x x')(f:Nat):AY T F N (QV F) (Instr.fieldAt t x f) ρ (Instr.fieldAt t x' f):=by
 refine (BQ t).bind λρ₁ d d' l1 e=>?_;obtain⟨rfl,_⟩:=e
 cases d with
 |struct fs=>
  simp only
  cases hf:fs[f]? with
  |none=>exact λ_=>Ap|some fd=>
   refine (Md (h.mono l1)).bind λρ₂ a a' l2 ha=>?_;exact (jl ha fd).bind λρ₃ b b' _ hb _=>.ptr hb
 |_=>exact λ_=>Ap
def ABV (d:TypeDesc) (x:AQ):Sem (Option Af×Nat×Am):=
 match d,x with| .array len elem,x=>do pure (AA (<- Instr.sureAddr x),len,elem)| .slice elem,.slice base len _=>pure (base,len,elem)|_,_=>stuck "indexAddr: an array's address or a slice expected"
def nT (t:Am) (k:IntKind) (i:Int) (base:Option Af) (len:Nat) (elem:Am):Sem AQ:=do
 let tiny:=len<=1 && (match <- underlying t with| .array .. =>true|_=>false)
 match base with
 |some a=>
  if 0<=i/\i<len then pure (.pointer (AA (a.add (i.toNat*(<- sizeOf elem)))))
  else if tiny then unsupported (.noEntry "op/indexAddr.an index out of range at an array of length 0 or 1 (ledger 616)")
  else boundsPanic k i len .index
 |none=>boundsPanic k i 0 .index
theorem ik(t:Am)(x ix:AQ):Instr.indexAt t x ix=(asIntOf ix>>=λq=>underlying t>>=λd=>ABV d x>>=λb=>nT t q.1 q.2 b.1 b.2.1 b.2.2):=by
 unfold Instr.indexAt ABV nT;refine congrArg (Bind.bind (asIntOf ix)) (funext λq=>?_);refine congrArg (Bind.bind (underlying t)) (funext λd=>?_);cases d<;>cases x<;>first|rfl|(rename_i a;cases a<;>rfl)
theorem y7(t:Am){i i':AQ}(h:BC F ρ x x')(k:BC F ρ i i'):AY T F N (QV F) (Instr.indexAt t x i) ρ (Instr.indexAt t x' i'):=by
 rw[ik,ik];refine (OZ k).bind λρ₁ n n' l1 e=>?_;obtain rfl:n=n':=e;obtain⟨kd,n⟩:=n;refine (BQ t).bind λρ₂ d d' l2 e=>?_;obtain⟨rfl,_⟩:=e;have hx:=(h.mono l1).mono l2;refine AY.bind (Q:=λ(ρ:Rn) (p q:Option Af×Nat×Am)=>(match p.1,q.1 with|none,AB=>True|some a,AA a'=>RelA ρ a a'\/p.2.1=0|_,_=>False)/\p.2=q.2) ?_ ?_
 ·cases d with
  |array len el=>
   refine AY.bind (Md hx) λρ₃ a a' _ ha=>?_;exact λ_=>⟨.inl ha,rfl⟩
  |slice el=>
   cases hx with
   |flat hf=>
    (cases x<;>first|exact λ_=>Ap|skip);rename_i a n c;cases a<;>first|exact Ak (show false=true from hf) AV|exact λ_=>⟨Ap,rfl⟩
   |slice ha=>exact λ_=>⟨.inl ha,rfl⟩|emp=>exact λ_=>⟨.inr rfl,rfl⟩|_=>exact λ_=>Ap
  |_=>exact λ_=>Ap
 intro ρ₃ p q l3 hpq;obtain⟨b,len,el⟩:=p;obtain⟨b',len',el'⟩:=q;obtain⟨hb,he⟩:=hpq;simp only[OM] at he;obtain⟨rfl,rfl⟩:=he;simp only;unfold nT;refine (BQ t).bind λρ₄ d d' l4 e=>?_;obtain⟨rfl,_⟩:=e
 cases b with
 |none=>cases b' with
  |none=>exact IW _ _ _ _|some _=>exact hb.elim
 |some a=>cases b' with
  |none=>exact hb.elim|some a'=>
   simp only;by_cases hn:0<=n/\n<(len:Int)
   ·simp only[hn,and_self,if_true];refine (Ef el).bind λρ₅ s s' l5 e=>?_;obtain rfl:s=s':=e;exact λ_=>.ptr (((RelA.mono l4 (hb.resolve_right (by simp only at*;omega))).mono l5).add _)
   simp only[hn,if_false];split<;>(by_cases hl:len<=1<;>simp only[hl,decide_true,decide_false,Bool.true_and,Bool.false_and,if_true,if_false,DF]<;>first|exact λ_=>Ap|exact IW _ _ _ _)
def QP (F:Fs) (ρ:Rn):List (Nat×AQ)->List (Nat×AQ)->Prop:=Cm λp q=>p.1=q.1/\BC F ρ p.2 q.2
theorem ABW{l l':List AQ}: ∀(k off:Nat) {p p':Array AQ},Az F ρ l.toArray l'.toArray->Az F ρ p p'->
  Az F ρ ((l.zipIdx k).foldl (λcs (c,j)=>cs.setIfInBounds (off+j) c) p) ((l'.zipIdx k).foldl (λcs (c,j)=>cs.setIfInBounds (off+j) c) p'):=by
 induction l generalizing l' with
 |nil=>
  intro k off p p' h hp;(have:l'=[]:=by have:=h.1;simp at this;exact eX.1 this.symm);subst this;exact hp
 |cons v l ih=>
  intro k off p p' h hp
  cases l' with
  |nil=>have:=h.1;simp at this|cons v' l'=>
   simp only[List.zipIdx_cons,WC];refine ih _ _ ⟨by have:=h.1;simpa using this,λj x x' hx hx'=>h.2 (j+1) x x' (by simpa using hx) (by simpa using hx')⟩ (hp.set (h.2 0 v v' AV AV) _)
theorem fF(place:Nat->Option (Nat×Nat)): ∀{l l':List (Nat×AQ)} {p p':Array AQ},QP F ρ l l'->Az F ρ p p'->
  match MZ place p l,MZ place p' l' with|some a,AA b=>Az F ρ a b|none,AB=>True|_,_=>False:=by
 intro l
 induction l with
 |nil=>intro l' p p' h hp;cases h;exact hp
 |cons x l ih=>
  intro l' p p' h hp
  cases h with
  | @cons _ y _ l' hxy hl=>
   obtain⟨i,v⟩:=x;obtain⟨i',v'⟩:=y;obtain⟨e,hv⟩:=hxy;simp only at e hv;subst e;simp only[MZ]
   cases place i with
   |none=>trivial|some q=>
    obtain⟨off,size⟩:=q;have hc:=hv.cells;simp only[<- hc.1,<- hp.1];by_cases hcd:(decide (v.cells.size≠size) || decide (off+v.cells.size>p.size))=true;simp only[hcd,if_true];simp only[hcd,if_false,DF];rw[<- yM,<- yM,AIc,AIc];exact ih hl (ABW 0 off (by simpa using hc) hp)
theorem uF{v:AQ}(h:closed v=true): ∀x∈v.cells,flat x=true:=by
 cases v with|agg cs=>exact λx hx=>VN.1 (show cs.all flat=true from h) x hx|_=>intro x hx;simp[Value.cells] at hx;subst hx;exact h
theorem flat_get(h: ∀x∈p,flat x=true)(i:Nat):flat p[i]! =true:=by
 rw[getElem!_def]
 cases hx:p[i]? with|none=>rfl|some x=>exact h x (mV hx)
theorem VR(h: ∀x∈p,flat x=true)(n m:Nat):Az F ρ ((aK n).map (p[· % m]!)) ((aK n).map (p[· % m]!)):=
 Az.ofFn λ_=>.flat (flat_get h _)
theorem LK(t:Am)(h:Hw T.P t=true):AY T F N (λ_ a b=>a=b/\∀x∈a.cells,flat x=true) (GY t) ρ (GY t):=(DD t).bind λ_ a b _ hb=>by
 obtain⟨rfl,hi⟩:=hb;unfold Hw at h;rw[hi] at h;simp only at h
 cases hz:a.zero with
 |none=>exact λ_=>Ap|some z=>
  rw[hz] at h;exact λ_=>⟨rfl,uF h⟩
theorem AEB(fs:Array Field):AY T F N Ej (fs.mapM λf=>do pure (f.offset,<- sizeOf f.type):Sem (Array (Nat×Nat))) ρ (fs.mapM λf=>do pure (f.offset,<- sizeOf f.type)):=by
 rw[ADz];refine AY.bind (Q:=Ej) ?_ λ_ a b _ e=>by obtain rfl:a=b:=e;exact λ_=>rfl
 induction fs.toList generalizing ρ with
 |nil=>exact λ_=>rfl|cons f l ih=>
  rw[AD0];refine AY.bind (Q:=Ej) ((Ef f.type).bind λ_ a b _ e=>by obtain rfl:a=b:=e;exact λ_=>rfl) λρ₁ a b _ e=>?_;obtain rfl:a=b:=e;exact ih.bind λρ₂ a b _ e=>by obtain rfl:a=b:=e;exact λ_=>rfl
theorem AEC(t:Am)(h:Hw T.P t=true)(hl:QP F ρ l.toList l'.toList):AY T F N (QV F) (Instr.build t l) ρ (Instr.build t l'):=by
 have mono: ∀{ρ₁:Rn},ρ.le ρ₁->QP F ρ₁ l.toList l'.toList:=λk=>by
  have: ∀{a b:List (Nat×AQ)},QP F ρ a b->QP F _ a b:=λ{a b} q=>by
   induction q with|nil=>exact .nil|cons x _ i=>exact .cons ⟨x.1,x.2.mono k⟩ i
  exact this hl
 refine (LK t h).bind λρ₁ z z' l1 e=>?_;obtain⟨rfl,hz⟩:=e;refine (BQ t).bind λρ₂ d d' l2 e=>?_;obtain⟨rfl,_⟩:=e
 cases d with
 |struct fs=>
  refine (AEB fs).bind λρ₃ pl pl' l3 e=>?_;obtain rfl:pl=pl':=e;have:=fF (F:=F) (ρ:=ρ₃) (pl[·]?) (mono ((l1.trans l2).trans l3)) (Az.VQ hz)
  cases h1:MZ (pl[·]?) z.cells l.toList with
  |none=>exact λ_=>Ap
  |some a=>cases h2:MZ (pl[·]?) z.cells l'.toList with
   |none=>simp only[h1,h2] at this|some b=>simp only[h1,h2] at this⊢;exact λ_=>.agg this.1 this.2
 |array n el=>
  refine (Ef el).bind λρ₃ s s' l3 e=>?_;obtain rfl:s=s':=e;have:=fF (F:=F) (ρ:=ρ₃) (λi=>AA (i*s,s)) (mono ((l1.trans l2).trans l3)) (Az.VQ hz)
  cases h1:MZ (λi=>AA (i*s,s)) z.cells l.toList with
  |none=>exact λ_=>Ap
  |some a=>cases h2:MZ (λi=>AA (i*s,s)) z.cells l'.toList with
   |none=>simp only[h1,h2] at this|some b=>simp only[h1,h2] at this⊢;exact λ_=>.agg this.1 this.2
 |_=>exact λ_=>Ap
theorem jm(t:Am)(n:Nat)(h: ∀el,T.P.underlying t=AA (.slice el)->Hw T.P el=true)(hl:QP F ρ l.toList l'.toList):
  AY T F N (QV F) (aN t n l) ρ (aN t n l'):=by
 have mono: ∀{ρ₁:Rn},ρ.le ρ₁->QP F ρ₁ l.toList l'.toList:=λk=>by
  have: ∀{a b:List (Nat×AQ)},QP F ρ a b->QP F _ a b:=λ{a b} q=>by
   induction q with|nil=>exact .nil|cons x _ i=>exact .cons ⟨x.1,x.2.mono k⟩ i
  exact this hl
 refine (BQ t).bind λρ₂ d d' l2 e=>?_;obtain⟨rfl,hd⟩:=e
 cases d with
 |slice el=>
  refine (Ef el).bind λρ₃ s s' l3 e=>?_;obtain rfl:s=s':=e;by_cases hbig:n*s>2 ^ 24;simp only[hbig,if_true];exact λ_=>Ap;simp only[hbig,if_false]
  have key: ∀(ρ₄:Rn) (z:Array AQ),ρ₃.le ρ₄->(∀x∈z,flat x=true)->
    AY T F N (QV F) (do
     let AA cells:=MZ (λi=>AA (i*s,s)) ((aK (n*s)).map (z[· % z.size]!)) l.toList|stuck "buildSlice: a part of the wrong size"
     pure (.slice (AA (<- newRow el cells)) n n):Sem AQ) ρ₄ (do
     let AA cells:=MZ (λi=>AA (i*s,s)) ((aK (n*s)).map (z[· % z.size]!)) l'.toList|stuck "buildSlice: a part of the wrong size"
     pure (.slice (AA (<- newRow el cells)) n n):Sem AQ):=by
   intro ρ₄ z l4 hz;have:=fF (F:=F) (ρ:=ρ₄) (λi=>AA (i*s,s)) (mono ((l2.trans l3).trans l4)) (VR hz (n*s) z.size)
   cases h1:MZ (λi=>AA (i*s,s)) ((aK (n*s)).map (z[· % z.size]!)) l.toList with
   |none=>exact λ_=>Ap
   |some a=>cases h2:MZ (λi=>AA (i*s,s)) ((aK (n*s)).map (z[· % z.size]!)) l'.toList with
    |none=>simp only[h1,h2] at this|some b=>
     simp only[h1,h2] at this⊢;exact (Tn el this).bind λ_ a b _ e=>λ_=>.slice e
  by_cases h0:n*s=0
  ·simp only[h0,if_true];have:=key ρ₃ #[] (.refl _) AV;simp only[h0] at this;exact this
  simp only[h0,if_false];refine (LK el (h el hd)).bind λρ₄ z z' l4 e=>?_;obtain⟨rfl,hz⟩:=e;exact key ρ₄ _ l4 hz
 |_=>exact λ_=>Ap
theorem zA(h:BC F ρ x x')(i:Nat):AY T F N (QV F) (Instr.extract x i) ρ (Instr.extract x' i):=by
 cases h with
 |flat hf=>cases x<;>first|exact λ_=>Ap|exact Ak (show false=true from hf) AV
 |tuple h1 h2=>
  rename_i p p';simp only[Instr.extract]
  cases hv:p[i]? with
  |none=>exact λ_=>Ap|some v=>
   obtain⟨v',hv',hr⟩:=Az.get ⟨h1,h2⟩ hv;rw[hv'];exact λ_=>hr
 |_=>exact λ_=>Ap
theorem Za(t:Am)(h:BC F ρ x x'):AY T F N (QV F) (Instr.makeInterface t x) ρ (Instr.makeInterface t x'):=by
 refine (BQ t).bind λρ₁ d d' l1 e=>?_;obtain⟨rfl,_⟩:=e;cases d<;>first|exact λ_=>Ap|exact λ_=>.iface (h.mono l1)
theorem uG(f:Bj)(hf:F f)(hv:F.v f){p' q q':Array AQ}(h:Az F ρ p p')(k:Az F ρ q q'):AY T F N (QV F) (aO (.func f) p q) ρ (aO (.func f) p' q'):=
 λ_=>.func hf hv h.1 h.2 k.1 k.2
theorem Qo(h:BC F ρ x x')(y:Nat)(c:BoundsCode):AY T F N Ej (P5 x y c) ρ (P5 x' y c):=by
 refine (OZ h).bind λρ₁ n n' l1 e=>?_;obtain rfl:n=n':=e;obtain⟨k,n⟩:=n;simp only;split;exact λ_=>rfl;exact IW _ _ _ _
def QO (F:Fs) (ρ:Rn) (x y:Option AQ):Prop:=match x,y with
 |none,AB=>True|some a,AA b=>BC F ρ a b|_,_=>False
theorem QO.mono{ρ':Rn}(h:ρ.le ρ'){x y:Option AQ}(k:QO F ρ x y):QO F ρ' x y:=by
 cases x<;>cases y<;>first|exact k.elim|trivial|exact BC.mono h k
theorem NR(s:Bool)(n k:Nat)(lo hi mx:Option AQ):Q8 s n k lo hi mx=
  ((match mx with|some v=>P5 v k (if s then .slice3Acap else .slice3Alen)|none=>pure k:Sem Nat)>>=λm=>
   (match hi,mx with|some v,AA _=>P5 v m .slice3B|some v,AB=>P5 v m (if s then .sliceAcap else .sliceAlen)|none,AB=>pure n|none,AA _=>stuck "Slice: max without high" :Sem Nat)>>=λh=>
    (match lo with|some v=>P5 v h (if mx.isSome then .slice3C else .sliceB)|none=>pure 0:Sem Nat)>>=λl=>pure (l,h,m)):=by
 cases mx<;>cases hi<;>cases lo<;>rfl
theorem Ll(s:Bool)(n k:Nat)(h1:QO F ρ lo lo')(h2:QO F ρ hi hi')(h3:QO F ρ mx mx'):
  AY T F N Ej (Q8 s n k lo hi mx) ρ (Q8 s n k lo' hi' mx'):=by
 rw[NR,NR];(have hs:mx.isSome=mx'.isSome:=by cases mx<;>cases mx'<;>first|rfl|exact h3.elim);refine AY.bind (Q:=Ej) ?_ λρ₁ m m' l1 e=>?_
 ·cases mx<;>cases mx'<;>first|exact h3.elim|exact λ_=>rfl|exact Qo h3 _ _
 obtain rfl:m=m':=e;refine AY.bind (Q:=Ej) ?_ λρ₂ a a' l2 e=>?_
 ·have h2:=h2.mono l1
  cases hi<;>cases hi'<;>first
   |exact h2.elim|(cases mx<;>cases mx'<;>first|exact h3.elim|exact λ_=>rfl|exact λ_=>Ap|exact Qo h2 _ _)
 obtain rfl:a=a':=e;refine AY.bind (Q:=Ej) ?_ λρ₃ b b' l3 e=>?_
 ·have h1:=(h1.mono l1).mono l2;rw[<- hs];cases lo<;>cases lo'<;>first|exact h1.elim|exact λ_=>rfl|exact Qo h1 _ _
 obtain rfl:b=b':=e;exact λ_=>rfl
theorem PL(h:BC F ρ x x')(y:Nat)(c:BoundsCode):AY T F N (λ_ p q=>p=q/\p<=y) (P5 x y c) ρ (P5 x' y c):=by
 refine (OZ h).bind λρ₁ n n' l1 e=>?_;obtain rfl:n=n':=e;obtain⟨k,n⟩:=n;simp only;split;exact λ_=>⟨rfl,Aa⟩;exact IW _ _ _ _
theorem ax(s:Bool)(h1:QO F ρ lo lo')(h2:QO F ρ hi hi')(h3:QO F ρ mx mx'):
  AY T F N (λ_ p q=>p=q/\p=(0,0,0)) (Q8 s 0 0 lo hi mx) ρ (Q8 s 0 0 lo' hi' mx'):=by
 rw[NR,NR];(have hs:mx.isSome=mx'.isSome:=by cases mx<;>cases mx'<;>first|rfl|exact h3.elim);refine AY.bind (Q:=λ_ p q=>p=q/\p<=0) ?_ λρ₁ m m' l1 e=>?_
 ·cases mx<;>cases mx'<;>first|exact h3.elim|exact λ_=>⟨rfl,Bc _⟩|exact PL h3 _ _
 obtain⟨rfl,e⟩:=e;obtain rfl:m=0:=AD1.1 e;refine AY.bind (Q:=λ_ p q=>p=q/\p<=0) ?_ λρ₂ a a' l2 e=>?_
 ·have h2:=h2.mono l1
  cases hi<;>cases hi'<;>first
   |exact h2.elim|(cases mx<;>cases mx'<;>first|exact h3.elim|exact λ_=>⟨rfl,Bc _⟩|exact λ_=>Ap|exact PL h2 _ _)
 obtain⟨rfl,e⟩:=e;obtain rfl:a=0:=AD1.1 e;refine AY.bind (Q:=λ_ p q=>p=q/\p<=0) ?_ λρ₃ b b' l3 e=>?_
 ·have h1:=(h1.mono l1).mono l2;rw[<- hs];cases lo<;>cases lo'<;>first|exact h1.elim|exact λ_=>⟨rfl,Bc _⟩|exact PL h1 _ _
 obtain⟨rfl,e⟩:=e;obtain rfl:b=0:=AD1.1 e;exact λ_=>⟨rfl,rfl⟩
theorem AED(t:Am)(h:BC F ρ x x')(h1:QO F ρ lo lo')(h2:QO F ρ hi hi')(h3:QO F ρ mx mx'):
  AY T F N (QV F) (WE t x lo hi mx) ρ (WE t x' lo' hi' mx'):=by
 unfold WE;refine (BQ t).bind λρ₁ d d' l1 e=>?_;obtain⟨rfl,_⟩:=e;have hx:=h.mono l1;have h1:=h1.mono l1;have h2:=h2.mono l1;have h3:=h3.mono l1
 cases d with
 |string=>
  cases hx with
  |flat hf=>
   (cases x<;>first|exact λ_=>Ap|skip);rename_i b;(have hs:mx.isSome=mx'.isSome:=by cases mx<;>cases mx'<;>first|rfl|exact h3.elim);simp only[<- hs];split;exact λ_=>Ap;refine (Ll false _ _ h1 h2 (mx:=AB) (mx':=AB) trivial).bind λρ₂ q q' _ e=>?_;obtain rfl:q=q':=e;exact λ_=>.flat rfl
  |_=>exact λ_=>Ap
 |slice el=>
  have key: ∀{a a':Option Af} {n k:Nat},(match a,a' with|none,AB=>True|some p,AA q=>RelA ρ₁ p q|_,_=>False)->
    AY T F N (QV F) (do let (l,h,m) <- Q8 true n k lo hi mx;let size <- sizeOf el;pure (.slice (if m=l then a else a.map (·.add (l*size))) (h - l) (m - l)):Sem AQ) ρ₁
     (do let (l,h,m) <- Q8 true n k lo' hi' mx';let size <- sizeOf el;pure (.slice (if m=l then a' else a'.map (·.add (l*size))) (h - l) (m - l)):Sem AQ):=by
   intro a a' n k ha;refine (Ll true _ _ h1 h2 h3).bind λρ₂ q q' l2 e=>?_;obtain rfl:q=q':=e;obtain⟨l,hh,m⟩:=q;refine (Ef el).bind λρ₃ s s' l3 e=>?_;obtain rfl:s=s':=e;(cases a<;>cases a'<;>first|exact ha.elim|skip);intro _;simp only[Option.map_none,ite_self];exact .flat rfl;have ha:RelA ρ₁ _ _:=ha;by_cases hm:m=l;simp only[hm,if_true];exact λ_=>.slice ((ha.mono l2).mono l3);simp only[hm,if_false,Fq];exact λ_=>.slice (((ha.mono l2).mono l3).add _)
  cases hx with
  |flat hf=>
   (cases x<;>first|exact λ_=>Ap|skip);rename_i a n k
   cases a with|none=>exact key trivial|some _=>exact Ak (show false=true from hf) AV
  |slice ha=>exact key (a:=AA _) (a':=AA _) ha|emp hc=>
   refine (ax true h1 h2 h3).bind λρ₂ q q' l2 e=>?_;obtain⟨rfl,rfl⟩:=e;refine (Ef el).bind λρ₃ s s' l3 e=>?_;exact λ_=>.emp (l3.c _ _ (l2.c _ _ hc))
  |_=>exact λ_=>Ap
 |pointer el=>
  refine AY.bind (Q:=QA) (iZ hx) λρ₂ a a' l2 ha=>?_;refine (BQ el).bind λρ₃ d d' l3 e=>?_;obtain⟨rfl,_⟩:=e
  cases d with
  |array n elem=>
   refine (Ll false _ _ ((h1.mono l2).mono l3) ((h2.mono l2).mono l3) ((h3.mono l2).mono l3)).bind λρ₄ q q' l4 e=>?_;obtain rfl:q=q':=e;obtain⟨l,hh,m⟩:=q;refine (Ef elem).bind λρ₅ s s' l5 e=>?_;obtain rfl:s=s':=e;have ha:=((ha.mono l3).mono l4).mono l5;by_cases hm:m=l;simp only[hm,if_true];exact λ_=>.slice ha;simp only[hm,if_false];exact λ_=>.slice (ha.add _)
  |_=>exact λ_=>Ap
 |_=>exact λ_=>Ap
theorem zB(t:Am)(h:BC F ρ x x')(h1:QO F ρ lo lo')(h2:QO F ρ hi hi')(h3:QO F ρ mx mx'):
  AY T F N (QV F) (Lc t x lo hi mx) ρ (Lc t x' lo' hi' mx'):=by
 unfold Lc;refine (BQ t).bind λρ₁ d d' l1 e=>?_;obtain⟨rfl,_⟩:=e
 cases d with
 |array n elem=>
  refine (Md (h.mono l1)).bind λρ₂ a a' l2 ha=>?_;refine (Ll false _ _ ((h1.mono l1).mono l2) ((h2.mono l1).mono l2) ((h3.mono l1).mono l2)).bind λρ₄ q q' l4 e=>?_;obtain rfl:q=q':=e;obtain⟨l,hh,m⟩:=q;refine (Ef elem).bind λρ₅ s s' l5 e=>?_;obtain rfl:s=s':=e;have ha:=(ha.mono l4).mono l5;by_cases hm:m=l;simp only[hm,if_true];exact λ_=>.slice ha;simp only[hm,if_false];exact λ_=>.slice (ha.add _)
 |_=>exact AED t (h.mono l1) (h1.mono l1) (h2.mono l1) (h3.mono l1)
theorem nU(h0: ∀i,T.P.info? 0=AA i->i.methods.find? (·.name== "")=AB){b:Nat}{β:Type}{Q:Rn->Next->β->Prop}(s':Sem β):
  DT T F N Q (do
   if (<- nilAhead ((<- program).types.size+Made.depth) 0 (.chan (AA b)) "") !=AA false then
    unsupported (.noEntry "op/nilCheck.the method's receiver behind this interface value is a nil pointer, or cannot be seen to be none, and the arguments act or may panic (ledger 612)")
   pure (.value (.func (.method "") #[.iface 0 (.chan (AA b))] #[])):Sem Next) ρ s':=by
 refine .inl ?_;show Cb T ((nilAhead (T.P.types.size+Made.depth) 0 (.chan (AA b)) "").bind _)
 cases T.P.types.size+Made.depth with
 |zero=>exact Ap|succ n=>
  have e:Cb T (nilAhead (n+1) 0 (.chan (AA b)) ""):=by
   rw[nilAhead];show Cb T ((match T.P.info? 0 with|some d=>pure d|none=>stuck "no such type" :Sem Q5).bind _)
   cases h:T.P.info? 0 with
   |none=>exact Ap|some i=>
    simp only[pure,Je,h0 i h];exact Ap
  exact e.bind
theorem uH(h0: ∀i,T.P.info? 0=AA i->i.methods.find? (·.name== "")=AB)(h:BC F ρ x x')(f f':AQ->Sem Next)
  (hf:f=λx=>match x with
   | .pointer AB| .nilIface| .nilFunc=>Q7 .nilDeref| .func (.method name) first captured=>
    match (first[0]? :Option AQ) with
    |some .nilIface=>Q7 .nilDeref
    |some (.iface t w)=>do
     if (<- nilAhead ((<- program).types.size+Made.depth) t w name) !=AA false then
      unsupported (.noEntry "op/nilCheck.the method's receiver behind this interface value is a nil pointer, or cannot be seen to be none, and the arguments act or may panic (ledger 612)")
     pure (.value (.func (.method name) first captured))
    |_=>pure (.value (.func (.method name) first captured))
   |x=>pure (.value x)) (e:f'=f) {Q:Rn->Next->Next->Prop} (hQ: ∀ρ x x',BC F ρ x x'->Q ρ (.value x) (.value x')):AY T F N Q (f x) ρ (f' x'):=by
 subst e hf
 cases h with
 |flat hf=>
  cases x<;>first
   |exact Bo (e:=.nilDeref) trivial|exact λ_=>hQ _ _ _ (.flat hf)|exact Ak (show false=true from hf) AV|(rename_i a;cases a<;>first|exact Bo (e:=.nilDeref) trivial|exact λ_=>hQ _ _ _ (.flat hf))
 |tok hc ht hp=>
  cases x'<;>first|exact Ak (show false=true from ht) AV|exact λ_=>hQ _ _ _ (.tok hc ht hp)|skip
  ·rename_i a;cases a<;>first|exact Ak (show false=true from ht) AV|exact λ_=>hQ _ _ _ (.tok hc ht hp)
  rename_i fn p q;cases fn<;>first|exact Ak (show false=true from ht) AV|exact λ_=>hQ _ _ _ (.tok hc ht hp)
 |mf hx hm=>exact λ_=>nU h0 _|ptr ha=>exact λ_=>hQ _ _ _ (.ptr ha)|slice ha=>exact λ_=>hQ _ _ _ (.slice ha)|emp hc=>exact λ_=>hQ _ _ _ (.emp hc)|map ha=>exact λ_=>hQ _ _ _ (.map ha)|chan ha=>exact λ_=>hQ _ _ _ (.chan ha)|func h1 h6 h2 h3 h4 h5=>exact λ_=>hQ _ _ _ (.func h1 h6 h2 h3 h4 h5)|yield ha=>exact λ_=>hQ _ _ _ (.yield ha)|seq ha=>exact λ_=>hQ _ _ _ (.seq ha)|iface ha=>exact λ_=>hQ _ _ _ (.iface ha)|agg h1 h2=>exact λ_=>hQ _ _ _ (.agg h1 h2)|tuple h1 h2=>exact λ_=>hQ _ _ _ (.tuple h1 h2)
theorem AEE{Q:Rn->AQ->AQ->Prop}(h:BC F ρ x x'):AY T F N Q (Instr.panic x) ρ (Instr.panic x'):=by
 cases h with
 |flat hf=>
  (cases x<;>first|exact λ_=>Ap|exact Ak (show false=true from hf) AV|skip);refine AY.bind (Q:=Ej) ?_ λρ₁ a b _ e=>?_
  ·refine AY.bind (Q:=Ej) (s:=sys .env) (s':=sys .env) (λ_ x=>rfl) λρ₁ a b _ e=>?_;obtain rfl:a=b:=e;(cases a<;>first|exact λ_=>Ap|skip);exact CU.bind λρ₂ p p' _ e=>by obtain⟨rfl,rfl⟩:=e;exact λ_=>rfl
  obtain rfl:a=b:=e;split;exact RU (.flat rfl);exact Bo (e:=.panicNil) trivial
 |iface h=>exact RU (.iface h)|_=>exact λ_=>Ap
end
end
section
variable {a a' b b':Af}{x x':AQ}
section
variable {T:Twin} {F:Fs} {N:Nat} {ρ:Rn} {α β γ:Type}
theorem RelA.beq(hok:ρ.Ok N)(h:RelA ρ a a')(k:RelA ρ b b'):(a.block==b.block)=(a'.block==b'.block):=by
 rw[mY,beq_iff_eq,beq_iff_eq];constructor;intro e;exact hok.fn _ _ _ h.1 (e▸k.1);intro e;exact hok.inj _ _ _ h.1 (e▸k.1)
theorem RelA.beq'(hok:ρ.Ok N)(h:RelA ρ a a')(k:RelA ρ b b'):(a==b)=(a'==b'):=by
 rw[mY,beq_iff_eq,beq_iff_eq];obtain⟨b1,o1,s1⟩:=a;obtain⟨b2,o2,s2⟩:=b;obtain⟨b3,o3,s3⟩:=a';obtain⟨b4,o4,s4⟩:=b';obtain⟨h1,h2,h3⟩:=h;obtain⟨k1,k2,k3⟩:=k;simp only at h1 h2 h3 k1 k2 k3;subst h2 h3 k2 k3;simp only[Addr.mk.injEq];constructor
 ·rintro⟨rfl,rfl,rfl⟩;exact⟨hok.fn _ _ _ h1 k1,rfl,rfl⟩
 rintro⟨rfl,rfl,rfl⟩;exact⟨hok.inj _ _ _ h1 k1,rfl,rfl⟩
theorem AEF(h:BC F ρ x x'):AY T F N Ej (Builtin.lenOf x) ρ (Builtin.lenOf x'):=by
 cases h with
 |flat hf=>cases x<;>first|exact λ_=>rfl|exact λ_=>Ap
 |slice _=>exact λ_=>rfl|emp=>exact λ_=>rfl|_=>exact λ_=>Ap
def ABX:AQ->Bool
 | .slice _ _ _| .string _=>true|_=>false
theorem ABY(h:BC F ρ x x'):AY T F N (λ_ a b=>a=b/\ABX x=true/\∀p,x=.slice (AA p) 0 0->a=0) (Builtin.lenOf x) ρ (Builtin.lenOf x'):=by
 by_cases he: ∃p,x=.slice (AA p) 0 0
 ·obtain⟨p,rfl⟩:=he
  cases h with|flat hf=>exact Ak (show false=true from hf) AV|slice _=>exact λ_=>⟨rfl,rfl,λ_ _=>rfl⟩|emp=>exact λ_=>⟨rfl,rfl,λ_ _=>rfl⟩
 by_cases hs:ABX x=true;exact (AEF h).mono λ_ _ _ _ e=>⟨e,hs,λp hp=>Ak ⟨p,hp⟩ he⟩
 have e: ∃s,Builtin.lenOf x=.halt (.stuck s):=by
  cases x<;>first|exact Ak rfl hs|exact⟨_,rfl⟩
 obtain⟨s,e⟩:=e;rw[e];exact λ_=>Ap
theorem Lm(size:Nat)(h:ABX x=true):Mc size 0 x=pure #[]:=by
 (cases x<;>first|exact Ak (show false=true from h) AV|skip);unfold Mc;simp;rename_i a n c
 cases a with|none=>rfl|some a=>unfold Mc;simp only[mZ];rfl
theorem AG8(h:BC F ρ x x')(hs:ABX x=true):ABX x'=true:=by
 cases h<;>first|exact hs|rfl|exact Ak (show false=true from hs) AV
theorem NS(size n:Nat)(h:BC F ρ x x')(hn: ∀p,x=.slice (AA p) 0 0->n=0):AY T F N (QVs F) (Mc size n x) ρ (Mc size n x'):=by
 cases h with
 |flat hf=>
  cases x<;>first|exact λ_=>Ap|skip
  ·rename_i s;refine λ_=>Az.VQ λx hx=>?_;obtain⟨b,_,rfl⟩:=Array.mem_map.1 hx;rfl
  rename_i a n k
  cases a with|none=>exact λ_=>Az.nil|some _=>exact Ak (show false=true from hf) AV
 |slice ha=>exact SK ha _|emp=>
  obtain rfl:=hn _ rfl;rw[Lm size (x:=.slice (AA _) 0 0) rfl,Lm size (x:=.slice (AA _) 0 0) rfl];exact λ_=>Az.nil
 |_=>exact λ_=>Ap
theorem Tq(h:RelA ρ a a'):AY T F N Ej (frozen a) ρ (frozen a'):=λ_=>Y4 h λ_=>rfl
def QB (ρ:Rn) (b b':Option Af):Prop:=match b,b' with
 |none,AB=>True|some a,AA a'=>RelA ρ a a'|_,_=>False
theorem QB.mono{ρ':Rn}(h:ρ.le ρ'){b b':Option Af}(k:QB ρ b b'):QB ρ' b b':=by
 cases b<;>cases b'<;>first|exact k.elim|trivial|exact RelA.mono h k
theorem ay{s s':AQ}(h:BC F ρ s s'):(∃b b' n k,s=.slice b n k/\s'=.slice b' n k/\(QB ρ b b'\/∃c a,ρ.c c (.slice (AA a) 0 0)/\n=0/\k=0/\b=AA ⟨c,0,AB⟩/\b'=AA a))\/(∀b n k,s≠ .slice b n k):=by
 cases h with
 |flat hf=>
  cases s with
  |slice a n k=>
   cases a with|none=>exact .inl ⟨AB,AB,n,k,rfl,rfl,.inl trivial⟩|some _=>exact Ak (show false=true from hf) AV
  |_=>exact .inr nofun
 |slice ha=>exact .inl ⟨AA _,AA _,_,_,rfl,rfl,.inl ha⟩|emp hc=>exact .inl ⟨AA _,AA _,_,_,rfl,rfl,.inr ⟨_,_,hc,rfl,rfl,rfl,rfl⟩⟩|_=>exact .inr nofun
theorem ABZ{α:Type}(size sLen n:Nat)(b:Option Af)(x:AQ)(t:String):Cb T (do
  if !(<- Builtin.mayShare size sLen n b x) then mark .noRoom
  unsupported (.resourceLimit t):Sem α):=by
 have h1: ∀y:Bool,Cb T (do
   if !y then mark .noRoom
   unsupported (.resourceLimit t):Sem α):=λy=>by cases y<;>trivial
 have h2: ∀{f:Bool->Sem α},(∀y,Cb T (f y))->Cb T (Je (match x with
   | .slice (AA b₁) _ _=>do pure (!(<- Builtin.holdsCells b₁ (n*size)) || b.any (·.block==b₁.block))
   |_=>pure false:Sem Bool) f):=λ{f} h=>by
  (cases x<;>first|exact h _|skip);rename_i a _ _
  cases a with
  |none=>exact h _|some a=>
   intro z;cases z<;>exact h _
 unfold Builtin.mayShare
 cases b with
 |none=>exact h2 h1|some a=>
  intro z
  cases z with
  |none=>
   intro y;exact h1 true
  |some q=>
   intro y;obtain⟨q1,q2⟩:=q;show Cb T (Je (if !(_ && !y) then pure true else _) _);by_cases hc:(!((a.spot.isNone && decide (a.off+sLen*size<=q2)) && !y))=true;simp only[hc,if_true];exact h1 true;simp only[hc,if_false,DF];exact h2 h1
theorem ABa(t xt ty:Am)(hint: ∀k,T.P.underlying xt≠AA (.int k))(hz: ∀el,T.P.underlying t=AA (.slice el)->Hw T.P el=true)
  {s s' x x':AQ} (hs:BC F ρ s s') (hx:BC F ρ x x'):AY T F N (QV F) (P6 #[t,xt] ty #[s,x]) ρ (P6 #[t,xt] ty #[s',x']):=by
 have hsl:=ay hs;unfold P6;simp only[Qn,WG,aP];refine (BQ t).bind λρ₁ d d' l1 e=>?_;obtain⟨rfl,hd⟩:=e
 cases d with
 |slice el=>
  simp only;rcases hsl with ⟨b,b',sLen,sCap,rfl,rfl,hb⟩|hns
  ·simp only;refine (Ef el).bind λρ₂ size size' l2 e=>?_;obtain rfl:size=size':=e;refine (BQ xt).bind λρ₃ dx dx' l3 e=>?_;obtain⟨rfl,uI⟩:=e;refine AY.bind (Q:=λ_ a b=>a=false/\b=false) ?_ λρ₄ z z' l4 e=>?_
   ·cases dx<;>first|exact λ_=>⟨rfl,rfl⟩|exact Ak uI (hint _)
   obtain⟨rfl,rfl⟩:=e;simp only[DF,if_false,AId,if_true,false_or];refine (ABY ((((hx.mono l1).mono l2).mono l3).mono l4)).bind λρ₅ n n' l5 e=>?_;obtain⟨e,hsl,hn0⟩:=e;obtain rfl:n=n':=e;have hs5:=((((hs.mono l1).mono l2).mono l3).mono l4).mono l5;have hx:=((((hx.mono l1).mono l2).mono l3).mono l4).mono l5;by_cases hn:sLen+n<=sCap
   ·simp only[hn,if_true];rcases hb with hb|⟨c0,a0,hc0,rfl,rfl,rfl,rfl⟩;rotate_left
    ·(obtain rfl:n=0:=by omega);rw[Lm size hsl,Lm size (AG8 hx hsl)];exact λ_=>.emp (l5.c _ _ (l4.c _ _ (l3.c _ _ (l2.c _ _ (l1.c _ _ hc0)))))
    have hb:=((((hb.mono l1).mono l2).mono l3).mono l4).mono l5;refine (NS size n hx hn0).bind λρ₆ c c' l6 hc=>?_;have hb:=hb.mono l6
    cases b with
    |none=>cases b' with
     |none=>exact λ_=>.flat rfl|some _=>exact hb.elim
    |some a=>cases b' with
     |none=>exact hb.elim|some a'=>
      simp only;have ha:RelA ρ₆ a a':=hb;exact (NQ c.toList c'.toList 0 (ha.add _) (by simpa using hc)).bind λρ₇ _ _ l7 _=>λ_=>.slice (ha.mono l7)
   simp only[hn,if_false]
   have key: ∀ρ₆,ρ₅.le ρ₆->AY T F N (QV F) (do
      let newCap <- choose (.appendCap (sLen+n) sCap el)
      askRoom (newCap*(<- I7 el).bytes)
      let old <- Mc size sLen (.slice b sLen sCap);let new <- Mc size n x;let rest:=Nz (<- GY el).cells (newCap - (sLen+n))
      pure (.slice (AA (<- newRow el (old++new++rest))) (sLen+n) newCap):Sem AQ) ρ₆ (do
      let newCap <- choose (.appendCap (sLen+n) sCap el)
      askRoom (newCap*(<- I7 el).bytes)
      let old <- Mc size sLen (.slice b' sLen sCap);let new <- Mc size n x';let rest:=Nz (<- GY el).cells (newCap - (sLen+n))
      pure (.slice (AA (<- newRow el (old++new++rest))) (sLen+n) newCap):Sem AQ):=by
    intro ρ₆ l6;refine (Ji _).bind λρ₇ nc nc' l7 e=>?_;obtain rfl:nc=nc':=e;refine (DD el).bind λρ₈ i i' l8 e=>?_;obtain⟨rfl,_⟩:=e;refine (au _).bind λρ₉ _ _ l9 _=>?_;have lt:=((l6.trans l7).trans l8).trans l9;refine (NS size sLen (hs5.mono lt) (λp hp=>by injection hp)).bind λρ₁₀ o o' l10 ho=>?_;refine (NS size n (hx.mono (lt.trans l10)) hn0).bind λρ₁₁ c c' l11 hc=>?_;refine (LK el (hz el hd)).bind λρ₁₂ z z' l12 e=>?_;obtain⟨rfl,hz⟩:=e;exact (Tn el (((ho.mono (l11.trans l12)).append (hc.mono l12)).append (VR hz _ _))).bind λ_ a a' _ ha=>λ_=>.slice ha
   refine (DD el).bind λρ₆ i i' l6 e=>?_;obtain⟨rfl,_⟩:=e
   have ASI: ∀ρ₇,ρ₆.le ρ₇->AY T F N (QV F) (do
      if tu (sLen+n) sCap*(<- I7 el).bytes>2 ^ 48 then (do
       if !(<- Builtin.mayShare size sLen n b x) then mark .noRoom
       unsupported (.resourceLimit "append: a slice or a string whose bytes no memory bears"))
      let newCap <- choose (.appendCap (sLen+n) sCap el)
      askRoom (newCap*(<- I7 el).bytes)
      let old <- Mc size sLen (.slice b sLen sCap);let new <- Mc size n x;let rest:=Nz (<- GY el).cells (newCap - (sLen+n))
      pure (.slice (AA (<- newRow el (old++new++rest))) (sLen+n) newCap):Sem AQ) ρ₇ (do
      if tu (sLen+n) sCap*(<- I7 el).bytes>2 ^ 48 then (do
       if !(<- Builtin.mayShare size sLen n b' x') then mark .noRoom
       unsupported (.resourceLimit "append: a slice or a string whose bytes no memory bears"))
      let newCap <- choose (.appendCap (sLen+n) sCap el)
      askRoom (newCap*(<- I7 el).bytes)
      let old <- Mc size sLen (.slice b' sLen sCap);let new <- Mc size n x';let rest:=Nz (<- GY el).cells (newCap - (sLen+n))
      pure (.slice (AA (<- newRow el (old++new++rest))) (sLen+n) newCap):Sem AQ):=by
    intro ρ₇ l7;refine (DD el).bind λρ₈ j j' l8 e=>?_;obtain⟨rfl,_⟩:=e;by_cases hbig:tu (sLen+n) sCap*j.bytes>2 ^ 48
    ·simp only[hbig,if_true];exact AY.bind (Q:=λ_ _ _=>False) (Ru (ABZ _ _ _ _ _ _) _) λ_ _ _ _ e=>e.elim
    simp only[hbig,if_false];exact key ρ₈ ((l6.trans l7).trans l8)
   by_cases hov:((sLen+n:Nat):Int)>IntKind.i64.max/\i.bytes=0
   ·simp only[hov,and_self,if_true];exact AY.bind (Q:=λ_ _ _=>False) (Bo (e:=.error _) trivial) λ_ _ _ _ e=>e.elim
   simp only[hov,if_false];exact ASI ρ₆ (.refl _)
  cases s<;>first|exact λ_=>Ap|exact Ak rfl (hns _ _ _)
 |_=>exact λ_=>Ap
end
end
section
variable {p p':Array AQ}{x x' y y':AQ}
section
variable {T:Twin} {F:Fs} {N:Nat} {ρ:Rn} {α β γ:Type}
theorem AIk(t ty:Am)(hc: ∀d e,T.P.underlying t≠AA (.chan d e))(h:BC F ρ x x'):AY T F N (QV F) (Us #[t] ty #[x]) ρ (Us #[t] ty #[x']):=by
 unfold Us;simp only[Qn,WG];refine (BQ t).bind λρ₁ d d' l1 e=>?_;obtain⟨rfl,hd⟩:=e;have hx:=h.mono l1
 cases d with
 |array n e=>cases x<;>cases x'<;>exact λ_=>.flat rfl|pointer arr=>
  have:AY T F N (QV F) (do
    let .array n _ <- underlying arr|stuck "len: pointer to array expected"
    pure (goInt n):Sem AQ) ρ₁ (do
    let .array n _ <- underlying arr|stuck "len: pointer to array expected"
    pure (goInt n):Sem AQ):=by
   refine (BQ arr).bind λρ₂ d d' l2 e=>?_;obtain⟨rfl,_⟩:=e;cases d<;>first|exact λ_=>Ap|exact λ_=>.flat rfl
  cases x<;>cases x'<;>exact this
 |string=>
  cases hx with
  |flat hf=>cases x<;>first|exact λ_=>Ap|exact λ_=>.flat rfl
  |_=>exact λ_=>Ap
 |slice el=>
  cases hx with
  |flat hf=>cases x<;>first|exact λ_=>Ap|exact λ_=>.flat rfl
  |slice _=>exact λ_=>.flat rfl|emp _=>exact λ_=>.flat rfl|_=>exact λ_=>Ap
 |map k el=>
  cases hx with
  |flat hf=>
   (cases x<;>first|exact λ_=>Ap|skip);rename_i r
   cases r with|none=>exact λ_=>.flat rfl|some _=>exact Ak (show false=true from hf) AV
  |map hb=>
   exact λ_=>⟨hb,λo o' ho=>by
    cases ho with
    | @map es es' k hs _=>
     show BC F _ (goInt es.size) (goInt es'.size);rw[hs];exact .flat rfl
    |_=>exact Ap⟩
  |_=>exact λ_=>Ap
 |chan d e=>exact Ak hd (hc _ _)|_=>cases x<;>exact λ_=>Ap
theorem uJ(op:BinOp)(x y:ByteArray):AY T F N (QV F) (Op.stringOp op x y) ρ (Op.stringOp op x y):=by
 unfold Op.stringOp;(cases op<;>first|exact λ_=>.flat rfl|exact λ_=>Ap|skip);simp only;split;exact λ_=>Ap;exact λ_=>.flat rfl
theorem BR(h:BC F ρ x x')(hf:flat x=true):x'=x:=by
 cases h<;>first|rfl|exact Ak (show false=true from hf) AV
theorem nV(o:BinOp)(k:IntKind)(a:Int)(k':IntKind)(b:Int):AY T F N (QV F) (Op.shift o k a k' b) ρ (Op.shift o k a k' b):=by
 unfold Op.shift;split;exact Bo (e:=.error _) trivial;cases o<;>first|exact λ_=>.flat rfl|exact λ_=>Ap
theorem ABb(o:BinOp)(k:IntKind)(a b:Int):AY T F N (QV F) (Op.intDiv o k a b) ρ (Op.intDiv o k a b):=by
 unfold Op.intDiv;split;exact Bo (e:=.error _) trivial;cases o<;>first|exact λ_=>.flat rfl|exact λ_=>Ap
theorem ABc(x y:AQ):(∃k a k' b,x=.int k a/\y=.int k' b)\/(∃k a k' b,x=.float k a/\y=.float k' b)\/(∃a b,x=.string a/\y=.string b)\/
  ∃h,Builtin.max2 x y=.halt h/\Halt.still h:=by
 unfold Builtin.max2;split;exact .inl ⟨_,_,_,_,rfl,rfl⟩;exact .inr (.inl ⟨_,_,_,_,rfl,rfl⟩);exact .inr (.inr (.inl ⟨_,_,rfl,rfl⟩));exact .inr (.inr (.inr ⟨_,rfl,Ap⟩));exact .inr (.inr (.inr ⟨_,rfl,Ap⟩));exact .inr (.inr (.inr ⟨_,rfl,Ap⟩))
theorem ABd(x y:AQ):(∃k a k' b,x=.int k a/\y=.int k' b)\/(∃k a k' b,x=.float k a/\y=.float k' b)\/(∃a b,x=.string a/\y=.string b)\/
  ∃h,Builtin.min2 x y=.halt h/\Halt.still h:=by
 unfold Builtin.min2;split;exact .inl ⟨_,_,_,_,rfl,rfl⟩;exact .inr (.inl ⟨_,_,_,_,rfl,rfl⟩);exact .inr (.inr (.inl ⟨_,_,rfl,rfl⟩));exact .inr (.inr (.inr ⟨_,rfl,Ap⟩));exact .inr (.inr (.inr ⟨_,rfl,Ap⟩));exact .inr (.inr (.inr ⟨_,rfl,Ap⟩))
theorem fG{Q:Rn->α->β->Prop}{s:Sem α}{s':Sem β}{h:Halt}(e:s=.halt h)(k:Halt.still h):AY T F N Q s ρ s':=by
 subst e;intro _;cases h<;>first|exact k.elim|exact k
theorem AG9(h:BC F ρ x x')(k:BC F ρ y y'):AY T F N (QV F) (Builtin.max2 x y) ρ (Builtin.max2 x' y'):=by
 rcases ABc x y with ⟨k₁,a,k₂,b,rfl,rfl⟩|⟨k₁,a,k₂,b,rfl,rfl⟩|⟨a,b,rfl,rfl⟩|⟨hh,e,hs⟩;rw[BR h rfl,BR k rfl];exact λ_=>.flat rfl
 ·cases h with
  |flat hf=>exact Ak (show false=true from hf) AV
 ·rw[BR h rfl,BR k rfl];simp only[Builtin.max2,Op.stringOp];exact λ_=>.flat rfl
 exact fG e hs
theorem AHA(h:BC F ρ x x')(k:BC F ρ y y'):AY T F N (QV F) (Builtin.min2 x y) ρ (Builtin.min2 x' y'):=by
 rcases ABd x y with ⟨k₁,a,k₂,b,rfl,rfl⟩|⟨k₁,a,k₂,b,rfl,rfl⟩|⟨a,b,rfl,rfl⟩|⟨hh,e,hs⟩;rw[BR h rfl,BR k rfl];exact λ_=>.flat rfl
 ·cases h with
  |flat hf=>exact Ak (show false=true from hf) AV
 ·rw[BR h rfl,BR k rfl];simp only[Builtin.min2,Op.stringOp];exact λ_=>.flat rfl
 exact fG e hs
theorem iq{f f':AQ->AQ->Sem AQ}(hf: ∀{ρ:Rn} {x x' y y':AQ},BC F ρ x x'->BC F ρ y y'->AY T F N (QV F) (f x y) ρ (f' x' y')):
  ∀(l l':List AQ) {ρ:Rn} {x x':AQ},Az F ρ l.toArray l'.toArray->BC F ρ x x'->AY T F N (QV F) (l.foldlM f x) ρ (l'.foldlM f' x'):=by
 intro l
 induction l with
 |nil=>
  intro l' ρ x x' h hx;(have:l'=[]:=by have:=h.1;simp at this;exact eX.1 this.symm);subst this;exact λ_=>hx
 |cons v l ih=>
  intro l' ρ x x' h hx
  cases l' with
  |nil=>have:=h.1;simp at this|cons v' l'=>
   rw[List.foldlM_cons,List.foldlM_cons];refine (hf hx (h.2 0 v v' AV AV)).bind λρ₁ a a' l1 ha=>ih l' ⟨by have:=h.1;simpa using this,λj x x' hx hx'=>?_⟩ ha;exact (h.2 (j+1) x x' (by simpa using hx) (by simpa using hx')).mono l1
theorem AIl(ts:Array Am)(ty:Am)(h:Az F ρ p p'):AY T F N (QV F) (Builtin.max_ ts ty p) ρ (Builtin.max_ ts ty p'):=by
 obtain⟨l⟩:=p;obtain⟨l'⟩:=p';unfold Builtin.max_
 cases l with
 |nil=>exact λ_=>Ap|cons v l=>
  cases l' with
  |nil=>have:=h.1;simp at this|cons v' l'=>
   exact iq (λh k=>AG9 h k) l l' ⟨by have:=h.1;simpa using this,λj x x' hx hx'=>h.2 (j+1) x x' (by simpa using hx) (by simpa using hx')⟩ (h.2 0 v v' AV AV)
theorem AIm(ts:Array Am)(ty:Am)(h:Az F ρ p p'):AY T F N (QV F) (Builtin.min_ ts ty p) ρ (Builtin.min_ ts ty p'):=by
 obtain⟨l⟩:=p;obtain⟨l'⟩:=p';unfold Builtin.min_
 cases l with
 |nil=>exact λ_=>Ap|cons v l=>
  cases l' with
  |nil=>have:=h.1;simp at this|cons v' l'=>
   exact iq (λh k=>AHA h k) l l' ⟨by have:=h.1;simpa using this,λj x x' hx hx'=>h.2 (j+1) x x' (by simpa using hx) (by simpa using hx')⟩ (h.2 0 v v' AV AV)
def QPt (ρ:Rn) (x y:AQ):Prop:=∃p p',x=.pointer p/\y=.pointer p'/\QB ρ p p'
theorem QPt.rel(h:QPt ρ x y):BC F ρ x y:=by
 obtain⟨p,p',rfl,rfl,h⟩:=h;cases p<;>cases p'<;>first|exact h.elim|exact .flat rfl|exact .ptr h
theorem Y5(T:Twin): ∀(d:Nat) (t:Am) (off:Nat),cellOfByte T.v d t off=cellOfByte T.P d t off
 |0,_,_=>rfl
 |d+1,t,off=>by
  have e1:T.v.underlying t=T.P.underlying t:=rfl;have e2: ∀x,T.v.cellsOf x=T.P.cellsOf x:=λ_=>rfl;have e3: ∀x,T.v.bytesOf x=T.P.bytesOf x:=λ_=>rfl;unfold cellOfByte;rw[e1];simp only[Y5 T d,e2,e3]
theorem nX(T:Twin)(d:Nat)(e:Am)(k off:Nat)(b:Int):cellAtBytes T.v d e k off b=cellAtBytes T.P d e k off b:=by
 have e2: ∀x,T.v.cellsOf x=T.P.cellsOf x:=λ_=>rfl;have e3: ∀x,T.v.bytesOf x=T.P.bytesOf x:=λ_=>rfl;unfold cellAtBytes;simp only[UZ,Y5,e2,e3]
theorem XI(t:Am)(h:BC F ρ x x')(k:BC F ρ y y'):AY T F N QPt (iQ #[] t #[x,y]) ρ (iQ #[] t #[x',y']):=by
 unfold iQ
 have hp:(∃b b',x=.pointer b/\x'=.pointer b'/\QB ρ b b')\/∀b,x≠ .pointer b:=by
  cases h with
  |flat hf=>
   cases x with
   |pointer a=>cases a with
    |none=>exact .inl ⟨AB,AB,rfl,rfl,Ap⟩|some _=>exact Ak (show false=true from hf) AV
   |_=>exact .inr nofun
  |ptr ha=>exact .inl ⟨AA _,AA _,rfl,rfl,ha⟩|_=>exact .inr nofun
 rcases hp with ⟨b,b',rfl,rfl,hb⟩|hn
 ·refine (nS k).bind λρ₁ n n' l1 e=>?_;obtain rfl:n=n':=e;have hb:=hb.mono l1;by_cases h0:n=0
  ·simp only[h0,if_true]
   cases b with
   |none=>exact λ_=>Ap
   |some a=>cases b' with
    |none=>exact hb.elim|some a'=>
     simp only;have ha:RelA ρ₁ a a':=hb;refine (ig ha.1).bind λρ₂ z z' l2 e=>?_;obtain⟨rfl,rfl⟩:=e;exact λ_=>⟨AA a,AA a',rfl,rfl,ha.mono l2⟩
  simp only[h0,if_false];by_cases hneg:n<0;simp only[hneg,if_true];exact λ_=>Ap;simp only[hneg,if_false]
  cases b with
  |none=>exact λ_=>Ap
  |some a=>cases b' with
   |none=>exact hb.elim|some a'=>
    simp only;have ha:RelA ρ₁ a a':=hb;refine (Nh ha.1).bind λρ₂ z z' l2 e=>?_;obtain rfl:z=z':=e
    cases z with
    |none=>exact λ_=>Ap|some q=>
     obtain⟨e,cells⟩:=q;simp only;refine CU.bind λρ₃ p p' l3 e=>?_;obtain⟨rfl,rfl⟩:=e;rw[ha.2.1];have hb:cellAtBytes T.v T.v.depth e (cells/T.v.cellsOf e) a.off n=cellAtBytes T.P T.P.depth e (cells/T.P.cellsOf e) a.off n:=nX T _ _ _ _ _;rw[hb]
     cases cellAtBytes T.P T.P.depth e (cells/T.P.cellsOf e) a.off n with|some o=>exact λ_=>⟨AA _,AA _,rfl,rfl,l3.r _ _ (l2.r _ _ ha.1),rfl,ha.2.2⟩|none=>exact λ_=>Ap
 cases x<;>first|exact λ_=>Ap|exact Ak rfl (hn _)
theorem uK{a a':Af}(h:RelA ρ a a')(b:Bool):AY T F N (QV F) (asNumber a b) ρ (asNumber a' b):=
 λ_=>.inr ⟨.number h,λ_ _ _=>.ptr ⟨.inr ⟨rfl,rfl⟩,rfl,rfl⟩⟩
theorem WO(t:Am)(x y:AQ):movedNumber t x y=(underlying t>>=λd=>(if (match d with| .unsafePointer=>true|_=>false)=true then unsupported (.unsafePointer "arithmetic at a pointer's type") else pure ():Sem Unit)>>=λ_=>
  match x with
  | .pointer (AA n)=>YF n>>=λq=>iQ #[] t #[.pointer (AA q.1),y]>>=λz=>match z with
   | .pointer (AA b)=>asNumber b q.2|v=>pure v
  |_=>iQ #[] t #[x,y]):=by
 unfold movedNumber;refine congrArg (Bind.bind (underlying t)) (funext λd=>?_);cases d<;>rfl
theorem PN(t:Am)(h:BC F ρ x x')(k:BC F ρ y y'):AY T F N (QV F) (movedNumber t x y) ρ (movedNumber t x' y'):=by
 rw[WO,WO];refine (BQ t).bind λρ₁ d d' l1 e=>?_;obtain⟨rfl,_⟩:=e;refine AY.bind (Q:=Ej) ?_ λρ₂ _ _ l2 _=>?_
 ·split;exact λ_=>Ap;exact λ_=>rfl
 have h:=(h.mono l1).mono l2;have k:=(k.mono l1).mono l2;have other:AY T F N (QV F) (iQ #[] t #[x,y]) ρ₂ (iQ #[] t #[x',y']):=(XI t h k).mono λ_ _ _ _ q=>q.rel
 cases h with
 |ptr ha=>
  refine (Hy ha).bind λρ₃ q q' l3 hq=>?_;refine (XI t (.ptr hq.1) (k.mono l3)).bind λρ₄ z z' l4 hz=>?_;rw[<- hq.2];obtain⟨p,p',rfl,rfl,hp⟩:=hz;cases p<;>cases p'<;>first|exact hp.elim|exact λ_=>.flat rfl|exact uK hp _
 |flat hf=>
  (cases x<;>first|exact other|skip);rename_i a
  cases a with|none=>exact other|some _=>exact Ak (show false=true from hf) AV
 |tok hc ht=>
  exact fG (h:=.stuck _) rfl trivial
 |_=>exact other
end
end
section
variable {a a' b b':Af}{t:Am}{x x' y y':AQ}
section
variable {T:Twin} {F:Fs} {N:Nat} {ρ:Rn} {α β γ:Type}
theorem Dk{p:Option Af}(h:BC F ρ (.pointer p) x'): ∃p',x'=.pointer p'/\QB ρ p p':=by
 cases h with
 |flat hf=>cases p with
  |none=>exact⟨AB,rfl,Ap⟩|some _=>exact Ak (show false=true from hf) AV
 |ptr ha=>exact⟨AA _,rfl,ha⟩
theorem XJ(hN:T.P.globals.size<N)(h:RelA ρ a a')(k:RelA ρ b b'):AY T F N Ej (Op.twoPlaces a b) ρ (Op.twoPlaces a' b'):=by
 intro hok;revert hok;unfold Op.twoPlaces;refine CU.bind λρ₁ p p' l1 e=>?_;obtain⟨rfl,rfl⟩:=e;have h:=h.mono l1;have k:=k.mono l1;intro hok;revert hok
 have key:AY T F N Ej (do pure (<- byteOf a,<- byteOf b):Sem (Nat×Nat)) ρ₁ (do pure (<- byteOf a',<- byteOf b')):=by
  refine (LJ h).bind λρ₂ x x' l2 e=>?_;obtain rfl:x=x':=e;refine (LJ (k.mono l2)).bind λρ₃ y y' l3 e=>?_;obtain rfl:y=y':=e;exact λ_=>rfl
 intro hok;have e1:=RelA.beq hok h k
 have e2:decide (a.block≥T.P.globals.size)=decide (a'.block≥T.P.globals.size):=by
  by_cases hlt:a.block<N\/a'.block<N;rw[hok.low _ _ h.1 hlt];(have h1:a.block≥T.P.globals.size:=by omega);(have h2:a'.block≥T.P.globals.size:=by omega);simp[h1,h2]
 revert hok;simp only[bne,e1,e2];by_cases hc:(!(a'.block==b'.block) || decide (a'.block≥T.P.globals.size))=true;simp only[hc,if_true];exact λ_=>Ap;simp only[hc,if_false,DF];exact key
theorem zC(hN:T.P.globals.size<N)(kd:IntKind)(h:RelA ρ a a')(k:RelA ρ b b'):AY T F N (QV F) (Op.addrSub kd a b) ρ (Op.addrSub kd a' b'):=
 (XJ hN h k).bind λρ₁ q q' _ e=>by obtain rfl:q=q':=e;exact λ_=>.flat rfl
theorem zD(hN:T.P.globals.size<N)(op:BinOp)(h:RelA ρ a a')(k:RelA ρ b b'):AY T F N (QV F) (Op.addrCmp op a b) ρ (Op.addrCmp op a' b'):=
 (XJ hN h k).bind λρ₁ q q' _ e=>by
  obtain rfl:q=q':=e;cases op<;>first|exact λ_=>.flat rfl|exact λ_=>Ap
theorem zF(kd:IntKind)(n:Int)(h:RelA ρ a a'):AY T F N (QV F) (Op.addrMod kd a n) ρ (Op.addrMod kd a' n):=by
 unfold Op.addrMod;refine (Nh h.1).bind λρ₁ x x' l1 e=>?_;obtain rfl:x=x':=e
 cases x with
 |none=>exact λ_=>Ap|some q=>
  obtain⟨e,c⟩:=q;simp only;refine (DD e).bind λρ₂ i i' l2 e=>?_;obtain⟨rfl,_⟩:=e;split;exact λ_=>Ap;refine (LJ ((h.mono l1).mono l2)).bind λρ₃ y y' l3 e=>?_;obtain rfl:y=y':=e;exact λ_=>.flat rfl
theorem AEG(hN:T.P.globals.size<N){op:BinOp}(hq:op≠ .eql/\op≠ .neq)(ht:T.P.underlying t≠AA .unsafePointer)(h:BC F ρ x x')(k:BC F ρ y y'):
  AY T F N (QV F) (binOp op t x y) ρ (binOp op t x' y'):=by
 have two: ∀{a b a' b':Af} (f f':Af->Af->Sem AQ),RelA ρ a a'->RelA ρ b b'->(∀{ρ₁:Rn} {a b a' b':Af},RelA ρ₁ a a'->RelA ρ₁ b b'->AY T F N (QV F) (f a b) ρ₁ (f' a' b'))->
   AY T F N (QV F) (do f (<- YF a).1 (<- YF b).1) ρ (do f' (<- YF a').1 (<- YF b').1):=by
  intro a b a' b' f f' ha hb hf;refine (Hy ha).bind λρ₁ q q' l1 e=>?_;refine (Hy (hb.mono l1)).bind λρ₂ s s' l2 e'=>?_;exact hf (e.1.mono l2) e'.1
 have mod: ∀{a a':Af} (kd:IntKind) (n:Int),RelA ρ a a'->AY T F N (QV F) (do Op.addrMod kd (<- YF a).1 n) ρ (do Op.addrMod kd (<- YF a').1 n):=by
  intro a a' kd n ha;exact (Hy ha).bind λρ₁ q q' l1 e=>zF kd n e.1
 unfold binOp;split;all_goals try (exact λ_=>Ap)
 case h_1=>rw[BR h rfl,BR k rfl];exact nV _ _ _ _ _
 case h_2=>rw[BR h rfl,BR k rfl];exact nV _ _ _ _ _
 case h_3=>
  rw[BR h rfl,BR k rfl];rename_i k₁ a k₂ b n1 n2;by_cases hk:k₁=k₂
  ·subst hk
   cases op<;>first
    |exact Ak rfl hq.1|exact Ak rfl hq.2|exact Ak rfl (n1 _ _ _ _ rfl rfl)|exact Ak rfl (n2 _ _ _ _ rfl rfl)|(simp only[ne_eq,not_true_eq_false,if_false];first|exact ABb _ _ _ _|exact λ_=>.flat rfl|exact λ_=>Ap)
  simp only[ne_eq,hk,not_false_eq_true,if_true];exact λ_=>Ap
 case h_4=>cases h with|flat hf=>exact Ak (show false=true from hf) AV
 case h_5=>cases h with|flat hf=>exact Ak (show false=true from hf) AV
 case h_6=>
  rw[BR h rfl,BR k rfl];cases op<;>first|exact Ak rfl hq.1|exact Ak rfl hq.2|exact uJ _ _ _
 case h_7=>exact Ak rfl hq.1
 case h_8=>exact Ak rfl hq.2
 case h_9=>
  obtain⟨p',rfl,hp⟩:=Dk h;rw[BR k rfl];refine (BQ t).bind λρ₁ d d' l1 e=>?_;obtain⟨rfl,hd⟩:=e;cases d<;>first|exact Ak hd ht|exact PN t (h.mono l1) (.flat rfl)
 case h_10=>
  obtain⟨p',rfl,hp⟩:=Dk k;rw[BR h rfl];exact PN t k (.flat rfl)
 case h_11=>
  obtain⟨p',rfl,hp⟩:=Dk h;rw[BR k rfl];exact PN t h (.flat rfl)
 case h_12=>
  obtain⟨p',rfl,hp⟩:=Dk h;obtain⟨q',rfl,hq⟩:=Dk k
  cases p' with
  |none=>exact hp.elim
  |some a=>cases q' with
   |none=>exact hq.elim|some b=>exact two _ _ hp hq (λh k=>zC hN _ h k)
 case h_13|h_14|h_15|h_16=>
  obtain⟨p',rfl,hp⟩:=Dk h;obtain⟨q',rfl,hq⟩:=Dk k
  cases p' with
  |none=>exact hp.elim
  |some a=>cases q' with
   |none=>exact hq.elim|some b=>exact two _ _ hp hq (λh k=>zD hN _ h k)
 case h_17|h_18=>
  obtain⟨p',rfl,hp⟩:=Dk h;rw[BR k rfl]
  cases p' with|none=>exact hp.elim|some a=>exact mod _ _ hp
 case h_19=>
  obtain⟨p',rfl,hp⟩:=Dk k;rw[BR h rfl]
  cases p' with|none=>exact hp.elim|some a=>exact mod _ _ hp
def IB (P:BL) (t:Am):Bool:=
 match P.underlying t with|some .bool|some .string=>true|some (.int _)=>true|some (.pointer _)=>true|_=>false
def KD (P:BL) (t:Am) (v:AQ):Bool:=
 match P.underlying t,v with|some (.pointer _),.pointer AB=>true|some (.slice _),.slice AB _ _=>true|some (.map _ _),.map AB=>true|some (.func _ _ _),.nilFunc=>true|some (.interface _),.nilIface=>true|_,_=>false
end
section
variable {T:Twin} {F:Fs} {N:Nat} {ρ:Rn} {α β γ:Type}
theorem Tt(h:KD T.P t y=true):flat y=true:=by
 unfold KD at h;split at h<;>first|rfl|cases h
theorem XK(h:RelA ρ a a'):AY T F N Ej (stringish a) ρ (stringish a'):=by
 unfold stringish;refine (Tq h).bind λρ₁ x y l1 e=>?_;obtain rfl:x=y:=e;cases x
 ·simp only[DF,if_false];refine (Nh (RelA.mono l1 h).1).bind λρ₂ x y l2 e=>?_;obtain rfl:x=y:=e
  cases x with|none=>exact λ_=>rfl|some q=>exact Tq (show RelA ρ₂ {block:=a.block,off:=q.2} {block:=a'.block,off:=q.2} from ⟨l2.r _ _ (l1.r _ _ h.1),rfl,rfl⟩)
 exact λ_=>rfl
theorem uM(h:RelA ρ a a')(k:RelA ρ b b'):AY T F N Ej (mayBeOne a b) ρ (mayBeOne a' b'):=by
 unfold mayBeOne;refine (XK h).bind λρ₁ x y l1 e=>?_;obtain rfl:x=y:=e;refine (XK (RelA.mono l1 k)).bind λρ₂ u v l2 e=>?_;obtain rfl:u=v:=e
 have hn: ∀{ρ':Rn} {c c':Af},RelA ρ' c c'->AY T F N Ej (do pure ((<- shape c.block) matches AA (_,0)):Sem Bool) ρ' (do pure ((<- shape c'.block) matches AA (_,0))):=by
  intro ρ' c c' hc;exact (Nh hc.1).bind λ_ p q _ e=>by obtain rfl:p=q:=e;exact λ_=>rfl
 refine (hn ((RelA.mono l1 h).mono l2)).bind λρ₃ p q l3 e=>?_;obtain rfl:p=q:=e;refine (hn (((RelA.mono l1 k).mono l2).mono l3)).bind λρ₄ r s l4 e=>?_;obtain rfl:r=s:=e;exact λ_=>rfl
theorem uN(h:RelA ρ a a')(k:RelA ρ b b'):AY T F N Ej (sameAddr a b) ρ (sameAddr a' b'):=by
 unfold sameAddr;intro hok;have e1:=RelA.beq hok h k;have e2:=RelA.beq' hok h k;revert hok;simp only[e1,e2];by_cases hc:(a'.block==b'.block)=true
 ·simp only[hc,if_true];exact λ_=>rfl
 simp only[hc,if_false,DF];refine (Tq h).bind λρ₁ x y l1 e=>?_;obtain rfl:x=y:=e;refine (Tq (RelA.mono l1 k)).bind λρ₂ u v l2 e=>?_;obtain rfl:u=v:=e;by_cases hf:(x && u)=true
 ·simp only[hf,if_true];exact λ_=>Ap
 simp only[hf,if_false,DF];have h2:=(RelA.mono l1 h).mono l2;have k2:=(RelA.mono l1 k).mono l2;refine (XH h2).bind λρ₃ _ _ l3 _=>?_;refine (XH (k2.mono l3)).bind λρ₄ _ _ l4 _=>?_;refine (uM ((h2.mono l3).mono l4) ((k2.mono l3).mono l4)).bind λρ₅ p q l5 e=>?_;obtain rfl:p=q:=e;(cases p);exact λ_=>rfl;exact (Ji _).bind λ_ r s _ e=>by obtain rfl:r=s:=e;exact λ_=>rfl
theorem nY(hN:T.P.globals.size<N)(hp:IB T.P t=true\/KD T.P t y=true\/KD T.P t x=true)(h:BC F ρ x x')(k:BC F ρ y y'):
  AY T F N Ej (Op.equal t x y) ρ (Op.equal t x' y'):=by
 have e0:Op.maxDepth=9999+1:=rfl;unfold Op.equal;rw[e0];unfold Op.equalIn;refine (BQ t).bind λρ₁ d d' l1 e=>?_;obtain⟨rfl,hd⟩:=e;have h:=h.mono l1;have k:=k.mono l1;rcases hp with hp|hp|hp
 ·unfold IB at hp;rw[hd] at hp;cases d<;>first|exact Ak (show false=true from hp) AV|skip
  ·
   cases h with
   |flat hf=>cases x<;>first
     |exact λ_=>Ap
     |(cases k with
      |flat hk=>cases y<;>first|exact λ_=>rfl|exact λ_=>Ap
      |_=>exact λ_=>Ap)
   |_=>exact λ_=>Ap
  ·
   split;(all_goals try (exact λ_=>Ap));all_goals try contradiction
   case h_2=>
    rw[BR h rfl,BR k rfl];simp only;split;exact λ_=>rfl;exact λ_=>Ap
   case h_3=>
    obtain⟨p',rfl,hp⟩:=Dk h;rw[BR k rfl]
    cases p' with|none=>exact hp.elim|some a=>exact λ_=>rfl
   case h_4=>
    obtain⟨p',rfl,hp⟩:=Dk k;rw[BR h rfl]
    cases p' with|none=>exact hp.elim|some a=>exact λ_=>rfl
   case h_5=>
    obtain⟨p',rfl,hp⟩:=Dk h;obtain⟨q',rfl,hq⟩:=Dk k
    cases p' with
    |none=>exact hp.elim
    |some a'=>cases q' with
     |none=>exact hq.elim|some b'=>
      refine (Hy hp).bind λρ₂ z z' l2 e=>?_;refine (Hy (RelA.mono l2 hq)).bind λρ₃ u u' l3 e'=>?_;have ha:=e.1.mono l3;have hb:=e'.1;refine CU.bind λρ₄ p p' l4 e=>?_;obtain⟨rfl,rfl⟩:=e;have ha:=ha.mono l4;have hb:=hb.mono l4;intro hok;have e1:=RelA.beq hok ha hb;have e2:=RelA.beq' hok ha hb
      have e3:decide (z.1.block<T.P.globals.size)=decide (z'.1.block<T.P.globals.size):=by
       by_cases hlt:z.1.block<N\/z'.1.block<N;rw[hok.low _ _ ha.1 hlt];(have h1: ¬z.1.block<T.P.globals.size:=by omega);(have h2: ¬z'.1.block<T.P.globals.size:=by omega);simp[h1,h2]
      revert hok;simp only[e1,e2,e3];by_cases hc:(z'.1.block==u'.1.block && decide (z'.1.block<T.P.globals.size))=true
      ·simp only[hc,if_true];refine (LJ ha).bind λρ₅ x x' l5 e=>?_;obtain rfl:x=x':=e;refine (LJ (hb.mono l5)).bind λρ₆ y y' l6 e=>?_;obtain rfl:y=y':=e;exact λ_=>rfl
      simp only[hc,if_false,DF];refine (DD t).bind λρ₅ x x' l5 e=>?_;obtain⟨rfl,_⟩:=e;split
      ·split;exact λ_=>rfl;exact λ_=>Ap
      exact λ_=>Ap
  ·
   cases h with
   |flat hf=>cases x<;>first
     |exact λ_=>Ap
     |(cases k with
      |flat hk=>cases y<;>first|exact λ_=>rfl|exact λ_=>Ap
      |_=>exact λ_=>Ap)
   |_=>exact λ_=>Ap
  ·
   rename_i elem;by_cases hx: ¬ ∃p,x=.pointer p
   ·cases x<;>first|exact λ_=>Ap|exact Ak ⟨_,rfl⟩ hx
   have hx:=yN.1 hx;by_cases hy: ¬ ∃p,y=.pointer p
   ·obtain⟨p,rfl⟩:=hx;cases p<;>cases y<;>first|exact λ_=>Ap|exact Ak ⟨_,rfl⟩ hy
   have hy:=yN.1 hy;obtain⟨p,rfl⟩:=hx;obtain⟨q,rfl⟩:=hy;obtain⟨p',rfl,hp'⟩:=Dk h;obtain⟨q',rfl,hq'⟩:=Dk k;(rcases p with _|a<;>rcases p' with _|a'<;>first|exact hp'.elim|skip);(all_goals rcases q with _|b<;>rcases q' with _|b'<;>first|exact hq'.elim|exact λ_=>rfl|skip);refine (Ef elem).bind λρ₂ z z' l2 e=>?_;obtain rfl:z=z':=e;have ha:RelA ρ₂ a a':=RelA.mono l2 hp';have hb:RelA ρ₂ b b':=RelA.mono l2 hq';by_cases hz:z≠0
   ·simp only[hz,if_true,ne_eq,not_false_eq_true];exact uN ha hb
   simp only[hz,if_false,ne_eq];intro hok;have e2:=RelA.beq' hok ha hb;revert hok;simp only[e2];split;exact λ_=>rfl;exact (Ji _).bind λ_ u v _ e=>by obtain rfl:u=v:=e;exact λ_=>rfl
 ·
  have hk:flat y=true:=Tt hp;rw[BR k hk];clear k hk;unfold KD at hp;rw[hd] at hp;clear hd;split at hp;all_goals try (cases hp;done)
  all_goals
   rename_i heq;(cases heq);clear hp
   cases h<;>first
    |exact λ_=>rfl|exact λ_=>Ap|(rename_i hm;cases x'<;>first|exact Ak (show false=true from hm) AV|exact λ_=>rfl|exact λ_=>Ap)
    |(rename_i hf
      cases x<;>first|exact λ_=>rfl|exact λ_=>Ap|(rename_i a;cases a<;>first|exact λ_=>rfl|exact λ_=>Ap|exact Ak (show false=true from hf) AV)|(rename_i a _ _;cases a<;>first|exact λ_=>rfl|exact λ_=>Ap|exact Ak (show false=true from hf) AV))
 ·
  have hk:flat x=true:=Tt hp;rw[BR h hk];clear h hk;unfold KD at hp;rw[hd] at hp;clear hd;split at hp;all_goals try (cases hp;done)
  all_goals
   rename_i heq;(cases heq);clear hp
   cases k<;>first
    |exact λ_=>rfl|exact λ_=>Ap|(rename_i hm;cases y'<;>first|exact Ak (show false=true from hm) AV|exact λ_=>rfl|exact λ_=>Ap)
    |(rename_i hf
      cases y<;>first|exact λ_=>rfl|exact λ_=>Ap|(rename_i a;cases a<;>first|exact λ_=>rfl|exact λ_=>Ap|exact Ak (show false=true from hf) AV)|(rename_i a _ _;cases a<;>first|exact λ_=>rfl|exact λ_=>Ap|exact Ak (show false=true from hf) AV))
end
end
section
variable {t:Am}{x x' y y':AQ}
section
variable {T:Twin} {F:Fs} {N:Nat} {ρ:Rn} {α β γ:Type}
theorem RV(h:BC F ρ x x'):(∃p,x=.agg p)↔∃p,x'=.agg p:=by
 cases h with
 |tok _ ht=>
  constructor
  ·rintro⟨p,e⟩;cases e
  rintro⟨p,e⟩;subst e;cases ht
 |agg _ _=>exact⟨λ_=>⟨_,rfl⟩,λ_=>⟨_,rfl⟩⟩|flat _=>exact mg|mf _ hm=>
  constructor
  ·rintro⟨p,e⟩;cases e
  rintro⟨p,e⟩;subst e;cases hm
 |_=>
  constructor
  ·rintro⟨p,e⟩;cases e
  rintro⟨p,e⟩;cases e
theorem VT(h:BC F ρ x x'):x=.nilIface↔x'=.nilIface:=by
 cases h with
 |tok _ ht=>
  constructor;intro e;cases e;intro e;subst e;cases ht
 |flat _=>exact mg|mf _ hm=>
  constructor;intro e;cases e;intro e;subst e;cases hm
 |_=>
  constructor;intro e;cases e;intro e;cases e
theorem Me(h:BC F ρ x x')(hf:flat x'=true):x=x':=by
 cases h with
 |tok hc ht hp=>clear hp;cases x'<;>first|exact Ak (show false=true from ht) AV|exact Ak (show false=true from hf) AV|(rename_i a _ _;cases a<;>first|exact Ak (show false=true from ht) AV|exact Ak (show false=true from hf) AV)|(rename_i a;cases a<;>first|exact Ak (show false=true from ht) AV|exact Ak (show false=true from hf) AV)
 |flat _=>rfl|mf _ hm=>cases x'<;>first|exact Ak (show false=true from hm) AV|exact Ak (show false=true from hf) AV
 |_=>exact Ak (show false=true from hf) AV
theorem SN{P:BL}(hp:IB P t=true):P.eqGuardType P.depth t=false:=by
 have e:P.depth=(2*(P.types.size+Made.depth)+1)+1:=rfl;rw[e];unfold Program.eqGuardType;unfold IB at hp
 cases hd:P.underlying t with|none=>rfl|some d=>rw[hd] at hp;cases d<;>first|rfl|exact Ak (show false=true from hp) AV
theorem bC(op:BinOp)(o₁ o₂:DU)(hp:(op=.eql\/op=.neq)->IB T.P t=true\/KD T.P t y=true\/KD T.P t x=true)(h:BC F ρ x x')(k:BC F ρ y y'):
  AY T F N Ej (eqGuard op t o₁ o₂ x y) ρ (eqGuard op t o₁ o₂ x' y'):=by
 by_cases hq: ¬(op=.eql\/op=.neq)
 ·(have: ∀a b,eqGuard op t o₁ o₂ a b=pure ():=λa b=>by cases op<;>first|rfl|exact Ak (.inl rfl) hq|exact Ak (.inr rfl) hq);rw[this,this];exact λ_=>rfl
 have hq:=yN.1 hq;have hp:=hp hq;(have e0:eqGuard op t o₁ o₂=eqGuard .eql t o₁ o₂:=by rcases hq with rfl|rfl<;>rfl);rw[e0];by_cases h1:x=.nilIface/\y=.nilIface
 ·obtain⟨rfl,rfl⟩:=h1;rw[BR h rfl,BR k rfl];simp only[eqGuard,mi,DF,if_false]
  have g:AY T F N Ej (Op.eqGuardIn Op.maxDepth t .nilIface .nilIface) ρ (Op.eqGuardIn Op.maxDepth t .nilIface .nilIface):=by
   have e0:Op.maxDepth=9999+1:=rfl;rw[e0];unfold Op.eqGuardIn;refine (BQ t).bind λρ₁ d d' l1 e=>?_;obtain⟨rfl,_⟩:=e;cases d<;>exact λ_=>rfl
  cases o₁<;>cases o₂<;>first
   |exact λ_=>rfl
   |(refine g.bind λρ₁ a b _ e=>?_
     obtain rfl:a=b:=e;(cases a);exact λ_=>rfl
     exact λ_=>Ap)
 by_cases h2:(∃p,x=.agg p)/\∃p,y=.agg p
 ·obtain⟨⟨p,rfl⟩,⟨q,rfl⟩⟩:=h2;obtain⟨p',rfl⟩:=(RV h).1 ⟨_,rfl⟩;obtain⟨q',rfl⟩:=(RV k).1 ⟨_,rfl⟩
  have hp:IB T.P t=true:=by
   rcases hp with hp|hp|hp;exact hp;exact Ak (show false=true from Tt hp) AV;exact Ak (show false=true from Tt hp) AV
  simp only[eqGuard,mi,DF,if_false];refine CU.bind λρ₁ p p' l1 e=>?_;obtain⟨rfl,rfl⟩:=e;refine CU.bind λρ₂ p p' l1 e=>?_;obtain⟨rfl,rfl⟩:=e;have h1:T.v.eqGuardType T.v.depth t=false:=SN (P:=T.v) hp;have h2:T.P.eqGuardType T.P.depth t=false:=SN hp;simp only[h1,h2,AId,if_true];exact λ_=>rfl
 have h1': ¬(x'=.nilIface/\y'=.nilIface):=λe=>h1 ⟨(VT h).2 e.1,(VT k).2 e.2⟩;have h2': ¬((∃p,x'=.agg p)/\∃p,y'=.agg p):=λe=>h2 ⟨(RV h).2 e.1,(RV k).2 e.2⟩
 have key: ∀a b:AQ,¬(a=.nilIface/\b=.nilIface)->¬((∃p,a=.agg p)/\∃p,b=.agg p)->eqGuard .eql t o₁ o₂ a b=pure ():=by
  intro a b g1 g2;simp only[eqGuard,mi,DF,if_false];split;exact Ak ⟨rfl,rfl⟩ g1;exact Ak ⟨⟨_,rfl⟩,⟨_,rfl⟩⟩ g2;rfl
 rw[key _ _ h1 h2,key _ _ h1' h2'];exact λ_=>rfl
theorem ABe{b:Nat}(hp:IB T.P t=true\/KD T.P t y=true\/KD T.P t (.chan (AA b))=true):Cb T (Op.equal t (.chan (AA b)) y):=by
 have e0:Op.maxDepth=9999+1:=rfl;unfold Op.equal;rw[e0];unfold Op.equalIn;show Cb T ((match T.P.underlying t with|some d=>pure d|none=>stuck "no such type" :Sem TypeDesc).bind _)
 cases hd:T.P.underlying t with
 |none=>exact Ap|some d=>
  rcases hp with hp|hp|hp
  ·unfold IB at hp;rw[hd] at hp;cases d<;>first|exact Ak (show false=true from hp) AV|exact Ap|(cases y<;>first|exact Ap|(rename_i a;cases a<;>exact Ap))
  ·unfold KD at hp;rw[hd] at hp;split at hp;all_goals try (cases hp;done)
   all_goals
    rename_i heq;(cases heq);exact Ap
  unfold KD at hp;rw[hd] at hp;cases d<;>exact Ak (show false=true from hp) AV
theorem zG(hN:T.P.globals.size<N){op:BinOp}(hq:op=.eql\/op=.neq)(hp:IB T.P t=true\/KD T.P t y=true\/KD T.P t x=true)(h:BC F ρ x x')(k:BC F ρ y y'):
  AY T F N (QV F) (binOp op t x y) ρ (binOp op t x' y'):=by
 have heq:=nY hN hp h k
 have nof: ∀{a a':AQ},(∀b,a≠ .chan (AA b))->BC F ρ a a'->(∀k n,a'≠ .float k n)/\(∀k n m,a'≠ .complex k n m):=by
  intro a a' hna ha;constructor
  ·rintro k n rfl
   cases ha with|flat hf=>exact Ak (show false=true from hf) AV|tok _ ht=>exact hna _ rfl|mf _ hm=>cases hm
  rintro k n m rfl
  cases ha with|flat hf=>exact Ak (show false=true from hf) AV|tok _ ht=>exact hna _ rfl|mf _ hm=>cases hm
 have key: ∀a b:AQ,(∀k₁ n k₂ m,¬(a=.int k₁ n/\b=.int k₂ m))->(∀n m,¬(a=.string n/\b=.string m))->(∀k n,a≠ .float k n)->(∀k n m,a≠ .complex k n m)->
   binOp .eql t a b=(do pure (.bool (<- Op.equal t a b)))/\binOp .neq t a b=(do pure (.bool (!(<- Op.equal t a b)))):=by
  intro a b g1 g2 g3 g4;constructor
  ·unfold binOp
   split<;>first
    |rfl|(rename_i e;cases e;done)|exact Ak ⟨rfl,rfl⟩ (g1 _ _ _ _)|exact Ak rfl (g3 _ _)|exact Ak rfl (g4 _ _ _)|exact Ak ⟨rfl,rfl⟩ (g2 _ _)|contradiction|simp_all
  unfold binOp
  split<;>first
   |rfl|exact Ak ⟨rfl,rfl⟩ (g1 _ _ _ _)|exact Ak rfl (g3 _ _)|exact Ak rfl (g4 _ _ _)|exact Ak ⟨rfl,rfl⟩ (g2 _ _)|contradiction|simp_all
 by_cases h1: ∃k₁ n k₂ m,x=.int k₁ n/\y=.int k₂ m
 ·obtain⟨k₁,a,k₂,b,rfl,rfl⟩:=h1;rw[BR h rfl,BR k rfl];rcases hq with rfl|rfl
  ·simp only[binOp];split;exact λ_=>Ap;exact λ_=>.flat rfl
  simp only[binOp];split;exact λ_=>Ap;exact λ_=>.flat rfl
 by_cases h2: ∃n m,x=.string n/\y=.string m
 ·obtain⟨a,b,rfl,rfl⟩:=h2;rw[BR h rfl,BR k rfl];rcases hq with rfl|rfl;exact λ_=>.flat rfl;exact λ_=>.flat rfl
 by_cases hch: ∃b,x=.chan (AA b)
 ·obtain⟨b,rfl⟩:=hch;have e1:=key (.chan (AA b)) y (λ_ _ _ _ e=>by cases e.1) (λ_ _ e=>by cases e.1) (λ_ _ e=>by cases e) (λ_ _ _ e=>by cases e);rcases hq with rfl|rfl;rw[e1.1];exact Ru (ABe hp).bind _;rw[e1.2];exact Ru (ABe hp).bind _
 have nx:(∀k n,x≠ .float k n)/\(∀k n m,x≠ .complex k n m):=by
  constructor
  ·rintro k n rfl
   cases h with|flat hf=>exact Ak (show false=true from hf) AV
  rintro k n m rfl
  cases h with|flat hf=>exact Ak (show false=true from hf) AV
 have e1:=key x y (λa b c d e=>h1 ⟨a,b,c,d,e⟩) (λa b e=>h2 ⟨a,b,e⟩) nx.1 nx.2
 have e2:=key x' y' (λa b c d e=>h1 ⟨a,b,c,d,by obtain⟨rfl,rfl⟩:=e;exact⟨Me h rfl,Me k rfl⟩⟩)
  (λa b e=>h2 ⟨a,b,by obtain⟨rfl,rfl⟩:=e;exact⟨Me h rfl,Me k rfl⟩⟩) (nof (λb e=>hch ⟨b,e⟩) h).1 (nof (λb e=>hch ⟨b,e⟩) h).2
 rcases hq with rfl|rfl
 ·rw[e1.1,e2.1];exact heq.bind λρ₁ a b _ e=>by obtain rfl:a=b:=e;exact λ_=>.flat rfl
 rw[e1.2,e2.2];exact heq.bind λρ₁ a b _ e=>by obtain rfl:a=b:=e;exact λ_=>.flat rfl
end
end
section
variable {fb:Fb}{name:String}{T:Tables}{t:Am}{info:Am->Option Q5}{i:Q5}
theorem Wi{fs:Array Field}(h:Made.reckonStruct info fs=AA i):i.methods= #[]:=by
 unfold Made.reckonStruct at h;simp only[iR,UY,iT] at h;obtain⟨q,_,h⟩:=h;split at h
 all_goals
  simp only[DR] at h;rw[<- h]
theorem jo{d:TypeDesc}(h:Made.reckon info d=AA i):i.methods= #[]:=by
 unfold Made.reckon at h;cases d
 case struct fs=>exact Wi h
 case pointer el=>
  simp only[iR,UY,iT] at h;obtain⟨a,_,h⟩:=h;split at h;cases h
  ·split at h;(cases h);simp only[UY,DR] at h;obtain⟨_,_,h⟩:=h;rw[<- h];rfl
  simp only[UY,DR] at h;obtain⟨_,_,h⟩:=h;rw[<- h];rfl
 case slice=>simp only[iR,UY,iT,DR] at h;obtain⟨_,_,_,_,h⟩:=h;rw[<- h];rfl
 case array=>simp only[iR,UY,iT,DR] at h;obtain⟨_,_,_,_,h⟩:=h;rw[<- h]
 case map=>simp only[iR,UY,iT,DR] at h;obtain⟨_,_,_,_,_,_,_,_,h⟩:=h;rw[<- h];rfl
 case chan=>simp only[iR,UY,iT,DR] at h;obtain⟨_,_,_,_,h⟩:=h;rw[<- h];rfl
 case func=>simp only[iR,UY,iT,DR] at h;obtain⟨_,_,h⟩:=h;rw[<- h];rfl
 all_goals cases h
theorem uO: ∀{n:Nat} {t:Am} {i:Q5},¬t<T.types.size->Made.infoAt T n t=AA i->i.methods= #[]
 |0,_,_,_,h=>by cases h
 |n+1,t,i,ht,h=>by
  unfold Made.infoAt at h;rw[BM ht] at h;obtain⟨d,_,h⟩:=UY.1 h;exact jo h
theorem uP(ht: ¬t<T.types.size)(h:T.info? t=AA i):i.methods= #[]:=by
 unfold Tables.info? at h;rw[BM ht] at h;exact uO ht h
def RX (P:BL) (fb:Fb) (name:String):Bool:=
 (Fv P.types.size).all λt=>
  match P.types[t]? with
  |some i=>match i.methods.find? (·.name==name) with
   |some m=>m.path.all (λs=> !s.deref) && (match m.func with|some (f,ptr)=>((fb f && (fb.a f).isNone) || fb.e f) && (ptr || (m.path.isEmpty && !(match P.underlying t with|some (.pointer _)=>true|_=>false)))|none=>false)
   |none=>true
  |none=>true
section
variable {T:Twin} {F:Fs} {N:Nat} {ρ:Rn} {α β γ:Type}
def KU (T:Twin) (F:Fs) (N:Nat) (f:Array AQ->Sem AQ):Prop:=∀{ρ:Rn} {p p':Array AQ},Az F ρ p p'->AY T F N (QV F) (f p) ρ (f p')
def ABf (fb:Fb) (f:Bj):Prop:=(fb f=true/\fb.a f=AB)\/fb.e f=true
theorem ABg(h:RX T.P fb name=true){m:Method}(hi:T.P.info? t=AA i)(hm:i.methods.find? (·.name==name)=AA m):
  (∀s∈m.path.toList,s.deref=false)/\∃f ptr,m.func=AA (f,ptr)/\ABf fb f/\(ptr=false->m.path.toList=[]/\∀e,T.P.underlying t≠AA (.pointer e)):=by
 by_cases ht:t<T.P.types.size
 ·have h1:T.P.types[t]? =AA i:=by
   (have:T.P.info? t=T.P.types[t]? :=by unfold Tables.info?;rw[BZ ht]);rw[<- this];exact hi
  have h2:=JH.1 h t (XA.2 ht);rw[h1] at h2;simp only[hm,DV] at h2;obtain⟨hp,h3⟩:=h2;refine⟨λs hs=>by have:=VN.1 hp s (yO.1 hs);simpa using this,?_⟩
  cases hf:m.func with
  |none=>rw[hf] at h3;cases h3|some q=>
   obtain⟨f,ptr⟩:=q;rw[hf] at h3;simp only[DV,XB] at h3;refine⟨f,ptr,rfl,h3.1.imp (λh=>⟨h.1,by simpa using h.2⟩) id,λe=>?_⟩;rcases h3.2 with h4|h4;rw[e] at h4;cases h4;refine⟨by simpa[Array.isEmpty_iff] using h4.1,λel hel=>?_⟩;rw[hel] at h4;cases h4.2
 have:=uP ht hi;rw[this] at hm;simp at hm
theorem iy: ∀(l:List FieldStep) (t:Am) {x x':AQ} {ρ:Rn},(∀s∈l,s.deref=false)->BC F ρ x x'->
  AY T F N (λρ (a b:Am×Place)=>a.1=b.1/\(l=[]->a.1=t)/\∃v v',a.2=.val v/\b.2=.val v'/\BC F ρ v v') (follow l t (.val x)) ρ (follow l t (.val x'))
 | [],t,x,x',ρ,_,h=>λ_=>⟨rfl,λ_=>rfl,_,_,rfl,rfl,h⟩
 |s::rest,t,x,x',ρ,hl,h=>by
  unfold follow;refine (BQ s.struct).bind λρ₁ d d' l1 e=>?_;obtain⟨rfl,hd⟩:=e;(cases d<;>first|exact λ_=>Ap|skip);rename_i fields
  cases hfi:fields[s.index]? with
  |none=>simp only[hfi];exact λ_=>Ap|some f=>
   simp only[hfi,hl s (D7 ..),DF,if_false]
   have key: ∀{p p':Array AQ},Az F ρ₁ p p'->AY T F N (λρ (a b:Am×Place)=>a.1=b.1/\(s::rest=[]->a.1=t)/\∃v v',a.2=.val v/\b.2=.val v'/\BC F ρ v v') (do follow rest f.type (.val (<- part f.type p f.offset))) ρ₁ (do follow rest f.type (.val (<- part f.type p' f.offset))):=λhp=>
    (vP f.type hp f.offset).bind λρ₂ v v' l2 hv=>(iy rest f.type (λs hs=>hl s (CO _ hs)) hv).mono λ_ _ _ _ hq=>⟨hq.1,λe=>Ak e AV,hq.2.2⟩
   have h:=h.mono l1
   cases h with
   |flat hf=>cases x<;>first|exact λ_=>Ap|exact Ak (show false=true from hf) AV
   |agg h1 h2=>exact key ⟨h1,h2⟩|_=>exact λ_=>Ap
theorem jA(hm:RX T.P fb name=true): ∀(n:Nat) (t:Am) {x x':AQ} {ρ:Rn},BC F ρ x x'->
  AY T F N (λρ a b=>a.1=b.1/\ABf fb a.1/\BC F ρ a.2 b.2) (method n t x name) ρ (method n t x' name)
 |0,t,x,x',ρ,h=>λ_=>Ap
 |n+1,t,x,x',ρ,h=>by
  unfold method;refine (DD t).bind λρ₁ i i' l1 e=>?_;obtain⟨rfl,hi⟩:=e
  cases hf:i.methods.find? (·.name==name) with
  |none=>exact λ_=>Ap|some m=>
   obtain⟨hp,f,ptr,hfn,hfb,hpt⟩:=ABg hm hi hf;simp only[hfn];refine (iy m.path.toList t hp (h.mono l1)).bind λρ₂ a b l2 hq=>?_;obtain⟨xt,y⟩:=a;obtain⟨xt',y'⟩:=b;obtain⟨e1,e2,v,v',e3,e4,hx⟩:=hq;simp only at e1 e2 e3 e4;subst e1 e3 e4;refine AY.bind (Q:=QV F) ?_ λρ₃ a b l2 hab=>λ_=>⟨rfl,hfb,hab⟩;unfold receiverAt;refine (BQ xt).bind λρ₃ d d' l2 e=>?_;obtain⟨rfl,hd⟩:=e
   cases ptr with
   |true=>
    cases d<;>first|exact λ_=>Ap|exact λ_=>hx.mono l2
   |false=>
    obtain⟨hp0,this⟩:=hpt rfl;rw[e2 hp0] at hd;cases d<;>first|exact Ak hd (this _)|exact λ_=>hx.mono l2
end
end
section
variable {es es':Array Du}{α β:Type}{d:TypeDesc}{t:Am}{k k' x x' y y':AQ}
def XL (P:BL) (t:Am):Bool:=
 match P.underlying t with|some .string|some (.int _)|some (.pointer _)=>true|_=>false
def XM (P:BL) (t:Am):Bool:=
 match P.underlying t with|some (.map k e)=>XL P k && Hw P e|_=>false
theorem XL.plain{P:BL}(h:XL P t=true):IB P t=true:=by
 unfold XL at h;unfold IB
 cases hd:P.underlying t with|none=>rw[hd] at h;cases h|some d=>rw[hd] at h;cases d<;>first|rfl|exact Ak (show false=true from h) AV
section
variable {T:Twin} {F:Fs} {N:Nat} {ρ:Rn} {α β γ:Type}
theorem QG(b b':Bool)(h:XL T.P t=true)(x x':AQ):AY T F N Ej (Ut b 10000 t x) ρ (Ut b' 10000 t x'):=by
 have e0:(10000:Nat)=9999+1:=rfl;rw[e0];unfold Ut;refine (BQ t).bind λρ₁ d d' l1 e=>?_;obtain⟨rfl,hd⟩:=e;unfold XL at h;rw[hd] at h;cases d<;>first|exact Ak (show false=true from h) AV|exact λ_=>rfl
def QK (F:Fs) (ρ:Rn) (x y:Option (Nat×AQ)):Prop:=match x,y with
 |some p,AA q=>p.1=q.1/\BC F ρ p.2 q.2|none,AB=>True|_,_=>False
theorem QH(h:BC F ρ x x'):flat x'=true->flat x=true:=λhf=>by rw[Me h hf];exact hf
theorem QX(h:flat x=false\/flat y=false):aQ d x y=AB:=by
 unfold aQ;split<;>first|rfl|(rcases h with h|h<;>cases h)
theorem zH(h:BC F ρ x x')(k:BC F ρ y y'):aQ d x y=aQ d x' y':=by
 by_cases hx:flat x=true
 ·by_cases hy:flat y=true;rw[BR h hx,BR k hy];rw[QX (.inr (by simpa using hy)),QX (.inr (by cases e:flat y' with|false=>rfl|true=>exact Ak (QH k e) hy))]
 rw[QX (.inl (by simpa using hx)),QX (.inl (by cases e:flat x' with|false=>rfl|true=>exact Ak (QH h e) hx))]
def nZ (x y:AQ):Prop:=flat x=true\/flat y=true\/∃p q,x=.pointer p/\y=.pointer q
def QKi (F:Fs) (k:AQ) (l:List Du) (i:Nat) (ρ:Rn) (x y:Option (Nat×AQ)):Prop:=QK F ρ x y/\∀p,x=AA p->i<=p.1/\∃e,l[p.1 - i]? =AA e/\nZ k e.key
theorem QKi.cons{k:AQ}{e:Du}{l:List Du}{i:Nat}{x y:Option (Nat×AQ)}(h:QKi F k l (i+1) ρ x y):QKi F k (e::l) i ρ x y:=
 ⟨h.1,λp hp=>by
  obtain⟨h1,h2⟩:=h.2 p hp;refine⟨Aa,?_⟩;rw[show p.1 - i=p.1 - (i+1)+1 by omega]
  exact h2⟩
theorem zI(hk:BC F ρ k k'): ∀{l l':List Du},Cm (F9 F ρ) l l'->∀i,
  (Uu d k l i=AB/\Uu d k' l' i=AB)\/∃r r',Uu d k l i=AA r/\Uu d k' l' i=AA r'/\QKi F k l i ρ r r':=by
 intro l l' h
 induction h with
 |nil=>intro i;exact .inr ⟨AB,AB,rfl,rfl,Ap,λp hp=>by cases hp⟩
 | @cons e e' l l' ha _ ih=>
  intro i;unfold Uu;rw[<- zH hk ha.key]
  cases hn:aQ d k e.key with
  |none=>exact .inl ⟨rfl,rfl⟩|some x=>
   cases x
   ·exact (ih (i+1)).imp id λ⟨r,r',h1,h2,h3⟩=>⟨r,r',h1,h2,h3.cons⟩
   refine .inr ⟨_,_,rfl,rfl,⟨rfl,ha.val⟩,λp hp=>?_⟩;(cases hp);refine⟨Bc _,e,AV,.inl ?_⟩
   cases hf:flat k with|true=>rfl|false=>rw[QX (.inl hf)] at hn;cases hn
theorem ABh(ht:IB T.P t=true)(h: ¬nZ x y):Cb T (Op.equal t x y):=by
 have e0:Op.maxDepth=9999+1:=rfl;unfold Op.equal;rw[e0];unfold Op.equalIn;show Cb T ((match T.P.underlying t with|some d=>pure d|none=>stuck "no such type" :Sem TypeDesc).bind _)
 cases hd:T.P.underlying t with
 |none=>exact Ap|some d=>
  unfold IB at ht;rw[hd] at ht;(have h1:flat x=false:=by cases e:flat x with|false=>rfl|true=>exact Ak (.inl e) h);(have h2:flat y=false:=by cases e:flat y with|false=>rfl|true=>exact Ak (.inr (.inl e)) h);cases d<;>first|exact Ak (show false=true from ht) AV|skip
  all_goals
   cases x<;>first|exact Ak (show true=false from h1) AV|exact Ap|skip
  all_goals
   rename_i a;cases a<;>first|exact Ak (show true=false from h1) AV|skip
  all_goals
   cases y<;>first|exact Ak (show true=false from h2) AV|exact Ap|exact Ak (.inr (.inr ⟨_,_,rfl,rfl⟩)) h
theorem F9.mono{ρ':Rn}(h:ρ.le ρ'){e e':Du}(k:F9 F ρ e e'):F9 F ρ' e e':=⟨k.key.mono h,k.val.mono h,k.born⟩
theorem jq(hN:T.P.globals.size<N)(ht:IB T.P t=true): ∀{l l':List Du} {ρ:Rn} {k k':AQ},BC F ρ k k'->Cm (F9 F ρ) l l'->∀i,
  AY T F N (QKi F k l i) (uA t k l i) ρ (uA t k' l' i):=by
 intro l
 induction l with
 |nil=>intro l' ρ k k' hk h i;cases h;exact λ_=>⟨Ap,λp hp=>by cases hp⟩
 |cons e l ih=>
  intro l' ρ k k' hk h i
  cases h with|cons ha hl=>
  unfold uA;by_cases hg:nZ k e.key
  ·refine (nY hN (.inl ht) hk ha.key).bind λρ₁ x y l1 e=>?_;obtain rfl:x=y:=e;(cases x);exact (ih (hk.mono l1) (CW (λ_ _=>F9.mono l1) hl) _).mono λ_ _ _ _ h=>h.cons;refine λ_=>⟨⟨rfl,ha.val.mono l1⟩,λp hp=>?_⟩;(cases hp);exact⟨Bc _,e,AV,hg⟩
  exact Ru (Cb.bind (ABh ht hg)) _
theorem VU(hN:T.P.globals.size<N)(ht:XL T.P t=true)(hk:BC F ρ k k'){l l':List Du}(h:Cm (F9 F ρ) l l'):
  AY T F N (QKi F k l 0) (YH t k l) ρ (YH t k' l'):=by
 unfold YH;refine (BQ t).bind λρ₁ d d' l1 e=>?_;obtain⟨rfl,hd⟩:=e;have hk:=hk.mono l1;have h:=CW (λ_ _=>F9.mono l1) h;rcases zI (d:=d) hk h 0 with ⟨e1,e2⟩|⟨r,r',e1,e2,hr⟩
 ·rw[e1,e2];exact jq hN (XL.plain ht) hk h 0
 rw[e1,e2];exact λ_=>hr
theorem AHB{R:α->β->Prop}{l:List α}{l':List β}(h:l.length=l'.length)(k: ∀(i:Nat) (a:α) (b:β),l[i]? =AA a->l'[i]? =AA b->R a b):Cm R l l':=by
 induction l generalizing l' with
 |nil=>cases l' with
  |nil=>exact .nil|cons b l'=>simp at h
 |cons a l ih=>cases l' with
  |nil=>simp at h|cons b l'=>exact .cons (k 0 a b rfl rfl) (ih (by simpa using h) λi x y h1 h2=>k (i+1) x y h1 h2)
theorem ND(hs:es.size=es'.size)(he: ∀(i:Nat) (e e':Du),es[i]? =AA e->es'[i]? =AA e'->F9 F ρ e e'):Cm (F9 F ρ) es.toList es'.toList:=
 AHB (by simpa using hs) λi a b h1 h2=>he i a b (by simpa using h1) (by simpa using h2)
theorem YR{R:α->β->Prop}{l:List α}{l':List β}(h:Cm R l l'):l.length=l'.length:=by
 induction h with|nil=>rfl|cons _ _ ih=>simp[ih]
theorem AMD(hs:es.size=es'.size)(he: ∀(i:Nat) (e e':Du),es[i]? =AA e->es'[i]? =AA e'->F9 F ρ e e'){g g':Du->Du}
  (hg: ∀e e',F9 F ρ e e'->F9 F ρ (g e) (g' e')) (j:Nat):(es.modify j g).size=(es'.modify j g').size/\∀(i:Nat) (e e':Du),(es.modify j g)[i]? =AA e->(es'.modify j g')[i]? =AA e'->F9 F ρ e e':=by
 refine⟨by simp[hs],λi e e' h1 h2=>?_⟩;rw[Lj] at h1 h2;split at h1
 ·rename_i hj;rw[BZ hj] at h2;obtain⟨a,ha,rfl⟩:=J9.1 h1;obtain⟨b,hb,rfl⟩:=J9.1 h2;exact hg _ _ (he _ _ _ ha hb)
 rename_i hj;rw[BM hj] at h2;exact he _ _ _ h1 h2
theorem AIn(hs:es.size=es'.size)(he: ∀(i:Nat) (e e':Du),es[i]? =AA e->es'[i]? =AA e'->F9 F ρ e e'){a a':Du}(ha:F9 F ρ a a'):
  (es.push a).size=(es'.push a').size/\∀(i:Nat) (e e':Du),(es.push a)[i]? =AA e->(es'.push a')[i]? =AA e'->F9 F ρ e e':=by
 refine⟨by simp[hs],λi e e' h1 h2=>?_⟩;rw[AM6] at h1 h2;rw[<- hs] at h2;split at h1
 ·rename_i hj;rw[BZ hj] at h2;cases h1;cases h2;exact ha
 rename_i hj;rw[BM hj] at h2;exact he _ _ _ h1 h2
theorem ABi(hN:T.P.globals.size<N)(ht:XM T.P t=true)(h:BC F ρ x x')(hk:BC F ρ k k')(c:Bool):
  AY T F N (QV F) (P7 t x k c) ρ (P7 t x' k' c):=by
 unfold P7;refine (BQ t).bind λρ₁ d d' l1 e=>?_;obtain⟨rfl,hd⟩:=e;unfold XM at ht;rw[hd] at ht;have h:=h.mono l1;have hk:=hk.mono l1;(cases d<;>first|exact Ak (show false=true from ht) AV|skip);rename_i key elem;simp only[DV] at ht
 have rest: ∀{ρ':Rn} {es es':Array Du} {k k':AQ},BC F ρ' k k'->es.size=es'.size->(∀(i:Nat) (e e':Du),es[i]? =AA e->es'[i]? =AA e'->F9 F ρ' e e')->
   AY T F N (QV F) (Ut es.isEmpty 10000 key k>>=λ_=>YH key k es.toList>>=λr=>match r with|some (_,v)=>pure (if c then .tuple #[v,.bool true] else v)|none=>GY elem>>=λz=>pure (if c then .tuple #[z,.bool false] else z)) ρ'
    (Ut es'.isEmpty 10000 key k'>>=λ_=>YH key k' es'.toList>>=λr=>match r with|some (_,v)=>pure (if c then .tuple #[v,.bool true] else v)|none=>GY elem>>=λz=>pure (if c then .tuple #[z,.bool false] else z)):=by
  intro ρ' es es' k k' hk hs he;refine (QG _ _ ht.1 k k').bind λρ₂ _ _ l2 _=>?_;refine (VU hN ht.1 (hk.mono l2) (CW (λ_ _=>F9.mono l2) (ND hs he))).bind λρ₃ r r' l3 hr=>?_;have hr:=hr.1
  have fin: ∀{ρ:Rn} {v v':AQ} (b:Bool),BC F ρ v v'->BC F ρ (if c then .tuple #[v,.bool b] else v) (if c then .tuple #[v',.bool b] else v'):=by
   intro ρ v v' b hv;(cases c);exact hv;exact .tuple rfl (Az.push (Az.one hv) (.flat rfl)).2
  rcases r with _|⟨i,v⟩<;>rcases r' with _|⟨i',v'⟩<;>first|exact hr.elim|skip
  ·exact (OX elem ht.2).bind λ_ z z' _ e=>λ_=>fin _ (by rw[<- e.1];exact e.2)
  exact λ_=>fin _ hr.2
 cases h with
 |flat hf=>
  (cases x<;>first|exact λ_=>Ap|exact Ak (show false=true from hf) AV|skip);rename_i m;(cases m<;>first|exact Ak (show false=true from hf) AV|skip);exact rest (es:=#[]) (es':=#[]) hk rfl (λi e e' h1=>by simp at h1)
 |map hb=>
  intro hok;refine⟨hb,λo o' ho=>?_⟩
  cases ho with|map hs he=>exact rest hk hs he hok|_=>exact Ap
 |_=>exact λ_=>Ap
theorem AIo(hs:es.size=es'.size){i:Nat}{e:Du}(h:es[i]? =AA e): ∃e',es'[i]? =AA e':=
 ⟨es'[i]'(by have:=(Dj.1 h).1;omega),Fa _⟩
theorem bD(n:Nat)(hx:flat x=true)(hy:flat y=false):Q9 (n+1) y x=false/\Q9 (n+1) x y=false:=by
 (cases x<;>first|exact Ak (show false=true from hx) AV|skip);all_goals cases y<;>first|exact Ak (show true=false from hy) AV|exact⟨rfl,rfl⟩|skip
 all_goals
  rename_i a b;(cases a<;>first|exact Ak (show false=true from hx) AV|skip);cases b<;>first|exact Ak (show true=false from hy) AV|exact⟨rfl,rfl⟩
theorem XN(n:Nat)(hf:flat x=true)(k:BC F ρ y y'):Q9 (n+1) y x=Q9 (n+1) y' x/\Q9 (n+1) x y=Q9 (n+1) x y':=by
 by_cases hy:flat y=true;rw[BR k hy];exact⟨rfl,rfl⟩;have h1:=bD n hf (show flat y=false by simpa using hy);have h2:=bD n hf (show flat y'=false by cases e:flat y' with|false=>rfl|true=>exact Ak (QH k e) hy);rw[h1.1,h1.2,h2.1,h2.2];exact⟨rfl,rfl⟩
theorem uQ(hok:ρ.Ok N)(hg:nZ x y)(h:BC F ρ x x')(k:BC F ρ y y'):Q9 10000 y x=Q9 10000 y' x':=by
 have e0:(10000:Nat)=9999+1:=rfl;rw[e0];rcases hg with hf|hf|⟨p,q,rfl,rfl⟩;rw[BR h hf];exact (XN _ hf k).1;rw[BR k hf];exact (XN _ hf h).2;obtain⟨p',rfl,hp⟩:=Dk h;obtain⟨q',rfl,hq⟩:=Dk k;(rcases p with _|a<;>rcases p' with _|a'<;>first|exact hp.elim|skip);(all_goals rcases q with _|b<;>rcases q' with _|b'<;>first|exact hq.elim|exact rfl|skip);have:=RelA.beq' hok hq hp;simp only[Q9];show (AA b==AA a)=(AA b'==AA a');simpa using this
theorem bF(hg:nZ x y)(h:BC F ρ x x')(k:BC F ρ y y'):AY T F N (QV F) (ABK y x) ρ (ABK y' x'):=by
 intro hok;have e:=uQ hok hg h k;revert hok;unfold ABK;rw[e];split;exact λ_=>h;refine (Ji _).bind λρ₁ a b l1 e=>?_;obtain rfl:a=b:=e;split;exact λ_=>h.mono l1;exact λ_=>k.mono l1
theorem QY{b b' c:Nat}(h:ρ.r b b')(he:es.size=es'.size/\∀(i:Nat) (e e':Du),es[i]? =AA e->es'[i]? =AA e'->F9 F ρ e e'):
  AY T F N Ej (I8 b (.map es c)) ρ (I8 b' (.map es' c)):=λ_=>⟨h,.map he.1 he.2,rfl,⟨(λ_ _ _ e=>by cases e),rfl⟩⟩
theorem ng(hN:T.P.globals.size<N)(ht:XM T.P t=true){z z':AQ}(h:BC F ρ x x')(hk:BC F ρ k k')(hz:BC F ρ z z'):
  AY T F N Ej (iU t x k z) ρ (iU t x' k' z'):=by
 unfold iU;refine (BQ t).bind λρ₁ d d' l1 e=>?_;obtain⟨rfl,hd⟩:=e;unfold XM at ht;rw[hd] at ht;have h:=h.mono l1;have hk:=hk.mono l1;have hz:=hz.mono l1;(cases d<;>first|exact Ak (show false=true from ht) AV|skip);rename_i key elem;simp only[DV] at ht
 cases h with
 |flat hf=>
  (cases x<;>first|exact λ_=>Ap|exact Ak (show false=true from hf) AV|skip);rename_i m;cases m<;>first|exact Ak (show false=true from hf) AV|exact Bo (e:=.plain _) trivial
 |map hb=>
  rename_i b b';intro hok;refine⟨hb,λo o' ho=>?_⟩
  cases ho with
  |map hs he=>
   refine (AY.bind (QG _ _ ht.1 k k') λρ₂ _ _ l2 _=>?_) hok;refine (VU hN ht.1 (hk.mono l2) (CW (λ_ _=>F9.mono l2) (ND hs he))).bind λρ₃ r r' l3 hr=>?_;rcases r with _|⟨i,v⟩<;>rcases r' with _|⟨i',v'⟩<;>first|exact hr.1.elim|skip
   ·exact QY (l3.r _ _ (l2.r _ _ hb)) (AIn hs (λi e e' h1 h2=>((he i e e' h1 h2).mono l2).mono l3) ⟨(hk.mono l2).mono l3,(hz.mono l2).mono l3,rfl⟩)
   obtain⟨⟨e1,_⟩,e2⟩:=hr;simp only at e1;subst e1;obtain⟨_,e,h1,hg⟩:=e2 _ rfl;simp only[Nat.sub_zero,ZQ] at h1;obtain⟨e',h2⟩:=AIo hs h1;have hk:=(hk.mono l2).mono l3;have he: ∀(i:Nat) (e e':Du),_->_->F9 F ρ₃ e e':=λi e e' h1 h2=>((he i e e' h1 h2).mono l2).mono l3;simp only[h1,h2,Fq,Dx];refine (bF hg hk (he _ _ _ h1 h2).key).bind λρ₄ a a' l4 ha=>?_;exact QY (l4.r _ _ (l3.r _ _ (l2.r _ _ hb))) (AMD (g:=λe=>{key:=a,val:=z,born:=e.born}) (g':=λe=>{key:=a',val:=z',born:=e.born}) hs (λi e e' h1 h2=>(he i e e' h1 h2).mono l4) (λx y hxy=>⟨ha,((hz.mono l2).mono l3).mono l4,hxy.born⟩) _)
  |_=>exact Ap
 |_=>exact λ_=>Ap
theorem XO{o o':Obj}(h:Gw F ρ o o'):AY T F N (λρ a b=>ρ.r a b) (newObj o) ρ (newObj o'):=λ_=>.inr ⟨h,λ_ _ _=>.inr ⟨rfl,rfl⟩⟩
theorem zJ(t:Am):AY T F N (QV F) (Instr.makeMap t AB) ρ (Instr.makeMap t AB):=
 (XO (.map rfl λi e e' h=>by simp at h)).bind λ_ _ _ _ hb=>λ_=>.map hb
theorem AEH(h:BC F ρ x x'):AY T F N (QV F) (Instr.range t x) ρ (Instr.range t x'):=by
 unfold Instr.range;refine (BQ t).bind λρ₁ d d' l1 e=>?_;obtain⟨rfl,hd⟩:=e;have h:=h.mono l1
 have fin: ∀{ρ:Rn} {o o':Obj},Gw F ρ o o'->AY T F N (QV F) (newObj o>>=λb=>pure (.pointer (AA ⟨b,0,AB⟩)):Sem AQ) ρ (newObj o'>>=λb=>pure (.pointer (AA ⟨b,0,AB⟩))):=
  λho=>(XO ho).bind λ_ _ _ _ hb=>λ_=>.ptr ⟨hb,rfl,rfl⟩
 cases h with
 |flat hf=>
  (cases x<;>first|exact Ak (show false=true from hf) AV|skip);(all_goals cases d<;>first|exact λ_=>Ap|exact fin .stringIter|skip);rename_i a _ _;cases a<;>first|exact Ak (show false=true from hf) AV|exact fin .Le
 |map hb=>
  (cases d<;>first|exact λ_=>Ap|skip);intro hok;refine⟨hb,λo o' ho=>?_⟩
  cases ho with|map=>exact fin (.mapIter hb) hok|_=>exact Ap
 |_=>cases d<;>exact λ_=>Ap
theorem ABj{R:α->β->Prop}{l:List α}{l':List β}(h:Cm R l l'): ∀(i:Nat) (a:α) (b:β),l[i]? =AA a->l'[i]? =AA b->R a b:=by
 induction h with
 |nil=>intro i a b h1;simp at h1
 |cons ha _ ih=>intro i a b h1 h2;cases i with
  |zero=>simp only[WG,DR] at h1 h2;subst h1 h2;exact ha|succ i=>exact ih i a b (by simpa using h1) (by simpa using h2)
theorem Y6(h:Cm (F9 F ρ) es.toList es'.toList):es.size=es'.size/\∀(i:Nat) (e e':Du),es[i]? =AA e->es'[i]? =AA e'->F9 F ρ e e':=
 ⟨by simpa using YR h,λi e e' h1 h2=>ABj h i e e' (by simpa using h1) (by simpa using h2)⟩
theorem ABk{R:α->β->Prop}{l:List α}{l':List β}(h:Cm R l l'): ∀i,Cm R (l.eraseIdx i) (l'.eraseIdx i):=by
 induction h with
 |nil=>intro i;exact .nil
 |cons ha hl ih=>intro i;cases i with
  |zero=>exact hl|succ i=>exact .cons ha (ih i)
theorem VV{R:α->β->Prop}{p:α->Bool}{q:β->Bool}(hpq: ∀a b,R a b->p a=q b){l:List α}{l':List β}(h:Cm R l l'):Cm R (l.filter p) (l'.filter q):=by
 induction h with
 |nil=>exact .nil|cons ha _ ih=>
  simp only[XC,hpq _ _ ha];split;exact .cons ha ih;exact ih
theorem vS{R:α->β->Prop}{l m:List α}{l' m':List β}(h:Cm R l l')(k:Cm R m m'):Cm R (l++m) (l'++m'):=by
 induction h with|nil=>exact k|cons ha _ ih=>exact .cons ha ih
theorem AHC{γ δ:Type}{R:α->β->Prop}{S:γ->δ->Prop}{f:α->γ}{g:β->δ}(hfg: ∀a b,R a b->S (f a) (g b)){l:List α}{l':List β}(h:Cm R l l'):Cm S (l.map f) (l'.map g):=by
 induction h with|nil=>exact .nil|cons ha _ ih=>exact .cons (hfg _ _ ha) ih
theorem ABl(hN:T.P.globals.size<N){u ty:Am}(ht:XM T.P t=true)(h:BC F ρ x x')(hk:BC F ρ k k'):
  AY T F N (QV F) (uB #[t,u] ty #[x,k]) ρ (uB #[t,u] ty #[x',k']):=by
 unfold uB;show AY T F N (QV F) (underlying t>>=_) ρ (underlying t>>=_);refine (BQ t).bind λρ₁ d d' l1 e=>?_;obtain⟨rfl,hd⟩:=e;unfold XM at ht;rw[hd] at ht;have h:=h.mono l1;have hk:=hk.mono l1;(cases d<;>first|exact Ak (show false=true from ht) AV|skip);rename_i key elem;simp only[DV] at ht;have over: ∀{ρ:Rn},AY T F N (QV F) (pure (.tuple #[]):Sem AQ) ρ (pure (.tuple #[])):=λ_=>.undef
 cases h with
 |flat hf=>
  (cases x<;>first|exact λ_=>Ap|exact Ak (show false=true from hf) AV|skip);rename_i m;(cases m<;>first|exact Ak (show false=true from hf) AV|skip);exact (QG _ _ ht.1 k k').bind λ_ _ _ _ _=>over
 |map hb=>
  intro hok;refine⟨hb,λo o' ho=>?_⟩
  cases ho with
  | @map es es' c hs he=>
   refine (AY.bind (QG _ _ ht.1 k k') λρ₂ _ _ l2 _=>?_) hok;have ha:=CW (λ_ _=>F9.mono l2) (ND hs he);refine (VU hN ht.1 (hk.mono l2) ha).bind λρ₃ r r' l3 hr=>?_;have ha:=CW (λ_ _=>F9.mono l3) ha;have hb:=l3.r _ _ (l2.r _ _ hb);(rcases r with _|⟨i,v⟩<;>rcases r' with _|⟨i',v'⟩<;>first|exact hr.1.elim|skip);exact (QY hb (Y6 ha)).bind λ_ _ _ _ _=>over;obtain⟨⟨e1,_⟩,_⟩:=hr;simp only at e1;subst e1;refine (QY hb (Y6 ?_)).bind λ_ _ _ _ _=>over;simp only[Array.toList_eraseIdxIfInBounds];exact ABk ha _
  |_=>exact Ap
 |_=>exact λ_=>Ap
def QE (F:Fs) (ρ:Rn) (x y:Option Du):Prop:=match x,y with
 |some e,AA e'=>F9 F ρ e e'|none,AB=>True|_,_=>False
def Jq (es:Array Du) (seen:Array Nat) (since:Nat):Array (Option Du):=
 (if ((es.filter λe=> !seen.contains e.born).filter λe=>decide (e.born<since)).isEmpty=true then #[AB] else #[])++
  (((es.filter λe=> !seen.contains e.born).filter λe=>decide (e.born<since))++((es.filter λe=> !seen.contains e.born).filter λe=>decide (e.born≥since))).map AA
def stale (es:Array Du) (seen:Array Nat) (last:Nat):Bool:= !seen.isEmpty && !es.isEmpty && es.all λe=>decide (e.born≥last)
theorem AHD{R:α->β->Prop}{p:α->Bool}{q:β->Bool}(hpq: ∀a b,R a b->p a=q b){l:List α}{l':List β}(h:Cm R l l'):l.all p=l'.all q:=by
 induction h with|nil=>rfl|cons ha _ ih=>simp only[List.all_cons,hpq _ _ ha,ih]
theorem AEI(h:Cm (F9 F ρ) es.toList es'.toList)(seen:Array Nat)(last:Nat):stale es seen last=stale es' seen last:=by
 have h1:es.size=es'.size:=by simpa using YR h
 have h2:es.all (λe=>decide (e.born≥last))=es'.all λe=>decide (e.born≥last):=by
  rw[<- Array.all_toList,<- Array.all_toList];exact AHD (λa b hab=>by rw[hab.born]) h
 unfold stale;rw[h2];simp only[Array.isEmpty,h1]
theorem AEJ(h:Cm (F9 F ρ) es.toList es'.toList)(seen:Array Nat)(since:Nat):Cm (QE F ρ) (Jq es seen since).toList (Jq es' seen since).toList:=by
 have hl:Cm (F9 F ρ) (es.filter λe=> !seen.contains e.born).toList (es'.filter λe=> !seen.contains e.born).toList:=by
  simp only[eY];exact VV (λa b hab=>by rw[hab.born]) h
 have ho:Cm (F9 F ρ) ((es.filter λe=> !seen.contains e.born).filter λe=>decide (e.born<since)).toList ((es'.filter λe=> !seen.contains e.born).filter λe=>decide (e.born<since)).toList:=by
  simp only[eY] at hl⊢;exact VV (λa b hab=>by rw[hab.born]) hl
 have hn:Cm (F9 F ρ) ((es.filter λe=> !seen.contains e.born).filter λe=>decide (e.born≥since)).toList ((es'.filter λe=> !seen.contains e.born).filter λe=>decide (e.born≥since)).toList:=by
  simp only[eY] at hl⊢;exact VV (λa b hab=>by rw[hab.born]) hl
 unfold Jq;revert ho hn;generalize (aS (λe=>decide (e.born<since)) (aS (λe=> !seen.contains e.born) es))=o;generalize (aS (λe=>decide (e.born<since)) (aS (λe=> !seen.contains e.born) es'))=o';generalize (aS (λe=>decide (e.born≥since)) (aS (λe=> !seen.contains e.born) es))=n;generalize (aS (λe=>decide (e.born≥since)) (aS (λe=> !seen.contains e.born) es'))=n';intro ho hn
 have e0:o.isEmpty=o'.isEmpty:=by
  (have:o.size=o'.size:=by simpa using YR ho);simp[Array.isEmpty,this]
 rw[e0];simp only[AIe,ZR];refine vS ?_ (AHC (R:=F9 F ρ) (S:=QE F ρ) (f:=AA) (g:=AA) (λ_ _ h=>h) (vS ho hn));split;exact .cons trivial .nil;exact .nil
theorem AHE(h:BC F ρ x x')(s:Bool)(t:Am):AY T F N (QV F) (Instr.next x s t) ρ (Instr.next x' s t):=by
 unfold Instr.next;have over: ∀{ρ:Rn},AY T F N (QV F) (pure (.tuple #[.bool false]):Sem AQ) ρ (pure (.tuple #[.bool false])):=λ_=>.tuple rfl (Az.one (.flat rfl)).2
 cases h with
 |flat hf=>cases x<;>first|exact λ_=>Ap|(rename_i p;cases p<;>first|exact λ_=>Ap|exact Ak (show false=true from hf) AV)
 | @ptr a a' ha=>
  obtain⟨r,off,sp⟩:=a;obtain⟨r',off',sp'⟩:=a';obtain⟨hr,h1,h2⟩:=ha;simp only at hr h1 h2;subst h1 h2
  cases off' with|succ n=>exact λ_=>Ap|zero=>
  intro hok;refine⟨hr,λo o' ho=>?_⟩
  cases ho with
  | @stringIter z k=>
   (cases s);exact Ap
   have key:AY T F N (QV F) (if k<z.size then I8 r (.stringIter z (k+(Utf8.decode z k).2))>>=λ_=>pure (.tuple #[.bool true,goInt k,.int .i32 (Utf8.decode z k).1]) else pure (.tuple #[.bool false]):Sem AQ) ρ
     (if k<z.size then I8 r' (.stringIter z (k+(Utf8.decode z k).2))>>=λ_=>pure (.tuple #[.bool true,goInt k,.int .i32 (Utf8.decode z k).1]) else pure (.tuple #[.bool false])):=by
    split
    ·refine AY.bind (Q:=Ej) (λ_=>⟨hr,.stringIter,rfl,⟨(λ_ _ _ e=>by cases e),rfl⟩⟩) λ_ _ _ _ _=>λ_=>.tuple rfl (Az.push (Az.push (Az.one (.flat rfl)) (.flat rfl)) (.flat rfl)).2
    exact over
   exact key hok
  |Le=>cases s<;>first|exact Ap|exact over hok
  | @mapIter b b' since last seen hb=>
   cases s
   ·refine (show DT T F N (QV F) (getObj b>>=_) ρ (getObj b'>>=_) from ?_);refine⟨hb,λo o' ho=>?_⟩
    cases ho with
    | @map es es' c hs he=>
     have ha:=ND hs he
     have body:AY T F N (QV F) (choose (.mapNext (Jq es seen since).size)>>=λn=>match (Jq es seen since)[n]? with
       |some (AA e)=>I8 r (.mapIter (AA b) since (seen.push e.born) c)>>=λ_=>pure (.tuple #[.bool true,e.key,e.val])|some AB=>pure (.tuple #[.bool false])
       |none=>stuck "Next: no such candidate" :Sem AQ) ρ
       (choose (.mapNext (Jq es' seen since).size)>>=λn=>match (Jq es' seen since)[n]? with|some (AA e)=>I8 r' (.mapIter (AA b') since (seen.push e.born) c)>>=λ_=>pure (.tuple #[.bool true,e.key,e.val])|some AB=>pure (.tuple #[.bool false])|none=>stuck "Next: no such candidate"):=by
      have hc:=AEJ ha seen since;(have hz:(Jq es seen since).size=(Jq es' seen since).size:=by simpa using YR hc);rw[hz];refine (Ji _).bind λρ₁ n n' l1 e=>?_;obtain rfl:n=n':=e
      cases h1:(Jq es seen since)[n]? with
      |none=>exact λ_=>Ap|some q=>
       have hn:=(Dj.1 h1).1;obtain⟨q',h2⟩: ∃q',(Jq es' seen since)[n]? =AA q':=⟨_,Fa Aa⟩;have hq:=ABj hc n _ _ (by simpa using h1) (by simpa using h2);rw[h2];(rcases q with _|e<;>rcases q' with _|e'<;>first|exact hq.elim|skip);exact over;have hq:F9 F ρ e e':=hq;simp only[hq.born];refine AY.bind (Q:=Ej) (λ_=>⟨l1.r _ _ hr,.mapIter (l1.r _ _ hb),rfl,⟨(λ_ _ _ e=>by cases e),rfl⟩⟩) λρ₂ _ _ l2 _=>λ_=>.tuple rfl (Az.push (Az.push (Az.one (.flat rfl)) (((hq.mono l1).mono l2).key)) (((hq.mono l1).mono l2).val)).2
     have e0:=AEI ha seen last
     have key:AY T F N (QV F) (if stale es seen last=true then unsupported (.noEntry "instr/Next: every entry that the ranged map held at the last iteration is gone, and it holds new ones")>>=λ(_:Unit)=>choose (.mapNext (Jq es seen since).size)>>=λn=>match (Jq es seen since)[n]? with
       |some (AA e)=>I8 r (.mapIter (AA b) since (seen.push e.born) c)>>=λ_=>pure (.tuple #[.bool true,e.key,e.val])|some AB=>pure (.tuple #[.bool false])
       |none=>stuck "Next: no such candidate" else (choose (.mapNext (Jq es seen since).size)>>=λn=>match (Jq es seen since)[n]? with
       |some (AA e)=>I8 r (.mapIter (AA b) since (seen.push e.born) c)>>=λ_=>pure (.tuple #[.bool true,e.key,e.val])|some AB=>pure (.tuple #[.bool false])
       |none=>stuck "Next: no such candidate"):Sem AQ) ρ
       (if stale es' seen last=true then unsupported (.noEntry "instr/Next: every entry that the ranged map held at the last iteration is gone, and it holds new ones")>>=λ(_:Unit)=>choose (.mapNext (Jq es' seen since).size)>>=λn=>match (Jq es' seen since)[n]? with
       |some (AA e)=>I8 r' (.mapIter (AA b') since (seen.push e.born) c)>>=λ_=>pure (.tuple #[.bool true,e.key,e.val])|some AB=>pure (.tuple #[.bool false])
       |none=>stuck "Next: no such candidate" else (choose (.mapNext (Jq es' seen since).size)>>=λn=>match (Jq es' seen since)[n]? with
       |some (AA e)=>I8 r' (.mapIter (AA b') since (seen.push e.born) c)>>=λ_=>pure (.tuple #[.bool true,e.key,e.val])|some AB=>pure (.tuple #[.bool false])
       |none=>stuck "Next: no such candidate")):=by
      rw[e0];split;exact λ_=>Ap;exact body
     exact key hok
    |_=>exact Ap
   exact Ap
  |_=>cases s<;>exact Ap
 |_=>exact λ_=>Ap
end
end
section
variable {t:Am}{x x':AQ}
section
variable {T:Twin} {F:Fs} {N:Nat} {ρ:Rn} {α β γ:Type}
theorem uS{es es':Array Du}(h:Cm (F9 F ρ) es.toList es'.toList)(k:Nat):QE F ρ (es.find? (·.born==k)) (es'.find? (·.born==k)):=by
 rw[<- Array.find?_toList,<- Array.find?_toList];revert h;generalize es.toList=l;generalize es'.toList=l';intro h
 induction h with
 |nil=>exact Ap|cons ha _ ih=>
  simp only[List.find?_cons,ha.born];split;exact ha;exact ih
theorem AEK(h:BC F ρ x x'):AY T F N (QV F) (Instr.entry x) ρ (Instr.entry x'):=by
 unfold Instr.entry
 cases h with
 |flat hf=>cases x<;>first|exact λ_=>Ap|(rename_i p;cases p<;>first|exact λ_=>Ap|exact Ak (show false=true from hf) AV)
 | @ptr a a' ha=>
  obtain⟨r,off,sp⟩:=a;obtain⟨r',off',sp'⟩:=a';obtain⟨hr,h1,h2⟩:=ha;simp only at hr h1 h2;subst h1 h2
  cases off' with|succ n=>exact λ_=>Ap|zero=>
  intro hok;refine⟨hr,λo o' ho=>?_⟩
  cases ho with
  | @mapIter b b' since last seen hb=>
   dsimp only[Je]
   cases seen.back? with
   |none=>exact Ap|some stamp=>
    refine⟨hb,λo o' ho=>?_⟩
    cases ho with
    | @map es es' c hs he=>
     have hq:=uS (ND hs he) stamp;dsimp only[Je];by_cases hc:(c !=last)=true
     ·simp only[hc,if_true];exact Ap
     simp only[hc,if_false,DF];revert hq;generalize es.find? (·.born==stamp)=q;generalize es'.find? (·.born==stamp)=q';intro hq;(rcases q with _|e<;>rcases q' with _|e'<;>first|exact hq.elim|exact Ap|skip);exact .tuple rfl (Az.push (Az.one (F9.key hq)) (F9.val hq)).2
    |_=>exact Ap
  |_=>exact Ap
 |_=>exact λ_=>Ap
theorem AEL{i i':AQ}(h:BC F ρ x x')(k:BC F ρ i i'):AY T F N (QV F) (Instr.index t x i) ρ (Instr.index t x' i'):=by
 unfold Instr.index;refine (OZ k).bind λρ₁ q q' l1 e=>?_;obtain rfl:q=q':=e;obtain⟨kd,n⟩:=q;refine (BQ t).bind λρ₂ d d' l2 e=>?_;obtain⟨rfl,hd⟩:=e;have h:=(h.mono l1).mono l2
 cases h with
 |flat hf=>
  (cases x<;>first|exact Ak (show false=true from hf) AV|skip);(all_goals cases d<;>first|exact λ_=>Ap|skip);rename_i s
  have key:AY T F N (QV F) (match (if 0<=n then s[n.toNat]? else AB) with|some b=>pure (.int .u8 b.toNat)|none=>boundsPanic kd n s.size .index:Sem AQ) ρ₂ (match (if 0<=n then s[n.toNat]? else AB) with|some b=>pure (.int .u8 b.toNat)|none=>boundsPanic kd n s.size .index):=by
   generalize (if 0<=n then s[n.toNat]? else AB)=z;(cases z);exact IW _ _ _ _;exact λ_=>.flat rfl
  exact key
 | @agg p p' h1 h2=>
  (cases d<;>first|exact λ_=>Ap|skip);rename_i len elem;by_cases hc:0<=n/\n<len
  ·simp only[hc,and_self,if_true];refine (Ef elem).bind λρ₃ z z' l3 e=>?_;obtain rfl:z=z':=e;exact vP elem (Az.mono l3 ⟨h1,h2⟩) _
  simp only[hc,if_false];exact IW _ _ _ _
 |_=>cases d<;>exact λ_=>Ap
theorem jr(h:BC F ρ x x')(t a:Am)(hz:Hw T.P a=true):AY T F N (QV F) (KJ x t a true) ρ (KJ x' t a true):=by
 unfold KJ;refine (BQ a).bind λρ₁ d d' l1 e=>?_;obtain⟨rfl,hd⟩:=e;have h:=h.mono l1
 have fails: ∀{ρ:Rn},AY T F N (QV F) (GY a>>=λz=>pure (.tuple #[z,.bool false]):Sem AQ) ρ (GY a>>=λz=>pure (.tuple #[z,.bool false])):=
  (OX a hz).bind λ_ z z' _ e=>λ_=>.tuple rfl (Az.push (Az.one (by rw[<- e.1];exact e.2)) (.flat rfl)).2
 have holds: ∀{ρ:Rn} {v v':AQ},BC F ρ v v'->AY T F N (QV F) (pure (.tuple #[v,.bool true]):Sem AQ) ρ (pure (.tuple #[v',.bool true])):=
  λhv=>λ_=>.tuple rfl (Az.push (Az.one hv) (.flat rfl)).2
 cases h with
 |flat hf=>
  (cases x<;>first|exact Ak (show false=true from hf) AV|skip);all_goals cases d<;>first|exact λ_=>Ap|exact fails
 | @iface u v v' hv=>
  by_cases hi: ∃w,d=.interface w
  ·obtain⟨w,rfl⟩:=hi;refine (DD u).bind λρ₂ i i' l2 e=>?_;obtain⟨rfl,_⟩:=e
   cases Instr.missingMethod w i.methods with|none=>exact holds (.iface (hv.mono l2))|some m=>exact fails
  have e1: ∀z:AQ,(match d,(.iface u z:AQ) with
    | .interface _,.nilIface=>(GY a>>=λz=>pure (.tuple #[z,.bool false]):Sem AQ)
    | .interface want,.iface t _=>I7 t>>=λi=>match Instr.missingMethod want i.methods with
     |none=>pure (.tuple #[.iface u z,.bool true])|some m=>(GY a>>=λz=>pure (.tuple #[z,.bool false]))
    |_,.nilIface=>(GY a>>=λz=>pure (.tuple #[z,.bool false]))|_,.iface t v=>if t=a then pure (.tuple #[v,.bool true]) else (GY a>>=λz=>pure (.tuple #[z,.bool false]))
    |_,_=>stuck "TypeAssert: interface value expected")=if u=a then pure (.tuple #[z,.bool true]) else (GY a>>=λz=>pure (.tuple #[z,.bool false])):=by
   intro z;cases d<;>first|rfl|exact Ak ⟨_,rfl⟩ hi
  have e2:AY T F N (QV F) (if u=a then pure (.tuple #[v,.bool true]) else (GY a>>=λz=>pure (.tuple #[z,.bool false])):Sem AQ) ρ₁ (if u=a then pure (.tuple #[v',.bool true]) else (GY a>>=λz=>pure (.tuple #[z,.bool false]))):=by
   split;exact holds hv;exact fails
  rw[<- e1,<- e1] at e2;exact e2
 |_=>cases d<;>exact λ_=>Ap
theorem AEM{ty el:Am}(hu:T.P.underlying t=AA (.slice el))(hz:Hw T.P el=true)(h:BC F ρ x x'):AY T F N (QV F) (Builtin.clear_ #[t] ty #[x]) ρ (Builtin.clear_ #[t] ty #[x']):=by
 unfold Builtin.clear_;show AY T F N (QV F) (underlying t>>=_) ρ (underlying t>>=_);refine (BQ t).bind λρ₁ d d' l1 e=>?_;obtain⟨rfl,hd⟩:=e;rw[hu] at hd;obtain rfl:=EI hd;have h:=h.mono l1;have over: ∀{ρ:Rn},AY T F N (QV F) (pure (.tuple #[]):Sem AQ) ρ (pure (.tuple #[])):=λ_=>.undef
 cases h with
 |flat hf=>
  cases x<;>first|exact Ak (show false=true from hf) AV|exact λ_=>Ap|skip
  ·rename_i a n k;cases a<;>first|exact Ak (show false=true from hf) AV|exact over
  rename_i a;cases a<;>first|exact Ak (show false=true from hf) AV|exact over
 | @slice a a' n k ha=>
  cases n with
  |zero=>exact over|succ n=>
   refine (OX el hz).bind λρ₂ z z' l2 e=>?_;obtain⟨rfl,he⟩:=e;refine (NQ _ _ 0 (RelA.mono l2 ha) ?_).bind λ_ _ _ _ _=>over;have hc:Az F ρ₂ z.cells z.cells:=he.cells;simp only[Nz];refine Az.map λi _=>?_;rw[getElem!_def]
   cases hg:z.cells[i % z.cells.size]? with|none=>exact .flat rfl|some v=>exact hc.2 _ _ _ hg hg
 |emp=>exact over|map hb=>
  intro hok;refine⟨hb,λo o' ho=>?_⟩
  cases ho with|map=>exact ((QY hb ⟨rfl,λi e e' h=>by simp at h⟩).bind λ_ _ _ _ _=>over) hok|_=>exact Ap
 |_=>exact λ_=>Ap
end
end
section
variable {T:Twin} {F:Fs} {N:Nat} {ρ:Rn} {α β γ:Type}
theorem jB(hN:T.P.globals.size<N)(hok:ρ.Ok N)(t:Am):BC F ρ (Uw T.v t) (Uw T.P t):=.ptr ⟨hok.hd _ hN,rfl,rfl⟩
theorem Lp(hN:T.P.globals.size<N){Q:Rn->α->β->Prop}(i c:Option Am)(a:Am)(m:String):
  AY T F N Q (Q7 (.typeAssertion i c a m):Sem α) ρ (Q7 (.typeAssertion i c a m):Sem β):=by
 intro hok
 have hh: ∀t:Option Am,BC F ρ (match t with|some t=>Uw T.v t|none=>.pointer AB) (match t with|some t=>Uw T.P t|none=>.pointer AB):=λt=>by
  cases t with|none=>exact .flat rfl|some t=>exact jB hN hok t
 have hp:BC F ρ (.agg #[(match i with|some t=>Uw T.v t|none=>.pointer AB),(match c with|some t=>Uw T.v t|none=>.pointer AB),Uw T.v a,strVal m]) (.agg #[(match i with|some t=>Uw T.P t|none=>.pointer AB),(match c with|some t=>Uw T.P t|none=>.pointer AB),Uw T.P a,strVal m]):=by
  have:=(((Az.one (hh i)).push (hh c)).push (hh (AA a))).push (BC.flat (F:=F) (ρ:=ρ) (v:=strVal m) rfl);exact .agg this.1 this.2
 revert hok;refine CU.bind λρ₁ p p' l1 e=>?_;obtain⟨rfl,rfl⟩:=e;refine (XG _).bind λρ₂ t t' l2 e=>?_;obtain rfl:t=t':=e;refine (N7 t ((hp.mono l1).mono l2)).bind λρ₃ a a' l3 ha=>?_;exact λ_=>.inr ⟨_,rfl,.iface (.ptr ha)⟩
theorem fH(hN:T.P.globals.size<N){x x':AQ}(h:BC F ρ x x')(t a:Am):AY T F N (QV F) (KJ x t a false) ρ (KJ x' t a false):=by
 unfold KJ;refine (BQ a).bind λρ₁ d d' l1 e=>?_;obtain⟨rfl,hd⟩:=e;have h:=h.mono l1
 cases h with
 |flat hf=>
  (cases x<;>first|exact Ak (show false=true from hf) AV|skip);all_goals cases d<;>first|exact λ_=>Ap|exact Lp hN AB AB a "" |exact Lp hN (AA t) AB a ""
 | @iface u v v' hv=>
  by_cases hi: ∃w,d=.interface w
  ·obtain⟨w,rfl⟩:=hi;refine (DD u).bind λρ₂ i i' l2 e=>?_;obtain⟨rfl,_⟩:=e
   cases Instr.missingMethod w i.methods with|none=>exact λ_=>.iface (hv.mono l2)|some m=>exact Lp hN AB (AA u) a m
  have e2:AY T F N (QV F) (if u=a then pure v else Q7 (.typeAssertion (AA t) (AA u) a ""):Sem AQ) ρ₁ (if u=a then pure v' else Q7 (.typeAssertion (AA t) (AA u) a "")):=by
   split;exact λ_=>hv;exact Lp hN _ _ _ _
  cases d<;>first|exact Ak ⟨_,rfl⟩ hi|exact e2
 |_=>cases d<;>exact λ_=>Ap
def ABm (el:Am) (n size:Nat):Sem (Array AQ):=if n*size=0 then pure #[] else do pure (Nz (<- GY el).cells n)
theorem vT{el:Am}(hz:Hw T.P el=true)(n size:Nat):AY T F N (QVs F) (ABm el n size) ρ (ABm el n size):=by
 unfold ABm;split;exact λ_=>Az.nil;refine (LK el hz).bind λρ₁ z z' l1 e=>?_;obtain⟨rfl,hz⟩:=e;exact λ_=>VR hz _ _
theorem zK(t xt ty:Am)(hint: ∃k,T.P.underlying xt=AA (.int k))(hz: ∀el,T.P.underlying t=AA (.slice el)->Hw T.P el=true)
  {s s' x x':AQ} (hs:BC F ρ s s') (hx:BC F ρ x x'):AY T F N (QV F) (P6 #[t,xt] ty #[s,x]) ρ (P6 #[t,xt] ty #[s',x']):=by
 have hsl:=ay hs;unfold P6;simp only[Qn,WG,aP];refine (BQ t).bind λρ₁ d d' l1 e=>?_;obtain⟨rfl,hd⟩:=e
 cases d with
 |slice el=>
  simp only;rcases hsl with ⟨b,b',sLen,sCap,rfl,rfl,hb⟩|hns
  ·simp only;refine (Ef el).bind λρ₂ size size' l2 e=>?_;obtain rfl:size=size':=e;refine (BQ xt).bind λρ₃ dx dx' l3 e=>?_;obtain⟨rfl,uI⟩:=e;refine AY.bind (Q:=λ_ a b=>a=true/\b=true) ?_ λρ₄ z z' l4 e=>?_
   ·obtain⟨k,hk⟩:=hint;rw[hk] at uI;obtain rfl:=EI uI;exact λ_=>⟨rfl,rfl⟩
   obtain⟨rfl,rfl⟩:=e;simp only[if_true,mi,DF,if_false,true_or,and_true];have hs4:=(((hs.mono l1).mono l2).mono l3).mono l4
   have hb4: ∀{ρ':Rn},ρ₄.le ρ'->(QB ρ' b b'\/∃c a,ρ'.c c (.slice (AA a) 0 0)/\sLen=0/\sCap=0/\b=AA ⟨c,0,AB⟩/\b'=AA a):=by
    intro ρ' l;have lt:=(((l1.trans l2).trans l3).trans l4).trans l;rcases hb with hb|⟨c0,a0,hc0,h1,h2,h3,h4⟩;exact .inl (hb.mono lt);exact .inr ⟨c0,a0,lt.c _ _ hc0,h1,h2,h3,h4⟩
   refine (nS ((((hx.mono l1).mono l2).mono l3).mono l4)).bind λρ₅ q q' l5 e=>?_;obtain rfl:q=q':=e;by_cases hneg:IntKind.i64.wrap q<0
   ·simp only[hneg,if_true];exact AY.bind (Q:=λ_ _ _=>False) (Bo (e:=.error _) trivial) λ_ _ _ _ e=>e.elim
   simp only[hneg,if_false];refine (DD el).bind λρ₆ i i' l6 e=>?_;obtain⟨rfl,_⟩:=e;by_cases hbig:IntKind.i64.wrap q*(i.bytes:Int)>2 ^ 48
   ·simp only[hbig,if_true];refine (Ji _).bind λρ₇ m m' l7 e=>?_;obtain rfl:m=m':=e;exact AY.bind (Q:=λ_ _ _=>False) (Bo (e:=.error _) trivial) λ_ _ _ _ e=>e.elim
   simp only[hbig,if_false];generalize (IntKind.i64.wrap q).toNat=n;have l56:=l5.trans l6;by_cases hn:sLen+n<=sCap
   ·simp only[pure_bind,hn,if_true];rcases hb4 l56 with hb|⟨c0,a0,hc0,rfl,rfl,rfl,rfl⟩
    ·refine AY.bind (vT (hz el hd) n size) λρ₇ c c' l7 hc=>?_;have hb:=hb.mono l7
     cases b with
     |none=>cases b' with
      |none=>exact λ_=>.flat rfl|some _=>exact hb.elim
     |some a=>cases b' with
      |none=>exact hb.elim|some a'=>
       have ha:RelA ρ₇ a a':=hb;exact (NQ c.toList c'.toList 0 (ha.add _) (by simpa using hc)).bind λρ₈ _ _ l8 _=>λ_=>.slice (ha.mono l8)
    (obtain rfl:n=0:=by omega);simp only[mZ,if_true,pure_bind];exact λ_=>.emp hc0
   simp only[pure_bind,hn,if_false]
   have key: ∀ρ₇,ρ₆.le ρ₇->AY T F N (QV F) (do
      let newCap <- choose (.appendCap (sLen+n) sCap el)
      askRoom (newCap*(<- I7 el).bytes)
      let old <- Mc size sLen (.slice b sLen sCap);let new <- ABm el n size;let rest:=Nz (<- GY el).cells (newCap - (sLen+n))
      pure (.slice (AA (<- newRow el (old++new++rest))) (sLen+n) newCap):Sem AQ) ρ₇ (do
      let newCap <- choose (.appendCap (sLen+n) sCap el)
      askRoom (newCap*(<- I7 el).bytes)
      let old <- Mc size sLen (.slice b' sLen sCap);let new <- ABm el n size;let rest:=Nz (<- GY el).cells (newCap - (sLen+n))
      pure (.slice (AA (<- newRow el (old++new++rest))) (sLen+n) newCap):Sem AQ):=by
    intro ρ₇ l7;refine (Ji _).bind λρ₈ nc nc' l8 e=>?_;obtain rfl:nc=nc':=e;refine (DD el).bind λρ₉ i i' l9 e=>?_;obtain⟨rfl,_⟩:=e;refine (au _).bind λρ₁₀ _ _ l10 _=>?_;have lt:=((((l56.trans l7).trans l8).trans l9).trans l10);refine (NS size sLen (hs4.mono lt) (λp hp=>by injection hp)).bind λρ₁₁ o o' l11 ho=>?_;refine (vT (hz el hd) n size).bind λρ₁₂ c c' l12 hc=>?_;refine (LK el (hz el hd)).bind λρ₁₃ z z' l13 e=>?_;obtain⟨rfl,hz⟩:=e;exact (Tn el (((ho.mono (l12.trans l13)).append (hc.mono l13)).append (VR hz _ _))).bind λ_ a a' _ ha=>λ_=>.slice ha
   have dead: ∀{ρ':Rn} {α β:Type} {Q:Rn->α->β->Prop} {f:Unit->Sem α} {f':Unit->Sem β} {m:String},AY T F N Q (Q7 (.error m)>>=f) ρ' (Q7 (.error m)>>=f'):=
    AY.bind (Q:=λ_ _ _=>False) (Bo (e:=.error _) trivial) λ_ _ _ _ e=>e.elim
   refine (DD el).bind λρ₇ i i' l7 e=>?_;obtain⟨rfl,_⟩:=e;by_cases hov:((sLen+n:Nat):Int)>IntKind.i64.max
   ·simp only[hov,if_true];exact dead
   simp only[hov,if_false];refine (DD el).bind λρ₈ j j' l8 e=>?_;obtain⟨rfl,_⟩:=e;by_cases hb2:tu (sLen+n) sCap*j.bytes>2 ^ 48
   ·simp only[hb2,if_true];exact dead
   simp only[hb2,if_false];exact key ρ₈ (l7.trans l8)
  cases s<;>first|exact λ_=>Ap|exact Ak rfl (hns _ _ _)
 |_=>exact λ_=>Ap
end
section
variable {p p':Array AQ}{d d':EM}{fb:Fb}{f:Bj}{b l l':Nat}{ev':DU->AQ}{x x':AQ}
def IJ (fb:Fb) (G:Nat):DU->Bool
 | .tmp _=>true| .const v=>closed v| .global g=>decide (g<G)| .func f=>fb f && fb.v f
def zL (P:BL) (t:Am):DU->Bool
 | .const v=>KD P t v|_=>false
def Ua (m:Nat):DU->Nat->Bool
 | .func _,_=>true|_,n=>decide (n<=m)
def KX (fb:Fb) (f:Bj) (n:Nat):Bool:=match fb.a f with|none=>true|some m=>n==m && decide (m<1000)
def Gt (P:BL) (fb:Fb) (G:Nat):Callee->Array Am->Array DU->Bool
 | .value (.func f),_,az=>(fb f && KX fb f az.size) || fb.e f| .value f,_,az=>fb.h && (IJ fb G f && Ua fb.m f az.size)| .invoke r name,_,_=>IJ fb G r && RX P fb name
 | .builtin .append,ts,az=>(match ts.toList,az.toList with
  | [t,_],[_,_]=>(match P.underlying t with|some (.slice el)=>Hw P el|_=>true)
  |_,_=>false)
 | .builtin .len,ts,az=>(match ts.toList,az.toList with
  | [t],[_]=>(match P.underlying t with|some (.chan _ _)=>false|_=>true)
  |_,_=>false)
 | .builtin .max,_,_=>true| .builtin .min,_,_=>true
 | .builtin .delete,ts,az=>(match ts.toList,az.toList with
  | [t,_],[_,_]=>XM P t
  |_,_=>false)
 | .builtin .clear,ts,az=>(match ts.toList,az.toList with
  | [t],[_]=>(match P.underlying t with|some (.slice el)=>Hw P el|_=>false)
  |_,_=>false)
 |_,_,_=>false
def PO (c:Call):Array DU:=match c.callee with| .value (.func _)=>c.args|_=>c.operands
def opsOf:Op->Array DU
 | .call c| .defer c=>PO c|op=>op.operands
def WQ (P:BL) (fb:Fb) (G:Nat) (op:Op):Bool:=
 (opsOf op).all (IJ fb G) && match op with
 | .move _| .assign _| .pick _ _ _| .box _ _| .load _ _| .store _ _ _| .nilCheck _| .makeInterface _ _| .slice _ _ _ _ _| .fieldAddr _ _ _| .indexAddr _ _ _| .extract _ _| .panic _=>true| .alloc t=>Hw P t| .build t _=>Hw P t| .buildSlice t _ _=>(match P.underlying t with|some (.slice el)=>Hw P el|_=>true)
 | .binOp op t x y _=>if op== .eql || op== .neq then IB P t || zL P t y || zL P t x else (match P.underlying t with|some .unsafePointer=>false|_=>true)
 | .unOp .not _ _=>true
 | .convert s d _=>(match P.underlying s,P.underlying d with
  |some (.slice e),AA .string=>(match P.underlying e with|some (.int .u8)=>true|_=>false)
  |some (.int _),AA (.int _)=>true|some .string,AA .string=>true
  |_,_=>false)
 | .makeFunc (.func f) _ _=>fb f && fb.v f| .lookup t _ _ _| .mapUpdate t _ _ _=>XM P t| .makeMap _ r=>r.isNone| .range _ _| .next _ _| .entry _| .index _ _ _=>true| .typeAssert _ _ a ok=> !ok || Hw P a| .call c=>Gt P fb G c.callee c.argTypes c.args| .defer c=>fb.d && (match c.callee with| .value (.func f)=>fb f && (fb.a f).isNone| .value f=>fb.h && Ua fb.m f c.args.size|_=>false)
 |_=>false
inductive Jy (F:Fs) (ρ:Rn):Next->Next->Prop
 |value {v v':AQ}:BC F ρ v v'->Jy F ρ (.value v) (.value v')|skip:Jy F ρ .skip .skip|enter {f:Bj} {p p':Array AQ}:F f->F.a f p.size->F.dk f p->Az F ρ p p'->Jy F ρ (.enter f p) (.enter f p')|round {l l':Nat} {f:Bj} {p p':Array AQ} {a b:Code}:F.h->ρ.r l l'->Az F ρ p p'->F.r f->F.c a->F.c b->Jy F ρ (.round l f p a b) (.round l' f p' a b)|defer {d d':EM}:F.d->(∀g q,d.target=.fn (.func g) q->∀n,F.a g n)->JA F ρ d d'->Jy F ρ (.defer d) (.defer d')|seq {p:Array AQ} {n:Next}:p.size<=F.m+2->(∃s k a b,ρ.q s k a b)->Jy F ρ (.enter F.z p) n
abbrev ni (F:Fs):Rn->Next->Next->Prop:=λρ=>Jy F ρ
section
variable {T:Twin} {F:Fs} {N:Nat} {ρ:Rn} {α β γ:Type}
theorem GK{s s':Sem AQ}(h:AY T F N (QV F) s ρ s'):AY T F N (ni F) (do pure (.value (<- s)):Sem Next) ρ (do pure (.value (<- s')):Sem Next):=
 h.bind λ_ _ _ _ hv=>λ_=>.value hv
theorem AEN{s s':Sem Unit}(h:AY T F N Ej s ρ s'):AY T F N (ni F) (do s;pure .skip:Sem Next) ρ (do s';pure .skip:Sem Next):=
 h.bind λ_ _ _ _ _=>λ_=>.skip
structure Gu (T:Twin) (F:Fs) (N:Nat):Prop where
 z:(∃fn,T.v.funcs[F.z]? =AA fn/\fn.body.isNone=false/\(fn.name== "runtime.NumGoroutine")=false)/\∃fn,T.P.funcs[F.z]? =AA fn/\fn.body.isNone=false/\(fn.name== "runtime.NumGoroutine")=false
 v: ∀f,F f->∃fn,T.v.funcs[f]? =AA fn/\fn.body.isNone=false/\(fn.name== "runtime.NumGoroutine")=false
 a: ∀f,F f->∃fn,T.P.funcs[f]? =AA fn/\fn.body.isNone=false/\(fn.name== "runtime.NumGoroutine")=false
 va:F.h->∀f,F.v f->∀n,F.a f n
 za: ∀n,F.a F.z n
 dk: ∀f,(∀n,F.a f n)->∀p,F.dk f p
 e: ∀f,F.e f->∃fn,T.v.funcs[f]? =AA fn/\T.P.funcs[f]? =AA fn/\fn.body.isNone=true/\(fn.name== "runtime.NumGoroutine")=false/\(Extern.findNext fn).isNone=true/\
  match Extern.find fn with|some e=>KU T F N e|none=>(fn.name.endsWith ".init" && !fn.name.startsWith "(" && !fn.name.startsWith "gosem.")=false
 m0: ∀i,T.P.info? 0=AA i->i.methods.find? (·.name== "")=AB
theorem Ub(hB:Gu T F N)(hf:F f)(ha:F.a f p.size)(hd:F.dk f p)(hp:Az F ρ p p'):AY T F N (λρ a b=>Jy F ρ a b/\∀g p,a=.enter g p->g=f) (E5 f p) ρ (E5 f p'):=by
 obtain⟨fn,h1,h2,h3⟩:=hB.v f hf;obtain⟨fn',h1',h2',h3'⟩:=hB.a f hf;unfold E5;refine CU.bind λρ₁ a b l1 e=>?_;obtain⟨rfl,rfl⟩:=e;simp only[h1,h1',h2,h2',h3,h3',DF,if_false];exact λ_=>⟨.enter hf ha hd (hp.mono l1),λ_ _ e=>(by cases e;rfl)⟩
theorem bG(hB:Gu T F N)(hf:F.e f)(hp:Az F ρ p p'):AY T F N (ni F) (E5 f p) ρ (E5 f p'):=by
 obtain⟨fn,h1,h2,h3,h4,h5,h6⟩:=hB.e f hf;unfold E5;refine CU.bind λρ₁ a b l1 e=>?_;obtain⟨rfl,rfl⟩:=e;simp only[h1,h2,h3,h4,DF,if_false,if_true];(have h5:Extern.findNext fn=AB:=by simpa using h5);refine AY.bind (Q:=Ej) (λ_=>.inr ⟨rfl,Ap,rfl⟩) λρ₂ _ _ l2 _=>?_;simp only[h5]
 cases h7:Extern.find fn with
 |some e=>
  rw[h7] at h6;exact GK (h6 ((hp.mono l1).mono l2))
 |none=>
  rw[h7] at h6;simp only[h6,DF,if_false];exact λ_=>Ap
theorem jv(hB:Gu T F N)(hfb: ∀f,fb f=true->F f)(hfa: ∀f n,KX fb f n=true->F.a f n)(hfe: ∀f,fb.e f=true->F.e f){name:String}(hm:RX T.P fb name=true)(h:BC F ρ x x')(hp:Az F ρ p p'):
  AY T F N (ni F) (P8 x name p) ρ (P8 x' name p'):=by
 unfold P8
 cases h with
 |flat hf=>cases x<;>first|exact λ_=>Ap|exact Bo (e:=.nilDeref) trivial|exact Ak (show false=true from hf) AV
 |iface hv=>
  simp only;refine CU.bind λρ₁ a b l1 e=>?_;obtain⟨rfl,rfl⟩:=e;refine (jA hm _ _ (hv.mono l1)).bind λρ₂ q q' l2 hq=>?_;obtain⟨f,r⟩:=q;obtain⟨f',r'⟩:=q';obtain⟨e1,h1,h2⟩:=hq;simp only at e1 h1 h2;subst e1;rcases h1 with h1|h1;exact (Ub hB (hfb _ h1.1) (hfa _ _ (by unfold KX;rw[h1.2])) (hB.dk _ (λn=>hfa _ _ (by unfold KX;rw[h1.2])) _) ((Az.one h2).append ((hp.mono l1).mono l2))).mono λ_ _ _ _ h=>h.1;exact bG hB (hfe _ h1) ((Az.one h2).append ((hp.mono l1).mono l2))
 |_=>exact λ_=>Ap
theorem zM(hB:Gu T F N)(hp:p.size<=F.m+2)(hq: ∃s k a b,ρ.q s k a b):AY T F N (λρ a b=>Jy F ρ a b/\∀g p,a=.enter g p->g=F.z) (E5 F.z p) ρ (E5 F.z p'):=by
 obtain⟨⟨fn,h1,h2,h3⟩,fn',h1',h2',h3'⟩:=hB.z;unfold E5;refine CU.bind λρ₁ a b l1 e=>?_;obtain⟨rfl,rfl⟩:=e;simp only[h1,h1',h2,h2',h3,h3',DF,if_false];obtain⟨s,k,x,y,hq⟩:=hq;exact λ_=>⟨.seq hp ⟨s,k,x,y,l1.q _ _ _ _ hq⟩,λ_ _ e=>(by cases e;rfl)⟩
theorem Y7(hh:F.h)(hva: ∀f,F.v f->∀n,F.a f n)(hza: ∀n,F.a F.z n)(h:BC F ρ x x')(hp:Az F ρ p p')(hs:(∃s n,x=F6 F.z s n)->p.size<=F.m):AY T F N (λρ d d'=>JA F ρ d d'/\∀g q,d.target=.fn (.func g) q->∀n,F.a g n) (P9 x p) ρ (P9 x' p'):=by
 unfold P9
 cases h with
 |flat hf=>cases x<;>first|exact λ_=>Ap|exact λ_=>⟨.mk .nil hp,λ_ _ e=>(by cases e)⟩|exact Ak (show false=true from hf) AV
 |func hf hv h1 h2 h3 h4=>exact λ_=>⟨.mk (.fn hf (hva _ hv) ⟨h3,h4⟩) (Az.append ⟨h1,h2⟩ hp),λ_ _ e=>(by cases e;exact hva _ hv)⟩|yield hl=>exact λ_=>⟨.mk (.yield hh hl) (by simpa using hp),λ_ _ e=>(by cases e)⟩|mf hx hm=>cases x'<;>first|exact Ak (show false=true from hm) AV|exact λ_=>⟨JA.dead hx hm hp,λ_ _ e=>(by cases e)⟩
 |seq hq=>exact λ_=>⟨.mk (.seq (by have:=hs ⟨_,_,rfl⟩;simpa using this) hq) (by simpa using hp),λ_ _ e=>(by cases e;exact hza)⟩|tok hc ht=>
  cases x'<;>first|exact Ak (show false=true from ht) AV|exact λ_=>Ap
 |_=>exact λ_=>Ap
theorem zN(hh:F.h)(hva: ∀f,F.v f->∀n,F.a f n)(hza: ∀n,F.a F.z n)(h:BC F ρ x x')(hp:Az F ρ p p')(hs:(∃s n,x=F6 F.z s n)->p.size<=F.m):AY T F N (λρ=>JA F ρ) (P9 x p) ρ (P9 x' p'):=
 (Y7 hh hva hza h hp hs).mono λ_ _ _ _ h=>h.1
theorem zO{ps:List (Tmp×AQ)}: ∀{ps':List (Tmp×AQ)} {p p':Array AQ},Cm (λq q'=>q.1=q'.1/\BC F ρ q.2 q'.2) ps ps'->Az F ρ p p'->
  Az F ρ (ps.foldl (λtmps (t,a)=>tmps.setIfInBounds t a) p) (ps'.foldl (λtmps (t,a)=>tmps.setIfInBounds t a) p'):=by
 induction ps with
 |nil=>intro ps' p p' h hp;cases h;exact hp
 |cons q ps ih=>
  intro ps' p p' h hp
  cases h with
  | @cons _ q' _ ps' h1 h2=>
   obtain⟨t,a⟩:=q;obtain⟨t',a'⟩:=q';obtain⟨e,hr⟩:=h1;simp only at e hr;subst e;simp only[WC];exact ih h2 (hp.set hr _)
theorem AHF{l:List Tmp}: ∀{p p':List AQ},Az F ρ p.toArray p'.toArray->Cm (λq q':Tmp×AQ=>q.1=q'.1/\BC F ρ q.2 q'.2) (l.zip p) (l.zip p'):=by
 induction l with
 |nil=>intro p p' _;simp only[List.zip_nil_left];exact .nil
 |cons t l ih=>
  intro p p' h
  cases p with
  |nil=>
   (have:p'=[]:=by have:=h.1;simp at this;exact eX.1 this.symm);subst this;simp only[List.zip_nil_right];exact .nil
  |cons v p=>
   cases p' with
   |nil=>have:=h.1;simp at this|cons v' p'=>
    simp only[List.zip_cons_cons];exact .cons ⟨rfl,h.2 0 v v' AV AV⟩ (ih ⟨by have:=h.1;simpa using this,λj x x' hx hx'=>h.2 (j+1) x x' (by simpa using hx) (by simpa using hx')⟩)
theorem Oa(h:ρ.r l l'):AY T F N (λρ=>vN F ρ) (aT l) ρ (aT l'):=by
 unfold aT;refine AY.bind (Q:=λρ=>Gw F ρ) (λ_=>⟨h,λo o' ho=>ho⟩) λρ₁ o o' l1 ho=>?_
 cases ho with|loop hl=>exact λ_=>hl|_=>exact λ_=>Ap
theorem AEO(hh:F.h)(h:ρ.r l l')(hp:Az F ρ p p'):AY T F N (λρ a b=>Jy F ρ a b/\∀g p,a≠ .enter g p) (aU l p) ρ (aU l' p'):=by
 unfold aU;refine (Oa h).bind λρ₁ r r' l1 hr=>?_;rw[hr.params,<- hp.1];by_cases hs:p.size≠r.params.size
 ·simp only[hs,if_true,ne_eq,not_false_eq_true];exact AY.bind (Q:=λ_ _ _=>False) (λ_=>Ap) λ_ _ _ _ e=>e.elim
 simp only[hs,if_false];rw[hr.fn,hr.assign,hr.body];refine λ_=>⟨.round hh (l1.r _ _ h) ?_ hr.okF hr.okA hr.okB,λ_ _ e=>(by cases e)⟩;have:=zO (F:=F) (ρ:=ρ₁) (AHF (F:=F) (l:=r.params.toList) (p:=p.toList) (p':=p'.toList) (by simpa using hp.mono l1)) hr.tmps;rw[<- yM,<- yM,Array.toList_zip,Array.toList_zip];exact this
theorem AEP(h0: ∀i,T.P.info? 0=AA i->i.methods.find? (·.name== "")=AB):Cb T (do let d <- P9 (nM b) p;invoke d.target d.args:Sem Next):=by
 show Cb T (invoke (.fn (.method "") #[]) (#[.iface 0 (.chan (AA b))]++p));(have e:(#[Value.iface 0 (.chan (AA b))]++p)[0]? =AA (.iface 0 (.chan (AA b))):=by rw[mr AV];rfl);unfold invoke;simp only[e];unfold P8;simp only
 have e2: ∀n,Cb T (method n 0 (.chan (AA b)) ""):=by
  intro n
  cases n with
  |zero=>exact Ap|succ n=>
   rw[method];show Cb T ((match T.P.info? 0 with|some d=>pure d|none=>stuck "no such type" :Sem Q5).bind _)
   cases h:T.P.info? 0 with
   |none=>exact Ap|some i=>
    simp only[pure,Je,h0 i h];exact Ap
 exact (e2 _).bind
theorem AEQ(h0: ∀i,T.P.info? 0=AA i->i.methods.find? (·.name== "")=AB):Cb T (invoke (ZW (nM b) p).target (ZW (nM b) p).args):=AEP h0
theorem XP(hB:Gu T F N)(h:JA F ρ d d'):AY T F N (λρ a b=>Jy F ρ a b/\∀g p,a=.enter g p->∃q,d.target=.fn (.func g) q) (invoke d.target d.args) ρ (invoke d'.target d'.args):=by
 cases h with|dead h1 h2 h3=>exact Ru (AEQ hB.m0) _|mk h hp=>
 obtain⟨t,p⟩:=d;obtain⟨t',p'⟩:=d';simp only at h hp
 cases h with|nil=>exact Bo (e:=.nilDeref) trivial|fn hf ha hq=>exact (Ub hB hf (ha _) (hB.dk _ ha _) (hp.append hq)).mono λ_ _ _ _ h=>⟨h.1,λg p e=>by rw[h.2 g p e];exact⟨_,rfl⟩⟩|yield hh hl=>exact (AEO hh hl hp).mono λ_ _ _ _ h=>⟨h.1,λg p e=>Ak e (h.2 g p)⟩|seq hm hq=>exact (zM hB (by simp only[nG,Iw,EU,Hr];omega) ⟨_,_,_,_,hq⟩).mono λ_ _ _ _ h=>⟨h.1,λg p e=>by rw[h.2 g p e];exact⟨_,rfl⟩⟩|collected hb=>exact λ_=>Ap
theorem Y8(hB:Gu T F N)(h:JA F ρ d d'):AY T F N (ni F) (invoke d.target d.args) ρ (invoke d'.target d'.args):=(XP hB h).mono λ_ _ _ _ h=>h.1
theorem Uz(hB:Gu T F N)(hh:F.h)(h:BC F ρ x x')(hp:Az F ρ p p')(hs:(∃s n,x=F6 F.z s n)->p.size<=F.m):
  AY T F N (ni F) (do let d <- P9 x p;invoke d.target d.args:Sem Next) ρ (do let d <- P9 x' p';invoke d.target d.args):=by
 exact (zN hh (hB.va hh) hB.za h hp hs).bind λ_ _ _ _ hd=>Y8 hB hd
def Qp (F:Fs) (ρ:Rn) (fb:Fb) (G:Nat) (ev ev':DU->AQ):Prop:=∀x,IJ fb G x=true->BC F ρ (ev x) (ev' x)
theorem Qp.map{fb:Fb}{G:Nat}{ev ev':DU->AQ}(h:Qp F ρ fb G ev ev'){l:Array DU}(hl:l.all (IJ fb G)=true):Az F ρ (l.map ev) (l.map ev'):=
 Az.map λx hx=>h x (VN.1 hl x hx)
theorem Qp.opt{G:Nat}{ev:DU->AQ}(h:Qp F ρ fb G ev ev'){o:Option DU}(hl:o.toArray.all (IJ fb G)=true):QO F ρ (o.map ev) (o.map ev'):=by
 cases o with|none=>trivial|some x=>exact h x (by simpa using hl)
theorem Qp.parts{G:Nat}{ev:DU->AQ}(h:Qp F ρ fb G ev ev'): ∀{l:List (Nat×DU)},(∀q∈l,IJ fb G q.2=true)->
  QP F ρ (l.map λq=>(q.1,ev q.2)) (l.map λq=>(q.1,ev' q.2)):=by
 intro l
 induction l with
 |nil=>intro _;exact .nil
 |cons q l ih=>
  intro hl;exact .cons ⟨rfl,h _ (hl q AV)⟩ (ih λx hx=>hl x (by simp[hx]))
theorem ny(l:List AQ): ∀{l':List AQ} {s:ByteArray},Az F ρ l.toArray l'.toArray->
  AY T F N Ej (forIn l s (λc s=>match c with| .int .u8 n=>pure (.yield (s.push (UInt8.ofNat n.toNat)))|_=>stuck "bytesToString: byte expected"):Sem ByteArray) ρ
   (forIn l' s (λc s=>match c with| .int .u8 n=>pure (.yield (s.push (UInt8.ofNat n.toNat)))|_=>stuck "bytesToString: byte expected"):Sem ByteArray):=by
 induction l with
 |nil=>
  intro l' s h;(have:l'=[]:=by have:=h.1;simp at this;exact eX.1 this.symm);subst this;simp only[List.forIn_nil];exact λ_=>rfl
 |cons v l ih=>
  intro l' s h
  cases l' with
  |nil=>have:=h.1;simp at this|cons v' l'=>
   simp only[AD2];have hv:BC F ρ v v':=h.2 0 v v' AV AV;have ht:Az F ρ l.toArray l'.toArray:=⟨by have:=h.1;simpa using this,λj x x' hx hx'=>h.2 (j+1) x x' (by simpa using hx) (by simpa using hx')⟩
   cases hv with
   |flat hf=>
    (cases v<;>first|exact λ_=>Ap|skip);rename_i k n;(cases k<;>first|exact λ_=>Ap|skip);simp only[pure_bind];exact ih ht
   |_=>exact λ_=>Ap
theorem Zb(h:BC F ρ x x'):AY T F N (QV F) (QC x) ρ (QC x'):=by
 unfold QC
 cases h with
 |flat hf=>
  (cases x<;>first|exact λ_=>Ap|skip);rename_i a n k
  cases a with|none=>exact λ_=>.flat rfl|some _=>exact Ak (show false=true from hf) AV
 |slice ha=>
  simp only;refine (SK ha _).bind λρ₁ p p' l1 hp=>?_;simp only[<- Array.forIn_toList];exact (ny p.toList (l':=p'.toList) (by simpa using hp)).bind λρ₂ a b _ e=>by obtain rfl:a=b:=e;exact λ_=>.flat rfl
 |emp _=>
  simp only[loadCells,Ur];exact λ_=>.flat rfl
 |_=>exact λ_=>Ap
theorem zQ{t u:Am} (hc:(match T.P.underlying t,T.P.underlying u with
  |some (.slice e),AA .string=>(match T.P.underlying e with|some (.int .u8)=>true|_=>false)
  |some (.int _),AA (.int _)=>true|some .string,AA .string=>true
  |_,_=>false)=true) {x x':AQ} (h:BC F ρ x x'):AY T F N (QV F) (convert t u x) ρ (convert t u x'):=by
 unfold convert;refine (BQ t).bind λρ₁ d d' l1 e=>?_;obtain⟨rfl,hd⟩:=e;refine (BQ u).bind λρ₂ f f' l2 e=>?_;obtain⟨rfl,hf⟩:=e;rw[hd,hf] at hc;have h:=(h.mono l1).mono l2;split at hc
 ·rename_i e1 e2;(cases e1;cases e2);rename_i e;split at hc
  ·rename_i he
   have key:AY T F N (QV F) (do match <- underlying e with
     | .int .u8=>QC x| .int .i32=>Conv.runesToString x
     |_=>stuck "Convert: a slice of what to string?" :Sem AQ) ρ₂ (do match <- underlying e with
     | .int .u8=>QC x'| .int .i32=>Conv.runesToString x'
     |_=>stuck "Convert: a slice of what to string?"):=by
    refine (BQ e).bind λρ₃ g g' l3 q=>?_;obtain⟨rfl,hg⟩:=q;rw[he] at hg;(cases hg);exact Zb (h.mono l3)
   cases h with
   |flat hfl=>cases x<;>first|exact Ak (show false=true from hfl) AV|exact key|exact λ_=>Ap|exact λ_=>.flat rfl
   |tok hk ht=>
    cases x'<;>first|exact Ak (show false=true from ht) AV|exact key
   |mf hk hm=>cases x'<;>first|exact Ak (show false=true from hm) AV|exact key
   |_=>exact key
  cases hc
 ·rename_i e1 e2;cases e1;cases e2
  cases h with
  |flat hfl=>cases x<;>first|exact λ_=>.flat rfl|exact λ_=>Ap|exact Ak (show false=true from hfl) AV|(rename_i a;cases a<;>first|exact λ_=>Ap|exact Ak (show false=true from hfl) AV)
  |_=>exact λ_=>Ap
 ·rename_i e1 e2;cases e1;cases e2
  cases h with
  |flat hfl=>cases x<;>first|exact λ_=>.flat rfl|exact λ_=>Ap|exact Ak (show false=true from hfl) AV
  |_=>exact λ_=>Ap
 cases hc
end
end
section
variable {c:Call}{fb:Fb}{f:DU}{ev':DU->AQ}
section
variable {T:Twin} {F:Fs} {N:Nat} {ρ:Rn}
theorem bH{G:Nat}{ev:DU->AQ}(hev:Qp F ρ fb G ev ev')(e:c.callee=.value f)(hc:c.operands.all (IJ fb G)=true)(ty:Am):
  BC F ρ (ev f) (ev' f)/\Az F ρ (c.args.map ev) (c.args.map ev')/\resolve ev c ty=P9 (ev f) (c.args.map ev)/\resolve ev' c ty=P9 (ev' f) (c.args.map ev'):=by
 unfold Call.operands at hc;rw[e] at hc;simp only[nH,DV] at hc;exact⟨hev f (by simpa using hc.1),hev.map hc.2,by unfold resolve;rw[e],by unfold resolve;rw[e]⟩
theorem CS{G:Nat}{az:Array DU}(h:az.all (IJ fb G)=true){x:DU}(hx:x∈az):IJ fb G x=true:=VN.1 h x hx
theorem AF6{ev:DU->AQ}(hfun: ∀g,ev (.func g)=.func (.func g) #[] #[]){n:Nat}{m:Nat}(h:Ua m f n=true){z:Bj}:(∃s k,ev f=F6 z s k)->n<=m:=by
 rintro⟨s,k,e⟩
 cases f with|func g=>rw[hfun] at e;simp[F6] at e|_=>simpa[Ua] using h
theorem nz{G:Nat}{ev:DU->AQ}(hev:Qp F ρ fb G ev ev')(hfun: ∀g,ev (.func g)=.func (.func g) #[] #[])(hfun': ∀g,ev' (.func g)=.func (.func g) #[] #[]){g:Bj}(e:c.callee=.value (.func g))(hg:F g)(hga: ∀n,F.a g n)
  (hc:(PO c).all (IJ fb G)=true) (ty:Am):AY T F N (λρ d d'=>JA F ρ d d'/\d.target=.fn (.func g) #[]) (resolve ev c ty) ρ (resolve ev' c ty):=by
 unfold PO at hc;rw[e] at hc;have ha:=hev.map hc;(have e1:resolve ev c ty=pure {target:=.fn (.func g) #[],args:=#[]++c.args.map ev}:=by unfold resolve;rw[e];simp only[hfun];rfl);(have e2:resolve ev' c ty=pure {target:=.fn (.func g) #[],args:=#[]++c.args.map ev'}:=by unfold resolve;rw[e];simp only[hfun'];rfl);rw[e1,e2];exact λ_=>⟨.mk (.fn hg hga Az.nil) (Az.append Az.nil ha),rfl⟩
theorem bI(h: ∀g,c.callee≠ .value (.func g)):PO c=c.operands:=by
 unfold PO;split
 ·rename_i e;exact Ak e (h _)
 rfl
theorem AHG(hB:Gu T F N)(hN:T.P.globals.size<N){G:Nat}(hfb: ∀f,fb f=true->F f)(hfa: ∀f n,KX fb f n=true->F.a f n)(hfe: ∀f,fb.e f=true->F.e f)(hfh:fb.h=true->F.h)(hfm:fb.m<=F.m){ev:DU->AQ}(hev:Qp F ρ fb G ev ev')(hfun: ∀g,ev (.func g)=.func (.func g) #[] #[])(hfun': ∀g,ev' (.func g)=.func (.func g) #[] #[])(hdk: ∀g,c.callee=.value (.func g)->F.dk g (c.args.map ev))(ho:(PO c).all (IJ fb G)=true)
  (hc:Gt T.P fb G c.callee c.argTypes c.args=true) (ty:Am):AY T F N (ni F) (do let d <- resolve ev c ty;invoke d.target d.args:Sem Next) ρ (do let d <- resolve ev' c ty;invoke d.target d.args):=by
 by_cases hst: ∃g,c.callee=.value (.func g)
 ·obtain⟨g,hst⟩:=hst;rw[hst] at hc;simp only[Gt,DV,XB] at hc;have ha:=hev.map (show c.args.all (IJ fb G)=true by unfold PO at ho;rw[hst] at ho;exact ho);rcases hc with hc|hc
  ·(have e1:resolve ev c ty=pure {target:=.fn (.func g) #[],args:=#[]++c.args.map ev}:=by unfold resolve;rw[hst];simp only[hfun];rfl);(have e2:resolve ev' c ty=pure {target:=.fn (.func g) #[],args:=#[]++c.args.map ev'}:=by unfold resolve;rw[hst];simp only[hfun'];rfl);rw[e1,e2];(have e3: ∀q:Array AQ,#[]++q++ #[]=q:=λq=>by simp);refine AY.mono (Q:=λρ a b=>Jy F ρ a b/\∀h p,a=.enter h p->h=g) ?_ λ_ _ _ _ h=>h.1;show AY T F N _ (E5 g (#[]++c.args.map ev++ #[])) ρ (E5 g (#[]++c.args.map ev'++ #[]));rw[e3,e3];exact Ub hB (hfb _ hc.1) (by rw[yP];exact hfa _ _ hc.2) (hdk g hst) ha
  (have e1:resolve ev c ty=pure {target:=.fn (.func g) #[],args:=#[]++c.args.map ev}:=by unfold resolve;rw[hst];simp only[hfun];rfl);(have e2:resolve ev' c ty=pure {target:=.fn (.func g) #[],args:=#[]++c.args.map ev'}:=by unfold resolve;rw[hst];simp only[hfun'];rfl);rw[e1,e2];exact bG hB (hfe _ hc) ((Az.append Az.nil ha).append Az.nil)
 rw[bI λg e=>hst ⟨g,e⟩] at ho
 cases hq:c.callee with
 |value f=>
  obtain⟨h1,h2,e1,e2⟩:=bH hev hq ho ty;rw[e1,e2];rw[hq] at hc
  have hc:fb.h=true/\Ua fb.m f c.args.size=true:=by
   cases f with|func g=>exact Ak ⟨g,hq⟩ hst|_=>simp only[Gt,DV] at hc;exact⟨hc.1,hc.2.2⟩
  obtain⟨hh,hc⟩:=hc;exact Uz hB (hfh hh) h1 h2 (by rw[yP];exact λh=>CY (AF6 hfun hc h) hfm)
 |invoke r name=>
  rw[hq] at hc;simp only[Gt,DV] at hc;have ho2:c.args.all (IJ fb G)=true:=by unfold Call.operands at ho;rw[hq] at ho;simp only[nH,DV] at ho;exact ho.2
  have e1: ∀e:DU->AQ,(do let d <- resolve e c ty;invoke d.target d.args:Sem Next)=P8 (e r) name (c.args.map e):=by
   intro e;unfold resolve;rw[hq];simp only[pure_bind,invoke];have h0:(#[e r]++c.args.map e)[0]? =AA (e r):=by simp[AIZ]
   have h1:(#[e r]++c.args.map e).extract 1 (#[e r]++c.args.map e).size=c.args.map e:=by
    apply ZP;intro i;rw[AIa];simp only[nG,Iw,EU,Hr,Na,yP];by_cases hi:i<c.args.size
    ·rw[BZ Aa,ZT AV];simp
    rw[BM Aa];rw[LG,XD Aa];rfl
   rw[h0,h1]
  rw[e1,e1];exact jv hB hfb hfa hfe hc.2 (hev r hc.1) (hev.map ho2)
 |builtin b=>
  rw[hq] at hc;have ho2:c.args.all (IJ fb G)=true:=by unfold Call.operands at ho;rw[hq] at ho;simp only[nH,DV] at ho;exact ho.2
  have e1: ∀e:DU->AQ,(do let d <- resolve e c ty;invoke d.target d.args:Sem Next)=builtin b c.argTypes ty (c.args.map fun| .const _=>true|_=>false) (c.args.map e):=by
   intro e;unfold resolve;rw[hq];rfl
  rw[e1,e1];have hm:=hev.map ho2;cases b<;>first|exact Ak (show false=true from hc) AV|skip
  ·
   simp only[Gt] at hc;generalize c.argTypes=Zc at hc⊢;generalize c.args=asA at hc ho2⊢;obtain⟨ts⟩:=Zc;obtain⟨az⟩:=asA;(rcases ts with _|⟨t,_|⟨xt,_|⟨_,_⟩⟩⟩<;>first|exact Ak (show false=true from hc) AV|skip);(rcases az with _|⟨s,_|⟨x,_|⟨_,_⟩⟩⟩<;>first|exact Ak (show false=true from hc) AV|skip);refine GK ?_;simp only[KC,BN,EJ];(have hz: ∀el,T.P.underlying t=AA (.slice el)->Hw T.P el=true:=λel hel=>by simp only[hel] at hc;exact hc);by_cases hk: ∃k,T.P.underlying xt=AA (.int k);exact zK t xt ty hk hz (hev s (CS ho2 AV)) (hev x (CS ho2 AV));exact ABa t xt ty (λk h=>hk ⟨k,h⟩) hz (hev s (CS ho2 AV)) (hev x (CS ho2 AV))
  ·
   simp only[Gt] at hc;generalize c.argTypes=Zc at hc⊢;generalize c.args=asA at hc ho2⊢;obtain⟨ts⟩:=Zc;obtain⟨az⟩:=asA;(rcases ts with _|⟨t,_|⟨_,_⟩⟩<;>first|exact Ak (show false=true from hc) AV|skip);(rcases az with _|⟨x,_|⟨_,_⟩⟩<;>first|exact Ak (show false=true from hc) AV|skip);refine GK ?_;simp only[KC,BN,EJ];simp only at hc
   cases hu:T.P.underlying t with
   |none=>rw[hu] at hc;exact Ak (show false=true from hc) AV|some d=>
    rw[hu] at hc;cases d<;>first|exact Ak (show false=true from hc) AV|exact AEM hu hc (hev x (CS ho2 AV))
  ·
   simp only[Gt] at hc;generalize c.argTypes=Zc at hc⊢;generalize c.args=asA at hc ho2⊢;obtain⟨ts⟩:=Zc;obtain⟨az⟩:=asA;(rcases ts with _|⟨t,_|⟨u,_|⟨_,_⟩⟩⟩<;>first|exact Ak (show false=true from hc) AV|skip);(rcases az with _|⟨x,_|⟨y,_|⟨_,_⟩⟩⟩<;>first|exact Ak (show false=true from hc) AV|skip);refine GK ?_;simp only[KC,BN,EJ];exact ABl hN hc (hev x (CS ho2 AV)) (hev y (CS ho2 AV))
  ·
   simp only[Gt] at hc;generalize c.argTypes=Zc at hc⊢;generalize c.args=asA at hc ho2⊢;obtain⟨ts⟩:=Zc;obtain⟨az⟩:=asA;(rcases ts with _|⟨t,_|⟨_,_⟩⟩<;>first|exact Ak (show false=true from hc) AV|skip);(rcases az with _|⟨s,_|⟨_,_⟩⟩<;>first|exact Ak (show false=true from hc) AV|skip);refine GK ?_;simp only[KC,BN,EJ];refine AIk t ty (λd e hd=>?_) (hev s (CS ho2 AV));simp only[hd] at hc;cases hc
  exact GK (AIl _ _ hm);exact GK (AIm _ _ hm)
theorem AER{G:Nat}(hfm:fb.m<=F.m)(hh:F.h)(hva: ∀f,F.v f->∀n,F.a f n)(hza: ∀n,F.a F.z n){ev:DU->AQ}(hev:Qp F ρ fb G ev ev')(hfun: ∀g,ev (.func g)=.func (.func g) #[] #[])(ho:c.operands.all (IJ fb G)=true)(hq:c.callee=.value f)(hw:Ua fb.m f c.args.size=true)(ty:Am):
  AY T F N (λρ d d'=>JA F ρ d d'/\∀g q,d.target=.fn (.func g) q->∀n,F.a g n) (resolve ev c ty) ρ (resolve ev' c ty):=by
 obtain⟨h1,h2,e1,e2⟩:=bH hev hq ho ty;rw[e1,e2];exact Y7 hh hva hza h1 h2 (by rw[yP];exact λh=>CY (AF6 hfun hw h) hfm)
theorem ABn(hB:Gu T F N)(hN:T.P.globals.size<N){G:Nat}(hfb: ∀f,fb f=true->F f)(hfa: ∀f n,KX fb f n=true->F.a f n)(hfe: ∀f,fb.e f=true->F.e f)(hfh:fb.h=true->F.h)(hfm:fb.m<=F.m)(hval: ∀f,fb.v f=true->F.v f)(hlv:fb.d=true->F.d){ev:DU->AQ}(hev:Qp F ρ fb G ev ev')(hconst: ∀v,ev (.const v)=v)(hfun: ∀g,ev (.func g)=.func (.func g) #[] #[])(hfun': ∀g,ev' (.func g)=.func (.func g) #[] #[]){o:BU}(hdk: ∀c g,o.op=.call c->c.callee=.value (.func g)->F.dk g (c.args.map ev))(ho:WQ T.P fb G o.op=true):
  AY T F N (ni F) (execOp ev o) ρ (execOp ev' o):=by
 unfold WQ at ho;rw[DV] at ho;obtain⟨hops,ho⟩:=ho;unfold execOp;cases hop:o.op<;>rw[hop] at ho hops<;>simp only[opsOf,Op.operands] at hops<;>dsimp only at ho⊢ <;>first|exact Ak (show false=true from ho) AV|skip
 case move x=>exact λ_=>.value (hev x (CS hops AV))
 case assign x=>exact λ_=>.value (hev x (CS hops AV))
 case pick c a b=>
  have h1:=hev c (CS hops AV);have h2:=hev a (CS hops AV);have h3:=hev b (CS hops AV);refine (ABS h1).bind λρ₁ x y l e=>?_;obtain rfl:x=y:=e;(cases x);exact λ_=>.value (h3.mono l);exact λ_=>.value (h2.mono l)
 case alloc t=>exact GK (AEA t ho)
 case box t x=>exact GK (AIj t (hev x (CS hops AV)))
 case build t ps=>
  refine GK (AEC t ho ?_);rw[ZR,ZR];exact hev.parts λq hq=>CS hops (by simp;exact⟨q.1,AD3.2 hq⟩)
 case buildSlice t n ps=>
  refine GK (jm t n (λel hel=>by rw[hel] at ho;exact ho) ?_);rw[ZR,ZR];exact hev.parts λq hq=>CS hops (by simp;exact⟨q.1,AD3.2 hq⟩)
 case load t a=>exact GK (ABU t (hev a (CS hops AV)))
 case store t a x=>exact AEN (yx t (hev a (CS hops AV)) (hev x (CS hops AV)))
 case nilCheck x=>exact uH hB.m0 (hev x (CS hops AV)) _ _ rfl rfl λ_ _ _ h=>.value h
 case binOp op t x y r=>
  have hx:=hev x (CS hops AV);have hy:=hev y (CS hops AV);refine GK ?_;by_cases hq:op=.eql\/op=.neq
  ·have hp:IB T.P t=true\/KD T.P t (ev y)=true\/KD T.P t (ev x)=true:=by
    (have:(op==BinOp.eql || op==BinOp.neq)=true:=by rcases hq with rfl|rfl<;>rfl);rw[this,BZ rfl,XB,XB] at ho
    have key: ∀z:DU,IJ fb G z=true->zL T.P t z=true->KD T.P t (ev z)=true:=by
     intro z _ hn;(cases z<;>first|exact Ak (show false=true from hn) AV|skip);rw[hconst];exact hn
    rcases ho with (ho|ho)|ho;exact .inl ho;exact .inr (.inl (key y (CS hops AV) ho));exact .inr (.inr (key x (CS hops AV) ho))
   exact (bC op x y (λ_=>hp) hx hy).bind λρ₁ _ _ l _=>zG hN hq hp (hx.mono l) (hy.mono l)
  have hq':op≠ .eql/\op≠ .neq:=⟨λe=>hq (.inl e),λe=>hq (.inr e)⟩
  have ht:T.P.underlying t≠AA .unsafePointer:=by
   have:(op==BinOp.eql || op==BinOp.neq)=false:=by
    cases h:(op==BinOp.eql || op==BinOp.neq) with|false=>rfl|true=>rw[XB] at h;exact Ak (h.imp (λe=>by cases op<;>first|rfl|cases e) (λe=>by cases op<;>first|rfl|cases e)) hq
   rw[this] at ho;intro e;rw[e] at ho;exact Ak ho AV
  exact (bC op x y (λe=>Ak e hq) hx hy).bind λρ₁ _ _ l _=>AEG hN hq' ht (hx.mono l) (hy.mono l)
 case unOp op t x=>
  (cases op<;>first|exact Ak (show false=true from ho) AV|skip);refine GK ?_;have hx:=hev x (CS hops AV);generalize ev x=a at hx;generalize ev' x=a' at hx
  cases hx with
  |flat hf=>
   cases a<;>first|exact λ_=>.flat rfl|exact λ_=>Ap|exact Ak (show false=true from hf) AV
  |_=>exact λ_=>Ap
 case convert s d x=>exact GK (zQ ho (hev x (CS hops AV)))
 case makeInterface t x=>exact GK (Za t (hev x (CS hops AV)))
 case makeFunc fn p q=>
  (cases fn<;>first|exact Ak (show false=true from ho) AV|skip);rw[nH,DV] at hops;exact GK (uG _ (hfb _ (by simp only[DV] at ho;exact ho.1)) (hval _ (by simp only[DV] at ho;exact ho.2)) (hev.map hops.1) (hev.map hops.2))
 case slice t x lo hi mx=>
  simp only[nH,DV] at hops;obtain⟨⟨⟨h1,h2⟩,h3⟩,h4⟩:=hops;exact GK (zB t (hev x (CS h1 AV)) (hev.opt h2) (hev.opt h3) (hev.opt h4))
 case fieldAddr t x f=>exact GK (yz t (hev x (CS hops AV)) f)
 case indexAddr t x i=>exact GK (y7 t (hev x (CS hops AV)) (hev i (CS hops AV)))
 case extract x i=>exact GK (zA (hev x (CS hops AV)) i)
 case call c=>exact AHG hB hN hfb hfa hfe hfh hfm hev hfun hfun' (λg h=>hdk c g (by first|assumption|rfl) h) hops ho _
 case defer c=>
  have hlx:F.d:=hlv (by simp only[DV] at ho;exact ho.1)
  replace ho:=(AIf.1 (show (fb.d && _)=true from ho)).2
  cases hq:c.callee with
  |value f=>
   by_cases hst: ∃g,f=.func g
   ·obtain⟨g,rfl⟩:=hst;rw[hq] at ho;simp only[DV] at ho;have hn: ∀n,F.a g n:=λn=>hfa _ _ (by unfold KX;rw[show fb.a g=AB by simpa using ho.2]);exact (nz hev hfun hfun' hq (hfb _ ho.1) hn hops _).bind λ_ _ _ _ h=>λ_=>.defer hlx (λg' q e=>by rw[h.2] at e;cases e;exact hn) h.1
   rw[bI λg e=>hst ⟨g,by rw[hq] at e;cases e;rfl⟩] at hops;rw[hq] at ho
   have ho:fb.h=true/\Ua fb.m f c.args.size=true:=by
    cases f with|func g=>exact Ak ⟨g,rfl⟩ hst|_=>simpa only[DV] using ho
   exact (AER hfm (hfh ho.1) (hB.va (hfh ho.1)) hB.za hev hfun hops hq ho.2 _).bind λ_ _ _ _ h=>λ_=>.defer hlx h.2 h.1
  |builtin b=>rw[hq] at ho;exact Ak (show false=true from ho) AV|invoke r n=>rw[hq] at ho;exact Ak (show false=true from ho) AV
 case panic x=>exact GK (AEE (hev x (CS hops AV)))
 case lookup t x k ok=>exact GK (ABi hN ho (hev x (CS hops AV)) (hev k (CS hops AV)) ok)
 case mapUpdate t m k x=>exact AEN (ng hN ho (hev m (CS hops AV)) (hev k (CS hops AV)) (hev x (CS hops AV)))
 case makeMap t r=>
  cases r<;>first|exact Ak (show false=true from ho) AV|exact GK (zJ t)
 case range t x=>exact GK (AEH (hev x (CS hops AV)))
 case next it b=>exact GK (AHE (hev it (CS hops AV)) b o.type)
 case entry it=>exact GK (AEK (hev it (CS hops AV)))
 case index t x i=>exact GK (AEL (hev x (CS hops AV)) (hev i (CS hops AV)))
 case typeAssert x t a ok=>
  (cases ok);exact GK (fH hN (hev x (CS hops AV)) t a);exact GK (jr (hev x (CS hops AV)) t a ho)
end
end
section
variable {ops:Array BU}{T p p':Array AQ}{fb:Fb}{f:AX}{z:Bj}{k k':List Item}{l l':Nat}{o o':Option Nat}
section
variable {T:Twin} {F:Fs} {N:Nat} {ρ:Rn}
theorem VW(h:ρ.r l l'){r r':Loop}(hr:vN F ρ r r'):AY T F N Ej (I8 l (.loop r)) ρ (I8 l' (.loop r')):=
 λ_=>⟨h,.loop hr,rfl,AV,rfl⟩
theorem jw(h:ρ.r l l'):AY T F N Ej (Yp l) ρ (Yp l'):=by
 unfold Yp;refine (Oa h).bind λρ₁ r r' l1 hr=>?_;refine (VW (l1.r _ _ h) (r:={r with state:=.busy}) (r':={r' with state:=.busy}) ⟨rfl,hr.pending,hr.fn,hr.tmps,hr.params,hr.few,hr.assign,hr.body,hr.okF,hr.okA,hr.okB,hr.okJ,hr.defers⟩).bind λρ₂ _ _ l2 _=>?_;rw[hr.state];(cases r.state);exact λ_=>rfl;exact Bo (e:=.error _) trivial;exact Bo (e:=.error _) trivial;exact Bo (e:=.error _) trivial
theorem uT(h:ρ.r l l'){j:Option Code}(hj:(∃x,F.c x)->∀c,j=AA c->F.c c):AY T F N (QV F) (UN l j) ρ (UN l' j):=by
 unfold UN;refine (Oa h).bind λρ₁ r r' l1 hr=>?_
 refine (VW (l1.r _ _ h) (r:={r with state:=if j.isNone then .ready else .done,pending:=j}) (r':={r' with state:=if j.isNone then .ready else .done,pending:=j})
  ⟨rfl,rfl,hr.fn,hr.tmps,hr.params,hr.few,hr.assign,hr.body,hr.okF,hr.okA,hr.okB,hj ⟨_,hr.okA⟩,hr.defers⟩).bind λρ₂ _ _ l2 _=>λ_=>.flat rfl
theorem zS(h:ρ.r l l'):AY T F N (λ_ j j'=>j=j'/\∀c,j=AA c->F.c c) (Instr.endLoop l) ρ (Instr.endLoop l'):=by
 unfold Instr.endLoop;refine (Oa h).bind λρ₁ r r' l1 hr=>?_
 have key:AY T F N (λ_ j j'=>j=j'/\∀c,j=AA c->F.c c) (do I8 l (.loop {r with state:=.exhausted});pure r.pending:Sem (Option Code)) ρ₁ (do I8 l' (.loop {r' with state:=.exhausted});pure r'.pending):=
  (VW (l1.r _ _ h) (r:={r with state:=.exhausted}) (r':={r' with state:=.exhausted}) ⟨rfl,hr.pending,hr.fn,hr.tmps,hr.params,hr.few,hr.assign,hr.body,hr.okF,hr.okA,hr.okB,hr.okJ,hr.defers⟩).bind
   λρ₂ _ _ l2 _=>λ_=>⟨hr.pending.symm,hr.okJ⟩
 rw[hr.state];by_cases hb:(r.state== .busy)=true
 ·simp only[hb,if_true];exact AY.bind (Q:=λ_ _ _=>False) (Bo (e:=.error _) trivial) λ_ _ _ _ e=>e.elim
 simp only[hb,if_false,DF];exact key
theorem oC(f:Bj)(hF:F.r f)(hp:Az F ρ p p')(ps:Array Tmp)(hps:ps.size<=2){a b:Code}(ha:F.c a)(hb:F.c b)(ho:match o,o' with|none,AB=>True|some l,AA l'=>ρ.r l l'|_,_=>False):
  AY T F N (λρ (x y:Nat×List EM)=>ρ.r x.1 y.1/\Cm (JA F ρ) x.2 y.2/\∀d∈x.2,∃b,d.target=.collected b) (WH f p ps a b o) ρ (WH f p' ps a b o'):=by
 cases o<;>cases o'<;>first|exact ho.elim|skip
 ·have e: ∀t:Array AQ,WH f t ps a b AB=(newObj (.deferred (AA []))>>=λr=>newObj (.loop {state:=.ready,pending:=AB,fn:=f,tmps:=t,params:=ps,assign:=a,body:=b,defers:=r})>>=λl=>pure (l,[{target:=.collected r,args:=#[]}]):Sem (Nat×List EM)):=λ_=>rfl;rw[e,e];refine AY.bind (Q:=λρ (x y:Nat)=>ρ.r x y) (λ_=>.inr ⟨.deferred,λn n' _=>.inr ⟨rfl,rfl⟩⟩) λρ₁ x y l1 hx=>?_;refine AY.bind (Q:=λρ (x y:Nat)=>ρ.r x y) (λ_=>.inr ⟨.loop ⟨rfl,rfl,rfl,hp.mono l1,rfl,hps,rfl,rfl,hF,ha,hb,λj hj=>(by cases hj),hx⟩,λn n' _=>.inr ⟨rfl,rfl⟩⟩) λρ₂ x' y' l2 hxy=>λ_=>⟨hxy,?_,λd hd=>⟨x,by simp only[CJ] at hd;rw[hd]⟩⟩;exact .cons (.mk (.collected (l2.r _ _ hx)) Az.nil) .nil
 rename_i l l';have e: ∀(t:Array AQ) (l:Nat),WH f t ps a b (AA l)=(aT l>>=λr=>newObj (.loop {state:=.ready,pending:=AB,fn:=f,tmps:=t,params:=ps,assign:=a,body:=b,defers:=r.defers})>>=λl=>pure (l,[]):Sem (Nat×List EM)):=λ_ _=>rfl;rw[e,e];refine (Oa ho).bind λρ₁ r r' l1 hr=>?_;refine AY.bind (Q:=λρ (x y:Nat)=>ρ.r x y) (λ_=>.inr ⟨.loop ⟨rfl,rfl,rfl,hp.mono l1,rfl,hps,rfl,rfl,hF,ha,hb,λj hj=>(by cases hj),hr.defers⟩,λn n' _=>.inr ⟨rfl,rfl⟩⟩) λρ₂ x' y' l2 hxy=>λ_=>⟨hxy,.nil,λd hd=>(by cases hd)⟩
theorem bJ{b b':Nat}(h:ρ.r b b'):AY T F N (λ_ x y=>x=[]/\y=[]) (lg b) ρ (lg b'):=by
 unfold lg;refine AY.bind (Q:=λρ=>Gw F ρ) (λ_=>⟨h,λo o' ho=>ho⟩) λρ₁ o o' l1 ho=>?_
 cases ho with
 |deferred=>
  refine AY.bind (Q:=Ej) (λ_=>⟨l1.r _ _ h,.LH,rfl,AV,rfl⟩) λρ₂ _ _ l2 _=>λ_=>?_;exact⟨rfl,rfl⟩
 |_=>exact λ_=>Ap
theorem zT(fn:Func)(hp:Az F ρ p p'):AY T F N (QV F) (results fn p) ρ (results fn p'):=by
 unfold results
 have key: ∀(l:List ResultVar) {ρ:Rn},Az F ρ p p'->AY T F N (λρ (x y:List AQ)=>Az F ρ x.toArray y.toArray)
   (l.mapM (fun| .tmp t=>pure (p.getD t AU)| .cell a t=>do loadVar t (<- asAddr (p.getD a AU)):ResultVar->Sem AQ)) ρ
   (l.mapM (fun| .tmp t=>pure (p'.getD t AU)| .cell a t=>do loadVar t (<- asAddr (p'.getD a AU)):ResultVar->Sem AQ)):=by
  intro l
  induction l with
  |nil=>intro ρ _;rw[List.mapM_nil,List.mapM_nil];exact λ_=>Az.nil
  |cons r l ih=>
   intro ρ hp;rw[AD0,AD0];refine AY.bind (Q:=QV F) ?_ λρ₁ x y l1 hx=>?_
   ·cases r with
    |tmp t=>exact λ_=>hp.getD t|cell a t=>exact (iZ (hp.getD a)).bind λρ₁ x y l1 hx=>OY t hx
   refine (ih (hp.mono l1)).bind λρ₂ xs ys l2 hxs=>λ_=>?_;refine⟨by have:=hxs.1;simpa using this,λi v v' h1 h2=>?_⟩
   cases i with|zero=>simp at h1 h2;subst h1 h2;exact hx.mono l2|succ i=>exact hxs.2 i v v' (by simpa using h1) (by simpa using h2)
 rw[ADz,ADz];refine AY.bind (Q:=λρ (x y:Array AQ)=>Az F ρ x y) ((key fn.results.toList hp).bind λρ₁ x y l1 h=>λ_=>h) λρ₁ x y l1 h=>λ_=>?_;show BC F ρ₁ (if h:x.size=1 then x[0] else .tuple x) (if h:y.size=1 then y[0] else .tuple y);by_cases h1:x.size=1
 ·have h2:y.size=1:=h.1▸h1;rw[dif_pos h1,dif_pos h2];exact h.2 0 _ _ (Fa Aa) (Fa Aa)
 have h2: ¬y.size=1:=h.1▸h1;rw[dif_neg h1,dif_neg h2];exact .tuple h.1 h.2
end
def VX (g:Option Bj):Op->Option Call
 | .call c=>(match c.callee with| .value (.func f)=>if g==AA f then AA c else AB|_=>AB)
 |_=>AB
def Jz (fb:Fb) (ops:Array BU) (j:Nat):Option Tmp:=match ops[j]? with
 |some o=>(match VX fb.ch o.op with|some _=>o.dst|none=>AB)
 |none=>AB
def QI (fb:Fb) (ops:Array BU) (i:Nat):Option (Option Tmp):=match ops[i]? with
 |some o=>(match VX fb.cp o.op with|some c=>AA (match (c.args[0]? :Option DU) with|some (.tmp t)=>AA t|_=>AB)|none=>AB)
 |none=>AB
def fJ (fb:Fb) (ops:Array BU):Bool:=(Fv ops.size).all λi=>match QI fb ops i with
 |none=>true|some AB=>false
 |some (AA t)=>(match ops[i]? with|some o=>o.after.any (λe=>Yq .any e && (decide (e.on<i) && Jz fb ops e.on==AA t))|none=>false) &&
   (Fv ops.size).all (λj=>Jz fb ops j==AA t || (match ops[j]? with|some o=> !(o.dst==AA t)|none=>true))
def vU (z:Bj) (x:AQ):Prop:=x=AU\/∃s n,x=F6 z s n
def RG (fb:Fb) (z:Bj) (ops:Array BU) (rest:List Nat) (T:Array AQ):Prop:=
 ∀i t,QI fb ops i=AA (AA t)->vU z (T.getD t AU)\/∀pre post,rest=pre++i::post->∃j∈pre,Jz fb ops j=AA t
theorem vV(h:fJ fb ops=true){i:Nat}{t:Tmp}(hi:QI fb ops i=AA (AA t)):
  (∃o,ops[i]? =AA o/\∃e∈o.after,Yq .any e=true/\e.on<i/\Jz fb ops e.on=AA t)/\∀j o,ops[j]? =AA o->Jz fb ops j=AA t\/o.dst≠AA t:=by
 have hlt:i<ops.size:=by
  unfold QI at hi
  cases e:ops[i]? with|none=>rw[e] at hi;cases hi|some o=>exact (Dj.1 e).1
 have h1:=JH.1 h i (XA.2 hlt);simp only[hi,DV] at h1;obtain⟨h1,h2⟩:=h1;refine⟨?_,λj o ho=>?_⟩
 ·rw[Fa hlt] at h1⊢;obtain⟨e,he,h3⟩:=Array.any_eq_true'.1 h1;simp only[DV,decide_eq_true_eq,beq_iff_eq] at h3;exact⟨_,rfl,e,he,h3.1,h3.2.1,h3.2.2⟩
 have h3:=JH.1 h2 j (XA.2 (Dj.1 ho).1);rw[ho] at h3;simp only[XB,beq_iff_eq,ZU,beq_eq_false_iff_ne] at h3;exact h3
theorem vW(h:fJ fb ops=true){L:List Nat}(hL: ∀pre i post,L=pre++i::post->∀o,ops[i]? =AA o->∀e∈o.after,Yq .any e=true->e.on<i->e.on∈pre):RG fb z ops L T:=by
 intro i t hi;obtain⟨⟨o,ho,e,he,hb,hlt,hc⟩,_⟩:=vV h hi;exact .inr λpre post e1=>⟨e.on,hL pre i post e1 o ho e he hb hlt,hc⟩
theorem range_split{n:Nat}: ∀{pre:List Nat} {i:Nat} {post:List Nat},Fv n=pre++i::post->∀j,j<i->j∈pre:=by
 intro pre i post e j hj;have hlen:(Fv n).length=n:=List.length_range;have hp:pre.length<n:=by rw[e] at hlen;simp at hlen;omega
 have hi:i=pre.length:=by
  (have h1:(Fv n)[pre.length]? =AA i:=by rw[e];simp);rw[AIg hp] at h1;exact (EI h1).symm
 have h2:(Fv n)[j]? =AA j:=AIg Aa;rw[e,Nb Aa] at h2;exact Bq h2
theorem AME{m:Region.Mode}: ∀(fuel t:Nat) (listed:Array Bool) (acc:List Nat),(∀j,listed.getD j false=true->j∈acc)->
  ∃L,Yr m ops fuel t listed acc=acc.reverse++L/\∀pre i post,L=pre++i::post->∀o,ops[i]? =AA o->∀e∈o.after,Yq m e=true->e.on∈acc.reverse++pre:=by
 intro fuel
 induction fuel with
 |zero=>intro t listed acc h;exact⟨[],by simp[Yr],λpre i post e=>by simp at e⟩
 |succ fuel ih=>
  intro t listed acc h;unfold Yr;simp only;split
  ·rename_i i hi;have him:=Bq hi;rw[ZV] at him;simp only[DV,ZU] at him;obtain⟨_,hl0,him⟩:=him
   obtain⟨L,h1,h2⟩:=ih (t/_) (listed.setIfInBounds i true) (i::acc) (λj hj=>by
    rw[RD,ABQ] at hj;by_cases hij:i=j;exact BD.2 (.inl hij.symm);rw[BM hij,<- RD] at hj
    exact CO _ (h j hj))
   refine⟨i::L,by rw[h1];simp,λpre i' post e o ho ed hed hb=>?_⟩
   cases pre with
   |nil=>
    simp only[List.nil_append,Ib] at e;obtain⟨rfl,_⟩:=e;rw[ho] at him;simp only[Fq,Dx] at him;have h3:=VN.1 him ed hed;rw[hb] at h3;have:=h _ (by simpa using h3);simpa using this
   |cons a pre=>
    simp only[List.cons_append,Ib] at e;obtain⟨rfl,e⟩:=e;have:=h2 pre i' post e o ho ed hed hb;simpa using this
  exact⟨[],AV,λpre i post e=>by simp at e⟩
theorem zU(h:fJ fb ops=true)(mixed:Bool)(t:Nat):RG fb z ops (Region.schedule mixed ops t) T:=by
 have key: ∀m t,RG fb z ops (Region.linearise m ops t) T:=λm t=>by
  obtain⟨L,h1,h2⟩:=AME (m:=m) (ops:=ops) ops.size t (IV ops.size false) [] (λj hj=>by
   rw[RD,AIb] at hj
   split at hj<;>simp at hj)
  refine vW h λpre i post e o ho ed hed hb _=>?_
  have e2:L=pre++i::post:=by
   rw[<- e];show L=Yr m ops ops.size t (IV ops.size false) [];rw[h1];rfl
  have:=h2 pre i post e2 o ho ed hed (by
   unfold Yq at hb⊢
   cases hg:ed.ground with|textOnly _=>rw[hg] at hb;cases hb|gcOnly _=>rw[hg] at hb;cases hb|_=>rfl)
  simpa using this
 unfold Region.schedule;split;exact key _ _;exact key _ _
theorem RG.step{fb:Fb}{z:Bj}{ops:Array BU}{a:Nat}{rest:List Nat}{T:Array AQ}(h:RG fb z ops (a::rest) T)(hok:fJ fb ops=true){x:AQ}(hx:Jz fb ops a=AB\/vU z x):
  RG fb z ops rest (match (ops[a]?).bind (·.dst) with|none=>T|some d=>T.setIfInBounds d x):=by
 intro i t hi;obtain⟨_,hd⟩:=vV hok hi;by_cases hc:Jz fb ops a=AA t
 ·left;have hs:vU z x:=hx.elim (λe=>by rw[hc] at e;cases e) id
  have hdst:(ops[a]?).bind (·.dst)=AA t:=by
   unfold Jz at hc
   cases e:ops[a]? with
   |none=>rw[e] at hc;cases hc|some o=>
    rw[e] at hc;simp only at hc;split at hc;exact hc;cases hc
  simp only[hdst];rw[RD,ABQ];simp only[if_true];split;exact hs;exact .inl rfl
 have e:(match (ops[a]?).bind (·.dst) with|none=>T|some d=>T.setIfInBounds d x).getD t AU=T.getD t AU:=by
  cases e:ops[a]? with
  |none=>rfl|some o=>
   have:=(hd a o e).resolve_left hc;simp only[Option.bind_some]
   cases e2:o.dst with
   |none=>rfl|some d=>
    simp only;rw[RD,RD,D5 (λe3=>this (by rw[e2,e3]))]
 rw[e];rcases h i t hi with h1|h1;exact .inl h1;refine .inr λpre post e3=>?_;obtain⟨j,hj,hjc⟩:=h1 (a::pre) post (by rw[e3];rfl);rcases BD.1 hj with rfl|hj;exact Ak hjc hc;exact⟨j,hj,hjc⟩
def Jf (P:BL) (fb:Fb) (G:Nat) (d r:Bool):Code->Bool
 | .skip| .exit _| .label _| .goto _| .ret=>true| .region _ ops _=>(ops.all λo=>WQ P fb G o.op && (d || !(match o.op with| .defer _=>true|_=>false))) && fJ fb ops
 | .seq a b=>Jf P fb G d r a && Jf P fb G d r b| .cond c a b=>IJ fb G c && Jf P fb G d r a && Jf P fb G d r b| .block _ c| .loop c| .scope c=>Jf P fb G d r c| .rangeFunc f ps a b=>((fb.l && r) && fb.h) && (IJ fb G f && decide (1<=fb.m)) && decide (ps.size<=2) && Jf P Fb.small G false false a && Jf P Fb.small G false false b| .refuse _=>true
structure Kit where
 P:BL
 fb:Fb
 G:Nat
 X:Bj->Bool
 z:Bj
 p:Prop:=False
abbrev Kit.F (K:Kit):Fs:={f:=λf=>K.fb f=true,v:=λf=>K.fb.v f=true,c:=λc=>Jf K.P Fb.small K.G false false c=true/\K.fb.l=true,r:=λf=>K.fb.lr f=true/\K.fb.l=true,z:=K.z,m:=K.fb.m,a:=λf n=>KX K.fb f n=true,d:=K.fb.d=true,p:=K.p,e:=λf=>K.fb.e f=true,h:=K.fb.h=true,dk:=λf p=>K.fb.cp=AA f->∀x,p[0]? =AA x->vU K.z x}
inductive LM (K:Kit) (d r:Bool) (ρ:Rn):Item->Item->Prop
 |code {c:Code}:Jf K.P K.fb K.G d r c=true->LM K d r ρ (.code c) (.code c)|inBlock {n:Nat}:LM K d r ρ (.inBlock n) (.inBlock n)|inLoop {c:Code}:Jf K.P K.fb K.G d r c=true->LM K d r ρ (.inLoop c) (.inLoop c)|inScope {c:Code}:Jf K.P K.fb K.G d r c=true->LM K d r ρ (.inScope c) (.inScope c)|inRegion {ops:Array BU} {l:List Nat}:Jf K.P K.fb K.G d r (.region 0 ops false)=true->LM K d r ρ (.inRegion ops l) (.inRegion ops l)|inRangeFunc {l l':Nat}:ρ.r l l'->LM K d r ρ (.inRangeFunc l) (.inRangeFunc l')|endRangeFunc {l l':Nat}:ρ.r l l'->LM K d r ρ (.endRangeFunc l) (.endRangeFunc l')|beginRound:LM K d r ρ .beginRound .beginRound
structure jC (F:Fs) (ρ:Rn) (e e':NV):Prop where
 v:BC F ρ e.v e'.v
 r:e'.recovered=e.recovered
 g:e.goexit=false/\e'.goexit=false
 u:e.recovered=false
inductive jD (F:Fs) (ρ:Rn):FrameMode->FrameMode->Prop
 |run:jD F ρ .run .run|returning:jD F ρ .returning .returning|panicking {c c':List NV}:Cm (jC F ρ) c c'->jD F ρ (.panicking c) (.panicking c')
def zV (ρ:Rn):Option Nat->Option Nat->Prop
 |none,AB=>True|some l,AA l'=>ρ.r l l'|_,_=>False
def JV (l:List Item):Prop:=∀ops r,Item.inRegion ops r∉l
def RGf (K:Kit) (f:AX):Prop:=JV f.todo.tail/\(f.mode=.run->∀ops rest k,f.todo=.inRegion ops rest::k->RG K.fb K.z ops rest f.tmps)
def NC (K:Kit) (f:AX):Prop:=f.mode=.run->∀ops a rest k,f.todo=.inRegion ops (a::rest)::k->Jz K.fb ops a=AB
theorem RGf.plain{K:Kit}(h:JV f.todo):RGf K f:=⟨λops r hm=>h ops r (List.mem_of_mem_tail hm),λ_ ops rest k e=>Ak (by rw[e];exact D7 ..) (h ops rest)⟩
theorem JV.cons{i:Item}{l:List Item}(hi: ∀ops r,i≠ .inRegion ops r)(h:JV l):JV (i::l):=λops r hm=>(BD.1 hm).elim (λe=>hi ops r e.symm) (h ops r)
theorem JV.nil:JV []:=λ_ _ h=>by cases h
structure DJ (K:Kit) (T:Twin) (ρ:Rn) (f f':AX):Prop where
 fn:f'.fn=f.fn
 ok:K.fb f.fn=true/\K.X f.fn=false
 tmps:Az K.F ρ f.tmps f'.tmps
 todo:Cm (LM K f.roundOf.isNone (K.fb.lr f.fn) ρ) f.todo f'.todo
 defers:Cm (JA K.F ρ) f.defers f'.defers
 mode:jD K.F ρ f.mode f'.mode
 kind:f'.kind=f.kind/\(f.kind=.normal\/f.kind=.deferred)
 round:zV ρ f.roundOf f'.roundOf
 nd: ∀d∈f.defers,(K.fb.l=true/\∃b,d.target=.collected b)\/(K.fb.d=true/\∀g q,d.target=.fn (.func g) q->∀n,K.F.a g n)
 rg:RGf K f
structure Ic (K:Kit) (T:Twin) (ρ:Rn) (f f':AX):Prop where
 fr:DJ K T ρ f f'
 nc:NC K f
section
variable {K:Kit} {T:Twin} {ρ ρ':Rn} {d r:Bool}
theorem LM.mono(h:ρ.le ρ'){i i':Item}(k:LM K d r ρ i i'):LM K d r ρ' i i':=by
 cases k with|code a=>exact .code a|inBlock=>exact .inBlock|inLoop a=>exact .inLoop a|inScope a=>exact .inScope a|inRegion a=>exact .inRegion a|inRangeFunc a=>exact .inRangeFunc (h.r _ _ a)|endRangeFunc a=>exact .endRangeFunc (h.r _ _ a)|beginRound=>exact .beginRound
theorem jD.mono{F:Fs}(h:ρ.le ρ'){i i':FrameMode}(k:jD F ρ i i'):jD F ρ' i i':=by
 cases k with|run=>exact .run|returning=>exact .returning|panicking a=>exact .panicking (CW (λ_ _ x=>⟨x.v.mono h,x.r,x.g,x.u⟩) a)
theorem zV.mono(h:ρ.le ρ')(k:zV ρ o o'):zV ρ' o o':=by
 cases o<;>cases o'<;>first|exact k.elim|trivial|exact h.r _ _ k
theorem DJ.mono(h:ρ.le ρ'){f f':AX}(k:DJ K T ρ f f'):DJ K T ρ' f f':=
 ⟨k.fn,k.ok,k.tmps.mono h,CW (λ_ _ x=>x.mono h) k.todo,CW (λ_ _ x=>x.mono' (.refl _) h) k.defers,k.mode.mono h,k.kind,k.round.mono h,k.nd,k.rg⟩
theorem Ic.mono(h:ρ.le ρ'){f f':AX}(k:Ic K T ρ f f'):Ic K T ρ' f f':=⟨k.fr.mono h,k.nc⟩
theorem DJ.ev{f':AX}(k:DJ K T ρ f f')(hG: ∀g,g<K.G->ρ.r g g):Qp K.F ρ K.fb K.G f.eval f'.eval:=by
 intro x hx
 cases x with|tmp t=>exact k.tmps.getD t|const v=>exact iY hx|global g=>exact .ptr ⟨hG g (by simpa[IJ] using hx),rfl,rfl⟩|func f=>exact .func (by simp only[IJ,DV] at hx;exact hx.1) (by simp only[IJ,DV] at hx;exact hx.2) rfl (λi v v' h=>by simp at h) rfl (λi v v' h=>by simp at h)
theorem LM.findLabel{c:Code}: ∀{l:Nat} {q:Code},Jf K.P K.fb K.G d r c=true->Go.findLabel c l=AA q->Jf K.P K.fb K.G d r q=true:=by
 induction c with
 |seq a b iha ihb=>
  intro l q h e;simp only[Jf,DV] at h;simp only[Go.findLabel] at e;split at e
  ·rename_i x hx;(cases e);simp only[Jf,DV];exact⟨iha h.1 hx,h.2⟩
  exact ihb h.2 e
 |label l'=>
  intro l q h e;simp only[Go.findLabel] at e;split at e;(cases e;rfl);cases e
 |_=>intro l q h e;simp[Go.findLabel] at e
theorem zW{id:Nat}(h:Cm (LM K d r ρ) k k'):match exitTo id k,exitTo id k' with
  |none,AB=>True|some a,AA b=>Cm (LM K d r ρ) a b|_,_=>False:=by
 induction h with
 |nil=>exact Ap|cons hi hl ih=>
  (cases hi<;>simp only[exitTo]<;>first|exact ih|skip);rename_i n;by_cases hn:(n==id)=true;simp only[hn,if_true];exact hl;simp only[hn,if_false,DF];exact ih
theorem zX{id:Nat}(h:Cm (LM K d r ρ) k k'):match gotoIn id k,gotoIn id k' with
  |none,AB=>True|some a,AA b=>Cm (LM K d r ρ) a b|_,_=>False:=by
 induction h with
 |nil=>exact Ap|cons hi hl ih=>
  (cases hi<;>simp only[gotoIn]<;>first|exact ih|skip);rename_i c hc
  cases hf:Go.findLabel c id with|none=>exact ih|some r=>exact .cons (.code (LM.findLabel hc hf)) (.cons (.inScope hc) hl)
theorem uU{id:Nat}: ∀{k l:List Item},JV k->exitTo id k=AA l->JV l:=by
 intro k
 induction k with
 |nil=>intro l _ e;cases e
 |cons i k ih=>
  intro l h e;have hk:JV k:=λops r hm=>h ops r (CO _ hm);(cases i<;>simp only[exitTo] at e<;>first|exact ih hk e|skip);split at e;(cases e;exact hk);exact ih hk e
theorem uV{id:Nat}: ∀{k l:List Item},JV k->gotoIn id k=AA l->JV l:=by
 intro k
 induction k with
 |nil=>intro l _ e;cases e
 |cons i k ih=>
  intro l h e;have hk:JV k:=λops r hm=>h ops r (CO _ hm);(cases i<;>simp only[gotoIn] at e<;>first|exact ih hk e|skip);split at e;(cases e;exact .cons (λ_ _ e=>by cases e) (.cons (λ_ _ e=>by cases e) hk));exact ih hk e
end
end
section
variable {p p':Array AQ}{k:CallKind}{fb:Fb}{f f':AX}{ch:List NV}{P:BL}
section
variable {T:Twin} {F:Fs} {N:Nat} {ρ:Rn} {α β:Type} {v w:AL}
def Res (p:Prop) (F:Fs) (N:Nat) (Q:Rn->α->β->Prop) (ρ:Rn) (v w:AL) (r:Result α) (r':Result β×Array Be):Prop:=
 match r with| .ok a v'=>∃ρ' b w' u,r'=(.ok b w',u)/\Q ρ' a b/\Stp F N ρ ρ' v w v' w' u| .halt (.panic x) v'=>p\/∃ρ' x' w' u,r'=(.halt (.panic x') w',u)/\BC F ρ' x x'/\Stp F N ρ ρ' v w v' w' u| .halt h _=>Halt.still h
theorem AY.sound{Q:Rn->α->β->Prop}{s:Sem α}{s':Sem β}(h:AY T F N Q s ρ s')(hW:DI F N ρ v w)(ht:Tp v w ((Lh (s.run T.v v)).drawn - v.drawn)):
  Res T.p F N Q ρ v w (s.run T.v v) (s'.runT T.P w #[]):=by
 have:=(DT.sound (h hW.ok) hW).2 ht;unfold Out at this;unfold Res;generalize s.run T.v v=r at this⊢
 cases r with
 |ok a v'=>
  obtain⟨ρ',b,w',u,h1,h2,h3⟩:=this;exact⟨ρ',b,w',u,by have:=h1 #[];simpa using this,h2,h3⟩
 |halt x v'=>
  cases x with
  |panic x=>
   rcases this with this|⟨ρ',b,w',u,h1,h2,h3⟩;exact .inl this;exact .inr ⟨ρ',b,w',u,by have:=h1 #[];simpa using this,h2,h3⟩
  |_=>exact this
theorem AY.drawn{Q:Rn->α->β->Prop}{s:Sem α}{s':Sem β}(h:AY T F N Q s ρ s')(hW:DI F N ρ v w):v.drawn<=(Lh (s.run T.v v)).drawn:=(DT.sound (h hW.ok) hW).1
def tied (v w:AL):AL:={w with tape:=λi q=>v.tape (v.drawn+(i - w.drawn)) q}
theorem DI.tied(hW:DI F N ρ v w):DI F N ρ v (tied v w):=⟨hW.ok,hW.obj,hW.tok,hW.nv,hW.nw,hW.os,Ux hW.seq (Bc _) (λ_ _ _=>rfl) (λ_ _=>.inl) rfl⟩
theorem AY.sort{Q:Rn->α->β->Prop}{s:Sem α}{s':Sem β}(h:AY T F N Q s ρ s')(hW:DI F N ρ v w):
  match s.run T.v v with| .ok a _=>∃ρ' b,Q ρ' a b| .halt (.panic _) _=>True| .halt h _=>Halt.still h:=by
 have:=h.sound hW.tied (λi _ q=>by simp[Go.Proofs.YtkkgcebhfghdnaaGreatDoor.tied]);unfold Res at this;generalize s.run T.v v=r at this
 cases r with
 |ok a v'=>obtain⟨ρ',b,_,_,_,hq,_⟩:=this;exact⟨ρ',b,hq⟩
 |halt x v'=>cases x<;>first|trivial|exact this
theorem Dy{p:BL}{fn:Bj}{es:Array Be}{e:Be}(h:e∈seen p fn es):e∈es:=by
 unfold seen at h;obtain⟨l⟩:=es;simp only[Iw,List.foldl_toArray'] at h
 have key: ∀(l:List Be) (q:Bool) (kept:Array Be),e∈(l.foldl (λ(x:Bool×Array Be) e=>match e.loc with
   | .mark (.extern f)=>((p.funcs[f]?).any (·.norace),x.2)
   |_=>(x.1,if x.1 && !e.sync then x.2 else x.2.push e)) (q,kept)).2->e∈kept\/e∈l:=by
  intro l
  induction l with
  |nil=>intro q kept h;exact .inl h
  |cons a l ih=>
   intro q kept h;rw[WC] at h;rcases ih _ _ h with h1|h1
   ·split at h1;exact .inl h1;split at h1;exact .inl h1;rcases Array.mem_push.1 h1 with h2|h2;exact .inl h2;exact .inr (by simp[h2])
   exact .inr (by simp[h1])
 rcases key l _ #[] h with h1|h1;simp at h1;simpa using h1
theorem Stp.sub{ρ':Rn}{v' w':AL}{u u':Array Be}(h:Stp F N ρ ρ' v w v' w' u)(k: ∀e∈u',e∈u):Stp F N ρ ρ' v w v' w' u':=
 {h with evs:=λe he=>h.evs e (k e he)}
end
section
variable {K:Kit} {T:Twin} {ρ:Rn}
theorem DJ.finish{f f':AX}(k:DJ K T ρ f f'){x x':AQ}(hx:BC K.F ρ x x')(hs:NC K f\/vU K.z x):DJ K T ρ (f.finish x) (f'.finish x'):=by
 have ht:=k.todo;unfold Frame.finish
 cases e:f.todo with
 |nil=>rw[e] at ht;cases e':f'.todo with
  |nil=>exact k|cons _ _=>rw[e'] at ht;cases ht
 |cons i l=>
  rw[e] at ht;have hnl:JV l:=by have:=k.rg.1;rw[e] at this;exact this
  cases e':f'.todo with
  |nil=>rw[e'] at ht;cases ht|cons i' l'=>
   rw[e'] at ht
   cases ht with
   |cons hi hl=>
    cases hi with
    | @inRegion ops todo ho=>
     cases todo with
     |nil=>exact k|cons j rest=>
      simp only;refine⟨k.fn,k.ok,?_,.cons (.inRegion ho) hl,k.defers,k.mode,k.kind,k.round,k.nd,hnl,λhm ops' rest' k' e2=>?_⟩
      ·cases (ops[j]?).bind (·.dst) with
       |none=>exact k.tmps|some d=>exact k.tmps.set hx d
      simp only[Ib,ABL] at e2;obtain⟨⟨rfl,rfl⟩,rfl⟩:=e2;have h1:=(k.rg.2 hm _ _ _ e).step (x:=x) (by have ho:=ho;simp only[Jf,DV] at ho;exact ho.2) (hs.imp (λh=>h hm _ _ _ _ e) id)
      cases hd:(ops[j]?).bind (·.dst) with|none=>rw[hd] at h1;exact h1|some d=>rw[hd] at h1;exact h1
    |inRangeFunc h=>exact⟨k.fn,k.ok,k.tmps,.cons (.endRangeFunc h) hl,k.defers,k.mode,k.kind,k.round,k.nd,.plain (.cons (λ_ _ e=>by cases e) hnl)⟩|beginRound=>exact⟨k.fn,k.ok,k.tmps,hl,k.defers,k.mode,k.kind,k.round,k.nd,.plain hnl⟩|_=>exact k
theorem DJ.XQ(k:DJ K T ρ f f'){m m':FrameMode}(h:jD K.F ρ m m')(hm:m=.run->f.mode=.run:=by intro h;cases h):DJ K T ρ {f with mode:=m} {f' with mode:=m'}:=
 ⟨k.fn,k.ok,k.tmps,k.todo,k.defers,h,k.kind,k.round,k.nd,k.rg.1,λh1=>k.rg.2 (hm h1)⟩
theorem DJ.raise{f f':AX}(k:DJ K T ρ f f'){c c':List NV}(h:Cm (jC K.F ρ) c c'):DJ K T ρ (f.raise c) (f'.raise c'):=by
 have app: ∀{a a' b b':List NV},Cm (jC K.F ρ) a a'->Cm (jC K.F ρ) b b'->Cm (jC K.F ρ) (a++b) (a'++b'):=by
  intro a a' b b' ha hb
  induction ha with|nil=>exact hb|cons x _ ih=>exact .cons x ih
 have hm:=k.mode;unfold Frame.raise;generalize f.mode=m at hm;generalize f'.mode=m' at hm
 cases hm with|run=>exact k.XQ (.panicking h)|returning=>exact k.XQ (.panicking h)|panicking hc=>exact k.XQ (.panicking (app h hc))
theorem DJ.bK(k:DJ K T ρ f f'){l l':List Item}(h:Cm (LM K f.roundOf.isNone (K.fb.lr f.fn) ρ) l l')(hr:RGf K {f with todo:=l}):DJ K T ρ {f with todo:=l} {f' with todo:=l'}:=
 ⟨k.fn,k.ok,k.tmps,h,k.defers,k.mode,k.kind,k.round,k.nd,hr⟩
end
def Nj (ch:List NV):Prop:=∀e∈ch,e.recovered=false
theorem fK{F:Fs}{ρ:Rn}{c c':List NV}(h:Cm (jC F ρ) c c'):Nj c:=by
 induction h with
 |nil=>intro e he;cases he
 |cons hp _ ih=>
  intro e he;rcases BD.1 he with rfl|he;exact hp.u;exact ih e he
structure Gone (dr c:AX):Prop where
 run:dr.mode=.run->c=dr\/(∃x,c=dr.finish x)\/∃ch,c=dr.raise ch
 pan: ∀ch,dr.mode=.panicking ch->Nj ch->∃ch',c.mode=.panicking ch'/\Nj ch'
def lQ (K:Kit) (N:Nat) (ρ:Rn) (v w:AL) (dr c:AX) (v1:AL) (cs':List AX) (r':GStep):Prop:=
 ∀c0' ABo,cs'=c0'::ABo->dr.mode=.run->c0'.mode=.run->
  (∃x x' ρ1 w1 es',c=dr.finish x/\r'=.go (G (c0'.finish x') ABo) w1 es'/\BC K.F ρ1 x x'/\Stp K.F N ρ ρ1 v w v1 w1 es')\/
  (∃ρ1 w1 es',c=dr/\r'=.go (G c0' ABo) w1 es'/\Stp K.F N ρ ρ1 v w v1 w1 es')\/∃ch,c=dr.raise ch/\Nj ch
theorem lQ.after{K:Kit}{N:Nat}{ρ ρ':Rn}{v w v' w' v1:AL}{dr c:AX}{cs':List AX}{r':GStep}{u es:Array Be}(h:lQ K N ρ' v' w' dr c v1 cs' r')(hst:Stp K.F N ρ ρ' v w v' w' u)(hW:DI K.F N ρ v w)(hs: ∀e∈es,e∈u):
  lQ K N ρ v w dr c v1 cs' (DZ es r'):=by
 intro c0 cs0 e h1 h2
 have key: ∀{ρ1:Rn} {w1:AL} {es':Array Be},Stp K.F N ρ' ρ1 v' w' v1 w1 es'->Stp K.F N ρ ρ1 v w v1 w1 (es++es'):=λk=>
  {hst.trans k hW with evs:=λx hx=>(hst.trans k hW).evs x ((JU.1 hx).elim (λh=>JU.2 (.inl (hs _ h))) λh=>JU.2 (.inr h))}
 rcases h c0 cs0 e h1 h2 with ⟨x,x',ρ1,w1,es',a,b,c,d⟩|⟨ρ1,w1,es',a,b,c⟩|k
 ·exact .inl ⟨x,x',ρ1,w1,es++es',a,by rw[b];rfl,c,key d⟩
 ·exact .inr (.inl ⟨ρ1,w1,es++es',a,by rw[b];rfl,key c⟩)
 exact .inr (.inr k)
theorem zY(f:AX)(x:AQ):(f.finish x).mode=f.mode:=by
 unfold Frame.finish;split<;>rfl
theorem Zd(f:AX){ch':List NV}(h:f.mode=.panicking ch)(h1:Nj ch)(h2:Nj ch'): ∃c,(f.raise ch').mode=.panicking c/\Nj c:=by
 refine⟨ch'++ch,by unfold Frame.raise;rw[h],λe he=>?_⟩;rcases Bd.1 he with he|he;exact h2 e he;exact h1 e he
section
variable {K:Kit} {T:Twin} {ρ:Rn}
theorem DJ.APg(h:DJ K T ρ f f')(e:f.mode=.panicking ch):Nj ch:=by
 have hm:=h.mode;rw[e] at hm;generalize f'.mode=m at hm
 cases hm with|panicking hc=>exact fK hc
theorem Tu(h:DJ K T ρ f f')(hu:Nj ch): ∃c,(f.raise ch).mode=.panicking c/\Nj c:=by
 cases e:f.mode with|panicking c=>exact Zd f e (h.APg e) hu|run=>exact⟨ch,by unfold Frame.raise;rw[e],hu⟩|returning=>exact⟨ch,by unfold Frame.raise;rw[e],hu⟩
end
def TR (K:Kit) (T:Twin) (N:Nat) (ρ:Rn) (v w:AL) (dr:AX) (ds:List AX) (cs':List AX) (r r':GStep):Prop:=
 match r with
 | .go g1 v1 _=>
  (∃f1 Dl f1' Hl ρ1 w1 es',g1=G f1 (Dl++(dr::ds))/\r'=.go (G f1' (Hl++cs')) w1 es'/\DJ K T ρ1 f1 f1'/\Cm (Ic K T ρ1) Dl Hl/\Stp K.F N ρ ρ1 v w v1 w1 es')\/
  (∃X p p' k f1 Dl f1' Hl ρ1 w1 es',K.fb X=true/\(K.X X=true/\KX K.fb X p.size=true/\K.F.dk X p/\(K.fb.ch=AA X\/NC K f1))/\g1=G (Ba T.v X p k) (f1::(Dl++(dr::ds)))/\r'=.go (G (Ba T.P X p' k) (f1'::(Hl++cs'))) w1 es'/\Az K.F ρ1 p p'/\
    DJ K T ρ1 f1 f1'/\Cm (Ic K T ρ1) Dl Hl/\Stp K.F N ρ ρ1 v w v1 w1 es'/\k=.normal)\/
  (∃c,g1=G c ds/\Gone dr c/\lQ K N ρ v w dr c v1 cs' r'/\v.drawn<=v1.drawn)\/
  (T.p/\v.drawn<=v1.drawn/\∃f1 Dl,g1=G f1 (Dl++(dr::ds))/\∃ch,f1.mode=.panicking ch/\Nj ch)\/
  (∃p k f1 Dl,(∃s n a b,ρ.q s n a b)/\p.size<=K.fb.m+2/\v.drawn<=v1.drawn/\g1=G (Ba T.v K.z p k) (f1::(Dl++(dr::ds))))
 | .ended _ _ _=>True|_=>False
structure Fits (K:Kit) (T:Twin) (N:Nat):Prop where
 ops: ∀op,WQ K.P K.fb K.G op=WQ T.P K.fb K.G op
 same: ∀f,K.fb f=true->K.X f=false->T.F[f]? =T.P.funcs[f]?
 bodies:Gu T K.F N
 N:T.P.globals.size<N
 body: ∀f fn,K.fb f=true->K.X f=false->T.P.funcs[f]? =AA fn->∀c,fn.body=AA c->Jf K.P K.fb K.G true (K.fb.lr f) c=true
 lr:K.fb.h=true->∀f,K.fb.lr f=true->K.fb f=true/\K.X f=false
 xa: ∀f,K.X f=true->¬ ∀n,K.F.a f n
 ch: ∀f,K.fb.ch=AA f->K.fb f=true/\K.X f=true
section
variable {K:Kit} {T:Twin} {N:Nat} {ρ:Rn} {v w:AL} {dr:AX} {ds cs':List AX}
theorem AF7(hK:Fits K T N){f:Bj}(h:K.fb f=true)(h':K.X f=false):T.v.funcs[f]? =T.P.funcs[f]? :=hK.same f h h'
theorem Ob(hK:Fits K T N){f:Bj}(hf:K.fb f=true)(hX:K.X f=false)(hp:Az K.F ρ p p')(hk:k=.normal\/k=.deferred):
  DJ K T ρ (Ba T.v f p k) (Ba T.P f p' k):=by
 obtain⟨fn,h1,h2,_⟩:=hK.bodies.a f hf;have h1':T.v.funcs[f]? =AA fn:=(AF7 hK hf hX).trans h1
 obtain⟨c,hc⟩: ∃c,fn.body=AA c:=by
  cases h:fn.body with|none=>rw[h] at h2;cases h2|some c=>exact⟨c,rfl⟩
 have e: ∀(P:BL) (q:Array AQ),P.funcs[f]? =AA fn->Ba P f q k={fn:=f,tmps:=q++IV (fn.ntmps - q.size) AU,todo:=[.code c],defers:=[],mode:=.run,kind:=k}:=by
  intro P q h;unfold Ba;simp[h,hc]
 rw[e T.v p h1',e T.P p' h1];exact⟨rfl,⟨hf,hX⟩,by rw[<- hp.1];exact hp.append (Az.replicate .undef _),.cons (.code (hK.body f fn hf hX h1 c hc)) .nil,.nil,.run,⟨rfl,hk⟩,Ap,λ_ h=>(by cases h),.plain (.cons (λ_ _ e=>by cases e) .nil)⟩
theorem ABp{G:Nat}{op:Op}(h:WQ P Fb.small G op=true):WQ P fb G op=true:=by
 have hd: ∀x,IJ Fb.small G x=true->IJ fb G x=true:=λx hx=>by cases x<;>first|exact hx|cases hx
 have hm: ∀{name:String},RX P Fb.small name=true->RX P fb name=true:=λ{name} hx=>by
  unfold RX at hx⊢;rw[JH] at hx⊢;intro t ht;have h1:=hx t ht;split at h1
  ·split at h1
   ·exfalso;simp only[DV] at h1;obtain⟨_,h2⟩:=h1;split at h2;simp only[DV] at h2;cases h2.1;cases h2
   rfl
  rfl
 have hf: ∀{x:DU} {n:Nat},Ua Fb.small.m x n=true->Ua fb.m x n=true:=λ{x n} hx=>by
  cases x<;>first|rfl|(simp only[Ua,decide_eq_true_eq] at hx⊢;exact CY hx (Dn _))
 have key: ∀{c:Call},Gt P Fb.small G c.callee c.argTypes c.args=true->Gt P fb G c.callee c.argTypes c.args=true:=λ{c} h2=>by
  generalize c.callee=q at h2⊢
  cases q with
  |value f=>
   cases f with|func g=>simp[Gt,Fb.small] at h2|_=>simp[Gt,Fb.small] at h2
  |invoke r name=>
   simp only[Gt,DV] at h2⊢;exact⟨hd _ h2.1,hm h2.2⟩
  |builtin b=>cases b<;>exact h2
 unfold WQ at h⊢;rw[DV] at h⊢;refine⟨?_,?_⟩
 ·rw[VN] at h⊢;exact λx hx=>hd x (h.1 x hx)
 have h2:=h.2;clear h;cases op<;>first|exact h2|skip
 case unOp op t x=>cases op<;>first|exact h2|cases h2
 case makeFunc f _ _=>cases f<;>first|exact h2|cases h2
 case defer c=>simp[Fb.small] at h2
 case call c=>exact key h2
theorem Ze{G:Nat}{d r:Bool}: ∀{c:Code},Jf P Fb.small G false false c=true->Jf P fb G d r c=true:=by
 intro c
 induction c with
 |region n ops dr=>
  intro h;simp only[Jf,VN,DV,XB] at h⊢;refine⟨λo ho=>⟨ABp (h.1 o ho).1,.inr ((h.1 o ho).2.resolve_left AV)⟩,?_⟩;refine JH.2 λi _=>?_
  have:QI fb ops i=AB:=by
   unfold QI
   cases e:ops[i]? with
   |none=>rfl|some o=>
    simp only;have ho:=(h.1 o (mV e)).1
    have:VX fb.cp o.op=AB:=by
     unfold VX;split
     ·rename_i c hc;rw[hc] at ho;split
      ·rename_i f hf;exfalso;unfold WQ at ho;simp only[hf,DV] at ho;have h2:=ho.2;simp[Gt,Fb.small] at h2
      rfl
     rfl
    rw[this]
  rw[this]
 |seq a b ia ib=>intro h;simp only[Jf,DV] at h⊢;exact⟨ia h.1,ib h.2⟩
 |cond c a b ia ib=>intro h;simp only[Jf,DV] at h⊢;exact⟨⟨(by have:=h.1.1;cases c<;>first|exact this|(cases this)),ia h.1.2⟩,ib h.2⟩
 |block n c ih=>exact ih|loop c ih=>exact ih|scope c ih=>exact ih|rangeFunc f ps a b _ _=>intro h;simp[Jf,Fb.small] at h
 |_=>intro _;rfl
theorem bM(hK:Fits K T N)(hh:K.F.h){l l':Nat}{g:Bj}{ca cb:Code}(hl:ρ.r l l')(hp:Az K.F ρ p p')(hg:K.F.r g)(ha:K.F.c ca)(hb:K.F.c cb)(hk:k=.normal\/k=.deferred):
  DJ K T ρ (Frame.round l g p ca cb k) (Frame.round l' g p' ca cb k):=
 ⟨rfl,hK.lr hh _ hg.1,hp,.cons (.code (Ze ha.1)) (.cons .beginRound (.cons (.code (Ze hb.1)) .nil)),.nil,.run,⟨rfl,hk⟩,hl,λ_ h=>(by cases h),.plain (.cons (λ_ _ e=>by cases e) (.cons (λ_ _ e=>by cases e) (.cons (λ_ _ e=>by cases e) .nil)))⟩
theorem AHH(h:DJ K T ρ f f'):(f.kind== .early)=false/\(f'.kind== .early)=false:=by
 rw[h.kind.1];rcases h.kind.2 with e|e<;>rw[e]<;>exact⟨rfl,rfl⟩
theorem VY(hK:Fits K T N)(hW:DI K.F N ρ v w)(hf:DJ K T ρ f f'){ts ts':List AX}(hts:Cm (Ic K T ρ) ts ts'){s s':Sem Next}(hs:AY T K.F N (ni K.F) s ρ s')
  (hq:NC K f\/∃g p v',K.fb.ch=AA g/\s.run T.v v=.ok (.enter g p) v')
  (ht: ∀g1 v1 es,H9 T.v true f (ts++(dr::ds)) AB s v=.go g1 v1 es->Tp v w (v1.drawn - v.drawn)):
  TR K T N ρ v w dr ds cs' (H9 T.v true f (ts++(dr::ds)) AB s v) (H9 T.P true f' (ts'++cs') AB s' w):=by
 have hc:=hs.sort hW;have hr:Tp v w ((Lh (s.run T.v v)).drawn - v.drawn)->Res T.p K.F N (ni K.F) ρ v w (s.run T.v v) (s'.runT T.P w #[]):=λh=>hs.sound hW h;have k1:=AHH hf;unfold H9 at ht⊢;simp only[if_true,k1.1,k1.2,DF,if_false] at ht⊢;rw[Sem.runT_eq] at ht⊢;have hdr:=hs.drawn hW;generalize s.events T.v v #[]=eu at ht⊢;generalize s.run T.v v=r at hr hc ht hdr hq⊢;generalize s'.runT T.P w #[]=r' at hr⊢;have mono: ∀{ρ'},ρ.le ρ'->Cm (Ic K T ρ') ts ts':=λl=>CW (λ_ _ x=>x.mono l) hts
 cases r with
 |ok n v'=>
  have hT:Tp v w (v'.drawn - v.drawn):=by
   obtain⟨ρ',b,hq⟩:=hc
   cases hq with|value _=>exact ht _ _ _ rfl|skip=>exact ht _ _ _ rfl|enter _ _ _ _=>exact ht _ _ _ rfl|round _ _ _ _ _ _=>exact ht _ _ _ rfl|defer _ _ _=>exact ht _ _ _ rfl|seq _ _=>exact ht _ _ _ rfl
  obtain⟨ρ',b,w',u,rfl,oD,hst⟩:=hr hT;clear hr hc ht hT;have hsub:Stp K.F N ρ ρ' v w v' w' (seen T.P f'.fn u++ #[]):=hst.sub λe he=>by simp at he;exact Dy he
  have hnc:(∀g p,n=.enter g p->K.X g=false)->NC K f:=λh=>hq.elim id λ⟨g,p,u,h1,h2⟩=>by
   (cases h2);have:=h g p rfl;rw[(hK.ch g h1).2] at this;cases this
  have hcx: ∀g p,n=.enter g p->K.fb.ch=AA g\/NC K f:=λg p e=>hq.elim .inr λ⟨g',p',u,h1,h2⟩=>by
   rw[e] at h2;(cases h2);exact .inl h1
  clear hq
  cases oD with
  |value hv=>exact .inl ⟨_,_,_,_,ρ',w',_,rfl,rfl,(hf.mono hst.le).finish hv (.inl (hnc λg p e=>by cases e)),mono hst.le,hsub⟩|skip=>exact .inl ⟨_,_,_,_,ρ',w',_,rfl,rfl,(hf.mono hst.le).finish .undef (.inr (.inl rfl)),mono hst.le,hsub⟩| @enter g p p' hg ha ASJ hp=>
   by_cases hX:K.X g=true
   ·have fin:TR K T N ρ v w dr ds cs' (DZ (seen T.v f.fn eu) (.go {frame:=Ba T.v g p .normal,callers:=f::(ts++(dr::ds)),status:=.running,dying:=AB} v'))
      (DZ (seen T.P f'.fn u) (.go {frame:=Ba T.P g p' .normal,callers:=f'::(ts'++cs'),status:=.running,dying:=AB} w')):=
     .inr (.inl ⟨g,_,_,.normal,_,_,_,_,ρ',w',_,hg,⟨hX,ha,ASJ,hcx g p rfl⟩,rfl,rfl,hp,hf.mono hst.le,mono hst.le,hsub,rfl⟩)
    have ht:=hf.todo;generalize f.todo=A at ht⊢;generalize f'.todo=B at ht⊢
    cases ht with|nil=>exact fin|cons hi _=>cases hi<;>exact fin
   have fin:TR K T N ρ v w dr ds cs' (DZ (seen T.v f.fn eu) (.go {frame:=Ba T.v g p .normal,callers:=f::(ts++(dr::ds)),status:=.running,dying:=AB} v'))
     (DZ (seen T.P f'.fn u) (.go {frame:=Ba T.P g p' .normal,callers:=f'::(ts'++cs'),status:=.running,dying:=AB} w')):=
    .inl ⟨_,f::ts,_,f'::ts',ρ',w',_,rfl,rfl,Ob hK hg (by simpa using hX) hp (.inl rfl),.cons ⟨hf.mono hst.le,hnc λg' p' e=>by cases e;simpa using hX⟩ (mono hst.le),hsub⟩
   have ht:=hf.todo;generalize f.todo=A at ht⊢;generalize f'.todo=B at ht⊢
   cases ht with|nil=>exact fin|cons hi _=>cases hi<;>exact fin
  | @round l l' g p p' ca cb hh hl hp hg ha hb=>
   have fin:TR K T N ρ v w dr ds cs' (DZ (seen T.v f.fn eu) (.go {frame:=Frame.round l g p ca cb .normal,callers:=f::(ts++(dr::ds)),status:=.running,dying:=AB} v'))
     (DZ (seen T.P f'.fn u) (.go {frame:=Frame.round l' g p' ca cb .normal,callers:=f'::(ts'++cs'),status:=.running,dying:=AB} w')):=
    .inl ⟨_,f::ts,_,f'::ts',ρ',w',_,rfl,rfl,bM hK hh hl hp hg ha hb (.inl rfl),.cons ⟨hf.mono hst.le,hnc λg p e=>by cases e⟩ (mono hst.le),hsub⟩
   exact fin
  |defer hlx hnx hd=>
   refine .inl ⟨_,_,_,_,ρ',w',_,rfl,rfl,DJ.finish (f:={f with defers:=_::f.defers}) (f':={f' with defers:=_::f'.defers}) ?_ .undef (.inr (.inl rfl)),mono hst.le,hsub⟩;have hf:=hf.mono hst.le;exact⟨hf.fn,hf.ok,hf.tmps,hf.todo,.cons hd hf.defers,hf.mode,hf.kind,hf.round,λd hd=>(BD.1 hd).elim (λe=>.inr ⟨hlx,by rw[e];exact hnx⟩) (hf.nd d),hf.rg⟩
  | @seq p _ hp hq=>
   rw[hst.tok.2] at hq;have fin: ∀r2,TR K T N ρ v w dr ds cs' (DZ (seen T.v f.fn eu) (.go {frame:=Ba T.v K.z p .normal,callers:=f::(ts++(dr::ds)),status:=.running,dying:=AB} v')) r2:=λ_=>.inr (.inr (.inr (.inr ⟨_,.normal,_,_,hq,hp,hst.drawn.1,rfl⟩)));have ht:=hf.todo;generalize f.todo=A at ht⊢;generalize f'.todo=B at ht⊢
   cases ht with|nil=>exact fin _|cons hi _=>cases hi<;>exact fin _
 |halt x v'=>
  cases x with
  |panic x=>
   rcases hr (ht _ _ _ rfl) with Qq|⟨ρ',x',w',u,rfl,hx,hst⟩
   ·refine .inr (.inr (.inr (.inl ⟨Qq,?_,_,_,rfl,Tu hf (by intro e he;simp at he;subst he;rfl)⟩)));exact hdr
   (have hsub:Stp K.F N ρ ρ' v w v' w' (seen T.P f'.fn u++ #[]):=hst.sub λe he=>by simp at he;exact Dy he);exact .inl ⟨_,_,_,_,ρ',w',_,rfl,rfl,(hf.mono hst.le).raise (.cons ⟨hx,rfl,⟨rfl,rfl⟩,rfl⟩ .nil),mono hst.le,hsub⟩
  |unsupported u=>cases u<;>first|exact hc.elim|trivial
  |_=>first|exact hc.elim|trivial
end
end
end Go.Proofs.YtkkgcebhfghdnaaGreatDoor
