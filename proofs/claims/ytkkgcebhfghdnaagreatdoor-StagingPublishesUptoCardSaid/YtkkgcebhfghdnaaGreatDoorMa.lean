/- Part 1 of what that rests on; no condition. -/
import Derived.Conc.Beside
import Derived.Lib.Hide
set_option maxRecDepth 100000
set_option maxHeartbeats 8000000
open List renaming getElem?_cons_zero→tX, getElem?_cons_succ→AFw, length_cons→EY, foldl_cons→V9, length_nil→Hg, range→Fp
open Go.Builtin renaming nextslicecap→tY, firstCells→MP, unsafeAdd_→iq, zeroCells→Nw, append_→Pn, delete_→tq, len_→Un
open Option renaming bind_eq_bind→iy, getD_some→Dx, map_some→Fj, pure_def→jA, none→AB, some→AA
open Go.Region.linearise renaming go→Yj
open Go.Item.inRegion renaming injEq→ABE
open Go.Instr renaming keyThatStays→ABD, takeDeferred→mF, sliceBounds→Qx, buildSlice→aQ, sliceBound→Pm, findAsking→tZ, typeAssert→KI, beginRound→Yh, mapUpdate→jB, enterLoop→WE, makeFunc→aS, checkKey→Uo, sameBits→Qy, endRound→UM, sliceAt→LY, sameNow→aT, findNow→Ur, findKey→YD, getLoop→aV, lookup→Po, slice→WC, yield→aW, fill→MO, box→TR
open Go.Conv renaming bytesToString→Px
open Go.Deferred renaming ofValue→Pv
open Array renaming replicate→IM, filter→aU, range→aP
open Go.World renaming setCell→YA, cell?→Pj
open Go renaming loadCellsFrom→Um, runtimePanic→Qw, behindNumber→YB, typeHandle→Us, callMethod→Pq, PanicEntry→NU, zeroValue→GY, Deferred→EL, MapEntry→Du, typeInfo→I4, TypeInfo→Qv, callFunc→E8, Program→BM, Operand→DU, FuncId→Bl, TypeId→Am, setObj→I5, Value→AQ, undef→AU, World→AL, Event→Be, Frame→AX, Addr→Ag, Oper→BX
open Go.Region renaming binds→Yi
open Go.GStep renaming after→DZ
open Go.Frame renaming enter→Bc
open Go.stepG renaming apply→Hw
open Go.Sem renaming bind→JZ, runT→Gi, run→Dw
namespace Go.Proofs.YtkkgcebhfghdnaaGreatDoor
open Go
theorem Az{p:Prop}(h:p:=by kernel_rfl):p:=h
theorem Aa{p:Prop}(h:p:=by omega):p:=h
theorem AV{p:Prop}(h:p:=by simp):p:=h
theorem Aq{p:Prop}(h:p:=by decide):p:=h
theorem GM{α β:Type}{p:α→Prop}{f:α→β}:∀x,p x→f x∉([]:List β):=fun _ _=>List.not_mem_nil
theorem nf_{p:Prop}(h:false=true):p:=by cases h
theorem AO{p:Prop}(h:p):Go.RowKit.Hid p:=Lib.hid h
theorem Wu{p:Prop}(h:p:=by simp only[List.map_toArray,List.map_cons,List.map_nil];rfl):p:=h
theorem Nb{p:Prop}(h:p:=by unfold maxLen;omega):p:=h
theorem Ar:True:=trivial
theorem BL.{u}{c:Prop}{d:Decidable c}(n:¬c){α:Sort u}{t e:α}:ite c t e=e:=if_neg n
theorem BU.{u}{c:Prop}{d:Decidable c}(n:c){α:Sort u}{t e:α}:ite c t e=t:=if_pos n
theorem Ak{a b:Prop}(h:a)(k:¬a):b:=absurd h k
abbrev Bd:=@Nat.le_refl
abbrev Dj:=@Array.getElem?_eq_some_iff
abbrev FZ:=@Array.getElem?_eq_getElem
abbrev Qz:=@Array.getD_eq_getD_getElem?
abbrev ABL:=@Array.getElem?_setIfInBounds
abbrev ANP:=@Array.getElem?_push
abbrev AIl:=@Array.getElem?_append
abbrev AIm:=@Array.getElem?_extract
abbrev AIn:=@Array.getElem?_replicate
abbrev mY:=@Array.mem_of_getElem?
abbrev Kw:=@Array.getElem?_map
abbrev J8:=@Option.map_eq_some_iff
abbrev Cj:=@Nat.le_trans
abbrev Em:=@Nat.lt_of_lt_of_le
abbrev JM:=@Array.mem_append
abbrev ADt:=@Array.append_assoc
abbrev mZ:=@Array.getElem?_modify
abbrev DC:=@Bool.false_eq_true
abbrev Dz:=@Array.getElem?_setIfInBounds_ne
abbrev Wv:=@Array.getElem?_setIfInBounds_self_of_lt
abbrev SA:=@Array.getElem?_push_lt
abbrev ADu:=@Array.size_push
abbrev IW:=@List.mem_toArray
abbrev CB:=@List.mem_singleton
abbrev ZM:=@Array.ext_getElem?
abbrev SB:=@Nat.add_assoc
abbrev mg:=@Nat.add_comm
abbrev VM:=@Array.all_eq_true'
abbrev fD:=@List.length_eq_zero_iff
abbrev O5:=@Prod.mk.injEq
abbrev yG:=@Array.foldl_toList
abbrev AIo:=@Array.toList_zipIdx
abbrev ADv:=@Array.mapM_eq_mapM_toList
abbrev ADw:=@List.mapM_cons
abbrev ADx:=@Nat.le_zero
abbrev mi:=@Bool.eq_iff_iff
abbrev mr:=@Nat.zero_mul
abbrev Wy:=@List.getElem?_toArray
abbrev AIp:=@Bool.not_false
abbrev yH:=@Classical.not_not
abbrev nG:=@Iff.rfl
abbrev nH:=@Bool.not_true
abbrev UW:=@Option.bind_eq_some_iff
abbrev DR:=@Option.some.injEq
abbrev JD:=@List.all_eq_true
abbrev XA:=@List.mem_range
abbrev DV:=@Bool.and_eq_true
abbrev yI:=@Array.mem_toList_iff
abbrev XB:=@Bool.or_eq_true
abbrev Ee:=@List.mem_cons_self
abbrev DD:=@List.mem_cons_of_mem
abbrev ZN:=@Array.getElem?_toList
abbrev XC:=@List.filter_cons
abbrev fE:=@Array.toList_filter
abbrev AIq:=@Array.toList_append
abbrev ZO:=@Array.toList_map
abbrev EF:=@Option.some.inj
abbrev nI:=@Array.getElem?_append_left
abbrev nJ:=@Array.size_append
abbrev Iq:=@List.size_toArray
abbrev ADy:=@List.forIn_cons
abbrev nK:=@Array.all_append
abbrev yJ:=@Array.size_map
abbrev Ky:=@Nat.zero_add
abbrev ZP:=@Array.getElem?_append_right
abbrev XD:=@Array.getElem?_eq_none
abbrev J9:=@List.map_toArray
abbrev BN:=@List.map_cons
abbrev EG:=@List.map_nil
abbrev ADz:=@Array.mem_def
abbrev AIr:=@Bool.and_eq_true_iff
abbrev ZQ:=@Bool.not_eq_true'
abbrev AIs:=@List.getElem?_range
abbrev O6:=@List.getElem?_append_left
abbrev Bi:=@List.mem_of_getElem?
abbrev XE:=@List.mem_filter
abbrev BF:=@List.mem_cons
abbrev Ir:=@List.cons.injEq
abbrev Bj:=@List.mem_append
abbrev DW:=@Nat.zero_le
abbrev fF:=@Classical.axiomOfChoice
abbrev Nc:=@List.append_cancel_right
abbrev AD0:=@Array.mk.injEq
abbrev nM:=@Classical.byContradiction
abbrev XF:=@Nat.lt_or_ge
abbrev AD1:=@Nat.le_total
abbrev AIt:=@Nat.exists_eq_add_of_le
abbrev H8:=@Ne.symm
abbrev nN:=@Array.mem_iff_getElem
abbrev O7:=@Nat.eq_zero_or_pos
abbrev BH:=@List.not_mem_nil
abbrev AIu:=@Array.getElem_extract
abbrev OD:=@List.mem_map_of_mem
abbrev CG:=@List.mem_map
abbrev Bo:=@List.getElem?_eq_getElem
abbrev FK:=@List.map_append
abbrev En:=@List.map_map
abbrev F5:=@List.mem_append_left
abbrev GN:=@List.mem_append_right
abbrev fG:=@Bool.not_eq_true
abbrev I7:=@List.length_take
abbrev Jf:=@Nat.min_eq_left
abbrev Td:=@Nat.mul_le_mul_right
abbrev lI:=@List.getElem?_take
abbrev RD:=@List.eq_nil_of_length_eq_zero
abbrev lJ:=@List.length_set
abbrev yK:=@Array.size_setIfInBounds
abbrev yL:=@Array.toList_setIfInBounds
abbrev yM:=@List.take_set
abbrev aX:=@List.take_take
abbrev Tf:=@List.length_drop
abbrev yN:=@List.getElem?_drop
abbrev lK:=@Nat.add_mul
abbrev VN:=@List.drop_eq_getElem_cons
abbrev Ig:=@List.getElem?_append_right
abbrev H9:=@List.getElem?_eq_none
abbrev NM:=@Nat.sub_self
abbrev Ba:=@List.getElem?_map
abbrev CP:=@List.getElem?_eq_some_iff
abbrev OE:=@List.ext_getElem?
abbrev RH:=@List.idxOf?_cons
abbrev RI:=@List.getElem?_of_mem
abbrev OH:=@List.nodup_append
abbrev VO:=@List.map_set
abbrev YE:=@List.getElem?_set
abbrev lL:=@List.mem_or_eq_of_mem_set
abbrev yO:=@Array.toList_push
abbrev yP:=@List.eraseIdx_sublist
abbrev Py:=@List.take_add_one
abbrev Ea:=@List.take_of_length_le
abbrev AFx:=@List.getElem?_replicate
abbrev yQ:=@Nat.mod_one
abbrev yR:=@List.take_left'
abbrev OI:=@Nat.mul_one
abbrev AMO:=@List.length_replicate
abbrev lM:=@List.flatten_append
abbrev IA:=@List.length_append
abbrev KJ:=@List.append_assoc
abbrev YF:=@List.take_append_drop
abbrev Jg:=@List.map_take
abbrev Ti:=@Nat.le_of_lt
abbrev lN:=@List.filter_eq_self
abbrev IB:=@List.nodup_cons
abbrev OJ:=@List.Perm.refl
abbrev yS:=@List.lt_irrefl
abbrev AFy:=@List.le_iff_lt_or_eq
abbrev AMP:=@List.Pairwise.sublist
abbrev Tj:=@List.pairwise_cons
abbrev VP:=@List.flatMap_cons
abbrev GG:=@List.mem_flatMap
abbrev yT:=@List.mem_nil_iff
abbrev AFz:=@List.flatMap_append
abbrev Ii:=@List.append_nil
abbrev AMQ:=@Bool.and_eq_false_iff
abbrev Hm:=@List.map_congr_left
abbrev DY:=@List.length_map
abbrev aY:=@List.length_filter_le
abbrev AF0:=@List.perm_ext_iff_of_nodup
abbrev YG:=@List.pairwise_iff_getElem
abbrev aZ:=@List.pairwise_append
abbrev OL:=@List.mem_flatten
abbrev Gj:=@List.getD_eq_getElem?_getD
abbrev lQ:=@List.filter_congr
abbrev yU:=@Option.isSome_map
abbrev ae:=@List.Perm.append_left
abbrev AF1:=@Nat.mul_le_mul
abbrev AF2:=@Option.isSome_iff_exists
abbrev af:=@List.filter_append
abbrev YH:=@List.drop_drop
abbrev yV:=@List.take_length
abbrev lS:=@List.getElem?_set_self
abbrev yX:=@List.getElem?_modify
abbrev lT:=@List.getElem?_set_ne
abbrev lU:=@List.filter_map
abbrev yY:=@Bool.or_eq_false_iff
abbrev YI:=@List.sum_append
abbrev AF3:=@List.getElem?_take_of_lt
abbrev Pz:=@List.drop_of_length_le
abbrev ah:=@Nat.mod_lt
abbrev yZ:=@Nat.mod_two_eq_zero_or_one
abbrev AMR:=@Nat.mul_le_mul_left
abbrev ai:=@List.take_nil
abbrev aj:=@List.drop_zero
abbrev yf:=@List.drop_succ_cons
abbrev ak:=@Array.ext
abbrev KL:=@Array.replicate_succ
abbrev KN:=@List.push_toArray
abbrev KO:=@List.append_toArray
abbrev au:=@Nat.ne_of_lt
abbrev yg:=@Nat.not_lt_zero
abbrev LZ:=@List.contains_iff_mem
abbrev AF4:=@ByteArray.data_extract
abbrev AF5:=@Array.toList_extract
abbrev lV:=@Nat.lt_succ_of_lt
abbrev yh:=@Array.sizeOf_lt_of_mem
abbrev yj:=@List.getElem?_eq_none_iff
abbrev AMS:=@List.take_append_of_le_length
abbrev AF6:=@List.length_pos_iff
abbrev Jh:=@Prod.ext
abbrev AF7:=@List.mem_of_mem_take
abbrev AF8:=@List.map_eq_singleton_iff
open Go.Conc
section
variable {p p':Array AQ}{v v':AQ}
structure Rn where
 r:Nat->Nat->Prop
 c:Nat->AQ->Prop
 q:ByteArray->Int->Nat->Nat->Prop
structure Rn.le (ρ ρ':Rn):Prop where
 r: ∀a b,ρ.r a b->ρ'.r a b
 c: ∀a x,ρ.c a x->ρ'.c a x
 q: ∀s n a b,ρ.q s n a b->ρ'.q s n a b
theorem Rn.le.refl(ρ:Rn):ρ.le ρ:=⟨λ_ _ h=>h,λ_ _ h=>h,λ_ _ _ _ h=>h⟩
theorem Rn.le.trans{a b c:Rn}(h:a.le b)(k:b.le c):a.le c:=⟨λ_ _ x=>k.r _ _ (h.r _ _ x),λ_ _ x=>k.c _ _ (h.c _ _ x),λ_ _ _ _ x=>k.q _ _ _ _ (h.q _ _ _ _ x)⟩
def Rn.add (ρ:Rn) (n m:Nat):Rn:={r:=λa b=>ρ.r a b\/(a=n/\b=m),c:=ρ.c,q:=ρ.q}
theorem Rn.VQ(ρ:Rn)(n m:Nat):ρ.le (ρ.add n m):=⟨λ_ _ h=>.inl h,λ_ _ h=>h,λ_ _ _ _ h=>h⟩
def RelA (ρ:Rn) (a a':Ag):Prop:=ρ.r a.block a'.block/\a'.off=a.off/\a'.spot=a.spot
theorem RelA.mono{ρ ρ':Rn}(h:ρ.le ρ'){a a':Ag}(k:RelA ρ a a'):RelA ρ' a a':=⟨h.r _ _ k.1,k.2⟩
theorem RelA.add{ρ:Rn}{a a':Ag}(k:RelA ρ a a')(n:Nat):RelA ρ (a.add n) (a'.add n):=by
 obtain⟨b,o,s⟩:=a;obtain⟨b',o',s'⟩:=a';obtain⟨h1,h2,h3⟩:=k;simp only at h1 h2 h3;subst h2 h3;unfold Addr.add;split;exact⟨h1,rfl,rfl⟩;exact⟨h1,rfl,rfl⟩
def flat:AQ->Bool
 | .bool _| .int _ _| .string _=>true| .pointer AB| .slice AB _ _| .map AB| .chan AB| .nilFunc| .nilIface=>true|_=>false
def nO:AQ->Bool
 | .func (.method _) _ _=>false| .slice (AA _) 0 0=>false| .pointer (AA _)| .slice (AA _) _ _| .map (AA _)| .chan (AA _)| .func _ _ _| .iface _ _| .float _ _| .complex _ _ _=>true|_=>false
def AD2:AQ->Bool
 | .slice (AA _) 0 0=>true|_=>false
def YJ:AQ->Bool
 | .func (.method _) _ _=>true|_=>false
def nP (b:Nat):AQ:=.func (.method "") #[.iface 0 (.chan (AA b))] #[]
structure Fb where
 c:Bl->Bool
 v:Bl->Bool
 l:Bool
 d:Bool
 m:Nat
 a:Bl->Option Nat
 lr:Bl->Bool:=λ_=>false
 e:Bl->Bool:=λ_=>false
 h:Bool:=true
 ch:Option Bl:=AB
 cp:Option Bl:=AB
instance:CoeFun Fb (λ_=>Bl->Bool):=⟨Fb.c⟩
def Fb.small:Fb:={c:=λ_=>false,v:=λ_=>false,l:=false,d:=false,m:=0,a:=λ_=>AB,h:=false}
structure Fs where
 f:Bl->Prop
 v:Bl->Prop
 c:Code->Prop
 r:Bl->Prop
 z:Bl
 m:Nat
 a:Bl->Nat->Prop
 d:Prop
 p:Prop
 e:Bl->Prop
 h:Prop
 dk:Bl->Array AQ->Prop
instance:CoeFun Fs (λ_=>Bl->Prop):=⟨Fs.f⟩
structure Fs.le0 (F F':Fs):Prop where
 f: ∀x,F x->F' x
 v: ∀x,F.v x->F'.v x
 c: ∀x,F.c x->F'.c x
 r: ∀x,F.r x->F'.r x
 z:F'.z=F.z
 m:F.m<=F'.m
 a: ∀f n,F.a f n->F'.a f n
 d:F.d->F'.d
 e: ∀f,F.e f->F'.e f
 h:F.h->F'.h
structure Fs.le (F F':Fs):Prop extends Fs.le0 F F' where
 p:F.p->F'.p
theorem Fs.le.refl(F:Fs):F.le F:=⟨⟨λ_ h=>h,λ_ h=>h,λ_ h=>h,λ_ h=>h,rfl,Bd _,λ_ _ h=>h,λh=>h,λ_ h=>h,λh=>h⟩,λh=>h⟩
def Fz (z:Bl) (s:ByteArray) (n:Int):AQ:=.func (.func z) #[] #[.string s,.int .i64 n]
def vM (z:Bl) (a b:Nat):AQ:=.func (.func z) #[] #[.pointer (AA ⟨a,0,AB⟩),.pointer (AA ⟨b,0,AB⟩)]
inductive BC (F:Fs) (ρ:Rn):AQ->AQ->Prop
 |flat {v:AQ}:flat v=true->BC F ρ v v|ptr {a a':Ag}:RelA ρ a a'->BC F ρ (.pointer (AA a)) (.pointer (AA a'))|slice {a a':Ag} {n k:Nat}:RelA ρ a a'->BC F ρ (.slice (AA a) n k) (.slice (AA a') n k)|emp {b:Nat} {a:Ag}:ρ.c b (.slice (AA a) 0 0)->BC F ρ (.slice (AA ⟨b,0,AB⟩) 0 0) (.slice (AA a) 0 0)|map {b b':Nat}:ρ.r b b'->BC F ρ (.map (AA b)) (.map (AA b'))|chan {b b':Nat}:ρ.r b b'->BC F ρ (.chan (AA b)) (.chan (AA b'))|tok {b:Nat} {x:AQ}:ρ.c b x->nO x=true->(F.p\/x=.chan (AA b))->BC F ρ (.chan (AA b)) x
 |func {f:Bl} {p p' q q':Array AQ}:F f->F.v f->p.size=p'.size->(∀(i:Nat) (v v':AQ),p[i]? =AA v->p'[i]? =AA v'->BC F ρ v v')->
   q.size=q'.size->(∀(i:Nat) (v v':AQ),q[i]? =AA v->q'[i]? =AA v'->BC F ρ v v')->BC F ρ (.func (.func f) p q) (.func (.func f) p' q')
 |yield {l l':Nat}:ρ.r l l'->BC F ρ (.func (.yield l) #[] #[]) (.func (.yield l') #[] #[])|seq {s:ByteArray} {n:Int} {a b:Nat}:ρ.q s n a b->BC F ρ (Fz F.z s n) (vM F.z a b)|mf {b:Nat} {x:AQ}:ρ.c b x->YJ x=true->BC F ρ (nP b) x|iface {t:Am} {v v':AQ}:BC F ρ v v'->BC F ρ (.iface t v) (.iface t v')|agg {p p':Array AQ}:p.size=p'.size->(∀(i:Nat) (v v':AQ),p[i]? =AA v->p'[i]? =AA v'->BC F ρ v v')->BC F ρ (.agg p) (.agg p')|tuple {p p':Array AQ}:p.size=p'.size->(∀(i:Nat) (v v':AQ),p[i]? =AA v->p'[i]? =AA v'->BC F ρ v v')->BC F ρ (.tuple p) (.tuple p')
def BB (F:Fs) (ρ:Rn) (p p':Array AQ):Prop:=p.size=p'.size/\∀(i:Nat) (v v':AQ),p[i]? =AA v->p'[i]? =AA v'->BC F ρ v v'
section
variable {F F':Fs} {ρ ρ':Rn}
theorem BC.mono'(hF:F.le F')(h:ρ.le ρ')(k:BC F ρ v v'):BC F' ρ' v v':=by
 induction k with|flat hf=>exact .flat hf|ptr ha=>exact .ptr (ha.mono h)|slice ha=>exact .slice (ha.mono h)|emp hc=>exact .emp (h.c _ _ hc)|map hb=>exact .map (h.r _ _ hb)|chan hb=>exact .chan (h.r _ _ hb)|tok hc ht hp=>exact .tok (h.c _ _ hc) ht (hp.imp hF.p id)|func hf hv h1 _ h2 _ i1 i2=>exact .func (hF.f _ hf) (hF.v _ hv) h1 i1 h2 i2|yield hl=>exact .yield (h.r _ _ hl)|seq hq=>rw[<- hF.z];exact .seq (h.q _ _ _ _ hq)|mf hx hm=>exact .mf (h.c _ _ hx) hm|iface _ i=>exact .iface i|agg h1 _ i=>exact .agg h1 i|tuple h1 _ i=>exact .tuple h1 i
theorem BC.mono(h:ρ.le ρ')(k:BC F ρ v v'):BC F ρ' v v':=k.mono' (.refl _) h
theorem BB.mono'(hF:F.le F')(h:ρ.le ρ'){p p':Array AQ}(k:BB F ρ p p'):BB F' ρ' p p':=⟨k.1,λi v v' h1 h2=>(k.2 i v v' h1 h2).mono' hF h⟩
theorem BB.mono(h:ρ.le ρ')(k:BB F ρ p p'):BB F ρ' p p':=k.mono' (.refl _) h
theorem BC.undef:BC F ρ AU AU:=.tuple rfl λi v v' h=>by simp at h
theorem BB.nil:BB F ρ #[] #[]:=⟨rfl,λi v v' h=>by simp at h⟩
theorem BB.get(h:BB F ρ p p'){i:Nat}(hv:p[i]? =AA v): ∃v',p'[i]? =AA v'/\BC F ρ v v':=by
 have hi:i<p.size:=(Dj.1 hv).1;have hi':i<p'.size:=h.1▸hi;exact⟨p'[i],FZ hi',h.2 i v _ hv (FZ hi')⟩
theorem BB.none{p p':Array AQ}(h:BB F ρ p p'){i:Nat}(hv:p[i]? =AB):p'[i]? =AB:=by
 rw[Array.getElem?_eq_none_iff] at hv⊢;rw[<- h.1];exact hv
theorem BB.getD{p p':Array AQ}(h:BB F ρ p p')(i:Nat):BC F ρ (p.getD i AU) (p'.getD i AU):=by
 rw[Qz,Qz]
 cases hv:p[i]? with
 |none=>rw[h.none hv];exact .undef|some v=>
  obtain⟨v',hv',hr⟩:=h.get hv;rw[hv'];exact hr
theorem BB.set(h:BB F ρ p p')(hv:BC F ρ v v')(i:Nat):BB F ρ (p.setIfInBounds i v) (p'.setIfInBounds i v'):=by
 refine⟨by simpa using h.1,λj x x' hx hx'=>?_⟩;rw[ABL] at hx hx';by_cases hij:i=j
 ·subst hij;simp only[if_true] at hx hx';split at hx
  ·split at hx'
   ·cases hx;cases hx';exact hv
   cases hx'
  cases hx
 simp only[hij,if_false] at hx hx';exact h.2 j x x' hx hx'
theorem BB.push{p p':Array AQ}(h:BB F ρ p p'){v v':AQ}(hv:BC F ρ v v'):BB F ρ (p.push v) (p'.push v'):=by
 refine⟨by simpa using h.1,λj x x' hx hx'=>?_⟩;rw[ANP] at hx hx';rw[<- h.1] at hx';split at hx
 ·rename_i hj;simp only[hj,if_true] at hx';cases hx;cases hx';exact hv
 rename_i hj;simp only[hj,if_false] at hx';exact h.2 j x x' hx hx'
theorem BB.append{q q':Array AQ}(h:BB F ρ p p')(k:BB F ρ q q'):BB F ρ (p++q) (p'++q'):=by
 refine⟨by simp[h.1,k.1],λj x x' hx hx'=>?_⟩;rw[AIl] at hx hx';rw[<- h.1] at hx';split at hx
 ·rename_i hj;simp only[hj,if_true] at hx';exact h.2 j x x' hx hx'
 rename_i hj;simp only[hj,if_false] at hx';exact k.2 _ x x' hx hx'
theorem BB.extract{p p':Array AQ}(h:BB F ρ p p')(i j:Nat):BB F ρ (p.extract i j) (p'.extract i j):=by
 refine⟨by simp[h.1],λn x x' hx hx'=>?_⟩;rw[AIm] at hx hx';split at hx
 ·split at hx'
  ·exact h.2 _ x x' hx hx'
  cases hx'
 cases hx
theorem BB.replicate{v v':AQ}(hv:BC F ρ v v')(n:Nat):BB F ρ (IM n v) (IM n v'):=by
 refine⟨AV,λj x x' hx hx'=>?_⟩;rw[AIn] at hx hx';split at hx
 ·rename_i hj;simp only[hj,if_true] at hx';cases hx;cases hx';exact hv
 cases hx
theorem BB.one(hv:BC F ρ v v'):BB F ρ #[v] #[v']:=by
 have:=(BB.nil (F:=F) (ρ:=ρ)).push hv;simpa using this
theorem BB.VR(h: ∀x∈p,flat x=true):BB F ρ p p:=
 ⟨rfl,λi v v' h1 h2=>by rw[h1] at h2;cases h2;exact .flat (h v (mY h1))⟩
theorem BB.map{α:Type}{f f':α->AQ}{l:Array α}(h: ∀x∈l,BC F ρ (f x) (f' x)):BB F ρ (l.map f) (l.map f'):=by
 refine⟨AV,λi v v' h1 h2=>?_⟩;rw[Kw] at h1 h2;obtain⟨x,hx,rfl⟩:=J8.1 h1;rw[hx] at h2;(cases h2);exact h x (mY hx)
theorem BB.ofFn{n:Nat}{f f':Nat->AQ}(h: ∀i,BC F ρ (f i) (f' i)):BB F ρ ((aP n).map f) ((aP n).map f'):=BB.map λx _=>h x
theorem BC.cells{v v':AQ}(h:BC F ρ v v'):BB F ρ v.cells v'.cells:=by
 cases h with
 |flat hf=>
  cases v<;>first
   |exact Ak (show false=true from hf) AV|exact BB.one (.flat hf)
 |ptr ha=>exact BB.one (.ptr ha)|slice ha=>exact BB.one (.slice ha)|emp hc=>exact BB.one (.emp hc)|map hb=>exact BB.one (.map hb)|chan hb=>exact BB.one (.chan hb)|tok hk ht hp=>
  (have e:v'.cells= #[v']:=by cases v'<;>first|rfl|exact Ak (show false=true from ht) AV);rw[e];exact BB.one (.tok hk ht hp)
 |func hf hv h1 i1 h2 i2=>exact BB.one (.func hf hv h1 i1 h2 i2)|yield hl=>exact BB.one (.yield hl)|seq hq=>exact BB.one (.seq hq)|mf hx hm=>
  (have e:v'.cells= #[v']:=by cases v'<;>first|rfl|exact Ak (show false=true from hm) AV);rw[e];exact BB.one (.mf hx hm)
 |iface hi=>exact BB.one (.iface hi)|agg h1 i=>exact⟨h1,i⟩|tuple h1 i=>exact BB.one (.tuple h1 i)
end
inductive Ce {α β:Type} (R:α->β->Prop):List α->List β->Prop
 |nil:Ce R [] []|cons {a:α} {b:β} {l:List α} {l':List β}:R a b->Ce R l l'->Ce R (a::l) (b::l')
inductive ax (F:Fs) (ρ:Rn) (m:Nat):Target->Target->Prop
 |fn {f:Bl} {q q':Array AQ}:F f->(∀n,F.a f n)->BB F ρ q q'->ax F ρ m (.fn (.func f) q) (.fn (.func f) q')|nil:ax F ρ m .nil .nil|yield {l l':Nat}:F.h->ρ.r l l'->ax F ρ m (.fn (.yield l) #[]) (.fn (.yield l') #[])|seq {s:ByteArray} {n:Int} {a b:Nat}:m<=F.m->ρ.q s n a b->ax F ρ m (.fn (.func F.z) #[.string s,.int .i64 n]) (.fn (.func F.z) #[.pointer (AA ⟨a,0,AB⟩),.pointer (AA ⟨b,0,AB⟩)])|collected {b b':Nat}:ρ.r b b'->ax F ρ m (.collected b) (.collected b')
def ZR (x:AQ) (p:Array AQ):EL:=match x with
 | .func f q r=>{target:=.fn f r,args:=q++p}|_=>{target:=.nil,args:=#[]}
inductive I8 (F:Fs) (ρ:Rn):EL->EL->Prop
 |mk {d d':EL}:ax F ρ d.args.size d.target d'.target->BB F ρ d.args d'.args->I8 F ρ d d'|dead {b:Nat} {x:AQ} {p p':Array AQ}:ρ.c b x->YJ x=true->BB F ρ p p'->I8 F ρ (ZR (nP b) p) (ZR x p')
theorem ax.mono'{F F':Fs}{ρ ρ':Rn}(hF:F.le F')(h:ρ.le ρ'){m:Nat}{d d':Target}(k:ax F ρ m d d'):ax F' ρ' m d d':=by
 cases k with|fn hf ha hq=>exact .fn (hF.f _ hf) (λn=>hF.a _ _ (ha n)) (hq.mono' hF h)|nil=>exact .nil|yield hh hl=>exact .yield (hF.h hh) (h.r _ _ hl)|seq hm hq=>rw[<- hF.z];exact .seq (Cj hm hF.m) (h.q _ _ _ _ hq)|collected hb=>exact .collected (h.r _ _ hb)
theorem I8.mono'{F F':Fs}{ρ ρ':Rn}(hF:F.le F')(h:ρ.le ρ'){d d':EL}(k:I8 F ρ d d'):I8 F' ρ' d d':=by
 cases k with|mk h1 h2=>exact .mk (h1.mono' hF h) (h2.mono' hF h)|dead h1 h2 h3=>exact .dead (h.c _ _ h1) h2 (h3.mono' hF h)
theorem CV{α β:Type}{R R':α->β->Prop}(h: ∀a b,R a b->R' a b){l:List α}{l':List β}(k:Ce R l l'):Ce R' l l':=by
 induction k with|nil=>exact .nil|cons a _ i=>exact .cons (h _ _ a) i
structure vN (F:Fs) (ρ:Rn) (l l':Loop):Prop where
 state:l'.state=l.state
 pending:l'.pending=l.pending
 fn:l'.fn=l.fn
 tmps:BB F ρ l.tmps l'.tmps
 params:l'.params=l.params
 few:l.params.size<=2
 assign:l'.assign=l.assign
 body:l'.body=l.body
 okF:F.r l.fn
 okA:F.c l.assign
 okB:F.c l.body
 okJ: ∀j,l.pending=AA j->F.c j
 defers:ρ.r l.defers l'.defers
structure F8 (F:Fs) (ρ:Rn) (e e':Du):Prop where
 key:BC F ρ e.key e'.key
 val:BC F ρ e.val e'.val
 born:e'.born=e.born
inductive Gx (F:Fs) (ρ:Rn):Obj->Obj->Prop
 |cells {p p':Array AQ} {t:Am} {fr:Nat×Nat}:BB F ρ p p'->Gx F ρ (.cells p t fr) (.cells p' t fr)|map {es es':Array Du} {k:Nat}:es.size=es'.size->(∀(i:Nat) (e e':Du),es[i]? =AA e->es'[i]? =AA e'->F8 F ρ e e')->Gx F ρ (.map es k) (.map es' k)|mapIter {b b' s k:Nat} {seen:Array Nat}:ρ.r b b'->Gx F ρ (.mapIter (AA b) s seen k) (.mapIter (AA b') s seen k)|La {s k:Nat} {seen:Array Nat}:Gx F ρ (.mapIter AB s seen k) (.mapIter AB s seen k)|stringIter {s:ByteArray} {k:Nat}:Gx F ρ (.stringIter s k) (.stringIter s k)|loop {l l':Loop}:vN F ρ l l'->Gx F ρ (.loop l) (.loop l')|deferred:Gx F ρ (.deferred (AA [])) (.deferred (AA []))|Kz:Gx F ρ (.deferred AB) (.deferred AB)|number {a a':Ag} {b:Bool}:RelA ρ a a'->Gx F ρ (.number a b) (.number a' b)|chan {k s r:Nat} {cl tm:Bool}:Gx F ρ (.chan k #[] cl s r tm) (.chan k #[] cl s r tm)
section
variable {F F':Fs} {ρ ρ':Rn}
theorem vN.mono'(hF:F.le F')(h:ρ.le ρ'){l l':Loop}(k:vN F ρ l l'):vN F' ρ' l l':=
 ⟨k.state,k.pending,k.fn,k.tmps.mono' hF h,k.params,k.few,k.assign,k.body,hF.r _ k.okF,hF.c _ k.okA,hF.c _ k.okB,λj hj=>hF.c _ (k.okJ j hj),h.r _ _ k.defers⟩
theorem Gx.mono'(hF:F.le F')(h:ρ.le ρ'){o o':Obj}(k:Gx F ρ o o'):Gx F' ρ' o o':=by
 cases k with|cells hp=>exact .cells (hp.mono' hF h)|map hs he=>exact .map hs λi e e' h1 h2=>⟨(he i e e' h1 h2).key.mono' hF h,(he i e e' h1 h2).val.mono' hF h,(he i e e' h1 h2).born⟩|mapIter hb=>exact .mapIter (h.r _ _ hb)|La=>exact .La|stringIter=>exact .stringIter|loop hl=>exact .loop (hl.mono' hF h)|deferred=>exact .deferred|Kz=>exact .Kz|number ha=>exact .number (ha.mono h)|chan=>exact .chan
theorem Gx.mono(h:ρ.le ρ'){o o':Obj}(k:Gx F ρ o o'):Gx F ρ' o o':=k.mono' (.refl _) h
end
structure Rn.nR (N:Nat) (ρ:Rn) (n m:Nat):Prop where
 r: ∀b,¬ρ.r n b
 l: ∀a,¬ρ.r a m
 c: ∀x,¬ρ.c n x
 hn:N<=n
 hm:N<=m
def YK:Obj:=.cells #[] 0 (0,0)
structure Rn.Ok (N:Nat) (ρ:Rn):Prop where
 fn: ∀a b b',ρ.r a b->ρ.r a b'->b=b'
 inj: ∀a a' b,ρ.r a b->ρ.r a' b->a=a'
 cfn: ∀a x y,ρ.c a x->ρ.c a y->x=y
 apart: ∀a b x,ρ.r a b->¬ρ.c a x
 low: ∀a b,ρ.r a b->(a<N\/b<N)->a=b
 hd: ∀a,a<N->ρ.r a a
structure Ij (w:AL) (B:List Nat) (s:ByteArray) (n:Int) (a b:Nat):Prop where
 lt: ∀c∈B,c<w.heap.size
 tu:a∈B
 inb:b∈B
 pos:1<=n
 hi:n<=9223372036854775807
 few:s.size<=1073741824
 box: ∃D cap ta,w.heap[a]? =AA (.cells #[.slice D s.size cap] ta (0,0))/\(s.size=0\/∃d o cells td,D=AA ⟨d,o,AB⟩/\d∈B/\w.heap[d]? =AA (.cells cells td (0,0))/\o+cap<=cells.size/\s.size<=cap/\∀i (h:i<s.size),cells[o+i]? =AA (.int .u8 (s[i].toNat:Int)))
 size: ∃tb,w.heap[b]? =AA (.cells #[.int .i64 n] tb (0,0))
theorem Ij.keep{w w':AL}{B:List Nat}{s:ByteArray}{n:Int}{a b:Nat}(h:Ij w B s n a b)(hz:w.heap.size<=w'.heap.size)(hk: ∀c∈B,w'.heap[c]? =w.heap[c]?):Ij w' B s n a b:=by
 obtain⟨D,cap,ta,h1,h2⟩:=h.box;obtain⟨tb,h3⟩:=h.size;refine⟨λc hc=>Em (h.lt c hc) hz,h.tu,h.inb,h.pos,h.hi,h.few,⟨D,cap,ta,by rw[hk a h.tu];exact h1,?_⟩,tb,by rw[hk b h.inb];exact h3⟩;rcases h2 with h2|⟨d,o,cells,td,e,hd,h4,h5⟩;exact .inl h2;exact .inr ⟨d,o,cells,td,e,hd,by rw[hk d hd];exact h4,h5⟩
structure DF (F:Fs) (N:Nat) (ρ:Rn) (v w:AL):Prop where
 ok:ρ.Ok N
 obj: ∀a b,ρ.r a b->∃o o',v.heap[a]? =AA o/\w.heap[b]? =AA o'/\Gx F ρ o o'
 tok: ∀a x,ρ.c a x->v.heap[a]? =AA YK
 nv:N<=v.heap.size
 nw:N<=w.heap.size
 os:w.os=v.os
 seq: ∀s n a b,ρ.q s n a b->∃B,Ij w B s n a b/\∀c∈B,∀x,¬ρ.r x c
end
section
variable {a a':Ag}{b b':Nat}{o o':Obj}{ρ:Rn}{w₁:AL}
structure Twin where
 P:BM
 F:Array Func
 p:Prop:=False
abbrev Twin.v (T:Twin):BM:={T.P with funcs:=T.F}
def Halt.still:Halt->Prop
 | .stuck _=>True| .unsupported (.initOrder _)=>False| .unsupported _=>True| .exit _=>True|_=>False
def lW:Mark->Prop
 | .extern _| .noRoom=>True|_=>False
def Halt.dead (p:Prop):Halt->Prop
 | .panic _=>p|h=>Halt.still h
def nS {β:Type} (T:Twin) (F:Fs) (ρ:Rn):Halt->Sem β->Prop
 | .panic x,s'=>T.p\/∃x',s'=.halt (.panic x')/\BC F ρ x x'|h,_=>Halt.still h
def CW {α:Type} (T:Twin):Sem α->Prop
 | .halt h=>Halt.dead T.p h| .new _ k=>T.p/\∀n,CW T (k n)| .program k=>CW T (k T.v)| .shape _ k=>∀x,CW T (k x)| .frozen _ k=>∀x,CW T (k x)| .mark _ k=>CW T k|_=>False
theorem CW.bind{α γ:Type}{T:Twin}{f:α->Sem γ}: ∀{s:Sem α},CW T s->CW T (s.bind f):=by
 intro s
 induction s with
 |halt h=>intro x;exact x
 |new o k ih=>intro x;exact⟨x.1,λn=>ih n (x.2 n)⟩
 |program k ih=>intro x;exact ih T.v x
 |shape b k ih=>intro x y;exact ih y (x y)
 |frozen a k ih=>intro x y;exact ih y (x y)
 |mark m k ih=>intro x;exact ih x
 |_=>intro x;exact x.elim
theorem CW.run{α:Type}{T:Twin}: ∀{s:Sem α},CW T s->∀v,∃h v',s.run T.v v=.halt h v'/\Halt.dead T.p h/\v'.drawn=v.drawn:=by
 intro s
 induction s with
 |halt h=>intro x v;exact⟨h,v,by rw[Dw],x,rfl⟩
 |new o k ih=>intro x v;obtain⟨h,u,e,hs,hd⟩:=ih _ (x.2 _) {v with heap:=v.heap.push o};exact⟨h,u,by rw[Dw];exact e,hs,hd⟩
 |program k ih=>intro x v;obtain⟨h,u,e,hs⟩:=ih T.v x v;exact⟨h,u,by rw[Dw];exact e,hs⟩
 |shape b k ih=>intro x v;obtain⟨h,u,e,hs⟩:=ih (v.shape? b) (x _) v;exact⟨h,u,by rw[Dw];exact e,hs⟩
 |frozen a k ih=>intro x v;obtain⟨h,u,e,hs⟩:=ih (v.frozen? a) (x _) v;exact⟨h,u,by rw[Dw];exact e,hs⟩
 |mark m k ih=>intro x v;obtain⟨h,u,e,hs⟩:=ih x v;exact⟨h,u,by rw[Dw];exact e,hs⟩
 |_=>intro x;exact x.elim
def DT {α β:Type} (T:Twin) (F:Fs) (N:Nat) (Q:Rn->α->β->Prop):Sem α->Rn->Sem β->Prop
 | .pure a,ρ,s'=>match s' with
  | .pure b=>Q ρ a b|_=>False
 | .load m a k,ρ,s'=>match s' with
  | .load m' a' k'=>m'=m/\RelA ρ a a'/\∀x x',BC F ρ x x'->DT T F N Q (k x) ρ (k' x')|_=>False
 | .store m a x k,ρ,s'=>match s' with
  | .store m' a' x' k'=>m'=m/\RelA ρ a a'/\BC F ρ x x'/\DT T F N Q k ρ k'|_=>False
 | .new o k,ρ,s'=>(T.p/\∀n,CW T (k n))\/match s' with
  | .new o' k'=>Gx F ρ o o'/\∀n n',ρ.nR N n n'->DT T F N Q (k n) (ρ.add n n') (k' n')|_=>False
 | .shape b k,ρ,s'=>(∀x,CW T (k x))\/match s' with
  | .shape b' k'=>ρ.r b b'/\∀x,DT T F N Q (k x) ρ (k' x)|_=>False
 | .freeze _ _ _,_,_=>False
 | .frozen a k,ρ,s'=>(∀x,CW T (k x))\/match s' with
  | .frozen a' k'=>RelA ρ a a'/\∀x,DT T F N Q (k x) ρ (k' x)|_=>False
 | .getObj b k,ρ,s'=>match s' with
  | .getObj b' k'=>ρ.r b b'/\∀o o',Gx F ρ o o'->DT T F N Q (k o) ρ (k' o')|_=>False
 | .setObj b o k,ρ,s'=>match s' with
  | .setObj b' o' k'=>ρ.r b b'/\Gx F ρ o o'/\o.isChan=false/\(∀p t f,o≠ .cells p t f)/\DT T F N Q k ρ k'|_=>False
 | .choose q k,ρ,s'=>match s' with
  | .choose q' k'=>q'=q/\∀n,DT T F N Q (k n) ρ (k' n)|_=>False
 | .sys c k,ρ,s'=>match c,s' with
  | .env,.sys .env k'=>∀x,DT T F N Q (k x) ρ (k' x)|_,_=>False
 | .program k,ρ,s'=>CW T (k T.v)\/match s' with
  | .program k'=>DT T F N Q (k T.v) ρ (k' T.P)|_=>False
 | .mark m k,ρ,s'=>CW T k\/match s' with
  | .mark m' k'=>m'=m/\lW m/\DT T F N Q k ρ k'|_=>False
 | .halt h,ρ,s'=>nS T F ρ h s'
section
variable {α β:Type} {T:Twin} {F:Fs} {N:Nat} {Q:Rn->α->β->Prop} {ρ:Rn}
theorem Yz{k:Option (Am×Nat)->Sem α}{s':Sem β}(h: ∀x,CW T (k x)):DT T F N Q (.shape b k) ρ s':=by unfold DT;exact .inl h
theorem ay{k:Option (Am×Nat)->Sem α}{k':Option (Am×Nat)->Sem β}(h:ρ.r b b')(h2: ∀x,DT T F N Q (k x) ρ (k' x)):DT T F N Q (.shape b k) ρ (.shape b' k'):=by unfold DT;exact .inr ⟨h,h2⟩
theorem jC{k:Nat->Sem α}{s':Sem β}(h:T.p/\∀n,CW T (k n)):DT T F N Q (.new o k) ρ s':=by unfold DT;exact .inl h
theorem AD3{k:Nat->Sem α}{k':Nat->Sem β}(h:Gx F ρ o o')(h2: ∀n n',ρ.nR N n n'->DT T F N Q (k n) (ρ.add n n') (k' n')):DT T F N Q (.new o k) ρ (.new o' k'):=by unfold DT;exact .inr ⟨h,h2⟩
theorem XG{k:Bool->Sem α}{s':Sem β}(h: ∀x,CW T (k x)):DT T F N Q (.frozen a k) ρ s':=by unfold DT;exact .inl h
theorem Y0{k:Bool->Sem α}{k':Bool->Sem β}(h:RelA ρ a a')(h2: ∀x,DT T F N Q (k x) ρ (k' x)):DT T F N Q (.frozen a k) ρ (.frozen a' k'):=by unfold DT;exact .inr ⟨h,h2⟩
end
def AY {α β:Type} (T:Twin) (F:Fs) (N:Nat) (Q:Rn->α->β->Prop) (s:Sem α) (ρ:Rn) (s':Sem β):Prop:=ρ.Ok N->DT T F N Q s ρ s'
theorem Rn.Ok.add{N:Nat}{ρ:Rn}(h:ρ.Ok N){n m:Nat}(k:ρ.nR N n m):(ρ.add n m).Ok N:=by
 refine⟨?_,?_,h.cfn,?_,?_,λa ha=>.inl (h.hd a ha)⟩
 ·rintro a b b' (x|⟨rfl,rfl⟩) (y|⟨z,rfl⟩);exact h.fn _ _ _ x y;subst z;exact Ak x (k.r _);exact Ak y (k.r _);rfl
 ·rintro a a' b (x|⟨rfl,rfl⟩) (y|⟨rfl,z⟩);exact h.inj _ _ _ x y;subst z;exact Ak x (k.l _);exact Ak y (k.l _);rfl
 ·rintro a b x (y|⟨rfl,rfl⟩) hc;exact h.apart _ _ _ y hc;exact k.c _ hc
 rintro a b (x|⟨rfl,rfl⟩) hN;exact h.low _ _ x hN;have:=k.hn;have:=k.hm;omega
section
variable {T:Twin} {F:Fs} {N:Nat} {α β γ δ:Type}
theorem AY.bind'{Q:Rn->α->β->Prop}{Q':Rn->γ->δ->Prop}{f:α->Sem γ}{f':β->Sem δ}:
  ∀{s:Sem α} {ρ:Rn} {s':Sem β},ρ.Ok N->DT T F N Q s ρ s'->(∀ρ' a b,ρ.le ρ'->Q ρ' a b->AY T F N Q' (f a) ρ' (f' b))->DT T F N Q' (s.bind f) ρ (s'.bind f'):=by
 intro s
 induction s with
 |pure a=>intro ρ s' hok h k;cases s'<;>simp only[DT] at h;exact k _ _ _ (.refl _) h hok
 |load m a c ih=>
  (intro ρ s' hok h k;cases s'<;>simp only[DT] at h);obtain⟨h1,h2,h3⟩:=h;exact⟨h1,h2,λx x' hx=>ih x hok (h3 x x' hx) k⟩
 |store m a x c ih=>
  (intro ρ s' hok h k;cases s'<;>simp only[DT] at h);obtain⟨h1,h2,h3,h4⟩:=h;exact⟨h1,h2,h3,ih hok h4 k⟩
 |new o c ih=>
  intro ρ s' hok h k;unfold DT at h;rcases h with h|h;exact jC ⟨h.1,λx=>(h.2 x).bind⟩;(cases s'<;>simp only at h);exact AD3 h.1 λn n' hf=>ih n (hok.add hf) (h.2 n n' hf) λρ' a b hl hq=>k ρ' a b ((Rn.VQ _ _ _).trans hl) hq
 |shape b c ih=>
  intro ρ s' hok h k;unfold DT at h;rcases h with h|h;exact Yz λx=>(h x).bind;(cases s'<;>simp only at h);exact ay h.1 λx=>ih x hok (h.2 x) k
 |freeze a n c ih=>intro ρ s' hok h k;exact h.elim
 |frozen a c ih=>
  intro ρ s' hok h k;unfold DT at h;rcases h with h|h;exact XG λx=>(h x).bind;(cases s'<;>simp only at h);exact Y0 h.1 λx=>ih x hok (h.2 x) k
 |getObj b c ih=>
  (intro ρ s' hok h k;cases s'<;>simp only[DT] at h);exact⟨h.1,λo o' ho=>ih o hok (h.2 o o' ho) k⟩
 |setObj b o c ih=>
  (intro ρ s' hok h k;cases s'<;>simp only[DT] at h);obtain⟨h1,h2,h3,h4,h5⟩:=h;exact⟨h1,h2,h3,h4,ih hok h5 k⟩
 |choose q c ih=>
  (intro ρ s' hok h k;cases s'<;>simp only[DT] at h);exact⟨h.1,λx=>ih x hok (h.2 x) k⟩
 |sys c k' ih=>
  intro ρ s' hok h k;(cases c<;>try exact h.elim);(cases s'<;>try exact h.elim);rename_i c₂ k₂;(cases c₂<;>try exact h.elim);exact λx=>ih x hok (h x) k
 |program c ih=>
  intro ρ s' hok h k;rcases h with h|h;exact .inl h.bind;(cases s'<;>simp only at h);exact .inr (ih T.v hok h k)
 |mark m c ih=>
  intro ρ s' hok h k;rcases h with h|h;exact .inl h.bind;(cases s'<;>simp only at h);exact .inr ⟨h.1,h.2.1,ih hok h.2.2 k⟩
 |halt x=>
  intro ρ s' hok h k;cases x<;>simp only[DT,nS] at h
  case panic x=>
   rcases h with h|⟨x',rfl,hx⟩;exact .inl h;exact .inr ⟨x',rfl,hx⟩
  all_goals exact h
theorem AY.bind{Q:Rn->α->β->Prop}{Q':Rn->γ->δ->Prop}{f:α->Sem γ}{f':β->Sem δ}{s:Sem α}{s':Sem β}(h:AY T F N Q s ρ s')
  (k: ∀ρ' a b,ρ.le ρ'->Q ρ' a b->AY T F N Q' (f a) ρ' (f' b)):AY T F N Q' (s>>=f) ρ (s'>>=f'):=λhok=>AY.bind' hok (h hok) k
theorem AY.mono{Q Q':Rn->α->β->Prop}{s:Sem α}{s':Sem β}(h:AY T F N Q s ρ s')(hq: ∀ρ' a b,ρ.le ρ'->Q ρ' a b->Q' ρ' a b):AY T F N Q' s ρ s':=by
 have e1:s.bind Sem.pure=s:=by
  clear h
  induction s with|pure a=>rfl|halt h=>rfl|store m a v k ih=>simp only[JZ,ih]|freeze a n k ih=>simp only[JZ,ih]|setObj r o k ih=>simp only[JZ,ih]|mark m k ih=>simp only[JZ,ih]|_=>simp only[JZ];congr 1;funext x;apply_assumption
 have e2:s'.bind Sem.pure=s':=by
  clear h
  induction s' with|pure a=>rfl|halt h=>rfl|store m a v k ih=>simp only[JZ,ih]|freeze a n k ih=>simp only[JZ,ih]|setObj r o k ih=>simp only[JZ,ih]|mark m k ih=>simp only[JZ,ih]|_=>simp only[JZ];congr 1;funext x;apply_assumption
 intro hok;rw[<- e1,<- e2];exact AY.bind' hok (h hok) λρ' a b hl hQ _=>hq ρ' a b hl hQ
end
def Lc {α:Type}:Result α->AL
 | .ok _ w=>w| .halt _ w=>w
def bC (ρ:Rn) (e:Be):Prop:=
 match e.loc with| .cell a=>∃b,ρ.r b a.block| .obj c=>(∃b,ρ.r b c)/\¬(e.write=true/\e.sync=true)| .mark m=>lW m| .output=>True|_=>False
def Tp (v w:AL) (n:Nat):Prop:=∀i,i<n->∀q,v.tape (v.drawn+i) q=w.tape (w.drawn+i) q
structure Stp (F:Fs) (N:Nat) (ρ ρ':Rn) (v w v' w':AL) (u:Array Be):Prop where
 le:ρ.le ρ'
 rel:DF F N ρ' v' w'
 sv:v.heap.size<=v'.heap.size
 sw:v'.heap.size+w.heap.size=v.heap.size+w'.heap.size
 new: ∀a b,ρ'.r a b↔ρ.r a b\/(v.heap.size<=a/\a<v'.heap.size/\a+w.heap.size=b+v.heap.size)
 tok:ρ'.c=ρ.c/\ρ'.q=ρ.q
 ZT: ∀a,a<v.heap.size->(∀b,¬ρ.r a b)->v'.heap[a]? =v.heap[a]?
 SC: ∀b,b<w.heap.size->(∀a,¬ρ.r a b)->w'.heap[b]? =w.heap[b]?
 tv:v'.tape=v.tape/\v'.os=v.os/\v'.output=v.output
 tw:w'.tape=w.tape/\w'.os=w.os/\w'.output=w.output
 drawn:v.drawn<=v'.drawn/\v'.drawn+w.drawn=v.drawn+w'.drawn
 evs: ∀e∈u,bC ρ' e
section
variable {F:Fs} {N:Nat} {ρ ρ' nT:Rn} {v w v' w' v'' w'':AL} {u u':Array Be}
theorem bC.mono(h:ρ.le ρ'){e:Be}(k:bC ρ e):bC ρ' e:=by
 unfold bC at k⊢;(split<;>simp_all);obtain⟨b,hb⟩:=k;exact⟨b,h.r _ _ hb⟩;obtain⟨⟨b,hb⟩,k2⟩:=k;exact⟨b,h.r _ _ hb⟩
theorem DF.dom(h:DF F N ρ v w){a:Nat}(k:ρ.r a b):a<v.heap.size/\b<w.heap.size:=by
 obtain⟨o,o',h1,h2,_⟩:=h.obj a b k;exact⟨(Dj.1 h1).1,(Dj.1 h2).1⟩
theorem DF.AF9(h:DF F N ρ v w){a:Nat}{x:AQ}(k:ρ.c a x):a<v.heap.size:=(Dj.1 (h.tok a x k)).1
theorem Ut(h: ∀s n a b,ρ.q s n a b->∃B,Ij w B s n a b/\∀c∈B,∀x,¬ρ.r x c)(hz:w.heap.size<=w₁.heap.size)(hk: ∀c,c<w.heap.size->(∀x,¬ρ.r x c)->w₁.heap[c]? =w.heap[c]?)
  (hr: ∀x c,ρ'.r x c->ρ.r x c\/w.heap.size<=c) (hq:ρ'.q=ρ.q): ∀s n a b,ρ'.q s n a b->∃B,Ij w₁ B s n a b/\∀c∈B,∀x,¬ρ'.r x c:=by
 intro s n a b q;obtain⟨B,h1,h2⟩:=h s n a b (by rw[<- hq];exact q);refine⟨B,h1.keep hz λc hc=>hk c (h1.lt c hc) (h2 c hc),λc hc x hx=>?_⟩;rcases hr x c hx with k|k;exact h2 c hc x k;have:=h1.lt c hc;omega
theorem Stp.refl(h:DF F N ρ v w):Stp F N ρ ρ v w v w #[]:=
 ⟨.refl _,h,Bd _,rfl,λa b=>⟨.inl,λx=>x.elim id λy=>by omega⟩,⟨rfl,rfl⟩,λ_ _ _=>rfl,λ_ _ _=>rfl,⟨rfl,rfl,rfl⟩,⟨rfl,rfl,rfl⟩,⟨Bd _,rfl⟩,AV⟩
theorem Stp.trans(h:Stp F N ρ ρ' v w v' w' u)(k:Stp F N ρ' nT v' w' v'' w'' u')(_:DF F N ρ v w):Stp F N ρ nT v w v'' w'' (u++u'):=by
 refine⟨h.le.trans k.le,k.rel,Cj h.sv k.sv,?_,λa b=>?_,⟨k.tok.1.trans h.tok.1,k.tok.2.trans h.tok.2⟩,λa ha hn=>?_,λb hb hn=>?_,⟨k.tv.1.trans h.tv.1,k.tv.2.1.trans h.tv.2.1,k.tv.2.2.trans h.tv.2.2⟩,
  ⟨k.tw.1.trans h.tw.1,k.tw.2.1.trans h.tw.2.1,k.tw.2.2.trans h.tw.2.2⟩,⟨Cj h.drawn.1 k.drawn.1,?_⟩,λe he=>?_⟩
 have:=h.sw;have:=k.sw;omega
 ·rw[k.new,h.new];have h1:=h.sw;have h2:=h.sv;have h3:=k.sv;constructor
  ·rintro ((x|x)|x);exact .inl x;exact .inr Aa;exact .inr Aa
  rintro (x|x);exact .inl (.inl x);by_cases hlt:a<v'.heap.size;exact .inl (.inr Aa);exact .inr Aa
 ·rw[k.ZT a (Em ha h.sv) λb hb=>?_,h.ZT a ha hn];rw[h.new] at hb;rcases hb with hb|hb;exact hn b hb;omega
 ·have h1:=h.sw;have h2:=h.sv;rw[k.SC b Aa λa ha=>?_,h.SC b hb hn];rw[h.new] at ha;rcases ha with ha|ha;exact hn a ha;omega
 have:=h.drawn.2;have:=k.drawn.2;omega;rcases JM.1 he with he|he;exact (h.evs e he).mono k.le;exact k.evs e he
end
def Out {α β:Type} (p:Prop) (F:Fs) (N:Nat) (Q:Rn->α->β->Prop) (ρ:Rn) (v w:AL):Result α->(Array Be->Result β×Array Be)->Prop
 | .ok a v',f=>∃ρ' b w' u,(∀es,f es=(.ok b w',es++u))/\Q ρ' a b/\Stp F N ρ ρ' v w v' w' u| .halt (.panic x) v',f=>p\/∃ρ' x' w' u,(∀es,f es=(.halt (.panic x') w',es++u))/\BC F ρ' x x'/\Stp F N ρ ρ' v w v' w' u| .halt h _,_=>Halt.still h
theorem Out.step{α β:Type}{p:Prop}{F:Fs}{N:Nat}{Q:Rn->α->β->Prop}{ρ ρ₁:Rn}{v w v₁ w₁:AL}{u₁:Array Be}(hd:DF F N ρ v w)(h:Stp F N ρ ρ₁ v w v₁ w₁ u₁)
  {r:Result α} {f f':Array Be->Result β×Array Be} (hf: ∀es,f es=f' (es++u₁)) (k:Out p F N Q ρ₁ v₁ w₁ r f'):Out p F N Q ρ v w r f:=by
 cases r with
 |ok a v'=>
  obtain⟨ρ',b,w',u,h1,h2,h3⟩:=k;exact⟨ρ',b,w',u₁++u,λes=>by rw[hf,h1,ADt],h2,h.trans h3 hd⟩
 |halt x v'=>
  cases x with
  |panic x=>
   rcases k with k|⟨ρ',b,w',u,h1,h2,h3⟩;exact .inl k;exact .inr ⟨ρ',b,w',u₁++u,λes=>by rw[hf,h1,ADt],h2,h.trans h3 hd⟩
  |_=>exact k
section
variable {T:Twin} {F:Fs} {N:Nat} {α β:Type} {ρ:Rn} {v w:AL}
theorem Ld{α:Type}(a:Array α)(i:Nat)(f:α->α)(j:Nat):(a.modify i f)[j]? =if i=j then a[j]?.map f else a[j]? :=by
 by_cases h:i=j;subst h;simp[mZ];simp[mZ,h]
theorem fH(hW:DF F N ρ v w)(ha:RelA ρ a a'):
  (∃x x',v.cell? a=AA x/\w.cell? a'=AA x'/\BC F ρ x x')\/(v.cell? a=AB/\∀(_:Bool) (what:String),(∃s,v.noCell a what=.stuck s)/\∀b t,v.heap[a.block]? ≠AA (.view b t)):=by
 obtain⟨o,o',h1,h2,ho⟩:=hW.obj _ _ ha.1;obtain⟨_,ho2,ho3⟩:=ha;unfold Pj World.noCell;rw[h1,h2]
 cases ho with
 | @cells p p' t fr hp=>
  simp only[ho2,ho3];by_cases hs:a.spot.isSome=true;right;simp[hs];simp only[hs,if_false,DC]
  cases hx:p[a.off]? with
  |none=>right;simp|some x=>
   obtain⟨x',hx',hr⟩:=hp.get hx;left;exact⟨x,x',rfl,hx',hr⟩
 |_=>right;simp
theorem ZU(_:v.cell? a=AB)(h: ∀(_:Bool) (what:String),(∃s,v.noCell a what=.stuck s)/\∀b t,v.heap[a.block]? ≠AA (.view b t))(m:Bool):
  (∃s,v.farLoad T.v a m=.error (.stuck s))/\∀x,∃s,v.farStore T.v a x m=.error (.stuck s):=by
 unfold World.farLoad World.farStore;have hv:=(h true "").2;refine⟨?_,λx=>?_⟩
 ·split
  ·rename_i at_ u heq;exact Ak heq (hv at_ u)
  obtain⟨s,hs⟩:=(h true "load: no such cell").1;exact⟨s,by rw[hs]⟩
 split
 ·rename_i at_ u heq;exact Ak heq (hv at_ u)
 obtain⟨s,hs⟩:=(h true "store: no such cell").1;exact⟨s,by rw[hs]⟩
theorem AD4(hW:DF F N ρ v w)(h:ρ.r b b'):v.shape? b=w.shape? b':=by
 obtain⟨o,o',h1,h2,ho⟩:=hW.obj _ _ h;unfold World.shape?;rw[h1,h2]
 cases ho with|cells hp=>simp[hp.1]|_=>rfl
theorem jD(hW:DF F N ρ v w)(h:RelA ρ a a'):v.frozen? a=w.frozen? a':=by
 obtain⟨o,o',h1,h2,ho⟩:=hW.obj _ _ h.1;unfold World.frozen?;rw[h1,h2,h.2.1];cases ho<;>rfl
theorem DF.put(hW:DF F N ρ v w)(hb:ρ.r b b'){v₁:AL}(ho:Gx F ρ o o')
  (hv:v₁.heap=v.heap.setIfInBounds b o) (hw:w₁.heap=w.heap.setIfInBounds b' o') (hos:w₁.os=v₁.os):DF F N ρ v₁ w₁:=by
 have hlt:=hW.dom hb;refine⟨hW.ok,λx y hxy=>?_,λx y hxy=>?_,by rw[hv];simpa using hW.nv,by rw[hw];simpa using hW.nw,hos,Ut hW.seq (by rw[hw];simp) (λc _ hc=>by rw[hw];exact Dz λ(e:b'=c)=>hc b (e▸hb)) (λ_ _=>.inl) rfl⟩
 ·rw[hv,hw];by_cases hx:b=x
  ·subst hx;obtain rfl:b'=y:=hW.ok.fn _ _ _ hb hxy;refine⟨o,o',?_,?_,ho⟩;rw[Wv hlt.1];rw[Wv hlt.2]
  have hy:b'≠y:=λe=>hx (hW.ok.inj _ _ _ hb (e▸hxy));rw[Dz hx,Dz hy];exact hW.obj x y hxy
 rw[hv];have hx:b≠x:=λe=>hW.ok.apart _ _ y (e▸hb) hxy;rw[Dz hx];exact hW.tok x y hxy
theorem Stp.put(hW:DF F N ρ v w){b b':Nat}(hb:ρ.r b b'){v₁ w₁:AL}{o o':Obj}(ho:Gx F ρ o o')
  (hv:v₁={v with heap:=v.heap.setIfInBounds b o}) (hw:w₁={w with heap:=w.heap.setIfInBounds b' o'}) {u:Array Be} (hu: ∀e∈u,bC ρ e):Stp F N ρ ρ v w v₁ w₁ u:=by
 subst hv hw;refine⟨.refl _,hW.put hb ho rfl rfl hW.os,AV,AV,λx y=>⟨.inl,λx=>x.elim id λy=>by simp at y;omega⟩,⟨rfl,rfl⟩,λx _ hn=>?_,λy _ hn=>?_,⟨rfl,rfl,rfl⟩,⟨rfl,rfl,rfl⟩,⟨Bd _,rfl⟩,hu⟩
 ·exact Dz λ(e:b=x)=>hn b' (e▸hb)
 exact Dz λ(e:b'=y)=>hn b (e▸hb)
theorem Stp.events(hW:DF F N ρ v w){u:Array Be}(hu: ∀e∈u,bC ρ e):Stp F N ρ ρ v w v w u:=
 {Stp.refl hW with evs:=hu}
theorem DF.fresh(hW:DF F N ρ v w):ρ.nR N v.heap.size w.heap.size:=
 ⟨λb hb=>by have:=(hW.dom hb).1;omega,λa ha=>by have:=(hW.dom ha).2;omega,λx hx=>by have:=hW.AF9 hx;omega,hW.nv,hW.nw⟩
theorem Stp.alloc(hW:DF F N ρ v w)(ho:Gx F ρ o o'):
  Stp F N ρ (ρ.add v.heap.size w.heap.size) v w {v with heap:=v.heap.push o} {w with heap:=w.heap.push o'} #[]:=by
 (have hsz:(v.heap.push o).size+w.heap.size=v.heap.size+(w.heap.push o').size:=by simp;omega);have hok:(ρ.add v.heap.size w.heap.size).Ok N:=hW.ok.add hW.fresh;refine⟨Rn.VQ _ _ _,⟨hok,?_,λa x hx=>?_,?_,?_,hW.os,Ut hW.seq AV (λc hc _=>by rw[show ({w with heap:=w.heap.push o'}:AL).heap[c]? =(w.heap.push o')[c]? from rfl,SA hc,FZ hc]) (λx c h=>h.imp id λe=>by rw[e.2];exact Bd _) rfl⟩,AV,hsz,λa b=>?_,⟨rfl,rfl⟩,λa ha _=>?_,λb hb _=>?_,⟨rfl,rfl,rfl⟩,⟨rfl,rfl,rfl⟩,⟨Bd _,rfl⟩,AV⟩
 ·rintro a b (h|⟨rfl,rfl⟩)
  ·obtain⟨p,p',h1,h2,h3⟩:=hW.obj a b h;have:=hW.dom h;refine⟨p,p',?_,?_,h3.mono (Rn.VQ _ _ _)⟩;rw[SA this.1,<- h1,FZ this.1];rw[SA this.2,<- h2,FZ this.2]
  exact⟨o,o',AV,AV,ho.mono (Rn.VQ _ _ _)⟩
 ·have:=hW.AF9 hx;rw[show ({v with heap:=v.heap.push o}:AL).heap[a]? =(v.heap.push o)[a]? from rfl,SA this,<- hW.tok a x hx,FZ this]
 have:=hW.nv;simp;omega;have:=hW.nw;simp;omega
 ·simp only[Rn.add,ADu];constructor
  ·rintro (h|⟨rfl,rfl⟩);exact .inl h;exact .inr Aa
  rintro (h|h);exact .inl h;exact .inr Aa
 ·show (v.heap.push o)[a]? =_;rw[SA ha,FZ ha]
 show (w.heap.push o')[b]? =_;rw[SA hb,FZ hb]
theorem Stp.draw(hW:DF F N ρ v w):Stp F N ρ ρ v w {v with drawn:=v.drawn+1} {w with drawn:=w.drawn+1} #[]:=by
 refine⟨.refl _,⟨hW.ok,hW.obj,hW.tok,hW.nv,hW.nw,hW.os,Ut hW.seq (Bd _) (λ_ _ _=>rfl) (λ_ _=>.inl) rfl⟩,Bd _,rfl,λa b=>⟨.inl,λx=>x.elim id λy=>?_⟩,⟨rfl,rfl⟩,λ_ _ _=>rfl,λ_ _ _=>rfl,⟨rfl,rfl,rfl⟩,⟨rfl,rfl,rfl⟩,⟨Nat.le_succ _,by simp only;omega⟩,AV⟩;have h1:v.heap.size<=a:=y.1;have h2:a<v.heap.size:=y.2.1;omega
theorem ABM(w:AL):w.sys .env=(.strings w.os.env,w):=by
 obtain⟨h,t,d,os,o⟩:=w;simp[World.sys,Kernel.perform,Kernel.lengthOf,Kernel.named,Kernel.ofKernel,Kernel.stamps,Kernel.each,Kernel.env,World.ask,pure,bind,Ask.bind]
theorem Uu{Q:Rn->α->β->Prop}{s:Sem α}(h:CW T s){f:Array Be->Result β×Array Be}:v.drawn<=(Lc (s.run T.v v)).drawn/\(Tp v w ((Lc (s.run T.v v)).drawn - v.drawn)->Out T.p F N Q ρ v w (s.run T.v v) f):=by
 obtain⟨x,u,e,hs,hd⟩:=CW.run h v;rw[e];refine⟨Nat.le_of_eq hd.symm,λ_=>?_⟩;cases x<;>first|exact hs|exact .inl hs
theorem DT.sound{Q:Rn->α->β->Prop}: ∀{s:Sem α} {ρ:Rn} {s':Sem β},DT T F N Q s ρ s'->∀{v w:AL},DF F N ρ v w->
  v.drawn<=(Lc (s.run T.v v)).drawn/\(Tp v w ((Lc (s.run T.v v)).drawn - v.drawn)->Out T.p F N Q ρ v w (s.run T.v v) (λes=>s'.runT T.P w es)):=by
 intro s
 induction s with
 |pure a=>
  (intro ρ s' h v w hW;cases s'<;>simp only[DT] at h);rename_i b;exact⟨Bd _,λ_=>⟨ρ,b,w,#[],λes=>by simp[Gi],h,.refl hW⟩⟩
 |load m a c ih=>
  (intro ρ s' h v w hW;cases s'<;>simp only[DT] at h);rename_i m' a' c';obtain⟨rfl,ha,hk⟩:=h;rcases fH hW ha with ⟨x,x',h1,h2,hx⟩|⟨hn,hf⟩
  ·(have he:Dw T.v (.load m' a c) v=(c x).run T.v v:=by simp only[Dw,h1]);rw[he];obtain⟨i1,i2⟩:=ih x (hk x x' hx) hW;refine⟨i1,λht=>Out.step hW (Stp.events (u:=#[⟨.cell a',false,m'== .atomic⟩]) hW ?_) (λes=>?_) (i2 ht)⟩;intro e he;simp only[IW,CB] at he;subst he;exact⟨_,ha.1⟩;simp only[Gi,h2];simp
  obtain⟨⟨s,hs⟩,_⟩:=ZU (T:=T) hn hf (m'== .atomic);(have he:Dw T.v (.load m' a c) v=.halt (.stuck s) v:=by simp only[Dw,hn,hs]);rw[he];exact⟨Bd _,λ_=>Ar⟩
 |store m a x c ih=>
  (intro ρ s' h v w hW;cases s'<;>simp only[DT] at h);rename_i m' a' x' c';obtain⟨rfl,ha,hx,hk⟩:=h;by_cases hagg:(∃p,x=.agg p)\/∃p,x=.tuple p
  ·have he: ∃s,Dw T.v (.store m' a x c) v=.halt (.stuck s) v:=by
    rcases hagg with ⟨p,rfl⟩|⟨p,rfl⟩<;>exact⟨_,by rw[Dw]⟩
   obtain⟨s,he⟩:=he;rw[he];exact⟨Bd _,λ_=>Ar⟩
  have hx1: ∀p,x≠ .agg p:=λp e=>hagg (.inl ⟨p,e⟩);have hx2: ∀p,x≠ .tuple p:=λp e=>hagg (.inr ⟨p,e⟩)
  have ASc: ∀p,x'≠ .agg p:=by
   rintro p rfl
   cases hx with|flat hf=>exact hx1 _ rfl|tok hc ht=>cases ht|mf _ hm=>cases hm|agg _ _=>exact hx1 _ rfl
  have ASd: ∀p,x'≠ .tuple p:=by
   rintro p rfl
   cases hx with|flat hf=>exact hx2 _ rfl|tok hc ht=>cases ht|mf _ hm=>cases hm|tuple _ _=>exact hx2 _ rfl
  rcases fH hW ha with ⟨y,y',h1,h2,hy⟩|⟨hn,hf⟩
  ·have hfz:=jD hW ha
   cases hz:v.frozen? a with
   |true=>
    have he: ∃s,Dw T.v (.store m' a x c) v=.halt (.unsupported (.unsafePointer s)) v:=⟨"a write to bytes that a string shares",by
     rw[Dw];simp only[h1,hz,if_true];exact λp e=>hx1 p e
     exact λp e=>hx2 p e⟩
    obtain⟨s,he⟩:=he;rw[he];exact⟨Bd _,λ_=>Ar⟩
   |false=>
    rw[hz] at hfz
    have he:Dw T.v (.store m' a x c) v=c.run T.v (v.setCell a x):=by
     rw[Dw];simp[h1,hz];exact λp e=>hx1 p e;exact λp e=>hx2 p e
    have he': ∀es,Gi T.P (.store m' a' x' c') w es=c'.runT T.P (w.setCell a' x') (es.push ⟨.cell a',true,m'== .atomic⟩):=λes=>by
     rw[Gi];simp[h2,<- hfz]
     ·exact λp e=>ASc p e
     exact λp e=>ASd p e
    rw[he];obtain⟨o,o',g1,g2,ho⟩:=hW.obj _ _ ha.1
    have hst:Stp F N ρ ρ v w (v.setCell a x) (w.setCell a' x') #[⟨.cell a',true,m'== .atomic⟩]:=by
     have hspot:a.spot.isSome=false:=by
      unfold Pj at h1;rw[g1] at h1
      cases hsp:a.spot.isSome with|false=>rfl|true=>cases o<;>simp[hsp] at h1
     have hlt:=hW.dom ha.1
     cases ho with
     | @cells p p' t fr hp=>
      refine Stp.put hW ha.1 (o:=.cells (p.setIfInBounds a.off x) t fr) (o':=.cells (p'.setIfInBounds a'.off x') t fr) (.cells ?_) ?_ ?_ ?_;rw[ha.2.1];exact hp.set hx _
      ·unfold YA;congr 1;apply ZM;intro i;rw[Ld];by_cases hi:a.block=i;subst hi;rw[BU rfl,g1,Wv hlt.1];simp[hspot];rw[BL hi,Dz hi]
      ·unfold YA;congr 1;apply ZM;intro i;rw[Ld];by_cases hi:a'.block=i;subst hi;rw[BU rfl,g2,Wv hlt.2];simp[ha.2.2,hspot];rw[BL hi,Dz hi]
      intro e he;simp only[IW,CB] at he;subst he;exact⟨_,ha.1⟩
     |_=>unfold Pj at h1;rw[g1] at h1;simp at h1
    obtain⟨i1,i2⟩:=ih hk hst.rel;exact⟨i1,λht=>Out.step hW hst (λes=>by rw[he'];simp) (i2 ht)⟩
  obtain⟨_,hs⟩:=ZU (T:=T) hn hf (m'== .atomic);obtain⟨s,hs⟩:=hs x
  have he:Dw T.v (.store m' a x c) v=.halt (.stuck s) v:=by
   rw[Dw];simp only[hn,hs];exact λp e=>hx1 p e;exact λp e=>hx2 p e
  rw[he];exact⟨Bd _,λ_=>Ar⟩
 |new o c ih=>
  intro ρ s' h v w hW;unfold DT at h;rcases h with h|h;exact Uu (s:=.new o c) h;(cases s'<;>simp only at h);rename_i o' c';have hst:=Stp.alloc hW h.1;obtain⟨i1,i2⟩:=ih _ (h.2 v.heap.size w.heap.size hW.fresh) hst.rel;exact⟨i1,λht=>Out.step hW hst (λes=>by simp[Gi]) (i2 ht)⟩
 |shape b c ih=>
  intro ρ s' h v w hW;unfold DT at h;rcases h with h|h;exact Uu (s:=.shape b c) h;(cases s'<;>simp only at h);rename_i b' c';have hs:=AD4 hW h.1;obtain⟨i1,i2⟩:=ih (v.shape? b) (h.2 _) hW;exact⟨i1,λht=>Out.step hW (.refl hW) (λes=>by simp[Gi,hs]) (i2 ht)⟩
 |freeze a n c ih=>intro ρ s' h;exact h.elim
 |frozen a c ih=>
  intro ρ s' h v w hW;unfold DT at h;rcases h with h|h;exact Uu (s:=.frozen a c) h;(cases s'<;>simp only at h);rename_i a' c';have hs:=jD hW h.1;obtain⟨i1,i2⟩:=ih (v.frozen? a) (h.2 _) hW;exact⟨i1,λht=>Out.step hW (.refl hW) (λes=>by simp[Gi,hs]) (i2 ht)⟩
 |getObj b c ih=>
  (intro ρ s' h v w hW;cases s'<;>simp only[DT] at h);rename_i b' c';obtain⟨o,o',g1,g2,ho⟩:=hW.obj _ _ h.1;by_cases hc: ∃p t f,o=.cells p t f
  ·obtain⟨p,t,f,rfl⟩:=hc;(have he:Dw T.v (.getObj b c) v=.halt (.stuck "getObj: a row of cells") v:=by simp only[Dw,g1]);rw[he];exact⟨Bd _,λ_=>Ar⟩
  have hc': ∀p t f,o'≠ .cells p t f:=by
   rintro p t f rfl;(cases ho);exact hc ⟨_,_,_,rfl⟩
  have he:Dw T.v (.getObj b c) v=(c o).run T.v v:=by
   simp only[Dw,g1];split
   ·rename_i heq;cases heq;exact Ak ⟨_,_,_,rfl⟩ hc
   ·rename_i heq;cases heq;rfl
   rename_i heq;cases heq
  have he': ∀es,Gi T.P (.getObj b' c') w es=(c' o').runT T.P w (es.push ⟨.obj b',false,o'.isChan⟩):=λes=>by
   simp only[Gi,g2]
   all_goals
    split
    ·rename_i heq;cases heq;exact Ak rfl (hc' _ _ _)
    ·rename_i heq;cases heq;rfl
    rename_i heq;cases heq
  rw[he];obtain⟨i1,i2⟩:=ih o (h.2 o o' ho) hW;refine⟨i1,λht=>Out.step hW (Stp.events (u:=#[⟨.obj b',false,o'.isChan⟩]) hW ?_) (λes=>?_) (i2 ht)⟩;intro e he;simp only[IW,CB] at he;subst he;exact⟨⟨_,h.1⟩,AV⟩;rw[he'];simp
 |setObj b o c ih=>
  (intro ρ s' h v w hW;cases s'<;>simp only[DT] at h);rename_i b' o₂ c';obtain⟨hb,ho,hch,hnc,hk⟩:=h;obtain⟨p,p',g1,g2,hp⟩:=hW.obj _ _ hb;(have hch':o₂.isChan=false:=by cases ho<;>simp_all [Obj.isChan]);by_cases hc: ∃q t f,p=.cells q t f
  ·obtain⟨q,t,f,rfl⟩:=hc;(have he:Dw T.v (.setObj b o c) v=.halt (.stuck "setObj: a row of cells") v:=by simp only[Dw,g1]);rw[he];exact⟨Bd _,λ_=>Ar⟩
  have hc': ∀q t f,p'≠ .cells q t f:=by
   rintro q t f rfl;(cases hp);exact hc ⟨_,_,_,rfl⟩
  have he:Dw T.v (.setObj b o c) v=c.run T.v {v with heap:=v.heap.setIfInBounds b o}:=by
   simp only[Dw,g1];split
   ·rename_i heq;cases heq;exact Ak ⟨_,_,_,rfl⟩ hc
   rfl;rename_i heq;cases heq
  have he': ∀es,Gi T.P (.setObj b' o₂ c') w es=c'.runT T.P {w with heap:=w.heap.setIfInBounds b' o₂} (es.push ⟨.obj b',true,o₂.isChan⟩):=λes=>by
   simp only[Gi,g2]
   all_goals
    split
    ·rename_i heq;cases heq;exact Ak rfl (hc' _ _ _)
    rfl;rename_i heq;cases heq
  rw[he]
  have hst:Stp F N ρ ρ v w {v with heap:=v.heap.setIfInBounds b o} {w with heap:=w.heap.setIfInBounds b' o₂} #[⟨.obj b',true,o₂.isChan⟩]:=
   Stp.put hW hb ho rfl rfl (by intro e he;simp only[IW,CB] at he;subst he;exact⟨⟨_,hb⟩,by simp[hch']⟩)
  obtain⟨i1,i2⟩:=ih hk hst.rel;exact⟨i1,λht=>Out.step hW hst (λes=>by rw[he'];simp) (i2 ht)⟩
 |choose q c ih=>
  (intro ρ s' h v w hW;cases s'<;>simp only[DT] at h);rename_i q' c';obtain⟨rfl,hk⟩:=h
  cases hq:q'.forced with
  |true=>
   (have he:Dw T.v (.choose q' c) v=(c 0).run T.v v:=by simp only[Dw,hq,if_true]);rw[he];obtain⟨i1,i2⟩:=ih 0 (hk 0) hW;exact⟨i1,λht=>Out.step hW (.refl hW) (λes=>by simp[Gi,hq]) (i2 ht)⟩
  |false=>
   (have he:Dw T.v (.choose q' c) v=(c (q'.cut (v.tape v.drawn q'))).run T.v {v with drawn:=v.drawn+1}:=by simp[Dw,hq]);rw[he];have hst:=Stp.draw hW;obtain⟨i1,i2⟩:=ih (q'.cut (v.tape v.drawn q')) (hk _) hst.rel;have i1':v.drawn+1<=(Lc ((c (q'.cut (v.tape v.drawn q'))).run T.v {v with drawn:=v.drawn+1})).drawn:=i1;refine⟨Aa,λht=>?_⟩;have e0:v.tape v.drawn q'=w.tape w.drawn q':=ht 0 Aa q';refine Out.step hW hst (f':=λes=>(c' (q'.cut (v.tape v.drawn q'))).runT T.P {w with drawn:=w.drawn+1} es) (λes=>by simp[Gi,hq,e0]) (i2 λi hi q=>?_);have:=ht (i+1) (by simp only at hi;omega) q;simp only;rw[SB,mg 1 i,SB,mg 1 i];exact this
 |sys c k ih=>
  intro ρ s' h v w hW;(cases c<;>try exact h.elim);(cases s'<;>try exact h.elim);rename_i c₂ k₂;(cases c₂<;>try exact h.elim);(have he:Dw T.v (.sys .env k) v=(k (.strings v.os.env)).run T.v v:=by simp only[Dw,ABM]);rw[he];obtain⟨i1,i2⟩:=ih (.strings v.os.env) (h _) hW;refine⟨i1,λht=>Out.step hW (Stp.events (u:=#[⟨.output,true,false⟩]) hW ?_) (λes=>?_) (i2 ht)⟩;intro e he;simp only[IW,CB] at he;subst he;trivial;simp only[Gi,ABM,hW.os];simp
 |program c ih=>
  intro ρ s' h v w hW;rcases h with h|h;exact Uu (s:=.program c) h;(cases s'<;>simp only at h);rename_i c';obtain⟨i1,i2⟩:=ih T.v h hW;exact⟨i1,λht=>Out.step hW (.refl hW) (λes=>by simp[Gi]) (i2 ht)⟩
 |mark m c ih=>
  intro ρ s' h v w hW;rcases h with h|h;exact Uu (s:=.mark m c) h;(cases s'<;>simp only at h);rename_i m' c';obtain⟨rfl,hm,hk⟩:=h;obtain⟨i1,i2⟩:=ih hk hW;refine⟨i1,λht=>Out.step hW (Stp.events (u:=#[⟨.mark m',false,true⟩]) hW ?_) (λes=>by simp[Gi]) (i2 ht)⟩;intro e he;simp only[IW,CB] at he;subst he;exact hm
 |halt x=>
  intro ρ s' h v w hW;cases x<;>simp only[DT,nS] at h
  case panic x=>
   rcases h with h|⟨x',rfl,hx⟩;exact⟨Bd _,λ_=>.inl h⟩;exact⟨Bd _,λ_=>.inr ⟨ρ,x',w,#[],λes=>by simp[Gi],hx,.refl hW⟩⟩
  all_goals exact⟨Bd _,λ_=>h⟩
end
end
section
variable {a a':Ag}{p p':Array AQ}{b b':Nat}{x x':AQ}
section
variable {T:Twin} {F:Fs} {N:Nat} {ρ:Rn} {α β γ:Type}
abbrev Ef {α:Type}:Rn->α->α->Prop:=λ_ a b=>a=b
abbrev QV (F:Fs):Rn->AQ->AQ->Prop:=λρ=>BC F ρ
abbrev QVs (F:Fs):Rn->Array AQ->Array AQ->Prop:=λρ=>BB F ρ
abbrev QA:Rn->Ag->Ag->Prop:=λρ=>RelA ρ
theorem Rk{Q:Rn->α->β->Prop}{s:Sem α}(h:CW T s)(s':Sem β):AY T F N Q s ρ s':=by
 intro _;(cases s<;>first|exact h.elim|skip);(all_goals first|exact jC h|exact Yz h|exact XG h|exact .inl h|skip);rename_i x;cases x<;>first|exact h|exact .inl h|exact h.elim
theorem CU:AY T F N (λ_ a b=>a=T.v/\b=T.P) program ρ program:=λ_=>.inr ⟨rfl,rfl⟩
theorem BQ(t:Am):AY T F N (λ_ a b=>a=b/\T.P.underlying t=AA a) (underlying t) ρ (underlying t):=by
 have key:AY T F N (λ_ a b=>a=b/\T.P.underlying t=AA a) (match T.P.underlying t with|some d=>pure d|none=>stuck "no such type" :Sem TypeDesc) ρ (match T.P.underlying t with|some d=>pure d|none=>stuck "no such type" :Sem TypeDesc):=by
  cases h:T.P.underlying t with|none=>exact λ_=>Ar|some d=>exact λ_=>⟨rfl,rfl⟩
 exact λhok=>.inr (key hok)
theorem C9(t:Am):AY T F N (λ_ a b=>a=b/\T.P.info? t=AA a) (I4 t) ρ (I4 t):=by
 have key:AY T F N (λ_ a b=>a=b/\T.P.info? t=AA a) (match T.P.info? t with|some d=>pure d|none=>stuck "no such type" :Sem Qv) ρ (match T.P.info? t with|some d=>pure d|none=>stuck "no such type" :Sem Qv):=by
  cases h:T.P.info? t with|none=>exact λ_=>Ar|some d=>exact λ_=>⟨rfl,rfl⟩
 exact λhok=>.inr (key hok)
theorem Ec(t:Am):AY T F N Ef (sizeOf t) ρ (sizeOf t):=(C9 t).bind λ_ a b _ h=>by rw[h.1];exact λ_=>rfl
theorem nU(t:Am):AY T F N Ef (isAgg t) ρ (isAgg t):=(BQ t).bind λ_ a b _ h=>by obtain⟨rfl,_⟩:=h;cases a<;>exact λ_=>rfl
theorem XH(t:Am):AY T F N Ef (elemOf t) ρ (elemOf t):=(BQ t).bind λ_ a b _ h=>by obtain⟨rfl,_⟩:=h;cases a<;>first|exact λ_=>rfl|exact λ_=>Ar
theorem bD(n:Nat):AY T F N Ef (askRoom n) ρ (askRoom n):=by
 unfold askRoom;split;exact λ_=>.inr ⟨rfl,Ar,rfl⟩;exact λ_=>rfl
theorem Jb(q:Question):AY T F N Ef (choose q) ρ (choose q):=λ_=>⟨rfl,λ_=>rfl⟩
def closed:AQ->Bool
 | .agg cs=>cs.all flat|v=>flat v
theorem jE{v:AQ}(h:closed v=true):BC F ρ v v:=by
 cases v<;>first
  |exact .flat h|skip
 rename_i cs
 have h': ∀x∈cs,flat x=true:=by
  intro x hx;have:=VM.1 (show cs.all flat=true from h) x hx;exact this
 exact .agg rfl (BB.VR h').2
def Ho (P:BM) (t:Am):Bool:=
 match P.info? t with
 |some i=>match i.zero with
  |some z=>closed z|none=>true
 |none=>true
theorem OM(t:Am)(h:Ho T.P t=true):AY T F N (λρ a b=>a=b/\BC F ρ a a) (GY t) ρ (GY t):=(C9 t).bind λ_ a b _ hb=>by
 obtain⟨rfl,hi⟩:=hb;unfold Ho at h;rw[hi] at h;simp only at h
 cases hz:a.zero with
 |none=>exact λ_=>Ar|some z=>
  rw[hz] at h;exact λ_=>⟨rfl,jE h⟩
theorem vO(h:RelA ρ a a')(m:Mode):AY T F N (QV F) (load a m) ρ (load a' m):=λ_=>⟨rfl,h,λ_ _ hx=>hx⟩
theorem AD5(h:RelA ρ a a')(hx:BC F ρ x x')(m:Mode):AY T F N Ef (store a x m) ρ (store a' x' m):=λ_=>⟨rfl,h,hx,rfl⟩
theorem ZV: ∀(n i:Nat) {ρ:Rn},RelA ρ a a'->∀{acc acc':Array AQ},BB F ρ acc acc'->AY T F N (QVs F) (Um a i n acc) ρ (Um a' i n acc'):=by
 intro n
 induction n with
 |zero=>intro i ρ _ acc acc' h;exact λ_=>h
 |succ n ih=>
  intro i ρ h acc acc' hacc;exact (vO (h.add i) .plain).bind λρ' x x' hl hx=>ih (i+1) (h.mono hl) ((hacc.mono hl).push hx)
theorem SG(h:RelA ρ a a')(n:Nat):AY T F N (QVs F) (loadCells a n) ρ (loadCells a' n):=ZV n 0 h BB.nil
theorem NP: ∀(l l':List AQ) (i:Nat) {ρ:Rn},RelA ρ a a'->BB F ρ l.toArray l'.toArray->AY T F N Ef (storeCells a l i) ρ (storeCells a' l' i):=by
 intro l
 induction l with
 |nil=>
  intro l' i ρ h hl;(have:l'=[]:=by have:=hl.1;simp at this;exact fD.1 this.symm);subst this;exact λ_=>rfl
 |cons v l ih=>
  intro l' i ρ h hl
  cases l' with
  |nil=>have:=hl.1;simp at this|cons v' l'=>
   have hv:BC F ρ v v':=hl.2 0 v v' AV AV;refine (AD5 (h.add i) hv .plain).bind λρ' _ _ hle _=>ih l' (i+1) (h.mono hle) ⟨?_,λj x x' hx hx'=>?_⟩;have:=hl.1;simpa using this;exact (hl.2 (j+1) x x' (by simpa using hx) (by simpa using hx')).mono hle
theorem OO(t:Am)(h:RelA ρ a a'):AY T F N (QV F) (loadVar t a) ρ (loadVar t a'):=by
 refine (nU t).bind λρ' b b' hl hb=>?_;obtain rfl:b=b':=hb
 cases b with
 |true=>
  refine (Ec t).bind λnT n n' hl' hn=>?_;obtain rfl:n=n':=hn;exact (SG ((h.mono hl).mono hl') n).bind λρ₃ x x' _ hx _=>BC.agg hx.1 hx.2
 |false=>exact vO (h.mono hl) .plain
theorem P5(t:Am)(h:RelA ρ a a')(hx:BC F ρ x x'):AY T F N Ef (storeVar t a x) ρ (storeVar t a' x'):=by
 refine (Ec t).bind λρ' n n' hl hn=>?_;obtain rfl:n=n':=hn;have hc:=(hx.mono hl).cells;by_cases hs:x.cells.size≠n
 ·simp only[hs,if_true,ne_eq,not_false_eq_true];exact λ_=>Ar
 (have hs': ¬x'.cells.size≠n:=by rw[<- hc.1];exact hs);simp only[hs,hs',if_false];exact NP _ _ 0 (h.mono hl) (by simpa using hc)
theorem Tm(t:Am)(h:BB F ρ p p'):AY T F N QA (newRow t p) ρ (newRow t p'):=
 λ_=>.inr ⟨.cells h,λ_ _ _=>⟨.inr ⟨rfl,rfl⟩,rfl,rfl⟩⟩
theorem Ny(t:Am)(h:BC F ρ x x'):AY T F N QA (newVar t x) ρ (newVar t x'):=Tm t h.cells
theorem vP(t:Am)(h:BB F ρ p p')(o:Nat):AY T F N (QV F) (part t p o) ρ (part t p' o):=by
 refine (nU t).bind λρ' b b' hl hb=>?_;obtain rfl:b=b':=hb
 cases b with
 |true=>
  refine (Ec t).bind λnT n n' hl' hn=>?_;obtain rfl:n=n':=hn;have:=((h.mono hl).mono hl').extract o (o+n);exact λ_=>BC.agg this.1 this.2
 |false=>
  show AY T F N (QV F) (match p[o]? with|some v=>pure v|none=>stuck "part: no such cell" :Sem AQ) ρ' (match p'[o]? with|some v=>pure v|none=>stuck "part: no such cell" :Sem AQ)
  cases hv:p[o]? with
  |none=>exact λ_=>Ar|some v=>
   obtain⟨v',hv',hr⟩:=h.get hv;rw[hv'];exact λ_=>hr.mono hl
theorem OQ(h:BC F ρ x x'):AY T F N Ef (asIntOf x) ρ (asIntOf x'):=by
 cases h with
 |flat hf=>cases x<;>first|exact λ_=>rfl|exact λ_=>Ar|(rename_i a;cases a<;>exact λ_=>Ar)
 |_=>exact λ_=>Ar
theorem nV(h:BC F ρ x x'):AY T F N Ef (asInt x) ρ (asInt x'):=(OQ h).bind λ_ a b _ e=>by obtain rfl:a=b:=e;exact λ_=>rfl
theorem ABN(h:BC F ρ x x'):AY T F N Ef (asBool x) ρ (asBool x'):=by
 cases h with
 |flat hf=>cases x<;>first|exact λ_=>rfl|exact λ_=>Ar
 |_=>exact λ_=>Ar
theorem MQ(h:BC F ρ x x'):AY T F N QA (Instr.sureAddr x) ρ (Instr.sureAddr x'):=by
 cases h with
 |flat hf=>cases x<;>first|exact λ_=>Ar|(rename_i a;cases a<;>first|exact λ_=>Ar|exact Ak (show false=true from hf) AV)
 |ptr h=>exact λ_=>h|_=>exact λ_=>Ar
theorem Bq{Q:Rn->α->β->Prop}{e:RuntimeError}(h:match e with| .typeAssertion .. | .unhashable _=>False|_=>True):
  AY T F N Q (Qw e:Sem α) ρ (Qw e:Sem β):=by
 have ASe: ∀(x y:Int) (s:Bool) (c:Nat),BC F ρ (.agg #[.int .i64 x,.int .i64 y,.bool s,.int .u8 c]) (.agg #[.int .i64 x,.int .i64 y,.bool s,.int .u8 c]):=λx y s c=>by
  have:=BB.VR (F:=F) (ρ:=ρ) (p:=#[.int .i64 x,.int .i64 y,.bool s,.int .u8 c]) (by intro z hz;simp at hz;rcases hz with rfl|rfl|rfl|rfl<;>rfl);exact BC.agg this.1 this.2
 cases e with
 |bounds x y s c=>exact λ_=>.inr (.inr ⟨_,rfl,.iface (ASe _ _ _ _)⟩)|error m=>exact λ_=>.inr (.inr ⟨_,rfl,.iface (.flat rfl)⟩)|plain m=>exact λ_=>.inr (.inr ⟨_,rfl,.iface (.flat rfl)⟩)|nilDeref=>exact λ_=>.inr (.inr ⟨_,rfl,.iface (.flat rfl)⟩)|typeAssertion _ _ _ _=>exact h.elim|panicNil=>
  refine CU.bind λρ₁ p p' l1 e=>?_;obtain⟨rfl,rfl⟩:=e;refine (XH _).bind λρ₂ t t' l2 e=>?_;obtain rfl:t=t':=e;refine (Ny t (x:=.agg #[]) (x':=.agg #[]) (.agg rfl λi v v' h=>by simp at h)).bind λρ₃ a a' l3 ha=>?_;exact λ_=>.inr ⟨_,rfl,.iface (.ptr ha)⟩
 |unhashable _=>exact h.elim
theorem jF(h:BC F ρ x x'):AY T F N QA (asAddr x) ρ (asAddr x'):=by
 cases h with
 |flat hf=>cases x<;>first|exact λ_=>Ar|(rename_i a;cases a<;>first|exact Bq (e:=.nilDeref) trivial|exact Ak (show false=true from hf) AV)
 |ptr h=>exact λ_=>h|_=>exact λ_=>Ar
theorem IP{Q:Rn->α->β->Prop}(k:IntKind)(x y:Int)(c:BoundsCode):AY T F N Q (boundsPanic k x y c:Sem α) ρ (boundsPanic k x y c:Sem β):=by
 unfold boundsPanic;by_cases hc:(k != .u64 && decide (0<=x) && decide (x<=31))=true
 ·simp only[hc,if_true];exact λhok=>⟨rfl,λn=>Bq (e:=.bounds (IntKind.i64.wrap x) y (n==1) c) trivial hok⟩
 simp only[hc,if_false,DC];exact Bq (e:=.bounds (IntKind.i64.wrap x) y (k != .u64) c) trivial
theorem RJ{Q:Rn->α->β->Prop}(h:BC F ρ x x'):AY T F N Q (goPanic x:Sem α) ρ (goPanic x':Sem β):=λ_=>.inr ⟨x',rfl,h⟩
theorem Nh(h:ρ.r b b'):AY T F N Ef (shape b) ρ (shape b'):=λ_=>ay h λ_=>rfl
theorem jG(h:ρ.r b b'):AY T F N (λ_ a c=>a=AB/\c=AB) (viewAt b) ρ (viewAt b'):=by
 refine (Nh h).bind λρ' x x' hl e=>?_;obtain rfl:x=x':=e;by_cases hs:x.isSome=true;simp only[hs,if_true];exact λ_=>⟨rfl,rfl⟩;simp only[hs,if_false,DC];exact λ_=>⟨hl.r _ _ h,λo o' ho=>by cases ho<;>exact⟨rfl,rfl⟩⟩
def QN:Rn->Option (Ag×Bool)->Option (Ag×Bool)->Prop:=λρ x y=>match x,y with
 |none,AB=>True|some p,AA q=>RelA ρ p.1 q.1/\p.2=q.2|_,_=>False
theorem uA(h:ρ.r b b'):AY T F N QN (numberAt b) ρ (numberAt b'):=by
 refine (Nh h).bind λρ' x x' hl e=>?_;obtain rfl:x=x':=e;by_cases hs:x.isSome=true;simp only[hs,if_true];exact λ_=>Ar;simp only[hs,if_false,DC]
 exact λ_=>⟨hl.r _ _ h,λo o' ho=>by
  cases ho with|number ha=>exact⟨ha,rfl⟩|_=>exact Ar⟩
theorem Hq(h:RelA ρ a a'):AY T F N (λρ x y=>RelA ρ x.1 y.1/\x.2=y.2) (YB a) ρ (YB a'):=
 (uA h.1).bind λρ' x x' hl e=>by
  (cases x<;>cases x'<;>first|exact e.elim|skip);exact λ_=>⟨h.mono hl,rfl⟩;exact λ_=>e
theorem XI(h:RelA ρ a a'):AY T F N Ef (noView a) ρ (noView a'):=by
 refine (jG h.1).bind λρ' x x' _ e=>?_;obtain⟨rfl,rfl⟩:=e;exact λ_=>rfl
theorem UX(T:Twin): ∀(d:Nat) (t:Am) (off:Nat),byteOfCell T.v d t off=byteOfCell T.P d t off
 |0,_,_=>rfl
 |d+1,t,off=>by
  have e1:T.v.underlying t=T.P.underlying t:=rfl;have e2: ∀x,T.v.cellsOf x=T.P.cellsOf x:=λ_=>rfl;have e3: ∀x,T.v.bytesOf x=T.P.bytesOf x:=λ_=>rfl;unfold byteOfCell;rw[e1];simp only[UX T d,e2,e3]
theorem LC(h:RelA ρ a a'):AY T F N Ef (byteOf a) ρ (byteOf a'):=by
 obtain⟨b,o,s⟩:=a;obtain⟨b',o',s'⟩:=a';obtain⟨h1,h2,h3⟩:=h;simp only at h1 h2 h3;subst h2 h3;unfold byteOf
 cases s' with
 |some s=>exact λ_=>rfl|none=>
  refine CU.bind λρ₁ p p' l1 e=>?_;obtain⟨rfl,rfl⟩:=e;refine (XI (a:=⟨b,o',AB⟩) (a':=⟨b',o',AB⟩) ⟨l1.r _ _ h1,rfl,rfl⟩).bind λρ₂ _ _ l2 _=>?_;refine (Nh (b:=b) (b':=b') (l2.r _ _ (l1.r _ _ h1))).bind λρ₃ x x' _ e=>?_;obtain rfl:x=x':=e
  cases x with
  |none=>exact λ_=>Ar|some q=>
   obtain⟨e,n⟩:=q;show AY _ F N Ef (if T.P.cellsOf e=0 then _ else _:Sem Nat) _ (if T.P.cellsOf e=0 then _ else _:Sem Nat);have hb:byteOfCell T.v T.v.depth e (o' % T.v.cellsOf e)=byteOfCell T.P T.P.depth e (o' % T.P.cellsOf e):=UX T _ _ _;by_cases h0:T.P.cellsOf e=0;simp only[h0,if_true];exact λ_=>rfl;simp only[h0,if_false,hb]
   cases hc:byteOfCell T.P T.P.depth e (o' % T.P.cellsOf e) with|none=>exact λ_=>Ar|some b=>exact λ_=>rfl
theorem ABO(h:RelA ρ a a')(n m:Nat):AY T F N QA (partAt a n m) ρ (partAt a' n m):=by
 refine (LC h).bind λρ₁ x x' l1 e=>?_;obtain rfl:x=x':=e;have h1:=h.mono l1;refine (LC (a:={block:=a.block,off:=a.off+n}) (a':={block:=a'.block,off:=a'.off+n}) ⟨h1.1,by simp[h.2.1],rfl⟩).bind λρ₂ y y' l2 e=>?_;obtain rfl:y=y':=e;have h2:=h1.mono l2;show AY T F N QA (pure (if y=x+m then _ else _)) _ (pure (if y=x+m then _ else _));by_cases hy:y=x+m;simp only[hy,if_true];exact λ_=>⟨h2.1,by simp[h.2.1],rfl⟩;simp only[hy,if_false];exact λ_=>⟨h2.1,by simp[h.2.1],rfl⟩
theorem kE(h:RelA ρ a a')(f:Field):AY T F N QA (fieldPlace a f) ρ (fieldPlace a' f):=by
 refine (Ec f.type).bind λρ₁ n n' l1 e=>?_;obtain rfl:n=n':=e;by_cases hn:n=0;simp only[hn,if_true];exact ABO (h.mono l1) _ _;simp only[hn,if_false];exact λ_=>(h.mono l1).add _
end
end
section
variable {l l':Array (Nat×AQ)}{p:Array AQ}{hi hi' lo lo' mx mx':Option AQ}{x x':AQ}
section
variable {T:Twin} {F:Fs} {N:Nat} {ρ:Rn} {α β γ:Type}
theorem AD6(t:Am)(h:Ho T.P t=true):AY T F N (QV F) (Instr.alloc t true (.tuple #[])) ρ (Instr.alloc t true (.tuple #[])):=by
 refine (OM t h).bind λρ₁ z z' l1 e=>?_;obtain⟨rfl,hz⟩:=e;exact (Ny t hz).bind λρ₂ a a' _ ha _=>.ptr ha
theorem AIv(t:Am)(h:BC F ρ x x'):AY T F N (QV F) (TR t x) ρ (TR t x'):=
 (Ny t h).bind λ_ _ _ _ ha _=>.ptr ha
theorem ABP(t:Am)(h:BC F ρ x x'):AY T F N (QV F) (Instr.loadAt t x) ρ (Instr.loadAt t x'):=
 (MQ h).bind λ_ _ _ _ ha=>OO t ha
theorem yl(t:Am){y y':AQ}(h:BC F ρ x x')(k:BC F ρ y y'):AY T F N Ef (Instr.storeAt t x y) ρ (Instr.storeAt t x' y'):=
 (MQ h).bind λ_ _ _ l1 ha=>P5 t ha (k.mono l1)
theorem yt(t:Am)(h:BC F ρ x x')(f:Nat):AY T F N (QV F) (Instr.fieldAt t x f) ρ (Instr.fieldAt t x' f):=by
 refine (BQ t).bind λρ₁ d d' l1 e=>?_;obtain⟨rfl,_⟩:=e
 cases d with
 |struct fs=>
  simp only
  cases hf:fs[f]? with
  |none=>exact λ_=>Ar|some fd=>
   refine (MQ (h.mono l1)).bind λρ₂ a a' l2 ha=>?_;exact (kE ha fd).bind λρ₃ b b' _ hb _=>.ptr hb
 |_=>exact λ_=>Ar
def ABQ (d:TypeDesc) (x:AQ):Sem (Option Ag×Nat×Am):=
 match d,x with| .array len elem,x=>do pure (AA (<- Instr.sureAddr x),len,elem)| .slice elem,.slice base len _=>pure (base,len,elem)|_,_=>stuck "indexAddr: an array's address or a slice expected"
def nX (t:Am) (k:IntKind) (i:Int) (base:Option Ag) (len:Nat) (elem:Am):Sem AQ:=do
 let tiny:=len<=1 && (match <- underlying t with| .array .. =>true|_=>false)
 match base with
 |some a=>
  if 0<=i/\i<len then pure (.pointer (AA (a.add (i.toNat*(<- sizeOf elem)))))
  else if tiny then unsupported (.noEntry "op/indexAddr.an index out of range at an array of length 0 or 1 (ledger 616)")
  else boundsPanic k i len .index
 |none=>boundsPanic k i 0 .index
theorem jH(t:Am)(x ix:AQ):Instr.indexAt t x ix=(asIntOf ix>>=λq=>underlying t>>=λd=>ABQ d x>>=λb=>nX t q.1 q.2 b.1 b.2.1 b.2.2):=by
 unfold Instr.indexAt ABQ nX;refine congrArg (Bind.bind (asIntOf ix)) (funext λq=>?_);refine congrArg (Bind.bind (underlying t)) (funext λd=>?_);cases d<;>cases x<;>first|rfl|(rename_i a;cases a<;>rfl)
theorem yu(t:Am){i i':AQ}(h:BC F ρ x x')(k:BC F ρ i i'):AY T F N (QV F) (Instr.indexAt t x i) ρ (Instr.indexAt t x' i'):=by
 rw[jH,jH];refine (OQ k).bind λρ₁ n n' l1 e=>?_;obtain rfl:n=n':=e;obtain⟨kd,n⟩:=n;refine (BQ t).bind λρ₂ d d' l2 e=>?_;obtain⟨rfl,_⟩:=e;have hx:=(h.mono l1).mono l2;refine AY.bind (Q:=λ(ρ:Rn) (p q:Option Ag×Nat×Am)=>(match p.1,q.1 with|none,AB=>True|some a,AA a'=>RelA ρ a a'\/p.2.1=0|_,_=>False)/\p.2=q.2) ?_ ?_
 ·cases d with
  |array len el=>
   refine AY.bind (MQ hx) λρ₃ a a' _ ha=>?_;exact λ_=>⟨.inl ha,rfl⟩
  |slice el=>
   cases hx with
   |flat hf=>
    (cases x<;>first|exact λ_=>Ar|skip);rename_i a n c;cases a<;>first|exact Ak (show false=true from hf) AV|exact λ_=>⟨Ar,rfl⟩
   |slice ha=>exact λ_=>⟨.inl ha,rfl⟩|emp=>exact λ_=>⟨.inr rfl,rfl⟩|_=>exact λ_=>Ar
  |_=>exact λ_=>Ar
 intro ρ₃ p q l3 hpq;obtain⟨b,len,el⟩:=p;obtain⟨b',len',el'⟩:=q;obtain⟨hb,he⟩:=hpq;simp only[O5] at he;obtain⟨rfl,rfl⟩:=he;simp only;unfold nX;refine (BQ t).bind λρ₄ d d' l4 e=>?_;obtain⟨rfl,_⟩:=e
 cases b with
 |none=>cases b' with
  |none=>exact IP _ _ _ _|some _=>exact hb.elim
 |some a=>cases b' with
  |none=>exact hb.elim|some a'=>
   simp only;by_cases hn:0<=n/\n<(len:Int)
   ·simp only[hn,and_self,if_true];refine (Ec el).bind λρ₅ s s' l5 e=>?_;obtain rfl:s=s':=e;exact λ_=>.ptr (((RelA.mono l4 (hb.resolve_right (by simp only at*;omega))).mono l5).add _)
   simp only[hn,if_false];split<;>(by_cases hl:len<=1<;>simp only[hl,decide_true,decide_false,Bool.true_and,Bool.false_and,if_true,if_false,DC]<;>first|exact λ_=>Ar|exact IP _ _ _ _)
def QP (F:Fs) (ρ:Rn):List (Nat×AQ)->List (Nat×AQ)->Prop:=Ce λp q=>p.1=q.1/\BC F ρ p.2 q.2
theorem ABR{l l':List AQ}: ∀(k off:Nat) {p p':Array AQ},BB F ρ l.toArray l'.toArray->BB F ρ p p'->
  BB F ρ ((l.zipIdx k).foldl (λcs (c,j)=>cs.setIfInBounds (off+j) c) p) ((l'.zipIdx k).foldl (λcs (c,j)=>cs.setIfInBounds (off+j) c) p'):=by
 induction l generalizing l' with
 |nil=>
  intro k off p p' h hp;(have:l'=[]:=by have:=h.1;simp at this;exact fD.1 this.symm);subst this;exact hp
 |cons v l ih=>
  intro k off p p' h hp
  cases l' with
  |nil=>have:=h.1;simp at this|cons v' l'=>
   simp only[List.zipIdx_cons,V9];refine ih _ _ ⟨by have:=h.1;simpa using this,λj x x' hx hx'=>h.2 (j+1) x x' (by simpa using hx) (by simpa using hx')⟩ (hp.set (h.2 0 v v' AV AV) _)
theorem fJ(place:Nat->Option (Nat×Nat)): ∀{l l':List (Nat×AQ)} {p p':Array AQ},QP F ρ l l'->BB F ρ p p'->
  match MO place p l,MO place p' l' with|some a,AA b=>BB F ρ a b|none,AB=>True|_,_=>False:=by
 intro l
 induction l with
 |nil=>intro l' p p' h hp;cases h;exact hp
 |cons x l ih=>
  intro l' p p' h hp
  cases h with
  | @cons _ y _ l' hxy hl=>
   obtain⟨i,v⟩:=x;obtain⟨i',v'⟩:=y;obtain⟨e,hv⟩:=hxy;simp only at e hv;subst e;simp only[MO]
   cases place i with
   |none=>trivial|some q=>
    obtain⟨off,size⟩:=q;have hc:=hv.cells;simp only[<- hc.1,<- hp.1];by_cases hcd:(decide (v.cells.size≠size) || decide (off+v.cells.size>p.size))=true;simp only[hcd,if_true];simp only[hcd,if_false,DC];rw[<- yG,<- yG,AIo,AIo];exact ih hl (ABR 0 off (by simpa using hc) hp)
theorem uB{v:AQ}(h:closed v=true): ∀x∈v.cells,flat x=true:=by
 cases v with|agg cs=>exact λx hx=>VM.1 (show cs.all flat=true from h) x hx|_=>intro x hx;simp[Value.cells] at hx;subst hx;exact h
theorem flat_get(h: ∀x∈p,flat x=true)(i:Nat):flat p[i]! =true:=by
 rw[getElem!_def]
 cases hx:p[i]? with|none=>rfl|some x=>exact h x (mY hx)
theorem VT(h: ∀x∈p,flat x=true)(n m:Nat):BB F ρ ((aP n).map (p[· % m]!)) ((aP n).map (p[· % m]!)):=
 BB.ofFn λ_=>.flat (flat_get h _)
theorem LD(t:Am)(h:Ho T.P t=true):AY T F N (λ_ a b=>a=b/\∀x∈a.cells,flat x=true) (GY t) ρ (GY t):=(C9 t).bind λ_ a b _ hb=>by
 obtain⟨rfl,hi⟩:=hb;unfold Ho at h;rw[hi] at h;simp only at h
 cases hz:a.zero with
 |none=>exact λ_=>Ar|some z=>
  rw[hz] at h;exact λ_=>⟨rfl,uB h⟩
theorem AD7(fs:Array Field):AY T F N Ef (fs.mapM λf=>do pure (f.offset,<- sizeOf f.type):Sem (Array (Nat×Nat))) ρ (fs.mapM λf=>do pure (f.offset,<- sizeOf f.type)):=by
 rw[ADv];refine AY.bind (Q:=Ef) ?_ λ_ a b _ e=>by obtain rfl:a=b:=e;exact λ_=>rfl
 induction fs.toList generalizing ρ with
 |nil=>exact λ_=>rfl|cons f l ih=>
  rw[ADw];refine AY.bind (Q:=Ef) ((Ec f.type).bind λ_ a b _ e=>by obtain rfl:a=b:=e;exact λ_=>rfl) λρ₁ a b _ e=>?_;obtain rfl:a=b:=e;exact ih.bind λρ₂ a b _ e=>by obtain rfl:a=b:=e;exact λ_=>rfl
theorem AD8(t:Am)(h:Ho T.P t=true)(hl:QP F ρ l.toList l'.toList):AY T F N (QV F) (Instr.build t l) ρ (Instr.build t l'):=by
 have mono: ∀{ρ₁:Rn},ρ.le ρ₁->QP F ρ₁ l.toList l'.toList:=λk=>by
  have: ∀{a b:List (Nat×AQ)},QP F ρ a b->QP F _ a b:=λ{a b} q=>by
   induction q with|nil=>exact .nil|cons x _ i=>exact .cons ⟨x.1,x.2.mono k⟩ i
  exact this hl
 refine (LD t h).bind λρ₁ z z' l1 e=>?_;obtain⟨rfl,hz⟩:=e;refine (BQ t).bind λρ₂ d d' l2 e=>?_;obtain⟨rfl,_⟩:=e
 cases d with
 |struct fs=>
  refine (AD7 fs).bind λρ₃ pl pl' l3 e=>?_;obtain rfl:pl=pl':=e;have:=fJ (F:=F) (ρ:=ρ₃) (pl[·]?) (mono ((l1.trans l2).trans l3)) (BB.VR hz)
  cases h1:MO (pl[·]?) z.cells l.toList with
  |none=>exact λ_=>Ar
  |some a=>cases h2:MO (pl[·]?) z.cells l'.toList with
   |none=>simp only[h1,h2] at this|some b=>simp only[h1,h2] at this⊢;exact λ_=>.agg this.1 this.2
 |array n el=>
  refine (Ec el).bind λρ₃ s s' l3 e=>?_;obtain rfl:s=s':=e;have:=fJ (F:=F) (ρ:=ρ₃) (λi=>AA (i*s,s)) (mono ((l1.trans l2).trans l3)) (BB.VR hz)
  cases h1:MO (λi=>AA (i*s,s)) z.cells l.toList with
  |none=>exact λ_=>Ar
  |some a=>cases h2:MO (λi=>AA (i*s,s)) z.cells l'.toList with
   |none=>simp only[h1,h2] at this|some b=>simp only[h1,h2] at this⊢;exact λ_=>.agg this.1 this.2
 |_=>exact λ_=>Ar
theorem kF(t:Am)(n:Nat)(h: ∀el,T.P.underlying t=AA (.slice el)->Ho T.P el=true)(hl:QP F ρ l.toList l'.toList):
  AY T F N (QV F) (aQ t n l) ρ (aQ t n l'):=by
 have mono: ∀{ρ₁:Rn},ρ.le ρ₁->QP F ρ₁ l.toList l'.toList:=λk=>by
  have: ∀{a b:List (Nat×AQ)},QP F ρ a b->QP F _ a b:=λ{a b} q=>by
   induction q with|nil=>exact .nil|cons x _ i=>exact .cons ⟨x.1,x.2.mono k⟩ i
  exact this hl
 refine (BQ t).bind λρ₂ d d' l2 e=>?_;obtain⟨rfl,hd⟩:=e
 cases d with
 |slice el=>
  refine (Ec el).bind λρ₃ s s' l3 e=>?_;obtain rfl:s=s':=e;by_cases hbig:n*s>2 ^ 24;simp only[hbig,if_true];exact λ_=>Ar;simp only[hbig,if_false]
  have key: ∀(ρ₄:Rn) (z:Array AQ),ρ₃.le ρ₄->(∀x∈z,flat x=true)->
    AY T F N (QV F) (do
     let AA cells:=MO (λi=>AA (i*s,s)) ((aP (n*s)).map (z[· % z.size]!)) l.toList|stuck "buildSlice: a part of the wrong size"
     pure (.slice (AA (<- newRow el cells)) n n):Sem AQ) ρ₄ (do
     let AA cells:=MO (λi=>AA (i*s,s)) ((aP (n*s)).map (z[· % z.size]!)) l'.toList|stuck "buildSlice: a part of the wrong size"
     pure (.slice (AA (<- newRow el cells)) n n):Sem AQ):=by
   intro ρ₄ z l4 hz;have:=fJ (F:=F) (ρ:=ρ₄) (λi=>AA (i*s,s)) (mono ((l2.trans l3).trans l4)) (VT hz (n*s) z.size)
   cases h1:MO (λi=>AA (i*s,s)) ((aP (n*s)).map (z[· % z.size]!)) l.toList with
   |none=>exact λ_=>Ar
   |some a=>cases h2:MO (λi=>AA (i*s,s)) ((aP (n*s)).map (z[· % z.size]!)) l'.toList with
    |none=>simp only[h1,h2] at this|some b=>
     simp only[h1,h2] at this⊢;exact (Tm el this).bind λ_ a b _ e=>λ_=>.slice e
  by_cases h0:n*s=0
  ·simp only[h0,if_true];have:=key ρ₃ #[] (.refl _) AV;simp only[h0] at this;exact this
  simp only[h0,if_false];refine (LD el (h el hd)).bind λρ₄ z z' l4 e=>?_;obtain⟨rfl,hz⟩:=e;exact key ρ₄ _ l4 hz
 |_=>exact λ_=>Ar
theorem yw(h:BC F ρ x x')(i:Nat):AY T F N (QV F) (Instr.extract x i) ρ (Instr.extract x' i):=by
 cases h with
 |flat hf=>cases x<;>first|exact λ_=>Ar|exact Ak (show false=true from hf) AV
 |tuple h1 h2=>
  rename_i p p';simp only[Instr.extract]
  cases hv:p[i]? with
  |none=>exact λ_=>Ar|some v=>
   obtain⟨v',hv',hr⟩:=BB.get ⟨h1,h2⟩ hv;rw[hv'];exact λ_=>hr
 |_=>exact λ_=>Ar
theorem ZW(t:Am)(h:BC F ρ x x'):AY T F N (QV F) (Instr.makeInterface t x) ρ (Instr.makeInterface t x'):=by
 refine (BQ t).bind λρ₁ d d' l1 e=>?_;obtain⟨rfl,_⟩:=e;cases d<;>first|exact λ_=>Ar|exact λ_=>.iface (h.mono l1)
theorem uC(f:Bl)(hf:F f)(hv:F.v f){p' q q':Array AQ}(h:BB F ρ p p')(k:BB F ρ q q'):AY T F N (QV F) (aS (.func f) p q) ρ (aS (.func f) p' q'):=
 λ_=>.func hf hv h.1 h.2 k.1 k.2
theorem Qh(h:BC F ρ x x')(y:Nat)(c:BoundsCode):AY T F N Ef (Pm x y c) ρ (Pm x' y c):=by
 refine (OQ h).bind λρ₁ n n' l1 e=>?_;obtain rfl:n=n':=e;obtain⟨k,n⟩:=n;simp only;split;exact λ_=>rfl;exact IP _ _ _ _
def QO (F:Fs) (ρ:Rn) (x y:Option AQ):Prop:=match x,y with
 |none,AB=>True|some a,AA b=>BC F ρ a b|_,_=>False
theorem QO.mono{ρ':Rn}(h:ρ.le ρ'){x y:Option AQ}(k:QO F ρ x y):QO F ρ' x y:=by
 cases x<;>cases y<;>first|exact k.elim|trivial|exact BC.mono h k
theorem NQ(s:Bool)(n k:Nat)(lo hi mx:Option AQ):Qx s n k lo hi mx=
  ((match mx with|some v=>Pm v k (if s then .slice3Acap else .slice3Alen)|none=>pure k:Sem Nat)>>=λm=>
   (match hi,mx with|some v,AA _=>Pm v m .slice3B|some v,AB=>Pm v m (if s then .sliceAcap else .sliceAlen)|none,AB=>pure n|none,AA _=>stuck "Slice: max without high" :Sem Nat)>>=λh=>
    (match lo with|some v=>Pm v h (if mx.isSome then .slice3C else .sliceB)|none=>pure 0:Sem Nat)>>=λl=>pure (l,h,m)):=by
 cases mx<;>cases hi<;>cases lo<;>rfl
theorem Le(s:Bool)(n k:Nat)(h1:QO F ρ lo lo')(h2:QO F ρ hi hi')(h3:QO F ρ mx mx'):
  AY T F N Ef (Qx s n k lo hi mx) ρ (Qx s n k lo' hi' mx'):=by
 rw[NQ,NQ];(have hs:mx.isSome=mx'.isSome:=by cases mx<;>cases mx'<;>first|rfl|exact h3.elim);refine AY.bind (Q:=Ef) ?_ λρ₁ m m' l1 e=>?_
 ·cases mx<;>cases mx'<;>first|exact h3.elim|exact λ_=>rfl|exact Qh h3 _ _
 obtain rfl:m=m':=e;refine AY.bind (Q:=Ef) ?_ λρ₂ a a' l2 e=>?_
 ·have h2:=h2.mono l1
  cases hi<;>cases hi'<;>first
   |exact h2.elim|(cases mx<;>cases mx'<;>first|exact h3.elim|exact λ_=>rfl|exact λ_=>Ar|exact Qh h2 _ _)
 obtain rfl:a=a':=e;refine AY.bind (Q:=Ef) ?_ λρ₃ b b' l3 e=>?_
 ·have h1:=(h1.mono l1).mono l2;rw[<- hs];cases lo<;>cases lo'<;>first|exact h1.elim|exact λ_=>rfl|exact Qh h1 _ _
 obtain rfl:b=b':=e;exact λ_=>rfl
theorem O8(h:BC F ρ x x')(y:Nat)(c:BoundsCode):AY T F N (λ_ p q=>p=q/\p<=y) (Pm x y c) ρ (Pm x' y c):=by
 refine (OQ h).bind λρ₁ n n' l1 e=>?_;obtain rfl:n=n':=e;obtain⟨k,n⟩:=n;simp only;split;exact λ_=>⟨rfl,Aa⟩;exact IP _ _ _ _
theorem bF(s:Bool)(h1:QO F ρ lo lo')(h2:QO F ρ hi hi')(h3:QO F ρ mx mx'):
  AY T F N (λ_ p q=>p=q/\p=(0,0,0)) (Qx s 0 0 lo hi mx) ρ (Qx s 0 0 lo' hi' mx'):=by
 rw[NQ,NQ];(have hs:mx.isSome=mx'.isSome:=by cases mx<;>cases mx'<;>first|rfl|exact h3.elim);refine AY.bind (Q:=λ_ p q=>p=q/\p<=0) ?_ λρ₁ m m' l1 e=>?_
 ·cases mx<;>cases mx'<;>first|exact h3.elim|exact λ_=>⟨rfl,Bd _⟩|exact O8 h3 _ _
 obtain⟨rfl,e⟩:=e;obtain rfl:m=0:=ADx.1 e;refine AY.bind (Q:=λ_ p q=>p=q/\p<=0) ?_ λρ₂ a a' l2 e=>?_
 ·have h2:=h2.mono l1
  cases hi<;>cases hi'<;>first
   |exact h2.elim|(cases mx<;>cases mx'<;>first|exact h3.elim|exact λ_=>⟨rfl,Bd _⟩|exact λ_=>Ar|exact O8 h2 _ _)
 obtain⟨rfl,e⟩:=e;obtain rfl:a=0:=ADx.1 e;refine AY.bind (Q:=λ_ p q=>p=q/\p<=0) ?_ λρ₃ b b' l3 e=>?_
 ·have h1:=(h1.mono l1).mono l2;rw[<- hs];cases lo<;>cases lo'<;>first|exact h1.elim|exact λ_=>⟨rfl,Bd _⟩|exact O8 h1 _ _
 obtain⟨rfl,e⟩:=e;obtain rfl:b=0:=ADx.1 e;exact λ_=>⟨rfl,rfl⟩
theorem AD9(t:Am)(h:BC F ρ x x')(h1:QO F ρ lo lo')(h2:QO F ρ hi hi')(h3:QO F ρ mx mx'):
  AY T F N (QV F) (WC t x lo hi mx) ρ (WC t x' lo' hi' mx'):=by
 unfold WC;refine (BQ t).bind λρ₁ d d' l1 e=>?_;obtain⟨rfl,_⟩:=e;have hx:=h.mono l1;have h1:=h1.mono l1;have h2:=h2.mono l1;have h3:=h3.mono l1
 cases d with
 |string=>
  cases hx with
  |flat hf=>
   (cases x<;>first|exact λ_=>Ar|skip);rename_i b;(have hs:mx.isSome=mx'.isSome:=by cases mx<;>cases mx'<;>first|rfl|exact h3.elim);simp only[<- hs];split;exact λ_=>Ar;refine (Le false _ _ h1 h2 (mx:=AB) (mx':=AB) trivial).bind λρ₂ q q' _ e=>?_;obtain rfl:q=q':=e;exact λ_=>.flat rfl
  |_=>exact λ_=>Ar
 |slice el=>
  have key: ∀{a a':Option Ag} {n k:Nat},(match a,a' with|none,AB=>True|some p,AA q=>RelA ρ₁ p q|_,_=>False)->
    AY T F N (QV F) (do let (l,h,m) <- Qx true n k lo hi mx;let size <- sizeOf el;pure (.slice (if m=l then a else a.map (·.add (l*size))) (h - l) (m - l)):Sem AQ) ρ₁
     (do let (l,h,m) <- Qx true n k lo' hi' mx';let size <- sizeOf el;pure (.slice (if m=l then a' else a'.map (·.add (l*size))) (h - l) (m - l)):Sem AQ):=by
   intro a a' n k ha;refine (Le true _ _ h1 h2 h3).bind λρ₂ q q' l2 e=>?_;obtain rfl:q=q':=e;obtain⟨l,hh,m⟩:=q;refine (Ec el).bind λρ₃ s s' l3 e=>?_;obtain rfl:s=s':=e;(cases a<;>cases a'<;>first|exact ha.elim|skip);intro _;simp only[Option.map_none,ite_self];exact .flat rfl;have ha:RelA ρ₁ _ _:=ha;by_cases hm:m=l;simp only[hm,if_true];exact λ_=>.slice ((ha.mono l2).mono l3);simp only[hm,if_false,Fj];exact λ_=>.slice (((ha.mono l2).mono l3).add _)
  cases hx with
  |flat hf=>
   (cases x<;>first|exact λ_=>Ar|skip);rename_i a n k
   cases a with|none=>exact key trivial|some _=>exact Ak (show false=true from hf) AV
  |slice ha=>exact key (a:=AA _) (a':=AA _) ha|emp hc=>
   refine (bF true h1 h2 h3).bind λρ₂ q q' l2 e=>?_;obtain⟨rfl,rfl⟩:=e;refine (Ec el).bind λρ₃ s s' l3 e=>?_;exact λ_=>.emp (l3.c _ _ (l2.c _ _ hc))
  |_=>exact λ_=>Ar
 |pointer el=>
  refine AY.bind (Q:=QA) (jF hx) λρ₂ a a' l2 ha=>?_;refine (BQ el).bind λρ₃ d d' l3 e=>?_;obtain⟨rfl,_⟩:=e
  cases d with
  |array n elem=>
   refine (Le false _ _ ((h1.mono l2).mono l3) ((h2.mono l2).mono l3) ((h3.mono l2).mono l3)).bind λρ₄ q q' l4 e=>?_;obtain rfl:q=q':=e;obtain⟨l,hh,m⟩:=q;refine (Ec elem).bind λρ₅ s s' l5 e=>?_;obtain rfl:s=s':=e;have ha:=((ha.mono l3).mono l4).mono l5;by_cases hm:m=l;simp only[hm,if_true];exact λ_=>.slice ha;simp only[hm,if_false];exact λ_=>.slice (ha.add _)
  |_=>exact λ_=>Ar
 |_=>exact λ_=>Ar
theorem yz(t:Am)(h:BC F ρ x x')(h1:QO F ρ lo lo')(h2:QO F ρ hi hi')(h3:QO F ρ mx mx'):
  AY T F N (QV F) (LY t x lo hi mx) ρ (LY t x' lo' hi' mx'):=by
 unfold LY;refine (BQ t).bind λρ₁ d d' l1 e=>?_;obtain⟨rfl,_⟩:=e
 cases d with
 |array n elem=>
  refine (MQ (h.mono l1)).bind λρ₂ a a' l2 ha=>?_;refine (Le false _ _ ((h1.mono l1).mono l2) ((h2.mono l1).mono l2) ((h3.mono l1).mono l2)).bind λρ₄ q q' l4 e=>?_;obtain rfl:q=q':=e;obtain⟨l,hh,m⟩:=q;refine (Ec elem).bind λρ₅ s s' l5 e=>?_;obtain rfl:s=s':=e;have ha:=(ha.mono l4).mono l5;by_cases hm:m=l;simp only[hm,if_true];exact λ_=>.slice ha;simp only[hm,if_false];exact λ_=>.slice (ha.add _)
 |_=>exact AD9 t (h.mono l1) (h1.mono l1) (h2.mono l1) (h3.mono l1)
theorem nY(h0: ∀i,T.P.info? 0=AA i->i.methods.find? (·.name== "")=AB){b:Nat}{β:Type}{Q:Rn->Next->β->Prop}(s':Sem β):
  DT T F N Q (do
   if (<- nilAhead ((<- program).types.size+Made.depth) 0 (.chan (AA b)) "") !=AA false then
    unsupported (.noEntry "op/nilCheck.the method's receiver behind this interface value is a nil pointer, or cannot be seen to be none, and the arguments act or may panic (ledger 612)")
   pure (.value (.func (.method "") #[.iface 0 (.chan (AA b))] #[])):Sem Next) ρ s':=by
 refine .inl ?_;show CW T ((nilAhead (T.P.types.size+Made.depth) 0 (.chan (AA b)) "").bind _)
 cases T.P.types.size+Made.depth with
 |zero=>exact Ar|succ n=>
  have e:CW T (nilAhead (n+1) 0 (.chan (AA b)) ""):=by
   rw[nilAhead];show CW T ((match T.P.info? 0 with|some d=>pure d|none=>stuck "no such type" :Sem Qv).bind _)
   cases h:T.P.info? 0 with
   |none=>exact Ar|some i=>
    simp only[pure,JZ,h0 i h];exact Ar
  exact e.bind
theorem uD(h0: ∀i,T.P.info? 0=AA i->i.methods.find? (·.name== "")=AB)(h:BC F ρ x x')(f f':AQ->Sem Next)
  (hf:f=λx=>match x with
   | .pointer AB| .nilIface| .nilFunc=>Qw .nilDeref| .func (.method name) first captured=>
    match (first[0]? :Option AQ) with
    |some .nilIface=>Qw .nilDeref
    |some (.iface t w)=>do
     if (<- nilAhead ((<- program).types.size+Made.depth) t w name) !=AA false then
      unsupported (.noEntry "op/nilCheck.the method's receiver behind this interface value is a nil pointer, or cannot be seen to be none, and the arguments act or may panic (ledger 612)")
     pure (.value (.func (.method name) first captured))
    |_=>pure (.value (.func (.method name) first captured))
   |x=>pure (.value x)) (e:f'=f) {Q:Rn->Next->Next->Prop} (hQ: ∀ρ x x',BC F ρ x x'->Q ρ (.value x) (.value x')):AY T F N Q (f x) ρ (f' x'):=by
 subst e hf
 cases h with
 |flat hf=>
  cases x<;>first
   |exact Bq (e:=.nilDeref) trivial|exact λ_=>hQ _ _ _ (.flat hf)|exact Ak (show false=true from hf) AV|(rename_i a;cases a<;>first|exact Bq (e:=.nilDeref) trivial|exact λ_=>hQ _ _ _ (.flat hf))
 |tok hc ht hp=>
  cases x'<;>first|exact Ak (show false=true from ht) AV|exact λ_=>hQ _ _ _ (.tok hc ht hp)|skip
  ·rename_i a;cases a<;>first|exact Ak (show false=true from ht) AV|exact λ_=>hQ _ _ _ (.tok hc ht hp)
  rename_i fn p q;cases fn<;>first|exact Ak (show false=true from ht) AV|exact λ_=>hQ _ _ _ (.tok hc ht hp)
 |mf hx hm=>exact λ_=>nY h0 _|ptr ha=>exact λ_=>hQ _ _ _ (.ptr ha)|slice ha=>exact λ_=>hQ _ _ _ (.slice ha)|emp hc=>exact λ_=>hQ _ _ _ (.emp hc)|map ha=>exact λ_=>hQ _ _ _ (.map ha)|chan ha=>exact λ_=>hQ _ _ _ (.chan ha)|func h1 h6 h2 h3 h4 h5=>exact λ_=>hQ _ _ _ (.func h1 h6 h2 h3 h4 h5)|yield ha=>exact λ_=>hQ _ _ _ (.yield ha)|seq ha=>exact λ_=>hQ _ _ _ (.seq ha)|iface ha=>exact λ_=>hQ _ _ _ (.iface ha)|agg h1 h2=>exact λ_=>hQ _ _ _ (.agg h1 h2)|tuple h1 h2=>exact λ_=>hQ _ _ _ (.tuple h1 h2)
theorem AEA{Q:Rn->AQ->AQ->Prop}(h:BC F ρ x x'):AY T F N Q (Instr.panic x) ρ (Instr.panic x'):=by
 cases h with
 |flat hf=>
  (cases x<;>first|exact λ_=>Ar|exact Ak (show false=true from hf) AV|skip);refine AY.bind (Q:=Ef) ?_ λρ₁ a b _ e=>?_
  ·refine AY.bind (Q:=Ef) (s:=sys .env) (s':=sys .env) (λ_ x=>rfl) λρ₁ a b _ e=>?_;obtain rfl:a=b:=e;(cases a<;>first|exact λ_=>Ar|skip);exact CU.bind λρ₂ p p' _ e=>by obtain⟨rfl,rfl⟩:=e;exact λ_=>rfl
  obtain rfl:a=b:=e;split;exact RJ (.flat rfl);exact Bq (e:=.panicNil) trivial
 |iface h=>exact RJ (.iface h)|_=>exact λ_=>Ar
end
end
section
variable {a a' b b':Ag}{x x':AQ}
section
variable {T:Twin} {F:Fs} {N:Nat} {ρ:Rn} {α β γ:Type}
theorem RelA.beq(hok:ρ.Ok N)(h:RelA ρ a a')(k:RelA ρ b b'):(a.block==b.block)=(a'.block==b'.block):=by
 rw[mi,beq_iff_eq,beq_iff_eq];constructor;intro e;exact hok.fn _ _ _ h.1 (e▸k.1);intro e;exact hok.inj _ _ _ h.1 (e▸k.1)
theorem RelA.beq'(hok:ρ.Ok N)(h:RelA ρ a a')(k:RelA ρ b b'):(a==b)=(a'==b'):=by
 rw[mi,beq_iff_eq,beq_iff_eq];obtain⟨b1,o1,s1⟩:=a;obtain⟨b2,o2,s2⟩:=b;obtain⟨b3,o3,s3⟩:=a';obtain⟨b4,o4,s4⟩:=b';obtain⟨h1,h2,h3⟩:=h;obtain⟨k1,k2,k3⟩:=k;simp only at h1 h2 h3 k1 k2 k3;subst h2 h3 k2 k3;simp only[Addr.mk.injEq];constructor
 ·rintro⟨rfl,rfl,rfl⟩;exact⟨hok.fn _ _ _ h1 k1,rfl,rfl⟩
 rintro⟨rfl,rfl,rfl⟩;exact⟨hok.inj _ _ _ h1 k1,rfl,rfl⟩
theorem AEB(h:BC F ρ x x'):AY T F N Ef (Builtin.lenOf x) ρ (Builtin.lenOf x'):=by
 cases h with
 |flat hf=>cases x<;>first|exact λ_=>rfl|exact λ_=>Ar
 |slice _=>exact λ_=>rfl|emp=>exact λ_=>rfl|_=>exact λ_=>Ar
def ABS:AQ->Bool
 | .slice _ _ _| .string _=>true|_=>false
theorem ABT(h:BC F ρ x x'):AY T F N (λ_ a b=>a=b/\ABS x=true/\∀p,x=.slice (AA p) 0 0->a=0) (Builtin.lenOf x) ρ (Builtin.lenOf x'):=by
 by_cases he: ∃p,x=.slice (AA p) 0 0
 ·obtain⟨p,rfl⟩:=he
  cases h with|flat hf=>exact Ak (show false=true from hf) AV|slice _=>exact λ_=>⟨rfl,rfl,λ_ _=>rfl⟩|emp=>exact λ_=>⟨rfl,rfl,λ_ _=>rfl⟩
 by_cases hs:ABS x=true;exact (AEB h).mono λ_ _ _ _ e=>⟨e,hs,λp hp=>Ak ⟨p,hp⟩ he⟩
 have e: ∃s,Builtin.lenOf x=.halt (.stuck s):=by
  cases x<;>first|exact Ak rfl hs|exact⟨_,rfl⟩
 obtain⟨s,e⟩:=e;rw[e];exact λ_=>Ar
theorem Lh(size:Nat)(h:ABS x=true):MP size 0 x=pure #[]:=by
 (cases x<;>first|exact Ak (show false=true from h) AV|skip);unfold MP;simp;rename_i a n c
 cases a with|none=>rfl|some a=>unfold MP;simp only[mr];rfl
theorem AHG(h:BC F ρ x x')(hs:ABS x=true):ABS x'=true:=by
 cases h<;>first|exact hs|rfl|exact Ak (show false=true from hs) AV
theorem NR(size n:Nat)(h:BC F ρ x x')(hn: ∀p,x=.slice (AA p) 0 0->n=0):AY T F N (QVs F) (MP size n x) ρ (MP size n x'):=by
 cases h with
 |flat hf=>
  cases x<;>first|exact λ_=>Ar|skip
  ·rename_i s;refine λ_=>BB.VR λx hx=>?_;obtain⟨b,_,rfl⟩:=Array.mem_map.1 hx;rfl
  rename_i a n k
  cases a with|none=>exact λ_=>BB.nil|some _=>exact Ak (show false=true from hf) AV
 |slice ha=>exact SG ha _|emp=>
  obtain rfl:=hn _ rfl;rw[Lh size (x:=.slice (AA _) 0 0) rfl,Lh size (x:=.slice (AA _) 0 0) rfl];exact λ_=>BB.nil
 |_=>exact λ_=>Ar
theorem Tn(h:RelA ρ a a'):AY T F N Ef (frozen a) ρ (frozen a'):=λ_=>Y0 h λ_=>rfl
def QB (ρ:Rn) (b b':Option Ag):Prop:=match b,b' with
 |none,AB=>True|some a,AA a'=>RelA ρ a a'|_,_=>False
theorem QB.mono{ρ':Rn}(h:ρ.le ρ'){b b':Option Ag}(k:QB ρ b b'):QB ρ' b b':=by
 cases b<;>cases b'<;>first|exact k.elim|trivial|exact RelA.mono h k
theorem bG{s s':AQ}(h:BC F ρ s s'):(∃b b' n k,s=.slice b n k/\s'=.slice b' n k/\(QB ρ b b'\/∃c a,ρ.c c (.slice (AA a) 0 0)/\n=0/\k=0/\b=AA ⟨c,0,AB⟩/\b'=AA a))\/(∀b n k,s≠ .slice b n k):=by
 cases h with
 |flat hf=>
  cases s with
  |slice a n k=>
   cases a with|none=>exact .inl ⟨AB,AB,n,k,rfl,rfl,.inl trivial⟩|some _=>exact Ak (show false=true from hf) AV
  |_=>exact .inr nofun
 |slice ha=>exact .inl ⟨AA _,AA _,_,_,rfl,rfl,.inl ha⟩|emp hc=>exact .inl ⟨AA _,AA _,_,_,rfl,rfl,.inr ⟨_,_,hc,rfl,rfl,rfl,rfl⟩⟩|_=>exact .inr nofun
theorem ABU{α:Type}(size sLen n:Nat)(b:Option Ag)(x:AQ)(t:String):CW T (do
  if !(<- Builtin.mayShare size sLen n b x) then mark .noRoom
  unsupported (.resourceLimit t):Sem α):=by
 have h1: ∀y:Bool,CW T (do
   if !y then mark .noRoom
   unsupported (.resourceLimit t):Sem α):=λy=>by cases y<;>trivial
 have h2: ∀{f:Bool->Sem α},(∀y,CW T (f y))->CW T (JZ (match x with
   | .slice (AA b₁) _ _=>do pure (!(<- Builtin.holdsCells b₁ (n*size)) || b.any (·.block==b₁.block))
   |_=>pure false:Sem Bool) f):=λ{f} h=>by
  (cases x<;>first|exact h _|skip);rename_i a _ _
  cases a with
  |none=>exact h _|some a=>
   intro z;cases z<;>exact h _
 unfold Builtin.mayShare
 cases b with
 |none=>exact h2 h1|some a=>
  intro z
  cases z with
  |none=>
   intro y;exact h1 true
  |some q=>
   intro y;obtain⟨q1,q2⟩:=q;show CW T (JZ (if !(_ && !y) then pure true else _) _);by_cases hc:(!((a.spot.isNone && decide (a.off+sLen*size<=q2)) && !y))=true;simp only[hc,if_true];exact h1 true;simp only[hc,if_false,DC];exact h2 h1
theorem ABV(t xt ty:Am)(hint: ∀k,T.P.underlying xt≠AA (.int k))(hz: ∀el,T.P.underlying t=AA (.slice el)->Ho T.P el=true)
  {s s' x x':AQ} (hs:BC F ρ s s') (hx:BC F ρ x x'):AY T F N (QV F) (Pn #[t,xt] ty #[s,x]) ρ (Pn #[t,xt] ty #[s',x']):=by
 have hsl:=bG hs;unfold Pn;simp only[Wy,tX,AFw];refine (BQ t).bind λρ₁ d d' l1 e=>?_;obtain⟨rfl,hd⟩:=e
 cases d with
 |slice el=>
  simp only;rcases hsl with ⟨b,b',sLen,sCap,rfl,rfl,hb⟩|hns
  ·simp only;refine (Ec el).bind λρ₂ size size' l2 e=>?_;obtain rfl:size=size':=e;refine (BQ xt).bind λρ₃ dx dx' l3 e=>?_;obtain⟨rfl,nZ⟩:=e;refine AY.bind (Q:=λ_ a b=>a=false/\b=false) ?_ λρ₄ z z' l4 e=>?_
   ·cases dx<;>first|exact λ_=>⟨rfl,rfl⟩|exact Ak nZ (hint _)
   obtain⟨rfl,rfl⟩:=e;simp only[DC,if_false,AIp,if_true,false_or];refine (ABT ((((hx.mono l1).mono l2).mono l3).mono l4)).bind λρ₅ n n' l5 e=>?_;obtain⟨e,hsl,hn0⟩:=e;obtain rfl:n=n':=e;have hs5:=((((hs.mono l1).mono l2).mono l3).mono l4).mono l5;have hx:=((((hx.mono l1).mono l2).mono l3).mono l4).mono l5;by_cases hn:sLen+n<=sCap
   ·simp only[hn,if_true];rcases hb with hb|⟨c0,a0,hc0,rfl,rfl,rfl,rfl⟩;rotate_left
    ·(obtain rfl:n=0:=by omega);rw[Lh size hsl,Lh size (AHG hx hsl)];exact λ_=>.emp (l5.c _ _ (l4.c _ _ (l3.c _ _ (l2.c _ _ (l1.c _ _ hc0)))))
    have hb:=((((hb.mono l1).mono l2).mono l3).mono l4).mono l5;refine (NR size n hx hn0).bind λρ₆ c c' l6 hc=>?_;have hb:=hb.mono l6
    cases b with
    |none=>cases b' with
     |none=>exact λ_=>.flat rfl|some _=>exact hb.elim
    |some a=>cases b' with
     |none=>exact hb.elim|some a'=>
      simp only;have ha:RelA ρ₆ a a':=hb;exact (NP c.toList c'.toList 0 (ha.add _) (by simpa using hc)).bind λρ₇ _ _ l7 _=>λ_=>.slice (ha.mono l7)
   simp only[hn,if_false]
   have key: ∀ρ₆,ρ₅.le ρ₆->AY T F N (QV F) (do
      let newCap <- choose (.appendCap (sLen+n) sCap el)
      askRoom (newCap*(<- I4 el).bytes)
      let old <- MP size sLen (.slice b sLen sCap);let new <- MP size n x;let rest:=Nw (<- GY el).cells (newCap - (sLen+n))
      pure (.slice (AA (<- newRow el (old++new++rest))) (sLen+n) newCap):Sem AQ) ρ₆ (do
      let newCap <- choose (.appendCap (sLen+n) sCap el)
      askRoom (newCap*(<- I4 el).bytes)
      let old <- MP size sLen (.slice b' sLen sCap);let new <- MP size n x';let rest:=Nw (<- GY el).cells (newCap - (sLen+n))
      pure (.slice (AA (<- newRow el (old++new++rest))) (sLen+n) newCap):Sem AQ):=by
    intro ρ₆ l6;refine (Jb _).bind λρ₇ nc nc' l7 e=>?_;obtain rfl:nc=nc':=e;refine (C9 el).bind λρ₈ i i' l8 e=>?_;obtain⟨rfl,_⟩:=e;refine (bD _).bind λρ₉ _ _ l9 _=>?_;have lt:=((l6.trans l7).trans l8).trans l9;refine (NR size sLen (hs5.mono lt) (λp hp=>by injection hp)).bind λρ₁₀ o o' l10 ho=>?_;refine (NR size n (hx.mono (lt.trans l10)) hn0).bind λρ₁₁ c c' l11 hc=>?_;refine (LD el (hz el hd)).bind λρ₁₂ z z' l12 e=>?_;obtain⟨rfl,hz⟩:=e;exact (Tm el (((ho.mono (l11.trans l12)).append (hc.mono l12)).append (VT hz _ _))).bind λ_ a a' _ ha=>λ_=>.slice ha
   refine (C9 el).bind λρ₆ i i' l6 e=>?_;obtain⟨rfl,_⟩:=e
   have ASf: ∀ρ₇,ρ₆.le ρ₇->AY T F N (QV F) (do
      if tY (sLen+n) sCap*(<- I4 el).bytes>2 ^ 48 then (do
       if !(<- Builtin.mayShare size sLen n b x) then mark .noRoom
       unsupported (.resourceLimit "append: a slice or a string whose bytes no memory bears"))
      let newCap <- choose (.appendCap (sLen+n) sCap el)
      askRoom (newCap*(<- I4 el).bytes)
      let old <- MP size sLen (.slice b sLen sCap);let new <- MP size n x;let rest:=Nw (<- GY el).cells (newCap - (sLen+n))
      pure (.slice (AA (<- newRow el (old++new++rest))) (sLen+n) newCap):Sem AQ) ρ₇ (do
      if tY (sLen+n) sCap*(<- I4 el).bytes>2 ^ 48 then (do
       if !(<- Builtin.mayShare size sLen n b' x') then mark .noRoom
       unsupported (.resourceLimit "append: a slice or a string whose bytes no memory bears"))
      let newCap <- choose (.appendCap (sLen+n) sCap el)
      askRoom (newCap*(<- I4 el).bytes)
      let old <- MP size sLen (.slice b' sLen sCap);let new <- MP size n x';let rest:=Nw (<- GY el).cells (newCap - (sLen+n))
      pure (.slice (AA (<- newRow el (old++new++rest))) (sLen+n) newCap):Sem AQ):=by
    intro ρ₇ l7;refine (C9 el).bind λρ₈ j j' l8 e=>?_;obtain⟨rfl,_⟩:=e;by_cases hbig:tY (sLen+n) sCap*j.bytes>2 ^ 48
    ·simp only[hbig,if_true];exact AY.bind (Q:=λ_ _ _=>False) (Rk (ABU _ _ _ _ _ _) _) λ_ _ _ _ e=>e.elim
    simp only[hbig,if_false];exact key ρ₈ ((l6.trans l7).trans l8)
   by_cases hov:((sLen+n:Nat):Int)>IntKind.i64.max/\i.bytes=0
   ·simp only[hov,and_self,if_true];exact AY.bind (Q:=λ_ _ _=>False) (Bq (e:=.error _) trivial) λ_ _ _ _ e=>e.elim
   simp only[hov,if_false];exact ASf ρ₆ (.refl _)
  cases s<;>first|exact λ_=>Ar|exact Ak rfl (hns _ _ _)
 |_=>exact λ_=>Ar
end
end
section
variable {p p':Array AQ}{x x' y y':AQ}
section
variable {T:Twin} {F:Fs} {N:Nat} {ρ:Rn} {α β γ:Type}
theorem AIw(t ty:Am)(hc: ∀d e,T.P.underlying t≠AA (.chan d e))(h:BC F ρ x x'):AY T F N (QV F) (Un #[t] ty #[x]) ρ (Un #[t] ty #[x']):=by
 unfold Un;simp only[Wy,tX];refine (BQ t).bind λρ₁ d d' l1 e=>?_;obtain⟨rfl,hd⟩:=e;have hx:=h.mono l1
 cases d with
 |array n e=>cases x<;>cases x'<;>exact λ_=>.flat rfl|pointer arr=>
  have:AY T F N (QV F) (do
    let .array n _ <- underlying arr|stuck "len: pointer to array expected"
    pure (goInt n):Sem AQ) ρ₁ (do
    let .array n _ <- underlying arr|stuck "len: pointer to array expected"
    pure (goInt n):Sem AQ):=by
   refine (BQ arr).bind λρ₂ d d' l2 e=>?_;obtain⟨rfl,_⟩:=e;cases d<;>first|exact λ_=>Ar|exact λ_=>.flat rfl
  cases x<;>cases x'<;>exact this
 |string=>
  cases hx with
  |flat hf=>cases x<;>first|exact λ_=>Ar|exact λ_=>.flat rfl
  |_=>exact λ_=>Ar
 |slice el=>
  cases hx with
  |flat hf=>cases x<;>first|exact λ_=>Ar|exact λ_=>.flat rfl
  |slice _=>exact λ_=>.flat rfl|emp _=>exact λ_=>.flat rfl|_=>exact λ_=>Ar
 |map k el=>
  cases hx with
  |flat hf=>
   (cases x<;>first|exact λ_=>Ar|skip);rename_i r
   cases r with|none=>exact λ_=>.flat rfl|some _=>exact Ak (show false=true from hf) AV
  |map hb=>
   exact λ_=>⟨hb,λo o' ho=>by
    cases ho with
    | @map es es' k hs _=>
     show BC F _ (goInt es.size) (goInt es'.size);rw[hs];exact .flat rfl
    |_=>exact Ar⟩
  |_=>exact λ_=>Ar
 |chan d e=>exact Ak hd (hc _ _)|_=>cases x<;>exact λ_=>Ar
theorem uF(op:BinOp)(x y:ByteArray):AY T F N (QV F) (Op.stringOp op x y) ρ (Op.stringOp op x y):=by
 unfold Op.stringOp;(cases op<;>first|exact λ_=>.flat rfl|exact λ_=>Ar|skip);simp only;split;exact λ_=>Ar;exact λ_=>.flat rfl
theorem BR(h:BC F ρ x x')(hf:flat x=true):x'=x:=by
 cases h<;>first|rfl|exact Ak (show false=true from hf) AV
theorem ng(o:BinOp)(k:IntKind)(a:Int)(k':IntKind)(b:Int):AY T F N (QV F) (Op.shift o k a k' b) ρ (Op.shift o k a k' b):=by
 unfold Op.shift;split;exact Bq (e:=.error _) trivial;cases o<;>first|exact λ_=>.flat rfl|exact λ_=>Ar
theorem ABW(o:BinOp)(k:IntKind)(a b:Int):AY T F N (QV F) (Op.intDiv o k a b) ρ (Op.intDiv o k a b):=by
 unfold Op.intDiv;split;exact Bq (e:=.error _) trivial;cases o<;>first|exact λ_=>.flat rfl|exact λ_=>Ar
theorem ABX(x y:AQ):(∃k a k' b,x=.int k a/\y=.int k' b)\/(∃k a k' b,x=.float k a/\y=.float k' b)\/(∃a b,x=.string a/\y=.string b)\/
  ∃h,Builtin.max2 x y=.halt h/\Halt.still h:=by
 unfold Builtin.max2;split;exact .inl ⟨_,_,_,_,rfl,rfl⟩;exact .inr (.inl ⟨_,_,_,_,rfl,rfl⟩);exact .inr (.inr (.inl ⟨_,_,rfl,rfl⟩));exact .inr (.inr (.inr ⟨_,rfl,Ar⟩));exact .inr (.inr (.inr ⟨_,rfl,Ar⟩));exact .inr (.inr (.inr ⟨_,rfl,Ar⟩))
theorem ABY(x y:AQ):(∃k a k' b,x=.int k a/\y=.int k' b)\/(∃k a k' b,x=.float k a/\y=.float k' b)\/(∃a b,x=.string a/\y=.string b)\/
  ∃h,Builtin.min2 x y=.halt h/\Halt.still h:=by
 unfold Builtin.min2;split;exact .inl ⟨_,_,_,_,rfl,rfl⟩;exact .inr (.inl ⟨_,_,_,_,rfl,rfl⟩);exact .inr (.inr (.inl ⟨_,_,rfl,rfl⟩));exact .inr (.inr (.inr ⟨_,rfl,Ar⟩));exact .inr (.inr (.inr ⟨_,rfl,Ar⟩));exact .inr (.inr (.inr ⟨_,rfl,Ar⟩))
theorem fK{Q:Rn->α->β->Prop}{s:Sem α}{s':Sem β}{h:Halt}(e:s=.halt h)(k:Halt.still h):AY T F N Q s ρ s':=by
 subst e;intro _;cases h<;>first|exact k.elim|exact k
theorem AHH(h:BC F ρ x x')(k:BC F ρ y y'):AY T F N (QV F) (Builtin.max2 x y) ρ (Builtin.max2 x' y'):=by
 rcases ABX x y with ⟨k₁,a,k₂,b,rfl,rfl⟩|⟨k₁,a,k₂,b,rfl,rfl⟩|⟨a,b,rfl,rfl⟩|⟨hh,e,hs⟩;rw[BR h rfl,BR k rfl];exact λ_=>.flat rfl
 ·cases h with
  |flat hf=>exact Ak (show false=true from hf) AV
 ·rw[BR h rfl,BR k rfl];simp only[Builtin.max2,Op.stringOp];exact λ_=>.flat rfl
 exact fK e hs
theorem AHI(h:BC F ρ x x')(k:BC F ρ y y'):AY T F N (QV F) (Builtin.min2 x y) ρ (Builtin.min2 x' y'):=by
 rcases ABY x y with ⟨k₁,a,k₂,b,rfl,rfl⟩|⟨k₁,a,k₂,b,rfl,rfl⟩|⟨a,b,rfl,rfl⟩|⟨hh,e,hs⟩;rw[BR h rfl,BR k rfl];exact λ_=>.flat rfl
 ·cases h with
  |flat hf=>exact Ak (show false=true from hf) AV
 ·rw[BR h rfl,BR k rfl];simp only[Builtin.min2,Op.stringOp];exact λ_=>.flat rfl
 exact fK e hs
theorem jI{f f':AQ->AQ->Sem AQ}(hf: ∀{ρ:Rn} {x x' y y':AQ},BC F ρ x x'->BC F ρ y y'->AY T F N (QV F) (f x y) ρ (f' x' y')):
  ∀(l l':List AQ) {ρ:Rn} {x x':AQ},BB F ρ l.toArray l'.toArray->BC F ρ x x'->AY T F N (QV F) (l.foldlM f x) ρ (l'.foldlM f' x'):=by
 intro l
 induction l with
 |nil=>
  intro l' ρ x x' h hx;(have:l'=[]:=by have:=h.1;simp at this;exact fD.1 this.symm);subst this;exact λ_=>hx
 |cons v l ih=>
  intro l' ρ x x' h hx
  cases l' with
  |nil=>have:=h.1;simp at this|cons v' l'=>
   rw[List.foldlM_cons,List.foldlM_cons];refine (hf hx (h.2 0 v v' AV AV)).bind λρ₁ a a' l1 ha=>ih l' ⟨by have:=h.1;simpa using this,λj x x' hx hx'=>?_⟩ ha;exact (h.2 (j+1) x x' (by simpa using hx) (by simpa using hx')).mono l1
theorem AIx(ts:Array Am)(ty:Am)(h:BB F ρ p p'):AY T F N (QV F) (Builtin.max_ ts ty p) ρ (Builtin.max_ ts ty p'):=by
 obtain⟨l⟩:=p;obtain⟨l'⟩:=p';unfold Builtin.max_
 cases l with
 |nil=>exact λ_=>Ar|cons v l=>
  cases l' with
  |nil=>have:=h.1;simp at this|cons v' l'=>
   exact jI (λh k=>AHH h k) l l' ⟨by have:=h.1;simpa using this,λj x x' hx hx'=>h.2 (j+1) x x' (by simpa using hx) (by simpa using hx')⟩ (h.2 0 v v' AV AV)
theorem AIy(ts:Array Am)(ty:Am)(h:BB F ρ p p'):AY T F N (QV F) (Builtin.min_ ts ty p) ρ (Builtin.min_ ts ty p'):=by
 obtain⟨l⟩:=p;obtain⟨l'⟩:=p';unfold Builtin.min_
 cases l with
 |nil=>exact λ_=>Ar|cons v l=>
  cases l' with
  |nil=>have:=h.1;simp at this|cons v' l'=>
   exact jI (λh k=>AHI h k) l l' ⟨by have:=h.1;simpa using this,λj x x' hx hx'=>h.2 (j+1) x x' (by simpa using hx) (by simpa using hx')⟩ (h.2 0 v v' AV AV)
def QPt (ρ:Rn) (x y:AQ):Prop:=∃p p',x=.pointer p/\y=.pointer p'/\QB ρ p p'
theorem QPt.rel(h:QPt ρ x y):BC F ρ x y:=by
 obtain⟨p,p',rfl,rfl,h⟩:=h;cases p<;>cases p'<;>first|exact h.elim|exact .flat rfl|exact .ptr h
theorem Y1(T:Twin): ∀(d:Nat) (t:Am) (off:Nat),cellOfByte T.v d t off=cellOfByte T.P d t off
 |0,_,_=>rfl
 |d+1,t,off=>by
  have e1:T.v.underlying t=T.P.underlying t:=rfl;have e2: ∀x,T.v.cellsOf x=T.P.cellsOf x:=λ_=>rfl;have e3: ∀x,T.v.bytesOf x=T.P.bytesOf x:=λ_=>rfl;unfold cellOfByte;rw[e1];simp only[Y1 T d,e2,e3]
theorem ni(T:Twin)(d:Nat)(e:Am)(k off:Nat)(b:Int):cellAtBytes T.v d e k off b=cellAtBytes T.P d e k off b:=by
 have e2: ∀x,T.v.cellsOf x=T.P.cellsOf x:=λ_=>rfl;have e3: ∀x,T.v.bytesOf x=T.P.bytesOf x:=λ_=>rfl;unfold cellAtBytes;simp only[UX,Y1,e2,e3]
theorem XJ(t:Am)(h:BC F ρ x x')(k:BC F ρ y y'):AY T F N QPt (iq #[] t #[x,y]) ρ (iq #[] t #[x',y']):=by
 unfold iq
 have hp:(∃b b',x=.pointer b/\x'=.pointer b'/\QB ρ b b')\/∀b,x≠ .pointer b:=by
  cases h with
  |flat hf=>
   cases x with
   |pointer a=>cases a with
    |none=>exact .inl ⟨AB,AB,rfl,rfl,Ar⟩|some _=>exact Ak (show false=true from hf) AV
   |_=>exact .inr nofun
  |ptr ha=>exact .inl ⟨AA _,AA _,rfl,rfl,ha⟩|_=>exact .inr nofun
 rcases hp with ⟨b,b',rfl,rfl,hb⟩|hn
 ·refine (nV k).bind λρ₁ n n' l1 e=>?_;obtain rfl:n=n':=e;have hb:=hb.mono l1;by_cases h0:n=0
  ·simp only[h0,if_true]
   cases b with
   |none=>exact λ_=>Ar
   |some a=>cases b' with
    |none=>exact hb.elim|some a'=>
     simp only;have ha:RelA ρ₁ a a':=hb;refine (jG ha.1).bind λρ₂ z z' l2 e=>?_;obtain⟨rfl,rfl⟩:=e;exact λ_=>⟨AA a,AA a',rfl,rfl,ha.mono l2⟩
  simp only[h0,if_false];by_cases hneg:n<0;simp only[hneg,if_true];exact λ_=>Ar;simp only[hneg,if_false]
  cases b with
  |none=>exact λ_=>Ar
  |some a=>cases b' with
   |none=>exact hb.elim|some a'=>
    simp only;have ha:RelA ρ₁ a a':=hb;refine (Nh ha.1).bind λρ₂ z z' l2 e=>?_;obtain rfl:z=z':=e
    cases z with
    |none=>exact λ_=>Ar|some q=>
     obtain⟨e,cells⟩:=q;simp only;refine CU.bind λρ₃ p p' l3 e=>?_;obtain⟨rfl,rfl⟩:=e;rw[ha.2.1];have hb:cellAtBytes T.v T.v.depth e (cells/T.v.cellsOf e) a.off n=cellAtBytes T.P T.P.depth e (cells/T.P.cellsOf e) a.off n:=ni T _ _ _ _ _;rw[hb]
     cases cellAtBytes T.P T.P.depth e (cells/T.P.cellsOf e) a.off n with|some o=>exact λ_=>⟨AA _,AA _,rfl,rfl,l3.r _ _ (l2.r _ _ ha.1),rfl,ha.2.2⟩|none=>exact λ_=>Ar
 cases x<;>first|exact λ_=>Ar|exact Ak rfl (hn _)
theorem uG{a a':Ag}(h:RelA ρ a a')(b:Bool):AY T F N (QV F) (asNumber a b) ρ (asNumber a' b):=
 λ_=>.inr ⟨.number h,λ_ _ _=>.ptr ⟨.inr ⟨rfl,rfl⟩,rfl,rfl⟩⟩
theorem WN(t:Am)(x y:AQ):movedNumber t x y=(underlying t>>=λd=>(if (match d with| .unsafePointer=>true|_=>false)=true then unsupported (.unsafePointer "arithmetic at a pointer's type") else pure ():Sem Unit)>>=λ_=>
  match x with
  | .pointer (AA n)=>YB n>>=λq=>iq #[] t #[.pointer (AA q.1),y]>>=λz=>match z with
   | .pointer (AA b)=>asNumber b q.2|v=>pure v
  |_=>iq #[] t #[x,y]):=by
 unfold movedNumber;refine congrArg (Bind.bind (underlying t)) (funext λd=>?_);cases d<;>rfl
theorem O9(t:Am)(h:BC F ρ x x')(k:BC F ρ y y'):AY T F N (QV F) (movedNumber t x y) ρ (movedNumber t x' y'):=by
 rw[WN,WN];refine (BQ t).bind λρ₁ d d' l1 e=>?_;obtain⟨rfl,_⟩:=e;refine AY.bind (Q:=Ef) ?_ λρ₂ _ _ l2 _=>?_
 ·split;exact λ_=>Ar;exact λ_=>rfl
 have h:=(h.mono l1).mono l2;have k:=(k.mono l1).mono l2;have other:AY T F N (QV F) (iq #[] t #[x,y]) ρ₂ (iq #[] t #[x',y']):=(XJ t h k).mono λ_ _ _ _ q=>q.rel
 cases h with
 |ptr ha=>
  refine (Hq ha).bind λρ₃ q q' l3 hq=>?_;refine (XJ t (.ptr hq.1) (k.mono l3)).bind λρ₄ z z' l4 hz=>?_;rw[<- hq.2];obtain⟨p,p',rfl,rfl,hp⟩:=hz;cases p<;>cases p'<;>first|exact hp.elim|exact λ_=>.flat rfl|exact uG hp _
 |flat hf=>
  (cases x<;>first|exact other|skip);rename_i a
  cases a with|none=>exact other|some _=>exact Ak (show false=true from hf) AV
 |tok hc ht=>
  exact fK (h:=.stuck _) rfl trivial
 |_=>exact other
end
end
section
variable {a a' b b':Ag}{t:Am}{x x' y y':AQ}
section
variable {T:Twin} {F:Fs} {N:Nat} {ρ:Rn} {α β γ:Type}
theorem Dk{p:Option Ag}(h:BC F ρ (.pointer p) x'): ∃p',x'=.pointer p'/\QB ρ p p':=by
 cases h with
 |flat hf=>cases p with
  |none=>exact⟨AB,rfl,Ar⟩|some _=>exact Ak (show false=true from hf) AV
 |ptr ha=>exact⟨AA _,rfl,ha⟩
theorem XK(hN:T.P.globals.size<N)(h:RelA ρ a a')(k:RelA ρ b b'):AY T F N Ef (Op.twoPlaces a b) ρ (Op.twoPlaces a' b'):=by
 intro hok;revert hok;unfold Op.twoPlaces;refine CU.bind λρ₁ p p' l1 e=>?_;obtain⟨rfl,rfl⟩:=e;have h:=h.mono l1;have k:=k.mono l1;intro hok;revert hok
 have key:AY T F N Ef (do pure (<- byteOf a,<- byteOf b):Sem (Nat×Nat)) ρ₁ (do pure (<- byteOf a',<- byteOf b')):=by
  refine (LC h).bind λρ₂ x x' l2 e=>?_;obtain rfl:x=x':=e;refine (LC (k.mono l2)).bind λρ₃ y y' l3 e=>?_;obtain rfl:y=y':=e;exact λ_=>rfl
 intro hok;have e1:=RelA.beq hok h k
 have e2:decide (a.block≥T.P.globals.size)=decide (a'.block≥T.P.globals.size):=by
  by_cases hlt:a.block<N\/a'.block<N;rw[hok.low _ _ h.1 hlt];(have h1:a.block≥T.P.globals.size:=by omega);(have h2:a'.block≥T.P.globals.size:=by omega);simp[h1,h2]
 revert hok;simp only[bne,e1,e2];by_cases hc:(!(a'.block==b'.block) || decide (a'.block≥T.P.globals.size))=true;simp only[hc,if_true];exact λ_=>Ar;simp only[hc,if_false,DC];exact key
theorem y5(hN:T.P.globals.size<N)(kd:IntKind)(h:RelA ρ a a')(k:RelA ρ b b'):AY T F N (QV F) (Op.addrSub kd a b) ρ (Op.addrSub kd a' b'):=
 (XK hN h k).bind λρ₁ q q' _ e=>by obtain rfl:q=q':=e;exact λ_=>.flat rfl
theorem y7(hN:T.P.globals.size<N)(op:BinOp)(h:RelA ρ a a')(k:RelA ρ b b'):AY T F N (QV F) (Op.addrCmp op a b) ρ (Op.addrCmp op a' b'):=
 (XK hN h k).bind λρ₁ q q' _ e=>by
  obtain rfl:q=q':=e;cases op<;>first|exact λ_=>.flat rfl|exact λ_=>Ar
theorem zA(kd:IntKind)(n:Int)(h:RelA ρ a a'):AY T F N (QV F) (Op.addrMod kd a n) ρ (Op.addrMod kd a' n):=by
 unfold Op.addrMod;refine (Nh h.1).bind λρ₁ x x' l1 e=>?_;obtain rfl:x=x':=e
 cases x with
 |none=>exact λ_=>Ar|some q=>
  obtain⟨e,c⟩:=q;simp only;refine (C9 e).bind λρ₂ i i' l2 e=>?_;obtain⟨rfl,_⟩:=e;split;exact λ_=>Ar;refine (LC ((h.mono l1).mono l2)).bind λρ₃ y y' l3 e=>?_;obtain rfl:y=y':=e;exact λ_=>.flat rfl
theorem AEC(hN:T.P.globals.size<N){op:BinOp}(hq:op≠ .eql/\op≠ .neq)(ht:T.P.underlying t≠AA .unsafePointer)(h:BC F ρ x x')(k:BC F ρ y y'):
  AY T F N (QV F) (binOp op t x y) ρ (binOp op t x' y'):=by
 have two: ∀{a b a' b':Ag} (f f':Ag->Ag->Sem AQ),RelA ρ a a'->RelA ρ b b'->(∀{ρ₁:Rn} {a b a' b':Ag},RelA ρ₁ a a'->RelA ρ₁ b b'->AY T F N (QV F) (f a b) ρ₁ (f' a' b'))->
   AY T F N (QV F) (do f (<- YB a).1 (<- YB b).1) ρ (do f' (<- YB a').1 (<- YB b').1):=by
  intro a b a' b' f f' ha hb hf;refine (Hq ha).bind λρ₁ q q' l1 e=>?_;refine (Hq (hb.mono l1)).bind λρ₂ s s' l2 e'=>?_;exact hf (e.1.mono l2) e'.1
 have mod: ∀{a a':Ag} (kd:IntKind) (n:Int),RelA ρ a a'->AY T F N (QV F) (do Op.addrMod kd (<- YB a).1 n) ρ (do Op.addrMod kd (<- YB a').1 n):=by
  intro a a' kd n ha;exact (Hq ha).bind λρ₁ q q' l1 e=>zA kd n e.1
 unfold binOp;split;all_goals try (exact λ_=>Ar)
 case h_1=>rw[BR h rfl,BR k rfl];exact ng _ _ _ _ _
 case h_2=>rw[BR h rfl,BR k rfl];exact ng _ _ _ _ _
 case h_3=>
  rw[BR h rfl,BR k rfl];rename_i k₁ a k₂ b n1 n2;by_cases hk:k₁=k₂
  ·subst hk
   cases op<;>first
    |exact Ak rfl hq.1|exact Ak rfl hq.2|exact Ak rfl (n1 _ _ _ _ rfl rfl)|exact Ak rfl (n2 _ _ _ _ rfl rfl)|(simp only[ne_eq,not_true_eq_false,if_false];first|exact ABW _ _ _ _|exact λ_=>.flat rfl|exact λ_=>Ar)
  simp only[ne_eq,hk,not_false_eq_true,if_true];exact λ_=>Ar
 case h_4=>cases h with|flat hf=>exact Ak (show false=true from hf) AV
 case h_5=>cases h with|flat hf=>exact Ak (show false=true from hf) AV
 case h_6=>
  rw[BR h rfl,BR k rfl];cases op<;>first|exact Ak rfl hq.1|exact Ak rfl hq.2|exact uF _ _ _
 case h_7=>exact Ak rfl hq.1
 case h_8=>exact Ak rfl hq.2
 case h_9=>
  obtain⟨p',rfl,hp⟩:=Dk h;rw[BR k rfl];refine (BQ t).bind λρ₁ d d' l1 e=>?_;obtain⟨rfl,hd⟩:=e;cases d<;>first|exact Ak hd ht|exact O9 t (h.mono l1) (.flat rfl)
 case h_10=>
  obtain⟨p',rfl,hp⟩:=Dk k;rw[BR h rfl];exact O9 t k (.flat rfl)
 case h_11=>
  obtain⟨p',rfl,hp⟩:=Dk h;rw[BR k rfl];exact O9 t h (.flat rfl)
 case h_12=>
  obtain⟨p',rfl,hp⟩:=Dk h;obtain⟨q',rfl,hq⟩:=Dk k
  cases p' with
  |none=>exact hp.elim
  |some a=>cases q' with
   |none=>exact hq.elim|some b=>exact two _ _ hp hq (λh k=>y5 hN _ h k)
 case h_13|h_14|h_15|h_16=>
  obtain⟨p',rfl,hp⟩:=Dk h;obtain⟨q',rfl,hq⟩:=Dk k
  cases p' with
  |none=>exact hp.elim
  |some a=>cases q' with
   |none=>exact hq.elim|some b=>exact two _ _ hp hq (λh k=>y7 hN _ h k)
 case h_17|h_18=>
  obtain⟨p',rfl,hp⟩:=Dk h;rw[BR k rfl]
  cases p' with|none=>exact hp.elim|some a=>exact mod _ _ hp
 case h_19=>
  obtain⟨p',rfl,hp⟩:=Dk k;rw[BR h rfl]
  cases p' with|none=>exact hp.elim|some a=>exact mod _ _ hp
def Hz (P:BM) (t:Am):Bool:=
 match P.underlying t with|some .bool|some .string=>true|some (.int _)=>true|some (.pointer _)=>true|_=>false
def KC (P:BM) (t:Am) (v:AQ):Bool:=
 match P.underlying t,v with|some (.pointer _),.pointer AB=>true|some (.slice _),.slice AB _ _=>true|some (.map _ _),.map AB=>true|some (.func _ _ _),.nilFunc=>true|some (.interface _),.nilIface=>true|_,_=>false
end
section
variable {T:Twin} {F:Fs} {N:Nat} {ρ:Rn} {α β γ:Type}
theorem Tq(h:KC T.P t y=true):flat y=true:=by
 unfold KC at h;split at h<;>first|rfl|cases h
theorem XL(h:RelA ρ a a'):AY T F N Ef (stringish a) ρ (stringish a'):=by
 unfold stringish;refine (Tn h).bind λρ₁ x y l1 e=>?_;obtain rfl:x=y:=e;cases x
 ·simp only[DC,if_false];refine (Nh (RelA.mono l1 h).1).bind λρ₂ x y l2 e=>?_;obtain rfl:x=y:=e
  cases x with|none=>exact λ_=>rfl|some q=>exact Tn (show RelA ρ₂ {block:=a.block,off:=q.2} {block:=a'.block,off:=q.2} from ⟨l2.r _ _ (l1.r _ _ h.1),rfl,rfl⟩)
 exact λ_=>rfl
theorem uH(h:RelA ρ a a')(k:RelA ρ b b'):AY T F N Ef (mayBeOne a b) ρ (mayBeOne a' b'):=by
 unfold mayBeOne;refine (XL h).bind λρ₁ x y l1 e=>?_;obtain rfl:x=y:=e;refine (XL (RelA.mono l1 k)).bind λρ₂ u v l2 e=>?_;obtain rfl:u=v:=e
 have hn: ∀{ρ':Rn} {c c':Ag},RelA ρ' c c'->AY T F N Ef (do pure ((<- shape c.block) matches AA (_,0)):Sem Bool) ρ' (do pure ((<- shape c'.block) matches AA (_,0))):=by
  intro ρ' c c' hc;exact (Nh hc.1).bind λ_ p q _ e=>by obtain rfl:p=q:=e;exact λ_=>rfl
 refine (hn ((RelA.mono l1 h).mono l2)).bind λρ₃ p q l3 e=>?_;obtain rfl:p=q:=e;refine (hn (((RelA.mono l1 k).mono l2).mono l3)).bind λρ₄ r s l4 e=>?_;obtain rfl:r=s:=e;exact λ_=>rfl
theorem uI(h:RelA ρ a a')(k:RelA ρ b b'):AY T F N Ef (sameAddr a b) ρ (sameAddr a' b'):=by
 unfold sameAddr;intro hok;have e1:=RelA.beq hok h k;have e2:=RelA.beq' hok h k;revert hok;simp only[e1,e2];by_cases hc:(a'.block==b'.block)=true
 ·simp only[hc,if_true];exact λ_=>rfl
 simp only[hc,if_false,DC];refine (Tn h).bind λρ₁ x y l1 e=>?_;obtain rfl:x=y:=e;refine (Tn (RelA.mono l1 k)).bind λρ₂ u v l2 e=>?_;obtain rfl:u=v:=e;by_cases hf:(x && u)=true
 ·simp only[hf,if_true];exact λ_=>Ar
 simp only[hf,if_false,DC];have h2:=(RelA.mono l1 h).mono l2;have k2:=(RelA.mono l1 k).mono l2;refine (XI h2).bind λρ₃ _ _ l3 _=>?_;refine (XI (k2.mono l3)).bind λρ₄ _ _ l4 _=>?_;refine (uH ((h2.mono l3).mono l4) ((k2.mono l3).mono l4)).bind λρ₅ p q l5 e=>?_;obtain rfl:p=q:=e;(cases p);exact λ_=>rfl;exact (Jb _).bind λ_ r s _ e=>by obtain rfl:r=s:=e;exact λ_=>rfl
theorem ny(hN:T.P.globals.size<N)(hp:Hz T.P t=true\/KC T.P t y=true\/KC T.P t x=true)(h:BC F ρ x x')(k:BC F ρ y y'):
  AY T F N Ef (Op.equal t x y) ρ (Op.equal t x' y'):=by
 have e0:Op.maxDepth=9999+1:=rfl;unfold Op.equal;rw[e0];unfold Op.equalIn;refine (BQ t).bind λρ₁ d d' l1 e=>?_;obtain⟨rfl,hd⟩:=e;have h:=h.mono l1;have k:=k.mono l1;rcases hp with hp|hp|hp
 ·unfold Hz at hp;rw[hd] at hp;cases d<;>first|exact Ak (show false=true from hp) AV|skip
  ·
   cases h with
   |flat hf=>cases x<;>first
     |exact λ_=>Ar
     |(cases k with
      |flat hk=>cases y<;>first|exact λ_=>rfl|exact λ_=>Ar
      |_=>exact λ_=>Ar)
   |_=>exact λ_=>Ar
  ·
   split;(all_goals try (exact λ_=>Ar));all_goals try contradiction
   case h_2=>
    rw[BR h rfl,BR k rfl];simp only;split;exact λ_=>rfl;exact λ_=>Ar
   case h_3=>
    obtain⟨p',rfl,hp⟩:=Dk h;rw[BR k rfl]
    cases p' with|none=>exact hp.elim|some a=>exact λ_=>rfl
   case h_4=>
    obtain⟨p',rfl,hp⟩:=Dk k;rw[BR h rfl]
    cases p' with|none=>exact hp.elim|some a=>exact λ_=>rfl
   case h_5=>
    obtain⟨p',rfl,hp⟩:=Dk h;obtain⟨q',rfl,hq⟩:=Dk k
    cases p' with
    |none=>exact hp.elim
    |some a'=>cases q' with
     |none=>exact hq.elim|some b'=>
      refine (Hq hp).bind λρ₂ z z' l2 e=>?_;refine (Hq (RelA.mono l2 hq)).bind λρ₃ u u' l3 e'=>?_;have ha:=e.1.mono l3;have hb:=e'.1;refine CU.bind λρ₄ p p' l4 e=>?_;obtain⟨rfl,rfl⟩:=e;have ha:=ha.mono l4;have hb:=hb.mono l4;intro hok;have e1:=RelA.beq hok ha hb;have e2:=RelA.beq' hok ha hb
      have e3:decide (z.1.block<T.P.globals.size)=decide (z'.1.block<T.P.globals.size):=by
       by_cases hlt:z.1.block<N\/z'.1.block<N;rw[hok.low _ _ ha.1 hlt];(have h1: ¬z.1.block<T.P.globals.size:=by omega);(have h2: ¬z'.1.block<T.P.globals.size:=by omega);simp[h1,h2]
      revert hok;simp only[e1,e2,e3];by_cases hc:(z'.1.block==u'.1.block && decide (z'.1.block<T.P.globals.size))=true
      ·simp only[hc,if_true];refine (LC ha).bind λρ₅ x x' l5 e=>?_;obtain rfl:x=x':=e;refine (LC (hb.mono l5)).bind λρ₆ y y' l6 e=>?_;obtain rfl:y=y':=e;exact λ_=>rfl
      simp only[hc,if_false,DC];refine (C9 t).bind λρ₅ x x' l5 e=>?_;obtain⟨rfl,_⟩:=e;split
      ·split;exact λ_=>rfl;exact λ_=>Ar
      exact λ_=>Ar
  ·
   cases h with
   |flat hf=>cases x<;>first
     |exact λ_=>Ar
     |(cases k with
      |flat hk=>cases y<;>first|exact λ_=>rfl|exact λ_=>Ar
      |_=>exact λ_=>Ar)
   |_=>exact λ_=>Ar
  ·
   rename_i elem;by_cases hx: ¬ ∃p,x=.pointer p
   ·cases x<;>first|exact λ_=>Ar|exact Ak ⟨_,rfl⟩ hx
   have hx:=yH.1 hx;by_cases hy: ¬ ∃p,y=.pointer p
   ·obtain⟨p,rfl⟩:=hx;cases p<;>cases y<;>first|exact λ_=>Ar|exact Ak ⟨_,rfl⟩ hy
   have hy:=yH.1 hy;obtain⟨p,rfl⟩:=hx;obtain⟨q,rfl⟩:=hy;obtain⟨p',rfl,hp'⟩:=Dk h;obtain⟨q',rfl,hq'⟩:=Dk k;(rcases p with _|a<;>rcases p' with _|a'<;>first|exact hp'.elim|skip);(all_goals rcases q with _|b<;>rcases q' with _|b'<;>first|exact hq'.elim|exact λ_=>rfl|skip);refine (Ec elem).bind λρ₂ z z' l2 e=>?_;obtain rfl:z=z':=e;have ha:RelA ρ₂ a a':=RelA.mono l2 hp';have hb:RelA ρ₂ b b':=RelA.mono l2 hq';by_cases hz:z≠0
   ·simp only[hz,if_true,ne_eq,not_false_eq_true];exact uI ha hb
   simp only[hz,if_false,ne_eq];intro hok;have e2:=RelA.beq' hok ha hb;revert hok;simp only[e2];split;exact λ_=>rfl;exact (Jb _).bind λ_ u v _ e=>by obtain rfl:u=v:=e;exact λ_=>rfl
 ·
  have hk:flat y=true:=Tq hp;rw[BR k hk];clear k hk;unfold KC at hp;rw[hd] at hp;clear hd;split at hp;all_goals try (cases hp;done)
  all_goals
   rename_i heq;(cases heq);clear hp
   cases h<;>first
    |exact λ_=>rfl|exact λ_=>Ar|(rename_i hm;cases x'<;>first|exact Ak (show false=true from hm) AV|exact λ_=>rfl|exact λ_=>Ar)
    |(rename_i hf
      cases x<;>first|exact λ_=>rfl|exact λ_=>Ar|(rename_i a;cases a<;>first|exact λ_=>rfl|exact λ_=>Ar|exact Ak (show false=true from hf) AV)|(rename_i a _ _;cases a<;>first|exact λ_=>rfl|exact λ_=>Ar|exact Ak (show false=true from hf) AV))
 ·
  have hk:flat x=true:=Tq hp;rw[BR h hk];clear h hk;unfold KC at hp;rw[hd] at hp;clear hd;split at hp;all_goals try (cases hp;done)
  all_goals
   rename_i heq;(cases heq);clear hp
   cases k<;>first
    |exact λ_=>rfl|exact λ_=>Ar|(rename_i hm;cases y'<;>first|exact Ak (show false=true from hm) AV|exact λ_=>rfl|exact λ_=>Ar)
    |(rename_i hf
      cases y<;>first|exact λ_=>rfl|exact λ_=>Ar|(rename_i a;cases a<;>first|exact λ_=>rfl|exact λ_=>Ar|exact Ak (show false=true from hf) AV)|(rename_i a _ _;cases a<;>first|exact λ_=>rfl|exact λ_=>Ar|exact Ak (show false=true from hf) AV))
end
end
section
variable {t:Am}{x x' y y':AQ}
section
variable {T:Twin} {F:Fs} {N:Nat} {ρ:Rn} {α β γ:Type}
theorem RN(h:BC F ρ x x'):(∃p,x=.agg p)↔∃p,x'=.agg p:=by
 cases h with
 |tok _ ht=>
  constructor
  ·rintro⟨p,e⟩;cases e
  rintro⟨p,e⟩;subst e;cases ht
 |agg _ _=>exact⟨λ_=>⟨_,rfl⟩,λ_=>⟨_,rfl⟩⟩|flat _=>exact nG|mf _ hm=>
  constructor
  ·rintro⟨p,e⟩;cases e
  rintro⟨p,e⟩;subst e;cases hm
 |_=>
  constructor
  ·rintro⟨p,e⟩;cases e
  rintro⟨p,e⟩;cases e
theorem VU(h:BC F ρ x x'):x=.nilIface↔x'=.nilIface:=by
 cases h with
 |tok _ ht=>
  constructor;intro e;cases e;intro e;subst e;cases ht
 |flat _=>exact nG|mf _ hm=>
  constructor;intro e;cases e;intro e;subst e;cases hm
 |_=>
  constructor;intro e;cases e;intro e;cases e
theorem MR(h:BC F ρ x x')(hf:flat x'=true):x=x':=by
 cases h with
 |tok hc ht hp=>clear hp;cases x'<;>first|exact Ak (show false=true from ht) AV|exact Ak (show false=true from hf) AV|(rename_i a _ _;cases a<;>first|exact Ak (show false=true from ht) AV|exact Ak (show false=true from hf) AV)|(rename_i a;cases a<;>first|exact Ak (show false=true from ht) AV|exact Ak (show false=true from hf) AV)
 |flat _=>rfl|mf _ hm=>cases x'<;>first|exact Ak (show false=true from hm) AV|exact Ak (show false=true from hf) AV
 |_=>exact Ak (show false=true from hf) AV
theorem SH{P:BM}(hp:Hz P t=true):P.eqGuardType P.depth t=false:=by
 have e:P.depth=(2*(P.types.size+Made.depth)+1)+1:=rfl;rw[e];unfold Program.eqGuardType;unfold Hz at hp
 cases hd:P.underlying t with|none=>rfl|some d=>rw[hd] at hp;cases d<;>first|rfl|exact Ak (show false=true from hp) AV
theorem bH(op:BinOp)(o₁ o₂:DU)(hp:(op=.eql\/op=.neq)->Hz T.P t=true\/KC T.P t y=true\/KC T.P t x=true)(h:BC F ρ x x')(k:BC F ρ y y'):
  AY T F N Ef (eqGuard op t o₁ o₂ x y) ρ (eqGuard op t o₁ o₂ x' y'):=by
 by_cases hq: ¬(op=.eql\/op=.neq)
 ·(have: ∀a b,eqGuard op t o₁ o₂ a b=pure ():=λa b=>by cases op<;>first|rfl|exact Ak (.inl rfl) hq|exact Ak (.inr rfl) hq);rw[this,this];exact λ_=>rfl
 have hq:=yH.1 hq;have hp:=hp hq;(have e0:eqGuard op t o₁ o₂=eqGuard .eql t o₁ o₂:=by rcases hq with rfl|rfl<;>rfl);rw[e0];by_cases h1:x=.nilIface/\y=.nilIface
 ·obtain⟨rfl,rfl⟩:=h1;rw[BR h rfl,BR k rfl];simp only[eqGuard,nH,DC,if_false]
  have g:AY T F N Ef (Op.eqGuardIn Op.maxDepth t .nilIface .nilIface) ρ (Op.eqGuardIn Op.maxDepth t .nilIface .nilIface):=by
   have e0:Op.maxDepth=9999+1:=rfl;rw[e0];unfold Op.eqGuardIn;refine (BQ t).bind λρ₁ d d' l1 e=>?_;obtain⟨rfl,_⟩:=e;cases d<;>exact λ_=>rfl
  cases o₁<;>cases o₂<;>first
   |exact λ_=>rfl
   |(refine g.bind λρ₁ a b _ e=>?_
     obtain rfl:a=b:=e;(cases a);exact λ_=>rfl
     exact λ_=>Ar)
 by_cases h2:(∃p,x=.agg p)/\∃p,y=.agg p
 ·obtain⟨⟨p,rfl⟩,⟨q,rfl⟩⟩:=h2;obtain⟨p',rfl⟩:=(RN h).1 ⟨_,rfl⟩;obtain⟨q',rfl⟩:=(RN k).1 ⟨_,rfl⟩
  have hp:Hz T.P t=true:=by
   rcases hp with hp|hp|hp;exact hp;exact Ak (show false=true from Tq hp) AV;exact Ak (show false=true from Tq hp) AV
  simp only[eqGuard,nH,DC,if_false];refine CU.bind λρ₁ p p' l1 e=>?_;obtain⟨rfl,rfl⟩:=e;refine CU.bind λρ₂ p p' l1 e=>?_;obtain⟨rfl,rfl⟩:=e;have h1:T.v.eqGuardType T.v.depth t=false:=SH (P:=T.v) hp;have h2:T.P.eqGuardType T.P.depth t=false:=SH hp;simp only[h1,h2,AIp,if_true];exact λ_=>rfl
 have h1': ¬(x'=.nilIface/\y'=.nilIface):=λe=>h1 ⟨(VU h).2 e.1,(VU k).2 e.2⟩;have h2': ¬((∃p,x'=.agg p)/\∃p,y'=.agg p):=λe=>h2 ⟨(RN h).2 e.1,(RN k).2 e.2⟩
 have key: ∀a b:AQ,¬(a=.nilIface/\b=.nilIface)->¬((∃p,a=.agg p)/\∃p,b=.agg p)->eqGuard .eql t o₁ o₂ a b=pure ():=by
  intro a b g1 g2;simp only[eqGuard,nH,DC,if_false];split;exact Ak ⟨rfl,rfl⟩ g1;exact Ak ⟨⟨_,rfl⟩,⟨_,rfl⟩⟩ g2;rfl
 rw[key _ _ h1 h2,key _ _ h1' h2'];exact λ_=>rfl
theorem ABZ{b:Nat}(hp:Hz T.P t=true\/KC T.P t y=true\/KC T.P t (.chan (AA b))=true):CW T (Op.equal t (.chan (AA b)) y):=by
 have e0:Op.maxDepth=9999+1:=rfl;unfold Op.equal;rw[e0];unfold Op.equalIn;show CW T ((match T.P.underlying t with|some d=>pure d|none=>stuck "no such type" :Sem TypeDesc).bind _)
 cases hd:T.P.underlying t with
 |none=>exact Ar|some d=>
  rcases hp with hp|hp|hp
  ·unfold Hz at hp;rw[hd] at hp;cases d<;>first|exact Ak (show false=true from hp) AV|exact Ar|(cases y<;>first|exact Ar|(rename_i a;cases a<;>exact Ar))
  ·unfold KC at hp;rw[hd] at hp;split at hp;all_goals try (cases hp;done)
   all_goals
    rename_i heq;(cases heq);exact Ar
  unfold KC at hp;rw[hd] at hp;cases d<;>exact Ak (show false=true from hp) AV
theorem zB(hN:T.P.globals.size<N){op:BinOp}(hq:op=.eql\/op=.neq)(hp:Hz T.P t=true\/KC T.P t y=true\/KC T.P t x=true)(h:BC F ρ x x')(k:BC F ρ y y'):
  AY T F N (QV F) (binOp op t x y) ρ (binOp op t x' y'):=by
 have heq:=ny hN hp h k
 have nof: ∀{a a':AQ},(∀b,a≠ .chan (AA b))->BC F ρ a a'->(∀k n,a'≠ .float k n)/\(∀k n m,a'≠ .complex k n m):=by
  intro a a' hna ha;constructor
  ·rintro k n rfl
   cases ha with|flat hf=>exact Ak (show false=true from hf) AV|tok _ ht=>exact hna _ rfl|mf _ hm=>cases hm
  rintro k n m rfl
  cases ha with|flat hf=>exact Ak (show false=true from hf) AV|tok _ ht=>exact hna _ rfl|mf _ hm=>cases hm
 have key: ∀a b:AQ,(∀k₁ n k₂ m,¬(a=.int k₁ n/\b=.int k₂ m))->(∀n m,¬(a=.string n/\b=.string m))->(∀k n,a≠ .float k n)->(∀k n m,a≠ .complex k n m)->
   binOp .eql t a b=(do pure (.bool (<- Op.equal t a b)))/\binOp .neq t a b=(do pure (.bool (!(<- Op.equal t a b)))):=by
  intro a b g1 g2 g3 g4;constructor
  ·unfold binOp
   split<;>first
    |rfl|(rename_i e;cases e;done)|exact Ak ⟨rfl,rfl⟩ (g1 _ _ _ _)|exact Ak rfl (g3 _ _)|exact Ak rfl (g4 _ _ _)|exact Ak ⟨rfl,rfl⟩ (g2 _ _)|contradiction|simp_all
  unfold binOp
  split<;>first
   |rfl|exact Ak ⟨rfl,rfl⟩ (g1 _ _ _ _)|exact Ak rfl (g3 _ _)|exact Ak rfl (g4 _ _ _)|exact Ak ⟨rfl,rfl⟩ (g2 _ _)|contradiction|simp_all
 by_cases h1: ∃k₁ n k₂ m,x=.int k₁ n/\y=.int k₂ m
 ·obtain⟨k₁,a,k₂,b,rfl,rfl⟩:=h1;rw[BR h rfl,BR k rfl];rcases hq with rfl|rfl
  ·simp only[binOp];split;exact λ_=>Ar;exact λ_=>.flat rfl
  simp only[binOp];split;exact λ_=>Ar;exact λ_=>.flat rfl
 by_cases h2: ∃n m,x=.string n/\y=.string m
 ·obtain⟨a,b,rfl,rfl⟩:=h2;rw[BR h rfl,BR k rfl];rcases hq with rfl|rfl;exact λ_=>.flat rfl;exact λ_=>.flat rfl
 by_cases hch: ∃b,x=.chan (AA b)
 ·obtain⟨b,rfl⟩:=hch;have e1:=key (.chan (AA b)) y (λ_ _ _ _ e=>by cases e.1) (λ_ _ e=>by cases e.1) (λ_ _ e=>by cases e) (λ_ _ _ e=>by cases e);rcases hq with rfl|rfl;rw[e1.1];exact Rk (ABZ hp).bind _;rw[e1.2];exact Rk (ABZ hp).bind _
 have nx:(∀k n,x≠ .float k n)/\(∀k n m,x≠ .complex k n m):=by
  constructor
  ·rintro k n rfl
   cases h with|flat hf=>exact Ak (show false=true from hf) AV
  rintro k n m rfl
  cases h with|flat hf=>exact Ak (show false=true from hf) AV
 have e1:=key x y (λa b c d e=>h1 ⟨a,b,c,d,e⟩) (λa b e=>h2 ⟨a,b,e⟩) nx.1 nx.2
 have e2:=key x' y' (λa b c d e=>h1 ⟨a,b,c,d,by obtain⟨rfl,rfl⟩:=e;exact⟨MR h rfl,MR k rfl⟩⟩)
  (λa b e=>h2 ⟨a,b,by obtain⟨rfl,rfl⟩:=e;exact⟨MR h rfl,MR k rfl⟩⟩) (nof (λb e=>hch ⟨b,e⟩) h).1 (nof (λb e=>hch ⟨b,e⟩) h).2
 rcases hq with rfl|rfl
 ·rw[e1.1,e2.1];exact heq.bind λρ₁ a b _ e=>by obtain rfl:a=b:=e;exact λ_=>.flat rfl
 rw[e1.2,e2.2];exact heq.bind λρ₁ a b _ e=>by obtain rfl:a=b:=e;exact λ_=>.flat rfl
end
end
section
variable {fb:Fb}{name:String}{T:Tables}{t:Am}{info:Am->Option Qv}{i:Qv}
theorem We{fs:Array Field}(h:Made.reckonStruct info fs=AA i):i.methods= #[]:=by
 unfold Made.reckonStruct at h;simp only[iy,UW,jA] at h;obtain⟨q,_,h⟩:=h;split at h
 all_goals
  simp only[DR] at h;rw[<- h]
theorem kG{d:TypeDesc}(h:Made.reckon info d=AA i):i.methods= #[]:=by
 unfold Made.reckon at h;cases d
 case struct fs=>exact We h
 case pointer el=>
  simp only[iy,UW,jA] at h;obtain⟨a,_,h⟩:=h;split at h;cases h
  ·split at h;(cases h);simp only[UW,DR] at h;obtain⟨_,_,h⟩:=h;rw[<- h];rfl
  simp only[UW,DR] at h;obtain⟨_,_,h⟩:=h;rw[<- h];rfl
 case slice=>simp only[iy,UW,jA,DR] at h;obtain⟨_,_,_,_,h⟩:=h;rw[<- h];rfl
 case array=>simp only[iy,UW,jA,DR] at h;obtain⟨_,_,_,_,h⟩:=h;rw[<- h]
 case map=>simp only[iy,UW,jA,DR] at h;obtain⟨_,_,_,_,_,_,_,_,h⟩:=h;rw[<- h];rfl
 case chan=>simp only[iy,UW,jA,DR] at h;obtain⟨_,_,_,_,h⟩:=h;rw[<- h];rfl
 case func=>simp only[iy,UW,jA,DR] at h;obtain⟨_,_,h⟩:=h;rw[<- h];rfl
 all_goals cases h
theorem uJ: ∀{n:Nat} {t:Am} {i:Qv},¬t<T.types.size->Made.infoAt T n t=AA i->i.methods= #[]
 |0,_,_,_,h=>by cases h
 |n+1,t,i,ht,h=>by
  unfold Made.infoAt at h;rw[BL ht] at h;obtain⟨d,_,h⟩:=UW.1 h;exact kG h
theorem uK(ht: ¬t<T.types.size)(h:T.info? t=AA i):i.methods= #[]:=by
 unfold Tables.info? at h;rw[BL ht] at h;exact uJ ht h
def RP (P:BM) (fb:Fb) (name:String):Bool:=
 (Fp P.types.size).all λt=>
  match P.types[t]? with
  |some i=>match i.methods.find? (·.name==name) with
   |some m=>m.path.all (λs=> !s.deref) && (match m.func with|some (f,ptr)=>((fb f && (fb.a f).isNone) || fb.e f) && (ptr || (m.path.isEmpty && !(match P.underlying t with|some (.pointer _)=>true|_=>false)))|none=>false)
   |none=>true
  |none=>true
section
variable {T:Twin} {F:Fs} {N:Nat} {ρ:Rn} {α β γ:Type}
def KP (T:Twin) (F:Fs) (N:Nat) (f:Array AQ->Sem AQ):Prop:=∀{ρ:Rn} {p p':Array AQ},BB F ρ p p'->AY T F N (QV F) (f p) ρ (f p')
def ABa (fb:Fb) (f:Bl):Prop:=(fb f=true/\fb.a f=AB)\/fb.e f=true
theorem ABb(h:RP T.P fb name=true){m:Method}(hi:T.P.info? t=AA i)(hm:i.methods.find? (·.name==name)=AA m):
  (∀s∈m.path.toList,s.deref=false)/\∃f ptr,m.func=AA (f,ptr)/\ABa fb f/\(ptr=false->m.path.toList=[]/\∀e,T.P.underlying t≠AA (.pointer e)):=by
 by_cases ht:t<T.P.types.size
 ·have h1:T.P.types[t]? =AA i:=by
   (have:T.P.info? t=T.P.types[t]? :=by unfold Tables.info?;rw[BU ht]);rw[<- this];exact hi
  have h2:=JD.1 h t (XA.2 ht);rw[h1] at h2;simp only[hm,DV] at h2;obtain⟨hp,h3⟩:=h2;refine⟨λs hs=>by have:=VM.1 hp s (yI.1 hs);simpa using this,?_⟩
  cases hf:m.func with
  |none=>rw[hf] at h3;cases h3|some q=>
   obtain⟨f,ptr⟩:=q;rw[hf] at h3;simp only[DV,XB] at h3;refine⟨f,ptr,rfl,h3.1.imp (λh=>⟨h.1,by simpa using h.2⟩) id,λe=>?_⟩;rcases h3.2 with h4|h4;rw[e] at h4;cases h4;refine⟨by simpa[Array.isEmpty_iff] using h4.1,λel hel=>?_⟩;rw[hel] at h4;cases h4.2
 have:=uK ht hi;rw[this] at hm;simp at hm
theorem jJ: ∀(l:List FieldStep) (t:Am) {x x':AQ} {ρ:Rn},(∀s∈l,s.deref=false)->BC F ρ x x'->
  AY T F N (λρ (a b:Am×Place)=>a.1=b.1/\(l=[]->a.1=t)/\∃v v',a.2=.val v/\b.2=.val v'/\BC F ρ v v') (follow l t (.val x)) ρ (follow l t (.val x'))
 | [],t,x,x',ρ,_,h=>λ_=>⟨rfl,λ_=>rfl,_,_,rfl,rfl,h⟩
 |s::rest,t,x,x',ρ,hl,h=>by
  unfold follow;refine (BQ s.struct).bind λρ₁ d d' l1 e=>?_;obtain⟨rfl,hd⟩:=e;(cases d<;>first|exact λ_=>Ar|skip);rename_i fields
  cases hfi:fields[s.index]? with
  |none=>simp only[hfi];exact λ_=>Ar|some f=>
   simp only[hfi,hl s (Ee ..),DC,if_false]
   have key: ∀{p p':Array AQ},BB F ρ₁ p p'->AY T F N (λρ (a b:Am×Place)=>a.1=b.1/\(s::rest=[]->a.1=t)/\∃v v',a.2=.val v/\b.2=.val v'/\BC F ρ v v') (do follow rest f.type (.val (<- part f.type p f.offset))) ρ₁ (do follow rest f.type (.val (<- part f.type p' f.offset))):=λhp=>
    (vP f.type hp f.offset).bind λρ₂ v v' l2 hv=>(jJ rest f.type (λs hs=>hl s (DD _ hs)) hv).mono λ_ _ _ _ hq=>⟨hq.1,λe=>Ak e AV,hq.2.2⟩
   have h:=h.mono l1
   cases h with
   |flat hf=>cases x<;>first|exact λ_=>Ar|exact Ak (show false=true from hf) AV
   |agg h1 h2=>exact key ⟨h1,h2⟩|_=>exact λ_=>Ar
theorem jK(hm:RP T.P fb name=true): ∀(n:Nat) (t:Am) {x x':AQ} {ρ:Rn},BC F ρ x x'->
  AY T F N (λρ a b=>a.1=b.1/\ABa fb a.1/\BC F ρ a.2 b.2) (method n t x name) ρ (method n t x' name)
 |0,t,x,x',ρ,h=>λ_=>Ar
 |n+1,t,x,x',ρ,h=>by
  unfold method;refine (C9 t).bind λρ₁ i i' l1 e=>?_;obtain⟨rfl,hi⟩:=e
  cases hf:i.methods.find? (·.name==name) with
  |none=>exact λ_=>Ar|some m=>
   obtain⟨hp,f,ptr,hfn,hfb,hpt⟩:=ABb hm hi hf;simp only[hfn];refine (jJ m.path.toList t hp (h.mono l1)).bind λρ₂ a b l2 hq=>?_;obtain⟨xt,y⟩:=a;obtain⟨xt',y'⟩:=b;obtain⟨e1,e2,v,v',e3,e4,hx⟩:=hq;simp only at e1 e2 e3 e4;subst e1 e3 e4;refine AY.bind (Q:=QV F) ?_ λρ₃ a b l2 hab=>λ_=>⟨rfl,hfb,hab⟩;unfold receiverAt;refine (BQ xt).bind λρ₃ d d' l2 e=>?_;obtain⟨rfl,hd⟩:=e
   cases ptr with
   |true=>
    cases d<;>first|exact λ_=>Ar|exact λ_=>hx.mono l2
   |false=>
    obtain⟨hp0,this⟩:=hpt rfl;rw[e2 hp0] at hd;cases d<;>first|exact Ak hd (this _)|exact λ_=>hx.mono l2
end
end
section
variable {es es':Array Du}{α β:Type}{d:TypeDesc}{t:Am}{k k' x x' y y':AQ}
def XM (P:BM) (t:Am):Bool:=
 match P.underlying t with|some .string|some (.int _)|some (.pointer _)=>true|_=>false
def XN (P:BM) (t:Am):Bool:=
 match P.underlying t with|some (.map k e)=>XM P k && Ho P e|_=>false
theorem XM.plain{P:BM}(h:XM P t=true):Hz P t=true:=by
 unfold XM at h;unfold Hz
 cases hd:P.underlying t with|none=>rw[hd] at h;cases h|some d=>rw[hd] at h;cases d<;>first|rfl|exact Ak (show false=true from h) AV
section
variable {T:Twin} {F:Fs} {N:Nat} {ρ:Rn} {α β γ:Type}
theorem P6(b b':Bool)(h:XM T.P t=true)(x x':AQ):AY T F N Ef (Uo b 10000 t x) ρ (Uo b' 10000 t x'):=by
 have e0:(10000:Nat)=9999+1:=rfl;rw[e0];unfold Uo;refine (BQ t).bind λρ₁ d d' l1 e=>?_;obtain⟨rfl,hd⟩:=e;unfold XM at h;rw[hd] at h;cases d<;>first|exact Ak (show false=true from h) AV|exact λ_=>rfl
def QK (F:Fs) (ρ:Rn) (x y:Option (Nat×AQ)):Prop:=match x,y with
 |some p,AA q=>p.1=q.1/\BC F ρ p.2 q.2|none,AB=>True|_,_=>False
theorem P7(h:BC F ρ x x'):flat x'=true->flat x=true:=λhf=>by rw[MR h hf];exact hf
theorem QM(h:flat x=false\/flat y=false):aT d x y=AB:=by
 unfold aT;split<;>first|rfl|(rcases h with h|h<;>cases h)
theorem zC(h:BC F ρ x x')(k:BC F ρ y y'):aT d x y=aT d x' y':=by
 by_cases hx:flat x=true
 ·by_cases hy:flat y=true;rw[BR h hx,BR k hy];rw[QM (.inr (by simpa using hy)),QM (.inr (by cases e:flat y' with|false=>rfl|true=>exact Ak (P7 k e) hy))]
 rw[QM (.inl (by simpa using hx)),QM (.inl (by cases e:flat x' with|false=>rfl|true=>exact Ak (P7 h e) hx))]
def nz (x y:AQ):Prop:=flat x=true\/flat y=true\/∃p q,x=.pointer p/\y=.pointer q
def QKi (F:Fs) (k:AQ) (l:List Du) (i:Nat) (ρ:Rn) (x y:Option (Nat×AQ)):Prop:=QK F ρ x y/\∀p,x=AA p->i<=p.1/\∃e,l[p.1 - i]? =AA e/\nz k e.key
theorem QKi.cons{k:AQ}{e:Du}{l:List Du}{i:Nat}{x y:Option (Nat×AQ)}(h:QKi F k l (i+1) ρ x y):QKi F k (e::l) i ρ x y:=
 ⟨h.1,λp hp=>by
  obtain⟨h1,h2⟩:=h.2 p hp;refine⟨Aa,?_⟩;rw[show p.1 - i=p.1 - (i+1)+1 by omega]
  exact h2⟩
theorem zD(hk:BC F ρ k k'): ∀{l l':List Du},Ce (F8 F ρ) l l'->∀i,
  (Ur d k l i=AB/\Ur d k' l' i=AB)\/∃r r',Ur d k l i=AA r/\Ur d k' l' i=AA r'/\QKi F k l i ρ r r':=by
 intro l l' h
 induction h with
 |nil=>intro i;exact .inr ⟨AB,AB,rfl,rfl,Ar,λp hp=>by cases hp⟩
 | @cons e e' l l' ha _ ih=>
  intro i;unfold Ur;rw[<- zC hk ha.key]
  cases hn:aT d k e.key with
  |none=>exact .inl ⟨rfl,rfl⟩|some x=>
   cases x
   ·exact (ih (i+1)).imp id λ⟨r,r',h1,h2,h3⟩=>⟨r,r',h1,h2,h3.cons⟩
   refine .inr ⟨_,_,rfl,rfl,⟨rfl,ha.val⟩,λp hp=>?_⟩;(cases hp);refine⟨Bd _,e,AV,.inl ?_⟩
   cases hf:flat k with|true=>rfl|false=>rw[QM (.inl hf)] at hn;cases hn
theorem ABc(ht:Hz T.P t=true)(h: ¬nz x y):CW T (Op.equal t x y):=by
 have e0:Op.maxDepth=9999+1:=rfl;unfold Op.equal;rw[e0];unfold Op.equalIn;show CW T ((match T.P.underlying t with|some d=>pure d|none=>stuck "no such type" :Sem TypeDesc).bind _)
 cases hd:T.P.underlying t with
 |none=>exact Ar|some d=>
  unfold Hz at ht;rw[hd] at ht;(have h1:flat x=false:=by cases e:flat x with|false=>rfl|true=>exact Ak (.inl e) h);(have h2:flat y=false:=by cases e:flat y with|false=>rfl|true=>exact Ak (.inr (.inl e)) h);cases d<;>first|exact Ak (show false=true from ht) AV|skip
  all_goals
   cases x<;>first|exact Ak (show true=false from h1) AV|exact Ar|skip
  all_goals
   rename_i a;cases a<;>first|exact Ak (show true=false from h1) AV|skip
  all_goals
   cases y<;>first|exact Ak (show true=false from h2) AV|exact Ar|exact Ak (.inr (.inr ⟨_,_,rfl,rfl⟩)) h
theorem F8.mono{ρ':Rn}(h:ρ.le ρ'){e e':Du}(k:F8 F ρ e e'):F8 F ρ' e e':=⟨k.key.mono h,k.val.mono h,k.born⟩
theorem kH(hN:T.P.globals.size<N)(ht:Hz T.P t=true): ∀{l l':List Du} {ρ:Rn} {k k':AQ},BC F ρ k k'->Ce (F8 F ρ) l l'->∀i,
  AY T F N (QKi F k l i) (tZ t k l i) ρ (tZ t k' l' i):=by
 intro l
 induction l with
 |nil=>intro l' ρ k k' hk h i;cases h;exact λ_=>⟨Ar,λp hp=>by cases hp⟩
 |cons e l ih=>
  intro l' ρ k k' hk h i
  cases h with|cons ha hl=>
  unfold tZ;by_cases hg:nz k e.key
  ·refine (ny hN (.inl ht) hk ha.key).bind λρ₁ x y l1 e=>?_;obtain rfl:x=y:=e;(cases x);exact (ih (hk.mono l1) (CV (λ_ _=>F8.mono l1) hl) _).mono λ_ _ _ _ h=>h.cons;refine λ_=>⟨⟨rfl,ha.val.mono l1⟩,λp hp=>?_⟩;(cases hp);exact⟨Bd _,e,AV,hg⟩
  exact Rk (CW.bind (ABc ht hg)) _
theorem VV(hN:T.P.globals.size<N)(ht:XM T.P t=true)(hk:BC F ρ k k'){l l':List Du}(h:Ce (F8 F ρ) l l'):
  AY T F N (QKi F k l 0) (YD t k l) ρ (YD t k' l'):=by
 unfold YD;refine (BQ t).bind λρ₁ d d' l1 e=>?_;obtain⟨rfl,hd⟩:=e;have hk:=hk.mono l1;have h:=CV (λ_ _=>F8.mono l1) h;rcases zD (d:=d) hk h 0 with ⟨e1,e2⟩|⟨r,r',e1,e2,hr⟩
 ·rw[e1,e2];exact kH hN (XM.plain ht) hk h 0
 rw[e1,e2];exact λ_=>hr
theorem AHJ{R:α->β->Prop}{l:List α}{l':List β}(h:l.length=l'.length)(k: ∀(i:Nat) (a:α) (b:β),l[i]? =AA a->l'[i]? =AA b->R a b):Ce R l l':=by
 induction l generalizing l' with
 |nil=>cases l' with
  |nil=>exact .nil|cons b l'=>simp at h
 |cons a l ih=>cases l' with
  |nil=>simp at h|cons b l'=>exact .cons (k 0 a b rfl rfl) (ih (by simpa using h) λi x y h1 h2=>k (i+1) x y h1 h2)
theorem MV(hs:es.size=es'.size)(he: ∀(i:Nat) (e e':Du),es[i]? =AA e->es'[i]? =AA e'->F8 F ρ e e'):Ce (F8 F ρ) es.toList es'.toList:=
 AHJ (by simpa using hs) λi a b h1 h2=>he i a b (by simpa using h1) (by simpa using h2)
theorem YL{R:α->β->Prop}{l:List α}{l':List β}(h:Ce R l l'):l.length=l'.length:=by
 induction h with|nil=>rfl|cons _ _ ih=>simp[ih]
theorem AMT(hs:es.size=es'.size)(he: ∀(i:Nat) (e e':Du),es[i]? =AA e->es'[i]? =AA e'->F8 F ρ e e'){g g':Du->Du}
  (hg: ∀e e',F8 F ρ e e'->F8 F ρ (g e) (g' e')) (j:Nat):(es.modify j g).size=(es'.modify j g').size/\∀(i:Nat) (e e':Du),(es.modify j g)[i]? =AA e->(es'.modify j g')[i]? =AA e'->F8 F ρ e e':=by
 refine⟨by simp[hs],λi e e' h1 h2=>?_⟩;rw[Ld] at h1 h2;split at h1
 ·rename_i hj;rw[BU hj] at h2;obtain⟨a,ha,rfl⟩:=J8.1 h1;obtain⟨b,hb,rfl⟩:=J8.1 h2;exact hg _ _ (he _ _ _ ha hb)
 rename_i hj;rw[BL hj] at h2;exact he _ _ _ h1 h2
theorem AIz(hs:es.size=es'.size)(he: ∀(i:Nat) (e e':Du),es[i]? =AA e->es'[i]? =AA e'->F8 F ρ e e'){a a':Du}(ha:F8 F ρ a a'):
  (es.push a).size=(es'.push a').size/\∀(i:Nat) (e e':Du),(es.push a)[i]? =AA e->(es'.push a')[i]? =AA e'->F8 F ρ e e':=by
 refine⟨by simp[hs],λi e e' h1 h2=>?_⟩;rw[ANP] at h1 h2;rw[<- hs] at h2;split at h1
 ·rename_i hj;rw[BU hj] at h2;cases h1;cases h2;exact ha
 rename_i hj;rw[BL hj] at h2;exact he _ _ _ h1 h2
theorem ABd(hN:T.P.globals.size<N)(ht:XN T.P t=true)(h:BC F ρ x x')(hk:BC F ρ k k')(c:Bool):
  AY T F N (QV F) (Po t x k c) ρ (Po t x' k' c):=by
 unfold Po;refine (BQ t).bind λρ₁ d d' l1 e=>?_;obtain⟨rfl,hd⟩:=e;unfold XN at ht;rw[hd] at ht;have h:=h.mono l1;have hk:=hk.mono l1;(cases d<;>first|exact Ak (show false=true from ht) AV|skip);rename_i key elem;simp only[DV] at ht
 have rest: ∀{ρ':Rn} {es es':Array Du} {k k':AQ},BC F ρ' k k'->es.size=es'.size->(∀(i:Nat) (e e':Du),es[i]? =AA e->es'[i]? =AA e'->F8 F ρ' e e')->
   AY T F N (QV F) (Uo es.isEmpty 10000 key k>>=λ_=>YD key k es.toList>>=λr=>match r with|some (_,v)=>pure (if c then .tuple #[v,.bool true] else v)|none=>GY elem>>=λz=>pure (if c then .tuple #[z,.bool false] else z)) ρ'
    (Uo es'.isEmpty 10000 key k'>>=λ_=>YD key k' es'.toList>>=λr=>match r with|some (_,v)=>pure (if c then .tuple #[v,.bool true] else v)|none=>GY elem>>=λz=>pure (if c then .tuple #[z,.bool false] else z)):=by
  intro ρ' es es' k k' hk hs he;refine (P6 _ _ ht.1 k k').bind λρ₂ _ _ l2 _=>?_;refine (VV hN ht.1 (hk.mono l2) (CV (λ_ _=>F8.mono l2) (MV hs he))).bind λρ₃ r r' l3 hr=>?_;have hr:=hr.1
  have fin: ∀{ρ:Rn} {v v':AQ} (b:Bool),BC F ρ v v'->BC F ρ (if c then .tuple #[v,.bool b] else v) (if c then .tuple #[v',.bool b] else v'):=by
   intro ρ v v' b hv;(cases c);exact hv;exact .tuple rfl (BB.push (BB.one hv) (.flat rfl)).2
  rcases r with _|⟨i,v⟩<;>rcases r' with _|⟨i',v'⟩<;>first|exact hr.elim|skip
  ·exact (OM elem ht.2).bind λ_ z z' _ e=>λ_=>fin _ (by rw[<- e.1];exact e.2)
  exact λ_=>fin _ hr.2
 cases h with
 |flat hf=>
  (cases x<;>first|exact λ_=>Ar|exact Ak (show false=true from hf) AV|skip);rename_i m;(cases m<;>first|exact Ak (show false=true from hf) AV|skip);exact rest (es:=#[]) (es':=#[]) hk rfl (λi e e' h1=>by simp at h1)
 |map hb=>
  intro hok;refine⟨hb,λo o' ho=>?_⟩
  cases ho with|map hs he=>exact rest hk hs he hok|_=>exact Ar
 |_=>exact λ_=>Ar
theorem AI0(hs:es.size=es'.size){i:Nat}{e:Du}(h:es[i]? =AA e): ∃e',es'[i]? =AA e':=
 ⟨es'[i]'(by have:=(Dj.1 h).1;omega),FZ _⟩
theorem bI(n:Nat)(hx:flat x=true)(hy:flat y=false):Qy (n+1) y x=false/\Qy (n+1) x y=false:=by
 (cases x<;>first|exact Ak (show false=true from hx) AV|skip);all_goals cases y<;>first|exact Ak (show true=false from hy) AV|exact⟨rfl,rfl⟩|skip
 all_goals
  rename_i a b;(cases a<;>first|exact Ak (show false=true from hx) AV|skip);cases b<;>first|exact Ak (show true=false from hy) AV|exact⟨rfl,rfl⟩
theorem XO(n:Nat)(hf:flat x=true)(k:BC F ρ y y'):Qy (n+1) y x=Qy (n+1) y' x/\Qy (n+1) x y=Qy (n+1) x y':=by
 by_cases hy:flat y=true;rw[BR k hy];exact⟨rfl,rfl⟩;have h1:=bI n hf (show flat y=false by simpa using hy);have h2:=bI n hf (show flat y'=false by cases e:flat y' with|false=>rfl|true=>exact Ak (P7 k e) hy);rw[h1.1,h1.2,h2.1,h2.2];exact⟨rfl,rfl⟩
theorem uM(hok:ρ.Ok N)(hg:nz x y)(h:BC F ρ x x')(k:BC F ρ y y'):Qy 10000 y x=Qy 10000 y' x':=by
 have e0:(10000:Nat)=9999+1:=rfl;rw[e0];rcases hg with hf|hf|⟨p,q,rfl,rfl⟩;rw[BR h hf];exact (XO _ hf k).1;rw[BR k hf];exact (XO _ hf h).2;obtain⟨p',rfl,hp⟩:=Dk h;obtain⟨q',rfl,hq⟩:=Dk k;(rcases p with _|a<;>rcases p' with _|a'<;>first|exact hp.elim|skip);(all_goals rcases q with _|b<;>rcases q' with _|b'<;>first|exact hq.elim|exact rfl|skip);have:=RelA.beq' hok hq hp;simp only[Qy];show (AA b==AA a)=(AA b'==AA a');simpa using this
theorem bJ(hg:nz x y)(h:BC F ρ x x')(k:BC F ρ y y'):AY T F N (QV F) (ABD y x) ρ (ABD y' x'):=by
 intro hok;have e:=uM hok hg h k;revert hok;unfold ABD;rw[e];split;exact λ_=>h;refine (Jb _).bind λρ₁ a b l1 e=>?_;obtain rfl:a=b:=e;split;exact λ_=>h.mono l1;exact λ_=>k.mono l1
theorem QQ{b b' c:Nat}(h:ρ.r b b')(he:es.size=es'.size/\∀(i:Nat) (e e':Du),es[i]? =AA e->es'[i]? =AA e'->F8 F ρ e e'):
  AY T F N Ef (I5 b (.map es c)) ρ (I5 b' (.map es' c)):=λ_=>⟨h,.map he.1 he.2,rfl,⟨(λ_ _ _ e=>by cases e),rfl⟩⟩
theorem oC(hN:T.P.globals.size<N)(ht:XN T.P t=true){z z':AQ}(h:BC F ρ x x')(hk:BC F ρ k k')(hz:BC F ρ z z'):
  AY T F N Ef (jB t x k z) ρ (jB t x' k' z'):=by
 unfold jB;refine (BQ t).bind λρ₁ d d' l1 e=>?_;obtain⟨rfl,hd⟩:=e;unfold XN at ht;rw[hd] at ht;have h:=h.mono l1;have hk:=hk.mono l1;have hz:=hz.mono l1;(cases d<;>first|exact Ak (show false=true from ht) AV|skip);rename_i key elem;simp only[DV] at ht
 cases h with
 |flat hf=>
  (cases x<;>first|exact λ_=>Ar|exact Ak (show false=true from hf) AV|skip);rename_i m;cases m<;>first|exact Ak (show false=true from hf) AV|exact Bq (e:=.plain _) trivial
 |map hb=>
  rename_i b b';intro hok;refine⟨hb,λo o' ho=>?_⟩
  cases ho with
  |map hs he=>
   refine (AY.bind (P6 _ _ ht.1 k k') λρ₂ _ _ l2 _=>?_) hok;refine (VV hN ht.1 (hk.mono l2) (CV (λ_ _=>F8.mono l2) (MV hs he))).bind λρ₃ r r' l3 hr=>?_;rcases r with _|⟨i,v⟩<;>rcases r' with _|⟨i',v'⟩<;>first|exact hr.1.elim|skip
   ·exact QQ (l3.r _ _ (l2.r _ _ hb)) (AIz hs (λi e e' h1 h2=>((he i e e' h1 h2).mono l2).mono l3) ⟨(hk.mono l2).mono l3,(hz.mono l2).mono l3,rfl⟩)
   obtain⟨⟨e1,_⟩,e2⟩:=hr;simp only at e1;subst e1;obtain⟨_,e,h1,hg⟩:=e2 _ rfl;simp only[Nat.sub_zero,ZN] at h1;obtain⟨e',h2⟩:=AI0 hs h1;have hk:=(hk.mono l2).mono l3;have he: ∀(i:Nat) (e e':Du),_->_->F8 F ρ₃ e e':=λi e e' h1 h2=>((he i e e' h1 h2).mono l2).mono l3;simp only[h1,h2,Fj,Dx];refine (bJ hg hk (he _ _ _ h1 h2).key).bind λρ₄ a a' l4 ha=>?_;exact QQ (l4.r _ _ (l3.r _ _ (l2.r _ _ hb))) (AMT (g:=λe=>{key:=a,val:=z,born:=e.born}) (g':=λe=>{key:=a',val:=z',born:=e.born}) hs (λi e e' h1 h2=>(he i e e' h1 h2).mono l4) (λx y hxy=>⟨ha,((hz.mono l2).mono l3).mono l4,hxy.born⟩) _)
  |_=>exact Ar
 |_=>exact λ_=>Ar
theorem XP{o o':Obj}(h:Gx F ρ o o'):AY T F N (λρ a b=>ρ.r a b) (newObj o) ρ (newObj o'):=λ_=>.inr ⟨h,λ_ _ _=>.inr ⟨rfl,rfl⟩⟩
theorem zF(t:Am):AY T F N (QV F) (Instr.makeMap t AB) ρ (Instr.makeMap t AB):=
 (XP (.map rfl λi e e' h=>by simp at h)).bind λ_ _ _ _ hb=>λ_=>.map hb
theorem AED(h:BC F ρ x x'):AY T F N (QV F) (Instr.range t x) ρ (Instr.range t x'):=by
 unfold Instr.range;refine (BQ t).bind λρ₁ d d' l1 e=>?_;obtain⟨rfl,hd⟩:=e;have h:=h.mono l1
 have fin: ∀{ρ:Rn} {o o':Obj},Gx F ρ o o'->AY T F N (QV F) (newObj o>>=λb=>pure (.pointer (AA ⟨b,0,AB⟩)):Sem AQ) ρ (newObj o'>>=λb=>pure (.pointer (AA ⟨b,0,AB⟩))):=
  λho=>(XP ho).bind λ_ _ _ _ hb=>λ_=>.ptr ⟨hb,rfl,rfl⟩
 cases h with
 |flat hf=>
  (cases x<;>first|exact Ak (show false=true from hf) AV|skip);(all_goals cases d<;>first|exact λ_=>Ar|exact fin .stringIter|skip);rename_i a _ _;cases a<;>first|exact Ak (show false=true from hf) AV|exact fin .La
 |map hb=>
  (cases d<;>first|exact λ_=>Ar|skip);intro hok;refine⟨hb,λo o' ho=>?_⟩
  cases ho with|map=>exact fin (.mapIter hb) hok|_=>exact Ar
 |_=>cases d<;>exact λ_=>Ar
theorem ABe{R:α->β->Prop}{l:List α}{l':List β}(h:Ce R l l'): ∀(i:Nat) (a:α) (b:β),l[i]? =AA a->l'[i]? =AA b->R a b:=by
 induction h with
 |nil=>intro i a b h1;simp at h1
 |cons ha _ ih=>intro i a b h1 h2;cases i with
  |zero=>simp only[tX,DR] at h1 h2;subst h1 h2;exact ha|succ i=>exact ih i a b (by simpa using h1) (by simpa using h2)
theorem Y2(h:Ce (F8 F ρ) es.toList es'.toList):es.size=es'.size/\∀(i:Nat) (e e':Du),es[i]? =AA e->es'[i]? =AA e'->F8 F ρ e e':=
 ⟨by simpa using YL h,λi e e' h1 h2=>ABe h i e e' (by simpa using h1) (by simpa using h2)⟩
theorem ABf{R:α->β->Prop}{l:List α}{l':List β}(h:Ce R l l'): ∀i,Ce R (l.eraseIdx i) (l'.eraseIdx i):=by
 induction h with
 |nil=>intro i;exact .nil
 |cons ha hl ih=>intro i;cases i with
  |zero=>exact hl|succ i=>exact .cons ha (ih i)
theorem VW{R:α->β->Prop}{p:α->Bool}{q:β->Bool}(hpq: ∀a b,R a b->p a=q b){l:List α}{l':List β}(h:Ce R l l'):Ce R (l.filter p) (l'.filter q):=by
 induction h with
 |nil=>exact .nil|cons ha _ ih=>
  simp only[XC,hpq _ _ ha];split;exact .cons ha ih;exact ih
theorem vS{R:α->β->Prop}{l m:List α}{l' m':List β}(h:Ce R l l')(k:Ce R m m'):Ce R (l++m) (l'++m'):=by
 induction h with|nil=>exact k|cons ha _ ih=>exact .cons ha ih
theorem AHK{γ δ:Type}{R:α->β->Prop}{S:γ->δ->Prop}{f:α->γ}{g:β->δ}(hfg: ∀a b,R a b->S (f a) (g b)){l:List α}{l':List β}(h:Ce R l l'):Ce S (l.map f) (l'.map g):=by
 induction h with|nil=>exact .nil|cons ha _ ih=>exact .cons (hfg _ _ ha) ih
theorem ABg(hN:T.P.globals.size<N){u ty:Am}(ht:XN T.P t=true)(h:BC F ρ x x')(hk:BC F ρ k k'):
  AY T F N (QV F) (tq #[t,u] ty #[x,k]) ρ (tq #[t,u] ty #[x',k']):=by
 unfold tq;show AY T F N (QV F) (underlying t>>=_) ρ (underlying t>>=_);refine (BQ t).bind λρ₁ d d' l1 e=>?_;obtain⟨rfl,hd⟩:=e;unfold XN at ht;rw[hd] at ht;have h:=h.mono l1;have hk:=hk.mono l1;(cases d<;>first|exact Ak (show false=true from ht) AV|skip);rename_i key elem;simp only[DV] at ht;have over: ∀{ρ:Rn},AY T F N (QV F) (pure (.tuple #[]):Sem AQ) ρ (pure (.tuple #[])):=λ_=>.undef
 cases h with
 |flat hf=>
  (cases x<;>first|exact λ_=>Ar|exact Ak (show false=true from hf) AV|skip);rename_i m;(cases m<;>first|exact Ak (show false=true from hf) AV|skip);exact (P6 _ _ ht.1 k k').bind λ_ _ _ _ _=>over
 |map hb=>
  intro hok;refine⟨hb,λo o' ho=>?_⟩
  cases ho with
  | @map es es' c hs he=>
   refine (AY.bind (P6 _ _ ht.1 k k') λρ₂ _ _ l2 _=>?_) hok;have ha:=CV (λ_ _=>F8.mono l2) (MV hs he);refine (VV hN ht.1 (hk.mono l2) ha).bind λρ₃ r r' l3 hr=>?_;have ha:=CV (λ_ _=>F8.mono l3) ha;have hb:=l3.r _ _ (l2.r _ _ hb);(rcases r with _|⟨i,v⟩<;>rcases r' with _|⟨i',v'⟩<;>first|exact hr.1.elim|skip);exact (QQ hb (Y2 ha)).bind λ_ _ _ _ _=>over;obtain⟨⟨e1,_⟩,_⟩:=hr;simp only at e1;subst e1;refine (QQ hb (Y2 ?_)).bind λ_ _ _ _ _=>over;simp only[Array.toList_eraseIdxIfInBounds];exact ABf ha _
  |_=>exact Ar
 |_=>exact λ_=>Ar
def QE (F:Fs) (ρ:Rn) (x y:Option Du):Prop:=match x,y with
 |some e,AA e'=>F8 F ρ e e'|none,AB=>True|_,_=>False
def Ji (es:Array Du) (seen:Array Nat) (since:Nat):Array (Option Du):=
 (if ((es.filter λe=> !seen.contains e.born).filter λe=>decide (e.born<since)).isEmpty=true then #[AB] else #[])++
  (((es.filter λe=> !seen.contains e.born).filter λe=>decide (e.born<since))++((es.filter λe=> !seen.contains e.born).filter λe=>decide (e.born≥since))).map AA
def stale (es:Array Du) (seen:Array Nat) (last:Nat):Bool:= !seen.isEmpty && !es.isEmpty && es.all λe=>decide (e.born≥last)
theorem AHL{R:α->β->Prop}{p:α->Bool}{q:β->Bool}(hpq: ∀a b,R a b->p a=q b){l:List α}{l':List β}(h:Ce R l l'):l.all p=l'.all q:=by
 induction h with|nil=>rfl|cons ha _ ih=>simp only[List.all_cons,hpq _ _ ha,ih]
theorem AEE(h:Ce (F8 F ρ) es.toList es'.toList)(seen:Array Nat)(last:Nat):stale es seen last=stale es' seen last:=by
 have h1:es.size=es'.size:=by simpa using YL h
 have h2:es.all (λe=>decide (e.born≥last))=es'.all λe=>decide (e.born≥last):=by
  rw[<- Array.all_toList,<- Array.all_toList];exact AHL (λa b hab=>by rw[hab.born]) h
 unfold stale;rw[h2];simp only[Array.isEmpty,h1]
theorem AEF(h:Ce (F8 F ρ) es.toList es'.toList)(seen:Array Nat)(since:Nat):Ce (QE F ρ) (Ji es seen since).toList (Ji es' seen since).toList:=by
 have hl:Ce (F8 F ρ) (es.filter λe=> !seen.contains e.born).toList (es'.filter λe=> !seen.contains e.born).toList:=by
  simp only[fE];exact VW (λa b hab=>by rw[hab.born]) h
 have ho:Ce (F8 F ρ) ((es.filter λe=> !seen.contains e.born).filter λe=>decide (e.born<since)).toList ((es'.filter λe=> !seen.contains e.born).filter λe=>decide (e.born<since)).toList:=by
  simp only[fE] at hl⊢;exact VW (λa b hab=>by rw[hab.born]) hl
 have hn:Ce (F8 F ρ) ((es.filter λe=> !seen.contains e.born).filter λe=>decide (e.born≥since)).toList ((es'.filter λe=> !seen.contains e.born).filter λe=>decide (e.born≥since)).toList:=by
  simp only[fE] at hl⊢;exact VW (λa b hab=>by rw[hab.born]) hl
 unfold Ji;revert ho hn;generalize (aU (λe=>decide (e.born<since)) (aU (λe=> !seen.contains e.born) es))=o;generalize (aU (λe=>decide (e.born<since)) (aU (λe=> !seen.contains e.born) es'))=o';generalize (aU (λe=>decide (e.born≥since)) (aU (λe=> !seen.contains e.born) es))=n;generalize (aU (λe=>decide (e.born≥since)) (aU (λe=> !seen.contains e.born) es'))=n';intro ho hn
 have e0:o.isEmpty=o'.isEmpty:=by
  (have:o.size=o'.size:=by simpa using YL ho);simp[Array.isEmpty,this]
 rw[e0];simp only[AIq,ZO];refine vS ?_ (AHK (R:=F8 F ρ) (S:=QE F ρ) (f:=AA) (g:=AA) (λ_ _ h=>h) (vS ho hn));split;exact .cons trivial .nil;exact .nil
theorem AHM(h:BC F ρ x x')(s:Bool)(t:Am):AY T F N (QV F) (Instr.next x s t) ρ (Instr.next x' s t):=by
 unfold Instr.next;have over: ∀{ρ:Rn},AY T F N (QV F) (pure (.tuple #[.bool false]):Sem AQ) ρ (pure (.tuple #[.bool false])):=λ_=>.tuple rfl (BB.one (.flat rfl)).2
 cases h with
 |flat hf=>cases x<;>first|exact λ_=>Ar|(rename_i p;cases p<;>first|exact λ_=>Ar|exact Ak (show false=true from hf) AV)
 | @ptr a a' ha=>
  obtain⟨r,off,sp⟩:=a;obtain⟨r',off',sp'⟩:=a';obtain⟨hr,h1,h2⟩:=ha;simp only at hr h1 h2;subst h1 h2
  cases off' with|succ n=>exact λ_=>Ar|zero=>
  intro hok;refine⟨hr,λo o' ho=>?_⟩
  cases ho with
  | @stringIter z k=>
   (cases s);exact Ar
   have key:AY T F N (QV F) (if k<z.size then I5 r (.stringIter z (k+(Utf8.decode z k).2))>>=λ_=>pure (.tuple #[.bool true,goInt k,.int .i32 (Utf8.decode z k).1]) else pure (.tuple #[.bool false]):Sem AQ) ρ
     (if k<z.size then I5 r' (.stringIter z (k+(Utf8.decode z k).2))>>=λ_=>pure (.tuple #[.bool true,goInt k,.int .i32 (Utf8.decode z k).1]) else pure (.tuple #[.bool false])):=by
    split
    ·refine AY.bind (Q:=Ef) (λ_=>⟨hr,.stringIter,rfl,⟨(λ_ _ _ e=>by cases e),rfl⟩⟩) λ_ _ _ _ _=>λ_=>.tuple rfl (BB.push (BB.push (BB.one (.flat rfl)) (.flat rfl)) (.flat rfl)).2
    exact over
   exact key hok
  |La=>cases s<;>first|exact Ar|exact over hok
  | @mapIter b b' since last seen hb=>
   cases s
   ·refine (show DT T F N (QV F) (getObj b>>=_) ρ (getObj b'>>=_) from ?_);refine⟨hb,λo o' ho=>?_⟩
    cases ho with
    | @map es es' c hs he=>
     have ha:=MV hs he
     have body:AY T F N (QV F) (choose (.mapNext (Ji es seen since).size)>>=λn=>match (Ji es seen since)[n]? with
       |some (AA e)=>I5 r (.mapIter (AA b) since (seen.push e.born) c)>>=λ_=>pure (.tuple #[.bool true,e.key,e.val])|some AB=>pure (.tuple #[.bool false])
       |none=>stuck "Next: no such candidate" :Sem AQ) ρ
       (choose (.mapNext (Ji es' seen since).size)>>=λn=>match (Ji es' seen since)[n]? with|some (AA e)=>I5 r' (.mapIter (AA b') since (seen.push e.born) c)>>=λ_=>pure (.tuple #[.bool true,e.key,e.val])|some AB=>pure (.tuple #[.bool false])|none=>stuck "Next: no such candidate"):=by
      have hc:=AEF ha seen since;(have hz:(Ji es seen since).size=(Ji es' seen since).size:=by simpa using YL hc);rw[hz];refine (Jb _).bind λρ₁ n n' l1 e=>?_;obtain rfl:n=n':=e
      cases h1:(Ji es seen since)[n]? with
      |none=>exact λ_=>Ar|some q=>
       have hn:=(Dj.1 h1).1;obtain⟨q',h2⟩: ∃q',(Ji es' seen since)[n]? =AA q':=⟨_,FZ Aa⟩;have hq:=ABe hc n _ _ (by simpa using h1) (by simpa using h2);rw[h2];(rcases q with _|e<;>rcases q' with _|e'<;>first|exact hq.elim|skip);exact over;have hq:F8 F ρ e e':=hq;simp only[hq.born];refine AY.bind (Q:=Ef) (λ_=>⟨l1.r _ _ hr,.mapIter (l1.r _ _ hb),rfl,⟨(λ_ _ _ e=>by cases e),rfl⟩⟩) λρ₂ _ _ l2 _=>λ_=>.tuple rfl (BB.push (BB.push (BB.one (.flat rfl)) (((hq.mono l1).mono l2).key)) (((hq.mono l1).mono l2).val)).2
     have e0:=AEE ha seen last
     have key:AY T F N (QV F) (if stale es seen last=true then unsupported (.noEntry "instr/Next: every entry that the ranged map held at the last iteration is gone, and it holds new ones")>>=λ(_:Unit)=>choose (.mapNext (Ji es seen since).size)>>=λn=>match (Ji es seen since)[n]? with
       |some (AA e)=>I5 r (.mapIter (AA b) since (seen.push e.born) c)>>=λ_=>pure (.tuple #[.bool true,e.key,e.val])|some AB=>pure (.tuple #[.bool false])
       |none=>stuck "Next: no such candidate" else (choose (.mapNext (Ji es seen since).size)>>=λn=>match (Ji es seen since)[n]? with
       |some (AA e)=>I5 r (.mapIter (AA b) since (seen.push e.born) c)>>=λ_=>pure (.tuple #[.bool true,e.key,e.val])|some AB=>pure (.tuple #[.bool false])
       |none=>stuck "Next: no such candidate"):Sem AQ) ρ
       (if stale es' seen last=true then unsupported (.noEntry "instr/Next: every entry that the ranged map held at the last iteration is gone, and it holds new ones")>>=λ(_:Unit)=>choose (.mapNext (Ji es' seen since).size)>>=λn=>match (Ji es' seen since)[n]? with
       |some (AA e)=>I5 r' (.mapIter (AA b') since (seen.push e.born) c)>>=λ_=>pure (.tuple #[.bool true,e.key,e.val])|some AB=>pure (.tuple #[.bool false])
       |none=>stuck "Next: no such candidate" else (choose (.mapNext (Ji es' seen since).size)>>=λn=>match (Ji es' seen since)[n]? with
       |some (AA e)=>I5 r' (.mapIter (AA b') since (seen.push e.born) c)>>=λ_=>pure (.tuple #[.bool true,e.key,e.val])|some AB=>pure (.tuple #[.bool false])
       |none=>stuck "Next: no such candidate")):=by
      rw[e0];split;exact λ_=>Ar;exact body
     exact key hok
    |_=>exact Ar
   exact Ar
  |_=>cases s<;>exact Ar
 |_=>exact λ_=>Ar
end
end
section
variable {t:Am}{x x':AQ}
section
variable {T:Twin} {F:Fs} {N:Nat} {ρ:Rn} {α β γ:Type}
theorem uN{es es':Array Du}(h:Ce (F8 F ρ) es.toList es'.toList)(k:Nat):QE F ρ (es.find? (·.born==k)) (es'.find? (·.born==k)):=by
 rw[<- Array.find?_toList,<- Array.find?_toList];revert h;generalize es.toList=l;generalize es'.toList=l';intro h
 induction h with
 |nil=>exact Ar|cons ha _ ih=>
  simp only[List.find?_cons,ha.born];split;exact ha;exact ih
theorem AEG(h:BC F ρ x x'):AY T F N (QV F) (Instr.entry x) ρ (Instr.entry x'):=by
 unfold Instr.entry
 cases h with
 |flat hf=>cases x<;>first|exact λ_=>Ar|(rename_i p;cases p<;>first|exact λ_=>Ar|exact Ak (show false=true from hf) AV)
 | @ptr a a' ha=>
  obtain⟨r,off,sp⟩:=a;obtain⟨r',off',sp'⟩:=a';obtain⟨hr,h1,h2⟩:=ha;simp only at hr h1 h2;subst h1 h2
  cases off' with|succ n=>exact λ_=>Ar|zero=>
  intro hok;refine⟨hr,λo o' ho=>?_⟩
  cases ho with
  | @mapIter b b' since last seen hb=>
   dsimp only[JZ]
   cases seen.back? with
   |none=>exact Ar|some stamp=>
    refine⟨hb,λo o' ho=>?_⟩
    cases ho with
    | @map es es' c hs he=>
     have hq:=uN (MV hs he) stamp;dsimp only[JZ];by_cases hc:(c !=last)=true
     ·simp only[hc,if_true];exact Ar
     simp only[hc,if_false,DC];revert hq;generalize es.find? (·.born==stamp)=q;generalize es'.find? (·.born==stamp)=q';intro hq;(rcases q with _|e<;>rcases q' with _|e'<;>first|exact hq.elim|exact Ar|skip);exact .tuple rfl (BB.push (BB.one (F8.key hq)) (F8.val hq)).2
    |_=>exact Ar
  |_=>exact Ar
 |_=>exact λ_=>Ar
theorem AEH{i i':AQ}(h:BC F ρ x x')(k:BC F ρ i i'):AY T F N (QV F) (Instr.index t x i) ρ (Instr.index t x' i'):=by
 unfold Instr.index;refine (OQ k).bind λρ₁ q q' l1 e=>?_;obtain rfl:q=q':=e;obtain⟨kd,n⟩:=q;refine (BQ t).bind λρ₂ d d' l2 e=>?_;obtain⟨rfl,hd⟩:=e;have h:=(h.mono l1).mono l2
 cases h with
 |flat hf=>
  (cases x<;>first|exact Ak (show false=true from hf) AV|skip);(all_goals cases d<;>first|exact λ_=>Ar|skip);rename_i s
  have key:AY T F N (QV F) (match (if 0<=n then s[n.toNat]? else AB) with|some b=>pure (.int .u8 b.toNat)|none=>boundsPanic kd n s.size .index:Sem AQ) ρ₂ (match (if 0<=n then s[n.toNat]? else AB) with|some b=>pure (.int .u8 b.toNat)|none=>boundsPanic kd n s.size .index):=by
   generalize (if 0<=n then s[n.toNat]? else AB)=z;(cases z);exact IP _ _ _ _;exact λ_=>.flat rfl
  exact key
 | @agg p p' h1 h2=>
  (cases d<;>first|exact λ_=>Ar|skip);rename_i len elem;by_cases hc:0<=n/\n<len
  ·simp only[hc,and_self,if_true];refine (Ec elem).bind λρ₃ z z' l3 e=>?_;obtain rfl:z=z':=e;exact vP elem (BB.mono l3 ⟨h1,h2⟩) _
  simp only[hc,if_false];exact IP _ _ _ _
 |_=>cases d<;>exact λ_=>Ar
theorem kJ(h:BC F ρ x x')(t a:Am)(hz:Ho T.P a=true):AY T F N (QV F) (KI x t a true) ρ (KI x' t a true):=by
 unfold KI;refine (BQ a).bind λρ₁ d d' l1 e=>?_;obtain⟨rfl,hd⟩:=e;have h:=h.mono l1
 have fails: ∀{ρ:Rn},AY T F N (QV F) (GY a>>=λz=>pure (.tuple #[z,.bool false]):Sem AQ) ρ (GY a>>=λz=>pure (.tuple #[z,.bool false])):=
  (OM a hz).bind λ_ z z' _ e=>λ_=>.tuple rfl (BB.push (BB.one (by rw[<- e.1];exact e.2)) (.flat rfl)).2
 have holds: ∀{ρ:Rn} {v v':AQ},BC F ρ v v'->AY T F N (QV F) (pure (.tuple #[v,.bool true]):Sem AQ) ρ (pure (.tuple #[v',.bool true])):=
  λhv=>λ_=>.tuple rfl (BB.push (BB.one hv) (.flat rfl)).2
 cases h with
 |flat hf=>
  (cases x<;>first|exact Ak (show false=true from hf) AV|skip);all_goals cases d<;>first|exact λ_=>Ar|exact fails
 | @iface u v v' hv=>
  by_cases hi: ∃w,d=.interface w
  ·obtain⟨w,rfl⟩:=hi;refine (C9 u).bind λρ₂ i i' l2 e=>?_;obtain⟨rfl,_⟩:=e
   cases Instr.missingMethod w i.methods with|none=>exact holds (.iface (hv.mono l2))|some m=>exact fails
  have e1: ∀z:AQ,(match d,(.iface u z:AQ) with
    | .interface _,.nilIface=>(GY a>>=λz=>pure (.tuple #[z,.bool false]):Sem AQ)
    | .interface want,.iface t _=>I4 t>>=λi=>match Instr.missingMethod want i.methods with
     |none=>pure (.tuple #[.iface u z,.bool true])|some m=>(GY a>>=λz=>pure (.tuple #[z,.bool false]))
    |_,.nilIface=>(GY a>>=λz=>pure (.tuple #[z,.bool false]))|_,.iface t v=>if t=a then pure (.tuple #[v,.bool true]) else (GY a>>=λz=>pure (.tuple #[z,.bool false]))
    |_,_=>stuck "TypeAssert: interface value expected")=if u=a then pure (.tuple #[z,.bool true]) else (GY a>>=λz=>pure (.tuple #[z,.bool false])):=by
   intro z;cases d<;>first|rfl|exact Ak ⟨_,rfl⟩ hi
  have e2:AY T F N (QV F) (if u=a then pure (.tuple #[v,.bool true]) else (GY a>>=λz=>pure (.tuple #[z,.bool false])):Sem AQ) ρ₁ (if u=a then pure (.tuple #[v',.bool true]) else (GY a>>=λz=>pure (.tuple #[z,.bool false]))):=by
   split;exact holds hv;exact fails
  rw[<- e1,<- e1] at e2;exact e2
 |_=>cases d<;>exact λ_=>Ar
theorem AEI{ty el:Am}(hu:T.P.underlying t=AA (.slice el))(hz:Ho T.P el=true)(h:BC F ρ x x'):AY T F N (QV F) (Builtin.clear_ #[t] ty #[x]) ρ (Builtin.clear_ #[t] ty #[x']):=by
 unfold Builtin.clear_;show AY T F N (QV F) (underlying t>>=_) ρ (underlying t>>=_);refine (BQ t).bind λρ₁ d d' l1 e=>?_;obtain⟨rfl,hd⟩:=e;rw[hu] at hd;obtain rfl:=EF hd;have h:=h.mono l1;have over: ∀{ρ:Rn},AY T F N (QV F) (pure (.tuple #[]):Sem AQ) ρ (pure (.tuple #[])):=λ_=>.undef
 cases h with
 |flat hf=>
  cases x<;>first|exact Ak (show false=true from hf) AV|exact λ_=>Ar|skip
  ·rename_i a n k;cases a<;>first|exact Ak (show false=true from hf) AV|exact over
  rename_i a;cases a<;>first|exact Ak (show false=true from hf) AV|exact over
 | @slice a a' n k ha=>
  cases n with
  |zero=>exact over|succ n=>
   refine (OM el hz).bind λρ₂ z z' l2 e=>?_;obtain⟨rfl,he⟩:=e;refine (NP _ _ 0 (RelA.mono l2 ha) ?_).bind λ_ _ _ _ _=>over;have hc:BB F ρ₂ z.cells z.cells:=he.cells;simp only[Nw];refine BB.map λi _=>?_;rw[getElem!_def]
   cases hg:z.cells[i % z.cells.size]? with|none=>exact .flat rfl|some v=>exact hc.2 _ _ _ hg hg
 |emp=>exact over|map hb=>
  intro hok;refine⟨hb,λo o' ho=>?_⟩
  cases ho with|map=>exact ((QQ hb ⟨rfl,λi e e' h=>by simp at h⟩).bind λ_ _ _ _ _=>over) hok|_=>exact Ar
 |_=>exact λ_=>Ar
end
end
section
variable {T:Twin} {F:Fs} {N:Nat} {ρ:Rn} {α β γ:Type}
theorem jL(hN:T.P.globals.size<N)(hok:ρ.Ok N)(t:Am):BC F ρ (Us T.v t) (Us T.P t):=.ptr ⟨hok.hd _ hN,rfl,rfl⟩
theorem Lj(hN:T.P.globals.size<N){Q:Rn->α->β->Prop}(i c:Option Am)(a:Am)(m:String):
  AY T F N Q (Qw (.typeAssertion i c a m):Sem α) ρ (Qw (.typeAssertion i c a m):Sem β):=by
 intro hok
 have hh: ∀t:Option Am,BC F ρ (match t with|some t=>Us T.v t|none=>.pointer AB) (match t with|some t=>Us T.P t|none=>.pointer AB):=λt=>by
  cases t with|none=>exact .flat rfl|some t=>exact jL hN hok t
 have hp:BC F ρ (.agg #[(match i with|some t=>Us T.v t|none=>.pointer AB),(match c with|some t=>Us T.v t|none=>.pointer AB),Us T.v a,strVal m]) (.agg #[(match i with|some t=>Us T.P t|none=>.pointer AB),(match c with|some t=>Us T.P t|none=>.pointer AB),Us T.P a,strVal m]):=by
  have:=(((BB.one (hh i)).push (hh c)).push (hh (AA a))).push (BC.flat (F:=F) (ρ:=ρ) (v:=strVal m) rfl);exact .agg this.1 this.2
 revert hok;refine CU.bind λρ₁ p p' l1 e=>?_;obtain⟨rfl,rfl⟩:=e;refine (XH _).bind λρ₂ t t' l2 e=>?_;obtain rfl:t=t':=e;refine (Ny t ((hp.mono l1).mono l2)).bind λρ₃ a a' l3 ha=>?_;exact λ_=>.inr ⟨_,rfl,.iface (.ptr ha)⟩
theorem fM(hN:T.P.globals.size<N){x x':AQ}(h:BC F ρ x x')(t a:Am):AY T F N (QV F) (KI x t a false) ρ (KI x' t a false):=by
 unfold KI;refine (BQ a).bind λρ₁ d d' l1 e=>?_;obtain⟨rfl,hd⟩:=e;have h:=h.mono l1
 cases h with
 |flat hf=>
  (cases x<;>first|exact Ak (show false=true from hf) AV|skip);all_goals cases d<;>first|exact λ_=>Ar|exact Lj hN AB AB a "" |exact Lj hN (AA t) AB a ""
 | @iface u v v' hv=>
  by_cases hi: ∃w,d=.interface w
  ·obtain⟨w,rfl⟩:=hi;refine (C9 u).bind λρ₂ i i' l2 e=>?_;obtain⟨rfl,_⟩:=e
   cases Instr.missingMethod w i.methods with|none=>exact λ_=>.iface (hv.mono l2)|some m=>exact Lj hN AB (AA u) a m
  have e2:AY T F N (QV F) (if u=a then pure v else Qw (.typeAssertion (AA t) (AA u) a ""):Sem AQ) ρ₁ (if u=a then pure v' else Qw (.typeAssertion (AA t) (AA u) a "")):=by
   split;exact λ_=>hv;exact Lj hN _ _ _ _
  cases d<;>first|exact Ak ⟨_,rfl⟩ hi|exact e2
 |_=>cases d<;>exact λ_=>Ar
def ABh (el:Am) (n size:Nat):Sem (Array AQ):=if n*size=0 then pure #[] else do pure (Nw (<- GY el).cells n)
theorem vT{el:Am}(hz:Ho T.P el=true)(n size:Nat):AY T F N (QVs F) (ABh el n size) ρ (ABh el n size):=by
 unfold ABh;split;exact λ_=>BB.nil;refine (LD el hz).bind λρ₁ z z' l1 e=>?_;obtain⟨rfl,hz⟩:=e;exact λ_=>VT hz _ _
theorem zG(t xt ty:Am)(hint: ∃k,T.P.underlying xt=AA (.int k))(hz: ∀el,T.P.underlying t=AA (.slice el)->Ho T.P el=true)
  {s s' x x':AQ} (hs:BC F ρ s s') (hx:BC F ρ x x'):AY T F N (QV F) (Pn #[t,xt] ty #[s,x]) ρ (Pn #[t,xt] ty #[s',x']):=by
 have hsl:=bG hs;unfold Pn;simp only[Wy,tX,AFw];refine (BQ t).bind λρ₁ d d' l1 e=>?_;obtain⟨rfl,hd⟩:=e
 cases d with
 |slice el=>
  simp only;rcases hsl with ⟨b,b',sLen,sCap,rfl,rfl,hb⟩|hns
  ·simp only;refine (Ec el).bind λρ₂ size size' l2 e=>?_;obtain rfl:size=size':=e;refine (BQ xt).bind λρ₃ dx dx' l3 e=>?_;obtain⟨rfl,nZ⟩:=e;refine AY.bind (Q:=λ_ a b=>a=true/\b=true) ?_ λρ₄ z z' l4 e=>?_
   ·obtain⟨k,hk⟩:=hint;rw[hk] at nZ;obtain rfl:=EF nZ;exact λ_=>⟨rfl,rfl⟩
   obtain⟨rfl,rfl⟩:=e;simp only[if_true,nH,DC,if_false,true_or,and_true];have hs4:=(((hs.mono l1).mono l2).mono l3).mono l4
   have hb4: ∀{ρ':Rn},ρ₄.le ρ'->(QB ρ' b b'\/∃c a,ρ'.c c (.slice (AA a) 0 0)/\sLen=0/\sCap=0/\b=AA ⟨c,0,AB⟩/\b'=AA a):=by
    intro ρ' l;have lt:=(((l1.trans l2).trans l3).trans l4).trans l;rcases hb with hb|⟨c0,a0,hc0,h1,h2,h3,h4⟩;exact .inl (hb.mono lt);exact .inr ⟨c0,a0,lt.c _ _ hc0,h1,h2,h3,h4⟩
   refine (nV ((((hx.mono l1).mono l2).mono l3).mono l4)).bind λρ₅ q q' l5 e=>?_;obtain rfl:q=q':=e;by_cases hneg:IntKind.i64.wrap q<0
   ·simp only[hneg,if_true];exact AY.bind (Q:=λ_ _ _=>False) (Bq (e:=.error _) trivial) λ_ _ _ _ e=>e.elim
   simp only[hneg,if_false];refine (C9 el).bind λρ₆ i i' l6 e=>?_;obtain⟨rfl,_⟩:=e;by_cases hbig:IntKind.i64.wrap q*(i.bytes:Int)>2 ^ 48
   ·simp only[hbig,if_true];refine (Jb _).bind λρ₇ m m' l7 e=>?_;obtain rfl:m=m':=e;exact AY.bind (Q:=λ_ _ _=>False) (Bq (e:=.error _) trivial) λ_ _ _ _ e=>e.elim
   simp only[hbig,if_false];generalize (IntKind.i64.wrap q).toNat=n;have l56:=l5.trans l6;by_cases hn:sLen+n<=sCap
   ·simp only[pure_bind,hn,if_true];rcases hb4 l56 with hb|⟨c0,a0,hc0,rfl,rfl,rfl,rfl⟩
    ·refine AY.bind (vT (hz el hd) n size) λρ₇ c c' l7 hc=>?_;have hb:=hb.mono l7
     cases b with
     |none=>cases b' with
      |none=>exact λ_=>.flat rfl|some _=>exact hb.elim
     |some a=>cases b' with
      |none=>exact hb.elim|some a'=>
       have ha:RelA ρ₇ a a':=hb;exact (NP c.toList c'.toList 0 (ha.add _) (by simpa using hc)).bind λρ₈ _ _ l8 _=>λ_=>.slice (ha.mono l8)
    (obtain rfl:n=0:=by omega);simp only[mr,if_true,pure_bind];exact λ_=>.emp hc0
   simp only[pure_bind,hn,if_false]
   have key: ∀ρ₇,ρ₆.le ρ₇->AY T F N (QV F) (do
      let newCap <- choose (.appendCap (sLen+n) sCap el)
      askRoom (newCap*(<- I4 el).bytes)
      let old <- MP size sLen (.slice b sLen sCap);let new <- ABh el n size;let rest:=Nw (<- GY el).cells (newCap - (sLen+n))
      pure (.slice (AA (<- newRow el (old++new++rest))) (sLen+n) newCap):Sem AQ) ρ₇ (do
      let newCap <- choose (.appendCap (sLen+n) sCap el)
      askRoom (newCap*(<- I4 el).bytes)
      let old <- MP size sLen (.slice b' sLen sCap);let new <- ABh el n size;let rest:=Nw (<- GY el).cells (newCap - (sLen+n))
      pure (.slice (AA (<- newRow el (old++new++rest))) (sLen+n) newCap):Sem AQ):=by
    intro ρ₇ l7;refine (Jb _).bind λρ₈ nc nc' l8 e=>?_;obtain rfl:nc=nc':=e;refine (C9 el).bind λρ₉ i i' l9 e=>?_;obtain⟨rfl,_⟩:=e;refine (bD _).bind λρ₁₀ _ _ l10 _=>?_;have lt:=((((l56.trans l7).trans l8).trans l9).trans l10);refine (NR size sLen (hs4.mono lt) (λp hp=>by injection hp)).bind λρ₁₁ o o' l11 ho=>?_;refine (vT (hz el hd) n size).bind λρ₁₂ c c' l12 hc=>?_;refine (LD el (hz el hd)).bind λρ₁₃ z z' l13 e=>?_;obtain⟨rfl,hz⟩:=e;exact (Tm el (((ho.mono (l12.trans l13)).append (hc.mono l13)).append (VT hz _ _))).bind λ_ a a' _ ha=>λ_=>.slice ha
   have dead: ∀{ρ':Rn} {α β:Type} {Q:Rn->α->β->Prop} {f:Unit->Sem α} {f':Unit->Sem β} {m:String},AY T F N Q (Qw (.error m)>>=f) ρ' (Qw (.error m)>>=f'):=
    AY.bind (Q:=λ_ _ _=>False) (Bq (e:=.error _) trivial) λ_ _ _ _ e=>e.elim
   refine (C9 el).bind λρ₇ i i' l7 e=>?_;obtain⟨rfl,_⟩:=e;by_cases hov:((sLen+n:Nat):Int)>IntKind.i64.max
   ·simp only[hov,if_true];exact dead
   simp only[hov,if_false];refine (C9 el).bind λρ₈ j j' l8 e=>?_;obtain⟨rfl,_⟩:=e;by_cases hb2:tY (sLen+n) sCap*j.bytes>2 ^ 48
   ·simp only[hb2,if_true];exact dead
   simp only[hb2,if_false];exact key ρ₈ (l7.trans l8)
  cases s<;>first|exact λ_=>Ar|exact Ak rfl (hns _ _ _)
 |_=>exact λ_=>Ar
end
section
variable {p p':Array AQ}{d d':EL}{fb:Fb}{f:Bl}{b l l':Nat}{ev':DU->AQ}{x x':AQ}
def IC (fb:Fb) (G:Nat):DU->Bool
 | .tmp _=>true| .const v=>closed v| .global g=>decide (g<G)| .func f=>fb f && fb.v f
def zH (P:BM) (t:Am):DU->Bool
 | .const v=>KC P t v|_=>false
def UY (m:Nat):DU->Nat->Bool
 | .func _,_=>true|_,n=>decide (n<=m)
def KT (fb:Fb) (f:Bl) (n:Nat):Bool:=match fb.a f with|none=>true|some m=>n==m && decide (m<1000)
def Gs (P:BM) (fb:Fb) (G:Nat):Callee->Array Am->Array DU->Bool
 | .value (.func f),_,az=>(fb f && KT fb f az.size) || fb.e f| .value f,_,az=>fb.h && (IC fb G f && UY fb.m f az.size)| .invoke r name,_,_=>IC fb G r && RP P fb name
 | .builtin .append,ts,az=>(match ts.toList,az.toList with
  | [t,_],[_,_]=>(match P.underlying t with|some (.slice el)=>Ho P el|_=>true)
  |_,_=>false)
 | .builtin .len,ts,az=>(match ts.toList,az.toList with
  | [t],[_]=>(match P.underlying t with|some (.chan _ _)=>false|_=>true)
  |_,_=>false)
 | .builtin .max,_,_=>true| .builtin .min,_,_=>true
 | .builtin .delete,ts,az=>(match ts.toList,az.toList with
  | [t,_],[_,_]=>XN P t
  |_,_=>false)
 | .builtin .clear,ts,az=>(match ts.toList,az.toList with
  | [t],[_]=>(match P.underlying t with|some (.slice el)=>Ho P el|_=>false)
  |_,_=>false)
 |_,_,_=>false
def PD (c:Call):Array DU:=match c.callee with| .value (.func _)=>c.args|_=>c.operands
def opsOf:Op->Array DU
 | .call c| .defer c=>PD c|op=>op.operands
def WO (P:BM) (fb:Fb) (G:Nat) (op:Op):Bool:=
 (opsOf op).all (IC fb G) && match op with
 | .move _| .assign _| .pick _ _ _| .box _ _| .load _ _| .store _ _ _| .nilCheck _| .makeInterface _ _| .slice _ _ _ _ _| .fieldAddr _ _ _| .indexAddr _ _ _| .extract _ _| .panic _=>true| .alloc t=>Ho P t| .build t _=>Ho P t| .buildSlice t _ _=>(match P.underlying t with|some (.slice el)=>Ho P el|_=>true)
 | .binOp op t x y _=>if op== .eql || op== .neq then Hz P t || zH P t y || zH P t x else (match P.underlying t with|some .unsafePointer=>false|_=>true)
 | .unOp .not _ _=>true
 | .convert s d _=>(match P.underlying s,P.underlying d with
  |some (.slice e),AA .string=>(match P.underlying e with|some (.int .u8)=>true|_=>false)
  |some (.int _),AA (.int _)=>true|some .string,AA .string=>true
  |_,_=>false)
 | .makeFunc (.func f) _ _=>fb f && fb.v f| .lookup t _ _ _| .mapUpdate t _ _ _=>XN P t| .makeMap _ r=>r.isNone| .range _ _| .next _ _| .entry _| .index _ _ _=>true| .typeAssert _ _ a ok=> !ok || Ho P a| .call c=>Gs P fb G c.callee c.argTypes c.args| .defer c=>fb.d && (match c.callee with| .value (.func f)=>fb f && (fb.a f).isNone| .value f=>fb.h && UY fb.m f c.args.size|_=>false)
 |_=>false
inductive Jt (F:Fs) (ρ:Rn):Next->Next->Prop
 |value {v v':AQ}:BC F ρ v v'->Jt F ρ (.value v) (.value v')|skip:Jt F ρ .skip .skip|enter {f:Bl} {p p':Array AQ}:F f->F.a f p.size->F.dk f p->BB F ρ p p'->Jt F ρ (.enter f p) (.enter f p')|round {l l':Nat} {f:Bl} {p p':Array AQ} {a b:Code}:F.h->ρ.r l l'->BB F ρ p p'->F.r f->F.c a->F.c b->Jt F ρ (.round l f p a b) (.round l' f p' a b)|defer {d d':EL}:F.d->(∀g q,d.target=.fn (.func g) q->∀n,F.a g n)->I8 F ρ d d'->Jt F ρ (.defer d) (.defer d')|seq {p:Array AQ} {n:Next}:p.size<=F.m+2->(∃s k a b,ρ.q s k a b)->Jt F ρ (.enter F.z p) n
abbrev oD (F:Fs):Rn->Next->Next->Prop:=λρ=>Jt F ρ
section
variable {T:Twin} {F:Fs} {N:Nat} {ρ:Rn} {α β γ:Type}
theorem GI{s s':Sem AQ}(h:AY T F N (QV F) s ρ s'):AY T F N (oD F) (do pure (.value (<- s)):Sem Next) ρ (do pure (.value (<- s')):Sem Next):=
 h.bind λ_ _ _ _ hv=>λ_=>.value hv
theorem AEJ{s s':Sem Unit}(h:AY T F N Ef s ρ s'):AY T F N (oD F) (do s;pure .skip:Sem Next) ρ (do s';pure .skip:Sem Next):=
 h.bind λ_ _ _ _ _=>λ_=>.skip
structure Gt (T:Twin) (F:Fs) (N:Nat):Prop where
 z:(∃fn,T.v.funcs[F.z]? =AA fn/\fn.body.isNone=false/\(fn.name== "runtime.NumGoroutine")=false)/\∃fn,T.P.funcs[F.z]? =AA fn/\fn.body.isNone=false/\(fn.name== "runtime.NumGoroutine")=false
 v: ∀f,F f->∃fn,T.v.funcs[f]? =AA fn/\fn.body.isNone=false/\(fn.name== "runtime.NumGoroutine")=false
 a: ∀f,F f->∃fn,T.P.funcs[f]? =AA fn/\fn.body.isNone=false/\(fn.name== "runtime.NumGoroutine")=false
 va:F.h->∀f,F.v f->∀n,F.a f n
 za: ∀n,F.a F.z n
 dk: ∀f,(∀n,F.a f n)->∀p,F.dk f p
 e: ∀f,F.e f->∃fn,T.v.funcs[f]? =AA fn/\T.P.funcs[f]? =AA fn/\fn.body.isNone=true/\(fn.name== "runtime.NumGoroutine")=false/\(Extern.findNext fn).isNone=true/\
  match Extern.find fn with|some e=>KP T F N e|none=>(fn.name.endsWith ".init" && !fn.name.startsWith "(" && !fn.name.startsWith "gosem.")=false
 m0: ∀i,T.P.info? 0=AA i->i.methods.find? (·.name== "")=AB
theorem UZ(hB:Gt T F N)(hf:F f)(ha:F.a f p.size)(hd:F.dk f p)(hp:BB F ρ p p'):AY T F N (λρ a b=>Jt F ρ a b/\∀g p,a=.enter g p->g=f) (E8 f p) ρ (E8 f p'):=by
 obtain⟨fn,h1,h2,h3⟩:=hB.v f hf;obtain⟨fn',h1',h2',h3'⟩:=hB.a f hf;unfold E8;refine CU.bind λρ₁ a b l1 e=>?_;obtain⟨rfl,rfl⟩:=e;simp only[h1,h1',h2,h2',h3,h3',DC,if_false];exact λ_=>⟨.enter hf ha hd (hp.mono l1),λ_ _ e=>(by cases e;rfl)⟩
theorem bK(hB:Gt T F N)(hf:F.e f)(hp:BB F ρ p p'):AY T F N (oD F) (E8 f p) ρ (E8 f p'):=by
 obtain⟨fn,h1,h2,h3,h4,h5,h6⟩:=hB.e f hf;unfold E8;refine CU.bind λρ₁ a b l1 e=>?_;obtain⟨rfl,rfl⟩:=e;simp only[h1,h2,h3,h4,DC,if_false,if_true];(have h5:Extern.findNext fn=AB:=by simpa using h5);refine AY.bind (Q:=Ef) (λ_=>.inr ⟨rfl,Ar,rfl⟩) λρ₂ _ _ l2 _=>?_;simp only[h5]
 cases h7:Extern.find fn with
 |some e=>
  rw[h7] at h6;exact GI (h6 ((hp.mono l1).mono l2))
 |none=>
  rw[h7] at h6;simp only[h6,DC,if_false];exact λ_=>Ar
theorem kK(hB:Gt T F N)(hfb: ∀f,fb f=true->F f)(hfa: ∀f n,KT fb f n=true->F.a f n)(hfe: ∀f,fb.e f=true->F.e f){name:String}(hm:RP T.P fb name=true)(h:BC F ρ x x')(hp:BB F ρ p p'):
  AY T F N (oD F) (Pq x name p) ρ (Pq x' name p'):=by
 unfold Pq
 cases h with
 |flat hf=>cases x<;>first|exact λ_=>Ar|exact Bq (e:=.nilDeref) trivial|exact Ak (show false=true from hf) AV
 |iface hv=>
  simp only;refine CU.bind λρ₁ a b l1 e=>?_;obtain⟨rfl,rfl⟩:=e;refine (jK hm _ _ (hv.mono l1)).bind λρ₂ q q' l2 hq=>?_;obtain⟨f,r⟩:=q;obtain⟨f',r'⟩:=q';obtain⟨e1,h1,h2⟩:=hq;simp only at e1 h1 h2;subst e1;rcases h1 with h1|h1;exact (UZ hB (hfb _ h1.1) (hfa _ _ (by unfold KT;rw[h1.2])) (hB.dk _ (λn=>hfa _ _ (by unfold KT;rw[h1.2])) _) ((BB.one h2).append ((hp.mono l1).mono l2))).mono λ_ _ _ _ h=>h.1;exact bK hB (hfe _ h1) ((BB.one h2).append ((hp.mono l1).mono l2))
 |_=>exact λ_=>Ar
theorem zI(hB:Gt T F N)(hp:p.size<=F.m+2)(hq: ∃s k a b,ρ.q s k a b):AY T F N (λρ a b=>Jt F ρ a b/\∀g p,a=.enter g p->g=F.z) (E8 F.z p) ρ (E8 F.z p'):=by
 obtain⟨⟨fn,h1,h2,h3⟩,fn',h1',h2',h3'⟩:=hB.z;unfold E8;refine CU.bind λρ₁ a b l1 e=>?_;obtain⟨rfl,rfl⟩:=e;simp only[h1,h1',h2,h2',h3,h3',DC,if_false];obtain⟨s,k,x,y,hq⟩:=hq;exact λ_=>⟨.seq hp ⟨s,k,x,y,l1.q _ _ _ _ hq⟩,λ_ _ e=>(by cases e;rfl)⟩
theorem Y3(hh:F.h)(hva: ∀f,F.v f->∀n,F.a f n)(hza: ∀n,F.a F.z n)(h:BC F ρ x x')(hp:BB F ρ p p')(hs:(∃s n,x=Fz F.z s n)->p.size<=F.m):AY T F N (λρ d d'=>I8 F ρ d d'/\∀g q,d.target=.fn (.func g) q->∀n,F.a g n) (Pv x p) ρ (Pv x' p'):=by
 unfold Pv
 cases h with
 |flat hf=>cases x<;>first|exact λ_=>Ar|exact λ_=>⟨.mk .nil hp,λ_ _ e=>(by cases e)⟩|exact Ak (show false=true from hf) AV
 |func hf hv h1 h2 h3 h4=>exact λ_=>⟨.mk (.fn hf (hva _ hv) ⟨h3,h4⟩) (BB.append ⟨h1,h2⟩ hp),λ_ _ e=>(by cases e;exact hva _ hv)⟩|yield hl=>exact λ_=>⟨.mk (.yield hh hl) (by simpa using hp),λ_ _ e=>(by cases e)⟩|mf hx hm=>cases x'<;>first|exact Ak (show false=true from hm) AV|exact λ_=>⟨I8.dead hx hm hp,λ_ _ e=>(by cases e)⟩
 |seq hq=>exact λ_=>⟨.mk (.seq (by have:=hs ⟨_,_,rfl⟩;simpa using this) hq) (by simpa using hp),λ_ _ e=>(by cases e;exact hza)⟩|tok hc ht=>
  cases x'<;>first|exact Ak (show false=true from ht) AV|exact λ_=>Ar
 |_=>exact λ_=>Ar
theorem zJ(hh:F.h)(hva: ∀f,F.v f->∀n,F.a f n)(hza: ∀n,F.a F.z n)(h:BC F ρ x x')(hp:BB F ρ p p')(hs:(∃s n,x=Fz F.z s n)->p.size<=F.m):AY T F N (λρ=>I8 F ρ) (Pv x p) ρ (Pv x' p'):=
 (Y3 hh hva hza h hp hs).mono λ_ _ _ _ h=>h.1
theorem zK{ps:List (Tmp×AQ)}: ∀{ps':List (Tmp×AQ)} {p p':Array AQ},Ce (λq q'=>q.1=q'.1/\BC F ρ q.2 q'.2) ps ps'->BB F ρ p p'->
  BB F ρ (ps.foldl (λtmps (t,a)=>tmps.setIfInBounds t a) p) (ps'.foldl (λtmps (t,a)=>tmps.setIfInBounds t a) p'):=by
 induction ps with
 |nil=>intro ps' p p' h hp;cases h;exact hp
 |cons q ps ih=>
  intro ps' p p' h hp
  cases h with
  | @cons _ q' _ ps' h1 h2=>
   obtain⟨t,a⟩:=q;obtain⟨t',a'⟩:=q';obtain⟨e,hr⟩:=h1;simp only at e hr;subst e;simp only[V9];exact ih h2 (hp.set hr _)
theorem AHN{l:List Tmp}: ∀{p p':List AQ},BB F ρ p.toArray p'.toArray->Ce (λq q':Tmp×AQ=>q.1=q'.1/\BC F ρ q.2 q'.2) (l.zip p) (l.zip p'):=by
 induction l with
 |nil=>intro p p' _;simp only[List.zip_nil_left];exact .nil
 |cons t l ih=>
  intro p p' h
  cases p with
  |nil=>
   (have:p'=[]:=by have:=h.1;simp at this;exact fD.1 this.symm);subst this;simp only[List.zip_nil_right];exact .nil
  |cons v p=>
   cases p' with
   |nil=>have:=h.1;simp at this|cons v' p'=>
    simp only[List.zip_cons_cons];exact .cons ⟨rfl,h.2 0 v v' AV AV⟩ (ih ⟨by have:=h.1;simpa using this,λj x x' hx hx'=>h.2 (j+1) x x' (by simpa using hx) (by simpa using hx')⟩)
theorem OT(h:ρ.r l l'):AY T F N (λρ=>vN F ρ) (aV l) ρ (aV l'):=by
 unfold aV;refine AY.bind (Q:=λρ=>Gx F ρ) (λ_=>⟨h,λo o' ho=>ho⟩) λρ₁ o o' l1 ho=>?_
 cases ho with|loop hl=>exact λ_=>hl|_=>exact λ_=>Ar
theorem AEK(hh:F.h)(h:ρ.r l l')(hp:BB F ρ p p'):AY T F N (λρ a b=>Jt F ρ a b/\∀g p,a≠ .enter g p) (aW l p) ρ (aW l' p'):=by
 unfold aW;refine (OT h).bind λρ₁ r r' l1 hr=>?_;rw[hr.params,<- hp.1];by_cases hs:p.size≠r.params.size
 ·simp only[hs,if_true,ne_eq,not_false_eq_true];exact AY.bind (Q:=λ_ _ _=>False) (λ_=>Ar) λ_ _ _ _ e=>e.elim
 simp only[hs,if_false];rw[hr.fn,hr.assign,hr.body];refine λ_=>⟨.round hh (l1.r _ _ h) ?_ hr.okF hr.okA hr.okB,λ_ _ e=>(by cases e)⟩;have:=zK (F:=F) (ρ:=ρ₁) (AHN (F:=F) (l:=r.params.toList) (p:=p.toList) (p':=p'.toList) (by simpa using hp.mono l1)) hr.tmps;rw[<- yG,<- yG,Array.toList_zip,Array.toList_zip];exact this
theorem AEL(h0: ∀i,T.P.info? 0=AA i->i.methods.find? (·.name== "")=AB):CW T (do let d <- Pv (nP b) p;invoke d.target d.args:Sem Next):=by
 show CW T (invoke (.fn (.method "") #[]) (#[.iface 0 (.chan (AA b))]++p));(have e:(#[Value.iface 0 (.chan (AA b))]++p)[0]? =AA (.iface 0 (.chan (AA b))):=by rw[nI AV];rfl);unfold invoke;simp only[e];unfold Pq;simp only
 have e2: ∀n,CW T (method n 0 (.chan (AA b)) ""):=by
  intro n
  cases n with
  |zero=>exact Ar|succ n=>
   rw[method];show CW T ((match T.P.info? 0 with|some d=>pure d|none=>stuck "no such type" :Sem Qv).bind _)
   cases h:T.P.info? 0 with
   |none=>exact Ar|some i=>
    simp only[pure,JZ,h0 i h];exact Ar
 exact (e2 _).bind
theorem AEM(h0: ∀i,T.P.info? 0=AA i->i.methods.find? (·.name== "")=AB):CW T (invoke (ZR (nP b) p).target (ZR (nP b) p).args):=AEL h0
theorem XQ(hB:Gt T F N)(h:I8 F ρ d d'):AY T F N (λρ a b=>Jt F ρ a b/\∀g p,a=.enter g p->∃q,d.target=.fn (.func g) q) (invoke d.target d.args) ρ (invoke d'.target d'.args):=by
 cases h with|dead h1 h2 h3=>exact Rk (AEM hB.m0) _|mk h hp=>
 obtain⟨t,p⟩:=d;obtain⟨t',p'⟩:=d';simp only at h hp
 cases h with|nil=>exact Bq (e:=.nilDeref) trivial|fn hf ha hq=>exact (UZ hB hf (ha _) (hB.dk _ ha _) (hp.append hq)).mono λ_ _ _ _ h=>⟨h.1,λg p e=>by rw[h.2 g p e];exact⟨_,rfl⟩⟩|yield hh hl=>exact (AEK hh hl hp).mono λ_ _ _ _ h=>⟨h.1,λg p e=>Ak e (h.2 g p)⟩|seq hm hq=>exact (zI hB (by simp only[nJ,Iq,EY,Hg];omega) ⟨_,_,_,_,hq⟩).mono λ_ _ _ _ h=>⟨h.1,λg p e=>by rw[h.2 g p e];exact⟨_,rfl⟩⟩|collected hb=>exact λ_=>Ar
theorem Y4(hB:Gt T F N)(h:I8 F ρ d d'):AY T F N (oD F) (invoke d.target d.args) ρ (invoke d'.target d'.args):=(XQ hB h).mono λ_ _ _ _ h=>h.1
theorem Uw(hB:Gt T F N)(hh:F.h)(h:BC F ρ x x')(hp:BB F ρ p p')(hs:(∃s n,x=Fz F.z s n)->p.size<=F.m):
  AY T F N (oD F) (do let d <- Pv x p;invoke d.target d.args:Sem Next) ρ (do let d <- Pv x' p';invoke d.target d.args):=by
 exact (zJ hh (hB.va hh) hB.za h hp hs).bind λ_ _ _ _ hd=>Y4 hB hd
def Qi (F:Fs) (ρ:Rn) (fb:Fb) (G:Nat) (ev ev':DU->AQ):Prop:=∀x,IC fb G x=true->BC F ρ (ev x) (ev' x)
theorem Qi.map{fb:Fb}{G:Nat}{ev ev':DU->AQ}(h:Qi F ρ fb G ev ev'){l:Array DU}(hl:l.all (IC fb G)=true):BB F ρ (l.map ev) (l.map ev'):=
 BB.map λx hx=>h x (VM.1 hl x hx)
theorem Qi.opt{G:Nat}{ev:DU->AQ}(h:Qi F ρ fb G ev ev'){o:Option DU}(hl:o.toArray.all (IC fb G)=true):QO F ρ (o.map ev) (o.map ev'):=by
 cases o with|none=>trivial|some x=>exact h x (by simpa using hl)
theorem Qi.parts{G:Nat}{ev:DU->AQ}(h:Qi F ρ fb G ev ev'): ∀{l:List (Nat×DU)},(∀q∈l,IC fb G q.2=true)->
  QP F ρ (l.map λq=>(q.1,ev q.2)) (l.map λq=>(q.1,ev' q.2)):=by
 intro l
 induction l with
 |nil=>intro _;exact .nil
 |cons q l ih=>
  intro hl;exact .cons ⟨rfl,h _ (hl q AV)⟩ (ih λx hx=>hl x (by simp[hx]))
theorem oG(l:List AQ): ∀{l':List AQ} {s:ByteArray},BB F ρ l.toArray l'.toArray->
  AY T F N Ef (forIn l s (λc s=>match c with| .int .u8 n=>pure (.yield (s.push (UInt8.ofNat n.toNat)))|_=>stuck "bytesToString: byte expected"):Sem ByteArray) ρ
   (forIn l' s (λc s=>match c with| .int .u8 n=>pure (.yield (s.push (UInt8.ofNat n.toNat)))|_=>stuck "bytesToString: byte expected"):Sem ByteArray):=by
 induction l with
 |nil=>
  intro l' s h;(have:l'=[]:=by have:=h.1;simp at this;exact fD.1 this.symm);subst this;simp only[List.forIn_nil];exact λ_=>rfl
 |cons v l ih=>
  intro l' s h
  cases l' with
  |nil=>have:=h.1;simp at this|cons v' l'=>
   simp only[ADy];have hv:BC F ρ v v':=h.2 0 v v' AV AV;have ht:BB F ρ l.toArray l'.toArray:=⟨by have:=h.1;simpa using this,λj x x' hx hx'=>h.2 (j+1) x x' (by simpa using hx) (by simpa using hx')⟩
   cases hv with
   |flat hf=>
    (cases v<;>first|exact λ_=>Ar|skip);rename_i k n;(cases k<;>first|exact λ_=>Ar|skip);simp only[pure_bind];exact ih ht
   |_=>exact λ_=>Ar
theorem ZX(h:BC F ρ x x'):AY T F N (QV F) (Px x) ρ (Px x'):=by
 unfold Px
 cases h with
 |flat hf=>
  (cases x<;>first|exact λ_=>Ar|skip);rename_i a n k
  cases a with|none=>exact λ_=>.flat rfl|some _=>exact Ak (show false=true from hf) AV
 |slice ha=>
  simp only;refine (SG ha _).bind λρ₁ p p' l1 hp=>?_;simp only[<- Array.forIn_toList];exact (oG p.toList (l':=p'.toList) (by simpa using hp)).bind λρ₂ a b _ e=>by obtain rfl:a=b:=e;exact λ_=>.flat rfl
 |emp _=>
  simp only[loadCells,Um];exact λ_=>.flat rfl
 |_=>exact λ_=>Ar
theorem zL{t u:Am} (hc:(match T.P.underlying t,T.P.underlying u with
  |some (.slice e),AA .string=>(match T.P.underlying e with|some (.int .u8)=>true|_=>false)
  |some (.int _),AA (.int _)=>true|some .string,AA .string=>true
  |_,_=>false)=true) {x x':AQ} (h:BC F ρ x x'):AY T F N (QV F) (convert t u x) ρ (convert t u x'):=by
 unfold convert;refine (BQ t).bind λρ₁ d d' l1 e=>?_;obtain⟨rfl,hd⟩:=e;refine (BQ u).bind λρ₂ f f' l2 e=>?_;obtain⟨rfl,hf⟩:=e;rw[hd,hf] at hc;have h:=(h.mono l1).mono l2;split at hc
 ·rename_i e1 e2;(cases e1;cases e2);rename_i e;split at hc
  ·rename_i he
   have key:AY T F N (QV F) (do match <- underlying e with
     | .int .u8=>Px x| .int .i32=>Conv.runesToString x
     |_=>stuck "Convert: a slice of what to string?" :Sem AQ) ρ₂ (do match <- underlying e with
     | .int .u8=>Px x'| .int .i32=>Conv.runesToString x'
     |_=>stuck "Convert: a slice of what to string?"):=by
    refine (BQ e).bind λρ₃ g g' l3 q=>?_;obtain⟨rfl,hg⟩:=q;rw[he] at hg;(cases hg);exact ZX (h.mono l3)
   cases h with
   |flat hfl=>cases x<;>first|exact Ak (show false=true from hfl) AV|exact key|exact λ_=>Ar|exact λ_=>.flat rfl
   |tok hk ht=>
    cases x'<;>first|exact Ak (show false=true from ht) AV|exact key
   |mf hk hm=>cases x'<;>first|exact Ak (show false=true from hm) AV|exact key
   |_=>exact key
  cases hc
 ·rename_i e1 e2;cases e1;cases e2
  cases h with
  |flat hfl=>cases x<;>first|exact λ_=>.flat rfl|exact λ_=>Ar|exact Ak (show false=true from hfl) AV|(rename_i a;cases a<;>first|exact λ_=>Ar|exact Ak (show false=true from hfl) AV)
  |_=>exact λ_=>Ar
 ·rename_i e1 e2;cases e1;cases e2
  cases h with
  |flat hfl=>cases x<;>first|exact λ_=>.flat rfl|exact λ_=>Ar|exact Ak (show false=true from hfl) AV
  |_=>exact λ_=>Ar
 cases hc
end
end
section
variable {c:Call}{fb:Fb}{f:DU}{ev':DU->AQ}
section
variable {T:Twin} {F:Fs} {N:Nat} {ρ:Rn}
theorem bM{G:Nat}{ev:DU->AQ}(hev:Qi F ρ fb G ev ev')(e:c.callee=.value f)(hc:c.operands.all (IC fb G)=true)(ty:Am):
  BC F ρ (ev f) (ev' f)/\BB F ρ (c.args.map ev) (c.args.map ev')/\resolve ev c ty=Pv (ev f) (c.args.map ev)/\resolve ev' c ty=Pv (ev' f) (c.args.map ev'):=by
 unfold Call.operands at hc;rw[e] at hc;simp only[nK,DV] at hc;exact⟨hev f (by simpa using hc.1),hev.map hc.2,by unfold resolve;rw[e],by unfold resolve;rw[e]⟩
theorem CS{G:Nat}{az:Array DU}(h:az.all (IC fb G)=true){x:DU}(hx:x∈az):IC fb G x=true:=VM.1 h x hx
theorem AGA{ev:DU->AQ}(hfun: ∀g,ev (.func g)=.func (.func g) #[] #[]){n:Nat}{m:Nat}(h:UY m f n=true){z:Bl}:(∃s k,ev f=Fz z s k)->n<=m:=by
 rintro⟨s,k,e⟩
 cases f with|func g=>rw[hfun] at e;simp[Fz] at e|_=>simpa[UY] using h
theorem oH{G:Nat}{ev:DU->AQ}(hev:Qi F ρ fb G ev ev')(hfun: ∀g,ev (.func g)=.func (.func g) #[] #[])(hfun': ∀g,ev' (.func g)=.func (.func g) #[] #[]){g:Bl}(e:c.callee=.value (.func g))(hg:F g)(hga: ∀n,F.a g n)
  (hc:(PD c).all (IC fb G)=true) (ty:Am):AY T F N (λρ d d'=>I8 F ρ d d'/\d.target=.fn (.func g) #[]) (resolve ev c ty) ρ (resolve ev' c ty):=by
 unfold PD at hc;rw[e] at hc;have ha:=hev.map hc;(have e1:resolve ev c ty=pure {target:=.fn (.func g) #[],args:=#[]++c.args.map ev}:=by unfold resolve;rw[e];simp only[hfun];rfl);(have e2:resolve ev' c ty=pure {target:=.fn (.func g) #[],args:=#[]++c.args.map ev'}:=by unfold resolve;rw[e];simp only[hfun'];rfl);rw[e1,e2];exact λ_=>⟨.mk (.fn hg hga BB.nil) (BB.append BB.nil ha),rfl⟩
theorem bP(h: ∀g,c.callee≠ .value (.func g)):PD c=c.operands:=by
 unfold PD;split
 ·rename_i e;exact Ak e (h _)
 rfl
theorem AHO(hB:Gt T F N)(hN:T.P.globals.size<N){G:Nat}(hfb: ∀f,fb f=true->F f)(hfa: ∀f n,KT fb f n=true->F.a f n)(hfe: ∀f,fb.e f=true->F.e f)(hfh:fb.h=true->F.h)(hfm:fb.m<=F.m){ev:DU->AQ}(hev:Qi F ρ fb G ev ev')(hfun: ∀g,ev (.func g)=.func (.func g) #[] #[])(hfun': ∀g,ev' (.func g)=.func (.func g) #[] #[])(hdk: ∀g,c.callee=.value (.func g)->F.dk g (c.args.map ev))(ho:(PD c).all (IC fb G)=true)
  (hc:Gs T.P fb G c.callee c.argTypes c.args=true) (ty:Am):AY T F N (oD F) (do let d <- resolve ev c ty;invoke d.target d.args:Sem Next) ρ (do let d <- resolve ev' c ty;invoke d.target d.args):=by
 by_cases hst: ∃g,c.callee=.value (.func g)
 ·obtain⟨g,hst⟩:=hst;rw[hst] at hc;simp only[Gs,DV,XB] at hc;have ha:=hev.map (show c.args.all (IC fb G)=true by unfold PD at ho;rw[hst] at ho;exact ho);rcases hc with hc|hc
  ·(have e1:resolve ev c ty=pure {target:=.fn (.func g) #[],args:=#[]++c.args.map ev}:=by unfold resolve;rw[hst];simp only[hfun];rfl);(have e2:resolve ev' c ty=pure {target:=.fn (.func g) #[],args:=#[]++c.args.map ev'}:=by unfold resolve;rw[hst];simp only[hfun'];rfl);rw[e1,e2];(have e3: ∀q:Array AQ,#[]++q++ #[]=q:=λq=>by simp);refine AY.mono (Q:=λρ a b=>Jt F ρ a b/\∀h p,a=.enter h p->h=g) ?_ λ_ _ _ _ h=>h.1;show AY T F N _ (E8 g (#[]++c.args.map ev++ #[])) ρ (E8 g (#[]++c.args.map ev'++ #[]));rw[e3,e3];exact UZ hB (hfb _ hc.1) (by rw[yJ];exact hfa _ _ hc.2) (hdk g hst) ha
  (have e1:resolve ev c ty=pure {target:=.fn (.func g) #[],args:=#[]++c.args.map ev}:=by unfold resolve;rw[hst];simp only[hfun];rfl);(have e2:resolve ev' c ty=pure {target:=.fn (.func g) #[],args:=#[]++c.args.map ev'}:=by unfold resolve;rw[hst];simp only[hfun'];rfl);rw[e1,e2];exact bK hB (hfe _ hc) ((BB.append BB.nil ha).append BB.nil)
 rw[bP λg e=>hst ⟨g,e⟩] at ho
 cases hq:c.callee with
 |value f=>
  obtain⟨h1,h2,e1,e2⟩:=bM hev hq ho ty;rw[e1,e2];rw[hq] at hc
  have hc:fb.h=true/\UY fb.m f c.args.size=true:=by
   cases f with|func g=>exact Ak ⟨g,hq⟩ hst|_=>simp only[Gs,DV] at hc;exact⟨hc.1,hc.2.2⟩
  obtain⟨hh,hc⟩:=hc;exact Uw hB (hfh hh) h1 h2 (by rw[yJ];exact λh=>Cj (AGA hfun hc h) hfm)
 |invoke r name=>
  rw[hq] at hc;simp only[Gs,DV] at hc;have ho2:c.args.all (IC fb G)=true:=by unfold Call.operands at ho;rw[hq] at ho;simp only[nK,DV] at ho;exact ho.2
  have e1: ∀e:DU->AQ,(do let d <- resolve e c ty;invoke d.target d.args:Sem Next)=Pq (e r) name (c.args.map e):=by
   intro e;unfold resolve;rw[hq];simp only[pure_bind,invoke];have h0:(#[e r]++c.args.map e)[0]? =AA (e r):=by simp[AIl]
   have h1:(#[e r]++c.args.map e).extract 1 (#[e r]++c.args.map e).size=c.args.map e:=by
    apply ZM;intro i;rw[AIm];simp only[nJ,Iq,EY,Hg,Ky,yJ];by_cases hi:i<c.args.size
    ·rw[BU Aa,ZP AV];simp
    rw[BL Aa];rw[Kw,XD Aa];rfl
   rw[h0,h1]
  rw[e1,e1];exact kK hB hfb hfa hfe hc.2 (hev r hc.1) (hev.map ho2)
 |builtin b=>
  rw[hq] at hc;have ho2:c.args.all (IC fb G)=true:=by unfold Call.operands at ho;rw[hq] at ho;simp only[nK,DV] at ho;exact ho.2
  have e1: ∀e:DU->AQ,(do let d <- resolve e c ty;invoke d.target d.args:Sem Next)=builtin b c.argTypes ty (c.args.map fun| .const _=>true|_=>false) (c.args.map e):=by
   intro e;unfold resolve;rw[hq];rfl
  rw[e1,e1];have hm:=hev.map ho2;cases b<;>first|exact Ak (show false=true from hc) AV|skip
  ·
   simp only[Gs] at hc;generalize c.argTypes=ZY at hc⊢;generalize c.args=asA at hc ho2⊢;obtain⟨ts⟩:=ZY;obtain⟨az⟩:=asA;(rcases ts with _|⟨t,_|⟨xt,_|⟨_,_⟩⟩⟩<;>first|exact Ak (show false=true from hc) AV|skip);(rcases az with _|⟨s,_|⟨x,_|⟨_,_⟩⟩⟩<;>first|exact Ak (show false=true from hc) AV|skip);refine GI ?_;simp only[J9,BN,EG];(have hz: ∀el,T.P.underlying t=AA (.slice el)->Ho T.P el=true:=λel hel=>by simp only[hel] at hc;exact hc);by_cases hk: ∃k,T.P.underlying xt=AA (.int k);exact zG t xt ty hk hz (hev s (CS ho2 AV)) (hev x (CS ho2 AV));exact ABV t xt ty (λk h=>hk ⟨k,h⟩) hz (hev s (CS ho2 AV)) (hev x (CS ho2 AV))
  ·
   simp only[Gs] at hc;generalize c.argTypes=ZY at hc⊢;generalize c.args=asA at hc ho2⊢;obtain⟨ts⟩:=ZY;obtain⟨az⟩:=asA;(rcases ts with _|⟨t,_|⟨_,_⟩⟩<;>first|exact Ak (show false=true from hc) AV|skip);(rcases az with _|⟨x,_|⟨_,_⟩⟩<;>first|exact Ak (show false=true from hc) AV|skip);refine GI ?_;simp only[J9,BN,EG];simp only at hc
   cases hu:T.P.underlying t with
   |none=>rw[hu] at hc;exact Ak (show false=true from hc) AV|some d=>
    rw[hu] at hc;cases d<;>first|exact Ak (show false=true from hc) AV|exact AEI hu hc (hev x (CS ho2 AV))
  ·
   simp only[Gs] at hc;generalize c.argTypes=ZY at hc⊢;generalize c.args=asA at hc ho2⊢;obtain⟨ts⟩:=ZY;obtain⟨az⟩:=asA;(rcases ts with _|⟨t,_|⟨u,_|⟨_,_⟩⟩⟩<;>first|exact Ak (show false=true from hc) AV|skip);(rcases az with _|⟨x,_|⟨y,_|⟨_,_⟩⟩⟩<;>first|exact Ak (show false=true from hc) AV|skip);refine GI ?_;simp only[J9,BN,EG];exact ABg hN hc (hev x (CS ho2 AV)) (hev y (CS ho2 AV))
  ·
   simp only[Gs] at hc;generalize c.argTypes=ZY at hc⊢;generalize c.args=asA at hc ho2⊢;obtain⟨ts⟩:=ZY;obtain⟨az⟩:=asA;(rcases ts with _|⟨t,_|⟨_,_⟩⟩<;>first|exact Ak (show false=true from hc) AV|skip);(rcases az with _|⟨s,_|⟨_,_⟩⟩<;>first|exact Ak (show false=true from hc) AV|skip);refine GI ?_;simp only[J9,BN,EG];refine AIw t ty (λd e hd=>?_) (hev s (CS ho2 AV));simp only[hd] at hc;cases hc
  exact GI (AIx _ _ hm);exact GI (AIy _ _ hm)
theorem AEN{G:Nat}(hfm:fb.m<=F.m)(hh:F.h)(hva: ∀f,F.v f->∀n,F.a f n)(hza: ∀n,F.a F.z n){ev:DU->AQ}(hev:Qi F ρ fb G ev ev')(hfun: ∀g,ev (.func g)=.func (.func g) #[] #[])(ho:c.operands.all (IC fb G)=true)(hq:c.callee=.value f)(hw:UY fb.m f c.args.size=true)(ty:Am):
  AY T F N (λρ d d'=>I8 F ρ d d'/\∀g q,d.target=.fn (.func g) q->∀n,F.a g n) (resolve ev c ty) ρ (resolve ev' c ty):=by
 obtain⟨h1,h2,e1,e2⟩:=bM hev hq ho ty;rw[e1,e2];exact Y3 hh hva hza h1 h2 (by rw[yJ];exact λh=>Cj (AGA hfun hw h) hfm)
theorem ABi(hB:Gt T F N)(hN:T.P.globals.size<N){G:Nat}(hfb: ∀f,fb f=true->F f)(hfa: ∀f n,KT fb f n=true->F.a f n)(hfe: ∀f,fb.e f=true->F.e f)(hfh:fb.h=true->F.h)(hfm:fb.m<=F.m)(hval: ∀f,fb.v f=true->F.v f)(hlv:fb.d=true->F.d){ev:DU->AQ}(hev:Qi F ρ fb G ev ev')(hconst: ∀v,ev (.const v)=v)(hfun: ∀g,ev (.func g)=.func (.func g) #[] #[])(hfun': ∀g,ev' (.func g)=.func (.func g) #[] #[]){o:BX}(hdk: ∀c g,o.op=.call c->c.callee=.value (.func g)->F.dk g (c.args.map ev))(ho:WO T.P fb G o.op=true):
  AY T F N (oD F) (execOp ev o) ρ (execOp ev' o):=by
 unfold WO at ho;rw[DV] at ho;obtain⟨hops,ho⟩:=ho;unfold execOp;cases hop:o.op<;>rw[hop] at ho hops<;>simp only[opsOf,Op.operands] at hops<;>dsimp only at ho⊢ <;>first|exact Ak (show false=true from ho) AV|skip
 case move x=>exact λ_=>.value (hev x (CS hops AV))
 case assign x=>exact λ_=>.value (hev x (CS hops AV))
 case pick c a b=>
  have h1:=hev c (CS hops AV);have h2:=hev a (CS hops AV);have h3:=hev b (CS hops AV);refine (ABN h1).bind λρ₁ x y l e=>?_;obtain rfl:x=y:=e;(cases x);exact λ_=>.value (h3.mono l);exact λ_=>.value (h2.mono l)
 case alloc t=>exact GI (AD6 t ho)
 case box t x=>exact GI (AIv t (hev x (CS hops AV)))
 case build t ps=>
  refine GI (AD8 t ho ?_);rw[ZO,ZO];exact hev.parts λq hq=>CS hops (by simp;exact⟨q.1,ADz.2 hq⟩)
 case buildSlice t n ps=>
  refine GI (kF t n (λel hel=>by rw[hel] at ho;exact ho) ?_);rw[ZO,ZO];exact hev.parts λq hq=>CS hops (by simp;exact⟨q.1,ADz.2 hq⟩)
 case load t a=>exact GI (ABP t (hev a (CS hops AV)))
 case store t a x=>exact AEJ (yl t (hev a (CS hops AV)) (hev x (CS hops AV)))
 case nilCheck x=>exact uD hB.m0 (hev x (CS hops AV)) _ _ rfl rfl λ_ _ _ h=>.value h
 case binOp op t x y r=>
  have hx:=hev x (CS hops AV);have hy:=hev y (CS hops AV);refine GI ?_;by_cases hq:op=.eql\/op=.neq
  ·have hp:Hz T.P t=true\/KC T.P t (ev y)=true\/KC T.P t (ev x)=true:=by
    (have:(op==BinOp.eql || op==BinOp.neq)=true:=by rcases hq with rfl|rfl<;>rfl);rw[this,BU rfl,XB,XB] at ho
    have key: ∀z:DU,IC fb G z=true->zH T.P t z=true->KC T.P t (ev z)=true:=by
     intro z _ hn;(cases z<;>first|exact Ak (show false=true from hn) AV|skip);rw[hconst];exact hn
    rcases ho with (ho|ho)|ho;exact .inl ho;exact .inr (.inl (key y (CS hops AV) ho));exact .inr (.inr (key x (CS hops AV) ho))
   exact (bH op x y (λ_=>hp) hx hy).bind λρ₁ _ _ l _=>zB hN hq hp (hx.mono l) (hy.mono l)
  have hq':op≠ .eql/\op≠ .neq:=⟨λe=>hq (.inl e),λe=>hq (.inr e)⟩
  have ht:T.P.underlying t≠AA .unsafePointer:=by
   have:(op==BinOp.eql || op==BinOp.neq)=false:=by
    cases h:(op==BinOp.eql || op==BinOp.neq) with|false=>rfl|true=>rw[XB] at h;exact Ak (h.imp (λe=>by cases op<;>first|rfl|cases e) (λe=>by cases op<;>first|rfl|cases e)) hq
   rw[this] at ho;intro e;rw[e] at ho;exact Ak ho AV
  exact (bH op x y (λe=>Ak e hq) hx hy).bind λρ₁ _ _ l _=>AEC hN hq' ht (hx.mono l) (hy.mono l)
 case unOp op t x=>
  (cases op<;>first|exact Ak (show false=true from ho) AV|skip);refine GI ?_;have hx:=hev x (CS hops AV);generalize ev x=a at hx;generalize ev' x=a' at hx
  cases hx with
  |flat hf=>
   cases a<;>first|exact λ_=>.flat rfl|exact λ_=>Ar|exact Ak (show false=true from hf) AV
  |_=>exact λ_=>Ar
 case convert s d x=>exact GI (zL ho (hev x (CS hops AV)))
 case makeInterface t x=>exact GI (ZW t (hev x (CS hops AV)))
 case makeFunc fn p q=>
  (cases fn<;>first|exact Ak (show false=true from ho) AV|skip);rw[nK,DV] at hops;exact GI (uC _ (hfb _ (by simp only[DV] at ho;exact ho.1)) (hval _ (by simp only[DV] at ho;exact ho.2)) (hev.map hops.1) (hev.map hops.2))
 case slice t x lo hi mx=>
  simp only[nK,DV] at hops;obtain⟨⟨⟨h1,h2⟩,h3⟩,h4⟩:=hops;exact GI (yz t (hev x (CS h1 AV)) (hev.opt h2) (hev.opt h3) (hev.opt h4))
 case fieldAddr t x f=>exact GI (yt t (hev x (CS hops AV)) f)
 case indexAddr t x i=>exact GI (yu t (hev x (CS hops AV)) (hev i (CS hops AV)))
 case extract x i=>exact GI (yw (hev x (CS hops AV)) i)
 case call c=>exact AHO hB hN hfb hfa hfe hfh hfm hev hfun hfun' (λg h=>hdk c g (by first|assumption|rfl) h) hops ho _
 case defer c=>
  have hlx:F.d:=hlv (by simp only[DV] at ho;exact ho.1)
  replace ho:=(AIr.1 (show (fb.d && _)=true from ho)).2
  cases hq:c.callee with
  |value f=>
   by_cases hst: ∃g,f=.func g
   ·obtain⟨g,rfl⟩:=hst;rw[hq] at ho;simp only[DV] at ho;have hn: ∀n,F.a g n:=λn=>hfa _ _ (by unfold KT;rw[show fb.a g=AB by simpa using ho.2]);exact (oH hev hfun hfun' hq (hfb _ ho.1) hn hops _).bind λ_ _ _ _ h=>λ_=>.defer hlx (λg' q e=>by rw[h.2] at e;cases e;exact hn) h.1
   rw[bP λg e=>hst ⟨g,by rw[hq] at e;cases e;rfl⟩] at hops;rw[hq] at ho
   have ho:fb.h=true/\UY fb.m f c.args.size=true:=by
    cases f with|func g=>exact Ak ⟨g,rfl⟩ hst|_=>simpa only[DV] using ho
   exact (AEN hfm (hfh ho.1) (hB.va (hfh ho.1)) hB.za hev hfun hops hq ho.2 _).bind λ_ _ _ _ h=>λ_=>.defer hlx h.2 h.1
  |builtin b=>rw[hq] at ho;exact Ak (show false=true from ho) AV|invoke r n=>rw[hq] at ho;exact Ak (show false=true from ho) AV
 case panic x=>exact GI (AEA (hev x (CS hops AV)))
 case lookup t x k ok=>exact GI (ABd hN ho (hev x (CS hops AV)) (hev k (CS hops AV)) ok)
 case mapUpdate t m k x=>exact AEJ (oC hN ho (hev m (CS hops AV)) (hev k (CS hops AV)) (hev x (CS hops AV)))
 case makeMap t r=>
  cases r<;>first|exact Ak (show false=true from ho) AV|exact GI (zF t)
 case range t x=>exact GI (AED (hev x (CS hops AV)))
 case next it b=>exact GI (AHM (hev it (CS hops AV)) b o.type)
 case entry it=>exact GI (AEG (hev it (CS hops AV)))
 case index t x i=>exact GI (AEH (hev x (CS hops AV)) (hev i (CS hops AV)))
 case typeAssert x t a ok=>
  (cases ok);exact GI (fM hN (hev x (CS hops AV)) t a);exact GI (kJ (hev x (CS hops AV)) t a ho)
end
end
section
variable {ops:Array BX}{T p p':Array AQ}{fb:Fb}{f:AX}{z:Bl}{k k':List Item}{l l':Nat}{o o':Option Nat}
section
variable {T:Twin} {F:Fs} {N:Nat} {ρ:Rn}
theorem VX(h:ρ.r l l'){r r':Loop}(hr:vN F ρ r r'):AY T F N Ef (I5 l (.loop r)) ρ (I5 l' (.loop r')):=
 λ_=>⟨h,.loop hr,rfl,AV,rfl⟩
theorem kL(h:ρ.r l l'):AY T F N Ef (Yh l) ρ (Yh l'):=by
 unfold Yh;refine (OT h).bind λρ₁ r r' l1 hr=>?_;refine (VX (l1.r _ _ h) (r:={r with state:=.busy}) (r':={r' with state:=.busy}) ⟨rfl,hr.pending,hr.fn,hr.tmps,hr.params,hr.few,hr.assign,hr.body,hr.okF,hr.okA,hr.okB,hr.okJ,hr.defers⟩).bind λρ₂ _ _ l2 _=>?_;rw[hr.state];(cases r.state);exact λ_=>rfl;exact Bq (e:=.error _) trivial;exact Bq (e:=.error _) trivial;exact Bq (e:=.error _) trivial
theorem uO(h:ρ.r l l'){j:Option Code}(hj:(∃x,F.c x)->∀c,j=AA c->F.c c):AY T F N (QV F) (UM l j) ρ (UM l' j):=by
 unfold UM;refine (OT h).bind λρ₁ r r' l1 hr=>?_
 refine (VX (l1.r _ _ h) (r:={r with state:=if j.isNone then .ready else .done,pending:=j}) (r':={r' with state:=if j.isNone then .ready else .done,pending:=j})
  ⟨rfl,rfl,hr.fn,hr.tmps,hr.params,hr.few,hr.assign,hr.body,hr.okF,hr.okA,hr.okB,hj ⟨_,hr.okA⟩,hr.defers⟩).bind λρ₂ _ _ l2 _=>λ_=>.flat rfl
theorem zM(h:ρ.r l l'):AY T F N (λ_ j j'=>j=j'/\∀c,j=AA c->F.c c) (Instr.endLoop l) ρ (Instr.endLoop l'):=by
 unfold Instr.endLoop;refine (OT h).bind λρ₁ r r' l1 hr=>?_
 have key:AY T F N (λ_ j j'=>j=j'/\∀c,j=AA c->F.c c) (do I5 l (.loop {r with state:=.exhausted});pure r.pending:Sem (Option Code)) ρ₁ (do I5 l' (.loop {r' with state:=.exhausted});pure r'.pending):=
  (VX (l1.r _ _ h) (r:={r with state:=.exhausted}) (r':={r' with state:=.exhausted}) ⟨rfl,hr.pending,hr.fn,hr.tmps,hr.params,hr.few,hr.assign,hr.body,hr.okF,hr.okA,hr.okB,hr.okJ,hr.defers⟩).bind
   λρ₂ _ _ l2 _=>λ_=>⟨hr.pending.symm,hr.okJ⟩
 rw[hr.state];by_cases hb:(r.state== .busy)=true
 ·simp only[hb,if_true];exact AY.bind (Q:=λ_ _ _=>False) (Bq (e:=.error _) trivial) λ_ _ _ _ e=>e.elim
 simp only[hb,if_false,DC];exact key
theorem oI(f:Bl)(hF:F.r f)(hp:BB F ρ p p')(ps:Array Tmp)(hps:ps.size<=2){a b:Code}(ha:F.c a)(hb:F.c b)(ho:match o,o' with|none,AB=>True|some l,AA l'=>ρ.r l l'|_,_=>False):
  AY T F N (λρ (x y:Nat×List EL)=>ρ.r x.1 y.1/\Ce (I8 F ρ) x.2 y.2/\∀d∈x.2,∃b,d.target=.collected b) (WE f p ps a b o) ρ (WE f p' ps a b o'):=by
 cases o<;>cases o'<;>first|exact ho.elim|skip
 ·have e: ∀t:Array AQ,WE f t ps a b AB=(newObj (.deferred (AA []))>>=λr=>newObj (.loop {state:=.ready,pending:=AB,fn:=f,tmps:=t,params:=ps,assign:=a,body:=b,defers:=r})>>=λl=>pure (l,[{target:=.collected r,args:=#[]}]):Sem (Nat×List EL)):=λ_=>rfl;rw[e,e];refine AY.bind (Q:=λρ (x y:Nat)=>ρ.r x y) (λ_=>.inr ⟨.deferred,λn n' _=>.inr ⟨rfl,rfl⟩⟩) λρ₁ x y l1 hx=>?_;refine AY.bind (Q:=λρ (x y:Nat)=>ρ.r x y) (λ_=>.inr ⟨.loop ⟨rfl,rfl,rfl,hp.mono l1,rfl,hps,rfl,rfl,hF,ha,hb,λj hj=>(by cases hj),hx⟩,λn n' _=>.inr ⟨rfl,rfl⟩⟩) λρ₂ x' y' l2 hxy=>λ_=>⟨hxy,?_,λd hd=>⟨x,by simp only[CB] at hd;rw[hd]⟩⟩;exact .cons (.mk (.collected (l2.r _ _ hx)) BB.nil) .nil
 rename_i l l';have e: ∀(t:Array AQ) (l:Nat),WE f t ps a b (AA l)=(aV l>>=λr=>newObj (.loop {state:=.ready,pending:=AB,fn:=f,tmps:=t,params:=ps,assign:=a,body:=b,defers:=r.defers})>>=λl=>pure (l,[]):Sem (Nat×List EL)):=λ_ _=>rfl;rw[e,e];refine (OT ho).bind λρ₁ r r' l1 hr=>?_;refine AY.bind (Q:=λρ (x y:Nat)=>ρ.r x y) (λ_=>.inr ⟨.loop ⟨rfl,rfl,rfl,hp.mono l1,rfl,hps,rfl,rfl,hF,ha,hb,λj hj=>(by cases hj),hr.defers⟩,λn n' _=>.inr ⟨rfl,rfl⟩⟩) λρ₂ x' y' l2 hxy=>λ_=>⟨hxy,.nil,λd hd=>(by cases hd)⟩
theorem bQ{b b':Nat}(h:ρ.r b b'):AY T F N (λ_ x y=>x=[]/\y=[]) (mF b) ρ (mF b'):=by
 unfold mF;refine AY.bind (Q:=λρ=>Gx F ρ) (λ_=>⟨h,λo o' ho=>ho⟩) λρ₁ o o' l1 ho=>?_
 cases ho with
 |deferred=>
  refine AY.bind (Q:=Ef) (λ_=>⟨l1.r _ _ h,.Kz,rfl,AV,rfl⟩) λρ₂ _ _ l2 _=>λ_=>?_;exact⟨rfl,rfl⟩
 |_=>exact λ_=>Ar
theorem zN(fn:Func)(hp:BB F ρ p p'):AY T F N (QV F) (results fn p) ρ (results fn p'):=by
 unfold results
 have key: ∀(l:List ResultVar) {ρ:Rn},BB F ρ p p'->AY T F N (λρ (x y:List AQ)=>BB F ρ x.toArray y.toArray)
   (l.mapM (fun| .tmp t=>pure (p.getD t AU)| .cell a t=>do loadVar t (<- asAddr (p.getD a AU)):ResultVar->Sem AQ)) ρ
   (l.mapM (fun| .tmp t=>pure (p'.getD t AU)| .cell a t=>do loadVar t (<- asAddr (p'.getD a AU)):ResultVar->Sem AQ)):=by
  intro l
  induction l with
  |nil=>intro ρ _;rw[List.mapM_nil,List.mapM_nil];exact λ_=>BB.nil
  |cons r l ih=>
   intro ρ hp;rw[ADw,ADw];refine AY.bind (Q:=QV F) ?_ λρ₁ x y l1 hx=>?_
   ·cases r with
    |tmp t=>exact λ_=>hp.getD t|cell a t=>exact (jF (hp.getD a)).bind λρ₁ x y l1 hx=>OO t hx
   refine (ih (hp.mono l1)).bind λρ₂ xs ys l2 hxs=>λ_=>?_;refine⟨by have:=hxs.1;simpa using this,λi v v' h1 h2=>?_⟩
   cases i with|zero=>simp at h1 h2;subst h1 h2;exact hx.mono l2|succ i=>exact hxs.2 i v v' (by simpa using h1) (by simpa using h2)
 rw[ADv,ADv];refine AY.bind (Q:=λρ (x y:Array AQ)=>BB F ρ x y) ((key fn.results.toList hp).bind λρ₁ x y l1 h=>λ_=>h) λρ₁ x y l1 h=>λ_=>?_;show BC F ρ₁ (if h:x.size=1 then x[0] else .tuple x) (if h:y.size=1 then y[0] else .tuple y);by_cases h1:x.size=1
 ·have h2:y.size=1:=h.1▸h1;rw[dif_pos h1,dif_pos h2];exact h.2 0 _ _ (FZ Aa) (FZ Aa)
 have h2: ¬y.size=1:=h.1▸h1;rw[dif_neg h1,dif_neg h2];exact .tuple h.1 h.2
end
def VY (g:Option Bl):Op->Option Call
 | .call c=>(match c.callee with| .value (.func f)=>if g==AA f then AA c else AB|_=>AB)
 |_=>AB
def Ju (fb:Fb) (ops:Array BX) (j:Nat):Option Tmp:=match ops[j]? with
 |some o=>(match VY fb.ch o.op with|some _=>o.dst|none=>AB)
 |none=>AB
def P8 (fb:Fb) (ops:Array BX) (i:Nat):Option (Option Tmp):=match ops[i]? with
 |some o=>(match VY fb.cp o.op with|some c=>AA (match (c.args[0]? :Option DU) with|some (.tmp t)=>AA t|_=>AB)|none=>AB)
 |none=>AB
def fO (fb:Fb) (ops:Array BX):Bool:=(Fp ops.size).all λi=>match P8 fb ops i with
 |none=>true|some AB=>false
 |some (AA t)=>(match ops[i]? with|some o=>o.after.any (λe=>Yi .any e && (decide (e.on<i) && Ju fb ops e.on==AA t))|none=>false) &&
   (Fp ops.size).all (λj=>Ju fb ops j==AA t || (match ops[j]? with|some o=> !(o.dst==AA t)|none=>true))
def vU (z:Bl) (x:AQ):Prop:=x=AU\/∃s n,x=Fz z s n
def RG (fb:Fb) (z:Bl) (ops:Array BX) (rest:List Nat) (T:Array AQ):Prop:=
 ∀i t,P8 fb ops i=AA (AA t)->vU z (T.getD t AU)\/∀pre post,rest=pre++i::post->∃j∈pre,Ju fb ops j=AA t
theorem vV(h:fO fb ops=true){i:Nat}{t:Tmp}(hi:P8 fb ops i=AA (AA t)):
  (∃o,ops[i]? =AA o/\∃e∈o.after,Yi .any e=true/\e.on<i/\Ju fb ops e.on=AA t)/\∀j o,ops[j]? =AA o->Ju fb ops j=AA t\/o.dst≠AA t:=by
 have hlt:i<ops.size:=by
  unfold P8 at hi
  cases e:ops[i]? with|none=>rw[e] at hi;cases hi|some o=>exact (Dj.1 e).1
 have h1:=JD.1 h i (XA.2 hlt);simp only[hi,DV] at h1;obtain⟨h1,h2⟩:=h1;refine⟨?_,λj o ho=>?_⟩
 ·rw[FZ hlt] at h1⊢;obtain⟨e,he,h3⟩:=Array.any_eq_true'.1 h1;simp only[DV,decide_eq_true_eq,beq_iff_eq] at h3;exact⟨_,rfl,e,he,h3.1,h3.2.1,h3.2.2⟩
 have h3:=JD.1 h2 j (XA.2 (Dj.1 ho).1);rw[ho] at h3;simp only[XB,beq_iff_eq,ZQ,beq_eq_false_iff_ne] at h3;exact h3
theorem vW(h:fO fb ops=true){L:List Nat}(hL: ∀pre i post,L=pre++i::post->∀o,ops[i]? =AA o->∀e∈o.after,Yi .any e=true->e.on<i->e.on∈pre):RG fb z ops L T:=by
 intro i t hi;obtain⟨⟨o,ho,e,he,hb,hlt,hc⟩,_⟩:=vV h hi;exact .inr λpre post e1=>⟨e.on,hL pre i post e1 o ho e he hb hlt,hc⟩
theorem range_split{n:Nat}: ∀{pre:List Nat} {i:Nat} {post:List Nat},Fp n=pre++i::post->∀j,j<i->j∈pre:=by
 intro pre i post e j hj;have hlen:(Fp n).length=n:=List.length_range;have hp:pre.length<n:=by rw[e] at hlen;simp at hlen;omega
 have hi:i=pre.length:=by
  (have h1:(Fp n)[pre.length]? =AA i:=by rw[e];simp);rw[AIs hp] at h1;exact (EF h1).symm
 have h2:(Fp n)[j]? =AA j:=AIs Aa;rw[e,O6 Aa] at h2;exact Bi h2
theorem AMU{m:Region.Mode}: ∀(fuel t:Nat) (listed:Array Bool) (acc:List Nat),(∀j,listed.getD j false=true->j∈acc)->
  ∃L,Yj m ops fuel t listed acc=acc.reverse++L/\∀pre i post,L=pre++i::post->∀o,ops[i]? =AA o->∀e∈o.after,Yi m e=true->e.on∈acc.reverse++pre:=by
 intro fuel
 induction fuel with
 |zero=>intro t listed acc h;exact⟨[],by simp[Yj],λpre i post e=>by simp at e⟩
 |succ fuel ih=>
  intro t listed acc h;unfold Yj;simp only;split
  ·rename_i i hi;have him:=Bi hi;rw[XE] at him;simp only[DV,ZQ] at him;obtain⟨_,hl0,him⟩:=him
   obtain⟨L,h1,h2⟩:=ih (t/_) (listed.setIfInBounds i true) (i::acc) (λj hj=>by
    rw[Qz,ABL] at hj;by_cases hij:i=j;exact BF.2 (.inl hij.symm);rw[BL hij,<- Qz] at hj
    exact DD _ (h j hj))
   refine⟨i::L,by rw[h1];simp,λpre i' post e o ho ed hed hb=>?_⟩
   cases pre with
   |nil=>
    simp only[List.nil_append,Ir] at e;obtain⟨rfl,_⟩:=e;rw[ho] at him;simp only[Fj,Dx] at him;have h3:=VM.1 him ed hed;rw[hb] at h3;have:=h _ (by simpa using h3);simpa using this
   |cons a pre=>
    simp only[List.cons_append,Ir] at e;obtain⟨rfl,e⟩:=e;have:=h2 pre i' post e o ho ed hed hb;simpa using this
  exact⟨[],AV,λpre i post e=>by simp at e⟩
theorem zO(h:fO fb ops=true)(mixed:Bool)(t:Nat):RG fb z ops (Region.schedule mixed ops t) T:=by
 have key: ∀m t,RG fb z ops (Region.linearise m ops t) T:=λm t=>by
  obtain⟨L,h1,h2⟩:=AMU (m:=m) (ops:=ops) ops.size t (IM ops.size false) [] (λj hj=>by
   rw[Qz,AIn] at hj
   split at hj<;>simp at hj)
  refine vW h λpre i post e o ho ed hed hb _=>?_
  have e2:L=pre++i::post:=by
   rw[<- e];show L=Yj m ops ops.size t (IM ops.size false) [];rw[h1];rfl
  have:=h2 pre i post e2 o ho ed hed (by
   unfold Yi at hb⊢
   cases hg:ed.ground with|textOnly _=>rw[hg] at hb;cases hb|gcOnly _=>rw[hg] at hb;cases hb|_=>rfl)
  simpa using this
 unfold Region.schedule;split;exact key _ _;exact key _ _
theorem RG.step{fb:Fb}{z:Bl}{ops:Array BX}{a:Nat}{rest:List Nat}{T:Array AQ}(h:RG fb z ops (a::rest) T)(hok:fO fb ops=true){x:AQ}(hx:Ju fb ops a=AB\/vU z x):
  RG fb z ops rest (match (ops[a]?).bind (·.dst) with|none=>T|some d=>T.setIfInBounds d x):=by
 intro i t hi;obtain⟨_,hd⟩:=vV hok hi;by_cases hc:Ju fb ops a=AA t
 ·left;have hs:vU z x:=hx.elim (λe=>by rw[hc] at e;cases e) id
  have hdst:(ops[a]?).bind (·.dst)=AA t:=by
   unfold Ju at hc
   cases e:ops[a]? with
   |none=>rw[e] at hc;cases hc|some o=>
    rw[e] at hc;simp only at hc;split at hc;exact hc;cases hc
  simp only[hdst];rw[Qz,ABL];simp only[if_true];split;exact hs;exact .inl rfl
 have e:(match (ops[a]?).bind (·.dst) with|none=>T|some d=>T.setIfInBounds d x).getD t AU=T.getD t AU:=by
  cases e:ops[a]? with
  |none=>rfl|some o=>
   have:=(hd a o e).resolve_left hc;simp only[Option.bind_some]
   cases e2:o.dst with
   |none=>rfl|some d=>
    simp only;rw[Qz,Qz,Dz (λe3=>this (by rw[e2,e3]))]
 rw[e];rcases h i t hi with h1|h1;exact .inl h1;refine .inr λpre post e3=>?_;obtain⟨j,hj,hjc⟩:=h1 (a::pre) post (by rw[e3];rfl);rcases BF.1 hj with rfl|hj;exact Ak hjc hc;exact⟨j,hj,hjc⟩
def Ja (P:BM) (fb:Fb) (G:Nat) (d r:Bool):Code->Bool
 | .skip| .exit _| .label _| .goto _| .ret=>true| .region _ ops _=>(ops.all λo=>WO P fb G o.op && (d || !(match o.op with| .defer _=>true|_=>false))) && fO fb ops
 | .seq a b=>Ja P fb G d r a && Ja P fb G d r b| .cond c a b=>IC fb G c && Ja P fb G d r a && Ja P fb G d r b| .block _ c| .loop c| .scope c=>Ja P fb G d r c| .rangeFunc f ps a b=>((fb.l && r) && fb.h) && (IC fb G f && decide (1<=fb.m)) && decide (ps.size<=2) && Ja P Fb.small G false false a && Ja P Fb.small G false false b| .refuse _=>true
structure Kit where
 P:BM
 fb:Fb
 G:Nat
 X:Bl->Bool
 z:Bl
 p:Prop:=False
abbrev Kit.F (K:Kit):Fs:={f:=λf=>K.fb f=true,v:=λf=>K.fb.v f=true,c:=λc=>Ja K.P Fb.small K.G false false c=true/\K.fb.l=true,r:=λf=>K.fb.lr f=true/\K.fb.l=true,z:=K.z,m:=K.fb.m,a:=λf n=>KT K.fb f n=true,d:=K.fb.d=true,p:=K.p,e:=λf=>K.fb.e f=true,h:=K.fb.h=true,dk:=λf p=>K.fb.cp=AA f->∀x,p[0]? =AA x->vU K.z x}
inductive LG (K:Kit) (d r:Bool) (ρ:Rn):Item->Item->Prop
 |code {c:Code}:Ja K.P K.fb K.G d r c=true->LG K d r ρ (.code c) (.code c)|inBlock {n:Nat}:LG K d r ρ (.inBlock n) (.inBlock n)|inLoop {c:Code}:Ja K.P K.fb K.G d r c=true->LG K d r ρ (.inLoop c) (.inLoop c)|inScope {c:Code}:Ja K.P K.fb K.G d r c=true->LG K d r ρ (.inScope c) (.inScope c)|inRegion {ops:Array BX} {l:List Nat}:Ja K.P K.fb K.G d r (.region 0 ops false)=true->LG K d r ρ (.inRegion ops l) (.inRegion ops l)|inRangeFunc {l l':Nat}:ρ.r l l'->LG K d r ρ (.inRangeFunc l) (.inRangeFunc l')|endRangeFunc {l l':Nat}:ρ.r l l'->LG K d r ρ (.endRangeFunc l) (.endRangeFunc l')|beginRound:LG K d r ρ .beginRound .beginRound
structure jM (F:Fs) (ρ:Rn) (e e':NU):Prop where
 v:BC F ρ e.v e'.v
 r:e'.recovered=e.recovered
 g:e.goexit=false/\e'.goexit=false
 u:e.recovered=false
inductive jO (F:Fs) (ρ:Rn):FrameMode->FrameMode->Prop
 |run:jO F ρ .run .run|returning:jO F ρ .returning .returning|panicking {c c':List NU}:Ce (jM F ρ) c c'->jO F ρ (.panicking c) (.panicking c')
def zQ (ρ:Rn):Option Nat->Option Nat->Prop
 |none,AB=>True|some l,AA l'=>ρ.r l l'|_,_=>False
def JO (l:List Item):Prop:=∀ops r,Item.inRegion ops r∉l
def RGf (K:Kit) (f:AX):Prop:=JO f.todo.tail/\(f.mode=.run->∀ops rest k,f.todo=.inRegion ops rest::k->RG K.fb K.z ops rest f.tmps)
def NC (K:Kit) (f:AX):Prop:=f.mode=.run->∀ops a rest k,f.todo=.inRegion ops (a::rest)::k->Ju K.fb ops a=AB
theorem RGf.plain{K:Kit}(h:JO f.todo):RGf K f:=⟨λops r hm=>h ops r (List.mem_of_mem_tail hm),λ_ ops rest k e=>Ak (by rw[e];exact Ee ..) (h ops rest)⟩
theorem JO.cons{i:Item}{l:List Item}(hi: ∀ops r,i≠ .inRegion ops r)(h:JO l):JO (i::l):=λops r hm=>(BF.1 hm).elim (λe=>hi ops r e.symm) (h ops r)
theorem JO.nil:JO []:=λ_ _ h=>by cases h
structure DI (K:Kit) (T:Twin) (ρ:Rn) (f f':AX):Prop where
 fn:f'.fn=f.fn
 ok:K.fb f.fn=true/\K.X f.fn=false
 tmps:BB K.F ρ f.tmps f'.tmps
 todo:Ce (LG K f.roundOf.isNone (K.fb.lr f.fn) ρ) f.todo f'.todo
 defers:Ce (I8 K.F ρ) f.defers f'.defers
 mode:jO K.F ρ f.mode f'.mode
 kind:f'.kind=f.kind/\(f.kind=.normal\/f.kind=.deferred)
 round:zQ ρ f.roundOf f'.roundOf
 nd: ∀d∈f.defers,(K.fb.l=true/\∃b,d.target=.collected b)\/(K.fb.d=true/\∀g q,d.target=.fn (.func g) q->∀n,K.F.a g n)
 rg:RGf K f
structure IX (K:Kit) (T:Twin) (ρ:Rn) (f f':AX):Prop where
 fr:DI K T ρ f f'
 nc:NC K f
section
variable {K:Kit} {T:Twin} {ρ ρ':Rn} {d r:Bool}
theorem LG.mono(h:ρ.le ρ'){i i':Item}(k:LG K d r ρ i i'):LG K d r ρ' i i':=by
 cases k with|code a=>exact .code a|inBlock=>exact .inBlock|inLoop a=>exact .inLoop a|inScope a=>exact .inScope a|inRegion a=>exact .inRegion a|inRangeFunc a=>exact .inRangeFunc (h.r _ _ a)|endRangeFunc a=>exact .endRangeFunc (h.r _ _ a)|beginRound=>exact .beginRound
theorem jO.mono{F:Fs}(h:ρ.le ρ'){i i':FrameMode}(k:jO F ρ i i'):jO F ρ' i i':=by
 cases k with|run=>exact .run|returning=>exact .returning|panicking a=>exact .panicking (CV (λ_ _ x=>⟨x.v.mono h,x.r,x.g,x.u⟩) a)
theorem zQ.mono(h:ρ.le ρ')(k:zQ ρ o o'):zQ ρ' o o':=by
 cases o<;>cases o'<;>first|exact k.elim|trivial|exact h.r _ _ k
theorem DI.mono(h:ρ.le ρ'){f f':AX}(k:DI K T ρ f f'):DI K T ρ' f f':=
 ⟨k.fn,k.ok,k.tmps.mono h,CV (λ_ _ x=>x.mono h) k.todo,CV (λ_ _ x=>x.mono' (.refl _) h) k.defers,k.mode.mono h,k.kind,k.round.mono h,k.nd,k.rg⟩
theorem IX.mono(h:ρ.le ρ'){f f':AX}(k:IX K T ρ f f'):IX K T ρ' f f':=⟨k.fr.mono h,k.nc⟩
theorem DI.ev{f':AX}(k:DI K T ρ f f')(hG: ∀g,g<K.G->ρ.r g g):Qi K.F ρ K.fb K.G f.eval f'.eval:=by
 intro x hx
 cases x with|tmp t=>exact k.tmps.getD t|const v=>exact jE hx|global g=>exact .ptr ⟨hG g (by simpa[IC] using hx),rfl,rfl⟩|func f=>exact .func (by simp only[IC,DV] at hx;exact hx.1) (by simp only[IC,DV] at hx;exact hx.2) rfl (λi v v' h=>by simp at h) rfl (λi v v' h=>by simp at h)
theorem LG.findLabel{c:Code}: ∀{l:Nat} {q:Code},Ja K.P K.fb K.G d r c=true->Go.findLabel c l=AA q->Ja K.P K.fb K.G d r q=true:=by
 induction c with
 |seq a b iha ihb=>
  intro l q h e;simp only[Ja,DV] at h;simp only[Go.findLabel] at e;split at e
  ·rename_i x hx;(cases e);simp only[Ja,DV];exact⟨iha h.1 hx,h.2⟩
  exact ihb h.2 e
 |label l'=>
  intro l q h e;simp only[Go.findLabel] at e;split at e;(cases e;rfl);cases e
 |_=>intro l q h e;simp[Go.findLabel] at e
theorem zS{id:Nat}(h:Ce (LG K d r ρ) k k'):match exitTo id k,exitTo id k' with
  |none,AB=>True|some a,AA b=>Ce (LG K d r ρ) a b|_,_=>False:=by
 induction h with
 |nil=>exact Ar|cons hi hl ih=>
  (cases hi<;>simp only[exitTo]<;>first|exact ih|skip);rename_i n;by_cases hn:(n==id)=true;simp only[hn,if_true];exact hl;simp only[hn,if_false,DC];exact ih
theorem zT{id:Nat}(h:Ce (LG K d r ρ) k k'):match gotoIn id k,gotoIn id k' with
  |none,AB=>True|some a,AA b=>Ce (LG K d r ρ) a b|_,_=>False:=by
 induction h with
 |nil=>exact Ar|cons hi hl ih=>
  (cases hi<;>simp only[gotoIn]<;>first|exact ih|skip);rename_i c hc
  cases hf:Go.findLabel c id with|none=>exact ih|some r=>exact .cons (.code (LG.findLabel hc hf)) (.cons (.inScope hc) hl)
theorem uP{id:Nat}: ∀{k l:List Item},JO k->exitTo id k=AA l->JO l:=by
 intro k
 induction k with
 |nil=>intro l _ e;cases e
 |cons i k ih=>
  intro l h e;have hk:JO k:=λops r hm=>h ops r (DD _ hm);(cases i<;>simp only[exitTo] at e<;>first|exact ih hk e|skip);split at e;(cases e;exact hk);exact ih hk e
theorem uQ{id:Nat}: ∀{k l:List Item},JO k->gotoIn id k=AA l->JO l:=by
 intro k
 induction k with
 |nil=>intro l _ e;cases e
 |cons i k ih=>
  intro l h e;have hk:JO k:=λops r hm=>h ops r (DD _ hm);(cases i<;>simp only[gotoIn] at e<;>first|exact ih hk e|skip);split at e;(cases e;exact .cons (λ_ _ e=>by cases e) (.cons (λ_ _ e=>by cases e) hk));exact ih hk e
end
end
section
variable {p p':Array AQ}{k:CallKind}{fb:Fb}{f f':AX}{ch:List NU}{P:BM}
section
variable {T:Twin} {F:Fs} {N:Nat} {ρ:Rn} {α β:Type} {v w:AL}
def Res (p:Prop) (F:Fs) (N:Nat) (Q:Rn->α->β->Prop) (ρ:Rn) (v w:AL) (r:Result α) (r':Result β×Array Be):Prop:=
 match r with| .ok a v'=>∃ρ' b w' u,r'=(.ok b w',u)/\Q ρ' a b/\Stp F N ρ ρ' v w v' w' u| .halt (.panic x) v'=>p\/∃ρ' x' w' u,r'=(.halt (.panic x') w',u)/\BC F ρ' x x'/\Stp F N ρ ρ' v w v' w' u| .halt h _=>Halt.still h
theorem AY.sound{Q:Rn->α->β->Prop}{s:Sem α}{s':Sem β}(h:AY T F N Q s ρ s')(hW:DF F N ρ v w)(ht:Tp v w ((Lc (s.run T.v v)).drawn - v.drawn)):
  Res T.p F N Q ρ v w (s.run T.v v) (s'.runT T.P w #[]):=by
 have:=(DT.sound (h hW.ok) hW).2 ht;unfold Out at this;unfold Res;generalize s.run T.v v=r at this⊢
 cases r with
 |ok a v'=>
  obtain⟨ρ',b,w',u,h1,h2,h3⟩:=this;exact⟨ρ',b,w',u,by have:=h1 #[];simpa using this,h2,h3⟩
 |halt x v'=>
  cases x with
  |panic x=>
   rcases this with this|⟨ρ',b,w',u,h1,h2,h3⟩;exact .inl this;exact .inr ⟨ρ',b,w',u,by have:=h1 #[];simpa using this,h2,h3⟩
  |_=>exact this
theorem AY.drawn{Q:Rn->α->β->Prop}{s:Sem α}{s':Sem β}(h:AY T F N Q s ρ s')(hW:DF F N ρ v w):v.drawn<=(Lc (s.run T.v v)).drawn:=(DT.sound (h hW.ok) hW).1
def tied (v w:AL):AL:={w with tape:=λi q=>v.tape (v.drawn+(i - w.drawn)) q}
theorem DF.tied(hW:DF F N ρ v w):DF F N ρ v (tied v w):=⟨hW.ok,hW.obj,hW.tok,hW.nv,hW.nw,hW.os,Ut hW.seq (Bd _) (λ_ _ _=>rfl) (λ_ _=>.inl) rfl⟩
theorem AY.sort{Q:Rn->α->β->Prop}{s:Sem α}{s':Sem β}(h:AY T F N Q s ρ s')(hW:DF F N ρ v w):
  match s.run T.v v with| .ok a _=>∃ρ' b,Q ρ' a b| .halt (.panic _) _=>True| .halt h _=>Halt.still h:=by
 have:=h.sound hW.tied (λi _ q=>by simp[Go.Proofs.YtkkgcebhfghdnaaGreatDoor.tied]);unfold Res at this;generalize s.run T.v v=r at this
 cases r with
 |ok a v'=>obtain⟨ρ',b,_,_,_,hq,_⟩:=this;exact⟨ρ',b,hq⟩
 |halt x v'=>cases x<;>first|trivial|exact this
theorem Dy{p:BM}{fn:Bl}{es:Array Be}{e:Be}(h:e∈seen p fn es):e∈es:=by
 unfold seen at h;obtain⟨l⟩:=es;simp only[Iq,List.foldl_toArray'] at h
 have key: ∀(l:List Be) (q:Bool) (kept:Array Be),e∈(l.foldl (λ(x:Bool×Array Be) e=>match e.loc with
   | .mark (.extern f)=>((p.funcs[f]?).any (·.norace),x.2)
   |_=>(x.1,if x.1 && !e.sync then x.2 else x.2.push e)) (q,kept)).2->e∈kept\/e∈l:=by
  intro l
  induction l with
  |nil=>intro q kept h;exact .inl h
  |cons a l ih=>
   intro q kept h;rw[V9] at h;rcases ih _ _ h with h1|h1
   ·split at h1;exact .inl h1;split at h1;exact .inl h1;rcases Array.mem_push.1 h1 with h2|h2;exact .inl h2;exact .inr (by simp[h2])
   exact .inr (by simp[h1])
 rcases key l _ #[] h with h1|h1;simp at h1;simpa using h1
theorem Stp.sub{ρ':Rn}{v' w':AL}{u u':Array Be}(h:Stp F N ρ ρ' v w v' w' u)(k: ∀e∈u',e∈u):Stp F N ρ ρ' v w v' w' u':=
 {h with evs:=λe he=>h.evs e (k e he)}
end
section
variable {K:Kit} {T:Twin} {ρ:Rn}
theorem DI.finish{f f':AX}(k:DI K T ρ f f'){x x':AQ}(hx:BC K.F ρ x x')(hs:NC K f\/vU K.z x):DI K T ρ (f.finish x) (f'.finish x'):=by
 have ht:=k.todo;unfold Frame.finish
 cases e:f.todo with
 |nil=>rw[e] at ht;cases e':f'.todo with
  |nil=>exact k|cons _ _=>rw[e'] at ht;cases ht
 |cons i l=>
  rw[e] at ht;have hnl:JO l:=by have:=k.rg.1;rw[e] at this;exact this
  cases e':f'.todo with
  |nil=>rw[e'] at ht;cases ht|cons i' l'=>
   rw[e'] at ht
   cases ht with
   |cons hi hl=>
    cases hi with
    | @inRegion ops todo ho=>
     cases todo with
     |nil=>exact k|cons j rest=>
      simp only;refine⟨k.fn,k.ok,?_,.cons (.inRegion ho) hl,k.defers,k.mode,k.kind,k.round,k.nd,hnl,λhm ops' rest' k' e2=>?_⟩
      ·cases (ops[j]?).bind (·.dst) with
       |none=>exact k.tmps|some d=>exact k.tmps.set hx d
      simp only[Ir,ABE] at e2;obtain⟨⟨rfl,rfl⟩,rfl⟩:=e2;have h1:=(k.rg.2 hm _ _ _ e).step (x:=x) (by have ho:=ho;simp only[Ja,DV] at ho;exact ho.2) (hs.imp (λh=>h hm _ _ _ _ e) id)
      cases hd:(ops[j]?).bind (·.dst) with|none=>rw[hd] at h1;exact h1|some d=>rw[hd] at h1;exact h1
    |inRangeFunc h=>exact⟨k.fn,k.ok,k.tmps,.cons (.endRangeFunc h) hl,k.defers,k.mode,k.kind,k.round,k.nd,.plain (.cons (λ_ _ e=>by cases e) hnl)⟩|beginRound=>exact⟨k.fn,k.ok,k.tmps,hl,k.defers,k.mode,k.kind,k.round,k.nd,.plain hnl⟩|_=>exact k
theorem DI.XR(k:DI K T ρ f f'){m m':FrameMode}(h:jO K.F ρ m m')(hm:m=.run->f.mode=.run:=by intro h;cases h):DI K T ρ {f with mode:=m} {f' with mode:=m'}:=
 ⟨k.fn,k.ok,k.tmps,k.todo,k.defers,h,k.kind,k.round,k.nd,k.rg.1,λh1=>k.rg.2 (hm h1)⟩
theorem DI.raise{f f':AX}(k:DI K T ρ f f'){c c':List NU}(h:Ce (jM K.F ρ) c c'):DI K T ρ (f.raise c) (f'.raise c'):=by
 have app: ∀{a a' b b':List NU},Ce (jM K.F ρ) a a'->Ce (jM K.F ρ) b b'->Ce (jM K.F ρ) (a++b) (a'++b'):=by
  intro a a' b b' ha hb
  induction ha with|nil=>exact hb|cons x _ ih=>exact .cons x ih
 have hm:=k.mode;unfold Frame.raise;generalize f.mode=m at hm;generalize f'.mode=m' at hm
 cases hm with|run=>exact k.XR (.panicking h)|returning=>exact k.XR (.panicking h)|panicking hc=>exact k.XR (.panicking (app h hc))
theorem DI.bT(k:DI K T ρ f f'){l l':List Item}(h:Ce (LG K f.roundOf.isNone (K.fb.lr f.fn) ρ) l l')(hr:RGf K {f with todo:=l}):DI K T ρ {f with todo:=l} {f' with todo:=l'}:=
 ⟨k.fn,k.ok,k.tmps,h,k.defers,k.mode,k.kind,k.round,k.nd,hr⟩
end
def Nj (ch:List NU):Prop:=∀e∈ch,e.recovered=false
theorem fP{F:Fs}{ρ:Rn}{c c':List NU}(h:Ce (jM F ρ) c c'):Nj c:=by
 induction h with
 |nil=>intro e he;cases he
 |cons hp _ ih=>
  intro e he;rcases BF.1 he with rfl|he;exact hp.u;exact ih e he
structure Gone (dr c:AX):Prop where
 run:dr.mode=.run->c=dr\/(∃x,c=dr.finish x)\/∃ch,c=dr.raise ch
 pan: ∀ch,dr.mode=.panicking ch->Nj ch->∃ch',c.mode=.panicking ch'/\Nj ch'
def lX (K:Kit) (N:Nat) (ρ:Rn) (v w:AL) (dr c:AX) (v1:AL) (cs':List AX) (r':GStep):Prop:=
 ∀c0' ABj,cs'=c0'::ABj->dr.mode=.run->c0'.mode=.run->
  (∃x x' ρ1 w1 es',c=dr.finish x/\r'=.go (G (c0'.finish x') ABj) w1 es'/\BC K.F ρ1 x x'/\Stp K.F N ρ ρ1 v w v1 w1 es')\/
  (∃ρ1 w1 es',c=dr/\r'=.go (G c0' ABj) w1 es'/\Stp K.F N ρ ρ1 v w v1 w1 es')\/∃ch,c=dr.raise ch/\Nj ch
theorem lX.after{K:Kit}{N:Nat}{ρ ρ':Rn}{v w v' w' v1:AL}{dr c:AX}{cs':List AX}{r':GStep}{u es:Array Be}(h:lX K N ρ' v' w' dr c v1 cs' r')(hst:Stp K.F N ρ ρ' v w v' w' u)(hW:DF K.F N ρ v w)(hs: ∀e∈es,e∈u):
  lX K N ρ v w dr c v1 cs' (DZ es r'):=by
 intro c0 cs0 e h1 h2
 have key: ∀{ρ1:Rn} {w1:AL} {es':Array Be},Stp K.F N ρ' ρ1 v' w' v1 w1 es'->Stp K.F N ρ ρ1 v w v1 w1 (es++es'):=λk=>
  {hst.trans k hW with evs:=λx hx=>(hst.trans k hW).evs x ((JM.1 hx).elim (λh=>JM.2 (.inl (hs _ h))) λh=>JM.2 (.inr h))}
 rcases h c0 cs0 e h1 h2 with ⟨x,x',ρ1,w1,es',a,b,c,d⟩|⟨ρ1,w1,es',a,b,c⟩|k
 ·exact .inl ⟨x,x',ρ1,w1,es++es',a,by rw[b];rfl,c,key d⟩
 ·exact .inr (.inl ⟨ρ1,w1,es++es',a,by rw[b];rfl,key c⟩)
 exact .inr (.inr k)
theorem zU(f:AX)(x:AQ):(f.finish x).mode=f.mode:=by
 unfold Frame.finish;split<;>rfl
theorem ZZ(f:AX){ch':List NU}(h:f.mode=.panicking ch)(h1:Nj ch)(h2:Nj ch'): ∃c,(f.raise ch').mode=.panicking c/\Nj c:=by
 refine⟨ch'++ch,by unfold Frame.raise;rw[h],λe he=>?_⟩;rcases Bj.1 he with he|he;exact h2 e he;exact h1 e he
section
variable {K:Kit} {T:Twin} {ρ:Rn}
theorem DI.AP5(h:DI K T ρ f f')(e:f.mode=.panicking ch):Nj ch:=by
 have hm:=h.mode;rw[e] at hm;generalize f'.mode=m at hm
 cases hm with|panicking hc=>exact fP hc
theorem Tt(h:DI K T ρ f f')(hu:Nj ch): ∃c,(f.raise ch).mode=.panicking c/\Nj c:=by
 cases e:f.mode with|panicking c=>exact ZZ f e (h.AP5 e) hu|run=>exact⟨ch,by unfold Frame.raise;rw[e],hu⟩|returning=>exact⟨ch,by unfold Frame.raise;rw[e],hu⟩
end
def TS (K:Kit) (T:Twin) (N:Nat) (ρ:Rn) (v w:AL) (dr:AX) (ds:List AX) (cs':List AX) (r r':GStep):Prop:=
 match r with
 | .go g1 v1 _=>
  (∃f1 Dl f1' G7 ρ1 w1 es',g1=G f1 (Dl++(dr::ds))/\r'=.go (G f1' (G7++cs')) w1 es'/\DI K T ρ1 f1 f1'/\Ce (IX K T ρ1) Dl G7/\Stp K.F N ρ ρ1 v w v1 w1 es')\/
  (∃X p p' k f1 Dl f1' G7 ρ1 w1 es',K.fb X=true/\(K.X X=true/\KT K.fb X p.size=true/\K.F.dk X p/\(K.fb.ch=AA X\/NC K f1))/\g1=G (Bc T.v X p k) (f1::(Dl++(dr::ds)))/\r'=.go (G (Bc T.P X p' k) (f1'::(G7++cs'))) w1 es'/\BB K.F ρ1 p p'/\
    DI K T ρ1 f1 f1'/\Ce (IX K T ρ1) Dl G7/\Stp K.F N ρ ρ1 v w v1 w1 es'/\k=.normal)\/
  (∃c,g1=G c ds/\Gone dr c/\lX K N ρ v w dr c v1 cs' r'/\v.drawn<=v1.drawn)\/
  (T.p/\v.drawn<=v1.drawn/\∃f1 Dl,g1=G f1 (Dl++(dr::ds))/\∃ch,f1.mode=.panicking ch/\Nj ch)\/
  (∃p k f1 Dl,(∃s n a b,ρ.q s n a b)/\p.size<=K.fb.m+2/\v.drawn<=v1.drawn/\g1=G (Bc T.v K.z p k) (f1::(Dl++(dr::ds))))
 | .ended _ _ _=>True|_=>False
structure Fits (K:Kit) (T:Twin) (N:Nat):Prop where
 ops: ∀op,WO K.P K.fb K.G op=WO T.P K.fb K.G op
 same: ∀f,K.fb f=true->K.X f=false->T.F[f]? =T.P.funcs[f]?
 bodies:Gt T K.F N
 N:T.P.globals.size<N
 body: ∀f fn,K.fb f=true->K.X f=false->T.P.funcs[f]? =AA fn->∀c,fn.body=AA c->Ja K.P K.fb K.G true (K.fb.lr f) c=true
 lr:K.fb.h=true->∀f,K.fb.lr f=true->K.fb f=true/\K.X f=false
 xa: ∀f,K.X f=true->¬ ∀n,K.F.a f n
 ch: ∀f,K.fb.ch=AA f->K.fb f=true/\K.X f=true
section
variable {K:Kit} {T:Twin} {N:Nat} {ρ:Rn} {v w:AL} {dr:AX} {ds cs':List AX}
theorem AGB(hK:Fits K T N){f:Bl}(h:K.fb f=true)(h':K.X f=false):T.v.funcs[f]? =T.P.funcs[f]? :=hK.same f h h'
theorem OU(hK:Fits K T N){f:Bl}(hf:K.fb f=true)(hX:K.X f=false)(hp:BB K.F ρ p p')(hk:k=.normal\/k=.deferred):
  DI K T ρ (Bc T.v f p k) (Bc T.P f p' k):=by
 obtain⟨fn,h1,h2,_⟩:=hK.bodies.a f hf;have h1':T.v.funcs[f]? =AA fn:=(AGB hK hf hX).trans h1
 obtain⟨c,hc⟩: ∃c,fn.body=AA c:=by
  cases h:fn.body with|none=>rw[h] at h2;cases h2|some c=>exact⟨c,rfl⟩
 have e: ∀(P:BM) (q:Array AQ),P.funcs[f]? =AA fn->Bc P f q k={fn:=f,tmps:=q++IM (fn.ntmps - q.size) AU,todo:=[.code c],defers:=[],mode:=.run,kind:=k}:=by
  intro P q h;unfold Bc;simp[h,hc]
 rw[e T.v p h1',e T.P p' h1];exact⟨rfl,⟨hf,hX⟩,by rw[<- hp.1];exact hp.append (BB.replicate .undef _),.cons (.code (hK.body f fn hf hX h1 c hc)) .nil,.nil,.run,⟨rfl,hk⟩,Ar,λ_ h=>(by cases h),.plain (.cons (λ_ _ e=>by cases e) .nil)⟩
theorem ABk{G:Nat}{op:Op}(h:WO P Fb.small G op=true):WO P fb G op=true:=by
 have hd: ∀x,IC Fb.small G x=true->IC fb G x=true:=λx hx=>by cases x<;>first|exact hx|cases hx
 have hm: ∀{name:String},RP P Fb.small name=true->RP P fb name=true:=λ{name} hx=>by
  unfold RP at hx⊢;rw[JD] at hx⊢;intro t ht;have h1:=hx t ht;split at h1
  ·split at h1
   ·exfalso;simp only[DV] at h1;obtain⟨_,h2⟩:=h1;split at h2;simp only[DV] at h2;cases h2.1;cases h2
   rfl
  rfl
 have hf: ∀{x:DU} {n:Nat},UY Fb.small.m x n=true->UY fb.m x n=true:=λ{x n} hx=>by
  cases x<;>first|rfl|(simp only[UY,decide_eq_true_eq] at hx⊢;exact Cj hx (DW _))
 have key: ∀{c:Call},Gs P Fb.small G c.callee c.argTypes c.args=true->Gs P fb G c.callee c.argTypes c.args=true:=λ{c} h2=>by
  generalize c.callee=q at h2⊢
  cases q with
  |value f=>
   cases f with|func g=>simp[Gs,Fb.small] at h2|_=>simp[Gs,Fb.small] at h2
  |invoke r name=>
   simp only[Gs,DV] at h2⊢;exact⟨hd _ h2.1,hm h2.2⟩
  |builtin b=>cases b<;>exact h2
 unfold WO at h⊢;rw[DV] at h⊢;refine⟨?_,?_⟩
 ·rw[VM] at h⊢;exact λx hx=>hd x (h.1 x hx)
 have h2:=h.2;clear h;cases op<;>first|exact h2|skip
 case unOp op t x=>cases op<;>first|exact h2|cases h2
 case makeFunc f _ _=>cases f<;>first|exact h2|cases h2
 case defer c=>simp[Fb.small] at h2
 case call c=>exact key h2
theorem Za{G:Nat}{d r:Bool}: ∀{c:Code},Ja P Fb.small G false false c=true->Ja P fb G d r c=true:=by
 intro c
 induction c with
 |region n ops dr=>
  intro h;simp only[Ja,VM,DV,XB] at h⊢;refine⟨λo ho=>⟨ABk (h.1 o ho).1,.inr ((h.1 o ho).2.resolve_left AV)⟩,?_⟩;refine JD.2 λi _=>?_
  have:P8 fb ops i=AB:=by
   unfold P8
   cases e:ops[i]? with
   |none=>rfl|some o=>
    simp only;have ho:=(h.1 o (mY e)).1
    have:VY fb.cp o.op=AB:=by
     unfold VY;split
     ·rename_i c hc;rw[hc] at ho;split
      ·rename_i f hf;exfalso;unfold WO at ho;simp only[hf,DV] at ho;have h2:=ho.2;simp[Gs,Fb.small] at h2
      rfl
     rfl
    rw[this]
  rw[this]
 |seq a b ia ib=>intro h;simp only[Ja,DV] at h⊢;exact⟨ia h.1,ib h.2⟩
 |cond c a b ia ib=>intro h;simp only[Ja,DV] at h⊢;exact⟨⟨(by have:=h.1.1;cases c<;>first|exact this|(cases this)),ia h.1.2⟩,ib h.2⟩
 |block n c ih=>exact ih|loop c ih=>exact ih|scope c ih=>exact ih|rangeFunc f ps a b _ _=>intro h;simp[Ja,Fb.small] at h
 |_=>intro _;rfl
theorem bU(hK:Fits K T N)(hh:K.F.h){l l':Nat}{g:Bl}{ca cb:Code}(hl:ρ.r l l')(hp:BB K.F ρ p p')(hg:K.F.r g)(ha:K.F.c ca)(hb:K.F.c cb)(hk:k=.normal\/k=.deferred):
  DI K T ρ (Frame.round l g p ca cb k) (Frame.round l' g p' ca cb k):=
 ⟨rfl,hK.lr hh _ hg.1,hp,.cons (.code (Za ha.1)) (.cons .beginRound (.cons (.code (Za hb.1)) .nil)),.nil,.run,⟨rfl,hk⟩,hl,λ_ h=>(by cases h),.plain (.cons (λ_ _ e=>by cases e) (.cons (λ_ _ e=>by cases e) (.cons (λ_ _ e=>by cases e) .nil)))⟩
theorem AHP(h:DI K T ρ f f'):(f.kind== .early)=false/\(f'.kind== .early)=false:=by
 rw[h.kind.1];rcases h.kind.2 with e|e<;>rw[e]<;>exact⟨rfl,rfl⟩
theorem VZ(hK:Fits K T N)(hW:DF K.F N ρ v w)(hf:DI K T ρ f f'){ts ts':List AX}(hts:Ce (IX K T ρ) ts ts'){s s':Sem Next}(hs:AY T K.F N (oD K.F) s ρ s')
  (hq:NC K f\/∃g p v',K.fb.ch=AA g/\s.run T.v v=.ok (.enter g p) v')
  (ht: ∀g1 v1 es,Hw T.v true f (ts++(dr::ds)) AB s v=.go g1 v1 es->Tp v w (v1.drawn - v.drawn)):
  TS K T N ρ v w dr ds cs' (Hw T.v true f (ts++(dr::ds)) AB s v) (Hw T.P true f' (ts'++cs') AB s' w):=by
 have hc:=hs.sort hW;have hr:Tp v w ((Lc (s.run T.v v)).drawn - v.drawn)->Res T.p K.F N (oD K.F) ρ v w (s.run T.v v) (s'.runT T.P w #[]):=λh=>hs.sound hW h;have k1:=AHP hf;unfold Hw at ht⊢;simp only[if_true,k1.1,k1.2,DC,if_false] at ht⊢;rw[Sem.runT_eq] at ht⊢;have hdr:=hs.drawn hW;generalize s.events T.v v #[]=eu at ht⊢;generalize s.run T.v v=r at hr hc ht hdr hq⊢;generalize s'.runT T.P w #[]=r' at hr⊢;have mono: ∀{ρ'},ρ.le ρ'->Ce (IX K T ρ') ts ts':=λl=>CV (λ_ _ x=>x.mono l) hts
 cases r with
 |ok n v'=>
  have hT:Tp v w (v'.drawn - v.drawn):=by
   obtain⟨ρ',b,hq⟩:=hc
   cases hq with|value _=>exact ht _ _ _ rfl|skip=>exact ht _ _ _ rfl|enter _ _ _ _=>exact ht _ _ _ rfl|round _ _ _ _ _ _=>exact ht _ _ _ rfl|defer _ _ _=>exact ht _ _ _ rfl|seq _ _=>exact ht _ _ _ rfl
  obtain⟨ρ',b,w',u,rfl,oJ,hst⟩:=hr hT;clear hr hc ht hT;have hsub:Stp K.F N ρ ρ' v w v' w' (seen T.P f'.fn u++ #[]):=hst.sub λe he=>by simp at he;exact Dy he
  have hnc:(∀g p,n=.enter g p->K.X g=false)->NC K f:=λh=>hq.elim id λ⟨g,p,u,h1,h2⟩=>by
   (cases h2);have:=h g p rfl;rw[(hK.ch g h1).2] at this;cases this
  have hcx: ∀g p,n=.enter g p->K.fb.ch=AA g\/NC K f:=λg p e=>hq.elim .inr λ⟨g',p',u,h1,h2⟩=>by
   rw[e] at h2;(cases h2);exact .inl h1
  clear hq
  cases oJ with
  |value hv=>exact .inl ⟨_,_,_,_,ρ',w',_,rfl,rfl,(hf.mono hst.le).finish hv (.inl (hnc λg p e=>by cases e)),mono hst.le,hsub⟩|skip=>exact .inl ⟨_,_,_,_,ρ',w',_,rfl,rfl,(hf.mono hst.le).finish .undef (.inr (.inl rfl)),mono hst.le,hsub⟩| @enter g p p' hg ha ASg hp=>
   by_cases hX:K.X g=true
   ·have fin:TS K T N ρ v w dr ds cs' (DZ (seen T.v f.fn eu) (.go {frame:=Bc T.v g p .normal,callers:=f::(ts++(dr::ds)),status:=.running,dying:=AB} v'))
      (DZ (seen T.P f'.fn u) (.go {frame:=Bc T.P g p' .normal,callers:=f'::(ts'++cs'),status:=.running,dying:=AB} w')):=
     .inr (.inl ⟨g,_,_,.normal,_,_,_,_,ρ',w',_,hg,⟨hX,ha,ASg,hcx g p rfl⟩,rfl,rfl,hp,hf.mono hst.le,mono hst.le,hsub,rfl⟩)
    have ht:=hf.todo;generalize f.todo=A at ht⊢;generalize f'.todo=B at ht⊢
    cases ht with|nil=>exact fin|cons hi _=>cases hi<;>exact fin
   have fin:TS K T N ρ v w dr ds cs' (DZ (seen T.v f.fn eu) (.go {frame:=Bc T.v g p .normal,callers:=f::(ts++(dr::ds)),status:=.running,dying:=AB} v'))
     (DZ (seen T.P f'.fn u) (.go {frame:=Bc T.P g p' .normal,callers:=f'::(ts'++cs'),status:=.running,dying:=AB} w')):=
    .inl ⟨_,f::ts,_,f'::ts',ρ',w',_,rfl,rfl,OU hK hg (by simpa using hX) hp (.inl rfl),.cons ⟨hf.mono hst.le,hnc λg' p' e=>by cases e;simpa using hX⟩ (mono hst.le),hsub⟩
   have ht:=hf.todo;generalize f.todo=A at ht⊢;generalize f'.todo=B at ht⊢
   cases ht with|nil=>exact fin|cons hi _=>cases hi<;>exact fin
  | @round l l' g p p' ca cb hh hl hp hg ha hb=>
   have fin:TS K T N ρ v w dr ds cs' (DZ (seen T.v f.fn eu) (.go {frame:=Frame.round l g p ca cb .normal,callers:=f::(ts++(dr::ds)),status:=.running,dying:=AB} v'))
     (DZ (seen T.P f'.fn u) (.go {frame:=Frame.round l' g p' ca cb .normal,callers:=f'::(ts'++cs'),status:=.running,dying:=AB} w')):=
    .inl ⟨_,f::ts,_,f'::ts',ρ',w',_,rfl,rfl,bU hK hh hl hp hg ha hb (.inl rfl),.cons ⟨hf.mono hst.le,hnc λg p e=>by cases e⟩ (mono hst.le),hsub⟩
   exact fin
  |defer hlx hnx hd=>
   refine .inl ⟨_,_,_,_,ρ',w',_,rfl,rfl,DI.finish (f:={f with defers:=_::f.defers}) (f':={f' with defers:=_::f'.defers}) ?_ .undef (.inr (.inl rfl)),mono hst.le,hsub⟩;have hf:=hf.mono hst.le;exact⟨hf.fn,hf.ok,hf.tmps,hf.todo,.cons hd hf.defers,hf.mode,hf.kind,hf.round,λd hd=>(BF.1 hd).elim (λe=>.inr ⟨hlx,by rw[e];exact hnx⟩) (hf.nd d),hf.rg⟩
  | @seq p _ hp hq=>
   rw[hst.tok.2] at hq;have fin: ∀r2,TS K T N ρ v w dr ds cs' (DZ (seen T.v f.fn eu) (.go {frame:=Bc T.v K.z p .normal,callers:=f::(ts++(dr::ds)),status:=.running,dying:=AB} v')) r2:=λ_=>.inr (.inr (.inr (.inr ⟨_,.normal,_,_,hq,hp,hst.drawn.1,rfl⟩)));have ht:=hf.todo;generalize f.todo=A at ht⊢;generalize f'.todo=B at ht⊢
   cases ht with|nil=>exact fin _|cons hi _=>cases hi<;>exact fin _
 |halt x v'=>
  cases x with
  |panic x=>
   rcases hr (ht _ _ _ rfl) with Qj|⟨ρ',x',w',u,rfl,hx,hst⟩
   ·refine .inr (.inr (.inr (.inl ⟨Qj,?_,_,_,rfl,Tt hf (by intro e he;simp at he;subst he;rfl)⟩)));exact hdr
   (have hsub:Stp K.F N ρ ρ' v w v' w' (seen T.P f'.fn u++ #[]):=hst.sub λe he=>by simp at he;exact Dy he);exact .inl ⟨_,_,_,_,ρ',w',_,rfl,rfl,(hf.mono hst.le).raise (.cons ⟨hx,rfl,⟨rfl,rfl⟩,rfl⟩ .nil),mono hst.le,hsub⟩
  |unsupported u=>cases u<;>first|exact hc.elim|trivial
  |_=>first|exact hc.elim|trivial
end
end
end Go.Proofs.YtkkgcebhfghdnaaGreatDoor
