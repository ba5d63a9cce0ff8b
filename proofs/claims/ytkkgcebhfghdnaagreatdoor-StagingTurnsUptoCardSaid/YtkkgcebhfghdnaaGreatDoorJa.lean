/- Part 1 of what that rests on; no condition. -/
import Derived.Conc.Beside
import Derived.Lib.Hide
set_option maxRecDepth 100000
set_option maxHeartbeats 8000000
open Array renaming replicate→IK, range→Zq
open Go.World renaming setCell→Xw, cell?→PU
open Go renaming Deferred→EK, MapEntry→Dp, FuncId→Bi, TypeId→Aj, Value→AP, World→AL, Event→Bc, Addr→Ag
open Go.Sem renaming bind→JY, runT→GX, run→Dq
open Option renaming none→AB, some→AA
namespace Go.Proofs.YtkkgcebhfghdnaaGreatDoor
open Go
theorem Aq{p:Prop}(h:p:=by kernel_rfl):p:=h
theorem Ad{p:Prop}(h:p:=by omega):p:=h
theorem AV{p:Prop}(h:p:=by simp):p:=h
theorem Ar{p:Prop}(h:p:=by decide):p:=h
theorem Ej{α β:Type}{p:α→Prop}{f:α→β}:∀x,p x→f x∉([]:List β):=fun _ _=>List.not_mem_nil
theorem nf_{p:Prop}(h:false=true):p:=by cases h
theorem AQ{p:Prop}(h:p):Go.RowKit.Hid p:=Lib.hid h
theorem WX{p:Prop}(h:p:=by simp only[List.map_toArray,List.map_cons,List.map_nil];rfl):p:=h
theorem Qv{p:Prop}(h:p:=by unfold maxLen;omega):p:=h
theorem Am:True:=trivial
theorem BM.{u}{c:Prop}{d:Decidable c}(n:¬c){α:Sort u}{t e:α}:ite c t e=e:=if_neg n
theorem BZ.{u}{c:Prop}{d:Decidable c}(n:c){α:Sort u}{t e:α}:ite c t e=t:=if_pos n
theorem Ai{a b:Prop}(h:a)(k:¬a):b:=absurd h k
abbrev Ba:=@Nat.le_refl
abbrev Df:=@Array.getElem?_eq_some_iff
abbrev FD:=@Array.getElem?_eq_getElem
abbrev Qo:=@Array.getD_eq_getD_getElem?
abbrev AAk:=@Array.getElem?_setIfInBounds
abbrev AMN:=@Array.getElem?_push
abbrev AHq:=@Array.getElem?_append
abbrev AHr:=@Array.getElem?_extract
abbrev AHs:=@Array.getElem?_replicate
abbrev lK:=@Array.mem_of_getElem?
abbrev Kr:=@Array.getElem?_map
abbrev Jz:=@Option.map_eq_some_iff
abbrev Ci:=@Nat.le_trans
abbrev ER:=@Nat.lt_of_lt_of_le
abbrev JL:=@Array.mem_append
abbrev ADA:=@Array.append_assoc
abbrev lL:=@Array.getElem?_modify
abbrev C9:=@Bool.false_eq_true
abbrev Dw:=@Array.getElem?_setIfInBounds_ne
abbrev WY:=@Array.getElem?_setIfInBounds_self_of_lt
abbrev Rk:=@Array.getElem?_push_lt
abbrev ADB:=@Array.size_push
abbrev IU:=@List.mem_toArray
abbrev CG:=@List.mem_singleton
abbrev Y4:=@Array.ext_getElem?
abbrev U4:=@Nat.add_assoc
abbrev lM:=@Nat.add_comm
abbrev U5:=@Array.all_eq_true'
abbrev dN:=@List.length_eq_zero_iff
abbrev Nw:=@Prod.mk.injEq
abbrev xG:=@Array.foldl_toList
abbrev AHt:=@Array.toList_zipIdx
abbrev ADC:=@Array.mapM_eq_mapM_toList
abbrev ADE:=@List.mapM_cons
abbrev ADF:=@Nat.le_zero
abbrev lN:=@Bool.eq_iff_iff
abbrev lQ:=@Nat.zero_mul
abbrev QW:=@List.getElem?_toArray
abbrev AHu:=@Bool.not_false
abbrev xH:=@Classical.not_not
abbrev lS:=@Iff.rfl
abbrev lT:=@Bool.not_true
abbrev UG:=@Option.bind_eq_some_iff
abbrev DN:=@Option.some.injEq
abbrev JC:=@List.all_eq_true
abbrev WZ:=@List.mem_range
abbrev DU:=@Bool.and_eq_true
abbrev xI:=@Array.mem_toList_iff
abbrev We:=@Bool.or_eq_true
abbrev D9:=@List.mem_cons_self
abbrev CO:=@List.mem_cons_of_mem
abbrev Y5:=@Array.getElem?_toList
abbrev Wh:=@List.filter_cons
abbrev dO:=@Array.toList_filter
abbrev AHv:=@Array.toList_append
abbrev Y6:=@Array.toList_map
abbrev EF:=@Option.some.inj
abbrev lU:=@Array.getElem?_append_left
abbrev lV:=@Array.size_append
abbrev Iq:=@List.size_toArray
abbrev ADG:=@List.forIn_cons
abbrev lW:=@Array.all_append
abbrev xJ:=@Array.size_map
abbrev Ny:=@Nat.zero_add
abbrev Y7:=@Array.getElem?_append_right
abbrev Wi:=@Array.getElem?_eq_none
abbrev J3:=@List.map_toArray
abbrev BK:=@List.map_cons
abbrev EG:=@List.map_nil
abbrev ADH:=@Array.mem_def
abbrev AHw:=@Bool.and_eq_true_iff
abbrev Y8:=@Bool.not_eq_true'
abbrev AHx:=@List.getElem?_range
abbrev NK:=@List.getElem?_append_left
abbrev Bq:=@List.mem_of_getElem?
abbrev xK:=@List.mem_filter
abbrev BB:=@List.mem_cons
abbrev IV:=@List.cons.injEq
abbrev Be:=@List.mem_append
abbrev D5:=@Nat.zero_le
abbrev dP:=@Classical.axiomOfChoice
abbrev NL:=@List.append_cancel_right
abbrev ADI:=@Array.mk.injEq
abbrev lX:=@Classical.byContradiction
abbrev Wj:=@Nat.lt_or_ge
abbrev ADJ:=@Nat.le_total
abbrev AHy:=@Nat.exists_eq_add_of_le
abbrev Ir:=@Ne.symm
abbrev lY:=@Array.mem_iff_getElem
abbrev O1:=@Nat.eq_zero_or_pos
abbrev BC:=@List.not_mem_nil
abbrev AHz:=@Array.getElem_extract
abbrev Nz:=@List.mem_map_of_mem
abbrev Bz:=@List.mem_map
abbrev CQ:=@List.getElem?_eq_getElem
abbrev Em:=@List.map_append
abbrev Eg:=@List.map_map
abbrev Fh:=@List.mem_append_left
abbrev Gx:=@List.mem_append_right
abbrev dQ:=@Bool.not_eq_true
abbrev Ie:=@List.length_take
abbrev Je:=@Nat.min_eq_left
abbrev TE:=@Nat.mul_le_mul_right
abbrev xM:=@List.getElem?_take
abbrev TF:=@List.eq_nil_of_length_eq_zero
abbrev AE8:=@List.length_set
abbrev AE9:=@Array.size_setIfInBounds
abbrev AFA:=@Array.toList_setIfInBounds
abbrev AFB:=@List.take_set
abbrev Zz:=@List.take_take
abbrev TG:=@List.length_drop
abbrev xN:=@List.getElem?_drop
abbrev kC:=@Nat.add_mul
abbrev X0:=@List.drop_eq_getElem_cons
abbrev Gt:=@List.getElem?_append_right
abbrev H8:=@List.getElem?_eq_none
abbrev Jf:=@Nat.sub_self
abbrev Bg:=@List.getElem?_map
abbrev DC:=@List.getElem?_eq_some_iff
abbrev N7:=@List.ext_getElem?
abbrev Qw:=@List.idxOf?_cons
abbrev Qx:=@List.getElem?_of_mem
abbrev Pj:=@List.nodup_append
abbrev Z4:=@List.map_set
abbrev X3:=@List.getElem?_set
abbrev kD:=@List.mem_or_eq_of_mem_set
abbrev xO:=@Array.toList_push
abbrev xP:=@List.eraseIdx_sublist
abbrev U6:=@List.take_add_one
abbrev FH:=@List.take_of_length_le
abbrev AFC:=@List.getElem?_replicate
abbrev xQ:=@Nat.mod_one
abbrev xR:=@List.take_left'
abbrev N8:=@Nat.mul_one
abbrev ALN:=@List.length_replicate
abbrev kE:=@List.flatten_append
abbrev Ig:=@List.length_append
abbrev KC:=@List.append_assoc
abbrev X4:=@List.take_append_drop
abbrev N9:=@List.map_take
abbrev TJ:=@Nat.le_of_lt
abbrev kF:=@List.filter_eq_self
abbrev Ii:=@List.nodup_cons
abbrev OA:=@List.Perm.refl
abbrev xU:=@List.lt_irrefl
abbrev AFD:=@List.le_iff_lt_or_eq
abbrev AFE:=@List.Pairwise.sublist
abbrev LK:=@List.pairwise_cons
abbrev U7:=@List.flatMap_cons
abbrev FI:=@List.mem_flatMap
abbrev kG:=@List.mem_nil_iff
abbrev ALO:=@List.flatMap_append
abbrev LM:=@List.append_nil
abbrev ALP:=@Bool.and_eq_false_iff
abbrev He:=@List.map_congr_left
abbrev DZ:=@List.length_map
abbrev xW:=@List.length_filter_le
abbrev AFF:=@List.perm_ext_iff_of_nodup
abbrev kH:=@List.pairwise_iff_getElem
abbrev Z5:=@List.pairwise_append
abbrev KD:=@List.mem_flatten
abbrev GY:=@List.getD_eq_getElem?_getD
abbrev kJ:=@List.filter_congr
abbrev xX:=@Option.isSome_map
abbrev Z7:=@List.Perm.append_left
abbrev AFG:=@Nat.mul_le_mul
abbrev AFH:=@Option.isSome_iff_exists
abbrev kK:=@List.filter_append
abbrev X5:=@List.drop_drop
abbrev xY:=@List.take_length
abbrev ALQ:=@List.getElem?_set_self
abbrev xZ:=@List.getElem?_modify
abbrev ALR:=@List.getElem?_set_ne
abbrev xe:=@List.filter_map
abbrev xg:=@Bool.or_eq_false_iff
abbrev U8:=@List.sum_append
abbrev AFI:=@List.getElem?_take_of_lt
abbrev Qy:=@List.drop_of_length_le
abbrev Z8:=@Nat.mod_lt
abbrev xh:=@Nat.mod_two_eq_zero_or_one
abbrev ALS:=@Nat.mul_le_mul_left
abbrev kL:=@List.take_nil
abbrev X6:=@List.drop_zero
abbrev kM:=@List.drop_succ_cons
abbrev Z9:=@Array.ext
abbrev KE:=@Array.replicate_succ
abbrev KF:=@List.push_toArray
abbrev KH:=@List.append_toArray
abbrev aA:=@Nat.ne_of_lt
abbrev xk:=@Nat.not_lt_zero
abbrev LP:=@List.contains_iff_mem
abbrev AFJ:=@ByteArray.data_extract
abbrev AFK:=@Array.toList_extract
abbrev kP:=@Nat.lt_succ_of_lt
abbrev xm:=@Array.sizeOf_lt_of_mem
abbrev xn:=@List.getElem?_eq_none_iff
abbrev ALT:=@List.take_append_of_le_length
abbrev AFL:=@List.length_pos_iff
abbrev KI:=@Prod.ext
abbrev AFM:=@List.mem_of_mem_take
abbrev AFN:=@List.map_eq_singleton_iff
open Go.Conc
section
variable {p p':Array AP}{v v':AP}
structure Rn where
 r:Nat->Nat->Prop
 c:Nat->AP->Prop
 q:ByteArray->Int->Nat->Nat->Prop
structure Rn.le (ρ ρ':Rn):Prop where
 r: ∀a b,ρ.r a b->ρ'.r a b
 c: ∀a x,ρ.c a x->ρ'.c a x
 q: ∀s n a b,ρ.q s n a b->ρ'.q s n a b
theorem Rn.le.refl(ρ:Rn):ρ.le ρ:=⟨λ_ _ h=>h,λ_ _ h=>h,λ_ _ _ _ h=>h⟩
theorem Rn.le.trans{a b c:Rn}(h:a.le b)(k:b.le c):a.le c:=⟨λ_ _ x=>k.r _ _ (h.r _ _ x),λ_ _ x=>k.c _ _ (h.c _ _ x),λ_ _ _ _ x=>k.q _ _ _ _ (h.q _ _ _ _ x)⟩
def Rn.add (ρ:Rn) (n m:Nat):Rn:={r:=λa b=>ρ.r a b\/(a=n/\b=m),c:=ρ.c,q:=ρ.q}
theorem Rn.U9(ρ:Rn)(n m:Nat):ρ.le (ρ.add n m):=⟨λ_ _ h=>.inl h,λ_ _ h=>h,λ_ _ _ _ h=>h⟩
def RelA (ρ:Rn) (a a':Ag):Prop:=ρ.r a.block a'.block/\a'.off=a.off/\a'.spot=a.spot
theorem RelA.mono{ρ ρ':Rn}(h:ρ.le ρ'){a a':Ag}(k:RelA ρ a a'):RelA ρ' a a':=⟨h.r _ _ k.1,k.2⟩
theorem RelA.add{ρ:Rn}{a a':Ag}(k:RelA ρ a a')(n:Nat):RelA ρ (a.add n) (a'.add n):=by
 obtain⟨b,o,s⟩:=a;obtain⟨b',o',s'⟩:=a';obtain⟨h1,h2,h3⟩:=k;simp only at h1 h2 h3;subst h2 h3;unfold Addr.add;split;exact⟨h1,rfl,rfl⟩;exact⟨h1,rfl,rfl⟩
def flat:AP->Bool
 | .bool _| .int _ _| .string _=>true| .pointer AB| .slice AB _ _| .map AB| .chan AB| .nilFunc| .nilIface=>true|_=>false
def lZ:AP->Bool
 | .func (.method _) _ _=>false| .slice (AA _) 0 0=>false| .pointer (AA _)| .slice (AA _) _ _| .map (AA _)| .chan (AA _)| .func _ _ _| .iface _ _| .float _ _| .complex _ _ _=>true|_=>false
def ADK:AP->Bool
 | .slice (AA _) 0 0=>true|_=>false
def X7:AP->Bool
 | .func (.method _) _ _=>true|_=>false
def lg (b:Nat):AP:=.func (.method "") #[.iface 0 (.chan (AA b))] #[]
structure Fb where
 c:Bi->Bool
 v:Bi->Bool
 l:Bool
 d:Bool
 m:Nat
 a:Bi->Option Nat
 lr:Bi->Bool:=λ_=>false
 e:Bi->Bool:=λ_=>false
 h:Bool:=true
 ch:Option Bi:=AB
 cp:Option Bi:=AB
instance:CoeFun Fb (λ_=>Bi->Bool):=⟨Fb.c⟩
def Fb.small:Fb:={c:=λ_=>false,v:=λ_=>false,l:=false,d:=false,m:=0,a:=λ_=>AB,h:=false}
structure Fs where
 f:Bi->Prop
 v:Bi->Prop
 c:Code->Prop
 r:Bi->Prop
 z:Bi
 m:Nat
 a:Bi->Nat->Prop
 d:Prop
 p:Prop
 e:Bi->Prop
 h:Prop
 dk:Bi->Array AP->Prop
instance:CoeFun Fs (λ_=>Bi->Prop):=⟨Fs.f⟩
structure Fs.le0 (F F':Fs):Prop where
 f: ∀x,F x->F' x
 v: ∀x,F.v x->F'.v x
 c: ∀x,F.c x->F'.c x
 r: ∀x,F.r x->F'.r x
 z:F'.z=F.z
 m:F.m<=F'.m
 a: ∀f n,F.a f n->F'.a f n
 d:F.d->F'.d
 e: ∀f,F.e f->F'.e f
 h:F.h->F'.h
structure Fs.le (F F':Fs):Prop extends Fs.le0 F F' where
 p:F.p->F'.p
theorem Fs.le.refl(F:Fs):F.le F:=⟨⟨λ_ h=>h,λ_ h=>h,λ_ h=>h,λ_ h=>h,rfl,Ba _,λ_ _ h=>h,λh=>h,λ_ h=>h,λh=>h⟩,λh=>h⟩
def Fg (z:Bi) (s:ByteArray) (n:Int):AP:=.func (.func z) #[] #[.string s,.int .i64 n]
def uI (z:Bi) (a b:Nat):AP:=.func (.func z) #[] #[.pointer (AA ⟨a,0,AB⟩),.pointer (AA ⟨b,0,AB⟩)]
inductive Az (F:Fs) (ρ:Rn):AP->AP->Prop
 |flat {v:AP}:flat v=true->Az F ρ v v|ptr {a a':Ag}:RelA ρ a a'->Az F ρ (.pointer (AA a)) (.pointer (AA a'))|slice {a a':Ag} {n k:Nat}:RelA ρ a a'->Az F ρ (.slice (AA a) n k) (.slice (AA a') n k)|emp {b:Nat} {a:Ag}:ρ.c b (.slice (AA a) 0 0)->Az F ρ (.slice (AA ⟨b,0,AB⟩) 0 0) (.slice (AA a) 0 0)|map {b b':Nat}:ρ.r b b'->Az F ρ (.map (AA b)) (.map (AA b'))|chan {b b':Nat}:ρ.r b b'->Az F ρ (.chan (AA b)) (.chan (AA b'))|tok {b:Nat} {x:AP}:ρ.c b x->lZ x=true->(F.p\/x=.chan (AA b))->Az F ρ (.chan (AA b)) x
 |func {f:Bi} {p p' q q':Array AP}:F f->F.v f->p.size=p'.size->(∀(i:Nat) (v v':AP),p[i]? =AA v->p'[i]? =AA v'->Az F ρ v v')->
   q.size=q'.size->(∀(i:Nat) (v v':AP),q[i]? =AA v->q'[i]? =AA v'->Az F ρ v v')->Az F ρ (.func (.func f) p q) (.func (.func f) p' q')
 |yield {l l':Nat}:ρ.r l l'->Az F ρ (.func (.yield l) #[] #[]) (.func (.yield l') #[] #[])|seq {s:ByteArray} {n:Int} {a b:Nat}:ρ.q s n a b->Az F ρ (Fg F.z s n) (uI F.z a b)|mf {b:Nat} {x:AP}:ρ.c b x->X7 x=true->Az F ρ (lg b) x|iface {t:Aj} {v v':AP}:Az F ρ v v'->Az F ρ (.iface t v) (.iface t v')|agg {p p':Array AP}:p.size=p'.size->(∀(i:Nat) (v v':AP),p[i]? =AA v->p'[i]? =AA v'->Az F ρ v v')->Az F ρ (.agg p) (.agg p')|tuple {p p':Array AP}:p.size=p'.size->(∀(i:Nat) (v v':AP),p[i]? =AA v->p'[i]? =AA v'->Az F ρ v v')->Az F ρ (.tuple p) (.tuple p')
def Au (F:Fs) (ρ:Rn) (p p':Array AP):Prop:=p.size=p'.size/\∀(i:Nat) (v v':AP),p[i]? =AA v->p'[i]? =AA v'->Az F ρ v v'
section
variable {F F':Fs} {ρ ρ':Rn}
theorem Az.mono'(hF:F.le F')(h:ρ.le ρ')(k:Az F ρ v v'):Az F' ρ' v v':=by
 induction k with|flat hf=>exact .flat hf|ptr ha=>exact .ptr (ha.mono h)|slice ha=>exact .slice (ha.mono h)|emp hc=>exact .emp (h.c _ _ hc)|map hb=>exact .map (h.r _ _ hb)|chan hb=>exact .chan (h.r _ _ hb)|tok hc ht hp=>exact .tok (h.c _ _ hc) ht (hp.imp hF.p id)|func hf hv h1 _ h2 _ i1 i2=>exact .func (hF.f _ hf) (hF.v _ hv) h1 i1 h2 i2|yield hl=>exact .yield (h.r _ _ hl)|seq hq=>rw[<- hF.z];exact .seq (h.q _ _ _ _ hq)|mf hx hm=>exact .mf (h.c _ _ hx) hm|iface _ i=>exact .iface i|agg h1 _ i=>exact .agg h1 i|tuple h1 _ i=>exact .tuple h1 i
theorem Az.mono(h:ρ.le ρ')(k:Az F ρ v v'):Az F ρ' v v':=k.mono' (.refl _) h
theorem Au.mono'(hF:F.le F')(h:ρ.le ρ'){p p':Array AP}(k:Au F ρ p p'):Au F' ρ' p p':=⟨k.1,λi v v' h1 h2=>(k.2 i v v' h1 h2).mono' hF h⟩
theorem Au.mono(h:ρ.le ρ')(k:Au F ρ p p'):Au F ρ' p p':=k.mono' (.refl _) h
theorem Az.undef:Az F ρ undef undef:=.tuple rfl λi v v' h=>by simp at h
theorem Au.nil:Au F ρ #[] #[]:=⟨rfl,λi v v' h=>by simp at h⟩
theorem Au.get(h:Au F ρ p p'){i:Nat}(hv:p[i]? =AA v): ∃v',p'[i]? =AA v'/\Az F ρ v v':=by
 have hi:i<p.size:=(Df.1 hv).1;have hi':i<p'.size:=h.1▸hi;exact⟨p'[i],FD hi',h.2 i v _ hv (FD hi')⟩
theorem Au.none{p p':Array AP}(h:Au F ρ p p'){i:Nat}(hv:p[i]? =AB):p'[i]? =AB:=by
 rw[Array.getElem?_eq_none_iff] at hv⊢;rw[<- h.1];exact hv
theorem Au.getD{p p':Array AP}(h:Au F ρ p p')(i:Nat):Az F ρ (p.getD i undef) (p'.getD i undef):=by
 rw[Qo,Qo]
 cases hv:p[i]? with
 |none=>rw[h.none hv];exact .undef|some v=>
  obtain⟨v',hv',hr⟩:=h.get hv;rw[hv'];exact hr
theorem Au.set(h:Au F ρ p p')(hv:Az F ρ v v')(i:Nat):Au F ρ (p.setIfInBounds i v) (p'.setIfInBounds i v'):=by
 refine⟨by simpa using h.1,λj x x' hx hx'=>?_⟩;rw[AAk] at hx hx';by_cases hij:i=j
 ·subst hij;simp only[if_true] at hx hx';split at hx
  ·split at hx'
   ·cases hx;cases hx';exact hv
   cases hx'
  cases hx
 simp only[hij,if_false] at hx hx';exact h.2 j x x' hx hx'
theorem Au.push{p p':Array AP}(h:Au F ρ p p'){v v':AP}(hv:Az F ρ v v'):Au F ρ (p.push v) (p'.push v'):=by
 refine⟨by simpa using h.1,λj x x' hx hx'=>?_⟩;rw[AMN] at hx hx';rw[<- h.1] at hx';split at hx
 ·rename_i hj;simp only[hj,if_true] at hx';cases hx;cases hx';exact hv
 rename_i hj;simp only[hj,if_false] at hx';exact h.2 j x x' hx hx'
theorem Au.append{q q':Array AP}(h:Au F ρ p p')(k:Au F ρ q q'):Au F ρ (p++q) (p'++q'):=by
 refine⟨by simp[h.1,k.1],λj x x' hx hx'=>?_⟩;rw[AHq] at hx hx';rw[<- h.1] at hx';split at hx
 ·rename_i hj;simp only[hj,if_true] at hx';exact h.2 j x x' hx hx'
 rename_i hj;simp only[hj,if_false] at hx';exact k.2 _ x x' hx hx'
theorem Au.extract{p p':Array AP}(h:Au F ρ p p')(i j:Nat):Au F ρ (p.extract i j) (p'.extract i j):=by
 refine⟨by simp[h.1],λn x x' hx hx'=>?_⟩;rw[AHr] at hx hx';split at hx
 ·split at hx'
  ·exact h.2 _ x x' hx hx'
  cases hx'
 cases hx
theorem Au.replicate{v v':AP}(hv:Az F ρ v v')(n:Nat):Au F ρ (IK n v) (IK n v'):=by
 refine⟨AV,λj x x' hx hx'=>?_⟩;rw[AHs] at hx hx';split at hx
 ·rename_i hj;simp only[hj,if_true] at hx';cases hx;cases hx';exact hv
 cases hx
theorem Au.one(hv:Az F ρ v v'):Au F ρ #[v] #[v']:=by
 have:=(Au.nil (F:=F) (ρ:=ρ)).push hv;simpa using this
theorem Au.VA(h: ∀x∈p,flat x=true):Au F ρ p p:=
 ⟨rfl,λi v v' h1 h2=>by rw[h1] at h2;cases h2;exact .flat (h v (lK h1))⟩
theorem Au.map{α:Type}{f f':α->AP}{l:Array α}(h: ∀x∈l,Az F ρ (f x) (f' x)):Au F ρ (l.map f) (l.map f'):=by
 refine⟨AV,λi v v' h1 h2=>?_⟩;rw[Kr] at h1 h2;obtain⟨x,hx,rfl⟩:=Jz.1 h1;rw[hx] at h2;(cases h2);exact h x (lK hx)
theorem Au.ofFn{n:Nat}{f f':Nat->AP}(h: ∀i,Az F ρ (f i) (f' i)):Au F ρ ((Zq n).map f) ((Zq n).map f'):=Au.map λx _=>h x
theorem Az.cells{v v':AP}(h:Az F ρ v v'):Au F ρ v.cells v'.cells:=by
 cases h with
 |flat hf=>
  cases v<;>first
   |exact Ai (show false=true from hf) AV|exact Au.one (.flat hf)
 |ptr ha=>exact Au.one (.ptr ha)|slice ha=>exact Au.one (.slice ha)|emp hc=>exact Au.one (.emp hc)|map hb=>exact Au.one (.map hb)|chan hb=>exact Au.one (.chan hb)|tok hk ht hp=>
  (have e:v'.cells= #[v']:=by cases v'<;>first|rfl|exact Ai (show false=true from ht) AV);rw[e];exact Au.one (.tok hk ht hp)
 |func hf hv h1 i1 h2 i2=>exact Au.one (.func hf hv h1 i1 h2 i2)|yield hl=>exact Au.one (.yield hl)|seq hq=>exact Au.one (.seq hq)|mf hx hm=>
  (have e:v'.cells= #[v']:=by cases v'<;>first|rfl|exact Ai (show false=true from hm) AV);rw[e];exact Au.one (.mf hx hm)
 |iface hi=>exact Au.one (.iface hi)|agg h1 i=>exact⟨h1,i⟩|tuple h1 i=>exact Au.one (.tuple h1 i)
end
inductive Cc {α β:Type} (R:α->β->Prop):List α->List β->Prop
 |nil:Cc R [] []|cons {a:α} {b:β} {l:List α} {l':List β}:R a b->Cc R l l'->Cc R (a::l) (b::l')
inductive aB (F:Fs) (ρ:Rn) (m:Nat):Target->Target->Prop
 |fn {f:Bi} {q q':Array AP}:F f->(∀n,F.a f n)->Au F ρ q q'->aB F ρ m (.fn (.func f) q) (.fn (.func f) q')|nil:aB F ρ m .nil .nil|yield {l l':Nat}:F.h->ρ.r l l'->aB F ρ m (.fn (.yield l) #[]) (.fn (.yield l') #[])|seq {s:ByteArray} {n:Int} {a b:Nat}:m<=F.m->ρ.q s n a b->aB F ρ m (.fn (.func F.z) #[.string s,.int .i64 n]) (.fn (.func F.z) #[.pointer (AA ⟨a,0,AB⟩),.pointer (AA ⟨b,0,AB⟩)])|collected {b b':Nat}:ρ.r b b'->aB F ρ m (.collected b) (.collected b')
def Y9 (x:AP) (p:Array AP):EK:=match x with
 | .func f q r=>{target:=.fn f r,args:=q++p}|_=>{target:=.nil,args:=#[]}
inductive I7 (F:Fs) (ρ:Rn):EK->EK->Prop
 |mk {d d':EK}:aB F ρ d.args.size d.target d'.target->Au F ρ d.args d'.args->I7 F ρ d d'|dead {b:Nat} {x:AP} {p p':Array AP}:ρ.c b x->X7 x=true->Au F ρ p p'->I7 F ρ (Y9 (lg b) p) (Y9 x p')
theorem aB.mono'{F F':Fs}{ρ ρ':Rn}(hF:F.le F')(h:ρ.le ρ'){m:Nat}{d d':Target}(k:aB F ρ m d d'):aB F' ρ' m d d':=by
 cases k with|fn hf ha hq=>exact .fn (hF.f _ hf) (λn=>hF.a _ _ (ha n)) (hq.mono' hF h)|nil=>exact .nil|yield hh hl=>exact .yield (hF.h hh) (h.r _ _ hl)|seq hm hq=>rw[<- hF.z];exact .seq (Ci hm hF.m) (h.q _ _ _ _ hq)|collected hb=>exact .collected (h.r _ _ hb)
theorem I7.mono'{F F':Fs}{ρ ρ':Rn}(hF:F.le F')(h:ρ.le ρ'){d d':EK}(k:I7 F ρ d d'):I7 F' ρ' d d':=by
 cases k with|mk h1 h2=>exact .mk (h1.mono' hF h) (h2.mono' hF h)|dead h1 h2 h3=>exact .dead (h.c _ _ h1) h2 (h3.mono' hF h)
theorem CV{α β:Type}{R R':α->β->Prop}(h: ∀a b,R a b->R' a b){l:List α}{l':List β}(k:Cc R l l'):Cc R' l l':=by
 induction k with|nil=>exact .nil|cons a _ i=>exact .cons (h _ _ a) i
structure uJ (F:Fs) (ρ:Rn) (l l':Loop):Prop where
 state:l'.state=l.state
 pending:l'.pending=l.pending
 fn:l'.fn=l.fn
 tmps:Au F ρ l.tmps l'.tmps
 params:l'.params=l.params
 few:l.params.size<=2
 assign:l'.assign=l.assign
 body:l'.body=l.body
 okF:F.r l.fn
 okA:F.c l.assign
 okB:F.c l.body
 okJ: ∀j,l.pending=AA j->F.c j
 defers:ρ.r l.defers l'.defers
structure Fp (F:Fs) (ρ:Rn) (e e':Dp):Prop where
 key:Az F ρ e.key e'.key
 val:Az F ρ e.val e'.val
 born:e'.born=e.born
inductive Gs (F:Fs) (ρ:Rn):Obj->Obj->Prop
 |cells {p p':Array AP} {t:Aj} {fr:Nat×Nat}:Au F ρ p p'->Gs F ρ (.cells p t fr) (.cells p' t fr)|map {es es':Array Dp} {k:Nat}:es.size=es'.size->(∀(i:Nat) (e e':Dp),es[i]? =AA e->es'[i]? =AA e'->Fp F ρ e e')->Gs F ρ (.map es k) (.map es' k)|mapIter {b b' s k:Nat} {seen:Array Nat}:ρ.r b b'->Gs F ρ (.mapIter (AA b) s seen k) (.mapIter (AA b') s seen k)|LQ {s k:Nat} {seen:Array Nat}:Gs F ρ (.mapIter AB s seen k) (.mapIter AB s seen k)|stringIter {s:ByteArray} {k:Nat}:Gs F ρ (.stringIter s k) (.stringIter s k)|loop {l l':Loop}:uJ F ρ l l'->Gs F ρ (.loop l) (.loop l')|deferred:Gs F ρ (.deferred (AA [])) (.deferred (AA []))|Kt:Gs F ρ (.deferred AB) (.deferred AB)|number {a a':Ag} {b:Bool}:RelA ρ a a'->Gs F ρ (.number a b) (.number a' b)|chan {k s r:Nat} {cl tm:Bool}:Gs F ρ (.chan k #[] cl s r tm) (.chan k #[] cl s r tm)
section
variable {F F':Fs} {ρ ρ':Rn}
theorem uJ.mono'(hF:F.le F')(h:ρ.le ρ'){l l':Loop}(k:uJ F ρ l l'):uJ F' ρ' l l':=
 ⟨k.state,k.pending,k.fn,k.tmps.mono' hF h,k.params,k.few,k.assign,k.body,hF.r _ k.okF,hF.c _ k.okA,hF.c _ k.okB,λj hj=>hF.c _ (k.okJ j hj),h.r _ _ k.defers⟩
theorem Gs.mono'(hF:F.le F')(h:ρ.le ρ'){o o':Obj}(k:Gs F ρ o o'):Gs F' ρ' o o':=by
 cases k with|cells hp=>exact .cells (hp.mono' hF h)|map hs he=>exact .map hs λi e e' h1 h2=>⟨(he i e e' h1 h2).key.mono' hF h,(he i e e' h1 h2).val.mono' hF h,(he i e e' h1 h2).born⟩|mapIter hb=>exact .mapIter (h.r _ _ hb)|LQ=>exact .LQ|stringIter=>exact .stringIter|loop hl=>exact .loop (hl.mono' hF h)|deferred=>exact .deferred|Kt=>exact .Kt|number ha=>exact .number (ha.mono h)|chan=>exact .chan
theorem Gs.mono(h:ρ.le ρ'){o o':Obj}(k:Gs F ρ o o'):Gs F ρ' o o':=k.mono' (.refl _) h
end
structure Rn.lh (N:Nat) (ρ:Rn) (n m:Nat):Prop where
 r: ∀b,¬ρ.r n b
 l: ∀a,¬ρ.r a m
 c: ∀x,¬ρ.c n x
 hn:N<=n
 hm:N<=m
def X8:Obj:=.cells #[] 0 (0,0)
structure Rn.Ok (N:Nat) (ρ:Rn):Prop where
 fn: ∀a b b',ρ.r a b->ρ.r a b'->b=b'
 inj: ∀a a' b,ρ.r a b->ρ.r a' b->a=a'
 cfn: ∀a x y,ρ.c a x->ρ.c a y->x=y
 apart: ∀a b x,ρ.r a b->¬ρ.c a x
 low: ∀a b,ρ.r a b->(a<N\/b<N)->a=b
 hd: ∀a,a<N->ρ.r a a
structure Ij (w:AL) (B:List Nat) (s:ByteArray) (n:Int) (a b:Nat):Prop where
 lt: ∀c∈B,c<w.heap.size
 rZ:a∈B
 inb:b∈B
 pos:1<=n
 hi:n<=9223372036854775807
 few:s.size<=1073741824
 box: ∃D cap ta,w.heap[a]? =AA (.cells #[.slice D s.size cap] ta (0,0))/\(s.size=0\/∃d o cells td,D=AA ⟨d,o,AB⟩/\d∈B/\w.heap[d]? =AA (.cells cells td (0,0))/\o+cap<=cells.size/\s.size<=cap/\∀i (h:i<s.size),cells[o+i]? =AA (.int .u8 (s[i].toNat:Int)))
 size: ∃tb,w.heap[b]? =AA (.cells #[.int .i64 n] tb (0,0))
theorem Ij.keep{w w':AL}{B:List Nat}{s:ByteArray}{n:Int}{a b:Nat}(h:Ij w B s n a b)(hz:w.heap.size<=w'.heap.size)(hk: ∀c∈B,w'.heap[c]? =w.heap[c]?):Ij w' B s n a b:=by
 obtain⟨D,cap,ta,h1,h2⟩:=h.box;obtain⟨tb,h3⟩:=h.size;refine⟨λc hc=>ER (h.lt c hc) hz,h.rZ,h.inb,h.pos,h.hi,h.few,⟨D,cap,ta,by rw[hk a h.rZ];exact h1,?_⟩,tb,by rw[hk b h.inb];exact h3⟩;rcases h2 with h2|⟨d,o,cells,td,e,hd,h4,h5⟩;exact .inl h2;exact .inr ⟨d,o,cells,td,e,hd,by rw[hk d hd];exact h4,h5⟩
structure DD (F:Fs) (N:Nat) (ρ:Rn) (v w:AL):Prop where
 ok:ρ.Ok N
 obj: ∀a b,ρ.r a b->∃o o',v.heap[a]? =AA o/\w.heap[b]? =AA o'/\Gs F ρ o o'
 tok: ∀a x,ρ.c a x->v.heap[a]? =AA X8
 nv:N<=v.heap.size
 nw:N<=w.heap.size
 os:w.os=v.os
 seq: ∀s n a b,ρ.q s n a b->∃B,Ij w B s n a b/\∀c∈B,∀x,¬ρ.r x c
end
section
variable {a a':Ag}{b b':Nat}{o o':Obj}{ρ:Rn}{w₁:AL}
structure Twin where
 P:Program
 F:Array Func
 p:Prop:=False
abbrev Twin.v (T:Twin):Program:={T.P with funcs:=T.F}
def Halt.still:Halt->Prop
 | .stuck _=>True| .unsupported (.initOrder _)=>False| .unsupported _=>True| .exit _=>True|_=>False
def kQ:Mark->Prop
 | .extern _| .noRoom=>True|_=>False
def Halt.dead (p:Prop):Halt->Prop
 | .panic _=>p|h=>Halt.still h
def lq {β:Type} (T:Twin) (F:Fs) (ρ:Rn):Halt->Sem β->Prop
 | .panic x,s'=>T.p\/∃x',s'=.halt (.panic x')/\Az F ρ x x'|h,_=>Halt.still h
def CW {α:Type} (T:Twin):Sem α->Prop
 | .halt h=>Halt.dead T.p h| .new _ k=>T.p/\∀n,CW T (k n)| .program k=>CW T (k T.v)| .shape _ k=>∀x,CW T (k x)| .frozen _ k=>∀x,CW T (k x)| .mark _ k=>CW T k|_=>False
theorem CW.bind{α γ:Type}{T:Twin}{f:α->Sem γ}: ∀{s:Sem α},CW T s->CW T (s.bind f):=by
 intro s
 induction s with
 |halt h=>intro x;exact x
 |new o k ih=>intro x;exact⟨x.1,λn=>ih n (x.2 n)⟩
 |program k ih=>intro x;exact ih T.v x
 |shape b k ih=>intro x y;exact ih y (x y)
 |frozen a k ih=>intro x y;exact ih y (x y)
 |mark m k ih=>intro x;exact ih x
 |_=>intro x;exact x.elim
theorem CW.run{α:Type}{T:Twin}: ∀{s:Sem α},CW T s->∀v,∃h v',s.run T.v v=.halt h v'/\Halt.dead T.p h/\v'.drawn=v.drawn:=by
 intro s
 induction s with
 |halt h=>intro x v;exact⟨h,v,by rw[Dq],x,rfl⟩
 |new o k ih=>intro x v;obtain⟨h,u,e,hs,hd⟩:=ih _ (x.2 _) {v with heap:=v.heap.push o};exact⟨h,u,by rw[Dq];exact e,hs,hd⟩
 |program k ih=>intro x v;obtain⟨h,u,e,hs⟩:=ih T.v x v;exact⟨h,u,by rw[Dq];exact e,hs⟩
 |shape b k ih=>intro x v;obtain⟨h,u,e,hs⟩:=ih (v.shape? b) (x _) v;exact⟨h,u,by rw[Dq];exact e,hs⟩
 |frozen a k ih=>intro x v;obtain⟨h,u,e,hs⟩:=ih (v.frozen? a) (x _) v;exact⟨h,u,by rw[Dq];exact e,hs⟩
 |mark m k ih=>intro x v;obtain⟨h,u,e,hs⟩:=ih x v;exact⟨h,u,by rw[Dq];exact e,hs⟩
 |_=>intro x;exact x.elim
def DR {α β:Type} (T:Twin) (F:Fs) (N:Nat) (Q:Rn->α->β->Prop):Sem α->Rn->Sem β->Prop
 | .pure a,ρ,s'=>match s' with
  | .pure b=>Q ρ a b|_=>False
 | .load m a k,ρ,s'=>match s' with
  | .load m' a' k'=>m'=m/\RelA ρ a a'/\∀x x',Az F ρ x x'->DR T F N Q (k x) ρ (k' x')|_=>False
 | .store m a x k,ρ,s'=>match s' with
  | .store m' a' x' k'=>m'=m/\RelA ρ a a'/\Az F ρ x x'/\DR T F N Q k ρ k'|_=>False
 | .new o k,ρ,s'=>(T.p/\∀n,CW T (k n))\/match s' with
  | .new o' k'=>Gs F ρ o o'/\∀n n',ρ.lh N n n'->DR T F N Q (k n) (ρ.add n n') (k' n')|_=>False
 | .shape b k,ρ,s'=>(∀x,CW T (k x))\/match s' with
  | .shape b' k'=>ρ.r b b'/\∀x,DR T F N Q (k x) ρ (k' x)|_=>False
 | .freeze _ _ _,_,_=>False
 | .frozen a k,ρ,s'=>(∀x,CW T (k x))\/match s' with
  | .frozen a' k'=>RelA ρ a a'/\∀x,DR T F N Q (k x) ρ (k' x)|_=>False
 | .getObj b k,ρ,s'=>match s' with
  | .getObj b' k'=>ρ.r b b'/\∀o o',Gs F ρ o o'->DR T F N Q (k o) ρ (k' o')|_=>False
 | .setObj b o k,ρ,s'=>match s' with
  | .setObj b' o' k'=>ρ.r b b'/\Gs F ρ o o'/\o.isChan=false/\(∀p t f,o≠ .cells p t f)/\DR T F N Q k ρ k'|_=>False
 | .choose q k,ρ,s'=>match s' with
  | .choose q' k'=>q'=q/\∀n,DR T F N Q (k n) ρ (k' n)|_=>False
 | .sys c k,ρ,s'=>match c,s' with
  | .env,.sys .env k'=>∀x,DR T F N Q (k x) ρ (k' x)|_,_=>False
 | .program k,ρ,s'=>CW T (k T.v)\/match s' with
  | .program k'=>DR T F N Q (k T.v) ρ (k' T.P)|_=>False
 | .mark m k,ρ,s'=>CW T k\/match s' with
  | .mark m' k'=>m'=m/\kQ m/\DR T F N Q k ρ k'|_=>False
 | .halt h,ρ,s'=>lq T F ρ h s'
section
variable {α β:Type} {T:Twin} {F:Fs} {N:Nat} {Q:Rn->α->β->Prop} {ρ:Rn}
theorem Yj{k:Option (Aj×Nat)->Sem α}{s':Sem β}(h: ∀x,CW T (k x)):DR T F N Q (.shape b k) ρ s':=by unfold DR;exact .inl h
theorem aC{k:Option (Aj×Nat)->Sem α}{k':Option (Aj×Nat)->Sem β}(h:ρ.r b b')(h2: ∀x,DR T F N Q (k x) ρ (k' x)):DR T F N Q (.shape b k) ρ (.shape b' k'):=by unfold DR;exact .inr ⟨h,h2⟩
theorem gm{k:Nat->Sem α}{s':Sem β}(h:T.p/\∀n,CW T (k n)):DR T F N Q (.new o k) ρ s':=by unfold DR;exact .inl h
theorem ADL{k:Nat->Sem α}{k':Nat->Sem β}(h:Gs F ρ o o')(h2: ∀n n',ρ.lh N n n'->DR T F N Q (k n) (ρ.add n n') (k' n')):DR T F N Q (.new o k) ρ (.new o' k'):=by unfold DR;exact .inr ⟨h,h2⟩
theorem Wl{k:Bool->Sem α}{s':Sem β}(h: ∀x,CW T (k x)):DR T F N Q (.frozen a k) ρ s':=by unfold DR;exact .inl h
theorem Yk{k:Bool->Sem α}{k':Bool->Sem β}(h:RelA ρ a a')(h2: ∀x,DR T F N Q (k x) ρ (k' x)):DR T F N Q (.frozen a k) ρ (.frozen a' k'):=by unfold DR;exact .inr ⟨h,h2⟩
end
def AY {α β:Type} (T:Twin) (F:Fs) (N:Nat) (Q:Rn->α->β->Prop) (s:Sem α) (ρ:Rn) (s':Sem β):Prop:=ρ.Ok N->DR T F N Q s ρ s'
theorem Rn.Ok.add{N:Nat}{ρ:Rn}(h:ρ.Ok N){n m:Nat}(k:ρ.lh N n m):(ρ.add n m).Ok N:=by
 refine⟨?_,?_,h.cfn,?_,?_,λa ha=>.inl (h.hd a ha)⟩
 ·rintro a b b' (x|⟨rfl,rfl⟩) (y|⟨z,rfl⟩);exact h.fn _ _ _ x y;subst z;exact Ai x (k.r _);exact Ai y (k.r _);rfl
 ·rintro a a' b (x|⟨rfl,rfl⟩) (y|⟨rfl,z⟩);exact h.inj _ _ _ x y;subst z;exact Ai x (k.l _);exact Ai y (k.l _);rfl
 ·rintro a b x (y|⟨rfl,rfl⟩) hc;exact h.apart _ _ _ y hc;exact k.c _ hc
 rintro a b (x|⟨rfl,rfl⟩) hN;exact h.low _ _ x hN;have:=k.hn;have:=k.hm;omega
section
variable {T:Twin} {F:Fs} {N:Nat} {α β γ δ:Type}
theorem AY.bind'{Q:Rn->α->β->Prop}{Q':Rn->γ->δ->Prop}{f:α->Sem γ}{f':β->Sem δ}:
  ∀{s:Sem α} {ρ:Rn} {s':Sem β},ρ.Ok N->DR T F N Q s ρ s'->(∀ρ' a b,ρ.le ρ'->Q ρ' a b->AY T F N Q' (f a) ρ' (f' b))->DR T F N Q' (s.bind f) ρ (s'.bind f'):=by
 intro s
 induction s with
 |pure a=>intro ρ s' hok h k;cases s'<;>simp only[DR] at h;exact k _ _ _ (.refl _) h hok
 |load m a c ih=>
  (intro ρ s' hok h k;cases s'<;>simp only[DR] at h);obtain⟨h1,h2,h3⟩:=h;exact⟨h1,h2,λx x' hx=>ih x hok (h3 x x' hx) k⟩
 |store m a x c ih=>
  (intro ρ s' hok h k;cases s'<;>simp only[DR] at h);obtain⟨h1,h2,h3,h4⟩:=h;exact⟨h1,h2,h3,ih hok h4 k⟩
 |new o c ih=>
  intro ρ s' hok h k;unfold DR at h;rcases h with h|h;exact gm ⟨h.1,λx=>(h.2 x).bind⟩;(cases s'<;>simp only at h);exact ADL h.1 λn n' hf=>ih n (hok.add hf) (h.2 n n' hf) λρ' a b hl hq=>k ρ' a b ((Rn.U9 _ _ _).trans hl) hq
 |shape b c ih=>
  intro ρ s' hok h k;unfold DR at h;rcases h with h|h;exact Yj λx=>(h x).bind;(cases s'<;>simp only at h);exact aC h.1 λx=>ih x hok (h.2 x) k
 |freeze a n c ih=>intro ρ s' hok h k;exact h.elim
 |frozen a c ih=>
  intro ρ s' hok h k;unfold DR at h;rcases h with h|h;exact Wl λx=>(h x).bind;(cases s'<;>simp only at h);exact Yk h.1 λx=>ih x hok (h.2 x) k
 |getObj b c ih=>
  (intro ρ s' hok h k;cases s'<;>simp only[DR] at h);exact⟨h.1,λo o' ho=>ih o hok (h.2 o o' ho) k⟩
 |setObj b o c ih=>
  (intro ρ s' hok h k;cases s'<;>simp only[DR] at h);obtain⟨h1,h2,h3,h4,h5⟩:=h;exact⟨h1,h2,h3,h4,ih hok h5 k⟩
 |choose q c ih=>
  (intro ρ s' hok h k;cases s'<;>simp only[DR] at h);exact⟨h.1,λx=>ih x hok (h.2 x) k⟩
 |sys c k' ih=>
  intro ρ s' hok h k;(cases c<;>try exact h.elim);(cases s'<;>try exact h.elim);rename_i c₂ k₂;(cases c₂<;>try exact h.elim);exact λx=>ih x hok (h x) k
 |program c ih=>
  intro ρ s' hok h k;rcases h with h|h;exact .inl h.bind;(cases s'<;>simp only at h);exact .inr (ih T.v hok h k)
 |mark m c ih=>
  intro ρ s' hok h k;rcases h with h|h;exact .inl h.bind;(cases s'<;>simp only at h);exact .inr ⟨h.1,h.2.1,ih hok h.2.2 k⟩
 |halt x=>
  intro ρ s' hok h k;cases x<;>simp only[DR,lq] at h
  case panic x=>
   rcases h with h|⟨x',rfl,hx⟩;exact .inl h;exact .inr ⟨x',rfl,hx⟩
  all_goals exact h
theorem AY.bind{Q:Rn->α->β->Prop}{Q':Rn->γ->δ->Prop}{f:α->Sem γ}{f':β->Sem δ}{s:Sem α}{s':Sem β}(h:AY T F N Q s ρ s')
  (k: ∀ρ' a b,ρ.le ρ'->Q ρ' a b->AY T F N Q' (f a) ρ' (f' b)):AY T F N Q' (s>>=f) ρ (s'>>=f'):=λhok=>AY.bind' hok (h hok) k
theorem AY.mono{Q Q':Rn->α->β->Prop}{s:Sem α}{s':Sem β}(h:AY T F N Q s ρ s')(hq: ∀ρ' a b,ρ.le ρ'->Q ρ' a b->Q' ρ' a b):AY T F N Q' s ρ s':=by
 have e1:s.bind Sem.pure=s:=by
  clear h
  induction s with|pure a=>rfl|halt h=>rfl|store m a v k ih=>simp only[JY,ih]|freeze a n k ih=>simp only[JY,ih]|setObj r o k ih=>simp only[JY,ih]|mark m k ih=>simp only[JY,ih]|_=>simp only[JY];congr 1;funext x;apply_assumption
 have e2:s'.bind Sem.pure=s':=by
  clear h
  induction s' with|pure a=>rfl|halt h=>rfl|store m a v k ih=>simp only[JY,ih]|freeze a n k ih=>simp only[JY,ih]|setObj r o k ih=>simp only[JY,ih]|mark m k ih=>simp only[JY,ih]|_=>simp only[JY];congr 1;funext x;apply_assumption
 intro hok;rw[<- e1,<- e2];exact AY.bind' hok (h hok) λρ' a b hl hQ _=>hq ρ' a b hl hQ
end
def LU {α:Type}:Result α->AL
 | .ok _ w=>w| .halt _ w=>w
def aF (ρ:Rn) (e:Bc):Prop:=
 match e.loc with| .cell a=>∃b,ρ.r b a.block| .obj c=>(∃b,ρ.r b c)/\¬(e.write=true/\e.sync=true)| .mark m=>kQ m| .output=>True|_=>False
def Tp (v w:AL) (n:Nat):Prop:=∀i,i<n->∀q,v.tape (v.drawn+i) q=w.tape (w.drawn+i) q
structure Stp (F:Fs) (N:Nat) (ρ ρ':Rn) (v w v' w':AL) (u:Array Bc):Prop where
 le:ρ.le ρ'
 rel:DD F N ρ' v' w'
 sv:v.heap.size<=v'.heap.size
 sw:v'.heap.size+w.heap.size=v.heap.size+w'.heap.size
 new: ∀a b,ρ'.r a b↔ρ.r a b\/(v.heap.size<=a/\a<v'.heap.size/\a+w.heap.size=b+v.heap.size)
 tok:ρ'.c=ρ.c/\ρ'.q=ρ.q
 ZA: ∀a,a<v.heap.size->(∀b,¬ρ.r a b)->v'.heap[a]? =v.heap[a]?
 Rl: ∀b,b<w.heap.size->(∀a,¬ρ.r a b)->w'.heap[b]? =w.heap[b]?
 tv:v'.tape=v.tape/\v'.os=v.os/\v'.output=v.output
 tw:w'.tape=w.tape/\w'.os=w.os/\w'.output=w.output
 drawn:v.drawn<=v'.drawn/\v'.drawn+w.drawn=v.drawn+w'.drawn
 evs: ∀e∈u,aF ρ' e
section
variable {F:Fs} {N:Nat} {ρ ρ' lu:Rn} {v w v' w' v'' w'':AL} {u u':Array Bc}
theorem aF.mono(h:ρ.le ρ'){e:Bc}(k:aF ρ e):aF ρ' e:=by
 unfold aF at k⊢;(split<;>simp_all);obtain⟨b,hb⟩:=k;exact⟨b,h.r _ _ hb⟩;obtain⟨⟨b,hb⟩,k2⟩:=k;exact⟨b,h.r _ _ hb⟩
theorem DD.dom(h:DD F N ρ v w){a:Nat}(k:ρ.r a b):a<v.heap.size/\b<w.heap.size:=by
 obtain⟨o,o',h1,h2,_⟩:=h.obj a b k;exact⟨(Df.1 h1).1,(Df.1 h2).1⟩
theorem DD.AFO(h:DD F N ρ v w){a:Nat}{x:AP}(k:ρ.c a x):a<v.heap.size:=(Df.1 (h.tok a x k)).1
theorem Ud(h: ∀s n a b,ρ.q s n a b->∃B,Ij w B s n a b/\∀c∈B,∀x,¬ρ.r x c)(hz:w.heap.size<=w₁.heap.size)(hk: ∀c,c<w.heap.size->(∀x,¬ρ.r x c)->w₁.heap[c]? =w.heap[c]?)
  (hr: ∀x c,ρ'.r x c->ρ.r x c\/w.heap.size<=c) (hq:ρ'.q=ρ.q): ∀s n a b,ρ'.q s n a b->∃B,Ij w₁ B s n a b/\∀c∈B,∀x,¬ρ'.r x c:=by
 intro s n a b q;obtain⟨B,h1,h2⟩:=h s n a b (by rw[<- hq];exact q);refine⟨B,h1.keep hz λc hc=>hk c (h1.lt c hc) (h2 c hc),λc hc x hx=>?_⟩;rcases hr x c hx with k|k;exact h2 c hc x k;have:=h1.lt c hc;omega
theorem Stp.refl(h:DD F N ρ v w):Stp F N ρ ρ v w v w #[]:=
 ⟨.refl _,h,Ba _,rfl,λa b=>⟨.inl,λx=>x.elim id λy=>by omega⟩,⟨rfl,rfl⟩,λ_ _ _=>rfl,λ_ _ _=>rfl,⟨rfl,rfl,rfl⟩,⟨rfl,rfl,rfl⟩,⟨Ba _,rfl⟩,AV⟩
theorem Stp.trans(h:Stp F N ρ ρ' v w v' w' u)(k:Stp F N ρ' lu v' w' v'' w'' u')(_:DD F N ρ v w):Stp F N ρ lu v w v'' w'' (u++u'):=by
 refine⟨h.le.trans k.le,k.rel,Ci h.sv k.sv,?_,λa b=>?_,⟨k.tok.1.trans h.tok.1,k.tok.2.trans h.tok.2⟩,λa ha hn=>?_,λb hb hn=>?_,⟨k.tv.1.trans h.tv.1,k.tv.2.1.trans h.tv.2.1,k.tv.2.2.trans h.tv.2.2⟩,
  ⟨k.tw.1.trans h.tw.1,k.tw.2.1.trans h.tw.2.1,k.tw.2.2.trans h.tw.2.2⟩,⟨Ci h.drawn.1 k.drawn.1,?_⟩,λe he=>?_⟩
 have:=h.sw;have:=k.sw;omega
 ·rw[k.new,h.new];have h1:=h.sw;have h2:=h.sv;have h3:=k.sv;constructor
  ·rintro ((x|x)|x);exact .inl x;exact .inr Ad;exact .inr Ad
  rintro (x|x);exact .inl (.inl x);by_cases hlt:a<v'.heap.size;exact .inl (.inr Ad);exact .inr Ad
 ·rw[k.ZA a (ER ha h.sv) λb hb=>?_,h.ZA a ha hn];rw[h.new] at hb;rcases hb with hb|hb;exact hn b hb;omega
 ·have h1:=h.sw;have h2:=h.sv;rw[k.Rl b Ad λa ha=>?_,h.Rl b hb hn];rw[h.new] at ha;rcases ha with ha|ha;exact hn a ha;omega
 have:=h.drawn.2;have:=k.drawn.2;omega;rcases JL.1 he with he|he;exact (h.evs e he).mono k.le;exact k.evs e he
end
def Out {α β:Type} (p:Prop) (F:Fs) (N:Nat) (Q:Rn->α->β->Prop) (ρ:Rn) (v w:AL):Result α->(Array Bc->Result β×Array Bc)->Prop
 | .ok a v',f=>∃ρ' b w' u,(∀es,f es=(.ok b w',es++u))/\Q ρ' a b/\Stp F N ρ ρ' v w v' w' u| .halt (.panic x) v',f=>p\/∃ρ' x' w' u,(∀es,f es=(.halt (.panic x') w',es++u))/\Az F ρ' x x'/\Stp F N ρ ρ' v w v' w' u| .halt h _,_=>Halt.still h
theorem Out.step{α β:Type}{p:Prop}{F:Fs}{N:Nat}{Q:Rn->α->β->Prop}{ρ ρ₁:Rn}{v w v₁ w₁:AL}{u₁:Array Bc}(hd:DD F N ρ v w)(h:Stp F N ρ ρ₁ v w v₁ w₁ u₁)
  {r:Result α} {f f':Array Bc->Result β×Array Bc} (hf: ∀es,f es=f' (es++u₁)) (k:Out p F N Q ρ₁ v₁ w₁ r f'):Out p F N Q ρ v w r f:=by
 cases r with
 |ok a v'=>
  obtain⟨ρ',b,w',u,h1,h2,h3⟩:=k;exact⟨ρ',b,w',u₁++u,λes=>by rw[hf,h1,ADA],h2,h.trans h3 hd⟩
 |halt x v'=>
  cases x with
  |panic x=>
   rcases k with k|⟨ρ',b,w',u,h1,h2,h3⟩;exact .inl k;exact .inr ⟨ρ',b,w',u₁++u,λes=>by rw[hf,h1,ADA],h2,h.trans h3 hd⟩
  |_=>exact k
section
variable {T:Twin} {F:Fs} {N:Nat} {α β:Type} {ρ:Rn} {v w:AL}
theorem LV{α:Type}(a:Array α)(i:Nat)(f:α->α)(j:Nat):(a.modify i f)[j]? =if i=j then a[j]?.map f else a[j]? :=by
 by_cases h:i=j;subst h;simp[lL];simp[lL,h]
theorem dR(hW:DD F N ρ v w)(ha:RelA ρ a a'):
  (∃x x',v.cell? a=AA x/\w.cell? a'=AA x'/\Az F ρ x x')\/(v.cell? a=AB/\∀(_:Bool) (what:String),(∃s,v.noCell a what=.stuck s)/\∀b t,v.heap[a.block]? ≠AA (.view b t)):=by
 obtain⟨o,o',h1,h2,ho⟩:=hW.obj _ _ ha.1;obtain⟨_,ho2,ho3⟩:=ha;unfold PU World.noCell;rw[h1,h2]
 cases ho with
 | @cells p p' t fr hp=>
  simp only[ho2,ho3];by_cases hs:a.spot.isSome=true;right;simp[hs];simp only[hs,if_false,C9]
  cases hx:p[a.off]? with
  |none=>right;simp|some x=>
   obtain⟨x',hx',hr⟩:=hp.get hx;left;exact⟨x,x',rfl,hx',hr⟩
 |_=>right;simp
theorem ZB(_:v.cell? a=AB)(h: ∀(_:Bool) (what:String),(∃s,v.noCell a what=.stuck s)/\∀b t,v.heap[a.block]? ≠AA (.view b t))(m:Bool):
  (∃s,v.farLoad T.v a m=.error (.stuck s))/\∀x,∃s,v.farStore T.v a x m=.error (.stuck s):=by
 unfold World.farLoad World.farStore;have hv:=(h true "").2;refine⟨?_,λx=>?_⟩
 ·split
  ·rename_i at_ u heq;exact Ai heq (hv at_ u)
  obtain⟨s,hs⟩:=(h true "load: no such cell").1;exact⟨s,by rw[hs]⟩
 split
 ·rename_i at_ u heq;exact Ai heq (hv at_ u)
 obtain⟨s,hs⟩:=(h true "store: no such cell").1;exact⟨s,by rw[hs]⟩
theorem ADM(hW:DD F N ρ v w)(h:ρ.r b b'):v.shape? b=w.shape? b':=by
 obtain⟨o,o',h1,h2,ho⟩:=hW.obj _ _ h;unfold World.shape?;rw[h1,h2]
 cases ho with|cells hp=>simp[hp.1]|_=>rfl
theorem gp(hW:DD F N ρ v w)(h:RelA ρ a a'):v.frozen? a=w.frozen? a':=by
 obtain⟨o,o',h1,h2,ho⟩:=hW.obj _ _ h.1;unfold World.frozen?;rw[h1,h2,h.2.1];cases ho<;>rfl
theorem DD.put(hW:DD F N ρ v w)(hb:ρ.r b b'){v₁:AL}(ho:Gs F ρ o o')
  (hv:v₁.heap=v.heap.setIfInBounds b o) (hw:w₁.heap=w.heap.setIfInBounds b' o') (hos:w₁.os=v₁.os):DD F N ρ v₁ w₁:=by
 have hlt:=hW.dom hb;refine⟨hW.ok,λx y hxy=>?_,λx y hxy=>?_,by rw[hv];simpa using hW.nv,by rw[hw];simpa using hW.nw,hos,Ud hW.seq (by rw[hw];simp) (λc _ hc=>by rw[hw];exact Dw λ(e:b'=c)=>hc b (e▸hb)) (λ_ _=>.inl) rfl⟩
 ·rw[hv,hw];by_cases hx:b=x
  ·subst hx;obtain rfl:b'=y:=hW.ok.fn _ _ _ hb hxy;refine⟨o,o',?_,?_,ho⟩;rw[WY hlt.1];rw[WY hlt.2]
  have hy:b'≠y:=λe=>hx (hW.ok.inj _ _ _ hb (e▸hxy));rw[Dw hx,Dw hy];exact hW.obj x y hxy
 rw[hv];have hx:b≠x:=λe=>hW.ok.apart _ _ y (e▸hb) hxy;rw[Dw hx];exact hW.tok x y hxy
theorem Stp.put(hW:DD F N ρ v w){b b':Nat}(hb:ρ.r b b'){v₁ w₁:AL}{o o':Obj}(ho:Gs F ρ o o')
  (hv:v₁={v with heap:=v.heap.setIfInBounds b o}) (hw:w₁={w with heap:=w.heap.setIfInBounds b' o'}) {u:Array Bc} (hu: ∀e∈u,aF ρ e):Stp F N ρ ρ v w v₁ w₁ u:=by
 subst hv hw;refine⟨.refl _,hW.put hb ho rfl rfl hW.os,AV,AV,λx y=>⟨.inl,λx=>x.elim id λy=>by simp at y;omega⟩,⟨rfl,rfl⟩,λx _ hn=>?_,λy _ hn=>?_,⟨rfl,rfl,rfl⟩,⟨rfl,rfl,rfl⟩,⟨Ba _,rfl⟩,hu⟩
 ·exact Dw λ(e:b=x)=>hn b' (e▸hb)
 exact Dw λ(e:b'=y)=>hn b (e▸hb)
theorem Stp.events(hW:DD F N ρ v w){u:Array Bc}(hu: ∀e∈u,aF ρ e):Stp F N ρ ρ v w v w u:=
 {Stp.refl hW with evs:=hu}
theorem DD.fresh(hW:DD F N ρ v w):ρ.lh N v.heap.size w.heap.size:=
 ⟨λb hb=>by have:=(hW.dom hb).1;omega,λa ha=>by have:=(hW.dom ha).2;omega,λx hx=>by have:=hW.AFO hx;omega,hW.nv,hW.nw⟩
theorem Stp.alloc(hW:DD F N ρ v w)(ho:Gs F ρ o o'):
  Stp F N ρ (ρ.add v.heap.size w.heap.size) v w {v with heap:=v.heap.push o} {w with heap:=w.heap.push o'} #[]:=by
 (have hsz:(v.heap.push o).size+w.heap.size=v.heap.size+(w.heap.push o').size:=by simp;omega);have hok:(ρ.add v.heap.size w.heap.size).Ok N:=hW.ok.add hW.fresh;refine⟨Rn.U9 _ _ _,⟨hok,?_,λa x hx=>?_,?_,?_,hW.os,Ud hW.seq AV (λc hc _=>by rw[show ({w with heap:=w.heap.push o'}:AL).heap[c]? =(w.heap.push o')[c]? from rfl,Rk hc,FD hc]) (λx c h=>h.imp id λe=>by rw[e.2];exact Ba _) rfl⟩,AV,hsz,λa b=>?_,⟨rfl,rfl⟩,λa ha _=>?_,λb hb _=>?_,⟨rfl,rfl,rfl⟩,⟨rfl,rfl,rfl⟩,⟨Ba _,rfl⟩,AV⟩
 ·rintro a b (h|⟨rfl,rfl⟩)
  ·obtain⟨p,p',h1,h2,h3⟩:=hW.obj a b h;have:=hW.dom h;refine⟨p,p',?_,?_,h3.mono (Rn.U9 _ _ _)⟩;rw[Rk this.1,<- h1,FD this.1];rw[Rk this.2,<- h2,FD this.2]
  exact⟨o,o',AV,AV,ho.mono (Rn.U9 _ _ _)⟩
 ·have:=hW.AFO hx;rw[show ({v with heap:=v.heap.push o}:AL).heap[a]? =(v.heap.push o)[a]? from rfl,Rk this,<- hW.tok a x hx,FD this]
 have:=hW.nv;simp;omega;have:=hW.nw;simp;omega
 ·simp only[Rn.add,ADB];constructor
  ·rintro (h|⟨rfl,rfl⟩);exact .inl h;exact .inr Ad
  rintro (h|h);exact .inl h;exact .inr Ad
 ·show (v.heap.push o)[a]? =_;rw[Rk ha,FD ha]
 show (w.heap.push o')[b]? =_;rw[Rk hb,FD hb]
theorem Stp.draw(hW:DD F N ρ v w):Stp F N ρ ρ v w {v with drawn:=v.drawn+1} {w with drawn:=w.drawn+1} #[]:=by
 refine⟨.refl _,⟨hW.ok,hW.obj,hW.tok,hW.nv,hW.nw,hW.os,Ud hW.seq (Ba _) (λ_ _ _=>rfl) (λ_ _=>.inl) rfl⟩,Ba _,rfl,λa b=>⟨.inl,λx=>x.elim id λy=>?_⟩,⟨rfl,rfl⟩,λ_ _ _=>rfl,λ_ _ _=>rfl,⟨rfl,rfl,rfl⟩,⟨rfl,rfl,rfl⟩,⟨Nat.le_succ _,by simp only;omega⟩,AV⟩;have h1:v.heap.size<=a:=y.1;have h2:a<v.heap.size:=y.2.1;omega
theorem AAl(w:AL):w.sys .env=(.strings w.os.env,w):=by
 obtain⟨h,t,d,os,o⟩:=w;simp[World.sys,Kernel.perform,Kernel.lengthOf,Kernel.named,Kernel.ofKernel,Kernel.stamps,Kernel.each,Kernel.env,World.ask,pure,bind,Ask.bind]
theorem Ue{Q:Rn->α->β->Prop}{s:Sem α}(h:CW T s){f:Array Bc->Result β×Array Bc}:v.drawn<=(LU (s.run T.v v)).drawn/\(Tp v w ((LU (s.run T.v v)).drawn - v.drawn)->Out T.p F N Q ρ v w (s.run T.v v) f):=by
 obtain⟨x,u,e,hs,hd⟩:=CW.run h v;rw[e];refine⟨Nat.le_of_eq hd.symm,λ_=>?_⟩;cases x<;>first|exact hs|exact .inl hs
theorem DR.sound{Q:Rn->α->β->Prop}: ∀{s:Sem α} {ρ:Rn} {s':Sem β},DR T F N Q s ρ s'->∀{v w:AL},DD F N ρ v w->
  v.drawn<=(LU (s.run T.v v)).drawn/\(Tp v w ((LU (s.run T.v v)).drawn - v.drawn)->Out T.p F N Q ρ v w (s.run T.v v) (λes=>s'.runT T.P w es)):=by
 intro s
 induction s with
 |pure a=>
  (intro ρ s' h v w hW;cases s'<;>simp only[DR] at h);rename_i b;exact⟨Ba _,λ_=>⟨ρ,b,w,#[],λes=>by simp[GX],h,.refl hW⟩⟩
 |load m a c ih=>
  (intro ρ s' h v w hW;cases s'<;>simp only[DR] at h);rename_i m' a' c';obtain⟨rfl,ha,hk⟩:=h;rcases dR hW ha with ⟨x,x',h1,h2,hx⟩|⟨hn,hf⟩
  ·(have he:Dq T.v (.load m' a c) v=(c x).run T.v v:=by simp only[Dq,h1]);rw[he];obtain⟨i1,i2⟩:=ih x (hk x x' hx) hW;refine⟨i1,λht=>Out.step hW (Stp.events (u:=#[⟨.cell a',false,m'== .atomic⟩]) hW ?_) (λes=>?_) (i2 ht)⟩;intro e he;simp only[IU,CG] at he;subst he;exact⟨_,ha.1⟩;simp only[GX,h2];simp
  obtain⟨⟨s,hs⟩,_⟩:=ZB (T:=T) hn hf (m'== .atomic);(have he:Dq T.v (.load m' a c) v=.halt (.stuck s) v:=by simp only[Dq,hn,hs]);rw[he];exact⟨Ba _,λ_=>Am⟩
 |store m a x c ih=>
  (intro ρ s' h v w hW;cases s'<;>simp only[DR] at h);rename_i m' a' x' c';obtain⟨rfl,ha,hx,hk⟩:=h;by_cases hagg:(∃p,x=.agg p)\/∃p,x=.tuple p
  ·have he: ∃s,Dq T.v (.store m' a x c) v=.halt (.stuck s) v:=by
    rcases hagg with ⟨p,rfl⟩|⟨p,rfl⟩<;>exact⟨_,by rw[Dq]⟩
   obtain⟨s,he⟩:=he;rw[he];exact⟨Ba _,λ_=>Am⟩
  have hx1: ∀p,x≠ .agg p:=λp e=>hagg (.inl ⟨p,e⟩);have hx2: ∀p,x≠ .tuple p:=λp e=>hagg (.inr ⟨p,e⟩)
  have ARb: ∀p,x'≠ .agg p:=by
   rintro p rfl
   cases hx with|flat hf=>exact hx1 _ rfl|tok hc ht=>cases ht|mf _ hm=>cases hm|agg _ _=>exact hx1 _ rfl
  have ARc: ∀p,x'≠ .tuple p:=by
   rintro p rfl
   cases hx with|flat hf=>exact hx2 _ rfl|tok hc ht=>cases ht|mf _ hm=>cases hm|tuple _ _=>exact hx2 _ rfl
  rcases dR hW ha with ⟨y,y',h1,h2,hy⟩|⟨hn,hf⟩
  ·have hfz:=gp hW ha
   cases hz:v.frozen? a with
   |true=>
    have he: ∃s,Dq T.v (.store m' a x c) v=.halt (.unsupported (.unsafePointer s)) v:=⟨"a write to bytes that a string shares",by
     rw[Dq];simp only[h1,hz,if_true];exact λp e=>hx1 p e
     exact λp e=>hx2 p e⟩
    obtain⟨s,he⟩:=he;rw[he];exact⟨Ba _,λ_=>Am⟩
   |false=>
    rw[hz] at hfz
    have he:Dq T.v (.store m' a x c) v=c.run T.v (v.setCell a x):=by
     rw[Dq];simp[h1,hz];exact λp e=>hx1 p e;exact λp e=>hx2 p e
    have he': ∀es,GX T.P (.store m' a' x' c') w es=c'.runT T.P (w.setCell a' x') (es.push ⟨.cell a',true,m'== .atomic⟩):=λes=>by
     rw[GX];simp[h2,<- hfz]
     ·exact λp e=>ARb p e
     exact λp e=>ARc p e
    rw[he];obtain⟨o,o',g1,g2,ho⟩:=hW.obj _ _ ha.1
    have hst:Stp F N ρ ρ v w (v.setCell a x) (w.setCell a' x') #[⟨.cell a',true,m'== .atomic⟩]:=by
     have hspot:a.spot.isSome=false:=by
      unfold PU at h1;rw[g1] at h1
      cases hsp:a.spot.isSome with|false=>rfl|true=>cases o<;>simp[hsp] at h1
     have hlt:=hW.dom ha.1
     cases ho with
     | @cells p p' t fr hp=>
      refine Stp.put hW ha.1 (o:=.cells (p.setIfInBounds a.off x) t fr) (o':=.cells (p'.setIfInBounds a'.off x') t fr) (.cells ?_) ?_ ?_ ?_;rw[ha.2.1];exact hp.set hx _
      ·unfold Xw;congr 1;apply Y4;intro i;rw[LV];by_cases hi:a.block=i;subst hi;rw[BZ rfl,g1,WY hlt.1];simp[hspot];rw[BM hi,Dw hi]
      ·unfold Xw;congr 1;apply Y4;intro i;rw[LV];by_cases hi:a'.block=i;subst hi;rw[BZ rfl,g2,WY hlt.2];simp[ha.2.2,hspot];rw[BM hi,Dw hi]
      intro e he;simp only[IU,CG] at he;subst he;exact⟨_,ha.1⟩
     |_=>unfold PU at h1;rw[g1] at h1;simp at h1
    obtain⟨i1,i2⟩:=ih hk hst.rel;exact⟨i1,λht=>Out.step hW hst (λes=>by rw[he'];simp) (i2 ht)⟩
  obtain⟨_,hs⟩:=ZB (T:=T) hn hf (m'== .atomic);obtain⟨s,hs⟩:=hs x
  have he:Dq T.v (.store m' a x c) v=.halt (.stuck s) v:=by
   rw[Dq];simp only[hn,hs];exact λp e=>hx1 p e;exact λp e=>hx2 p e
  rw[he];exact⟨Ba _,λ_=>Am⟩
 |new o c ih=>
  intro ρ s' h v w hW;unfold DR at h;rcases h with h|h;exact Ue (s:=.new o c) h;(cases s'<;>simp only at h);rename_i o' c';have hst:=Stp.alloc hW h.1;obtain⟨i1,i2⟩:=ih _ (h.2 v.heap.size w.heap.size hW.fresh) hst.rel;exact⟨i1,λht=>Out.step hW hst (λes=>by simp[GX]) (i2 ht)⟩
 |shape b c ih=>
  intro ρ s' h v w hW;unfold DR at h;rcases h with h|h;exact Ue (s:=.shape b c) h;(cases s'<;>simp only at h);rename_i b' c';have hs:=ADM hW h.1;obtain⟨i1,i2⟩:=ih (v.shape? b) (h.2 _) hW;exact⟨i1,λht=>Out.step hW (.refl hW) (λes=>by simp[GX,hs]) (i2 ht)⟩
 |freeze a n c ih=>intro ρ s' h;exact h.elim
 |frozen a c ih=>
  intro ρ s' h v w hW;unfold DR at h;rcases h with h|h;exact Ue (s:=.frozen a c) h;(cases s'<;>simp only at h);rename_i a' c';have hs:=gp hW h.1;obtain⟨i1,i2⟩:=ih (v.frozen? a) (h.2 _) hW;exact⟨i1,λht=>Out.step hW (.refl hW) (λes=>by simp[GX,hs]) (i2 ht)⟩
 |getObj b c ih=>
  (intro ρ s' h v w hW;cases s'<;>simp only[DR] at h);rename_i b' c';obtain⟨o,o',g1,g2,ho⟩:=hW.obj _ _ h.1;by_cases hc: ∃p t f,o=.cells p t f
  ·obtain⟨p,t,f,rfl⟩:=hc;(have he:Dq T.v (.getObj b c) v=.halt (.stuck "getObj: a row of cells") v:=by simp only[Dq,g1]);rw[he];exact⟨Ba _,λ_=>Am⟩
  have hc': ∀p t f,o'≠ .cells p t f:=by
   rintro p t f rfl;(cases ho);exact hc ⟨_,_,_,rfl⟩
  have he:Dq T.v (.getObj b c) v=(c o).run T.v v:=by
   simp only[Dq,g1];split
   ·rename_i heq;cases heq;exact Ai ⟨_,_,_,rfl⟩ hc
   ·rename_i heq;cases heq;rfl
   rename_i heq;cases heq
  have he': ∀es,GX T.P (.getObj b' c') w es=(c' o').runT T.P w (es.push ⟨.obj b',false,o'.isChan⟩):=λes=>by
   simp only[GX,g2]
   all_goals
    split
    ·rename_i heq;cases heq;exact Ai rfl (hc' _ _ _)
    ·rename_i heq;cases heq;rfl
    rename_i heq;cases heq
  rw[he];obtain⟨i1,i2⟩:=ih o (h.2 o o' ho) hW;refine⟨i1,λht=>Out.step hW (Stp.events (u:=#[⟨.obj b',false,o'.isChan⟩]) hW ?_) (λes=>?_) (i2 ht)⟩;intro e he;simp only[IU,CG] at he;subst he;exact⟨⟨_,h.1⟩,AV⟩;rw[he'];simp
 |setObj b o c ih=>
  (intro ρ s' h v w hW;cases s'<;>simp only[DR] at h);rename_i b' o₂ c';obtain⟨hb,ho,hch,hnc,hk⟩:=h;obtain⟨p,p',g1,g2,hp⟩:=hW.obj _ _ hb;(have hch':o₂.isChan=false:=by cases ho<;>simp_all [Obj.isChan]);by_cases hc: ∃q t f,p=.cells q t f
  ·obtain⟨q,t,f,rfl⟩:=hc;(have he:Dq T.v (.setObj b o c) v=.halt (.stuck "setObj: a row of cells") v:=by simp only[Dq,g1]);rw[he];exact⟨Ba _,λ_=>Am⟩
  have hc': ∀q t f,p'≠ .cells q t f:=by
   rintro q t f rfl;(cases hp);exact hc ⟨_,_,_,rfl⟩
  have he:Dq T.v (.setObj b o c) v=c.run T.v {v with heap:=v.heap.setIfInBounds b o}:=by
   simp only[Dq,g1];split
   ·rename_i heq;cases heq;exact Ai ⟨_,_,_,rfl⟩ hc
   rfl;rename_i heq;cases heq
  have he': ∀es,GX T.P (.setObj b' o₂ c') w es=c'.runT T.P {w with heap:=w.heap.setIfInBounds b' o₂} (es.push ⟨.obj b',true,o₂.isChan⟩):=λes=>by
   simp only[GX,g2]
   all_goals
    split
    ·rename_i heq;cases heq;exact Ai rfl (hc' _ _ _)
    rfl;rename_i heq;cases heq
  rw[he]
  have hst:Stp F N ρ ρ v w {v with heap:=v.heap.setIfInBounds b o} {w with heap:=w.heap.setIfInBounds b' o₂} #[⟨.obj b',true,o₂.isChan⟩]:=
   Stp.put hW hb ho rfl rfl (by intro e he;simp only[IU,CG] at he;subst he;exact⟨⟨_,hb⟩,by simp[hch']⟩)
  obtain⟨i1,i2⟩:=ih hk hst.rel;exact⟨i1,λht=>Out.step hW hst (λes=>by rw[he'];simp) (i2 ht)⟩
 |choose q c ih=>
  (intro ρ s' h v w hW;cases s'<;>simp only[DR] at h);rename_i q' c';obtain⟨rfl,hk⟩:=h
  cases hq:q'.forced with
  |true=>
   (have he:Dq T.v (.choose q' c) v=(c 0).run T.v v:=by simp only[Dq,hq,if_true]);rw[he];obtain⟨i1,i2⟩:=ih 0 (hk 0) hW;exact⟨i1,λht=>Out.step hW (.refl hW) (λes=>by simp[GX,hq]) (i2 ht)⟩
  |false=>
   (have he:Dq T.v (.choose q' c) v=(c (q'.cut (v.tape v.drawn q'))).run T.v {v with drawn:=v.drawn+1}:=by simp[Dq,hq]);rw[he];have hst:=Stp.draw hW;obtain⟨i1,i2⟩:=ih (q'.cut (v.tape v.drawn q')) (hk _) hst.rel;have i1':v.drawn+1<=(LU ((c (q'.cut (v.tape v.drawn q'))).run T.v {v with drawn:=v.drawn+1})).drawn:=i1;refine⟨Ad,λht=>?_⟩;have e0:v.tape v.drawn q'=w.tape w.drawn q':=ht 0 Ad q';refine Out.step hW hst (f':=λes=>(c' (q'.cut (v.tape v.drawn q'))).runT T.P {w with drawn:=w.drawn+1} es) (λes=>by simp[GX,hq,e0]) (i2 λi hi q=>?_);have:=ht (i+1) (by simp only at hi;omega) q;simp only;rw[U4,lM 1 i,U4,lM 1 i];exact this
 |sys c k ih=>
  intro ρ s' h v w hW;(cases c<;>try exact h.elim);(cases s'<;>try exact h.elim);rename_i c₂ k₂;(cases c₂<;>try exact h.elim);(have he:Dq T.v (.sys .env k) v=(k (.strings v.os.env)).run T.v v:=by simp only[Dq,AAl]);rw[he];obtain⟨i1,i2⟩:=ih (.strings v.os.env) (h _) hW;refine⟨i1,λht=>Out.step hW (Stp.events (u:=#[⟨.output,true,false⟩]) hW ?_) (λes=>?_) (i2 ht)⟩;intro e he;simp only[IU,CG] at he;subst he;trivial;simp only[GX,AAl,hW.os];simp
 |program c ih=>
  intro ρ s' h v w hW;rcases h with h|h;exact Ue (s:=.program c) h;(cases s'<;>simp only at h);rename_i c';obtain⟨i1,i2⟩:=ih T.v h hW;exact⟨i1,λht=>Out.step hW (.refl hW) (λes=>by simp[GX]) (i2 ht)⟩
 |mark m c ih=>
  intro ρ s' h v w hW;rcases h with h|h;exact Ue (s:=.mark m c) h;(cases s'<;>simp only at h);rename_i m' c';obtain⟨rfl,hm,hk⟩:=h;obtain⟨i1,i2⟩:=ih hk hW;refine⟨i1,λht=>Out.step hW (Stp.events (u:=#[⟨.mark m',false,true⟩]) hW ?_) (λes=>by simp[GX]) (i2 ht)⟩;intro e he;simp only[IU,CG] at he;subst he;exact hm
 |halt x=>
  intro ρ s' h v w hW;cases x<;>simp only[DR,lq] at h
  case panic x=>
   rcases h with h|⟨x',rfl,hx⟩;exact⟨Ba _,λ_=>.inl h⟩;exact⟨Ba _,λ_=>.inr ⟨ρ,x',w,#[],λes=>by simp[GX],hx,.refl hW⟩⟩
  all_goals exact⟨Ba _,λ_=>h⟩
end
end
end Go.Proofs.YtkkgcebhfghdnaaGreatDoor
