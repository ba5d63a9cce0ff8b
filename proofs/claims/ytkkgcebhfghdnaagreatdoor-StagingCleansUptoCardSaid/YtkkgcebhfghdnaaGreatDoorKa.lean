/- Part 1 of what that rests on; no condition. -/
import Derived.Conc.Beside
import Derived.Lib.Hide
set_option maxRecDepth 100000
set_option maxHeartbeats 8000000
namespace Go.Proofs.YtkkgcebhfghdnaaGreatDoor
open Go
theorem Ap{p:Prop}(h:p:=by kernel_rfl):p:=h
theorem Ac{p:Prop}(h:p:=by omega):p:=h
theorem AY{p:Prop}(h:p:=by simp):p:=h
theorem Az{p:Prop}(h:p:=by decide):p:=h
theorem EY{α β:Type}{p:α→Prop}{f:α→β}:∀x,p x→f x∉([]:List β):=fun _ _=>List.not_mem_nil
theorem CU{p:Prop}(h:false=true):p:=by cases h
theorem AQ{p:Prop}(h:p):Go.RowKit.Hid p:=Lib.hid h
abbrev AP:=@Nat.le_refl
abbrev BK:=@Array.getElem?_eq_some_iff
abbrev Ba:=@Array.getElem?_eq_getElem
abbrev Eb:=@Array.getD_eq_getD_getElem?
abbrev N8:=@Array.getElem?_setIfInBounds
abbrev ASW:=@Array.getElem?_push
abbrev aT:=@Array.getElem?_append
abbrev aU:=@Array.getElem?_extract
abbrev aV:=@Array.getElem?_replicate
abbrev Jy:=@Array.mem_of_getElem?
abbrev Dl:=@Array.getElem?_map
abbrev DV:=@Option.map_eq_some_iff
abbrev Ah:=@Nat.le_trans
abbrev BU:=@Nat.lt_of_lt_of_le
abbrev Ce:=@Array.mem_append
abbrev PQ:=@Array.append_assoc
abbrev Jz:=@Array.getElem?_modify
abbrev Ak:=@Bool.false_eq_true
abbrev BO:=@Array.getElem?_setIfInBounds_ne
abbrev F9:=@Array.getElem?_setIfInBounds_self_of_lt
abbrev Ey:=@Array.getElem?_push_lt
abbrev PR:=@Array.size_push
abbrev Bv:=@List.mem_toArray
abbrev Ad:=@List.mem_singleton
abbrev G7:=@Array.ext_getElem?
abbrev Fj:=@Nat.add_assoc
abbrev LK:=@Nat.add_comm
abbrev F6:=@Array.all_eq_true'
abbrev Il:=@List.length_eq_zero_iff
abbrev EW:=@Prod.mk.injEq
abbrev LM:=@Array.foldl_toList
abbrev aW:=@Array.toList_zipIdx
abbrev PS:=@Array.mapM_eq_mapM_toList
abbrev PT:=@List.mapM_cons
abbrev PU:=@Nat.le_zero
abbrev J3:=@Bool.eq_iff_iff
abbrev KL:=@Nat.zero_mul
abbrev EX:=@List.getElem?_toArray
abbrev aX:=@Bool.not_false
abbrev LP:=@Classical.not_not
abbrev Ky:=@Iff.rfl
abbrev Kz:=@Bool.not_true
abbrev Fh:=@Option.bind_eq_some_iff
abbrev BD:=@Option.some.injEq
abbrev CO:=@List.all_eq_true
abbrev GG:=@List.mem_range
abbrev BF:=@Bool.and_eq_true
abbrev LQ:=@Array.mem_toList_iff
abbrev GH:=@Bool.or_eq_true
abbrev BZ:=@List.mem_cons_self
abbrev Aj:=@List.mem_cons_of_mem
abbrev G8:=@Array.getElem?_toList
abbrev Io:=@List.filter_cons
abbrev Ip:=@Array.toList_filter
abbrev aY:=@Array.toList_append
abbrev Hr:=@Array.toList_map
abbrev BQ:=@Option.some.inj
abbrev LC:=@Array.getElem?_append_left
abbrev LD:=@Array.size_append
abbrev CG:=@List.size_toArray
abbrev PV:=@List.forIn_cons
abbrev LG:=@Array.all_append
abbrev LU:=@Array.size_map
abbrev Dx:=@Nat.zero_add
abbrev Ht:=@Array.getElem?_append_right
abbrev GI:=@Array.getElem?_eq_none
abbrev BX:=@List.map_toArray
abbrev AL:=@List.map_cons
abbrev BC:=@List.map_nil
abbrev PX:=@Array.mem_def
abbrev aZ:=@Bool.and_eq_true_iff
abbrev Hu:=@Bool.not_eq_true'
abbrev ae:=@List.getElem?_range
abbrev Dy:=@List.getElem?_append_left
abbrev Aa:=@List.mem_of_getElem?
abbrev I4:=@List.mem_filter
abbrev AA:=@List.mem_cons
abbrev DJ:=@List.cons.injEq
abbrev AU:=@List.mem_append
abbrev BP:=@Nat.zero_le
abbrev I5:=@Classical.axiomOfChoice
abbrev Dw:=@List.append_cancel_right
abbrev QR:=@Array.mk.injEq
abbrev LH:=@Classical.byContradiction
abbrev Gg:=@Nat.lt_or_ge
abbrev QS:=@Nat.le_total
abbrev af:=@Nat.exists_eq_add_of_le
abbrev CJ:=@Ne.symm
abbrev LJ:=@Array.mem_iff_getElem
abbrev EM:=@Nat.eq_zero_or_pos
abbrev AB:=@List.not_mem_nil
abbrev dO:=@Array.getElem_extract
abbrev Dz:=@List.mem_map_of_mem
abbrev Ag:=@List.mem_map
abbrev Af:=@List.getElem?_eq_getElem
abbrev Bf:=@List.map_append
abbrev Bq:=@List.map_map
abbrev Bh:=@List.mem_append_left
abbrev Bi:=@List.mem_append_right
abbrev I7:=@Bool.not_eq_true
abbrev CB:=@List.length_take
abbrev DK:=@Nat.min_eq_left
abbrev Ez:=@Nat.mul_le_mul_right
abbrev LV:=@List.getElem?_take
abbrev E5:=@List.eq_nil_of_length_eq_zero
abbrev TP:=@List.length_set
abbrev Tn:=@Array.size_setIfInBounds
abbrev Tq:=@Array.toList_setIfInBounds
abbrev Tt:=@List.take_set
abbrev Hw:=@List.take_take
abbrev E8:=@List.length_drop
abbrev LW:=@List.getElem?_drop
abbrev JH:=@Nat.add_mul
abbrev Gh:=@List.drop_eq_getElem_cons
abbrev Bj:=@List.getElem?_append_right
abbrev CS:=@List.getElem?_eq_none
abbrev DT:=@Nat.sub_self
abbrev AV:=@List.getElem?_map
abbrev BB:=@List.getElem?_eq_some_iff
abbrev D6:=@List.ext_getElem?
abbrev En:=@List.idxOf?_cons
abbrev Eo:=@List.getElem?_of_mem
abbrev EN:=@List.nodup_append
abbrev Hz:=@List.map_set
abbrev Gi:=@List.getElem?_set
abbrev JV:=@List.mem_or_eq_of_mem_set
abbrev LX:=@Array.toList_push
abbrev LY:=@List.eraseIdx_sublist
abbrev FC:=@List.take_add_one
abbrev Bc:=@List.take_of_length_le
abbrev Tu:=@List.getElem?_replicate
abbrev Lj:=@Nat.mod_one
abbrev Ll:=@List.take_left'
abbrev D7:=@Nat.mul_one
abbrev AEe:=@List.length_replicate
abbrev JW:=@List.flatten_append
abbrev DU:=@List.length_append
abbrev Dt:=@List.append_assoc
abbrev Gs:=@List.take_append_drop
abbrev D8:=@List.map_take
abbrev FI:=@Nat.le_of_lt
abbrev JX:=@List.filter_eq_self
abbrev DW:=@List.nodup_cons
abbrev EF:=@List.Perm.refl
abbrev MR:=@List.lt_irrefl
abbrev Tv:=@List.le_iff_lt_or_eq
abbrev VG:=@List.Pairwise.sublist
abbrev EI:=@List.pairwise_cons
abbrev F8:=@List.flatMap_cons
abbrev Bd:=@List.mem_flatMap
abbrev JY:=@List.mem_nil_iff
abbrev VH:=@List.flatMap_append
abbrev EK:=@List.append_nil
abbrev AEf:=@Bool.and_eq_false_iff
abbrev ES:=@List.map_congr_left
abbrev BH:=@List.length_map
abbrev Jn:=@List.length_filter_le
abbrev VI:=@List.perm_ext_iff_of_nodup
abbrev Js:=@List.pairwise_iff_getElem
abbrev IM:=@List.pairwise_append
abbrev DX:=@List.mem_flatten
abbrev CW:=@List.getD_eq_getElem?_getD
abbrev Jt:=@List.filter_congr
abbrev MV:=@Option.isSome_map
abbrev IP:=@List.Perm.append_left
abbrev VJ:=@Nat.mul_le_mul
abbrev VK:=@Option.isSome_iff_exists
abbrev IQ:=@List.filter_append
abbrev Gz:=@List.drop_drop
abbrev VL:=@List.take_length
abbrev AEg:=@List.getElem?_set_self
abbrev VM:=@List.getElem?_modify
abbrev AEh:=@List.getElem?_set_ne
abbrev Ju:=@List.filter_map
abbrev MW:=@Bool.or_eq_false_iff
abbrev Jv:=@List.sum_append
abbrev VN:=@List.getElem?_take_of_lt
abbrev Et:=@List.drop_of_length_le
abbrev Ib:=@Nat.mod_lt
abbrev MX:=@Nat.mod_two_eq_zero_or_one
abbrev AEi:=@List.take_nil
abbrev Jw:=@List.drop_zero
abbrev VO:=@List.drop_succ_cons
abbrev Ic:=@Array.ext
abbrev DY:=@Array.replicate_succ
abbrev DZ:=@List.push_toArray
abbrev Df:=@List.append_toArray
abbrev Ik:=@Nat.ne_of_lt
abbrev VP:=@Nat.not_lt_zero
abbrev Dq:=@List.contains_iff_mem
abbrev VQ:=@ByteArray.data_extract
abbrev VR:=@Array.toList_extract
abbrev MZ:=@Nat.lt_succ_of_lt
abbrev Mc:=@Array.sizeOf_lt_of_mem
abbrev NL:=@List.getElem?_eq_none_iff
abbrev VT:=@List.length_pos_iff
abbrev Dk:=@Prod.ext
abbrev VU:=@List.mem_of_mem_take
abbrev VV:=@List.map_eq_singleton_iff
open Go.Conc
structure Rn where
 r:Nat->Nat->Prop
 c:Nat->Value->Prop
 q:ByteArray->Int->Nat->Nat->Prop
structure Rn.le (ρ ρ':Rn):Prop where
 r: ∀a b,ρ.r a b->ρ'.r a b
 c: ∀a x,ρ.c a x->ρ'.c a x
 q: ∀s n a b,ρ.q s n a b->ρ'.q s n a b
theorem Rn.le.refl(ρ:Rn):ρ.le ρ:=⟨λ_ _ h=>h,λ_ _ h=>h,λ_ _ _ _ h=>h⟩
theorem Rn.le.trans{a b c:Rn}(h:a.le b)(k:b.le c):a.le c:=⟨λ_ _ x=>k.r _ _ (h.r _ _ x),λ_ _ x=>k.c _ _ (h.c _ _ x),λ_ _ _ _ x=>k.q _ _ _ _ (h.q _ _ _ _ x)⟩
def Rn.add (ρ:Rn) (n m:Nat):Rn:={r:=λa b=>ρ.r a b\/(a=n/\b=m),c:=ρ.c,q:=ρ.q}
theorem Rn.Uc(ρ:Rn)(n m:Nat):ρ.le (ρ.add n m):=⟨λ_ _ h=>.inl h,λ_ _ h=>h,λ_ _ _ _ h=>h⟩
def RelA (ρ:Rn) (a a':Addr):Prop:=ρ.r a.block a'.block/\a'.off=a.off/\a'.spot=a.spot
theorem RelA.mono{ρ ρ':Rn}(h:ρ.le ρ'){a a':Addr}(k:RelA ρ a a'):RelA ρ' a a':=⟨h.r _ _ k.1,k.2⟩
theorem RelA.add{ρ:Rn}{a a':Addr}(k:RelA ρ a a')(n:Nat):RelA ρ (a.add n) (a'.add n):=by
 obtain⟨b,o,s⟩:=a;obtain⟨b',o',s'⟩:=a';obtain⟨h1,h2,h3⟩:=k;simp only at h1 h2 h3;subst h2 h3;unfold Addr.add;split;exact⟨h1,rfl,rfl⟩;exact⟨h1,rfl,rfl⟩
def flat:Value->Bool
 | .bool _| .int _ _| .string _=>true| .pointer none| .slice none _ _| .map none| .chan none| .nilFunc| .nilIface=>true|_=>false
def jU:Value->Bool
 | .func (.method _) _ _=>false| .slice (some _) 0 0=>false| .pointer (some _)| .slice (some _) _ _| .map (some _)| .chan (some _)| .func _ _ _| .iface _ _| .float _ _| .complex _ _ _=>true|_=>false
def ABi:Value->Bool
 | .slice (some _) 0 0=>true|_=>false
def XQ:Value->Bool
 | .func (.method _) _ _=>true|_=>false
def jV (b:Nat):Value:=.func (.method "") #[.iface 0 (.chan (some b))] #[]
structure Fb where
 c:FuncId->Bool
 v:FuncId->Bool
 l:Bool
 d:Bool
 m:Nat
 a:FuncId->Option Nat
 lr:FuncId->Bool:=λ_=>false
 e:FuncId->Bool:=λ_=>false
 h:Bool:=true
 ch:Option FuncId:=none
 cp:Option FuncId:=none
instance:CoeFun Fb (λ_=>FuncId->Bool):=⟨Fb.c⟩
def Fb.small:Fb:={c:=λ_=>false,v:=λ_=>false,l:=false,d:=false,m:=0,a:=λ_=>none,h:=false}
structure Fs where
 f:FuncId->Prop
 v:FuncId->Prop
 c:Code->Prop
 r:FuncId->Prop
 z:FuncId
 m:Nat
 a:FuncId->Nat->Prop
 d:Prop
 p:Prop
 e:FuncId->Prop
 h:Prop
 dk:FuncId->Array Value->Prop
instance:CoeFun Fs (λ_=>FuncId->Prop):=⟨Fs.f⟩
structure Fs.le0 (F F':Fs):Prop where
 f: ∀x,F x->F' x
 v: ∀x,F.v x->F'.v x
 c: ∀x,F.c x->F'.c x
 r: ∀x,F.r x->F'.r x
 z:F'.z=F.z
 m:F.m<=F'.m
 a: ∀f n,F.a f n->F'.a f n
 d:F.d->F'.d
 e: ∀f,F.e f->F'.e f
 h:F.h->F'.h
structure Fs.le (F F':Fs):Prop extends Fs.le0 F F' where
 p:F.p->F'.p
theorem Fs.le.refl(F:Fs):F.le F:=⟨⟨λ_ h=>h,λ_ h=>h,λ_ h=>h,λ_ h=>h,rfl,AP _,λ_ _ h=>h,λh=>h,λ_ h=>h,λh=>h⟩,λh=>h⟩
def FD (z:FuncId) (s:ByteArray) (n:Int):Value:=.func (.func z) #[] #[.string s,.int .i64 n]
def qV (z:FuncId) (a b:Nat):Value:=.func (.func z) #[] #[.pointer (some ⟨a,0,none⟩),.pointer (some ⟨b,0,none⟩)]
inductive Au (F:Fs) (ρ:Rn):Value->Value->Prop
 |flat {v:Value}:flat v=true->Au F ρ v v|ptr {a a':Addr}:RelA ρ a a'->Au F ρ (.pointer (some a)) (.pointer (some a'))|slice {a a':Addr} {n k:Nat}:RelA ρ a a'->Au F ρ (.slice (some a) n k) (.slice (some a') n k)|emp {b:Nat} {a:Addr}:ρ.c b (.slice (some a) 0 0)->Au F ρ (.slice (some ⟨b,0,none⟩) 0 0) (.slice (some a) 0 0)|map {b b':Nat}:ρ.r b b'->Au F ρ (.map (some b)) (.map (some b'))|chan {b b':Nat}:ρ.r b b'->Au F ρ (.chan (some b)) (.chan (some b'))|tok {b:Nat} {x:Value}:ρ.c b x->jU x=true->(F.p\/x=.chan (some b))->Au F ρ (.chan (some b)) x
 |func {f:FuncId} {p p' q q':Array Value}:F f->F.v f->p.size=p'.size->(∀(i:Nat) (v v':Value),p[i]? =some v->p'[i]? =some v'->Au F ρ v v')->
   q.size=q'.size->(∀(i:Nat) (v v':Value),q[i]? =some v->q'[i]? =some v'->Au F ρ v v')->Au F ρ (.func (.func f) p q) (.func (.func f) p' q')
 |yield {l l':Nat}:ρ.r l l'->Au F ρ (.func (.yield l) #[] #[]) (.func (.yield l') #[] #[])|seq {s:ByteArray} {n:Int} {a b:Nat}:ρ.q s n a b->Au F ρ (FD F.z s n) (qV F.z a b)|mf {b:Nat} {x:Value}:ρ.c b x->XQ x=true->Au F ρ (jV b) x|iface {t:TypeId} {v v':Value}:Au F ρ v v'->Au F ρ (.iface t v) (.iface t v')|agg {p p':Array Value}:p.size=p'.size->(∀(i:Nat) (v v':Value),p[i]? =some v->p'[i]? =some v'->Au F ρ v v')->Au F ρ (.agg p) (.agg p')|tuple {p p':Array Value}:p.size=p'.size->(∀(i:Nat) (v v':Value),p[i]? =some v->p'[i]? =some v'->Au F ρ v v')->Au F ρ (.tuple p) (.tuple p')
def Ar (F:Fs) (ρ:Rn) (p p':Array Value):Prop:=p.size=p'.size/\∀(i:Nat) (v v':Value),p[i]? =some v->p'[i]? =some v'->Au F ρ v v'
section
variable {F F':Fs} {ρ ρ':Rn}
theorem Au.mono'(hF:F.le F')(h:ρ.le ρ'){v v':Value}(k:Au F ρ v v'):Au F' ρ' v v':=by
 induction k with|flat hf=>exact .flat hf|ptr ha=>exact .ptr (ha.mono h)|slice ha=>exact .slice (ha.mono h)|emp hc=>exact .emp (h.c _ _ hc)|map hb=>exact .map (h.r _ _ hb)|chan hb=>exact .chan (h.r _ _ hb)|tok hc ht hp=>exact .tok (h.c _ _ hc) ht (hp.imp hF.p id)|func hf hv h1 _ h2 _ i1 i2=>exact .func (hF.f _ hf) (hF.v _ hv) h1 i1 h2 i2|yield hl=>exact .yield (h.r _ _ hl)|seq hq=>rw[<- hF.z];exact .seq (h.q _ _ _ _ hq)|mf hx hm=>exact .mf (h.c _ _ hx) hm|iface _ i=>exact .iface i|agg h1 _ i=>exact .agg h1 i|tuple h1 _ i=>exact .tuple h1 i
theorem Au.mono(h:ρ.le ρ'){v v':Value}(k:Au F ρ v v'):Au F ρ' v v':=k.mono' (.refl _) h
theorem Ar.mono'(hF:F.le F')(h:ρ.le ρ'){p p':Array Value}(k:Ar F ρ p p'):Ar F' ρ' p p':=⟨k.1,λi v v' h1 h2=>(k.2 i v v' h1 h2).mono' hF h⟩
theorem Ar.mono(h:ρ.le ρ'){p p':Array Value}(k:Ar F ρ p p'):Ar F ρ' p p':=k.mono' (.refl _) h
theorem Au.undef:Au F ρ undef undef:=.tuple rfl λi v v' h=>by simp at h
theorem Ar.nil:Ar F ρ #[] #[]:=⟨rfl,λi v v' h=>by simp at h⟩
theorem Ar.get{p p':Array Value}(h:Ar F ρ p p'){i:Nat}{v:Value}(hv:p[i]? =some v): ∃v',p'[i]? =some v'/\Au F ρ v v':=by
 have hi:i<p.size:=(BK.1 hv).1;have hi':i<p'.size:=h.1▸hi;exact⟨p'[i],Ba hi',h.2 i v _ hv (Ba hi')⟩
theorem Ar.none{p p':Array Value}(h:Ar F ρ p p'){i:Nat}(hv:p[i]? =none):p'[i]? =none:=by
 rw[Array.getElem?_eq_none_iff] at hv⊢;rw[<- h.1];exact hv
theorem Ar.getD{p p':Array Value}(h:Ar F ρ p p')(i:Nat):Au F ρ (p.getD i undef) (p'.getD i undef):=by
 rw[Eb,Eb]
 cases hv:p[i]? with
 |none=>rw[h.none hv];exact .undef|some v=>
  obtain⟨v',hv',hr⟩:=h.get hv;rw[hv'];exact hr
theorem Ar.set{p p':Array Value}(h:Ar F ρ p p'){v v':Value}(hv:Au F ρ v v')(i:Nat):Ar F ρ (p.setIfInBounds i v) (p'.setIfInBounds i v'):=by
 refine⟨by simpa using h.1,λj x x' hx hx'=>?_⟩;rw[N8] at hx hx';by_cases hij:i=j
 ·subst hij;simp only[if_true] at hx hx';split at hx
  ·split at hx'
   ·cases hx;cases hx';exact hv
   cases hx'
  cases hx
 simp only[hij,if_false] at hx hx';exact h.2 j x x' hx hx'
theorem Ar.push{p p':Array Value}(h:Ar F ρ p p'){v v':Value}(hv:Au F ρ v v'):Ar F ρ (p.push v) (p'.push v'):=by
 refine⟨by simpa using h.1,λj x x' hx hx'=>?_⟩;rw[ASW] at hx hx';rw[<- h.1] at hx';split at hx
 ·rename_i hj;simp only[hj,if_true] at hx';cases hx;cases hx';exact hv
 rename_i hj;simp only[hj,if_false] at hx';exact h.2 j x x' hx hx'
theorem Ar.append{p p' q q':Array Value}(h:Ar F ρ p p')(k:Ar F ρ q q'):Ar F ρ (p++q) (p'++q'):=by
 refine⟨by simp[h.1,k.1],λj x x' hx hx'=>?_⟩;rw[aT] at hx hx';rw[<- h.1] at hx';split at hx
 ·rename_i hj;simp only[hj,if_true] at hx';exact h.2 j x x' hx hx'
 rename_i hj;simp only[hj,if_false] at hx';exact k.2 _ x x' hx hx'
theorem Ar.extract{p p':Array Value}(h:Ar F ρ p p')(i j:Nat):Ar F ρ (p.extract i j) (p'.extract i j):=by
 refine⟨by simp[h.1],λn x x' hx hx'=>?_⟩;rw[aU] at hx hx';split at hx
 ·split at hx'
  ·exact h.2 _ x x' hx hx'
  cases hx'
 cases hx
theorem Ar.replicate{v v':Value}(hv:Au F ρ v v')(n:Nat):Ar F ρ (Array.replicate n v) (Array.replicate n v'):=by
 refine⟨AY,λj x x' hx hx'=>?_⟩;rw[aV] at hx hx';split at hx
 ·rename_i hj;simp only[hj,if_true] at hx';cases hx;cases hx';exact hv
 cases hx
theorem Ar.one{v v':Value}(hv:Au F ρ v v'):Ar F ρ #[v] #[v']:=by
 have:=(Ar.nil (F:=F) (ρ:=ρ)).push hv;simpa using this
theorem Ar.Ud{p:Array Value}(h: ∀x∈p,flat x=true):Ar F ρ p p:=
 ⟨rfl,λi v v' h1 h2=>by rw[h1] at h2;cases h2;exact .flat (h v (Jy h1))⟩
theorem Ar.map{α:Type}{f f':α->Value}{l:Array α}(h: ∀x∈l,Au F ρ (f x) (f' x)):Ar F ρ (l.map f) (l.map f'):=by
 refine⟨AY,λi v v' h1 h2=>?_⟩;rw[Dl] at h1 h2;obtain⟨x,hx,rfl⟩:=DV.1 h1;rw[hx] at h2;(cases h2);exact h x (Jy hx)
theorem Ar.ofFn{n:Nat}{f f':Nat->Value}(h: ∀i,Au F ρ (f i) (f' i)):Ar F ρ ((Array.range n).map f) ((Array.range n).map f'):=Ar.map λx _=>h x
theorem Au.cells{v v':Value}(h:Au F ρ v v'):Ar F ρ v.cells v'.cells:=by
 cases h with
 |flat hf=>
  cases v<;>first
   |exact CU hf|exact Ar.one (.flat hf)
 |ptr ha=>exact Ar.one (.ptr ha)|slice ha=>exact Ar.one (.slice ha)|emp hc=>exact Ar.one (.emp hc)|map hb=>exact Ar.one (.map hb)|chan hb=>exact Ar.one (.chan hb)|tok hk ht hp=>
  (have e:v'.cells= #[v']:=by cases v'<;>first|rfl|exact CU ht);rw[e];exact Ar.one (.tok hk ht hp)
 |func hf hv h1 i1 h2 i2=>exact Ar.one (.func hf hv h1 i1 h2 i2)|yield hl=>exact Ar.one (.yield hl)|seq hq=>exact Ar.one (.seq hq)|mf hx hm=>
  (have e:v'.cells= #[v']:=by cases v'<;>first|rfl|exact CU hm);rw[e];exact Ar.one (.mf hx hm)
 |iface hi=>exact Ar.one (.iface hi)|agg h1 i=>exact⟨h1,i⟩|tuple h1 i=>exact Ar.one (.tuple h1 i)
end
inductive Ci {α β:Type} (R:α->β->Prop):List α->List β->Prop
 |nil:Ci R [] []|cons {a:α} {b:β} {l:List α} {l':List β}:R a b->Ci R l l'->Ci R (a::l) (b::l')
inductive ZJ (F:Fs) (ρ:Rn) (m:Nat):Target->Target->Prop
 |fn {f:FuncId} {q q':Array Value}:F f->(∀n,F.a f n)->Ar F ρ q q'->ZJ F ρ m (.fn (.func f) q) (.fn (.func f) q')|nil:ZJ F ρ m .nil .nil|yield {l l':Nat}:F.h->ρ.r l l'->ZJ F ρ m (.fn (.yield l) #[]) (.fn (.yield l') #[])|seq {s:ByteArray} {n:Int} {a b:Nat}:m<=F.m->ρ.q s n a b->ZJ F ρ m (.fn (.func F.z) #[.string s,.int .i64 n]) (.fn (.func F.z) #[.pointer (some ⟨a,0,none⟩),.pointer (some ⟨b,0,none⟩)])|collected {b b':Nat}:ρ.r b b'->ZJ F ρ m (.collected b) (.collected b')
def YV (x:Value) (p:Array Value):Deferred:=match x with
 | .func f q r=>{target:=.fn f r,args:=q++p}|_=>{target:=.nil,args:=#[]}
inductive Ie (F:Fs) (ρ:Rn):Deferred->Deferred->Prop
 |mk {d d':Deferred}:ZJ F ρ d.args.size d.target d'.target->Ar F ρ d.args d'.args->Ie F ρ d d'|dead {b:Nat} {x:Value} {p p':Array Value}:ρ.c b x->XQ x=true->Ar F ρ p p'->Ie F ρ (YV (jV b) p) (YV x p')
theorem ZJ.mono'{F F':Fs}{ρ ρ':Rn}(hF:F.le F')(h:ρ.le ρ'){m:Nat}{d d':Target}(k:ZJ F ρ m d d'):ZJ F' ρ' m d d':=by
 cases k with|fn hf ha hq=>exact .fn (hF.f _ hf) (λn=>hF.a _ _ (ha n)) (hq.mono' hF h)|nil=>exact .nil|yield hh hl=>exact .yield (hF.h hh) (h.r _ _ hl)|seq hm hq=>rw[<- hF.z];exact .seq (Ah hm hF.m) (h.q _ _ _ _ hq)|collected hb=>exact .collected (h.r _ _ hb)
theorem Ie.mono'{F F':Fs}{ρ ρ':Rn}(hF:F.le F')(h:ρ.le ρ'){d d':Deferred}(k:Ie F ρ d d'):Ie F' ρ' d d':=by
 cases k with|mk h1 h2=>exact .mk (h1.mono' hF h) (h2.mono' hF h)|dead h1 h2 h3=>exact .dead (h.c _ _ h1) h2 (h3.mono' hF h)
theorem CY{α β:Type}{R R':α->β->Prop}(h: ∀a b,R a b->R' a b){l:List α}{l':List β}(k:Ci R l l'):Ci R' l l':=by
 induction k with|nil=>exact .nil|cons a _ i=>exact .cons (h _ _ a) i
structure qW (F:Fs) (ρ:Rn) (l l':Loop):Prop where
 state:l'.state=l.state
 pending:l'.pending=l.pending
 fn:l'.fn=l.fn
 tmps:Ar F ρ l.tmps l'.tmps
 params:l'.params=l.params
 few:l.params.size<=2
 assign:l'.assign=l.assign
 body:l'.body=l.body
 okF:F.r l.fn
 okA:F.c l.assign
 okB:F.c l.body
 VW: ∀j,l.pending=some j->F.c j
 defers:ρ.r l.defers l'.defers
structure FK (F:Fs) (ρ:Rn) (e e':MapEntry):Prop where
 key:Au F ρ e.key e'.key
 val:Au F ρ e.val e'.val
 born:e'.born=e.born
inductive GY (F:Fs) (ρ:Rn):Obj->Obj->Prop
 |cells {p p':Array Value} {t:TypeId} {fr:Nat×Nat}:Ar F ρ p p'->GY F ρ (.cells p t fr) (.cells p' t fr)|map {es es':Array MapEntry} {k:Nat}:es.size=es'.size->(∀(i:Nat) (e e':MapEntry),es[i]? =some e->es'[i]? =some e'->FK F ρ e e')->GY F ρ (.map es k) (.map es' k)|mapIter {b b' s k:Nat} {seen:Array Nat}:ρ.r b b'->GY F ρ (.mapIter (some b) s seen k) (.mapIter (some b') s seen k)|KN {s k:Nat} {seen:Array Nat}:GY F ρ (.mapIter none s seen k) (.mapIter none s seen k)|stringIter {s:ByteArray} {k:Nat}:GY F ρ (.stringIter s k) (.stringIter s k)|loop {l l':Loop}:qW F ρ l l'->GY F ρ (.loop l) (.loop l')|deferred:GY F ρ (.deferred (some [])) (.deferred (some []))|J6:GY F ρ (.deferred none) (.deferred none)|number {a a':Addr} {b:Bool}:RelA ρ a a'->GY F ρ (.number a b) (.number a' b)|chan {k s r:Nat} {cl tm:Bool}:GY F ρ (.chan k #[] cl s r tm) (.chan k #[] cl s r tm)
section
variable {F F':Fs} {ρ ρ':Rn}
theorem qW.mono'(hF:F.le F')(h:ρ.le ρ'){l l':Loop}(k:qW F ρ l l'):qW F' ρ' l l':=
 ⟨k.state,k.pending,k.fn,k.tmps.mono' hF h,k.params,k.few,k.assign,k.body,hF.r _ k.okF,hF.c _ k.okA,hF.c _ k.okB,λj hj=>hF.c _ (k.VW j hj),h.r _ _ k.defers⟩
theorem GY.mono'(hF:F.le F')(h:ρ.le ρ'){o o':Obj}(k:GY F ρ o o'):GY F' ρ' o o':=by
 cases k with|cells hp=>exact .cells (hp.mono' hF h)|map hs he=>exact .map hs λi e e' h1 h2=>⟨(he i e e' h1 h2).key.mono' hF h,(he i e e' h1 h2).val.mono' hF h,(he i e e' h1 h2).born⟩|mapIter hb=>exact .mapIter (h.r _ _ hb)|KN=>exact .KN|stringIter=>exact .stringIter|loop hl=>exact .loop (hl.mono' hF h)|deferred=>exact .deferred|J6=>exact .J6|number ha=>exact .number (ha.mono h)|chan=>exact .chan
theorem GY.mono(h:ρ.le ρ'){o o':Obj}(k:GY F ρ o o'):GY F ρ' o o':=k.mono' (.refl _) h
end
structure Rn.jW (N:Nat) (ρ:Rn) (n m:Nat):Prop where
 r: ∀b,¬ρ.r n b
 l: ∀a,¬ρ.r a m
 c: ∀x,¬ρ.c n x
 hn:N<=n
 hm:N<=m
def XR:Obj:=.cells #[] 0 (0,0)
structure Rn.Ok (N:Nat) (ρ:Rn):Prop where
 fn: ∀a b b',ρ.r a b->ρ.r a b'->b=b'
 inj: ∀a a' b,ρ.r a b->ρ.r a' b->a=a'
 VX: ∀a x y,ρ.c a x->ρ.c a y->x=y
 apart: ∀a b x,ρ.r a b->¬ρ.c a x
 low: ∀a b,ρ.r a b->(a<N\/b<N)->a=b
 hd: ∀a,a<N->ρ.r a a
structure IL (w:World) (B:List Nat) (s:ByteArray) (n:Int) (a b:Nat):Prop where
 lt: ∀c∈B,c<w.heap.size
 ou:a∈B
 inb:b∈B
 pos:1<=n
 hi:n<=9223372036854775807
 few:s.size<=1073741824
 box: ∃D cap ta,w.heap[a]? =some (.cells #[.slice D s.size cap] ta (0,0))/\(s.size=0\/∃d o cells td,D=some ⟨d,o,none⟩/\d∈B/\w.heap[d]? =some (.cells cells td (0,0))/\o+cap<=cells.size/\s.size<=cap/\∀i (h:i<s.size),cells[o+i]? =some (.int .u8 (s[i].toNat:Int)))
 size: ∃tb,w.heap[b]? =some (.cells #[.int .i64 n] tb (0,0))
theorem IL.keep{w w':World}{B:List Nat}{s:ByteArray}{n:Int}{a b:Nat}(h:IL w B s n a b)(hz:w.heap.size<=w'.heap.size)(hk: ∀c∈B,w'.heap[c]? =w.heap[c]?):IL w' B s n a b:=by
 obtain⟨D,cap,ta,h1,h2⟩:=h.box;obtain⟨tb,h3⟩:=h.size;refine⟨λc hc=>BU (h.lt c hc) hz,h.ou,h.inb,h.pos,h.hi,h.few,⟨D,cap,ta,by rw[hk a h.ou];exact h1,?_⟩,tb,by rw[hk b h.inb];exact h3⟩;rcases h2 with h2|⟨d,o,cells,td,e,hd,h4,h5⟩;exact .inl h2;exact .inr ⟨d,o,cells,td,e,hd,by rw[hk d hd];exact h4,h5⟩
structure DD (F:Fs) (N:Nat) (ρ:Rn) (v w:World):Prop where
 ok:ρ.Ok N
 obj: ∀a b,ρ.r a b->∃o o',v.heap[a]? =some o/\w.heap[b]? =some o'/\GY F ρ o o'
 tok: ∀a x,ρ.c a x->v.heap[a]? =some XR
 nv:N<=v.heap.size
 nw:N<=w.heap.size
 os:w.os=v.os
 seq: ∀s n a b,ρ.q s n a b->∃B,IL w B s n a b/\∀c∈B,∀x,¬ρ.r x c
structure Twin where
 P:Program
 F:Array Func
 p:Prop:=False
abbrev Twin.v (T:Twin):Program:={T.P with funcs:=T.F}
def Halt.still:Halt->Prop
 | .stuck _=>True| .unsupported (.initOrder _)=>False| .unsupported _=>True| .exit _=>True|_=>False
def iV:Mark->Prop
 | .extern _| .noRoom=>True|_=>False
def Halt.dead (p:Prop):Halt->Prop
 | .panic _=>p|h=>Halt.still h
def jX {β:Type} (T:Twin) (F:Fs) (ρ:Rn):Halt->Sem β->Prop
 | .panic x,s'=>T.p\/∃x',s'=.halt (.panic x')/\Au F ρ x x'|h,_=>Halt.still h
def CZ {α:Type} (T:Twin):Sem α->Prop
 | .halt h=>Halt.dead T.p h| .new _ k=>T.p/\∀n,CZ T (k n)| .program k=>CZ T (k T.v)| .shape _ k=>∀x,CZ T (k x)| .frozen _ k=>∀x,CZ T (k x)| .mark _ k=>CZ T k|_=>False
theorem CZ.bind{α γ:Type}{T:Twin}{f:α->Sem γ}: ∀{s:Sem α},CZ T s->CZ T (s.bind f):=by
 intro s
 induction s with
 |halt h=>intro x;exact x
 |new o k ih=>intro x;exact⟨x.1,λn=>ih n (x.2 n)⟩
 |program k ih=>intro x;exact ih T.v x
 |shape b k ih=>intro x y;exact ih y (x y)
 |frozen a k ih=>intro x y;exact ih y (x y)
 |mark m k ih=>intro x;exact ih x
 |_=>intro x;exact x.elim
theorem CZ.run{α:Type}{T:Twin}: ∀{s:Sem α},CZ T s->∀v,∃h v',s.run T.v v=.halt h v'/\Halt.dead T.p h/\v'.drawn=v.drawn:=by
 intro s
 induction s with
 |halt h=>intro x v;exact⟨h,v,by rw[Sem.run],x,rfl⟩
 |new o k ih=>intro x v;obtain⟨h,u,e,hs,hd⟩:=ih _ (x.2 _) {v with heap:=v.heap.push o};exact⟨h,u,by rw[Sem.run];exact e,hs,hd⟩
 |program k ih=>intro x v;obtain⟨h,u,e,hs⟩:=ih T.v x v;exact⟨h,u,by rw[Sem.run];exact e,hs⟩
 |shape b k ih=>intro x v;obtain⟨h,u,e,hs⟩:=ih (v.shape? b) (x _) v;exact⟨h,u,by rw[Sem.run];exact e,hs⟩
 |frozen a k ih=>intro x v;obtain⟨h,u,e,hs⟩:=ih (v.frozen? a) (x _) v;exact⟨h,u,by rw[Sem.run];exact e,hs⟩
 |mark m k ih=>intro x v;obtain⟨h,u,e,hs⟩:=ih x v;exact⟨h,u,by rw[Sem.run];exact e,hs⟩
 |_=>intro x;exact x.elim
def DN {α β:Type} (T:Twin) (F:Fs) (N:Nat) (Q:Rn->α->β->Prop):Sem α->Rn->Sem β->Prop
 | .pure a,ρ,s'=>match s' with
  | .pure b=>Q ρ a b|_=>False
 | .load m a k,ρ,s'=>match s' with
  | .load m' a' k'=>m'=m/\RelA ρ a a'/\∀x x',Au F ρ x x'->DN T F N Q (k x) ρ (k' x')|_=>False
 | .store m a x k,ρ,s'=>match s' with
  | .store m' a' x' k'=>m'=m/\RelA ρ a a'/\Au F ρ x x'/\DN T F N Q k ρ k'|_=>False
 | .new o k,ρ,s'=>(T.p/\∀n,CZ T (k n))\/match s' with
  | .new o' k'=>GY F ρ o o'/\∀n n',ρ.jW N n n'->DN T F N Q (k n) (ρ.add n n') (k' n')|_=>False
 | .shape b k,ρ,s'=>(∀x,CZ T (k x))\/match s' with
  | .shape b' k'=>ρ.r b b'/\∀x,DN T F N Q (k x) ρ (k' x)|_=>False
 | .freeze _ _ _,_,_=>False
 | .frozen a k,ρ,s'=>(∀x,CZ T (k x))\/match s' with
  | .frozen a' k'=>RelA ρ a a'/\∀x,DN T F N Q (k x) ρ (k' x)|_=>False
 | .getObj b k,ρ,s'=>match s' with
  | .getObj b' k'=>ρ.r b b'/\∀o o',GY F ρ o o'->DN T F N Q (k o) ρ (k' o')|_=>False
 | .setObj b o k,ρ,s'=>match s' with
  | .setObj b' o' k'=>ρ.r b b'/\GY F ρ o o'/\o.isChan=false/\(∀p t f,o≠ .cells p t f)/\DN T F N Q k ρ k'|_=>False
 | .choose q k,ρ,s'=>match s' with
  | .choose q' k'=>q'=q/\∀n,DN T F N Q (k n) ρ (k' n)|_=>False
 | .sys c k,ρ,s'=>match c,s' with
  | .env,.sys .env k'=>∀x,DN T F N Q (k x) ρ (k' x)|_,_=>False
 | .program k,ρ,s'=>CZ T (k T.v)\/match s' with
  | .program k'=>DN T F N Q (k T.v) ρ (k' T.P)|_=>False
 | .mark m k,ρ,s'=>CZ T k\/match s' with
  | .mark m' k'=>m'=m/\iV m/\DN T F N Q k ρ k'|_=>False
 | .halt h,ρ,s'=>jX T F ρ h s'
section
variable {α β:Type} {T:Twin} {F:Fs} {N:Nat} {Q:Rn->α->β->Prop} {ρ:Rn}
theorem YB{b:Nat}{k:Option (TypeId×Nat)->Sem α}{s':Sem β}(h: ∀x,CZ T (k x)):DN T F N Q (.shape b k) ρ s':=by unfold DN;exact .inl h
theorem ZK{b b':Nat}{k:Option (TypeId×Nat)->Sem α}{k':Option (TypeId×Nat)->Sem β}(h:ρ.r b b')(h2: ∀x,DN T F N Q (k x) ρ (k' x)):DN T F N Q (.shape b k) ρ (.shape b' k'):=by unfold DN;exact .inr ⟨h,h2⟩
theorem dS{o:Obj}{k:Nat->Sem α}{s':Sem β}(h:T.p/\∀n,CZ T (k n)):DN T F N Q (.new o k) ρ s':=by unfold DN;exact .inl h
theorem ABj{o o':Obj}{k:Nat->Sem α}{k':Nat->Sem β}(h:GY F ρ o o')(h2: ∀n n',ρ.jW N n n'->DN T F N Q (k n) (ρ.add n n') (k' n')):DN T F N Q (.new o k) ρ (.new o' k'):=by unfold DN;exact .inr ⟨h,h2⟩
theorem V4{a:Addr}{k:Bool->Sem α}{s':Sem β}(h: ∀x,CZ T (k x)):DN T F N Q (.frozen a k) ρ s':=by unfold DN;exact .inl h
theorem YC{a a':Addr}{k:Bool->Sem α}{k':Bool->Sem β}(h:RelA ρ a a')(h2: ∀x,DN T F N Q (k x) ρ (k' x)):DN T F N Q (.frozen a k) ρ (.frozen a' k'):=by unfold DN;exact .inr ⟨h,h2⟩
end
def AX {α β:Type} (T:Twin) (F:Fs) (N:Nat) (Q:Rn->α->β->Prop) (s:Sem α) (ρ:Rn) (s':Sem β):Prop:=ρ.Ok N->DN T F N Q s ρ s'
theorem Rn.Ok.add{N:Nat}{ρ:Rn}(h:ρ.Ok N){n m:Nat}(k:ρ.jW N n m):(ρ.add n m).Ok N:=by
 refine⟨?_,?_,h.VX,?_,?_,λa ha=>.inl (h.hd a ha)⟩
 ·rintro a b b' (x|⟨rfl,rfl⟩) (y|⟨z,rfl⟩);exact h.fn _ _ _ x y;subst z;exact absurd x (k.r _);exact absurd y (k.r _);rfl
 ·rintro a a' b (x|⟨rfl,rfl⟩) (y|⟨rfl,z⟩);exact h.inj _ _ _ x y;subst z;exact absurd x (k.l _);exact absurd y (k.l _);rfl
 ·rintro a b x (y|⟨rfl,rfl⟩) hc;exact h.apart _ _ _ y hc;exact k.c _ hc
 rintro a b (x|⟨rfl,rfl⟩) hN;exact h.low _ _ x hN;have:=k.hn;have:=k.hm;omega
section
variable {T:Twin} {F:Fs} {N:Nat} {α β γ δ:Type}
theorem AX.bind'{Q:Rn->α->β->Prop}{Q':Rn->γ->δ->Prop}{f:α->Sem γ}{f':β->Sem δ}:
  ∀{s:Sem α} {ρ:Rn} {s':Sem β},ρ.Ok N->DN T F N Q s ρ s'->(∀ρ' a b,ρ.le ρ'->Q ρ' a b->AX T F N Q' (f a) ρ' (f' b))->DN T F N Q' (s.bind f) ρ (s'.bind f'):=by
 intro s
 induction s with
 |pure a=>intro ρ s' hok h k;cases s'<;>simp only[DN] at h;exact k _ _ _ (.refl _) h hok
 |load m a c ih=>
  (intro ρ s' hok h k;cases s'<;>simp only[DN] at h);obtain⟨h1,h2,h3⟩:=h;exact⟨h1,h2,λx x' hx=>ih x hok (h3 x x' hx) k⟩
 |store m a x c ih=>
  (intro ρ s' hok h k;cases s'<;>simp only[DN] at h);obtain⟨h1,h2,h3,h4⟩:=h;exact⟨h1,h2,h3,ih hok h4 k⟩
 |new o c ih=>
  intro ρ s' hok h k;unfold DN at h;rcases h with h|h;exact dS ⟨h.1,λx=>(h.2 x).bind⟩;(cases s'<;>simp only at h);exact ABj h.1 λn n' hf=>ih n (hok.add hf) (h.2 n n' hf) λρ' a b hl hq=>k ρ' a b ((Rn.Uc _ _ _).trans hl) hq
 |shape b c ih=>
  intro ρ s' hok h k;unfold DN at h;rcases h with h|h;exact YB λx=>(h x).bind;(cases s'<;>simp only at h);exact ZK h.1 λx=>ih x hok (h.2 x) k
 |freeze a n c ih=>intro ρ s' hok h k;exact h.elim
 |frozen a c ih=>
  intro ρ s' hok h k;unfold DN at h;rcases h with h|h;exact V4 λx=>(h x).bind;(cases s'<;>simp only at h);exact YC h.1 λx=>ih x hok (h.2 x) k
 |getObj b c ih=>
  (intro ρ s' hok h k;cases s'<;>simp only[DN] at h);exact⟨h.1,λo o' ho=>ih o hok (h.2 o o' ho) k⟩
 |setObj b o c ih=>
  (intro ρ s' hok h k;cases s'<;>simp only[DN] at h);obtain⟨h1,h2,h3,h4,h5⟩:=h;exact⟨h1,h2,h3,h4,ih hok h5 k⟩
 |choose q c ih=>
  (intro ρ s' hok h k;cases s'<;>simp only[DN] at h);exact⟨h.1,λx=>ih x hok (h.2 x) k⟩
 |sys c k' ih=>
  intro ρ s' hok h k;(cases c<;>try exact h.elim);(cases s'<;>try exact h.elim);rename_i c₂ k₂;(cases c₂<;>try exact h.elim);exact λx=>ih x hok (h x) k
 |program c ih=>
  intro ρ s' hok h k;rcases h with h|h;exact .inl h.bind;(cases s'<;>simp only at h);exact .inr (ih T.v hok h k)
 |mark m c ih=>
  intro ρ s' hok h k;rcases h with h|h;exact .inl h.bind;(cases s'<;>simp only at h);exact .inr ⟨h.1,h.2.1,ih hok h.2.2 k⟩
 |halt x=>
  intro ρ s' hok h k;cases x<;>simp only[DN,jX] at h
  case panic x=>
   rcases h with h|⟨x',rfl,hx⟩;exact .inl h;exact .inr ⟨x',rfl,hx⟩
  all_goals exact h
theorem AX.bind{Q:Rn->α->β->Prop}{Q':Rn->γ->δ->Prop}{f:α->Sem γ}{f':β->Sem δ}{s:Sem α}{ρ:Rn}{s':Sem β}(h:AX T F N Q s ρ s')
  (k: ∀ρ' a b,ρ.le ρ'->Q ρ' a b->AX T F N Q' (f a) ρ' (f' b)):AX T F N Q' (s>>=f) ρ (s'>>=f'):=λhok=>AX.bind' hok (h hok) k
theorem AX.mono{Q Q':Rn->α->β->Prop}{s:Sem α}{ρ:Rn}{s':Sem β}(h:AX T F N Q s ρ s')(hq: ∀ρ' a b,ρ.le ρ'->Q ρ' a b->Q' ρ' a b):AX T F N Q' s ρ s':=by
 have e1:s.bind Sem.pure=s:=by
  clear h
  induction s with|pure a=>rfl|halt h=>rfl|store m a v k ih=>simp only[Sem.bind,ih]|freeze a n k ih=>simp only[Sem.bind,ih]|setObj r o k ih=>simp only[Sem.bind,ih]|mark m k ih=>simp only[Sem.bind,ih]|_=>simp only[Sem.bind];congr 1;funext x;apply_assumption
 have e2:s'.bind Sem.pure=s':=by
  clear h
  induction s' with|pure a=>rfl|halt h=>rfl|store m a v k ih=>simp only[Sem.bind,ih]|freeze a n k ih=>simp only[Sem.bind,ih]|setObj r o k ih=>simp only[Sem.bind,ih]|mark m k ih=>simp only[Sem.bind,ih]|_=>simp only[Sem.bind];congr 1;funext x;apply_assumption
 intro hok;rw[<- e1,<- e2];exact AX.bind' hok (h hok) λρ' a b hl hQ _=>hq ρ' a b hl hQ
end
def KO {α:Type}:Result α->World
 | .ok _ w=>w| .halt _ w=>w
def ZL (ρ:Rn) (e:Event):Prop:=
 match e.loc with| .cell a=>∃b,ρ.r b a.block| .obj c=>(∃b,ρ.r b c)/\¬(e.write=true/\e.sync=true)| .mark m=>iV m| .output=>True|_=>False
def Tp (v w:World) (n:Nat):Prop:=∀i,i<n->∀q,v.tape (v.drawn+i) q=w.tape (w.drawn+i) q
structure Stp (F:Fs) (N:Nat) (ρ ρ':Rn) (v w v' w':World) (u:Array Event):Prop where
 le:ρ.le ρ'
 rel:DD F N ρ' v' w'
 sv:v.heap.size<=v'.heap.size
 sw:v'.heap.size+w.heap.size=v.heap.size+w'.heap.size
 new: ∀a b,ρ'.r a b↔ρ.r a b\/(v.heap.size<=a/\a<v'.heap.size/\a+w.heap.size=b+v.heap.size)
 tok:ρ'.c=ρ.c/\ρ'.q=ρ.q
 YW: ∀a,a<v.heap.size->(∀b,¬ρ.r a b)->v'.heap[a]? =v.heap[a]?
 Q7: ∀b,b<w.heap.size->(∀a,¬ρ.r a b)->w'.heap[b]? =w.heap[b]?
 tv:v'.tape=v.tape/\v'.os=v.os/\v'.output=v.output
 tw:w'.tape=w.tape/\w'.os=w.os/\w'.output=w.output
 drawn:v.drawn<=v'.drawn/\v'.drawn+w.drawn=v.drawn+w'.drawn
 evs: ∀e∈u,ZL ρ' e
section
variable {F:Fs} {N:Nat} {ρ ρ' jY:Rn} {v w v' w' v'' w'':World} {u u':Array Event}
theorem ZL.mono(h:ρ.le ρ'){e:Event}(k:ZL ρ e):ZL ρ' e:=by
 unfold ZL at k⊢;(split<;>simp_all);obtain⟨b,hb⟩:=k;exact⟨b,h.r _ _ hb⟩;obtain⟨⟨b,hb⟩,k2⟩:=k;exact⟨b,h.r _ _ hb⟩
theorem DD.dom(h:DD F N ρ v w){a b:Nat}(k:ρ.r a b):a<v.heap.size/\b<w.heap.size:=by
 obtain⟨o,o',h1,h2,_⟩:=h.obj a b k;exact⟨(BK.1 h1).1,(BK.1 h2).1⟩
theorem DD.ADd(h:DD F N ρ v w){a:Nat}{x:Value}(k:ρ.c a x):a<v.heap.size:=(BK.1 (h.tok a x k)).1
theorem Tz{w₁:World}(h: ∀s n a b,ρ.q s n a b->∃B,IL w B s n a b/\∀c∈B,∀x,¬ρ.r x c)(hz:w.heap.size<=w₁.heap.size)(hk: ∀c,c<w.heap.size->(∀x,¬ρ.r x c)->w₁.heap[c]? =w.heap[c]?)
  (hr: ∀x c,ρ'.r x c->ρ.r x c\/w.heap.size<=c) (hq:ρ'.q=ρ.q): ∀s n a b,ρ'.q s n a b->∃B,IL w₁ B s n a b/\∀c∈B,∀x,¬ρ'.r x c:=by
 intro s n a b q;obtain⟨B,h1,h2⟩:=h s n a b (by rw[<- hq];exact q);refine⟨B,h1.keep hz λc hc=>hk c (h1.lt c hc) (h2 c hc),λc hc x hx=>?_⟩;rcases hr x c hx with k|k;exact h2 c hc x k;have:=h1.lt c hc;omega
theorem Stp.refl(h:DD F N ρ v w):Stp F N ρ ρ v w v w #[]:=
 ⟨.refl _,h,AP _,rfl,λa b=>⟨.inl,λx=>x.elim id λy=>by omega⟩,⟨rfl,rfl⟩,λ_ _ _=>rfl,λ_ _ _=>rfl,⟨rfl,rfl,rfl⟩,⟨rfl,rfl,rfl⟩,⟨AP _,rfl⟩,AY⟩
theorem Stp.trans(h:Stp F N ρ ρ' v w v' w' u)(k:Stp F N ρ' jY v' w' v'' w'' u')(_:DD F N ρ v w):Stp F N ρ jY v w v'' w'' (u++u'):=by
 refine⟨h.le.trans k.le,k.rel,Ah h.sv k.sv,?_,λa b=>?_,⟨k.tok.1.trans h.tok.1,k.tok.2.trans h.tok.2⟩,λa ha hn=>?_,λb hb hn=>?_,⟨k.tv.1.trans h.tv.1,k.tv.2.1.trans h.tv.2.1,k.tv.2.2.trans h.tv.2.2⟩,
  ⟨k.tw.1.trans h.tw.1,k.tw.2.1.trans h.tw.2.1,k.tw.2.2.trans h.tw.2.2⟩,⟨Ah h.drawn.1 k.drawn.1,?_⟩,λe he=>?_⟩
 have:=h.sw;have:=k.sw;omega
 ·rw[k.new,h.new];have h1:=h.sw;have h2:=h.sv;have h3:=k.sv;constructor
  ·rintro ((x|x)|x);exact .inl x;exact .inr Ac;exact .inr Ac
  rintro (x|x);exact .inl (.inl x);by_cases hlt:a<v'.heap.size;exact .inl (.inr Ac);exact .inr Ac
 ·rw[k.YW a (BU ha h.sv) λb hb=>?_,h.YW a ha hn];rw[h.new] at hb;rcases hb with hb|hb;exact hn b hb;omega
 ·have h1:=h.sw;have h2:=h.sv;rw[k.Q7 b Ac λa ha=>?_,h.Q7 b hb hn];rw[h.new] at ha;rcases ha with ha|ha;exact hn a ha;omega
 have:=h.drawn.2;have:=k.drawn.2;omega;rcases Ce.1 he with he|he;exact (h.evs e he).mono k.le;exact k.evs e he
end
def Out {α β:Type} (p:Prop) (F:Fs) (N:Nat) (Q:Rn->α->β->Prop) (ρ:Rn) (v w:World):Result α->(Array Event->Result β×Array Event)->Prop
 | .ok a v',f=>∃ρ' b w' u,(∀es,f es=(.ok b w',es++u))/\Q ρ' a b/\Stp F N ρ ρ' v w v' w' u| .halt (.panic x) v',f=>p\/∃ρ' x' w' u,(∀es,f es=(.halt (.panic x') w',es++u))/\Au F ρ' x x'/\Stp F N ρ ρ' v w v' w' u| .halt h _,_=>Halt.still h
theorem Out.step{α β:Type}{p:Prop}{F:Fs}{N:Nat}{Q:Rn->α->β->Prop}{ρ ρ₁:Rn}{v w v₁ w₁:World}{u₁:Array Event}(hd:DD F N ρ v w)(h:Stp F N ρ ρ₁ v w v₁ w₁ u₁)
  {r:Result α} {f f':Array Event->Result β×Array Event} (hf: ∀es,f es=f' (es++u₁)) (k:Out p F N Q ρ₁ v₁ w₁ r f'):Out p F N Q ρ v w r f:=by
 cases r with
 |ok a v'=>
  obtain⟨ρ',b,w',u,h1,h2,h3⟩:=k;exact⟨ρ',b,w',u₁++u,λes=>by rw[hf,h1,PQ],h2,h.trans h3 hd⟩
 |halt x v'=>
  cases x with
  |panic x=>
   rcases k with k|⟨ρ',b,w',u,h1,h2,h3⟩;exact .inl k;exact .inr ⟨ρ',b,w',u₁++u,λes=>by rw[hf,h1,PQ],h2,h.trans h3 hd⟩
  |_=>exact k
section
variable {T:Twin} {F:Fs} {N:Nat} {α β:Type} {ρ:Rn} {v w:World}
theorem KP{α:Type}(a:Array α)(i:Nat)(f:α->α)(j:Nat):(a.modify i f)[j]? =if i=j then a[j]?.map f else a[j]? :=by
 by_cases h:i=j;subst h;simp[Jz];simp[Jz,h]
theorem ah(hW:DD F N ρ v w){a a':Addr}(ha:RelA ρ a a'):
  (∃x x',v.cell? a=some x/\w.cell? a'=some x'/\Au F ρ x x')\/(v.cell? a=none/\∀(_:Bool) (what:String),(∃s,v.noCell a what=.stuck s)/\∀b t,v.heap[a.block]? ≠some (.view b t)):=by
 obtain⟨o,o',h1,h2,ho⟩:=hW.obj _ _ ha.1;obtain⟨_,ho2,ho3⟩:=ha;unfold World.cell? World.noCell;rw[h1,h2]
 cases ho with
 | @cells p p' t fr hp=>
  simp only[ho2,ho3];by_cases hs:a.spot.isSome=true;right;simp[hs];simp only[hs,if_false,Ak]
  cases hx:p[a.off]? with
  |none=>right;simp|some x=>
   obtain⟨x',hx',hr⟩:=hp.get hx;left;exact⟨x,x',rfl,hx',hr⟩
 |_=>right;simp
theorem YX{a:Addr}(_:v.cell? a=none)(h: ∀(_:Bool) (what:String),(∃s,v.noCell a what=.stuck s)/\∀b t,v.heap[a.block]? ≠some (.view b t))(m:Bool):
  (∃s,v.farLoad T.v a m=.error (.stuck s))/\∀x,∃s,v.farStore T.v a x m=.error (.stuck s):=by
 unfold World.farLoad World.farStore;have hv:=(h true "").2;refine⟨?_,λx=>?_⟩
 ·split
  ·rename_i at_ u heq;exact absurd heq (hv at_ u)
  obtain⟨s,hs⟩:=(h true "load: no such cell").1;exact⟨s,by rw[hs]⟩
 split
 ·rename_i at_ u heq;exact absurd heq (hv at_ u)
 obtain⟨s,hs⟩:=(h true "store: no such cell").1;exact⟨s,by rw[hs]⟩
theorem ABk(hW:DD F N ρ v w){b b':Nat}(h:ρ.r b b'):v.shape? b=w.shape? b':=by
 obtain⟨o,o',h1,h2,ho⟩:=hW.obj _ _ h;unfold World.shape?;rw[h1,h2]
 cases ho with|cells hp=>simp[hp.1]|_=>rfl
theorem dU(hW:DD F N ρ v w){a a':Addr}(h:RelA ρ a a'):v.frozen? a=w.frozen? a':=by
 obtain⟨o,o',h1,h2,ho⟩:=hW.obj _ _ h.1;unfold World.frozen?;rw[h1,h2,h.2.1];cases ho<;>rfl
theorem DD.put(hW:DD F N ρ v w){b b':Nat}(hb:ρ.r b b'){v₁ w₁:World}{o o':Obj}(ho:GY F ρ o o')
  (hv:v₁.heap=v.heap.setIfInBounds b o) (hw:w₁.heap=w.heap.setIfInBounds b' o') (hos:w₁.os=v₁.os):DD F N ρ v₁ w₁:=by
 have hlt:=hW.dom hb;refine⟨hW.ok,λx y hxy=>?_,λx y hxy=>?_,by rw[hv];simpa using hW.nv,by rw[hw];simpa using hW.nw,hos,Tz hW.seq (by rw[hw];simp) (λc _ hc=>by rw[hw];exact BO λ(e:b'=c)=>hc b (e▸hb)) (λ_ _=>.inl) rfl⟩
 ·rw[hv,hw];by_cases hx:b=x
  ·subst hx;obtain rfl:b'=y:=hW.ok.fn _ _ _ hb hxy;refine⟨o,o',?_,?_,ho⟩;rw[F9 hlt.1];rw[F9 hlt.2]
  have hy:b'≠y:=λe=>hx (hW.ok.inj _ _ _ hb (e▸hxy));rw[BO hx,BO hy];exact hW.obj x y hxy
 rw[hv];have hx:b≠x:=λe=>hW.ok.apart _ _ y (e▸hb) hxy;rw[BO hx];exact hW.tok x y hxy
theorem Stp.put(hW:DD F N ρ v w){b b':Nat}(hb:ρ.r b b'){v₁ w₁:World}{o o':Obj}(ho:GY F ρ o o')
  (hv:v₁={v with heap:=v.heap.setIfInBounds b o}) (hw:w₁={w with heap:=w.heap.setIfInBounds b' o'}) {u:Array Event} (hu: ∀e∈u,ZL ρ e):Stp F N ρ ρ v w v₁ w₁ u:=by
 subst hv hw;refine⟨.refl _,hW.put hb ho rfl rfl hW.os,AY,AY,λx y=>⟨.inl,λx=>x.elim id λy=>by simp at y;omega⟩,⟨rfl,rfl⟩,λx _ hn=>?_,λy _ hn=>?_,⟨rfl,rfl,rfl⟩,⟨rfl,rfl,rfl⟩,⟨AP _,rfl⟩,hu⟩
 ·exact BO λ(e:b=x)=>hn b' (e▸hb)
 exact BO λ(e:b'=y)=>hn b (e▸hb)
theorem Stp.events(hW:DD F N ρ v w){u:Array Event}(hu: ∀e∈u,ZL ρ e):Stp F N ρ ρ v w v w u:=
 {Stp.refl hW with evs:=hu}
theorem DD.fresh(hW:DD F N ρ v w):ρ.jW N v.heap.size w.heap.size:=
 ⟨λb hb=>by have:=(hW.dom hb).1;omega,λa ha=>by have:=(hW.dom ha).2;omega,λx hx=>by have:=hW.ADd hx;omega,hW.nv,hW.nw⟩
theorem Stp.alloc(hW:DD F N ρ v w){o o':Obj}(ho:GY F ρ o o'):
  Stp F N ρ (ρ.add v.heap.size w.heap.size) v w {v with heap:=v.heap.push o} {w with heap:=w.heap.push o'} #[]:=by
 (have hsz:(v.heap.push o).size+w.heap.size=v.heap.size+(w.heap.push o').size:=by simp;omega);have hok:(ρ.add v.heap.size w.heap.size).Ok N:=hW.ok.add hW.fresh;refine⟨Rn.Uc _ _ _,⟨hok,?_,λa x hx=>?_,?_,?_,hW.os,Tz hW.seq AY (λc hc _=>by rw[show ({w with heap:=w.heap.push o'}:World).heap[c]? =(w.heap.push o')[c]? from rfl,Ey hc,Ba hc]) (λx c h=>h.imp id λe=>by rw[e.2];exact AP _) rfl⟩,AY,hsz,λa b=>?_,⟨rfl,rfl⟩,λa ha _=>?_,λb hb _=>?_,⟨rfl,rfl,rfl⟩,⟨rfl,rfl,rfl⟩,⟨AP _,rfl⟩,AY⟩
 ·rintro a b (h|⟨rfl,rfl⟩)
  ·obtain⟨p,p',h1,h2,h3⟩:=hW.obj a b h;have:=hW.dom h;refine⟨p,p',?_,?_,h3.mono (Rn.Uc _ _ _)⟩;rw[Ey this.1,<- h1,Ba this.1];rw[Ey this.2,<- h2,Ba this.2]
  exact⟨o,o',AY,AY,ho.mono (Rn.Uc _ _ _)⟩
 ·have:=hW.ADd hx;rw[show ({v with heap:=v.heap.push o}:World).heap[a]? =(v.heap.push o)[a]? from rfl,Ey this,<- hW.tok a x hx,Ba this]
 have:=hW.nv;simp;omega;have:=hW.nw;simp;omega
 ·simp only[Rn.add,PR];constructor
  ·rintro (h|⟨rfl,rfl⟩);exact .inl h;exact .inr Ac
  rintro (h|h);exact .inl h;exact .inr Ac
 ·show (v.heap.push o)[a]? =_;rw[Ey ha,Ba ha]
 show (w.heap.push o')[b]? =_;rw[Ey hb,Ba hb]
theorem Stp.draw(hW:DD F N ρ v w):Stp F N ρ ρ v w {v with drawn:=v.drawn+1} {w with drawn:=w.drawn+1} #[]:=by
 refine⟨.refl _,⟨hW.ok,hW.obj,hW.tok,hW.nv,hW.nw,hW.os,Tz hW.seq (AP _) (λ_ _ _=>rfl) (λ_ _=>.inl) rfl⟩,AP _,rfl,λa b=>⟨.inl,λx=>x.elim id λy=>?_⟩,⟨rfl,rfl⟩,λ_ _ _=>rfl,λ_ _ _=>rfl,⟨rfl,rfl,rfl⟩,⟨rfl,rfl,rfl⟩,⟨Nat.le_succ _,by simp only;omega⟩,AY⟩;have h1:v.heap.size<=a:=y.1;have h2:a<v.heap.size:=y.2.1;omega
theorem yc(w:World):w.sys .env=(.strings w.os.env,w):=by
 obtain⟨h,t,d,os,o⟩:=w;simp[World.sys,Kernel.perform,Kernel.lengthOf,Kernel.named,Kernel.ofKernel,Kernel.stamps,Kernel.each,Kernel.env,World.ask,pure,bind,Ask.bind]
theorem UA{Q:Rn->α->β->Prop}{s:Sem α}(h:CZ T s){f:Array Event->Result β×Array Event}:v.drawn<=(KO (s.run T.v v)).drawn/\(Tp v w ((KO (s.run T.v v)).drawn - v.drawn)->Out T.p F N Q ρ v w (s.run T.v v) f):=by
 obtain⟨x,u,e,hs,hd⟩:=CZ.run h v;rw[e];refine⟨Nat.le_of_eq hd.symm,λ_=>?_⟩;cases x<;>first|exact hs|exact .inl hs
theorem DN.sound{Q:Rn->α->β->Prop}: ∀{s:Sem α} {ρ:Rn} {s':Sem β},DN T F N Q s ρ s'->∀{v w:World},DD F N ρ v w->
  v.drawn<=(KO (s.run T.v v)).drawn/\(Tp v w ((KO (s.run T.v v)).drawn - v.drawn)->Out T.p F N Q ρ v w (s.run T.v v) (λes=>s'.runT T.P w es)):=by
 intro s
 induction s with
 |pure a=>
  (intro ρ s' h v w hW;cases s'<;>simp only[DN] at h);rename_i b;exact⟨AP _,λ_=>⟨ρ,b,w,#[],λes=>by simp[Sem.runT],h,.refl hW⟩⟩
 |load m a c ih=>
  (intro ρ s' h v w hW;cases s'<;>simp only[DN] at h);rename_i m' a' c';obtain⟨rfl,ha,hk⟩:=h;rcases ah hW ha with ⟨x,x',h1,h2,hx⟩|⟨hn,hf⟩
  ·(have he:Sem.run T.v (.load m' a c) v=(c x).run T.v v:=by simp only[Sem.run,h1]);rw[he];obtain⟨i1,i2⟩:=ih x (hk x x' hx) hW;refine⟨i1,λht=>Out.step hW (Stp.events (u:=#[⟨.cell a',false,m'== .atomic⟩]) hW ?_) (λes=>?_) (i2 ht)⟩;intro e he;simp only[Bv,Ad] at he;subst he;exact⟨_,ha.1⟩;simp only[Sem.runT,h2];simp
  obtain⟨⟨s,hs⟩,_⟩:=YX (T:=T) hn hf (m'== .atomic);(have he:Sem.run T.v (.load m' a c) v=.halt (.stuck s) v:=by simp only[Sem.run,hn,hs]);rw[he];exact⟨AP _,λ_=>trivial⟩
 |store m a x c ih=>
  (intro ρ s' h v w hW;cases s'<;>simp only[DN] at h);rename_i m' a' x' c';obtain⟨rfl,ha,hx,hk⟩:=h;by_cases hagg:(∃p,x=.agg p)\/∃p,x=.tuple p
  ·have he: ∃s,Sem.run T.v (.store m' a x c) v=.halt (.stuck s) v:=by
    rcases hagg with ⟨p,rfl⟩|⟨p,rfl⟩<;>exact⟨_,by rw[Sem.run]⟩
   obtain⟨s,he⟩:=he;rw[he];exact⟨AP _,λ_=>trivial⟩
  have hx1: ∀p,x≠ .agg p:=λp e=>hagg (.inl ⟨p,e⟩);have hx2: ∀p,x≠ .tuple p:=λp e=>hagg (.inr ⟨p,e⟩)
  have AO6: ∀p,x'≠ .agg p:=by
   rintro p rfl
   cases hx with|flat hf=>exact hx1 _ rfl|tok hc ht=>cases ht|mf _ hm=>cases hm|agg _ _=>exact hx1 _ rfl
  have AO7: ∀p,x'≠ .tuple p:=by
   rintro p rfl
   cases hx with|flat hf=>exact hx2 _ rfl|tok hc ht=>cases ht|mf _ hm=>cases hm|tuple _ _=>exact hx2 _ rfl
  rcases ah hW ha with ⟨y,y',h1,h2,hy⟩|⟨hn,hf⟩
  ·have hfz:=dU hW ha
   cases hz:v.frozen? a with
   |true=>
    have he: ∃s,Sem.run T.v (.store m' a x c) v=.halt (.unsupported (.unsafePointer s)) v:=⟨"a write to bytes that a string shares",by
     rw[Sem.run];simp only[h1,hz,if_true];exact λp e=>hx1 p e
     exact λp e=>hx2 p e⟩
    obtain⟨s,he⟩:=he;rw[he];exact⟨AP _,λ_=>trivial⟩
   |false=>
    rw[hz] at hfz
    have he:Sem.run T.v (.store m' a x c) v=c.run T.v (v.setCell a x):=by
     rw[Sem.run];simp[h1,hz];exact λp e=>hx1 p e;exact λp e=>hx2 p e
    have he': ∀es,Sem.runT T.P (.store m' a' x' c') w es=c'.runT T.P (w.setCell a' x') (es.push ⟨.cell a',true,m'== .atomic⟩):=λes=>by
     rw[Sem.runT];simp[h2,<- hfz]
     ·exact λp e=>AO6 p e
     exact λp e=>AO7 p e
    rw[he];obtain⟨o,o',g1,g2,ho⟩:=hW.obj _ _ ha.1
    have hst:Stp F N ρ ρ v w (v.setCell a x) (w.setCell a' x') #[⟨.cell a',true,m'== .atomic⟩]:=by
     have hspot:a.spot.isSome=false:=by
      unfold World.cell? at h1;rw[g1] at h1
      cases hsp:a.spot.isSome with|false=>rfl|true=>cases o<;>simp[hsp] at h1
     have hlt:=hW.dom ha.1
     cases ho with
     | @cells p p' t fr hp=>
      refine Stp.put hW ha.1 (o:=.cells (p.setIfInBounds a.off x) t fr) (o':=.cells (p'.setIfInBounds a'.off x') t fr) (.cells ?_) ?_ ?_ ?_;rw[ha.2.1];exact hp.set hx _
      ·unfold World.setCell;congr 1;apply G7;intro i;rw[KP];by_cases hi:a.block=i;subst hi;rw[if_pos rfl,g1,F9 hlt.1];simp[hspot];rw[if_neg hi,BO hi]
      ·unfold World.setCell;congr 1;apply G7;intro i;rw[KP];by_cases hi:a'.block=i;subst hi;rw[if_pos rfl,g2,F9 hlt.2];simp[ha.2.2,hspot];rw[if_neg hi,BO hi]
      intro e he;simp only[Bv,Ad] at he;subst he;exact⟨_,ha.1⟩
     |_=>unfold World.cell? at h1;rw[g1] at h1;simp at h1
    obtain⟨i1,i2⟩:=ih hk hst.rel;exact⟨i1,λht=>Out.step hW hst (λes=>by rw[he'];simp) (i2 ht)⟩
  obtain⟨_,hs⟩:=YX (T:=T) hn hf (m'== .atomic);obtain⟨s,hs⟩:=hs x
  have he:Sem.run T.v (.store m' a x c) v=.halt (.stuck s) v:=by
   rw[Sem.run];simp only[hn,hs];exact λp e=>hx1 p e;exact λp e=>hx2 p e
  rw[he];exact⟨AP _,λ_=>trivial⟩
 |new o c ih=>
  intro ρ s' h v w hW;unfold DN at h;rcases h with h|h;exact UA (s:=.new o c) h;(cases s'<;>simp only at h);rename_i o' c';have hst:=Stp.alloc hW h.1;obtain⟨i1,i2⟩:=ih _ (h.2 v.heap.size w.heap.size hW.fresh) hst.rel;exact⟨i1,λht=>Out.step hW hst (λes=>by simp[Sem.runT]) (i2 ht)⟩
 |shape b c ih=>
  intro ρ s' h v w hW;unfold DN at h;rcases h with h|h;exact UA (s:=.shape b c) h;(cases s'<;>simp only at h);rename_i b' c';have hs:=ABk hW h.1;obtain⟨i1,i2⟩:=ih (v.shape? b) (h.2 _) hW;exact⟨i1,λht=>Out.step hW (.refl hW) (λes=>by simp[Sem.runT,hs]) (i2 ht)⟩
 |freeze a n c ih=>intro ρ s' h;exact h.elim
 |frozen a c ih=>
  intro ρ s' h v w hW;unfold DN at h;rcases h with h|h;exact UA (s:=.frozen a c) h;(cases s'<;>simp only at h);rename_i a' c';have hs:=dU hW h.1;obtain⟨i1,i2⟩:=ih (v.frozen? a) (h.2 _) hW;exact⟨i1,λht=>Out.step hW (.refl hW) (λes=>by simp[Sem.runT,hs]) (i2 ht)⟩
 |getObj b c ih=>
  (intro ρ s' h v w hW;cases s'<;>simp only[DN] at h);rename_i b' c';obtain⟨o,o',g1,g2,ho⟩:=hW.obj _ _ h.1;by_cases hc: ∃p t f,o=.cells p t f
  ·obtain⟨p,t,f,rfl⟩:=hc;(have he:Sem.run T.v (.getObj b c) v=.halt (.stuck "getObj: a row of cells") v:=by simp only[Sem.run,g1]);rw[he];exact⟨AP _,λ_=>trivial⟩
  have hc': ∀p t f,o'≠ .cells p t f:=by
   rintro p t f rfl;(cases ho);exact hc ⟨_,_,_,rfl⟩
  have he:Sem.run T.v (.getObj b c) v=(c o).run T.v v:=by
   simp only[Sem.run,g1];split
   ·rename_i heq;cases heq;exact absurd ⟨_,_,_,rfl⟩ hc
   ·rename_i heq;cases heq;rfl
   rename_i heq;cases heq
  have he': ∀es,Sem.runT T.P (.getObj b' c') w es=(c' o').runT T.P w (es.push ⟨.obj b',false,o'.isChan⟩):=λes=>by
   simp only[Sem.runT,g2]
   all_goals
    split
    ·rename_i heq;cases heq;exact absurd rfl (hc' _ _ _)
    ·rename_i heq;cases heq;rfl
    rename_i heq;cases heq
  rw[he];obtain⟨i1,i2⟩:=ih o (h.2 o o' ho) hW;refine⟨i1,λht=>Out.step hW (Stp.events (u:=#[⟨.obj b',false,o'.isChan⟩]) hW ?_) (λes=>?_) (i2 ht)⟩;intro e he;simp only[Bv,Ad] at he;subst he;exact⟨⟨_,h.1⟩,AY⟩;rw[he'];simp
 |setObj b o c ih=>
  (intro ρ s' h v w hW;cases s'<;>simp only[DN] at h);rename_i b' o₂ c';obtain⟨hb,ho,hch,hnc,hk⟩:=h;obtain⟨p,p',g1,g2,hp⟩:=hW.obj _ _ hb;(have hch':o₂.isChan=false:=by cases ho<;>simp_all [Obj.isChan]);by_cases hc: ∃q t f,p=.cells q t f
  ·obtain⟨q,t,f,rfl⟩:=hc;(have he:Sem.run T.v (.setObj b o c) v=.halt (.stuck "setObj: a row of cells") v:=by simp only[Sem.run,g1]);rw[he];exact⟨AP _,λ_=>trivial⟩
  have hc': ∀q t f,p'≠ .cells q t f:=by
   rintro q t f rfl;(cases hp);exact hc ⟨_,_,_,rfl⟩
  have he:Sem.run T.v (.setObj b o c) v=c.run T.v {v with heap:=v.heap.setIfInBounds b o}:=by
   simp only[Sem.run,g1];split
   ·rename_i heq;cases heq;exact absurd ⟨_,_,_,rfl⟩ hc
   rfl;rename_i heq;cases heq
  have he': ∀es,Sem.runT T.P (.setObj b' o₂ c') w es=c'.runT T.P {w with heap:=w.heap.setIfInBounds b' o₂} (es.push ⟨.obj b',true,o₂.isChan⟩):=λes=>by
   simp only[Sem.runT,g2]
   all_goals
    split
    ·rename_i heq;cases heq;exact absurd rfl (hc' _ _ _)
    rfl;rename_i heq;cases heq
  rw[he]
  have hst:Stp F N ρ ρ v w {v with heap:=v.heap.setIfInBounds b o} {w with heap:=w.heap.setIfInBounds b' o₂} #[⟨.obj b',true,o₂.isChan⟩]:=
   Stp.put hW hb ho rfl rfl (by intro e he;simp only[Bv,Ad] at he;subst he;exact⟨⟨_,hb⟩,by simp[hch']⟩)
  obtain⟨i1,i2⟩:=ih hk hst.rel;exact⟨i1,λht=>Out.step hW hst (λes=>by rw[he'];simp) (i2 ht)⟩
 |choose q c ih=>
  (intro ρ s' h v w hW;cases s'<;>simp only[DN] at h);rename_i q' c';obtain⟨rfl,hk⟩:=h
  cases hq:q'.forced with
  |true=>
   (have he:Sem.run T.v (.choose q' c) v=(c 0).run T.v v:=by simp only[Sem.run,hq,if_true]);rw[he];obtain⟨i1,i2⟩:=ih 0 (hk 0) hW;exact⟨i1,λht=>Out.step hW (.refl hW) (λes=>by simp[Sem.runT,hq]) (i2 ht)⟩
  |false=>
   (have he:Sem.run T.v (.choose q' c) v=(c (q'.cut (v.tape v.drawn q'))).run T.v {v with drawn:=v.drawn+1}:=by simp[Sem.run,hq]);rw[he];have hst:=Stp.draw hW;obtain⟨i1,i2⟩:=ih (q'.cut (v.tape v.drawn q')) (hk _) hst.rel;have i1':v.drawn+1<=(KO ((c (q'.cut (v.tape v.drawn q'))).run T.v {v with drawn:=v.drawn+1})).drawn:=i1;refine⟨Ac,λht=>?_⟩;have e0:v.tape v.drawn q'=w.tape w.drawn q':=ht 0 Ac q';refine Out.step hW hst (f':=λes=>(c' (q'.cut (v.tape v.drawn q'))).runT T.P {w with drawn:=w.drawn+1} es) (λes=>by simp[Sem.runT,hq,e0]) (i2 λi hi q=>?_);have:=ht (i+1) (by simp only at hi;omega) q;simp only;rw[Fj,LK 1 i,Fj,LK 1 i];exact this
 |sys c k ih=>
  intro ρ s' h v w hW;(cases c<;>try exact h.elim);(cases s'<;>try exact h.elim);rename_i c₂ k₂;(cases c₂<;>try exact h.elim);(have he:Sem.run T.v (.sys .env k) v=(k (.strings v.os.env)).run T.v v:=by simp only[Sem.run,yc]);rw[he];obtain⟨i1,i2⟩:=ih (.strings v.os.env) (h _) hW;refine⟨i1,λht=>Out.step hW (Stp.events (u:=#[⟨.output,true,false⟩]) hW ?_) (λes=>?_) (i2 ht)⟩;intro e he;simp only[Bv,Ad] at he;subst he;trivial;simp only[Sem.runT,yc,hW.os];simp
 |program c ih=>
  intro ρ s' h v w hW;rcases h with h|h;exact UA (s:=.program c) h;(cases s'<;>simp only at h);rename_i c';obtain⟨i1,i2⟩:=ih T.v h hW;exact⟨i1,λht=>Out.step hW (.refl hW) (λes=>by simp[Sem.runT]) (i2 ht)⟩
 |mark m c ih=>
  intro ρ s' h v w hW;rcases h with h|h;exact UA (s:=.mark m c) h;(cases s'<;>simp only at h);rename_i m' c';obtain⟨rfl,hm,hk⟩:=h;obtain⟨i1,i2⟩:=ih hk hW;refine⟨i1,λht=>Out.step hW (Stp.events (u:=#[⟨.mark m',false,true⟩]) hW ?_) (λes=>by simp[Sem.runT]) (i2 ht)⟩;intro e he;simp only[Bv,Ad] at he;subst he;exact hm
 |halt x=>
  intro ρ s' h v w hW;cases x<;>simp only[DN,jX] at h
  case panic x=>
   rcases h with h|⟨x',rfl,hx⟩;exact⟨AP _,λ_=>.inl h⟩;exact⟨AP _,λ_=>.inr ⟨ρ,x',w,#[],λes=>by simp[Sem.runT],hx,.refl hW⟩⟩
  all_goals exact⟨AP _,λ_=>h⟩
end
end Go.Proofs.YtkkgcebhfghdnaaGreatDoor
